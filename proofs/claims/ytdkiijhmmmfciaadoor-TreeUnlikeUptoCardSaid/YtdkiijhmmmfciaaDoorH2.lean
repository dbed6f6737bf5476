/- The code computes the functions. Printed by tr.py. -/
import Derived.Test.YtdkiijhmmmfciaaDoorG0
import Derived.Test.YtdkiijhmmmfciaaDoorG1
import Derived.Test.YtdkiijhmmmfciaaDoorH1
set_option linter.unusedVariables false
set_option linter.unusedSimpArgs false
namespace Go.Proofs.YtdkiijhmmmfciaaDoor
open Go
set_option maxRecDepth 20000 in
set_option maxHeartbeats 4000000 in
theorem tree_rank_fn : ∀ k : Nat, ∀ (e : GExpr) (r : Int) (h : tree_rank k e = some r), PFn Tryd.prog 56 [.agg (GExpr.cells e)] (.int .i64 r) := by
  intro k
  intro e r h
  rw [tree_rank] at h
  refine AFn.of Tryd.func56 rfl (Nat.le_of_ble_eq_true rfl) ?_
  refine ac_seq ?_
  refine ac_region rfl ?_
  refine rbox rfl rfl rfl rfl rfl fun b1 => ?_
  refine rq (u := .int .i64 0) rfl rfl rfl (p_assign rfl) rfl ?_
  refine .done rfl ?_
  refine ac_seq ?_
  refine ac_seq ?_
  refine ac_region rfl ?_
  refine rq (u := .ptr b1 0) rfl rfl rfl (p_field_ptr fl_33_0 rfl rfl) rfl ?_
  refine rq (u := .int .i64 e.Kind) rfl rfl rfl (p_load_ptr ti_3 (fun _ => rfl) rfl rfl (.head _) (Nat.le_of_ble_eq_true rfl)) rfl ?_
  refine .done rfl ?_
  refine ac_block ?_
  refine ac_seq ?_
  refine ac_region rfl ?_
  refine rq (u := .bool (e.Kind == 4)) rfl rfl rfl (p_eql rfl rfl rfl) rfl ?_
  refine rq (u := .bool (e.Kind == 4)) rfl rfl rfl (p_assign rfl) rfl ?_
  refine .done rfl ?_
  refine ac_cond rfl rfl (fun hc2 => ?_) (fun hc2 => ?_)
  · replace h := cond_t hc2 h
    refine ac_seq ?_
    refine ac_region rfl ?_
    refine rq (u := .int .i64 2) rfl rfl rfl (p_assign rfl) rfl ?_
    refine .done rfl ?_
    refine ac_ret ?_
    show Fin _ _ _ _ _ _ _
    exact fin_ret (Nat.le_of_ble_eq_true rfl) rfl (by obtain rfl := Option.some.inj h; rfl)
  · replace h := cond_f hc2 h
    refine ac_seq ?_
    refine ac_region rfl ?_
    refine rq (u := .bool (e.Kind == 3)) rfl rfl rfl (p_eql rfl rfl rfl) rfl ?_
    refine rq (u := .bool (e.Kind == 3)) rfl rfl rfl (p_assign rfl) rfl ?_
    refine .done rfl ?_
    refine ac_cond rfl rfl (fun hc1 => ?_) (fun hc1 => ?_)
    · replace h := cond_t hc1 h
      refine ac_seq ?_
      refine ac_region rfl ?_
      refine rq (u := .int .i64 1) rfl rfl rfl (p_assign rfl) rfl ?_
      refine .done rfl ?_
      refine ac_ret ?_
      show Fin _ _ _ _ _ _ _
      exact fin_ret (Nat.le_of_ble_eq_true rfl) rfl (by obtain rfl := Option.some.inj h; rfl)
    · replace h := cond_f hc1 h
      refine ac_skip ?_
      refine ac_seq ?_
      refine ac_region rfl ?_
      refine rq (u := .int .i64 0) rfl rfl rfl (p_assign rfl) rfl ?_
      refine .done rfl ?_
      refine ac_ret ?_
      show Fin _ _ _ _ _ _ _
      exact fin_ret (Nat.le_of_ble_eq_true rfl) rfl (by obtain rfl := Option.some.inj h; rfl)

set_option maxRecDepth 20000 in
set_option maxHeartbeats 4000000 in
theorem tree_writer_under_fn (self_tree_writer_expr : ByteArray → GExpr → Option ByteArray) (ih_tree_writer_expr : ∀ (w_0 : ByteArray) (bp_w_0 : Nat) (re_w_0 : Res) (hw_w_0 : WB 51 5 bp_w_0 w_0 re_w_0) (e : GExpr) (r : ByteArray) (h : self_tree_writer_expr w_0 e = some r), AFn Tryd.prog 36 [.ptr bp_w_0 0, .agg (GExpr.cells e)] re_w_0 fun y s' => ∃ z : Res, WB 51 5 bp_w_0 r z ∧ y = .ret (.tuple []) ∧ s' = z) : ∀ k : Nat, ∀ (w_0 : ByteArray) (bp_w_0 : Nat) (re_w_0 : Res) (hw_w_0 : WB 51 5 bp_w_0 w_0 re_w_0) (e : GExpr) (loose : Int) (r : ByteArray) (h : tree_writer_under self_tree_writer_expr k w_0 e loose = some r), AFn Tryd.prog 55 [.ptr bp_w_0 0, .agg (GExpr.cells e), .int .i64 loose] re_w_0 fun y s' => ∃ z : Res, WB 51 5 bp_w_0 r z ∧ y = .ret (.tuple []) ∧ s' = z := by
  intro k
  intro w_0 bp_w_0 re_w_0 hw_w_0 e loose r h
  rw [tree_writer_under] at h
  refine AFn.shedX ?_
  refine AFn.of Tryd.func55 rfl (Nat.le_of_ble_eq_true rfl) ?_
  refine ac_seq ?_
  refine ac_region rfl ?_
  refine rbox rfl rfl rfl rfl rfl fun b1 => ?_
  refine .done rfl ?_
  refine ac_seq ?_
  refine ac_seq ?_
  refine ac_region rfl ?_
  refine rq (u := .agg (GExpr.cells e)) rfl rfl rfl (p_load_ptr ti_33 nofun rfl rfl (.head _) (Nat.le_of_ble_eq_true rfl)) rfl ?_
  obtain ⟨v1, hv1, h⟩ := bnd_some h
  refine rq (u := .int .i64 v1) rfl rfl rfl (p_pfnL en_56 (tree_rank_fn k e v1 hv1) rfl rfl (TVles.refl _)) rfl ?_
  refine rq (u := .int .i64 loose) rfl rfl rfl (p_move rfl) rfl ?_
  refine rq (u := .bool (decide (v1 < loose))) rfl rfl rfl (p_lss rfl rfl rfl) rfl ?_
  refine .done rfl ?_
  refine ac_cond rfl rfl (fun hc10 => ?_) (fun hc10 => ?_)
  · replace h := cond_t hc10 h
    refine ac_seq ?_
    refine ac_region rfl ?_
    refine rq (u := .ptr bp_w_0 0) rfl rfl rfl (p_move rfl) rfl ?_
    refine rq (u := .agg (GExpr.cells e)) rfl rfl rfl (p_load_ptr ti_33 nofun rfl rfl (.head _) (Nat.le_of_ble_eq_true rfl)) rfl ?_
    obtain ⟨v3, hv3, h⟩ := bnd_some h
    refine ra rfl rfl (a_callY en_36 (ih_tree_writer_expr w_0 bp_w_0 re_w_0 hw_w_0 e v3 hv3) rfl rfl (TVles.refl _) (fun rew2 => ([(b1, RS.box [.int .i64 e.Kind, .int .i64 e.Field, .slice .ro 2 (e.Ranges.map GRange.enc), encF e.Low, encF e.High, .slice .ro 6 (e.Of.map GExpr.enc)])] ++ rew2)) [(b1, RS.box [.int .i64 e.Kind, .int .i64 e.Field, .slice .ro 2 (e.Ranges.map GRange.enc), encF e.Low, encF e.High, .slice .ro 6 (e.Of.map GExpr.enc)])] [] (fun _ => by simp) rfl) ?_
    rintro E' s' ⟨rew2, hw2, rfl, hs'⟩
    rw [hs']
    show AReg _ _ _ _ _ _ ((12, .tuple []) :: _) ([(b1, RS.box [.int .i64 e.Kind, .int .i64 e.Field, .slice .ro 2 (e.Ranges.map GRange.enc), encF e.Low, encF e.High, .slice .ro 6 (e.Of.map GExpr.enc)])] ++ rew2)
    refine .done rfl ?_
    refine ac_ret ?_
    show Fin _ _ _ _ _ _ _
    exact fin_ret0 ⟨rew2, (by obtain rfl := Option.some.inj h; exact hw2), (by obtain rfl := Option.some.inj h; rfl), (ResLe.sub (by simp))⟩
  · replace h := cond_f hc10 h
    refine ac_skip ?_
    refine ac_seq ?_
    refine ac_region rfl ?_
    refine rq (u := .ptr bp_w_0 0) rfl rfl rfl (p_move rfl) rfl ?_
    refine rq (u := .ptr bp_w_0 0) rfl rfl rfl (p_nilCheck_ptr rfl rfl) rfl ?_
    refine rq (u := .ptr bp_w_0 0) rfl rfl rfl (p_field_ptr fl_51_0 rfl rfl) rfl ?_
    obtain ⟨v5, hv5, h⟩ := bnd_some h
    refine ra rfl rfl (a_callY en_35 (ws_call bp_w_0 w_0 (⟨#[40]⟩ : ByteArray) v5 hv5 re_w_0 hw_w_0) rfl rfl (TVles.refl _) (fun rew4 => ([(b1, RS.box [.int .i64 e.Kind, .int .i64 e.Field, .slice .ro 2 (e.Ranges.map GRange.enc), encF e.Low, encF e.High, .slice .ro 6 (e.Of.map GExpr.enc)])] ++ rew4)) [(b1, RS.box [.int .i64 e.Kind, .int .i64 e.Field, .slice .ro 2 (e.Ranges.map GRange.enc), encF e.Low, encF e.High, .slice .ro 6 (e.Of.map GExpr.enc)])] [] (fun _ => by simp) rfl) ?_
    rintro E' s' ⟨rew4, hw4, rfl, hs'⟩
    rw [hs']
    show AReg _ _ _ _ _ _ ((16, .tuple [.int .i64 ((⟨#[40]⟩ : ByteArray).size : Int), .nili]) :: _) ([(b1, RS.box [.int .i64 e.Kind, .int .i64 e.Field, .slice .ro 2 (e.Ranges.map GRange.enc), encF e.Low, encF e.High, .slice .ro 6 (e.Of.map GExpr.enc)])] ++ rew4)
    refine .done rfl ?_
    refine ac_seq ?_
    refine ac_region rfl ?_
    refine rq (u := .ptr bp_w_0 0) rfl rfl rfl (p_move rfl) rfl ?_
    refine rq (u := .agg (GExpr.cells e)) rfl rfl rfl (p_load_ptr ti_33 nofun rfl rfl (.head _) (Nat.le_of_ble_eq_true rfl)) rfl ?_
    obtain ⟨v7, hv7, h⟩ := bnd_some h
    refine ra rfl rfl (a_callY en_36 (ih_tree_writer_expr v5 bp_w_0 rew4 hw4 e v7 hv7) rfl rfl (TVles.refl _) (fun rew6 => ([(b1, RS.box [.int .i64 e.Kind, .int .i64 e.Field, .slice .ro 2 (e.Ranges.map GRange.enc), encF e.Low, encF e.High, .slice .ro 6 (e.Of.map GExpr.enc)])] ++ rew6)) [(b1, RS.box [.int .i64 e.Kind, .int .i64 e.Field, .slice .ro 2 (e.Ranges.map GRange.enc), encF e.Low, encF e.High, .slice .ro 6 (e.Of.map GExpr.enc)])] [] (fun _ => by simp) rfl) ?_
    rintro E' s' ⟨rew6, hw6, rfl, hs'⟩
    rw [hs']
    show AReg _ _ _ _ _ _ ((19, .tuple []) :: _) ([(b1, RS.box [.int .i64 e.Kind, .int .i64 e.Field, .slice .ro 2 (e.Ranges.map GRange.enc), encF e.Low, encF e.High, .slice .ro 6 (e.Of.map GExpr.enc)])] ++ rew6)
    refine .done rfl ?_
    refine ac_region rfl ?_
    refine rq (u := .ptr bp_w_0 0) rfl rfl rfl (p_move rfl) rfl ?_
    refine rq (u := .ptr bp_w_0 0) rfl rfl rfl (p_nilCheck_ptr rfl rfl) rfl ?_
    refine rq (u := .ptr bp_w_0 0) rfl rfl rfl (p_field_ptr fl_51_0 rfl rfl) rfl ?_
    obtain ⟨v9, hv9, h⟩ := bnd_some h
    refine ra rfl rfl (a_callY en_35 (ws_call bp_w_0 v7 (⟨#[41]⟩ : ByteArray) v9 hv9 rew6 hw6) rfl rfl (TVles.refl _) (fun rew8 => ([(b1, RS.box [.int .i64 e.Kind, .int .i64 e.Field, .slice .ro 2 (e.Ranges.map GRange.enc), encF e.Low, encF e.High, .slice .ro 6 (e.Of.map GExpr.enc)])] ++ rew8)) [(b1, RS.box [.int .i64 e.Kind, .int .i64 e.Field, .slice .ro 2 (e.Ranges.map GRange.enc), encF e.Low, encF e.High, .slice .ro 6 (e.Of.map GExpr.enc)])] [] (fun _ => by simp) rfl) ?_
    rintro E' s' ⟨rew8, hw8, rfl, hs'⟩
    rw [hs']
    show AReg _ _ _ _ _ _ ((23, .tuple [.int .i64 ((⟨#[41]⟩ : ByteArray).size : Int), .nili]) :: _) ([(b1, RS.box [.int .i64 e.Kind, .int .i64 e.Field, .slice .ro 2 (e.Ranges.map GRange.enc), encF e.Low, encF e.High, .slice .ro 6 (e.Of.map GExpr.enc)])] ++ rew8)
    refine .done rfl ?_
    show Fin _ _ _ _ _ _ _
    exact fin_end0 ⟨rew8, (by obtain rfl := Option.some.inj h; exact hw8), (by obtain rfl := Option.some.inj h; rfl), (ResLe.sub (by simp))⟩

set_option maxRecDepth 20000 in
set_option maxHeartbeats 4000000 in
theorem tree_writer_expr_fn : ∀ k : Nat, ∀ (w_0 : ByteArray) (bp_w_0 : Nat) (re_w_0 : Res) (hw_w_0 : WB 51 5 bp_w_0 w_0 re_w_0) (e : GExpr) (r : ByteArray) (h : tree_writer_expr k w_0 e = some r), AFn Tryd.prog 36 [.ptr bp_w_0 0, .agg (GExpr.cells e)] re_w_0 fun y s' => ∃ z : Res, WB 51 5 bp_w_0 r z ∧ y = .ret (.tuple []) ∧ s' = z := by
  intro k
  induction k with
  | zero => intro w_0 bp_w_0 re_w_0 hw_w_0 e r h; rw [tree_writer_expr] at h; cases h
  | succ k ih_tree_writer_expr =>
    intro w_0 bp_w_0 re_w_0 hw_w_0 e r h
    rw [tree_writer_expr] at h
    refine AFn.shedX ?_
    refine AFn.of Tryd.func36 rfl (Nat.le_of_ble_eq_true rfl) ?_
    refine ac_seq ?_
    refine ac_region rfl ?_
    refine rbox rfl rfl rfl rfl rfl fun b1 => ?_
    refine .done rfl ?_
    refine ac_seq ?_
    refine ac_region rfl ?_
    refine rq (u := .ptr b1 0) rfl rfl rfl (p_field_ptr fl_33_0 rfl rfl) rfl ?_
    refine rq (u := .int .i64 e.Kind) rfl rfl rfl (p_load_ptr ti_3 (fun _ => rfl) rfl rfl (.head _) (Nat.le_of_ble_eq_true rfl)) rfl ?_
    refine .done rfl ?_
    refine ac_block ?_
    refine ac_seq ?_
    refine ac_region rfl ?_
    refine rq (u := .bool (e.Kind == 1)) rfl rfl rfl (p_eql rfl rfl rfl) rfl ?_
    refine rq (u := .bool (e.Kind == 1)) rfl rfl rfl (p_assign rfl) rfl ?_
    refine .done rfl ?_
    refine ac_cond rfl rfl (fun hc29 => ?_) (fun hc29 => ?_)
    · replace h := cond_t hc29 h
      refine ac_region rfl ?_
      refine rq (u := .ptr bp_w_0 0) rfl rfl rfl (p_move rfl) rfl ?_
      refine rq (u := .agg (GExpr.cells e)) rfl rfl rfl (p_load_ptr ti_33 nofun rfl rfl (.head _) (Nat.le_of_ble_eq_true rfl)) rfl ?_
      obtain ⟨v2, hv2, h⟩ := bnd_some h
      refine ra rfl rfl (a_callY en_54 (tree_writer_atom_fn k w_0 bp_w_0 re_w_0 hw_w_0 e v2 hv2) rfl rfl (TVles.refl _) (fun rew1 => ([(b1, RS.box [.int .i64 e.Kind, .int .i64 e.Field, .slice .ro 2 (e.Ranges.map GRange.enc), encF e.Low, encF e.High, .slice .ro 6 (e.Of.map GExpr.enc)])] ++ rew1)) [(b1, RS.box [.int .i64 e.Kind, .int .i64 e.Field, .slice .ro 2 (e.Ranges.map GRange.enc), encF e.Low, encF e.High, .slice .ro 6 (e.Of.map GExpr.enc)])] [] (fun _ => by simp) rfl) ?_
      rintro E' s' ⟨rew1, hw1, rfl, hs'⟩
      rw [hs']
      show AReg _ _ _ _ _ _ ((38, .tuple []) :: _) ([(b1, RS.box [.int .i64 e.Kind, .int .i64 e.Field, .slice .ro 2 (e.Ranges.map GRange.enc), encF e.Low, encF e.High, .slice .ro 6 (e.Of.map GExpr.enc)])] ++ rew1)
      refine .done rfl ?_
      show Fin _ _ _ _ _ _ _
      exact fin_end0 ⟨rew1, (by obtain rfl := Option.some.inj h; exact hw1), (by obtain rfl := Option.some.inj h; rfl), (ResLe.sub (by simp))⟩
    · replace h := cond_f hc29 h
      refine ac_seq ?_
      refine ac_region rfl ?_
      refine rq (u := .bool (e.Kind == 2)) rfl rfl rfl (p_eql rfl rfl rfl) rfl ?_
      refine rq (u := .bool (e.Kind == 2)) rfl rfl rfl (p_assign rfl) rfl ?_
      refine .done rfl ?_
      refine ac_cond rfl rfl (fun hc28 => ?_) (fun hc28 => ?_)
      · replace h := cond_t hc28 h
        refine ac_seq ?_
        refine ac_region rfl ?_
        refine rq (u := .ptr bp_w_0 0) rfl rfl rfl (p_move rfl) rfl ?_
        refine rq (u := .ptr bp_w_0 0) rfl rfl rfl (p_nilCheck_ptr rfl rfl) rfl ?_
        refine rq (u := .ptr bp_w_0 0) rfl rfl rfl (p_field_ptr fl_51_0 rfl rfl) rfl ?_
        obtain ⟨v4, hv4, h⟩ := bnd_some h
        refine ra rfl rfl (a_callY en_35 (ws_call bp_w_0 w_0 (⟨#[110, 111, 116, 32]⟩ : ByteArray) v4 hv4 re_w_0 hw_w_0) rfl rfl (TVles.refl _) (fun rew3 => ([(b1, RS.box [.int .i64 e.Kind, .int .i64 e.Field, .slice .ro 2 (e.Ranges.map GRange.enc), encF e.Low, encF e.High, .slice .ro 6 (e.Of.map GExpr.enc)])] ++ rew3)) [(b1, RS.box [.int .i64 e.Kind, .int .i64 e.Field, .slice .ro 2 (e.Ranges.map GRange.enc), encF e.Low, encF e.High, .slice .ro 6 (e.Of.map GExpr.enc)])] [] (fun _ => by simp) rfl) ?_
        rintro E' s' ⟨rew3, hw3, rfl, hs'⟩
        rw [hs']
        show AReg _ _ _ _ _ _ ((44, .tuple [.int .i64 ((⟨#[110, 111, 116, 32]⟩ : ByteArray).size : Int), .nili]) :: _) ([(b1, RS.box [.int .i64 e.Kind, .int .i64 e.Field, .slice .ro 2 (e.Ranges.map GRange.enc), encF e.Low, encF e.High, .slice .ro 6 (e.Of.map GExpr.enc)])] ++ rew3)
        refine .done rfl ?_
        refine ac_region rfl ?_
        refine rq (u := .ptr bp_w_0 0) rfl rfl rfl (p_move rfl) rfl ?_
        refine rq (u := .ptr b1 5) rfl rfl rfl (p_field_ptr fl_33_5 rfl rfl) rfl ?_
        refine rq (u := .slice .ro 6 (e.Of.map GExpr.enc)) rfl rfl rfl (p_load_ptr ti_28 (fun _ => rfl) rfl rfl (.head _) (Nat.le_of_ble_eq_true rfl)) rfl ?_
        obtain ⟨v5, hv5, h⟩ := bnd_some h
        refine rq (u := .rptr [.int .i64 v5.Kind, .int .i64 v5.Field, .slice .ro 2 (v5.Ranges.map GRange.enc), encF v5.Low, encF v5.High, .slice .ro 6 (v5.Of.map GExpr.enc)]) rfl rfl rfl (p_ix GExpr.enc_eq sl_28 hv5 rfl rfl rfl) rfl ?_
        refine rq (u := .agg (GExpr.cells v5)) rfl rfl rfl (p_load_rptr ti_33 nofun rfl rfl (Nat.le_of_ble_eq_true rfl)) rfl ?_
        obtain ⟨v7, hv7, h⟩ := bnd_some h
        refine ra rfl rfl (a_callY en_55 (tree_writer_under_fn (tree_writer_expr k) ih_tree_writer_expr k v4 bp_w_0 rew3 hw3 v5 1 v7 hv7) rfl rfl (TVles.refl _) (fun rew6 => ([(b1, RS.box [.int .i64 e.Kind, .int .i64 e.Field, .slice .ro 2 (e.Ranges.map GRange.enc), encF e.Low, encF e.High, .slice .ro 6 (e.Of.map GExpr.enc)])] ++ rew6)) [(b1, RS.box [.int .i64 e.Kind, .int .i64 e.Field, .slice .ro 2 (e.Ranges.map GRange.enc), encF e.Low, encF e.High, .slice .ro 6 (e.Of.map GExpr.enc)])] [] (fun _ => by simp) rfl) ?_
        rintro E' s' ⟨rew6, hw6, rfl, hs'⟩
        rw [hs']
        show AReg _ _ _ _ _ _ ((50, .tuple []) :: _) ([(b1, RS.box [.int .i64 e.Kind, .int .i64 e.Field, .slice .ro 2 (e.Ranges.map GRange.enc), encF e.Low, encF e.High, .slice .ro 6 (e.Of.map GExpr.enc)])] ++ rew6)
        refine .done rfl ?_
        show Fin _ _ _ _ _ _ _
        exact fin_end0 ⟨rew6, (by obtain rfl := Option.some.inj h; exact hw6), (by obtain rfl := Option.some.inj h; rfl), (ResLe.sub (by simp))⟩
      · replace h := cond_f hc28 h
        refine ac_seq ?_
        refine ac_region rfl ?_
        refine rq (u := .agg [.str (⟨#[]⟩ : ByteArray), .str (⟨#[32, 97, 110, 100, 32]⟩ : ByteArray), .str (⟨#[32, 111, 114, 32]⟩ : ByteArray)]) rfl rfl rfl (p_buildA (cs := [.str (⟨#[]⟩ : ByteArray), .str (⟨#[32, 97, 110, 100, 32]⟩ : ByteArray), .str (⟨#[32, 111, 114, 32]⟩ : ByteArray)]) zf_84 rfl rfl rfl nofun arr_84 rfl rfl) rfl ?_
        refine rq (u := .agg (GExpr.cells e)) rfl rfl rfl (p_load_ptr ti_33 nofun rfl rfl (.head _) (Nat.le_of_ble_eq_true rfl)) rfl ?_
        obtain ⟨v8, hv8, h⟩ := bnd_some h
        refine rq (u := .int .i64 v8) rfl rfl rfl (p_pfnL en_56 (tree_rank_fn k e v8 hv8) rfl rfl (TVles.refl _)) rfl ?_
        obtain ⟨v9, hv9, h⟩ := bnd_some h
        refine rq (u := .str v9) rfl rfl rfl (p_indexA (f := TV.str) (l := ([(⟨#[]⟩ : ByteArray), (⟨#[32, 97, 110, 100, 32]⟩ : ByteArray), (⟨#[32, 111, 114, 32]⟩ : ByteArray)] : List ByteArray)) (fun _ => rfl) arr_84 ti_9 hv9 rfl rfl rfl rfl) rfl ?_
        refine rq (u := .str v9) rfl rfl rfl (p_assign rfl) rfl ?_
        refine .done rfl ?_
        refine ac_seq ?_
        refine ac_region rfl ?_
        refine rq (u := .ptr b1 5) rfl rfl rfl (p_field_ptr fl_33_5 rfl rfl) rfl ?_
        refine rq (u := .slice .ro 6 (e.Of.map GExpr.enc)) rfl rfl rfl (p_load_ptr ti_28 (fun _ => rfl) rfl rfl (.head _) (Nat.le_of_ble_eq_true rfl)) rfl ?_
        refine rq (u := .int .i64 (e.Of.length : Int)) rfl rfl rfl (p_lenm is_28 rfl rfl) rfl ?_
        refine rq (u := .int .i64 0) rfl rfl rfl (p_move rfl) rfl ?_
        refine .done rfl ?_
        refine ac_block ?_
        refine ac_turns (σ := Nat × Int × ByteArray × Res) (fun (⟨m13, x10, x11, rew12⟩ : Nat × Int × ByteArray × Res) => [(0, .ptr bp_w_0 0), (1, .agg (GExpr.cells e)), (3, .ptr b1 0), (4, .str v9), (7, .ptr b1 0), (8, .int .i64 e.Kind), (9, .agg [.str (⟨#[]⟩ : ByteArray), .str (⟨#[32, 97, 110, 100, 32]⟩ : ByteArray), .str (⟨#[32, 111, 114, 32]⟩ : ByteArray)]), (10, .agg (GExpr.cells e)), (11, .int .i64 v8), (12, .str v9), (13, .ptr b1 5), (14, .slice .ro 6 (e.Of.map GExpr.enc)), (15, .int .i64 (e.Of.length : Int)), (16, .int .i64 x10), (34, .bool (e.Kind == 1)), (35, .bool (e.Kind == 1)), (39, .bool (e.Kind == 2)), (40, .bool (e.Kind == 2))]) (fun (⟨m13, x10, x11, rew12⟩ : Nat × Int × ByteArray × Res) => ([(b1, RS.box [.int .i64 e.Kind, .int .i64 e.Field, .slice .ro 2 (e.Ranges.map GRange.enc), encF e.Low, encF e.High, .slice .ro 6 (e.Of.map GExpr.enc)])] ++ rew12)) (fun x => x.1) (fun (⟨m13, x10, x11, rew12⟩ : Nat × Int × ByteArray × Res) => tree_writer_expr_L0 k (tree_writer_expr k) e v9 (fun x25 x26 => some x26) m13 x10 x11 = some r ∧ WB 51 5 bp_w_0 x11 rew12) ⟨k, 0, w_0, re_w_0⟩ ⟨h, hw_w_0⟩ ⟨TVle.refl _, TVle.refl _, TVle.refl _, TVle.refl _, TVle.refl _, TVle.refl _, TVle.refl _, TVle.refl _, TVle.refl _, TVle.refl _, TVle.refl _, TVle.refl _, TVle.refl _, TVle.refl _, TVle.refl _, TVle.refl _, TVle.refl _, TVle.refl _, trivial⟩ (ResLe.refl _) ?_
        rintro ⟨m13, x10, x11, rew12⟩ ⟨h, hw12⟩
        replace h : tree_writer_expr_L0 k (tree_writer_expr k) e v9 (fun x25 x26 => some x26) m13 x10 x11 = some r := h
        show ACode _ _ _ [(0, .ptr bp_w_0 0), (1, .agg (GExpr.cells e)), (3, .ptr b1 0), (4, .str v9), (7, .ptr b1 0), (8, .int .i64 e.Kind), (9, .agg [.str (⟨#[]⟩ : ByteArray), .str (⟨#[32, 97, 110, 100, 32]⟩ : ByteArray), .str (⟨#[32, 111, 114, 32]⟩ : ByteArray)]), (10, .agg (GExpr.cells e)), (11, .int .i64 v8), (12, .str v9), (13, .ptr b1 5), (14, .slice .ro 6 (e.Of.map GExpr.enc)), (15, .int .i64 (e.Of.length : Int)), (16, .int .i64 x10), (34, .bool (e.Kind == 1)), (35, .bool (e.Kind == 1)), (39, .bool (e.Kind == 2)), (40, .bool (e.Kind == 2))] ([(b1, RS.box [.int .i64 e.Kind, .int .i64 e.Field, .slice .ro 2 (e.Ranges.map GRange.enc), encF e.Low, encF e.High, .slice .ro 6 (e.Of.map GExpr.enc)])] ++ rew12) _
        cases m13 with
        | zero => rw [tree_writer_expr_L0] at h; cases h
        | succ m13 =>
          rw [tree_writer_expr_L0] at h
          refine ac_seq ?_
          refine ac_region rfl ?_
          refine rq (u := .bool (decide (x10 < (e.Of.length : Int)))) rfl rfl rfl (p_lss rfl rfl rfl) rfl ?_
          refine .done rfl ?_
          refine ac_seq ?_
          refine ac_cond rfl rfl (fun hc24 => ?_) (fun hc24 => ?_)
          · replace h := cond_t hc24 h
            refine ac_skip ?_
            refine ac_seq ?_
            refine ac_block ?_
            refine ac_seq ?_
            refine ac_region rfl ?_
            refine rq (u := .int .i64 x10) rfl rfl rfl (p_move rfl) rfl ?_
            obtain ⟨v14, hv14, h⟩ := bnd_some h
            refine rq (u := .rptr [.int .i64 v14.Kind, .int .i64 v14.Field, .slice .ro 2 (v14.Ranges.map GRange.enc), encF v14.Low, encF v14.High, .slice .ro 6 (v14.Of.map GExpr.enc)]) rfl rfl rfl (p_ix GExpr.enc_eq sl_28 hv14 rfl rfl rfl) rfl ?_
            refine rq (u := .agg (GExpr.cells v14)) rfl rfl rfl (p_load_rptr ti_33 nofun rfl rfl (Nat.le_of_ble_eq_true rfl)) rfl ?_
            refine ralloc (cs := [.int .i64 0, .int .i64 0, .slice .full 0 [], encF (some 0), encF (some 0), .slice .full 0 []]) zf_33 rfl rfl rfl rfl rfl rfl rfl nofun fun b2 => ?_
            refine rq (u := .int .i64 x10) rfl rfl rfl (p_assign rfl) rfl ?_
            refine rstore (j := 0) (us := [.int .i64 v14.Kind, .int .i64 v14.Field, .slice .ro 2 (v14.Ranges.map GRange.enc), encF v14.Low, encF v14.High, .slice .ro 6 (v14.Of.map GExpr.enc)]) ti_33 rfl rfl rfl rfl rfl rfl rfl rfl nofun rfl (by simp only [allOne, List.all_cons, List.all_nil, one_fl]; rfl) (Nat.le_of_ble_eq_true rfl) ?_
            refine .done rfl ?_
            refine ac_seq ?_
            refine ac_seq ?_
            refine ac_region rfl ?_
            refine rq (u := .int .i64 x10) rfl rfl rfl (p_move rfl) rfl ?_
            refine rq (u := .bool (decide (0 < x10))) rfl rfl rfl (p_gtr rfl rfl rfl) rfl ?_
            refine .done rfl ?_
            refine ac_cond rfl rfl (fun hc23 => ?_) (fun hc23 => ?_)
            · replace h := cond_t hc23 h
              refine ac_region rfl ?_
              refine rq (u := .ptr bp_w_0 0) rfl rfl rfl (p_move rfl) rfl ?_
              refine rq (u := .ptr bp_w_0 0) rfl rfl rfl (p_nilCheck_ptr rfl rfl) rfl ?_
              refine rq (u := .ptr bp_w_0 0) rfl rfl rfl (p_field_ptr fl_51_0 rfl rfl) rfl ?_
              refine rq (u := .str v9) rfl rfl rfl (p_move rfl) rfl ?_
              obtain ⟨v16, hv16, h⟩ := bnd_some h
              refine ra rfl rfl (a_callY en_35 (ws_call bp_w_0 x11 v9 v16 hv16 rew12 hw12) rfl rfl (TVles.refl _) (fun rew15 => ([(b2, RS.box [.int .i64 v14.Kind, .int .i64 v14.Field, .slice .ro 2 (v14.Ranges.map GRange.enc), encF v14.Low, encF v14.High, .slice .ro 6 (v14.Of.map GExpr.enc)]), (b1, RS.box [.int .i64 e.Kind, .int .i64 e.Field, .slice .ro 2 (e.Ranges.map GRange.enc), encF e.Low, encF e.High, .slice .ro 6 (e.Of.map GExpr.enc)])] ++ rew15)) [(b2, RS.box [.int .i64 v14.Kind, .int .i64 v14.Field, .slice .ro 2 (v14.Ranges.map GRange.enc), encF v14.Low, encF v14.High, .slice .ro 6 (v14.Of.map GExpr.enc)]), (b1, RS.box [.int .i64 e.Kind, .int .i64 e.Field, .slice .ro 2 (e.Ranges.map GRange.enc), encF e.Low, encF e.High, .slice .ro 6 (e.Of.map GExpr.enc)])] [] (fun _ => by simp) rfl) ?_
              rintro E' s' ⟨rew15, hw15, rfl, hs'⟩
              rw [hs']
              show AReg _ _ _ _ _ _ ((27, .tuple [.int .i64 (v9.size : Int), .nili]) :: _) ([(b2, RS.box [.int .i64 v14.Kind, .int .i64 v14.Field, .slice .ro 2 (v14.Ranges.map GRange.enc), encF v14.Low, encF v14.High, .slice .ro 6 (v14.Of.map GExpr.enc)]), (b1, RS.box [.int .i64 e.Kind, .int .i64 e.Field, .slice .ro 2 (e.Ranges.map GRange.enc), encF e.Low, encF e.High, .slice .ro 6 (e.Of.map GExpr.enc)])] ++ rew15)
              refine .done rfl ?_
              refine ac_region_draw mo rfl rfl rfl ?_
              refine rq (u := .ptr bp_w_0 0) rfl rfl rfl (p_move rfl) rfl ?_
              refine rq (u := .agg (GExpr.cells v14)) rfl rfl rfl (p_load_ptr ti_33 nofun rfl rfl (.head _) (Nat.le_of_ble_eq_true rfl)) rfl ?_
              refine rq (u := .agg (GExpr.cells e)) rfl rfl rfl (p_load_ptr ti_33 nofun rfl rfl (.tail _ (.head _)) (Nat.le_of_ble_eq_true rfl)) rfl ?_
              obtain ⟨v17, hv17, h⟩ := bnd_some h
              refine rq (u := .int .i64 v17) rfl rfl rfl (p_pfnL en_56 (tree_rank_fn k e v17 hv17) rfl rfl (TVles.refl _)) rfl ?_
              obtain ⟨v19, hv19, h⟩ := bnd_some h
              refine .tail rfl (Nat.le_of_ble_eq_true rfl) rfl ?_
              refine ra rfl rfl (a_callY en_55 (tree_writer_under_fn (tree_writer_expr k) ih_tree_writer_expr k v16 bp_w_0 rew15 hw15 v14 v17 v19 hv19) rfl rfl (TVles.refl _) (fun rew18 => ([(b2, RS.box [.int .i64 v14.Kind, .int .i64 v14.Field, .slice .ro 2 (v14.Ranges.map GRange.enc), encF v14.Low, encF v14.High, .slice .ro 6 (v14.Of.map GExpr.enc)]), (b1, RS.box [.int .i64 e.Kind, .int .i64 e.Field, .slice .ro 2 (e.Ranges.map GRange.enc), encF e.Low, encF e.High, .slice .ro 6 (e.Of.map GExpr.enc)])] ++ rew18)) [(b2, RS.box [.int .i64 v14.Kind, .int .i64 v14.Field, .slice .ro 2 (v14.Ranges.map GRange.enc), encF v14.Low, encF v14.High, .slice .ro 6 (v14.Of.map GExpr.enc)]), (b1, RS.box [.int .i64 e.Kind, .int .i64 e.Field, .slice .ro 2 (e.Ranges.map GRange.enc), encF e.Low, encF e.High, .slice .ro 6 (e.Of.map GExpr.enc)])] [] (fun _ => by simp) rfl) ?_
              rintro E' s' ⟨rew18, hw18, rfl, hs'⟩
              rw [hs']
              show AReg _ _ _ _ _ _ ((32, .tuple []) :: _) ([(b2, RS.box [.int .i64 v14.Kind, .int .i64 v14.Field, .slice .ro 2 (v14.Ranges.map GRange.enc), encF v14.Low, encF v14.High, .slice .ro 6 (v14.Of.map GExpr.enc)]), (b1, RS.box [.int .i64 e.Kind, .int .i64 e.Field, .slice .ro 2 (e.Ranges.map GRange.enc), encF e.Low, encF e.High, .slice .ro 6 (e.Of.map GExpr.enc)])] ++ rew18)
              refine .done rfl ?_
              refine ac_region rfl ?_
              refine rq (u := .int .i64 (IntKind.wrap .i64 (x10 + 1))) rfl rfl rfl (p_add rfl rfl rfl) rfl ?_
              refine rq (u := .int .i64 (IntKind.wrap .i64 (x10 + 1))) rfl rfl rfl (p_move rfl) rfl ?_
              refine .done rfl ?_
              exact ⟨⟨m13, (IntKind.wrap .i64 (x10 + 1)), v19, rew18⟩, ⟨h, hw18⟩, Nat.lt_succ_self _, ⟨TVle.refl _, TVle.refl _, TVle.refl _, TVle.refl _, TVle.refl _, TVle.refl _, TVle.refl _, TVle.refl _, TVle.refl _, TVle.refl _, TVle.refl _, TVle.refl _, TVle.refl _, TVle.refl _, TVle.refl _, TVle.refl _, TVle.refl _, TVle.refl _, trivial⟩, (ResLe.drop (ResLe.refl _))⟩
            · replace h := cond_f hc23 h
              refine ac_skip ?_
              refine ac_region_draw mo rfl rfl rfl ?_
              refine rq (u := .ptr bp_w_0 0) rfl rfl rfl (p_move rfl) rfl ?_
              refine rq (u := .agg (GExpr.cells v14)) rfl rfl rfl (p_load_ptr ti_33 nofun rfl rfl (.head _) (Nat.le_of_ble_eq_true rfl)) rfl ?_
              refine rq (u := .agg (GExpr.cells e)) rfl rfl rfl (p_load_ptr ti_33 nofun rfl rfl (.tail _ (.head _)) (Nat.le_of_ble_eq_true rfl)) rfl ?_
              obtain ⟨v20, hv20, h⟩ := bnd_some h
              refine rq (u := .int .i64 v20) rfl rfl rfl (p_pfnL en_56 (tree_rank_fn k e v20 hv20) rfl rfl (TVles.refl _)) rfl ?_
              obtain ⟨v22, hv22, h⟩ := bnd_some h
              refine .tail rfl (Nat.le_of_ble_eq_true rfl) rfl ?_
              refine ra rfl rfl (a_callY en_55 (tree_writer_under_fn (tree_writer_expr k) ih_tree_writer_expr k x11 bp_w_0 rew12 hw12 v14 v20 v22 hv22) rfl rfl (TVles.refl _) (fun rew21 => ([(b2, RS.box [.int .i64 v14.Kind, .int .i64 v14.Field, .slice .ro 2 (v14.Ranges.map GRange.enc), encF v14.Low, encF v14.High, .slice .ro 6 (v14.Of.map GExpr.enc)]), (b1, RS.box [.int .i64 e.Kind, .int .i64 e.Field, .slice .ro 2 (e.Ranges.map GRange.enc), encF e.Low, encF e.High, .slice .ro 6 (e.Of.map GExpr.enc)])] ++ rew21)) [(b2, RS.box [.int .i64 v14.Kind, .int .i64 v14.Field, .slice .ro 2 (v14.Ranges.map GRange.enc), encF v14.Low, encF v14.High, .slice .ro 6 (v14.Of.map GExpr.enc)]), (b1, RS.box [.int .i64 e.Kind, .int .i64 e.Field, .slice .ro 2 (e.Ranges.map GRange.enc), encF e.Low, encF e.High, .slice .ro 6 (e.Of.map GExpr.enc)])] [] (fun _ => by simp) rfl) ?_
              rintro E' s' ⟨rew21, hw21, rfl, hs'⟩
              rw [hs']
              show AReg _ _ _ _ _ _ ((32, .tuple []) :: _) ([(b2, RS.box [.int .i64 v14.Kind, .int .i64 v14.Field, .slice .ro 2 (v14.Ranges.map GRange.enc), encF v14.Low, encF v14.High, .slice .ro 6 (v14.Of.map GExpr.enc)]), (b1, RS.box [.int .i64 e.Kind, .int .i64 e.Field, .slice .ro 2 (e.Ranges.map GRange.enc), encF e.Low, encF e.High, .slice .ro 6 (e.Of.map GExpr.enc)])] ++ rew21)
              refine .done rfl ?_
              refine ac_region rfl ?_
              refine rq (u := .int .i64 (IntKind.wrap .i64 (x10 + 1))) rfl rfl rfl (p_add rfl rfl rfl) rfl ?_
              refine rq (u := .int .i64 (IntKind.wrap .i64 (x10 + 1))) rfl rfl rfl (p_move rfl) rfl ?_
              refine .done rfl ?_
              exact ⟨⟨m13, (IntKind.wrap .i64 (x10 + 1)), v22, rew21⟩, ⟨h, hw21⟩, Nat.lt_succ_self _, ⟨TVle.refl _, TVle.refl _, TVle.refl _, TVle.refl _, TVle.refl _, TVle.refl _, TVle.refl _, TVle.refl _, TVle.refl _, TVle.refl _, TVle.refl _, TVle.refl _, TVle.refl _, TVle.refl _, TVle.refl _, TVle.refl _, TVle.refl _, TVle.refl _, trivial⟩, (ResLe.drop (ResLe.refl _))⟩
          · replace h := cond_f hc24 h
            refine ac_exit ?_
            show Fin _ _ _ _ _ _ _
            exact fin_end0 ⟨rew12, (by obtain rfl := Option.some.inj h; exact hw12), (by obtain rfl := Option.some.inj h; rfl), (ResLe.sub (by simp))⟩

set_option maxRecDepth 20000 in
set_option maxHeartbeats 4000000 in
theorem tree_writer_rule_fn : ∀ k : Nat, ∀ (w_0 : ByteArray) (bp_w_0 : Nat) (re_w_0 : Res) (hw_w_0 : WB 51 5 bp_w_0 w_0 re_w_0) (r_1 : GRule) (r : Bool × ByteArray) (h : tree_writer_rule k w_0 r_1 = some r), AFn Tryd.prog 18 [.ptr bp_w_0 0, .agg (GRule.cells r_1)] re_w_0 fun y s' => ∃ z : Res, WB 51 5 bp_w_0 r.2 z ∧ y = .ret (.bool r.1) ∧ s' = z := by
  intro k
  intro w_0 bp_w_0 re_w_0 hw_w_0 r_1 r h
  rw [tree_writer_rule] at h
  refine AFn.shedX ?_
  refine AFn.of Tryd.func18 rfl (Nat.le_of_ble_eq_true rfl) ?_
  refine ac_seq ?_
  refine ac_region rfl ?_
  refine rbox rfl rfl rfl rfl rfl fun b1 => ?_
  refine rq (u := .bool false) rfl rfl rfl (p_assign rfl) rfl ?_
  refine .done rfl ?_
  refine ac_seq ?_
  refine ac_region rfl ?_
  refine rq (u := .ptr b1 7) rfl rfl rfl (p_field_ptr fl_39_2 rfl rfl) rfl ?_
  refine rq (u := .agg (GRate.cells r_1.Rate)) rfl rfl rfl (p_load_ptr ti_37 nofun rfl rfl (.head _) (Nat.le_of_ble_eq_true rfl)) rfl ?_
  refine ralloc (cs := [.int .i64 0, .int .i64 0, .int .i64 0]) zf_37 rfl rfl rfl rfl rfl rfl rfl nofun fun b2 => ?_
  refine rstore (j := 0) (us := [.int .i64 r_1.Rate.Num, .int .i64 r_1.Rate.Per, .int .i64 r_1.Rate.Burst]) ti_37 rfl rfl rfl rfl rfl rfl rfl rfl nofun rfl rfl (Nat.le_of_ble_eq_true rfl) ?_
  refine .done rfl ?_
  refine ac_seq ?_
  refine ac_seq ?_
  refine ac_region rfl ?_
  refine rq (u := .ptr b1 1) rfl rfl rfl (p_field_ptr fl_39_1 rfl rfl) rfl ?_
  refine rq (u := .agg (GExpr.cells r_1.When)) rfl rfl rfl (p_load_ptr ti_33 nofun rfl rfl (.tail _ (.head _)) (Nat.le_of_ble_eq_true rfl)) rfl ?_
  obtain ⟨v1, hv1, h⟩ := bnd_some h
  refine rq (u := .bool v1) rfl rfl rfl (p_pfnL en_16 (tree_Right_fn k r_1.When v1 hv1) rfl rfl (TVles.refl _)) rfl ?_
  refine rq (u := .bool (!v1)) rfl rfl rfl (p_not rfl rfl) rfl ?_
  refine rq (u := .bool (!v1)) rfl rfl rfl (p_move rfl) rfl ?_
  refine rcase 12 rfl (fun hc2 => ?_) (fun hc2 => ?_)
  · replace h := cond_t hc2 h
    refine rskip rfl (guard_at rfl rfl rfl rfl rfl) rfl ?_
    refine rskip rfl (guard_at rfl rfl rfl rfl rfl) rfl ?_
    refine rskip rfl (guard_at rfl rfl rfl rfl rfl) rfl ?_
    refine rskip rfl (guard_at rfl rfl rfl rfl rfl) rfl ?_
    refine rskip rfl (guard_at rfl rfl rfl rfl rfl) rfl ?_
    refine rskip rfl (guard_at rfl rfl rfl rfl rfl) rfl ?_
    refine rskip rfl (guard_at rfl rfl rfl rfl rfl) rfl ?_
    refine rskip rfl (guard_at rfl rfl rfl rfl rfl) rfl ?_
    refine rskip rfl (guard_at rfl rfl rfl rfl rfl) rfl ?_
    refine rq (u := .bool true) rfl rfl rfl (p_pick rfl rfl) rfl ?_
    refine rq (u := .bool true) rfl rfl rfl (p_move rfl) rfl ?_
    refine rskip rfl (guard_at rfl rfl rfl rfl rfl) rfl ?_
    refine rskip rfl (guard_at rfl rfl rfl rfl rfl) rfl ?_
    refine rskip rfl (guard_at rfl rfl rfl rfl rfl) rfl ?_
    refine rskip rfl (guard_at rfl rfl rfl rfl rfl) rfl ?_
    refine rskip rfl (guard_un rfl rfl rfl rfl) rfl ?_
    refine rskip rfl (guard_un rfl rfl rfl rfl) rfl ?_
    refine rskip rfl (guard_un rfl rfl rfl rfl) rfl ?_
    refine rskip rfl (guard_at rfl rfl rfl rfl rfl) rfl ?_
    refine rq (u := .bool true) rfl rfl rfl (p_pick rfl rfl) rfl ?_
    refine .done rfl ?_
    refine ac_condT rfl rfl ?_
    refine ac_seq ?_
    refine ac_region rfl ?_
    refine rq (u := .bool false) rfl rfl rfl (p_assign rfl) rfl ?_
    refine .done rfl ?_
    refine ac_ret ?_
    show Fin _ _ _ _ _ _ _
    exact fin_ret (Nat.le_of_ble_eq_true rfl) rfl ⟨re_w_0, (by obtain rfl := Option.some.inj h; exact hw_w_0), (by obtain rfl := Option.some.inj h; rfl), (ResLe.sub (by simp))⟩
  · replace h := cond_f hc2 h
    refine rq (u := .ptr b2 0) rfl (guard_at rfl rfl rfl rfl rfl) rfl (p_field_ptr fl_37_0 rfl rfl) rfl ?_
    refine rq (u := .int .i64 r_1.Rate.Num) rfl (guard_at rfl rfl rfl rfl rfl) rfl (p_load_ptr ti_3 (fun _ => rfl) rfl rfl (.head _) (Nat.le_of_ble_eq_true rfl)) rfl ?_
    refine rq (u := .ptr b2 1) rfl (guard_at rfl rfl rfl rfl rfl) rfl (p_field_ptr fl_37_1 rfl rfl) rfl ?_
    refine rq (u := .int .i64 r_1.Rate.Per) rfl (guard_at rfl rfl rfl rfl rfl) rfl (p_load_ptr ti_3 (fun _ => rfl) rfl rfl (.head _) (Nat.le_of_ble_eq_true rfl)) rfl ?_
    refine rq (u := .ptr b2 2) rfl (guard_at rfl rfl rfl rfl rfl) rfl (p_field_ptr fl_37_2 rfl rfl) rfl ?_
    refine rq (u := .int .i64 r_1.Rate.Burst) rfl (guard_at rfl rfl rfl rfl rfl) rfl (p_load_ptr ti_3 (fun _ => rfl) rfl rfl (.head _) (Nat.le_of_ble_eq_true rfl)) rfl ?_
    refine rq (u := .slice .full 1 ([r_1.Rate.Num, r_1.Rate.Per, r_1.Rate.Burst].map (TV.int .i64))) rfl (guard_at rfl rfl rfl rfl rfl) rfl (p_bslice (f := (TV.int .i64)) (xs := ([r_1.Rate.Num, r_1.Rate.Per, r_1.Rate.Burst] : List Int)) (fun _ => ⟨rfl, nofun, rfl⟩) sl_81 ⟨_, _, rfl, zf_3, rfl⟩ rfl rfl rfl rfl rfl rfl) rfl ?_
    obtain ⟨v3, hv3, h⟩ := bnd_some h
    refine rq (u := .bool v3) rfl (guard_at rfl rfl rfl rfl rfl) rfl (p_pfnL en_34 (tree_fine_fn k [r_1.Rate.Num, r_1.Rate.Per, r_1.Rate.Burst] v3 hv3) rfl rfl ⟨TVle.ro, trivial⟩) rfl ?_
    refine rq (u := .bool (!v3)) rfl (guard_at rfl rfl rfl rfl rfl) rfl (p_not rfl rfl) rfl ?_
    refine rq (u := .bool (!v3)) rfl rfl rfl (p_pick rfl rfl) rfl ?_
    refine rq (u := .bool (!v3)) rfl rfl rfl (p_move rfl) rfl ?_
    refine rcase 23 rfl (fun hc4 => ?_) (fun hc4 => ?_)
    · replace h := cond_t hc4 h
      refine rskip rfl (guard_at rfl rfl rfl rfl rfl) rfl ?_
      refine rskip rfl (guard_at rfl rfl rfl rfl rfl) rfl ?_
      refine rskip rfl (guard_at rfl rfl rfl rfl rfl) rfl ?_
      refine rskip rfl (guard_at rfl rfl rfl rfl rfl) rfl ?_
      refine rskip rfl (guard_un rfl rfl rfl rfl) rfl ?_
      refine rskip rfl (guard_un rfl rfl rfl rfl) rfl ?_
      refine rskip rfl (guard_un rfl rfl rfl rfl) rfl ?_
      refine rskip rfl (guard_at rfl rfl rfl rfl rfl) rfl ?_
      refine rq (u := .bool true) rfl rfl rfl (p_pick rfl rfl) rfl ?_
      refine .done rfl ?_
      refine ac_condT rfl rfl ?_
      refine ac_seq ?_
      refine ac_region rfl ?_
      refine rq (u := .bool false) rfl rfl rfl (p_assign rfl) rfl ?_
      refine .done rfl ?_
      refine ac_ret ?_
      show Fin _ _ _ _ _ _ _
      exact fin_ret (Nat.le_of_ble_eq_true rfl) rfl ⟨re_w_0, (by obtain rfl := Option.some.inj h; exact hw_w_0), (by obtain rfl := Option.some.inj h; rfl), (ResLe.sub (by simp))⟩
    · replace h := cond_f hc4 h
      refine rq (u := .ptr b2 1) rfl (guard_at rfl rfl rfl rfl rfl) rfl (p_field_ptr fl_37_1 rfl rfl) rfl ?_
      refine rq (u := .int .i64 r_1.Rate.Per) rfl (guard_at rfl rfl rfl rfl rfl) rfl (p_load_ptr ti_3 (fun _ => rfl) rfl rfl (.head _) (Nat.le_of_ble_eq_true rfl)) rfl ?_
      refine rq (u := .bool (r_1.Rate.Per == 0)) rfl (guard_at rfl rfl rfl rfl rfl) rfl (p_eql rfl rfl rfl) rfl ?_
      refine rq (u := .bool (r_1.Rate.Per == 0)) rfl (guard_at rfl rfl rfl rfl rfl) rfl (p_move rfl) rfl ?_
      refine rcase 27 rfl (fun hc5 => ?_) (fun hc5 => ?_)
      · replace h := cond_t hc5 h
        refine rq (u := .agg (GRate.cells r_1.Rate)) rfl (guard_at rfl rfl rfl rfl rfl) rfl (p_load_ptr ti_37 nofun rfl rfl (.head _) (Nat.le_of_ble_eq_true rfl)) rfl ?_
        refine rq (u := .agg [.int .i64 0, .int .i64 0, .int .i64 0]) rfl (guard_at rfl rfl rfl rfl rfl) rfl (p_build (cs := [.int .i64 0, .int .i64 0, .int .i64 0]) zf_37 rfl rfl rfl nofun bf_37 rfl rfl) rfl ?_
        refine rq (u := .bool (!((r_1.Rate.Num == 0) && ((r_1.Rate.Per == 0) && ((r_1.Rate.Burst == 0) && true))))) rfl (guard_at rfl rfl rfl rfl rfl) rfl (p_ane eu_37 eh_37 eg_37 (eqs_37) rfl rfl rfl) rfl ?_
        refine rq (u := .bool (!((r_1.Rate.Num == 0) && ((r_1.Rate.Per == 0) && ((r_1.Rate.Burst == 0) && true))))) rfl (guard_at rfl rfl rfl rfl rfl) rfl (p_pick rfl rfl) rfl ?_
        refine rq (u := .bool (!((r_1.Rate.Num == 0) && ((r_1.Rate.Per == 0) && ((r_1.Rate.Burst == 0) && true))))) rfl rfl rfl (p_pick rfl rfl) rfl ?_
        refine .done rfl ?_
        refine ac_cond rfl rfl (fun hc89 => ?_) (fun hc89 => ?_)
        · replace h := cond_t hc89 h
          refine ac_seq ?_
          refine ac_region rfl ?_
          refine rq (u := .bool false) rfl rfl rfl (p_assign rfl) rfl ?_
          refine .done rfl ?_
          refine ac_ret ?_
          show Fin _ _ _ _ _ _ _
          exact fin_ret (Nat.le_of_ble_eq_true rfl) rfl ⟨re_w_0, (by obtain rfl := Option.some.inj h; exact hw_w_0), (by obtain rfl := Option.some.inj h; rfl), (ResLe.sub (by simp))⟩
        · replace h := cond_f hc89 h
          refine ac_skip ?_
          refine ac_seq ?_
          refine ac_seq ?_
          refine ac_region rfl ?_
          refine rq (u := .ptr b1 0) rfl rfl rfl (p_field_ptr fl_39_0 rfl rfl) rfl ?_
          refine rq (u := .bool r_1.Allow) rfl rfl rfl (p_load_ptr ti_4 (fun _ => rfl) rfl rfl (.tail _ (.head _)) (Nat.le_of_ble_eq_true rfl)) rfl ?_
          refine .done rfl ?_
          refine ac_cond rfl rfl (fun hc88 => ?_) (fun hc88 => ?_)
          · replace h := cond_t hc88 h
            refine ac_region rfl ?_
            refine rq (u := .ptr bp_w_0 0) rfl rfl rfl (p_move rfl) rfl ?_
            refine rq (u := .ptr bp_w_0 0) rfl rfl rfl (p_nilCheck_ptr rfl rfl) rfl ?_
            refine rq (u := .ptr bp_w_0 0) rfl rfl rfl (p_field_ptr fl_51_0 rfl rfl) rfl ?_
            obtain ⟨v7, hv7, h⟩ := bnd_some h
            refine ra rfl rfl (a_callY en_35 (ws_call bp_w_0 w_0 (⟨#[97, 108, 108, 111, 119]⟩ : ByteArray) v7 hv7 re_w_0 hw_w_0) rfl rfl (TVles.refl _) (fun rew6 => ([(b2, RS.box [.int .i64 r_1.Rate.Num, .int .i64 r_1.Rate.Per, .int .i64 r_1.Rate.Burst]), (b1, RS.box [.bool r_1.Allow, .int .i64 r_1.When.Kind, .int .i64 r_1.When.Field, .slice .ro 2 (r_1.When.Ranges.map GRange.enc), encF r_1.When.Low, encF r_1.When.High, .slice .ro 6 (r_1.When.Of.map GExpr.enc), .int .i64 r_1.Rate.Num, .int .i64 r_1.Rate.Per, .int .i64 r_1.Rate.Burst, .int .i64 r_1.Line])] ++ rew6)) [(b2, RS.box [.int .i64 r_1.Rate.Num, .int .i64 r_1.Rate.Per, .int .i64 r_1.Rate.Burst]), (b1, RS.box [.bool r_1.Allow, .int .i64 r_1.When.Kind, .int .i64 r_1.When.Field, .slice .ro 2 (r_1.When.Ranges.map GRange.enc), encF r_1.When.Low, encF r_1.When.High, .slice .ro 6 (r_1.When.Of.map GExpr.enc), .int .i64 r_1.Rate.Num, .int .i64 r_1.Rate.Per, .int .i64 r_1.Rate.Burst, .int .i64 r_1.Line])] [] (fun _ => by simp) rfl) ?_
            rintro E' s' ⟨rew6, hw6, rfl, hs'⟩
            rw [hs']
            show AReg _ _ _ _ _ _ ((38, .tuple [.int .i64 ((⟨#[97, 108, 108, 111, 119]⟩ : ByteArray).size : Int), .nili]) :: _) ([(b2, RS.box [.int .i64 r_1.Rate.Num, .int .i64 r_1.Rate.Per, .int .i64 r_1.Rate.Burst]), (b1, RS.box [.bool r_1.Allow, .int .i64 r_1.When.Kind, .int .i64 r_1.When.Field, .slice .ro 2 (r_1.When.Ranges.map GRange.enc), encF r_1.When.Low, encF r_1.When.High, .slice .ro 6 (r_1.When.Of.map GExpr.enc), .int .i64 r_1.Rate.Num, .int .i64 r_1.Rate.Per, .int .i64 r_1.Rate.Burst, .int .i64 r_1.Line])] ++ rew6)
            refine .done rfl ?_
            refine ac_seq ?_
            refine ac_seq ?_
            refine ac_region rfl ?_
            refine rq (u := .ptr b1 1) rfl rfl rfl (p_field_ptr fl_39_1 rfl rfl) rfl ?_
            refine rq (u := .ptr b1 1) rfl rfl rfl (p_field_ptr fl_33_0 rfl rfl) rfl ?_
            refine rq (u := .int .i64 r_1.When.Kind) rfl rfl rfl (p_load_ptr ti_3 (fun _ => rfl) rfl rfl (.tail _ (.head _)) (Nat.le_of_ble_eq_true rfl)) rfl ?_
            refine rq (u := .bool (r_1.When.Kind != 0)) rfl rfl rfl (p_neq rfl rfl rfl) rfl ?_
            refine .done rfl ?_
            refine ac_cond rfl rfl (fun hc46 => ?_) (fun hc46 => ?_)
            · replace h := cond_t hc46 h
              refine ac_seq ?_
              refine ac_region rfl ?_
              refine rq (u := .ptr bp_w_0 0) rfl rfl rfl (p_move rfl) rfl ?_
              refine rq (u := .ptr bp_w_0 0) rfl rfl rfl (p_nilCheck_ptr rfl rfl) rfl ?_
              refine rq (u := .ptr bp_w_0 0) rfl rfl rfl (p_field_ptr fl_51_0 rfl rfl) rfl ?_
              obtain ⟨v9, hv9, h⟩ := bnd_some h
              refine ra rfl rfl (a_callY en_35 (ws_call bp_w_0 v7 (⟨#[32, 119, 104, 101, 110, 32]⟩ : ByteArray) v9 hv9 rew6 hw6) rfl rfl (TVles.refl _) (fun rew8 => ([(b2, RS.box [.int .i64 r_1.Rate.Num, .int .i64 r_1.Rate.Per, .int .i64 r_1.Rate.Burst]), (b1, RS.box [.bool r_1.Allow, .int .i64 r_1.When.Kind, .int .i64 r_1.When.Field, .slice .ro 2 (r_1.When.Ranges.map GRange.enc), encF r_1.When.Low, encF r_1.When.High, .slice .ro 6 (r_1.When.Of.map GExpr.enc), .int .i64 r_1.Rate.Num, .int .i64 r_1.Rate.Per, .int .i64 r_1.Rate.Burst, .int .i64 r_1.Line])] ++ rew8)) [(b2, RS.box [.int .i64 r_1.Rate.Num, .int .i64 r_1.Rate.Per, .int .i64 r_1.Rate.Burst]), (b1, RS.box [.bool r_1.Allow, .int .i64 r_1.When.Kind, .int .i64 r_1.When.Field, .slice .ro 2 (r_1.When.Ranges.map GRange.enc), encF r_1.When.Low, encF r_1.When.High, .slice .ro 6 (r_1.When.Of.map GExpr.enc), .int .i64 r_1.Rate.Num, .int .i64 r_1.Rate.Per, .int .i64 r_1.Rate.Burst, .int .i64 r_1.Line])] [] (fun _ => by simp) rfl) ?_
              rintro E' s' ⟨rew8, hw8, rfl, hs'⟩
              rw [hs']
              show AReg _ _ _ _ _ _ ((50, .tuple [.int .i64 ((⟨#[32, 119, 104, 101, 110, 32]⟩ : ByteArray).size : Int), .nili]) :: _) ([(b2, RS.box [.int .i64 r_1.Rate.Num, .int .i64 r_1.Rate.Per, .int .i64 r_1.Rate.Burst]), (b1, RS.box [.bool r_1.Allow, .int .i64 r_1.When.Kind, .int .i64 r_1.When.Field, .slice .ro 2 (r_1.When.Ranges.map GRange.enc), encF r_1.When.Low, encF r_1.When.High, .slice .ro 6 (r_1.When.Of.map GExpr.enc), .int .i64 r_1.Rate.Num, .int .i64 r_1.Rate.Per, .int .i64 r_1.Rate.Burst, .int .i64 r_1.Line])] ++ rew8)
              refine .done rfl ?_
              refine ac_region rfl ?_
              refine rq (u := .ptr bp_w_0 0) rfl rfl rfl (p_move rfl) rfl ?_
              refine rq (u := .ptr b1 1) rfl rfl rfl (p_field_ptr fl_39_1 rfl rfl) rfl ?_
              refine rq (u := .agg (GExpr.cells r_1.When)) rfl rfl rfl (p_load_ptr ti_33 nofun rfl rfl (.tail _ (.head _)) (Nat.le_of_ble_eq_true rfl)) rfl ?_
              obtain ⟨v11, hv11, h⟩ := bnd_some h
              refine ra rfl rfl (a_callY en_36 (tree_writer_expr_fn k v9 bp_w_0 rew8 hw8 r_1.When v11 hv11) rfl rfl (TVles.refl _) (fun rew10 => ([(b2, RS.box [.int .i64 r_1.Rate.Num, .int .i64 r_1.Rate.Per, .int .i64 r_1.Rate.Burst]), (b1, RS.box [.bool r_1.Allow, .int .i64 r_1.When.Kind, .int .i64 r_1.When.Field, .slice .ro 2 (r_1.When.Ranges.map GRange.enc), encF r_1.When.Low, encF r_1.When.High, .slice .ro 6 (r_1.When.Of.map GExpr.enc), .int .i64 r_1.Rate.Num, .int .i64 r_1.Rate.Per, .int .i64 r_1.Rate.Burst, .int .i64 r_1.Line])] ++ rew10)) [(b2, RS.box [.int .i64 r_1.Rate.Num, .int .i64 r_1.Rate.Per, .int .i64 r_1.Rate.Burst]), (b1, RS.box [.bool r_1.Allow, .int .i64 r_1.When.Kind, .int .i64 r_1.When.Field, .slice .ro 2 (r_1.When.Ranges.map GRange.enc), encF r_1.When.Low, encF r_1.When.High, .slice .ro 6 (r_1.When.Of.map GExpr.enc), .int .i64 r_1.Rate.Num, .int .i64 r_1.Rate.Per, .int .i64 r_1.Rate.Burst, .int .i64 r_1.Line])] [] (fun _ => by simp) rfl) ?_
              rintro E' s' ⟨rew10, hw10, rfl, hs'⟩
              rw [hs']
              show AReg _ _ _ _ _ _ ((54, .tuple []) :: _) ([(b2, RS.box [.int .i64 r_1.Rate.Num, .int .i64 r_1.Rate.Per, .int .i64 r_1.Rate.Burst]), (b1, RS.box [.bool r_1.Allow, .int .i64 r_1.When.Kind, .int .i64 r_1.When.Field, .slice .ro 2 (r_1.When.Ranges.map GRange.enc), encF r_1.When.Low, encF r_1.When.High, .slice .ro 6 (r_1.When.Of.map GExpr.enc), .int .i64 r_1.Rate.Num, .int .i64 r_1.Rate.Per, .int .i64 r_1.Rate.Burst, .int .i64 r_1.Line])] ++ rew10)
              refine .done rfl ?_
              refine ac_seq ?_
              refine ac_seq ?_
              refine ac_region rfl ?_
              refine rq (u := .ptr b2 1) rfl rfl rfl (p_field_ptr fl_37_1 rfl rfl) rfl ?_
              refine rq (u := .int .i64 r_1.Rate.Per) rfl rfl rfl (p_load_ptr ti_3 (fun _ => rfl) rfl rfl (.head _) (Nat.le_of_ble_eq_true rfl)) rfl ?_
              refine rq (u := .bool (decide (0 < r_1.Rate.Per))) rfl rfl rfl (p_gtr rfl rfl rfl) rfl ?_
              refine .done rfl ?_
              refine ac_cond rfl rfl (fun hc28 => ?_) (fun hc28 => ?_)
              · replace h := cond_t hc28 h
                refine ac_seq ?_
                refine ac_region rfl ?_
                refine rq (u := .ptr bp_w_0 0) rfl rfl rfl (p_move rfl) rfl ?_
                refine rq (u := .ptr bp_w_0 0) rfl rfl rfl (p_nilCheck_ptr rfl rfl) rfl ?_
                refine rq (u := .ptr bp_w_0 0) rfl rfl rfl (p_field_ptr fl_51_0 rfl rfl) rfl ?_
                obtain ⟨v13, hv13, h⟩ := bnd_some h
                refine ra rfl rfl (a_callY en_35 (ws_call bp_w_0 v11 (⟨#[32, 114, 97, 116, 101, 32]⟩ : ByteArray) v13 hv13 rew10 hw10) rfl rfl (TVles.refl _) (fun rew12 => ([(b2, RS.box [.int .i64 r_1.Rate.Num, .int .i64 r_1.Rate.Per, .int .i64 r_1.Rate.Burst]), (b1, RS.box [.bool r_1.Allow, .int .i64 r_1.When.Kind, .int .i64 r_1.When.Field, .slice .ro 2 (r_1.When.Ranges.map GRange.enc), encF r_1.When.Low, encF r_1.When.High, .slice .ro 6 (r_1.When.Of.map GExpr.enc), .int .i64 r_1.Rate.Num, .int .i64 r_1.Rate.Per, .int .i64 r_1.Rate.Burst, .int .i64 r_1.Line])] ++ rew12)) [(b2, RS.box [.int .i64 r_1.Rate.Num, .int .i64 r_1.Rate.Per, .int .i64 r_1.Rate.Burst]), (b1, RS.box [.bool r_1.Allow, .int .i64 r_1.When.Kind, .int .i64 r_1.When.Field, .slice .ro 2 (r_1.When.Ranges.map GRange.enc), encF r_1.When.Low, encF r_1.When.High, .slice .ro 6 (r_1.When.Of.map GExpr.enc), .int .i64 r_1.Rate.Num, .int .i64 r_1.Rate.Per, .int .i64 r_1.Rate.Burst, .int .i64 r_1.Line])] [] (fun _ => by simp) rfl) ?_
                rintro E' s' ⟨rew12, hw12, rfl, hs'⟩
                rw [hs']
                show AReg _ _ _ _ _ _ ((61, .tuple [.int .i64 ((⟨#[32, 114, 97, 116, 101, 32]⟩ : ByteArray).size : Int), .nili]) :: _) ([(b2, RS.box [.int .i64 r_1.Rate.Num, .int .i64 r_1.Rate.Per, .int .i64 r_1.Rate.Burst]), (b1, RS.box [.bool r_1.Allow, .int .i64 r_1.When.Kind, .int .i64 r_1.When.Field, .slice .ro 2 (r_1.When.Ranges.map GRange.enc), encF r_1.When.Low, encF r_1.When.High, .slice .ro 6 (r_1.When.Of.map GExpr.enc), .int .i64 r_1.Rate.Num, .int .i64 r_1.Rate.Per, .int .i64 r_1.Rate.Burst, .int .i64 r_1.Line])] ++ rew12)
                refine .done rfl ?_
                refine ac_seq ?_
                refine ac_region rfl ?_
                refine rq (u := .ptr bp_w_0 0) rfl rfl rfl (p_move rfl) rfl ?_
                refine rq (u := .ptr b2 0) rfl rfl rfl (p_field_ptr fl_37_0 rfl rfl) rfl ?_
                refine rq (u := .int .i64 r_1.Rate.Num) rfl rfl rfl (p_load_ptr ti_3 (fun _ => rfl) rfl rfl (.head _) (Nat.le_of_ble_eq_true rfl)) rfl ?_
                obtain ⟨v15, hv15, h⟩ := bnd_some h
                refine ra rfl rfl (a_callY en_37 (tree_writer_number_fn k v13 bp_w_0 rew12 hw12 r_1.Rate.Num v15 hv15) rfl rfl (TVles.refl _) (fun rew14 => ([(b2, RS.box [.int .i64 r_1.Rate.Num, .int .i64 r_1.Rate.Per, .int .i64 r_1.Rate.Burst]), (b1, RS.box [.bool r_1.Allow, .int .i64 r_1.When.Kind, .int .i64 r_1.When.Field, .slice .ro 2 (r_1.When.Ranges.map GRange.enc), encF r_1.When.Low, encF r_1.When.High, .slice .ro 6 (r_1.When.Of.map GExpr.enc), .int .i64 r_1.Rate.Num, .int .i64 r_1.Rate.Per, .int .i64 r_1.Rate.Burst, .int .i64 r_1.Line])] ++ rew14)) [(b2, RS.box [.int .i64 r_1.Rate.Num, .int .i64 r_1.Rate.Per, .int .i64 r_1.Rate.Burst]), (b1, RS.box [.bool r_1.Allow, .int .i64 r_1.When.Kind, .int .i64 r_1.When.Field, .slice .ro 2 (r_1.When.Ranges.map GRange.enc), encF r_1.When.Low, encF r_1.When.High, .slice .ro 6 (r_1.When.Of.map GExpr.enc), .int .i64 r_1.Rate.Num, .int .i64 r_1.Rate.Per, .int .i64 r_1.Rate.Burst, .int .i64 r_1.Line])] [] (fun _ => by simp) rfl) ?_
                rintro E' s' ⟨rew14, hw14, rfl, hs'⟩
                rw [hs']
                show AReg _ _ _ _ _ _ ((65, .tuple []) :: _) ([(b2, RS.box [.int .i64 r_1.Rate.Num, .int .i64 r_1.Rate.Per, .int .i64 r_1.Rate.Burst]), (b1, RS.box [.bool r_1.Allow, .int .i64 r_1.When.Kind, .int .i64 r_1.When.Field, .slice .ro 2 (r_1.When.Ranges.map GRange.enc), encF r_1.When.Low, encF r_1.When.High, .slice .ro 6 (r_1.When.Of.map GExpr.enc), .int .i64 r_1.Rate.Num, .int .i64 r_1.Rate.Per, .int .i64 r_1.Rate.Burst, .int .i64 r_1.Line])] ++ rew14)
                refine .done rfl ?_
                refine ac_seq ?_
                refine ac_region rfl ?_
                refine rq (u := .ptr bp_w_0 0) rfl rfl rfl (p_move rfl) rfl ?_
                refine rq (u := .ptr bp_w_0 0) rfl rfl rfl (p_nilCheck_ptr rfl rfl) rfl ?_
                refine rq (u := .ptr bp_w_0 0) rfl rfl rfl (p_field_ptr fl_51_0 rfl rfl) rfl ?_
                obtain ⟨v17, hv17, h⟩ := bnd_some h
                refine ra rfl rfl (a_callY en_35 (ws_call bp_w_0 v15 (⟨#[32, 112, 101, 114, 32]⟩ : ByteArray) v17 hv17 rew14 hw14) rfl rfl (TVles.refl _) (fun rew16 => ([(b2, RS.box [.int .i64 r_1.Rate.Num, .int .i64 r_1.Rate.Per, .int .i64 r_1.Rate.Burst]), (b1, RS.box [.bool r_1.Allow, .int .i64 r_1.When.Kind, .int .i64 r_1.When.Field, .slice .ro 2 (r_1.When.Ranges.map GRange.enc), encF r_1.When.Low, encF r_1.When.High, .slice .ro 6 (r_1.When.Of.map GExpr.enc), .int .i64 r_1.Rate.Num, .int .i64 r_1.Rate.Per, .int .i64 r_1.Rate.Burst, .int .i64 r_1.Line])] ++ rew16)) [(b2, RS.box [.int .i64 r_1.Rate.Num, .int .i64 r_1.Rate.Per, .int .i64 r_1.Rate.Burst]), (b1, RS.box [.bool r_1.Allow, .int .i64 r_1.When.Kind, .int .i64 r_1.When.Field, .slice .ro 2 (r_1.When.Ranges.map GRange.enc), encF r_1.When.Low, encF r_1.When.High, .slice .ro 6 (r_1.When.Of.map GExpr.enc), .int .i64 r_1.Rate.Num, .int .i64 r_1.Rate.Per, .int .i64 r_1.Rate.Burst, .int .i64 r_1.Line])] [] (fun _ => by simp) rfl) ?_
                rintro E' s' ⟨rew16, hw16, rfl, hs'⟩
                rw [hs']
                show AReg _ _ _ _ _ _ ((69, .tuple [.int .i64 ((⟨#[32, 112, 101, 114, 32]⟩ : ByteArray).size : Int), .nili]) :: _) ([(b2, RS.box [.int .i64 r_1.Rate.Num, .int .i64 r_1.Rate.Per, .int .i64 r_1.Rate.Burst]), (b1, RS.box [.bool r_1.Allow, .int .i64 r_1.When.Kind, .int .i64 r_1.When.Field, .slice .ro 2 (r_1.When.Ranges.map GRange.enc), encF r_1.When.Low, encF r_1.When.High, .slice .ro 6 (r_1.When.Of.map GExpr.enc), .int .i64 r_1.Rate.Num, .int .i64 r_1.Rate.Per, .int .i64 r_1.Rate.Burst, .int .i64 r_1.Line])] ++ rew16)
                refine .done rfl ?_
                refine ac_seq ?_
                refine ac_region rfl ?_
                refine rq (u := .ptr bp_w_0 0) rfl rfl rfl (p_move rfl) rfl ?_
                refine rq (u := .ptr b2 1) rfl rfl rfl (p_field_ptr fl_37_1 rfl rfl) rfl ?_
                refine rq (u := .int .i64 r_1.Rate.Per) rfl rfl rfl (p_load_ptr ti_3 (fun _ => rfl) rfl rfl (.head _) (Nat.le_of_ble_eq_true rfl)) rfl ?_
                obtain ⟨v19, hv19, h⟩ := bnd_some h
                refine ra rfl rfl (a_callY en_37 (tree_writer_number_fn k v17 bp_w_0 rew16 hw16 r_1.Rate.Per v19 hv19) rfl rfl (TVles.refl _) (fun rew18 => ([(b2, RS.box [.int .i64 r_1.Rate.Num, .int .i64 r_1.Rate.Per, .int .i64 r_1.Rate.Burst]), (b1, RS.box [.bool r_1.Allow, .int .i64 r_1.When.Kind, .int .i64 r_1.When.Field, .slice .ro 2 (r_1.When.Ranges.map GRange.enc), encF r_1.When.Low, encF r_1.When.High, .slice .ro 6 (r_1.When.Of.map GExpr.enc), .int .i64 r_1.Rate.Num, .int .i64 r_1.Rate.Per, .int .i64 r_1.Rate.Burst, .int .i64 r_1.Line])] ++ rew18)) [(b2, RS.box [.int .i64 r_1.Rate.Num, .int .i64 r_1.Rate.Per, .int .i64 r_1.Rate.Burst]), (b1, RS.box [.bool r_1.Allow, .int .i64 r_1.When.Kind, .int .i64 r_1.When.Field, .slice .ro 2 (r_1.When.Ranges.map GRange.enc), encF r_1.When.Low, encF r_1.When.High, .slice .ro 6 (r_1.When.Of.map GExpr.enc), .int .i64 r_1.Rate.Num, .int .i64 r_1.Rate.Per, .int .i64 r_1.Rate.Burst, .int .i64 r_1.Line])] [] (fun _ => by simp) rfl) ?_
                rintro E' s' ⟨rew18, hw18, rfl, hs'⟩
                rw [hs']
                show AReg _ _ _ _ _ _ ((73, .tuple []) :: _) ([(b2, RS.box [.int .i64 r_1.Rate.Num, .int .i64 r_1.Rate.Per, .int .i64 r_1.Rate.Burst]), (b1, RS.box [.bool r_1.Allow, .int .i64 r_1.When.Kind, .int .i64 r_1.When.Field, .slice .ro 2 (r_1.When.Ranges.map GRange.enc), encF r_1.When.Low, encF r_1.When.High, .slice .ro 6 (r_1.When.Of.map GExpr.enc), .int .i64 r_1.Rate.Num, .int .i64 r_1.Rate.Per, .int .i64 r_1.Rate.Burst, .int .i64 r_1.Line])] ++ rew18)
                refine .done rfl ?_
                refine ac_seq ?_
                refine ac_region rfl ?_
                refine rq (u := .ptr bp_w_0 0) rfl rfl rfl (p_move rfl) rfl ?_
                refine rq (u := .ptr bp_w_0 0) rfl rfl rfl (p_nilCheck_ptr rfl rfl) rfl ?_
                refine rq (u := .ptr bp_w_0 0) rfl rfl rfl (p_field_ptr fl_51_0 rfl rfl) rfl ?_
                obtain ⟨v21, hv21, h⟩ := bnd_some h
                refine ra rfl rfl (a_callY en_35 (ws_call bp_w_0 v19 (⟨#[32, 98, 117, 114, 115, 116, 32]⟩ : ByteArray) v21 hv21 rew18 hw18) rfl rfl (TVles.refl _) (fun rew20 => ([(b2, RS.box [.int .i64 r_1.Rate.Num, .int .i64 r_1.Rate.Per, .int .i64 r_1.Rate.Burst]), (b1, RS.box [.bool r_1.Allow, .int .i64 r_1.When.Kind, .int .i64 r_1.When.Field, .slice .ro 2 (r_1.When.Ranges.map GRange.enc), encF r_1.When.Low, encF r_1.When.High, .slice .ro 6 (r_1.When.Of.map GExpr.enc), .int .i64 r_1.Rate.Num, .int .i64 r_1.Rate.Per, .int .i64 r_1.Rate.Burst, .int .i64 r_1.Line])] ++ rew20)) [(b2, RS.box [.int .i64 r_1.Rate.Num, .int .i64 r_1.Rate.Per, .int .i64 r_1.Rate.Burst]), (b1, RS.box [.bool r_1.Allow, .int .i64 r_1.When.Kind, .int .i64 r_1.When.Field, .slice .ro 2 (r_1.When.Ranges.map GRange.enc), encF r_1.When.Low, encF r_1.When.High, .slice .ro 6 (r_1.When.Of.map GExpr.enc), .int .i64 r_1.Rate.Num, .int .i64 r_1.Rate.Per, .int .i64 r_1.Rate.Burst, .int .i64 r_1.Line])] [] (fun _ => by simp) rfl) ?_
                rintro E' s' ⟨rew20, hw20, rfl, hs'⟩
                rw [hs']
                show AReg _ _ _ _ _ _ ((77, .tuple [.int .i64 ((⟨#[32, 98, 117, 114, 115, 116, 32]⟩ : ByteArray).size : Int), .nili]) :: _) ([(b2, RS.box [.int .i64 r_1.Rate.Num, .int .i64 r_1.Rate.Per, .int .i64 r_1.Rate.Burst]), (b1, RS.box [.bool r_1.Allow, .int .i64 r_1.When.Kind, .int .i64 r_1.When.Field, .slice .ro 2 (r_1.When.Ranges.map GRange.enc), encF r_1.When.Low, encF r_1.When.High, .slice .ro 6 (r_1.When.Of.map GExpr.enc), .int .i64 r_1.Rate.Num, .int .i64 r_1.Rate.Per, .int .i64 r_1.Rate.Burst, .int .i64 r_1.Line])] ++ rew20)
                refine .done rfl ?_
                refine ac_region rfl ?_
                refine rq (u := .ptr bp_w_0 0) rfl rfl rfl (p_move rfl) rfl ?_
                refine rq (u := .ptr b2 2) rfl rfl rfl (p_field_ptr fl_37_2 rfl rfl) rfl ?_
                refine rq (u := .int .i64 r_1.Rate.Burst) rfl rfl rfl (p_load_ptr ti_3 (fun _ => rfl) rfl rfl (.head _) (Nat.le_of_ble_eq_true rfl)) rfl ?_
                obtain ⟨v23, hv23, h⟩ := bnd_some h
                refine ra rfl rfl (a_callY en_37 (tree_writer_number_fn k v21 bp_w_0 rew20 hw20 r_1.Rate.Burst v23 hv23) rfl rfl (TVles.refl _) (fun rew22 => ([(b2, RS.box [.int .i64 r_1.Rate.Num, .int .i64 r_1.Rate.Per, .int .i64 r_1.Rate.Burst]), (b1, RS.box [.bool r_1.Allow, .int .i64 r_1.When.Kind, .int .i64 r_1.When.Field, .slice .ro 2 (r_1.When.Ranges.map GRange.enc), encF r_1.When.Low, encF r_1.When.High, .slice .ro 6 (r_1.When.Of.map GExpr.enc), .int .i64 r_1.Rate.Num, .int .i64 r_1.Rate.Per, .int .i64 r_1.Rate.Burst, .int .i64 r_1.Line])] ++ rew22)) [(b2, RS.box [.int .i64 r_1.Rate.Num, .int .i64 r_1.Rate.Per, .int .i64 r_1.Rate.Burst]), (b1, RS.box [.bool r_1.Allow, .int .i64 r_1.When.Kind, .int .i64 r_1.When.Field, .slice .ro 2 (r_1.When.Ranges.map GRange.enc), encF r_1.When.Low, encF r_1.When.High, .slice .ro 6 (r_1.When.Of.map GExpr.enc), .int .i64 r_1.Rate.Num, .int .i64 r_1.Rate.Per, .int .i64 r_1.Rate.Burst, .int .i64 r_1.Line])] [] (fun _ => by simp) rfl) ?_
                rintro E' s' ⟨rew22, hw22, rfl, hs'⟩
                rw [hs']
                show AReg _ _ _ _ _ _ ((81, .tuple []) :: _) ([(b2, RS.box [.int .i64 r_1.Rate.Num, .int .i64 r_1.Rate.Per, .int .i64 r_1.Rate.Burst]), (b1, RS.box [.bool r_1.Allow, .int .i64 r_1.When.Kind, .int .i64 r_1.When.Field, .slice .ro 2 (r_1.When.Ranges.map GRange.enc), encF r_1.When.Low, encF r_1.When.High, .slice .ro 6 (r_1.When.Of.map GExpr.enc), .int .i64 r_1.Rate.Num, .int .i64 r_1.Rate.Per, .int .i64 r_1.Rate.Burst, .int .i64 r_1.Line])] ++ rew22)
                refine .done rfl ?_
                refine ac_seq ?_
                refine ac_region rfl ?_
                refine rq (u := .ptr bp_w_0 0) rfl rfl rfl (p_move rfl) rfl ?_
                refine rq (u := .ptr bp_w_0 0) rfl rfl rfl (p_nilCheck_ptr rfl rfl) rfl ?_
                refine rq (u := .ptr bp_w_0 0) rfl rfl rfl (p_field_ptr fl_51_0 rfl rfl) rfl ?_
                obtain ⟨v25, hv25, h⟩ := bnd_some h
                refine ra rfl rfl (a_callY en_35 (ws_call bp_w_0 v23 (⟨#[59, 10]⟩ : ByteArray) v25 hv25 rew22 hw22) rfl rfl (TVles.refl _) (fun rew24 => ([(b2, RS.box [.int .i64 r_1.Rate.Num, .int .i64 r_1.Rate.Per, .int .i64 r_1.Rate.Burst]), (b1, RS.box [.bool r_1.Allow, .int .i64 r_1.When.Kind, .int .i64 r_1.When.Field, .slice .ro 2 (r_1.When.Ranges.map GRange.enc), encF r_1.When.Low, encF r_1.When.High, .slice .ro 6 (r_1.When.Of.map GExpr.enc), .int .i64 r_1.Rate.Num, .int .i64 r_1.Rate.Per, .int .i64 r_1.Rate.Burst, .int .i64 r_1.Line])] ++ rew24)) [(b2, RS.box [.int .i64 r_1.Rate.Num, .int .i64 r_1.Rate.Per, .int .i64 r_1.Rate.Burst]), (b1, RS.box [.bool r_1.Allow, .int .i64 r_1.When.Kind, .int .i64 r_1.When.Field, .slice .ro 2 (r_1.When.Ranges.map GRange.enc), encF r_1.When.Low, encF r_1.When.High, .slice .ro 6 (r_1.When.Of.map GExpr.enc), .int .i64 r_1.Rate.Num, .int .i64 r_1.Rate.Per, .int .i64 r_1.Rate.Burst, .int .i64 r_1.Line])] [] (fun _ => by simp) rfl) ?_
                rintro E' s' ⟨rew24, hw24, rfl, hs'⟩
                rw [hs']
                show AReg _ _ _ _ _ _ ((85, .tuple [.int .i64 ((⟨#[59, 10]⟩ : ByteArray).size : Int), .nili]) :: _) ([(b2, RS.box [.int .i64 r_1.Rate.Num, .int .i64 r_1.Rate.Per, .int .i64 r_1.Rate.Burst]), (b1, RS.box [.bool r_1.Allow, .int .i64 r_1.When.Kind, .int .i64 r_1.When.Field, .slice .ro 2 (r_1.When.Ranges.map GRange.enc), encF r_1.When.Low, encF r_1.When.High, .slice .ro 6 (r_1.When.Of.map GExpr.enc), .int .i64 r_1.Rate.Num, .int .i64 r_1.Rate.Per, .int .i64 r_1.Rate.Burst, .int .i64 r_1.Line])] ++ rew24)
                refine .done rfl ?_
                refine ac_seq ?_
                refine ac_region rfl ?_
                refine rq (u := .bool true) rfl rfl rfl (p_assign rfl) rfl ?_
                refine .done rfl ?_
                refine ac_ret ?_
                show Fin _ _ _ _ _ _ _
                exact fin_ret (Nat.le_of_ble_eq_true rfl) rfl ⟨rew24, (by obtain rfl := Option.some.inj h; exact hw24), (by obtain rfl := Option.some.inj h; rfl), (ResLe.sub (by simp))⟩
              · replace h := cond_f hc28 h
                refine ac_skip ?_
                refine ac_seq ?_
                refine ac_region rfl ?_
                refine rq (u := .ptr bp_w_0 0) rfl rfl rfl (p_move rfl) rfl ?_
                refine rq (u := .ptr bp_w_0 0) rfl rfl rfl (p_nilCheck_ptr rfl rfl) rfl ?_
                refine rq (u := .ptr bp_w_0 0) rfl rfl rfl (p_field_ptr fl_51_0 rfl rfl) rfl ?_
                obtain ⟨v27, hv27, h⟩ := bnd_some h
                refine ra rfl rfl (a_callY en_35 (ws_call bp_w_0 v11 (⟨#[59, 10]⟩ : ByteArray) v27 hv27 rew10 hw10) rfl rfl (TVles.refl _) (fun rew26 => ([(b2, RS.box [.int .i64 r_1.Rate.Num, .int .i64 r_1.Rate.Per, .int .i64 r_1.Rate.Burst]), (b1, RS.box [.bool r_1.Allow, .int .i64 r_1.When.Kind, .int .i64 r_1.When.Field, .slice .ro 2 (r_1.When.Ranges.map GRange.enc), encF r_1.When.Low, encF r_1.When.High, .slice .ro 6 (r_1.When.Of.map GExpr.enc), .int .i64 r_1.Rate.Num, .int .i64 r_1.Rate.Per, .int .i64 r_1.Rate.Burst, .int .i64 r_1.Line])] ++ rew26)) [(b2, RS.box [.int .i64 r_1.Rate.Num, .int .i64 r_1.Rate.Per, .int .i64 r_1.Rate.Burst]), (b1, RS.box [.bool r_1.Allow, .int .i64 r_1.When.Kind, .int .i64 r_1.When.Field, .slice .ro 2 (r_1.When.Ranges.map GRange.enc), encF r_1.When.Low, encF r_1.When.High, .slice .ro 6 (r_1.When.Of.map GExpr.enc), .int .i64 r_1.Rate.Num, .int .i64 r_1.Rate.Per, .int .i64 r_1.Rate.Burst, .int .i64 r_1.Line])] [] (fun _ => by simp) rfl) ?_
                rintro E' s' ⟨rew26, hw26, rfl, hs'⟩
                rw [hs']
                show AReg _ _ _ _ _ _ ((85, .tuple [.int .i64 ((⟨#[59, 10]⟩ : ByteArray).size : Int), .nili]) :: _) ([(b2, RS.box [.int .i64 r_1.Rate.Num, .int .i64 r_1.Rate.Per, .int .i64 r_1.Rate.Burst]), (b1, RS.box [.bool r_1.Allow, .int .i64 r_1.When.Kind, .int .i64 r_1.When.Field, .slice .ro 2 (r_1.When.Ranges.map GRange.enc), encF r_1.When.Low, encF r_1.When.High, .slice .ro 6 (r_1.When.Of.map GExpr.enc), .int .i64 r_1.Rate.Num, .int .i64 r_1.Rate.Per, .int .i64 r_1.Rate.Burst, .int .i64 r_1.Line])] ++ rew26)
                refine .done rfl ?_
                refine ac_seq ?_
                refine ac_region rfl ?_
                refine rq (u := .bool true) rfl rfl rfl (p_assign rfl) rfl ?_
                refine .done rfl ?_
                refine ac_ret ?_
                show Fin _ _ _ _ _ _ _
                exact fin_ret (Nat.le_of_ble_eq_true rfl) rfl ⟨rew26, (by obtain rfl := Option.some.inj h; exact hw26), (by obtain rfl := Option.some.inj h; rfl), (ResLe.sub (by simp))⟩
            · replace h := cond_f hc46 h
              refine ac_skip ?_
              refine ac_seq ?_
              refine ac_seq ?_
              refine ac_region rfl ?_
              refine rq (u := .ptr b2 1) rfl rfl rfl (p_field_ptr fl_37_1 rfl rfl) rfl ?_
              refine rq (u := .int .i64 r_1.Rate.Per) rfl rfl rfl (p_load_ptr ti_3 (fun _ => rfl) rfl rfl (.head _) (Nat.le_of_ble_eq_true rfl)) rfl ?_
              refine rq (u := .bool (decide (0 < r_1.Rate.Per))) rfl rfl rfl (p_gtr rfl rfl rfl) rfl ?_
              refine .done rfl ?_
              refine ac_cond rfl rfl (fun hc45 => ?_) (fun hc45 => ?_)
              · replace h := cond_t hc45 h
                refine ac_seq ?_
                refine ac_region rfl ?_
                refine rq (u := .ptr bp_w_0 0) rfl rfl rfl (p_move rfl) rfl ?_
                refine rq (u := .ptr bp_w_0 0) rfl rfl rfl (p_nilCheck_ptr rfl rfl) rfl ?_
                refine rq (u := .ptr bp_w_0 0) rfl rfl rfl (p_field_ptr fl_51_0 rfl rfl) rfl ?_
                obtain ⟨v30, hv30, h⟩ := bnd_some h
                refine ra rfl rfl (a_callY en_35 (ws_call bp_w_0 v7 (⟨#[32, 114, 97, 116, 101, 32]⟩ : ByteArray) v30 hv30 rew6 hw6) rfl rfl (TVles.refl _) (fun rew29 => ([(b2, RS.box [.int .i64 r_1.Rate.Num, .int .i64 r_1.Rate.Per, .int .i64 r_1.Rate.Burst]), (b1, RS.box [.bool r_1.Allow, .int .i64 r_1.When.Kind, .int .i64 r_1.When.Field, .slice .ro 2 (r_1.When.Ranges.map GRange.enc), encF r_1.When.Low, encF r_1.When.High, .slice .ro 6 (r_1.When.Of.map GExpr.enc), .int .i64 r_1.Rate.Num, .int .i64 r_1.Rate.Per, .int .i64 r_1.Rate.Burst, .int .i64 r_1.Line])] ++ rew29)) [(b2, RS.box [.int .i64 r_1.Rate.Num, .int .i64 r_1.Rate.Per, .int .i64 r_1.Rate.Burst]), (b1, RS.box [.bool r_1.Allow, .int .i64 r_1.When.Kind, .int .i64 r_1.When.Field, .slice .ro 2 (r_1.When.Ranges.map GRange.enc), encF r_1.When.Low, encF r_1.When.High, .slice .ro 6 (r_1.When.Of.map GExpr.enc), .int .i64 r_1.Rate.Num, .int .i64 r_1.Rate.Per, .int .i64 r_1.Rate.Burst, .int .i64 r_1.Line])] [] (fun _ => by simp) rfl) ?_
                rintro E' s' ⟨rew29, hw29, rfl, hs'⟩
                rw [hs']
                show AReg _ _ _ _ _ _ ((61, .tuple [.int .i64 ((⟨#[32, 114, 97, 116, 101, 32]⟩ : ByteArray).size : Int), .nili]) :: _) ([(b2, RS.box [.int .i64 r_1.Rate.Num, .int .i64 r_1.Rate.Per, .int .i64 r_1.Rate.Burst]), (b1, RS.box [.bool r_1.Allow, .int .i64 r_1.When.Kind, .int .i64 r_1.When.Field, .slice .ro 2 (r_1.When.Ranges.map GRange.enc), encF r_1.When.Low, encF r_1.When.High, .slice .ro 6 (r_1.When.Of.map GExpr.enc), .int .i64 r_1.Rate.Num, .int .i64 r_1.Rate.Per, .int .i64 r_1.Rate.Burst, .int .i64 r_1.Line])] ++ rew29)
                refine .done rfl ?_
                refine ac_seq ?_
                refine ac_region rfl ?_
                refine rq (u := .ptr bp_w_0 0) rfl rfl rfl (p_move rfl) rfl ?_
                refine rq (u := .ptr b2 0) rfl rfl rfl (p_field_ptr fl_37_0 rfl rfl) rfl ?_
                refine rq (u := .int .i64 r_1.Rate.Num) rfl rfl rfl (p_load_ptr ti_3 (fun _ => rfl) rfl rfl (.head _) (Nat.le_of_ble_eq_true rfl)) rfl ?_
                obtain ⟨v32, hv32, h⟩ := bnd_some h
                refine ra rfl rfl (a_callY en_37 (tree_writer_number_fn k v30 bp_w_0 rew29 hw29 r_1.Rate.Num v32 hv32) rfl rfl (TVles.refl _) (fun rew31 => ([(b2, RS.box [.int .i64 r_1.Rate.Num, .int .i64 r_1.Rate.Per, .int .i64 r_1.Rate.Burst]), (b1, RS.box [.bool r_1.Allow, .int .i64 r_1.When.Kind, .int .i64 r_1.When.Field, .slice .ro 2 (r_1.When.Ranges.map GRange.enc), encF r_1.When.Low, encF r_1.When.High, .slice .ro 6 (r_1.When.Of.map GExpr.enc), .int .i64 r_1.Rate.Num, .int .i64 r_1.Rate.Per, .int .i64 r_1.Rate.Burst, .int .i64 r_1.Line])] ++ rew31)) [(b2, RS.box [.int .i64 r_1.Rate.Num, .int .i64 r_1.Rate.Per, .int .i64 r_1.Rate.Burst]), (b1, RS.box [.bool r_1.Allow, .int .i64 r_1.When.Kind, .int .i64 r_1.When.Field, .slice .ro 2 (r_1.When.Ranges.map GRange.enc), encF r_1.When.Low, encF r_1.When.High, .slice .ro 6 (r_1.When.Of.map GExpr.enc), .int .i64 r_1.Rate.Num, .int .i64 r_1.Rate.Per, .int .i64 r_1.Rate.Burst, .int .i64 r_1.Line])] [] (fun _ => by simp) rfl) ?_
                rintro E' s' ⟨rew31, hw31, rfl, hs'⟩
                rw [hs']
                show AReg _ _ _ _ _ _ ((65, .tuple []) :: _) ([(b2, RS.box [.int .i64 r_1.Rate.Num, .int .i64 r_1.Rate.Per, .int .i64 r_1.Rate.Burst]), (b1, RS.box [.bool r_1.Allow, .int .i64 r_1.When.Kind, .int .i64 r_1.When.Field, .slice .ro 2 (r_1.When.Ranges.map GRange.enc), encF r_1.When.Low, encF r_1.When.High, .slice .ro 6 (r_1.When.Of.map GExpr.enc), .int .i64 r_1.Rate.Num, .int .i64 r_1.Rate.Per, .int .i64 r_1.Rate.Burst, .int .i64 r_1.Line])] ++ rew31)
                refine .done rfl ?_
                refine ac_seq ?_
                refine ac_region rfl ?_
                refine rq (u := .ptr bp_w_0 0) rfl rfl rfl (p_move rfl) rfl ?_
                refine rq (u := .ptr bp_w_0 0) rfl rfl rfl (p_nilCheck_ptr rfl rfl) rfl ?_
                refine rq (u := .ptr bp_w_0 0) rfl rfl rfl (p_field_ptr fl_51_0 rfl rfl) rfl ?_
                obtain ⟨v34, hv34, h⟩ := bnd_some h
                refine ra rfl rfl (a_callY en_35 (ws_call bp_w_0 v32 (⟨#[32, 112, 101, 114, 32]⟩ : ByteArray) v34 hv34 rew31 hw31) rfl rfl (TVles.refl _) (fun rew33 => ([(b2, RS.box [.int .i64 r_1.Rate.Num, .int .i64 r_1.Rate.Per, .int .i64 r_1.Rate.Burst]), (b1, RS.box [.bool r_1.Allow, .int .i64 r_1.When.Kind, .int .i64 r_1.When.Field, .slice .ro 2 (r_1.When.Ranges.map GRange.enc), encF r_1.When.Low, encF r_1.When.High, .slice .ro 6 (r_1.When.Of.map GExpr.enc), .int .i64 r_1.Rate.Num, .int .i64 r_1.Rate.Per, .int .i64 r_1.Rate.Burst, .int .i64 r_1.Line])] ++ rew33)) [(b2, RS.box [.int .i64 r_1.Rate.Num, .int .i64 r_1.Rate.Per, .int .i64 r_1.Rate.Burst]), (b1, RS.box [.bool r_1.Allow, .int .i64 r_1.When.Kind, .int .i64 r_1.When.Field, .slice .ro 2 (r_1.When.Ranges.map GRange.enc), encF r_1.When.Low, encF r_1.When.High, .slice .ro 6 (r_1.When.Of.map GExpr.enc), .int .i64 r_1.Rate.Num, .int .i64 r_1.Rate.Per, .int .i64 r_1.Rate.Burst, .int .i64 r_1.Line])] [] (fun _ => by simp) rfl) ?_
                rintro E' s' ⟨rew33, hw33, rfl, hs'⟩
                rw [hs']
                show AReg _ _ _ _ _ _ ((69, .tuple [.int .i64 ((⟨#[32, 112, 101, 114, 32]⟩ : ByteArray).size : Int), .nili]) :: _) ([(b2, RS.box [.int .i64 r_1.Rate.Num, .int .i64 r_1.Rate.Per, .int .i64 r_1.Rate.Burst]), (b1, RS.box [.bool r_1.Allow, .int .i64 r_1.When.Kind, .int .i64 r_1.When.Field, .slice .ro 2 (r_1.When.Ranges.map GRange.enc), encF r_1.When.Low, encF r_1.When.High, .slice .ro 6 (r_1.When.Of.map GExpr.enc), .int .i64 r_1.Rate.Num, .int .i64 r_1.Rate.Per, .int .i64 r_1.Rate.Burst, .int .i64 r_1.Line])] ++ rew33)
                refine .done rfl ?_
                refine ac_seq ?_
                refine ac_region rfl ?_
                refine rq (u := .ptr bp_w_0 0) rfl rfl rfl (p_move rfl) rfl ?_
                refine rq (u := .ptr b2 1) rfl rfl rfl (p_field_ptr fl_37_1 rfl rfl) rfl ?_
                refine rq (u := .int .i64 r_1.Rate.Per) rfl rfl rfl (p_load_ptr ti_3 (fun _ => rfl) rfl rfl (.head _) (Nat.le_of_ble_eq_true rfl)) rfl ?_
                obtain ⟨v36, hv36, h⟩ := bnd_some h
                refine ra rfl rfl (a_callY en_37 (tree_writer_number_fn k v34 bp_w_0 rew33 hw33 r_1.Rate.Per v36 hv36) rfl rfl (TVles.refl _) (fun rew35 => ([(b2, RS.box [.int .i64 r_1.Rate.Num, .int .i64 r_1.Rate.Per, .int .i64 r_1.Rate.Burst]), (b1, RS.box [.bool r_1.Allow, .int .i64 r_1.When.Kind, .int .i64 r_1.When.Field, .slice .ro 2 (r_1.When.Ranges.map GRange.enc), encF r_1.When.Low, encF r_1.When.High, .slice .ro 6 (r_1.When.Of.map GExpr.enc), .int .i64 r_1.Rate.Num, .int .i64 r_1.Rate.Per, .int .i64 r_1.Rate.Burst, .int .i64 r_1.Line])] ++ rew35)) [(b2, RS.box [.int .i64 r_1.Rate.Num, .int .i64 r_1.Rate.Per, .int .i64 r_1.Rate.Burst]), (b1, RS.box [.bool r_1.Allow, .int .i64 r_1.When.Kind, .int .i64 r_1.When.Field, .slice .ro 2 (r_1.When.Ranges.map GRange.enc), encF r_1.When.Low, encF r_1.When.High, .slice .ro 6 (r_1.When.Of.map GExpr.enc), .int .i64 r_1.Rate.Num, .int .i64 r_1.Rate.Per, .int .i64 r_1.Rate.Burst, .int .i64 r_1.Line])] [] (fun _ => by simp) rfl) ?_
                rintro E' s' ⟨rew35, hw35, rfl, hs'⟩
                rw [hs']
                show AReg _ _ _ _ _ _ ((73, .tuple []) :: _) ([(b2, RS.box [.int .i64 r_1.Rate.Num, .int .i64 r_1.Rate.Per, .int .i64 r_1.Rate.Burst]), (b1, RS.box [.bool r_1.Allow, .int .i64 r_1.When.Kind, .int .i64 r_1.When.Field, .slice .ro 2 (r_1.When.Ranges.map GRange.enc), encF r_1.When.Low, encF r_1.When.High, .slice .ro 6 (r_1.When.Of.map GExpr.enc), .int .i64 r_1.Rate.Num, .int .i64 r_1.Rate.Per, .int .i64 r_1.Rate.Burst, .int .i64 r_1.Line])] ++ rew35)
                refine .done rfl ?_
                refine ac_seq ?_
                refine ac_region rfl ?_
                refine rq (u := .ptr bp_w_0 0) rfl rfl rfl (p_move rfl) rfl ?_
                refine rq (u := .ptr bp_w_0 0) rfl rfl rfl (p_nilCheck_ptr rfl rfl) rfl ?_
                refine rq (u := .ptr bp_w_0 0) rfl rfl rfl (p_field_ptr fl_51_0 rfl rfl) rfl ?_
                obtain ⟨v38, hv38, h⟩ := bnd_some h
                refine ra rfl rfl (a_callY en_35 (ws_call bp_w_0 v36 (⟨#[32, 98, 117, 114, 115, 116, 32]⟩ : ByteArray) v38 hv38 rew35 hw35) rfl rfl (TVles.refl _) (fun rew37 => ([(b2, RS.box [.int .i64 r_1.Rate.Num, .int .i64 r_1.Rate.Per, .int .i64 r_1.Rate.Burst]), (b1, RS.box [.bool r_1.Allow, .int .i64 r_1.When.Kind, .int .i64 r_1.When.Field, .slice .ro 2 (r_1.When.Ranges.map GRange.enc), encF r_1.When.Low, encF r_1.When.High, .slice .ro 6 (r_1.When.Of.map GExpr.enc), .int .i64 r_1.Rate.Num, .int .i64 r_1.Rate.Per, .int .i64 r_1.Rate.Burst, .int .i64 r_1.Line])] ++ rew37)) [(b2, RS.box [.int .i64 r_1.Rate.Num, .int .i64 r_1.Rate.Per, .int .i64 r_1.Rate.Burst]), (b1, RS.box [.bool r_1.Allow, .int .i64 r_1.When.Kind, .int .i64 r_1.When.Field, .slice .ro 2 (r_1.When.Ranges.map GRange.enc), encF r_1.When.Low, encF r_1.When.High, .slice .ro 6 (r_1.When.Of.map GExpr.enc), .int .i64 r_1.Rate.Num, .int .i64 r_1.Rate.Per, .int .i64 r_1.Rate.Burst, .int .i64 r_1.Line])] [] (fun _ => by simp) rfl) ?_
                rintro E' s' ⟨rew37, hw37, rfl, hs'⟩
                rw [hs']
                show AReg _ _ _ _ _ _ ((77, .tuple [.int .i64 ((⟨#[32, 98, 117, 114, 115, 116, 32]⟩ : ByteArray).size : Int), .nili]) :: _) ([(b2, RS.box [.int .i64 r_1.Rate.Num, .int .i64 r_1.Rate.Per, .int .i64 r_1.Rate.Burst]), (b1, RS.box [.bool r_1.Allow, .int .i64 r_1.When.Kind, .int .i64 r_1.When.Field, .slice .ro 2 (r_1.When.Ranges.map GRange.enc), encF r_1.When.Low, encF r_1.When.High, .slice .ro 6 (r_1.When.Of.map GExpr.enc), .int .i64 r_1.Rate.Num, .int .i64 r_1.Rate.Per, .int .i64 r_1.Rate.Burst, .int .i64 r_1.Line])] ++ rew37)
                refine .done rfl ?_
                refine ac_region rfl ?_
                refine rq (u := .ptr bp_w_0 0) rfl rfl rfl (p_move rfl) rfl ?_
                refine rq (u := .ptr b2 2) rfl rfl rfl (p_field_ptr fl_37_2 rfl rfl) rfl ?_
                refine rq (u := .int .i64 r_1.Rate.Burst) rfl rfl rfl (p_load_ptr ti_3 (fun _ => rfl) rfl rfl (.head _) (Nat.le_of_ble_eq_true rfl)) rfl ?_
                obtain ⟨v40, hv40, h⟩ := bnd_some h
                refine ra rfl rfl (a_callY en_37 (tree_writer_number_fn k v38 bp_w_0 rew37 hw37 r_1.Rate.Burst v40 hv40) rfl rfl (TVles.refl _) (fun rew39 => ([(b2, RS.box [.int .i64 r_1.Rate.Num, .int .i64 r_1.Rate.Per, .int .i64 r_1.Rate.Burst]), (b1, RS.box [.bool r_1.Allow, .int .i64 r_1.When.Kind, .int .i64 r_1.When.Field, .slice .ro 2 (r_1.When.Ranges.map GRange.enc), encF r_1.When.Low, encF r_1.When.High, .slice .ro 6 (r_1.When.Of.map GExpr.enc), .int .i64 r_1.Rate.Num, .int .i64 r_1.Rate.Per, .int .i64 r_1.Rate.Burst, .int .i64 r_1.Line])] ++ rew39)) [(b2, RS.box [.int .i64 r_1.Rate.Num, .int .i64 r_1.Rate.Per, .int .i64 r_1.Rate.Burst]), (b1, RS.box [.bool r_1.Allow, .int .i64 r_1.When.Kind, .int .i64 r_1.When.Field, .slice .ro 2 (r_1.When.Ranges.map GRange.enc), encF r_1.When.Low, encF r_1.When.High, .slice .ro 6 (r_1.When.Of.map GExpr.enc), .int .i64 r_1.Rate.Num, .int .i64 r_1.Rate.Per, .int .i64 r_1.Rate.Burst, .int .i64 r_1.Line])] [] (fun _ => by simp) rfl) ?_
                rintro E' s' ⟨rew39, hw39, rfl, hs'⟩
                rw [hs']
                show AReg _ _ _ _ _ _ ((81, .tuple []) :: _) ([(b2, RS.box [.int .i64 r_1.Rate.Num, .int .i64 r_1.Rate.Per, .int .i64 r_1.Rate.Burst]), (b1, RS.box [.bool r_1.Allow, .int .i64 r_1.When.Kind, .int .i64 r_1.When.Field, .slice .ro 2 (r_1.When.Ranges.map GRange.enc), encF r_1.When.Low, encF r_1.When.High, .slice .ro 6 (r_1.When.Of.map GExpr.enc), .int .i64 r_1.Rate.Num, .int .i64 r_1.Rate.Per, .int .i64 r_1.Rate.Burst, .int .i64 r_1.Line])] ++ rew39)
                refine .done rfl ?_
                refine ac_seq ?_
                refine ac_region rfl ?_
                refine rq (u := .ptr bp_w_0 0) rfl rfl rfl (p_move rfl) rfl ?_
                refine rq (u := .ptr bp_w_0 0) rfl rfl rfl (p_nilCheck_ptr rfl rfl) rfl ?_
                refine rq (u := .ptr bp_w_0 0) rfl rfl rfl (p_field_ptr fl_51_0 rfl rfl) rfl ?_
                obtain ⟨v42, hv42, h⟩ := bnd_some h
                refine ra rfl rfl (a_callY en_35 (ws_call bp_w_0 v40 (⟨#[59, 10]⟩ : ByteArray) v42 hv42 rew39 hw39) rfl rfl (TVles.refl _) (fun rew41 => ([(b2, RS.box [.int .i64 r_1.Rate.Num, .int .i64 r_1.Rate.Per, .int .i64 r_1.Rate.Burst]), (b1, RS.box [.bool r_1.Allow, .int .i64 r_1.When.Kind, .int .i64 r_1.When.Field, .slice .ro 2 (r_1.When.Ranges.map GRange.enc), encF r_1.When.Low, encF r_1.When.High, .slice .ro 6 (r_1.When.Of.map GExpr.enc), .int .i64 r_1.Rate.Num, .int .i64 r_1.Rate.Per, .int .i64 r_1.Rate.Burst, .int .i64 r_1.Line])] ++ rew41)) [(b2, RS.box [.int .i64 r_1.Rate.Num, .int .i64 r_1.Rate.Per, .int .i64 r_1.Rate.Burst]), (b1, RS.box [.bool r_1.Allow, .int .i64 r_1.When.Kind, .int .i64 r_1.When.Field, .slice .ro 2 (r_1.When.Ranges.map GRange.enc), encF r_1.When.Low, encF r_1.When.High, .slice .ro 6 (r_1.When.Of.map GExpr.enc), .int .i64 r_1.Rate.Num, .int .i64 r_1.Rate.Per, .int .i64 r_1.Rate.Burst, .int .i64 r_1.Line])] [] (fun _ => by simp) rfl) ?_
                rintro E' s' ⟨rew41, hw41, rfl, hs'⟩
                rw [hs']
                show AReg _ _ _ _ _ _ ((85, .tuple [.int .i64 ((⟨#[59, 10]⟩ : ByteArray).size : Int), .nili]) :: _) ([(b2, RS.box [.int .i64 r_1.Rate.Num, .int .i64 r_1.Rate.Per, .int .i64 r_1.Rate.Burst]), (b1, RS.box [.bool r_1.Allow, .int .i64 r_1.When.Kind, .int .i64 r_1.When.Field, .slice .ro 2 (r_1.When.Ranges.map GRange.enc), encF r_1.When.Low, encF r_1.When.High, .slice .ro 6 (r_1.When.Of.map GExpr.enc), .int .i64 r_1.Rate.Num, .int .i64 r_1.Rate.Per, .int .i64 r_1.Rate.Burst, .int .i64 r_1.Line])] ++ rew41)
                refine .done rfl ?_
                refine ac_seq ?_
                refine ac_region rfl ?_
                refine rq (u := .bool true) rfl rfl rfl (p_assign rfl) rfl ?_
                refine .done rfl ?_
                refine ac_ret ?_
                show Fin _ _ _ _ _ _ _
                exact fin_ret (Nat.le_of_ble_eq_true rfl) rfl ⟨rew41, (by obtain rfl := Option.some.inj h; exact hw41), (by obtain rfl := Option.some.inj h; rfl), (ResLe.sub (by simp))⟩
              · replace h := cond_f hc45 h
                refine ac_skip ?_
                refine ac_seq ?_
                refine ac_region rfl ?_
                refine rq (u := .ptr bp_w_0 0) rfl rfl rfl (p_move rfl) rfl ?_
                refine rq (u := .ptr bp_w_0 0) rfl rfl rfl (p_nilCheck_ptr rfl rfl) rfl ?_
                refine rq (u := .ptr bp_w_0 0) rfl rfl rfl (p_field_ptr fl_51_0 rfl rfl) rfl ?_
                obtain ⟨v44, hv44, h⟩ := bnd_some h
                refine ra rfl rfl (a_callY en_35 (ws_call bp_w_0 v7 (⟨#[59, 10]⟩ : ByteArray) v44 hv44 rew6 hw6) rfl rfl (TVles.refl _) (fun rew43 => ([(b2, RS.box [.int .i64 r_1.Rate.Num, .int .i64 r_1.Rate.Per, .int .i64 r_1.Rate.Burst]), (b1, RS.box [.bool r_1.Allow, .int .i64 r_1.When.Kind, .int .i64 r_1.When.Field, .slice .ro 2 (r_1.When.Ranges.map GRange.enc), encF r_1.When.Low, encF r_1.When.High, .slice .ro 6 (r_1.When.Of.map GExpr.enc), .int .i64 r_1.Rate.Num, .int .i64 r_1.Rate.Per, .int .i64 r_1.Rate.Burst, .int .i64 r_1.Line])] ++ rew43)) [(b2, RS.box [.int .i64 r_1.Rate.Num, .int .i64 r_1.Rate.Per, .int .i64 r_1.Rate.Burst]), (b1, RS.box [.bool r_1.Allow, .int .i64 r_1.When.Kind, .int .i64 r_1.When.Field, .slice .ro 2 (r_1.When.Ranges.map GRange.enc), encF r_1.When.Low, encF r_1.When.High, .slice .ro 6 (r_1.When.Of.map GExpr.enc), .int .i64 r_1.Rate.Num, .int .i64 r_1.Rate.Per, .int .i64 r_1.Rate.Burst, .int .i64 r_1.Line])] [] (fun _ => by simp) rfl) ?_
                rintro E' s' ⟨rew43, hw43, rfl, hs'⟩
                rw [hs']
                show AReg _ _ _ _ _ _ ((85, .tuple [.int .i64 ((⟨#[59, 10]⟩ : ByteArray).size : Int), .nili]) :: _) ([(b2, RS.box [.int .i64 r_1.Rate.Num, .int .i64 r_1.Rate.Per, .int .i64 r_1.Rate.Burst]), (b1, RS.box [.bool r_1.Allow, .int .i64 r_1.When.Kind, .int .i64 r_1.When.Field, .slice .ro 2 (r_1.When.Ranges.map GRange.enc), encF r_1.When.Low, encF r_1.When.High, .slice .ro 6 (r_1.When.Of.map GExpr.enc), .int .i64 r_1.Rate.Num, .int .i64 r_1.Rate.Per, .int .i64 r_1.Rate.Burst, .int .i64 r_1.Line])] ++ rew43)
                refine .done rfl ?_
                refine ac_seq ?_
                refine ac_region rfl ?_
                refine rq (u := .bool true) rfl rfl rfl (p_assign rfl) rfl ?_
                refine .done rfl ?_
                refine ac_ret ?_
                show Fin _ _ _ _ _ _ _
                exact fin_ret (Nat.le_of_ble_eq_true rfl) rfl ⟨rew43, (by obtain rfl := Option.some.inj h; exact hw43), (by obtain rfl := Option.some.inj h; rfl), (ResLe.sub (by simp))⟩
          · replace h := cond_f hc88 h
            refine ac_region rfl ?_
            refine rq (u := .ptr bp_w_0 0) rfl rfl rfl (p_move rfl) rfl ?_
            refine rq (u := .ptr bp_w_0 0) rfl rfl rfl (p_nilCheck_ptr rfl rfl) rfl ?_
            refine rq (u := .ptr bp_w_0 0) rfl rfl rfl (p_field_ptr fl_51_0 rfl rfl) rfl ?_
            obtain ⟨v48, hv48, h⟩ := bnd_some h
            refine ra rfl rfl (a_callY en_35 (ws_call bp_w_0 w_0 (⟨#[100, 101, 110, 121]⟩ : ByteArray) v48 hv48 re_w_0 hw_w_0) rfl rfl (TVles.refl _) (fun rew47 => ([(b2, RS.box [.int .i64 r_1.Rate.Num, .int .i64 r_1.Rate.Per, .int .i64 r_1.Rate.Burst]), (b1, RS.box [.bool r_1.Allow, .int .i64 r_1.When.Kind, .int .i64 r_1.When.Field, .slice .ro 2 (r_1.When.Ranges.map GRange.enc), encF r_1.When.Low, encF r_1.When.High, .slice .ro 6 (r_1.When.Of.map GExpr.enc), .int .i64 r_1.Rate.Num, .int .i64 r_1.Rate.Per, .int .i64 r_1.Rate.Burst, .int .i64 r_1.Line])] ++ rew47)) [(b2, RS.box [.int .i64 r_1.Rate.Num, .int .i64 r_1.Rate.Per, .int .i64 r_1.Rate.Burst]), (b1, RS.box [.bool r_1.Allow, .int .i64 r_1.When.Kind, .int .i64 r_1.When.Field, .slice .ro 2 (r_1.When.Ranges.map GRange.enc), encF r_1.When.Low, encF r_1.When.High, .slice .ro 6 (r_1.When.Of.map GExpr.enc), .int .i64 r_1.Rate.Num, .int .i64 r_1.Rate.Per, .int .i64 r_1.Rate.Burst, .int .i64 r_1.Line])] [] (fun _ => by simp) rfl) ?_
            rintro E' s' ⟨rew47, hw47, rfl, hs'⟩
            rw [hs']
            show AReg _ _ _ _ _ _ ((42, .tuple [.int .i64 ((⟨#[100, 101, 110, 121]⟩ : ByteArray).size : Int), .nili]) :: _) ([(b2, RS.box [.int .i64 r_1.Rate.Num, .int .i64 r_1.Rate.Per, .int .i64 r_1.Rate.Burst]), (b1, RS.box [.bool r_1.Allow, .int .i64 r_1.When.Kind, .int .i64 r_1.When.Field, .slice .ro 2 (r_1.When.Ranges.map GRange.enc), encF r_1.When.Low, encF r_1.When.High, .slice .ro 6 (r_1.When.Of.map GExpr.enc), .int .i64 r_1.Rate.Num, .int .i64 r_1.Rate.Per, .int .i64 r_1.Rate.Burst, .int .i64 r_1.Line])] ++ rew47)
            refine .done rfl ?_
            refine ac_seq ?_
            refine ac_seq ?_
            refine ac_region rfl ?_
            refine rq (u := .ptr b1 1) rfl rfl rfl (p_field_ptr fl_39_1 rfl rfl) rfl ?_
            refine rq (u := .ptr b1 1) rfl rfl rfl (p_field_ptr fl_33_0 rfl rfl) rfl ?_
            refine rq (u := .int .i64 r_1.When.Kind) rfl rfl rfl (p_load_ptr ti_3 (fun _ => rfl) rfl rfl (.tail _ (.head _)) (Nat.le_of_ble_eq_true rfl)) rfl ?_
            refine rq (u := .bool (r_1.When.Kind != 0)) rfl rfl rfl (p_neq rfl rfl rfl) rfl ?_
            refine .done rfl ?_
            refine ac_cond rfl rfl (fun hc87 => ?_) (fun hc87 => ?_)
            · replace h := cond_t hc87 h
              refine ac_seq ?_
              refine ac_region rfl ?_
              refine rq (u := .ptr bp_w_0 0) rfl rfl rfl (p_move rfl) rfl ?_
              refine rq (u := .ptr bp_w_0 0) rfl rfl rfl (p_nilCheck_ptr rfl rfl) rfl ?_
              refine rq (u := .ptr bp_w_0 0) rfl rfl rfl (p_field_ptr fl_51_0 rfl rfl) rfl ?_
              obtain ⟨v50, hv50, h⟩ := bnd_some h
              refine ra rfl rfl (a_callY en_35 (ws_call bp_w_0 v48 (⟨#[32, 119, 104, 101, 110, 32]⟩ : ByteArray) v50 hv50 rew47 hw47) rfl rfl (TVles.refl _) (fun rew49 => ([(b2, RS.box [.int .i64 r_1.Rate.Num, .int .i64 r_1.Rate.Per, .int .i64 r_1.Rate.Burst]), (b1, RS.box [.bool r_1.Allow, .int .i64 r_1.When.Kind, .int .i64 r_1.When.Field, .slice .ro 2 (r_1.When.Ranges.map GRange.enc), encF r_1.When.Low, encF r_1.When.High, .slice .ro 6 (r_1.When.Of.map GExpr.enc), .int .i64 r_1.Rate.Num, .int .i64 r_1.Rate.Per, .int .i64 r_1.Rate.Burst, .int .i64 r_1.Line])] ++ rew49)) [(b2, RS.box [.int .i64 r_1.Rate.Num, .int .i64 r_1.Rate.Per, .int .i64 r_1.Rate.Burst]), (b1, RS.box [.bool r_1.Allow, .int .i64 r_1.When.Kind, .int .i64 r_1.When.Field, .slice .ro 2 (r_1.When.Ranges.map GRange.enc), encF r_1.When.Low, encF r_1.When.High, .slice .ro 6 (r_1.When.Of.map GExpr.enc), .int .i64 r_1.Rate.Num, .int .i64 r_1.Rate.Per, .int .i64 r_1.Rate.Burst, .int .i64 r_1.Line])] [] (fun _ => by simp) rfl) ?_
              rintro E' s' ⟨rew49, hw49, rfl, hs'⟩
              rw [hs']
              show AReg _ _ _ _ _ _ ((50, .tuple [.int .i64 ((⟨#[32, 119, 104, 101, 110, 32]⟩ : ByteArray).size : Int), .nili]) :: _) ([(b2, RS.box [.int .i64 r_1.Rate.Num, .int .i64 r_1.Rate.Per, .int .i64 r_1.Rate.Burst]), (b1, RS.box [.bool r_1.Allow, .int .i64 r_1.When.Kind, .int .i64 r_1.When.Field, .slice .ro 2 (r_1.When.Ranges.map GRange.enc), encF r_1.When.Low, encF r_1.When.High, .slice .ro 6 (r_1.When.Of.map GExpr.enc), .int .i64 r_1.Rate.Num, .int .i64 r_1.Rate.Per, .int .i64 r_1.Rate.Burst, .int .i64 r_1.Line])] ++ rew49)
              refine .done rfl ?_
              refine ac_region rfl ?_
              refine rq (u := .ptr bp_w_0 0) rfl rfl rfl (p_move rfl) rfl ?_
              refine rq (u := .ptr b1 1) rfl rfl rfl (p_field_ptr fl_39_1 rfl rfl) rfl ?_
              refine rq (u := .agg (GExpr.cells r_1.When)) rfl rfl rfl (p_load_ptr ti_33 nofun rfl rfl (.tail _ (.head _)) (Nat.le_of_ble_eq_true rfl)) rfl ?_
              obtain ⟨v52, hv52, h⟩ := bnd_some h
              refine ra rfl rfl (a_callY en_36 (tree_writer_expr_fn k v50 bp_w_0 rew49 hw49 r_1.When v52 hv52) rfl rfl (TVles.refl _) (fun rew51 => ([(b2, RS.box [.int .i64 r_1.Rate.Num, .int .i64 r_1.Rate.Per, .int .i64 r_1.Rate.Burst]), (b1, RS.box [.bool r_1.Allow, .int .i64 r_1.When.Kind, .int .i64 r_1.When.Field, .slice .ro 2 (r_1.When.Ranges.map GRange.enc), encF r_1.When.Low, encF r_1.When.High, .slice .ro 6 (r_1.When.Of.map GExpr.enc), .int .i64 r_1.Rate.Num, .int .i64 r_1.Rate.Per, .int .i64 r_1.Rate.Burst, .int .i64 r_1.Line])] ++ rew51)) [(b2, RS.box [.int .i64 r_1.Rate.Num, .int .i64 r_1.Rate.Per, .int .i64 r_1.Rate.Burst]), (b1, RS.box [.bool r_1.Allow, .int .i64 r_1.When.Kind, .int .i64 r_1.When.Field, .slice .ro 2 (r_1.When.Ranges.map GRange.enc), encF r_1.When.Low, encF r_1.When.High, .slice .ro 6 (r_1.When.Of.map GExpr.enc), .int .i64 r_1.Rate.Num, .int .i64 r_1.Rate.Per, .int .i64 r_1.Rate.Burst, .int .i64 r_1.Line])] [] (fun _ => by simp) rfl) ?_
              rintro E' s' ⟨rew51, hw51, rfl, hs'⟩
              rw [hs']
              show AReg _ _ _ _ _ _ ((54, .tuple []) :: _) ([(b2, RS.box [.int .i64 r_1.Rate.Num, .int .i64 r_1.Rate.Per, .int .i64 r_1.Rate.Burst]), (b1, RS.box [.bool r_1.Allow, .int .i64 r_1.When.Kind, .int .i64 r_1.When.Field, .slice .ro 2 (r_1.When.Ranges.map GRange.enc), encF r_1.When.Low, encF r_1.When.High, .slice .ro 6 (r_1.When.Of.map GExpr.enc), .int .i64 r_1.Rate.Num, .int .i64 r_1.Rate.Per, .int .i64 r_1.Rate.Burst, .int .i64 r_1.Line])] ++ rew51)
              refine .done rfl ?_
              refine ac_seq ?_
              refine ac_seq ?_
              refine ac_region rfl ?_
              refine rq (u := .ptr b2 1) rfl rfl rfl (p_field_ptr fl_37_1 rfl rfl) rfl ?_
              refine rq (u := .int .i64 r_1.Rate.Per) rfl rfl rfl (p_load_ptr ti_3 (fun _ => rfl) rfl rfl (.head _) (Nat.le_of_ble_eq_true rfl)) rfl ?_
              refine rq (u := .bool (decide (0 < r_1.Rate.Per))) rfl rfl rfl (p_gtr rfl rfl rfl) rfl ?_
              refine .done rfl ?_
              refine ac_cond rfl rfl (fun hc69 => ?_) (fun hc69 => ?_)
              · replace h := cond_t hc69 h
                refine ac_seq ?_
                refine ac_region rfl ?_
                refine rq (u := .ptr bp_w_0 0) rfl rfl rfl (p_move rfl) rfl ?_
                refine rq (u := .ptr bp_w_0 0) rfl rfl rfl (p_nilCheck_ptr rfl rfl) rfl ?_
                refine rq (u := .ptr bp_w_0 0) rfl rfl rfl (p_field_ptr fl_51_0 rfl rfl) rfl ?_
                obtain ⟨v54, hv54, h⟩ := bnd_some h
                refine ra rfl rfl (a_callY en_35 (ws_call bp_w_0 v52 (⟨#[32, 114, 97, 116, 101, 32]⟩ : ByteArray) v54 hv54 rew51 hw51) rfl rfl (TVles.refl _) (fun rew53 => ([(b2, RS.box [.int .i64 r_1.Rate.Num, .int .i64 r_1.Rate.Per, .int .i64 r_1.Rate.Burst]), (b1, RS.box [.bool r_1.Allow, .int .i64 r_1.When.Kind, .int .i64 r_1.When.Field, .slice .ro 2 (r_1.When.Ranges.map GRange.enc), encF r_1.When.Low, encF r_1.When.High, .slice .ro 6 (r_1.When.Of.map GExpr.enc), .int .i64 r_1.Rate.Num, .int .i64 r_1.Rate.Per, .int .i64 r_1.Rate.Burst, .int .i64 r_1.Line])] ++ rew53)) [(b2, RS.box [.int .i64 r_1.Rate.Num, .int .i64 r_1.Rate.Per, .int .i64 r_1.Rate.Burst]), (b1, RS.box [.bool r_1.Allow, .int .i64 r_1.When.Kind, .int .i64 r_1.When.Field, .slice .ro 2 (r_1.When.Ranges.map GRange.enc), encF r_1.When.Low, encF r_1.When.High, .slice .ro 6 (r_1.When.Of.map GExpr.enc), .int .i64 r_1.Rate.Num, .int .i64 r_1.Rate.Per, .int .i64 r_1.Rate.Burst, .int .i64 r_1.Line])] [] (fun _ => by simp) rfl) ?_
                rintro E' s' ⟨rew53, hw53, rfl, hs'⟩
                rw [hs']
                show AReg _ _ _ _ _ _ ((61, .tuple [.int .i64 ((⟨#[32, 114, 97, 116, 101, 32]⟩ : ByteArray).size : Int), .nili]) :: _) ([(b2, RS.box [.int .i64 r_1.Rate.Num, .int .i64 r_1.Rate.Per, .int .i64 r_1.Rate.Burst]), (b1, RS.box [.bool r_1.Allow, .int .i64 r_1.When.Kind, .int .i64 r_1.When.Field, .slice .ro 2 (r_1.When.Ranges.map GRange.enc), encF r_1.When.Low, encF r_1.When.High, .slice .ro 6 (r_1.When.Of.map GExpr.enc), .int .i64 r_1.Rate.Num, .int .i64 r_1.Rate.Per, .int .i64 r_1.Rate.Burst, .int .i64 r_1.Line])] ++ rew53)
                refine .done rfl ?_
                refine ac_seq ?_
                refine ac_region rfl ?_
                refine rq (u := .ptr bp_w_0 0) rfl rfl rfl (p_move rfl) rfl ?_
                refine rq (u := .ptr b2 0) rfl rfl rfl (p_field_ptr fl_37_0 rfl rfl) rfl ?_
                refine rq (u := .int .i64 r_1.Rate.Num) rfl rfl rfl (p_load_ptr ti_3 (fun _ => rfl) rfl rfl (.head _) (Nat.le_of_ble_eq_true rfl)) rfl ?_
                obtain ⟨v56, hv56, h⟩ := bnd_some h
                refine ra rfl rfl (a_callY en_37 (tree_writer_number_fn k v54 bp_w_0 rew53 hw53 r_1.Rate.Num v56 hv56) rfl rfl (TVles.refl _) (fun rew55 => ([(b2, RS.box [.int .i64 r_1.Rate.Num, .int .i64 r_1.Rate.Per, .int .i64 r_1.Rate.Burst]), (b1, RS.box [.bool r_1.Allow, .int .i64 r_1.When.Kind, .int .i64 r_1.When.Field, .slice .ro 2 (r_1.When.Ranges.map GRange.enc), encF r_1.When.Low, encF r_1.When.High, .slice .ro 6 (r_1.When.Of.map GExpr.enc), .int .i64 r_1.Rate.Num, .int .i64 r_1.Rate.Per, .int .i64 r_1.Rate.Burst, .int .i64 r_1.Line])] ++ rew55)) [(b2, RS.box [.int .i64 r_1.Rate.Num, .int .i64 r_1.Rate.Per, .int .i64 r_1.Rate.Burst]), (b1, RS.box [.bool r_1.Allow, .int .i64 r_1.When.Kind, .int .i64 r_1.When.Field, .slice .ro 2 (r_1.When.Ranges.map GRange.enc), encF r_1.When.Low, encF r_1.When.High, .slice .ro 6 (r_1.When.Of.map GExpr.enc), .int .i64 r_1.Rate.Num, .int .i64 r_1.Rate.Per, .int .i64 r_1.Rate.Burst, .int .i64 r_1.Line])] [] (fun _ => by simp) rfl) ?_
                rintro E' s' ⟨rew55, hw55, rfl, hs'⟩
                rw [hs']
                show AReg _ _ _ _ _ _ ((65, .tuple []) :: _) ([(b2, RS.box [.int .i64 r_1.Rate.Num, .int .i64 r_1.Rate.Per, .int .i64 r_1.Rate.Burst]), (b1, RS.box [.bool r_1.Allow, .int .i64 r_1.When.Kind, .int .i64 r_1.When.Field, .slice .ro 2 (r_1.When.Ranges.map GRange.enc), encF r_1.When.Low, encF r_1.When.High, .slice .ro 6 (r_1.When.Of.map GExpr.enc), .int .i64 r_1.Rate.Num, .int .i64 r_1.Rate.Per, .int .i64 r_1.Rate.Burst, .int .i64 r_1.Line])] ++ rew55)
                refine .done rfl ?_
                refine ac_seq ?_
                refine ac_region rfl ?_
                refine rq (u := .ptr bp_w_0 0) rfl rfl rfl (p_move rfl) rfl ?_
                refine rq (u := .ptr bp_w_0 0) rfl rfl rfl (p_nilCheck_ptr rfl rfl) rfl ?_
                refine rq (u := .ptr bp_w_0 0) rfl rfl rfl (p_field_ptr fl_51_0 rfl rfl) rfl ?_
                obtain ⟨v58, hv58, h⟩ := bnd_some h
                refine ra rfl rfl (a_callY en_35 (ws_call bp_w_0 v56 (⟨#[32, 112, 101, 114, 32]⟩ : ByteArray) v58 hv58 rew55 hw55) rfl rfl (TVles.refl _) (fun rew57 => ([(b2, RS.box [.int .i64 r_1.Rate.Num, .int .i64 r_1.Rate.Per, .int .i64 r_1.Rate.Burst]), (b1, RS.box [.bool r_1.Allow, .int .i64 r_1.When.Kind, .int .i64 r_1.When.Field, .slice .ro 2 (r_1.When.Ranges.map GRange.enc), encF r_1.When.Low, encF r_1.When.High, .slice .ro 6 (r_1.When.Of.map GExpr.enc), .int .i64 r_1.Rate.Num, .int .i64 r_1.Rate.Per, .int .i64 r_1.Rate.Burst, .int .i64 r_1.Line])] ++ rew57)) [(b2, RS.box [.int .i64 r_1.Rate.Num, .int .i64 r_1.Rate.Per, .int .i64 r_1.Rate.Burst]), (b1, RS.box [.bool r_1.Allow, .int .i64 r_1.When.Kind, .int .i64 r_1.When.Field, .slice .ro 2 (r_1.When.Ranges.map GRange.enc), encF r_1.When.Low, encF r_1.When.High, .slice .ro 6 (r_1.When.Of.map GExpr.enc), .int .i64 r_1.Rate.Num, .int .i64 r_1.Rate.Per, .int .i64 r_1.Rate.Burst, .int .i64 r_1.Line])] [] (fun _ => by simp) rfl) ?_
                rintro E' s' ⟨rew57, hw57, rfl, hs'⟩
                rw [hs']
                show AReg _ _ _ _ _ _ ((69, .tuple [.int .i64 ((⟨#[32, 112, 101, 114, 32]⟩ : ByteArray).size : Int), .nili]) :: _) ([(b2, RS.box [.int .i64 r_1.Rate.Num, .int .i64 r_1.Rate.Per, .int .i64 r_1.Rate.Burst]), (b1, RS.box [.bool r_1.Allow, .int .i64 r_1.When.Kind, .int .i64 r_1.When.Field, .slice .ro 2 (r_1.When.Ranges.map GRange.enc), encF r_1.When.Low, encF r_1.When.High, .slice .ro 6 (r_1.When.Of.map GExpr.enc), .int .i64 r_1.Rate.Num, .int .i64 r_1.Rate.Per, .int .i64 r_1.Rate.Burst, .int .i64 r_1.Line])] ++ rew57)
                refine .done rfl ?_
                refine ac_seq ?_
                refine ac_region rfl ?_
                refine rq (u := .ptr bp_w_0 0) rfl rfl rfl (p_move rfl) rfl ?_
                refine rq (u := .ptr b2 1) rfl rfl rfl (p_field_ptr fl_37_1 rfl rfl) rfl ?_
                refine rq (u := .int .i64 r_1.Rate.Per) rfl rfl rfl (p_load_ptr ti_3 (fun _ => rfl) rfl rfl (.head _) (Nat.le_of_ble_eq_true rfl)) rfl ?_
                obtain ⟨v60, hv60, h⟩ := bnd_some h
                refine ra rfl rfl (a_callY en_37 (tree_writer_number_fn k v58 bp_w_0 rew57 hw57 r_1.Rate.Per v60 hv60) rfl rfl (TVles.refl _) (fun rew59 => ([(b2, RS.box [.int .i64 r_1.Rate.Num, .int .i64 r_1.Rate.Per, .int .i64 r_1.Rate.Burst]), (b1, RS.box [.bool r_1.Allow, .int .i64 r_1.When.Kind, .int .i64 r_1.When.Field, .slice .ro 2 (r_1.When.Ranges.map GRange.enc), encF r_1.When.Low, encF r_1.When.High, .slice .ro 6 (r_1.When.Of.map GExpr.enc), .int .i64 r_1.Rate.Num, .int .i64 r_1.Rate.Per, .int .i64 r_1.Rate.Burst, .int .i64 r_1.Line])] ++ rew59)) [(b2, RS.box [.int .i64 r_1.Rate.Num, .int .i64 r_1.Rate.Per, .int .i64 r_1.Rate.Burst]), (b1, RS.box [.bool r_1.Allow, .int .i64 r_1.When.Kind, .int .i64 r_1.When.Field, .slice .ro 2 (r_1.When.Ranges.map GRange.enc), encF r_1.When.Low, encF r_1.When.High, .slice .ro 6 (r_1.When.Of.map GExpr.enc), .int .i64 r_1.Rate.Num, .int .i64 r_1.Rate.Per, .int .i64 r_1.Rate.Burst, .int .i64 r_1.Line])] [] (fun _ => by simp) rfl) ?_
                rintro E' s' ⟨rew59, hw59, rfl, hs'⟩
                rw [hs']
                show AReg _ _ _ _ _ _ ((73, .tuple []) :: _) ([(b2, RS.box [.int .i64 r_1.Rate.Num, .int .i64 r_1.Rate.Per, .int .i64 r_1.Rate.Burst]), (b1, RS.box [.bool r_1.Allow, .int .i64 r_1.When.Kind, .int .i64 r_1.When.Field, .slice .ro 2 (r_1.When.Ranges.map GRange.enc), encF r_1.When.Low, encF r_1.When.High, .slice .ro 6 (r_1.When.Of.map GExpr.enc), .int .i64 r_1.Rate.Num, .int .i64 r_1.Rate.Per, .int .i64 r_1.Rate.Burst, .int .i64 r_1.Line])] ++ rew59)
                refine .done rfl ?_
                refine ac_seq ?_
                refine ac_region rfl ?_
                refine rq (u := .ptr bp_w_0 0) rfl rfl rfl (p_move rfl) rfl ?_
                refine rq (u := .ptr bp_w_0 0) rfl rfl rfl (p_nilCheck_ptr rfl rfl) rfl ?_
                refine rq (u := .ptr bp_w_0 0) rfl rfl rfl (p_field_ptr fl_51_0 rfl rfl) rfl ?_
                obtain ⟨v62, hv62, h⟩ := bnd_some h
                refine ra rfl rfl (a_callY en_35 (ws_call bp_w_0 v60 (⟨#[32, 98, 117, 114, 115, 116, 32]⟩ : ByteArray) v62 hv62 rew59 hw59) rfl rfl (TVles.refl _) (fun rew61 => ([(b2, RS.box [.int .i64 r_1.Rate.Num, .int .i64 r_1.Rate.Per, .int .i64 r_1.Rate.Burst]), (b1, RS.box [.bool r_1.Allow, .int .i64 r_1.When.Kind, .int .i64 r_1.When.Field, .slice .ro 2 (r_1.When.Ranges.map GRange.enc), encF r_1.When.Low, encF r_1.When.High, .slice .ro 6 (r_1.When.Of.map GExpr.enc), .int .i64 r_1.Rate.Num, .int .i64 r_1.Rate.Per, .int .i64 r_1.Rate.Burst, .int .i64 r_1.Line])] ++ rew61)) [(b2, RS.box [.int .i64 r_1.Rate.Num, .int .i64 r_1.Rate.Per, .int .i64 r_1.Rate.Burst]), (b1, RS.box [.bool r_1.Allow, .int .i64 r_1.When.Kind, .int .i64 r_1.When.Field, .slice .ro 2 (r_1.When.Ranges.map GRange.enc), encF r_1.When.Low, encF r_1.When.High, .slice .ro 6 (r_1.When.Of.map GExpr.enc), .int .i64 r_1.Rate.Num, .int .i64 r_1.Rate.Per, .int .i64 r_1.Rate.Burst, .int .i64 r_1.Line])] [] (fun _ => by simp) rfl) ?_
                rintro E' s' ⟨rew61, hw61, rfl, hs'⟩
                rw [hs']
                show AReg _ _ _ _ _ _ ((77, .tuple [.int .i64 ((⟨#[32, 98, 117, 114, 115, 116, 32]⟩ : ByteArray).size : Int), .nili]) :: _) ([(b2, RS.box [.int .i64 r_1.Rate.Num, .int .i64 r_1.Rate.Per, .int .i64 r_1.Rate.Burst]), (b1, RS.box [.bool r_1.Allow, .int .i64 r_1.When.Kind, .int .i64 r_1.When.Field, .slice .ro 2 (r_1.When.Ranges.map GRange.enc), encF r_1.When.Low, encF r_1.When.High, .slice .ro 6 (r_1.When.Of.map GExpr.enc), .int .i64 r_1.Rate.Num, .int .i64 r_1.Rate.Per, .int .i64 r_1.Rate.Burst, .int .i64 r_1.Line])] ++ rew61)
                refine .done rfl ?_
                refine ac_region rfl ?_
                refine rq (u := .ptr bp_w_0 0) rfl rfl rfl (p_move rfl) rfl ?_
                refine rq (u := .ptr b2 2) rfl rfl rfl (p_field_ptr fl_37_2 rfl rfl) rfl ?_
                refine rq (u := .int .i64 r_1.Rate.Burst) rfl rfl rfl (p_load_ptr ti_3 (fun _ => rfl) rfl rfl (.head _) (Nat.le_of_ble_eq_true rfl)) rfl ?_
                obtain ⟨v64, hv64, h⟩ := bnd_some h
                refine ra rfl rfl (a_callY en_37 (tree_writer_number_fn k v62 bp_w_0 rew61 hw61 r_1.Rate.Burst v64 hv64) rfl rfl (TVles.refl _) (fun rew63 => ([(b2, RS.box [.int .i64 r_1.Rate.Num, .int .i64 r_1.Rate.Per, .int .i64 r_1.Rate.Burst]), (b1, RS.box [.bool r_1.Allow, .int .i64 r_1.When.Kind, .int .i64 r_1.When.Field, .slice .ro 2 (r_1.When.Ranges.map GRange.enc), encF r_1.When.Low, encF r_1.When.High, .slice .ro 6 (r_1.When.Of.map GExpr.enc), .int .i64 r_1.Rate.Num, .int .i64 r_1.Rate.Per, .int .i64 r_1.Rate.Burst, .int .i64 r_1.Line])] ++ rew63)) [(b2, RS.box [.int .i64 r_1.Rate.Num, .int .i64 r_1.Rate.Per, .int .i64 r_1.Rate.Burst]), (b1, RS.box [.bool r_1.Allow, .int .i64 r_1.When.Kind, .int .i64 r_1.When.Field, .slice .ro 2 (r_1.When.Ranges.map GRange.enc), encF r_1.When.Low, encF r_1.When.High, .slice .ro 6 (r_1.When.Of.map GExpr.enc), .int .i64 r_1.Rate.Num, .int .i64 r_1.Rate.Per, .int .i64 r_1.Rate.Burst, .int .i64 r_1.Line])] [] (fun _ => by simp) rfl) ?_
                rintro E' s' ⟨rew63, hw63, rfl, hs'⟩
                rw [hs']
                show AReg _ _ _ _ _ _ ((81, .tuple []) :: _) ([(b2, RS.box [.int .i64 r_1.Rate.Num, .int .i64 r_1.Rate.Per, .int .i64 r_1.Rate.Burst]), (b1, RS.box [.bool r_1.Allow, .int .i64 r_1.When.Kind, .int .i64 r_1.When.Field, .slice .ro 2 (r_1.When.Ranges.map GRange.enc), encF r_1.When.Low, encF r_1.When.High, .slice .ro 6 (r_1.When.Of.map GExpr.enc), .int .i64 r_1.Rate.Num, .int .i64 r_1.Rate.Per, .int .i64 r_1.Rate.Burst, .int .i64 r_1.Line])] ++ rew63)
                refine .done rfl ?_
                refine ac_seq ?_
                refine ac_region rfl ?_
                refine rq (u := .ptr bp_w_0 0) rfl rfl rfl (p_move rfl) rfl ?_
                refine rq (u := .ptr bp_w_0 0) rfl rfl rfl (p_nilCheck_ptr rfl rfl) rfl ?_
                refine rq (u := .ptr bp_w_0 0) rfl rfl rfl (p_field_ptr fl_51_0 rfl rfl) rfl ?_
                obtain ⟨v66, hv66, h⟩ := bnd_some h
                refine ra rfl rfl (a_callY en_35 (ws_call bp_w_0 v64 (⟨#[59, 10]⟩ : ByteArray) v66 hv66 rew63 hw63) rfl rfl (TVles.refl _) (fun rew65 => ([(b2, RS.box [.int .i64 r_1.Rate.Num, .int .i64 r_1.Rate.Per, .int .i64 r_1.Rate.Burst]), (b1, RS.box [.bool r_1.Allow, .int .i64 r_1.When.Kind, .int .i64 r_1.When.Field, .slice .ro 2 (r_1.When.Ranges.map GRange.enc), encF r_1.When.Low, encF r_1.When.High, .slice .ro 6 (r_1.When.Of.map GExpr.enc), .int .i64 r_1.Rate.Num, .int .i64 r_1.Rate.Per, .int .i64 r_1.Rate.Burst, .int .i64 r_1.Line])] ++ rew65)) [(b2, RS.box [.int .i64 r_1.Rate.Num, .int .i64 r_1.Rate.Per, .int .i64 r_1.Rate.Burst]), (b1, RS.box [.bool r_1.Allow, .int .i64 r_1.When.Kind, .int .i64 r_1.When.Field, .slice .ro 2 (r_1.When.Ranges.map GRange.enc), encF r_1.When.Low, encF r_1.When.High, .slice .ro 6 (r_1.When.Of.map GExpr.enc), .int .i64 r_1.Rate.Num, .int .i64 r_1.Rate.Per, .int .i64 r_1.Rate.Burst, .int .i64 r_1.Line])] [] (fun _ => by simp) rfl) ?_
                rintro E' s' ⟨rew65, hw65, rfl, hs'⟩
                rw [hs']
                show AReg _ _ _ _ _ _ ((85, .tuple [.int .i64 ((⟨#[59, 10]⟩ : ByteArray).size : Int), .nili]) :: _) ([(b2, RS.box [.int .i64 r_1.Rate.Num, .int .i64 r_1.Rate.Per, .int .i64 r_1.Rate.Burst]), (b1, RS.box [.bool r_1.Allow, .int .i64 r_1.When.Kind, .int .i64 r_1.When.Field, .slice .ro 2 (r_1.When.Ranges.map GRange.enc), encF r_1.When.Low, encF r_1.When.High, .slice .ro 6 (r_1.When.Of.map GExpr.enc), .int .i64 r_1.Rate.Num, .int .i64 r_1.Rate.Per, .int .i64 r_1.Rate.Burst, .int .i64 r_1.Line])] ++ rew65)
                refine .done rfl ?_
                refine ac_seq ?_
                refine ac_region rfl ?_
                refine rq (u := .bool true) rfl rfl rfl (p_assign rfl) rfl ?_
                refine .done rfl ?_
                refine ac_ret ?_
                show Fin _ _ _ _ _ _ _
                exact fin_ret (Nat.le_of_ble_eq_true rfl) rfl ⟨rew65, (by obtain rfl := Option.some.inj h; exact hw65), (by obtain rfl := Option.some.inj h; rfl), (ResLe.sub (by simp))⟩
              · replace h := cond_f hc69 h
                refine ac_skip ?_
                refine ac_seq ?_
                refine ac_region rfl ?_
                refine rq (u := .ptr bp_w_0 0) rfl rfl rfl (p_move rfl) rfl ?_
                refine rq (u := .ptr bp_w_0 0) rfl rfl rfl (p_nilCheck_ptr rfl rfl) rfl ?_
                refine rq (u := .ptr bp_w_0 0) rfl rfl rfl (p_field_ptr fl_51_0 rfl rfl) rfl ?_
                obtain ⟨v68, hv68, h⟩ := bnd_some h
                refine ra rfl rfl (a_callY en_35 (ws_call bp_w_0 v52 (⟨#[59, 10]⟩ : ByteArray) v68 hv68 rew51 hw51) rfl rfl (TVles.refl _) (fun rew67 => ([(b2, RS.box [.int .i64 r_1.Rate.Num, .int .i64 r_1.Rate.Per, .int .i64 r_1.Rate.Burst]), (b1, RS.box [.bool r_1.Allow, .int .i64 r_1.When.Kind, .int .i64 r_1.When.Field, .slice .ro 2 (r_1.When.Ranges.map GRange.enc), encF r_1.When.Low, encF r_1.When.High, .slice .ro 6 (r_1.When.Of.map GExpr.enc), .int .i64 r_1.Rate.Num, .int .i64 r_1.Rate.Per, .int .i64 r_1.Rate.Burst, .int .i64 r_1.Line])] ++ rew67)) [(b2, RS.box [.int .i64 r_1.Rate.Num, .int .i64 r_1.Rate.Per, .int .i64 r_1.Rate.Burst]), (b1, RS.box [.bool r_1.Allow, .int .i64 r_1.When.Kind, .int .i64 r_1.When.Field, .slice .ro 2 (r_1.When.Ranges.map GRange.enc), encF r_1.When.Low, encF r_1.When.High, .slice .ro 6 (r_1.When.Of.map GExpr.enc), .int .i64 r_1.Rate.Num, .int .i64 r_1.Rate.Per, .int .i64 r_1.Rate.Burst, .int .i64 r_1.Line])] [] (fun _ => by simp) rfl) ?_
                rintro E' s' ⟨rew67, hw67, rfl, hs'⟩
                rw [hs']
                show AReg _ _ _ _ _ _ ((85, .tuple [.int .i64 ((⟨#[59, 10]⟩ : ByteArray).size : Int), .nili]) :: _) ([(b2, RS.box [.int .i64 r_1.Rate.Num, .int .i64 r_1.Rate.Per, .int .i64 r_1.Rate.Burst]), (b1, RS.box [.bool r_1.Allow, .int .i64 r_1.When.Kind, .int .i64 r_1.When.Field, .slice .ro 2 (r_1.When.Ranges.map GRange.enc), encF r_1.When.Low, encF r_1.When.High, .slice .ro 6 (r_1.When.Of.map GExpr.enc), .int .i64 r_1.Rate.Num, .int .i64 r_1.Rate.Per, .int .i64 r_1.Rate.Burst, .int .i64 r_1.Line])] ++ rew67)
                refine .done rfl ?_
                refine ac_seq ?_
                refine ac_region rfl ?_
                refine rq (u := .bool true) rfl rfl rfl (p_assign rfl) rfl ?_
                refine .done rfl ?_
                refine ac_ret ?_
                show Fin _ _ _ _ _ _ _
                exact fin_ret (Nat.le_of_ble_eq_true rfl) rfl ⟨rew67, (by obtain rfl := Option.some.inj h; exact hw67), (by obtain rfl := Option.some.inj h; rfl), (ResLe.sub (by simp))⟩
            · replace h := cond_f hc87 h
              refine ac_skip ?_
              refine ac_seq ?_
              refine ac_seq ?_
              refine ac_region rfl ?_
              refine rq (u := .ptr b2 1) rfl rfl rfl (p_field_ptr fl_37_1 rfl rfl) rfl ?_
              refine rq (u := .int .i64 r_1.Rate.Per) rfl rfl rfl (p_load_ptr ti_3 (fun _ => rfl) rfl rfl (.head _) (Nat.le_of_ble_eq_true rfl)) rfl ?_
              refine rq (u := .bool (decide (0 < r_1.Rate.Per))) rfl rfl rfl (p_gtr rfl rfl rfl) rfl ?_
              refine .done rfl ?_
              refine ac_cond rfl rfl (fun hc86 => ?_) (fun hc86 => ?_)
              · replace h := cond_t hc86 h
                refine ac_seq ?_
                refine ac_region rfl ?_
                refine rq (u := .ptr bp_w_0 0) rfl rfl rfl (p_move rfl) rfl ?_
                refine rq (u := .ptr bp_w_0 0) rfl rfl rfl (p_nilCheck_ptr rfl rfl) rfl ?_
                refine rq (u := .ptr bp_w_0 0) rfl rfl rfl (p_field_ptr fl_51_0 rfl rfl) rfl ?_
                obtain ⟨v71, hv71, h⟩ := bnd_some h
                refine ra rfl rfl (a_callY en_35 (ws_call bp_w_0 v48 (⟨#[32, 114, 97, 116, 101, 32]⟩ : ByteArray) v71 hv71 rew47 hw47) rfl rfl (TVles.refl _) (fun rew70 => ([(b2, RS.box [.int .i64 r_1.Rate.Num, .int .i64 r_1.Rate.Per, .int .i64 r_1.Rate.Burst]), (b1, RS.box [.bool r_1.Allow, .int .i64 r_1.When.Kind, .int .i64 r_1.When.Field, .slice .ro 2 (r_1.When.Ranges.map GRange.enc), encF r_1.When.Low, encF r_1.When.High, .slice .ro 6 (r_1.When.Of.map GExpr.enc), .int .i64 r_1.Rate.Num, .int .i64 r_1.Rate.Per, .int .i64 r_1.Rate.Burst, .int .i64 r_1.Line])] ++ rew70)) [(b2, RS.box [.int .i64 r_1.Rate.Num, .int .i64 r_1.Rate.Per, .int .i64 r_1.Rate.Burst]), (b1, RS.box [.bool r_1.Allow, .int .i64 r_1.When.Kind, .int .i64 r_1.When.Field, .slice .ro 2 (r_1.When.Ranges.map GRange.enc), encF r_1.When.Low, encF r_1.When.High, .slice .ro 6 (r_1.When.Of.map GExpr.enc), .int .i64 r_1.Rate.Num, .int .i64 r_1.Rate.Per, .int .i64 r_1.Rate.Burst, .int .i64 r_1.Line])] [] (fun _ => by simp) rfl) ?_
                rintro E' s' ⟨rew70, hw70, rfl, hs'⟩
                rw [hs']
                show AReg _ _ _ _ _ _ ((61, .tuple [.int .i64 ((⟨#[32, 114, 97, 116, 101, 32]⟩ : ByteArray).size : Int), .nili]) :: _) ([(b2, RS.box [.int .i64 r_1.Rate.Num, .int .i64 r_1.Rate.Per, .int .i64 r_1.Rate.Burst]), (b1, RS.box [.bool r_1.Allow, .int .i64 r_1.When.Kind, .int .i64 r_1.When.Field, .slice .ro 2 (r_1.When.Ranges.map GRange.enc), encF r_1.When.Low, encF r_1.When.High, .slice .ro 6 (r_1.When.Of.map GExpr.enc), .int .i64 r_1.Rate.Num, .int .i64 r_1.Rate.Per, .int .i64 r_1.Rate.Burst, .int .i64 r_1.Line])] ++ rew70)
                refine .done rfl ?_
                refine ac_seq ?_
                refine ac_region rfl ?_
                refine rq (u := .ptr bp_w_0 0) rfl rfl rfl (p_move rfl) rfl ?_
                refine rq (u := .ptr b2 0) rfl rfl rfl (p_field_ptr fl_37_0 rfl rfl) rfl ?_
                refine rq (u := .int .i64 r_1.Rate.Num) rfl rfl rfl (p_load_ptr ti_3 (fun _ => rfl) rfl rfl (.head _) (Nat.le_of_ble_eq_true rfl)) rfl ?_
                obtain ⟨v73, hv73, h⟩ := bnd_some h
                refine ra rfl rfl (a_callY en_37 (tree_writer_number_fn k v71 bp_w_0 rew70 hw70 r_1.Rate.Num v73 hv73) rfl rfl (TVles.refl _) (fun rew72 => ([(b2, RS.box [.int .i64 r_1.Rate.Num, .int .i64 r_1.Rate.Per, .int .i64 r_1.Rate.Burst]), (b1, RS.box [.bool r_1.Allow, .int .i64 r_1.When.Kind, .int .i64 r_1.When.Field, .slice .ro 2 (r_1.When.Ranges.map GRange.enc), encF r_1.When.Low, encF r_1.When.High, .slice .ro 6 (r_1.When.Of.map GExpr.enc), .int .i64 r_1.Rate.Num, .int .i64 r_1.Rate.Per, .int .i64 r_1.Rate.Burst, .int .i64 r_1.Line])] ++ rew72)) [(b2, RS.box [.int .i64 r_1.Rate.Num, .int .i64 r_1.Rate.Per, .int .i64 r_1.Rate.Burst]), (b1, RS.box [.bool r_1.Allow, .int .i64 r_1.When.Kind, .int .i64 r_1.When.Field, .slice .ro 2 (r_1.When.Ranges.map GRange.enc), encF r_1.When.Low, encF r_1.When.High, .slice .ro 6 (r_1.When.Of.map GExpr.enc), .int .i64 r_1.Rate.Num, .int .i64 r_1.Rate.Per, .int .i64 r_1.Rate.Burst, .int .i64 r_1.Line])] [] (fun _ => by simp) rfl) ?_
                rintro E' s' ⟨rew72, hw72, rfl, hs'⟩
                rw [hs']
                show AReg _ _ _ _ _ _ ((65, .tuple []) :: _) ([(b2, RS.box [.int .i64 r_1.Rate.Num, .int .i64 r_1.Rate.Per, .int .i64 r_1.Rate.Burst]), (b1, RS.box [.bool r_1.Allow, .int .i64 r_1.When.Kind, .int .i64 r_1.When.Field, .slice .ro 2 (r_1.When.Ranges.map GRange.enc), encF r_1.When.Low, encF r_1.When.High, .slice .ro 6 (r_1.When.Of.map GExpr.enc), .int .i64 r_1.Rate.Num, .int .i64 r_1.Rate.Per, .int .i64 r_1.Rate.Burst, .int .i64 r_1.Line])] ++ rew72)
                refine .done rfl ?_
                refine ac_seq ?_
                refine ac_region rfl ?_
                refine rq (u := .ptr bp_w_0 0) rfl rfl rfl (p_move rfl) rfl ?_
                refine rq (u := .ptr bp_w_0 0) rfl rfl rfl (p_nilCheck_ptr rfl rfl) rfl ?_
                refine rq (u := .ptr bp_w_0 0) rfl rfl rfl (p_field_ptr fl_51_0 rfl rfl) rfl ?_
                obtain ⟨v75, hv75, h⟩ := bnd_some h
                refine ra rfl rfl (a_callY en_35 (ws_call bp_w_0 v73 (⟨#[32, 112, 101, 114, 32]⟩ : ByteArray) v75 hv75 rew72 hw72) rfl rfl (TVles.refl _) (fun rew74 => ([(b2, RS.box [.int .i64 r_1.Rate.Num, .int .i64 r_1.Rate.Per, .int .i64 r_1.Rate.Burst]), (b1, RS.box [.bool r_1.Allow, .int .i64 r_1.When.Kind, .int .i64 r_1.When.Field, .slice .ro 2 (r_1.When.Ranges.map GRange.enc), encF r_1.When.Low, encF r_1.When.High, .slice .ro 6 (r_1.When.Of.map GExpr.enc), .int .i64 r_1.Rate.Num, .int .i64 r_1.Rate.Per, .int .i64 r_1.Rate.Burst, .int .i64 r_1.Line])] ++ rew74)) [(b2, RS.box [.int .i64 r_1.Rate.Num, .int .i64 r_1.Rate.Per, .int .i64 r_1.Rate.Burst]), (b1, RS.box [.bool r_1.Allow, .int .i64 r_1.When.Kind, .int .i64 r_1.When.Field, .slice .ro 2 (r_1.When.Ranges.map GRange.enc), encF r_1.When.Low, encF r_1.When.High, .slice .ro 6 (r_1.When.Of.map GExpr.enc), .int .i64 r_1.Rate.Num, .int .i64 r_1.Rate.Per, .int .i64 r_1.Rate.Burst, .int .i64 r_1.Line])] [] (fun _ => by simp) rfl) ?_
                rintro E' s' ⟨rew74, hw74, rfl, hs'⟩
                rw [hs']
                show AReg _ _ _ _ _ _ ((69, .tuple [.int .i64 ((⟨#[32, 112, 101, 114, 32]⟩ : ByteArray).size : Int), .nili]) :: _) ([(b2, RS.box [.int .i64 r_1.Rate.Num, .int .i64 r_1.Rate.Per, .int .i64 r_1.Rate.Burst]), (b1, RS.box [.bool r_1.Allow, .int .i64 r_1.When.Kind, .int .i64 r_1.When.Field, .slice .ro 2 (r_1.When.Ranges.map GRange.enc), encF r_1.When.Low, encF r_1.When.High, .slice .ro 6 (r_1.When.Of.map GExpr.enc), .int .i64 r_1.Rate.Num, .int .i64 r_1.Rate.Per, .int .i64 r_1.Rate.Burst, .int .i64 r_1.Line])] ++ rew74)
                refine .done rfl ?_
                refine ac_seq ?_
                refine ac_region rfl ?_
                refine rq (u := .ptr bp_w_0 0) rfl rfl rfl (p_move rfl) rfl ?_
                refine rq (u := .ptr b2 1) rfl rfl rfl (p_field_ptr fl_37_1 rfl rfl) rfl ?_
                refine rq (u := .int .i64 r_1.Rate.Per) rfl rfl rfl (p_load_ptr ti_3 (fun _ => rfl) rfl rfl (.head _) (Nat.le_of_ble_eq_true rfl)) rfl ?_
                obtain ⟨v77, hv77, h⟩ := bnd_some h
                refine ra rfl rfl (a_callY en_37 (tree_writer_number_fn k v75 bp_w_0 rew74 hw74 r_1.Rate.Per v77 hv77) rfl rfl (TVles.refl _) (fun rew76 => ([(b2, RS.box [.int .i64 r_1.Rate.Num, .int .i64 r_1.Rate.Per, .int .i64 r_1.Rate.Burst]), (b1, RS.box [.bool r_1.Allow, .int .i64 r_1.When.Kind, .int .i64 r_1.When.Field, .slice .ro 2 (r_1.When.Ranges.map GRange.enc), encF r_1.When.Low, encF r_1.When.High, .slice .ro 6 (r_1.When.Of.map GExpr.enc), .int .i64 r_1.Rate.Num, .int .i64 r_1.Rate.Per, .int .i64 r_1.Rate.Burst, .int .i64 r_1.Line])] ++ rew76)) [(b2, RS.box [.int .i64 r_1.Rate.Num, .int .i64 r_1.Rate.Per, .int .i64 r_1.Rate.Burst]), (b1, RS.box [.bool r_1.Allow, .int .i64 r_1.When.Kind, .int .i64 r_1.When.Field, .slice .ro 2 (r_1.When.Ranges.map GRange.enc), encF r_1.When.Low, encF r_1.When.High, .slice .ro 6 (r_1.When.Of.map GExpr.enc), .int .i64 r_1.Rate.Num, .int .i64 r_1.Rate.Per, .int .i64 r_1.Rate.Burst, .int .i64 r_1.Line])] [] (fun _ => by simp) rfl) ?_
                rintro E' s' ⟨rew76, hw76, rfl, hs'⟩
                rw [hs']
                show AReg _ _ _ _ _ _ ((73, .tuple []) :: _) ([(b2, RS.box [.int .i64 r_1.Rate.Num, .int .i64 r_1.Rate.Per, .int .i64 r_1.Rate.Burst]), (b1, RS.box [.bool r_1.Allow, .int .i64 r_1.When.Kind, .int .i64 r_1.When.Field, .slice .ro 2 (r_1.When.Ranges.map GRange.enc), encF r_1.When.Low, encF r_1.When.High, .slice .ro 6 (r_1.When.Of.map GExpr.enc), .int .i64 r_1.Rate.Num, .int .i64 r_1.Rate.Per, .int .i64 r_1.Rate.Burst, .int .i64 r_1.Line])] ++ rew76)
                refine .done rfl ?_
                refine ac_seq ?_
                refine ac_region rfl ?_
                refine rq (u := .ptr bp_w_0 0) rfl rfl rfl (p_move rfl) rfl ?_
                refine rq (u := .ptr bp_w_0 0) rfl rfl rfl (p_nilCheck_ptr rfl rfl) rfl ?_
                refine rq (u := .ptr bp_w_0 0) rfl rfl rfl (p_field_ptr fl_51_0 rfl rfl) rfl ?_
                obtain ⟨v79, hv79, h⟩ := bnd_some h
                refine ra rfl rfl (a_callY en_35 (ws_call bp_w_0 v77 (⟨#[32, 98, 117, 114, 115, 116, 32]⟩ : ByteArray) v79 hv79 rew76 hw76) rfl rfl (TVles.refl _) (fun rew78 => ([(b2, RS.box [.int .i64 r_1.Rate.Num, .int .i64 r_1.Rate.Per, .int .i64 r_1.Rate.Burst]), (b1, RS.box [.bool r_1.Allow, .int .i64 r_1.When.Kind, .int .i64 r_1.When.Field, .slice .ro 2 (r_1.When.Ranges.map GRange.enc), encF r_1.When.Low, encF r_1.When.High, .slice .ro 6 (r_1.When.Of.map GExpr.enc), .int .i64 r_1.Rate.Num, .int .i64 r_1.Rate.Per, .int .i64 r_1.Rate.Burst, .int .i64 r_1.Line])] ++ rew78)) [(b2, RS.box [.int .i64 r_1.Rate.Num, .int .i64 r_1.Rate.Per, .int .i64 r_1.Rate.Burst]), (b1, RS.box [.bool r_1.Allow, .int .i64 r_1.When.Kind, .int .i64 r_1.When.Field, .slice .ro 2 (r_1.When.Ranges.map GRange.enc), encF r_1.When.Low, encF r_1.When.High, .slice .ro 6 (r_1.When.Of.map GExpr.enc), .int .i64 r_1.Rate.Num, .int .i64 r_1.Rate.Per, .int .i64 r_1.Rate.Burst, .int .i64 r_1.Line])] [] (fun _ => by simp) rfl) ?_
                rintro E' s' ⟨rew78, hw78, rfl, hs'⟩
                rw [hs']
                show AReg _ _ _ _ _ _ ((77, .tuple [.int .i64 ((⟨#[32, 98, 117, 114, 115, 116, 32]⟩ : ByteArray).size : Int), .nili]) :: _) ([(b2, RS.box [.int .i64 r_1.Rate.Num, .int .i64 r_1.Rate.Per, .int .i64 r_1.Rate.Burst]), (b1, RS.box [.bool r_1.Allow, .int .i64 r_1.When.Kind, .int .i64 r_1.When.Field, .slice .ro 2 (r_1.When.Ranges.map GRange.enc), encF r_1.When.Low, encF r_1.When.High, .slice .ro 6 (r_1.When.Of.map GExpr.enc), .int .i64 r_1.Rate.Num, .int .i64 r_1.Rate.Per, .int .i64 r_1.Rate.Burst, .int .i64 r_1.Line])] ++ rew78)
                refine .done rfl ?_
                refine ac_region rfl ?_
                refine rq (u := .ptr bp_w_0 0) rfl rfl rfl (p_move rfl) rfl ?_
                refine rq (u := .ptr b2 2) rfl rfl rfl (p_field_ptr fl_37_2 rfl rfl) rfl ?_
                refine rq (u := .int .i64 r_1.Rate.Burst) rfl rfl rfl (p_load_ptr ti_3 (fun _ => rfl) rfl rfl (.head _) (Nat.le_of_ble_eq_true rfl)) rfl ?_
                obtain ⟨v81, hv81, h⟩ := bnd_some h
                refine ra rfl rfl (a_callY en_37 (tree_writer_number_fn k v79 bp_w_0 rew78 hw78 r_1.Rate.Burst v81 hv81) rfl rfl (TVles.refl _) (fun rew80 => ([(b2, RS.box [.int .i64 r_1.Rate.Num, .int .i64 r_1.Rate.Per, .int .i64 r_1.Rate.Burst]), (b1, RS.box [.bool r_1.Allow, .int .i64 r_1.When.Kind, .int .i64 r_1.When.Field, .slice .ro 2 (r_1.When.Ranges.map GRange.enc), encF r_1.When.Low, encF r_1.When.High, .slice .ro 6 (r_1.When.Of.map GExpr.enc), .int .i64 r_1.Rate.Num, .int .i64 r_1.Rate.Per, .int .i64 r_1.Rate.Burst, .int .i64 r_1.Line])] ++ rew80)) [(b2, RS.box [.int .i64 r_1.Rate.Num, .int .i64 r_1.Rate.Per, .int .i64 r_1.Rate.Burst]), (b1, RS.box [.bool r_1.Allow, .int .i64 r_1.When.Kind, .int .i64 r_1.When.Field, .slice .ro 2 (r_1.When.Ranges.map GRange.enc), encF r_1.When.Low, encF r_1.When.High, .slice .ro 6 (r_1.When.Of.map GExpr.enc), .int .i64 r_1.Rate.Num, .int .i64 r_1.Rate.Per, .int .i64 r_1.Rate.Burst, .int .i64 r_1.Line])] [] (fun _ => by simp) rfl) ?_
                rintro E' s' ⟨rew80, hw80, rfl, hs'⟩
                rw [hs']
                show AReg _ _ _ _ _ _ ((81, .tuple []) :: _) ([(b2, RS.box [.int .i64 r_1.Rate.Num, .int .i64 r_1.Rate.Per, .int .i64 r_1.Rate.Burst]), (b1, RS.box [.bool r_1.Allow, .int .i64 r_1.When.Kind, .int .i64 r_1.When.Field, .slice .ro 2 (r_1.When.Ranges.map GRange.enc), encF r_1.When.Low, encF r_1.When.High, .slice .ro 6 (r_1.When.Of.map GExpr.enc), .int .i64 r_1.Rate.Num, .int .i64 r_1.Rate.Per, .int .i64 r_1.Rate.Burst, .int .i64 r_1.Line])] ++ rew80)
                refine .done rfl ?_
                refine ac_seq ?_
                refine ac_region rfl ?_
                refine rq (u := .ptr bp_w_0 0) rfl rfl rfl (p_move rfl) rfl ?_
                refine rq (u := .ptr bp_w_0 0) rfl rfl rfl (p_nilCheck_ptr rfl rfl) rfl ?_
                refine rq (u := .ptr bp_w_0 0) rfl rfl rfl (p_field_ptr fl_51_0 rfl rfl) rfl ?_
                obtain ⟨v83, hv83, h⟩ := bnd_some h
                refine ra rfl rfl (a_callY en_35 (ws_call bp_w_0 v81 (⟨#[59, 10]⟩ : ByteArray) v83 hv83 rew80 hw80) rfl rfl (TVles.refl _) (fun rew82 => ([(b2, RS.box [.int .i64 r_1.Rate.Num, .int .i64 r_1.Rate.Per, .int .i64 r_1.Rate.Burst]), (b1, RS.box [.bool r_1.Allow, .int .i64 r_1.When.Kind, .int .i64 r_1.When.Field, .slice .ro 2 (r_1.When.Ranges.map GRange.enc), encF r_1.When.Low, encF r_1.When.High, .slice .ro 6 (r_1.When.Of.map GExpr.enc), .int .i64 r_1.Rate.Num, .int .i64 r_1.Rate.Per, .int .i64 r_1.Rate.Burst, .int .i64 r_1.Line])] ++ rew82)) [(b2, RS.box [.int .i64 r_1.Rate.Num, .int .i64 r_1.Rate.Per, .int .i64 r_1.Rate.Burst]), (b1, RS.box [.bool r_1.Allow, .int .i64 r_1.When.Kind, .int .i64 r_1.When.Field, .slice .ro 2 (r_1.When.Ranges.map GRange.enc), encF r_1.When.Low, encF r_1.When.High, .slice .ro 6 (r_1.When.Of.map GExpr.enc), .int .i64 r_1.Rate.Num, .int .i64 r_1.Rate.Per, .int .i64 r_1.Rate.Burst, .int .i64 r_1.Line])] [] (fun _ => by simp) rfl) ?_
                rintro E' s' ⟨rew82, hw82, rfl, hs'⟩
                rw [hs']
                show AReg _ _ _ _ _ _ ((85, .tuple [.int .i64 ((⟨#[59, 10]⟩ : ByteArray).size : Int), .nili]) :: _) ([(b2, RS.box [.int .i64 r_1.Rate.Num, .int .i64 r_1.Rate.Per, .int .i64 r_1.Rate.Burst]), (b1, RS.box [.bool r_1.Allow, .int .i64 r_1.When.Kind, .int .i64 r_1.When.Field, .slice .ro 2 (r_1.When.Ranges.map GRange.enc), encF r_1.When.Low, encF r_1.When.High, .slice .ro 6 (r_1.When.Of.map GExpr.enc), .int .i64 r_1.Rate.Num, .int .i64 r_1.Rate.Per, .int .i64 r_1.Rate.Burst, .int .i64 r_1.Line])] ++ rew82)
                refine .done rfl ?_
                refine ac_seq ?_
                refine ac_region rfl ?_
                refine rq (u := .bool true) rfl rfl rfl (p_assign rfl) rfl ?_
                refine .done rfl ?_
                refine ac_ret ?_
                show Fin _ _ _ _ _ _ _
                exact fin_ret (Nat.le_of_ble_eq_true rfl) rfl ⟨rew82, (by obtain rfl := Option.some.inj h; exact hw82), (by obtain rfl := Option.some.inj h; rfl), (ResLe.sub (by simp))⟩
              · replace h := cond_f hc86 h
                refine ac_skip ?_
                refine ac_seq ?_
                refine ac_region rfl ?_
                refine rq (u := .ptr bp_w_0 0) rfl rfl rfl (p_move rfl) rfl ?_
                refine rq (u := .ptr bp_w_0 0) rfl rfl rfl (p_nilCheck_ptr rfl rfl) rfl ?_
                refine rq (u := .ptr bp_w_0 0) rfl rfl rfl (p_field_ptr fl_51_0 rfl rfl) rfl ?_
                obtain ⟨v85, hv85, h⟩ := bnd_some h
                refine ra rfl rfl (a_callY en_35 (ws_call bp_w_0 v48 (⟨#[59, 10]⟩ : ByteArray) v85 hv85 rew47 hw47) rfl rfl (TVles.refl _) (fun rew84 => ([(b2, RS.box [.int .i64 r_1.Rate.Num, .int .i64 r_1.Rate.Per, .int .i64 r_1.Rate.Burst]), (b1, RS.box [.bool r_1.Allow, .int .i64 r_1.When.Kind, .int .i64 r_1.When.Field, .slice .ro 2 (r_1.When.Ranges.map GRange.enc), encF r_1.When.Low, encF r_1.When.High, .slice .ro 6 (r_1.When.Of.map GExpr.enc), .int .i64 r_1.Rate.Num, .int .i64 r_1.Rate.Per, .int .i64 r_1.Rate.Burst, .int .i64 r_1.Line])] ++ rew84)) [(b2, RS.box [.int .i64 r_1.Rate.Num, .int .i64 r_1.Rate.Per, .int .i64 r_1.Rate.Burst]), (b1, RS.box [.bool r_1.Allow, .int .i64 r_1.When.Kind, .int .i64 r_1.When.Field, .slice .ro 2 (r_1.When.Ranges.map GRange.enc), encF r_1.When.Low, encF r_1.When.High, .slice .ro 6 (r_1.When.Of.map GExpr.enc), .int .i64 r_1.Rate.Num, .int .i64 r_1.Rate.Per, .int .i64 r_1.Rate.Burst, .int .i64 r_1.Line])] [] (fun _ => by simp) rfl) ?_
                rintro E' s' ⟨rew84, hw84, rfl, hs'⟩
                rw [hs']
                show AReg _ _ _ _ _ _ ((85, .tuple [.int .i64 ((⟨#[59, 10]⟩ : ByteArray).size : Int), .nili]) :: _) ([(b2, RS.box [.int .i64 r_1.Rate.Num, .int .i64 r_1.Rate.Per, .int .i64 r_1.Rate.Burst]), (b1, RS.box [.bool r_1.Allow, .int .i64 r_1.When.Kind, .int .i64 r_1.When.Field, .slice .ro 2 (r_1.When.Ranges.map GRange.enc), encF r_1.When.Low, encF r_1.When.High, .slice .ro 6 (r_1.When.Of.map GExpr.enc), .int .i64 r_1.Rate.Num, .int .i64 r_1.Rate.Per, .int .i64 r_1.Rate.Burst, .int .i64 r_1.Line])] ++ rew84)
                refine .done rfl ?_
                refine ac_seq ?_
                refine ac_region rfl ?_
                refine rq (u := .bool true) rfl rfl rfl (p_assign rfl) rfl ?_
                refine .done rfl ?_
                refine ac_ret ?_
                show Fin _ _ _ _ _ _ _
                exact fin_ret (Nat.le_of_ble_eq_true rfl) rfl ⟨rew84, (by obtain rfl := Option.some.inj h; exact hw84), (by obtain rfl := Option.some.inj h; rfl), (ResLe.sub (by simp))⟩
      · replace h := cond_f hc5 h
        refine rskip rfl (guard_at rfl rfl rfl rfl rfl) rfl ?_
        refine rskip rfl (guard_at rfl rfl rfl rfl rfl) rfl ?_
        refine rskip rfl (guard_at rfl rfl rfl rfl rfl) rfl ?_
        refine rq (u := .bool false) rfl (guard_at rfl rfl rfl rfl rfl) rfl (p_pick rfl rfl) rfl ?_
        refine rq (u := .bool false) rfl rfl rfl (p_pick rfl rfl) rfl ?_
        refine .done rfl ?_
        refine ac_condF rfl rfl ?_
        refine ac_skip ?_
        refine ac_seq ?_
        refine ac_seq ?_
        refine ac_region rfl ?_
        refine rq (u := .ptr b1 0) rfl rfl rfl (p_field_ptr fl_39_0 rfl rfl) rfl ?_
        refine rq (u := .bool r_1.Allow) rfl rfl rfl (p_load_ptr ti_4 (fun _ => rfl) rfl rfl (.tail _ (.head _)) (Nat.le_of_ble_eq_true rfl)) rfl ?_
        refine .done rfl ?_
        refine ac_cond rfl rfl (fun hc172 => ?_) (fun hc172 => ?_)
        · replace h := cond_t hc172 h
          refine ac_region rfl ?_
          refine rq (u := .ptr bp_w_0 0) rfl rfl rfl (p_move rfl) rfl ?_
          refine rq (u := .ptr bp_w_0 0) rfl rfl rfl (p_nilCheck_ptr rfl rfl) rfl ?_
          refine rq (u := .ptr bp_w_0 0) rfl rfl rfl (p_field_ptr fl_51_0 rfl rfl) rfl ?_
          obtain ⟨v91, hv91, h⟩ := bnd_some h
          refine ra rfl rfl (a_callY en_35 (ws_call bp_w_0 w_0 (⟨#[97, 108, 108, 111, 119]⟩ : ByteArray) v91 hv91 re_w_0 hw_w_0) rfl rfl (TVles.refl _) (fun rew90 => ([(b2, RS.box [.int .i64 r_1.Rate.Num, .int .i64 r_1.Rate.Per, .int .i64 r_1.Rate.Burst]), (b1, RS.box [.bool r_1.Allow, .int .i64 r_1.When.Kind, .int .i64 r_1.When.Field, .slice .ro 2 (r_1.When.Ranges.map GRange.enc), encF r_1.When.Low, encF r_1.When.High, .slice .ro 6 (r_1.When.Of.map GExpr.enc), .int .i64 r_1.Rate.Num, .int .i64 r_1.Rate.Per, .int .i64 r_1.Rate.Burst, .int .i64 r_1.Line])] ++ rew90)) [(b2, RS.box [.int .i64 r_1.Rate.Num, .int .i64 r_1.Rate.Per, .int .i64 r_1.Rate.Burst]), (b1, RS.box [.bool r_1.Allow, .int .i64 r_1.When.Kind, .int .i64 r_1.When.Field, .slice .ro 2 (r_1.When.Ranges.map GRange.enc), encF r_1.When.Low, encF r_1.When.High, .slice .ro 6 (r_1.When.Of.map GExpr.enc), .int .i64 r_1.Rate.Num, .int .i64 r_1.Rate.Per, .int .i64 r_1.Rate.Burst, .int .i64 r_1.Line])] [] (fun _ => by simp) rfl) ?_
          rintro E' s' ⟨rew90, hw90, rfl, hs'⟩
          rw [hs']
          show AReg _ _ _ _ _ _ ((38, .tuple [.int .i64 ((⟨#[97, 108, 108, 111, 119]⟩ : ByteArray).size : Int), .nili]) :: _) ([(b2, RS.box [.int .i64 r_1.Rate.Num, .int .i64 r_1.Rate.Per, .int .i64 r_1.Rate.Burst]), (b1, RS.box [.bool r_1.Allow, .int .i64 r_1.When.Kind, .int .i64 r_1.When.Field, .slice .ro 2 (r_1.When.Ranges.map GRange.enc), encF r_1.When.Low, encF r_1.When.High, .slice .ro 6 (r_1.When.Of.map GExpr.enc), .int .i64 r_1.Rate.Num, .int .i64 r_1.Rate.Per, .int .i64 r_1.Rate.Burst, .int .i64 r_1.Line])] ++ rew90)
          refine .done rfl ?_
          refine ac_seq ?_
          refine ac_seq ?_
          refine ac_region rfl ?_
          refine rq (u := .ptr b1 1) rfl rfl rfl (p_field_ptr fl_39_1 rfl rfl) rfl ?_
          refine rq (u := .ptr b1 1) rfl rfl rfl (p_field_ptr fl_33_0 rfl rfl) rfl ?_
          refine rq (u := .int .i64 r_1.When.Kind) rfl rfl rfl (p_load_ptr ti_3 (fun _ => rfl) rfl rfl (.tail _ (.head _)) (Nat.le_of_ble_eq_true rfl)) rfl ?_
          refine rq (u := .bool (r_1.When.Kind != 0)) rfl rfl rfl (p_neq rfl rfl rfl) rfl ?_
          refine .done rfl ?_
          refine ac_cond rfl rfl (fun hc130 => ?_) (fun hc130 => ?_)
          · replace h := cond_t hc130 h
            refine ac_seq ?_
            refine ac_region rfl ?_
            refine rq (u := .ptr bp_w_0 0) rfl rfl rfl (p_move rfl) rfl ?_
            refine rq (u := .ptr bp_w_0 0) rfl rfl rfl (p_nilCheck_ptr rfl rfl) rfl ?_
            refine rq (u := .ptr bp_w_0 0) rfl rfl rfl (p_field_ptr fl_51_0 rfl rfl) rfl ?_
            obtain ⟨v93, hv93, h⟩ := bnd_some h
            refine ra rfl rfl (a_callY en_35 (ws_call bp_w_0 v91 (⟨#[32, 119, 104, 101, 110, 32]⟩ : ByteArray) v93 hv93 rew90 hw90) rfl rfl (TVles.refl _) (fun rew92 => ([(b2, RS.box [.int .i64 r_1.Rate.Num, .int .i64 r_1.Rate.Per, .int .i64 r_1.Rate.Burst]), (b1, RS.box [.bool r_1.Allow, .int .i64 r_1.When.Kind, .int .i64 r_1.When.Field, .slice .ro 2 (r_1.When.Ranges.map GRange.enc), encF r_1.When.Low, encF r_1.When.High, .slice .ro 6 (r_1.When.Of.map GExpr.enc), .int .i64 r_1.Rate.Num, .int .i64 r_1.Rate.Per, .int .i64 r_1.Rate.Burst, .int .i64 r_1.Line])] ++ rew92)) [(b2, RS.box [.int .i64 r_1.Rate.Num, .int .i64 r_1.Rate.Per, .int .i64 r_1.Rate.Burst]), (b1, RS.box [.bool r_1.Allow, .int .i64 r_1.When.Kind, .int .i64 r_1.When.Field, .slice .ro 2 (r_1.When.Ranges.map GRange.enc), encF r_1.When.Low, encF r_1.When.High, .slice .ro 6 (r_1.When.Of.map GExpr.enc), .int .i64 r_1.Rate.Num, .int .i64 r_1.Rate.Per, .int .i64 r_1.Rate.Burst, .int .i64 r_1.Line])] [] (fun _ => by simp) rfl) ?_
            rintro E' s' ⟨rew92, hw92, rfl, hs'⟩
            rw [hs']
            show AReg _ _ _ _ _ _ ((50, .tuple [.int .i64 ((⟨#[32, 119, 104, 101, 110, 32]⟩ : ByteArray).size : Int), .nili]) :: _) ([(b2, RS.box [.int .i64 r_1.Rate.Num, .int .i64 r_1.Rate.Per, .int .i64 r_1.Rate.Burst]), (b1, RS.box [.bool r_1.Allow, .int .i64 r_1.When.Kind, .int .i64 r_1.When.Field, .slice .ro 2 (r_1.When.Ranges.map GRange.enc), encF r_1.When.Low, encF r_1.When.High, .slice .ro 6 (r_1.When.Of.map GExpr.enc), .int .i64 r_1.Rate.Num, .int .i64 r_1.Rate.Per, .int .i64 r_1.Rate.Burst, .int .i64 r_1.Line])] ++ rew92)
            refine .done rfl ?_
            refine ac_region rfl ?_
            refine rq (u := .ptr bp_w_0 0) rfl rfl rfl (p_move rfl) rfl ?_
            refine rq (u := .ptr b1 1) rfl rfl rfl (p_field_ptr fl_39_1 rfl rfl) rfl ?_
            refine rq (u := .agg (GExpr.cells r_1.When)) rfl rfl rfl (p_load_ptr ti_33 nofun rfl rfl (.tail _ (.head _)) (Nat.le_of_ble_eq_true rfl)) rfl ?_
            obtain ⟨v95, hv95, h⟩ := bnd_some h
            refine ra rfl rfl (a_callY en_36 (tree_writer_expr_fn k v93 bp_w_0 rew92 hw92 r_1.When v95 hv95) rfl rfl (TVles.refl _) (fun rew94 => ([(b2, RS.box [.int .i64 r_1.Rate.Num, .int .i64 r_1.Rate.Per, .int .i64 r_1.Rate.Burst]), (b1, RS.box [.bool r_1.Allow, .int .i64 r_1.When.Kind, .int .i64 r_1.When.Field, .slice .ro 2 (r_1.When.Ranges.map GRange.enc), encF r_1.When.Low, encF r_1.When.High, .slice .ro 6 (r_1.When.Of.map GExpr.enc), .int .i64 r_1.Rate.Num, .int .i64 r_1.Rate.Per, .int .i64 r_1.Rate.Burst, .int .i64 r_1.Line])] ++ rew94)) [(b2, RS.box [.int .i64 r_1.Rate.Num, .int .i64 r_1.Rate.Per, .int .i64 r_1.Rate.Burst]), (b1, RS.box [.bool r_1.Allow, .int .i64 r_1.When.Kind, .int .i64 r_1.When.Field, .slice .ro 2 (r_1.When.Ranges.map GRange.enc), encF r_1.When.Low, encF r_1.When.High, .slice .ro 6 (r_1.When.Of.map GExpr.enc), .int .i64 r_1.Rate.Num, .int .i64 r_1.Rate.Per, .int .i64 r_1.Rate.Burst, .int .i64 r_1.Line])] [] (fun _ => by simp) rfl) ?_
            rintro E' s' ⟨rew94, hw94, rfl, hs'⟩
            rw [hs']
            show AReg _ _ _ _ _ _ ((54, .tuple []) :: _) ([(b2, RS.box [.int .i64 r_1.Rate.Num, .int .i64 r_1.Rate.Per, .int .i64 r_1.Rate.Burst]), (b1, RS.box [.bool r_1.Allow, .int .i64 r_1.When.Kind, .int .i64 r_1.When.Field, .slice .ro 2 (r_1.When.Ranges.map GRange.enc), encF r_1.When.Low, encF r_1.When.High, .slice .ro 6 (r_1.When.Of.map GExpr.enc), .int .i64 r_1.Rate.Num, .int .i64 r_1.Rate.Per, .int .i64 r_1.Rate.Burst, .int .i64 r_1.Line])] ++ rew94)
            refine .done rfl ?_
            refine ac_seq ?_
            refine ac_seq ?_
            refine ac_region rfl ?_
            refine rq (u := .ptr b2 1) rfl rfl rfl (p_field_ptr fl_37_1 rfl rfl) rfl ?_
            refine rq (u := .int .i64 r_1.Rate.Per) rfl rfl rfl (p_load_ptr ti_3 (fun _ => rfl) rfl rfl (.head _) (Nat.le_of_ble_eq_true rfl)) rfl ?_
            refine rq (u := .bool (decide (0 < r_1.Rate.Per))) rfl rfl rfl (p_gtr rfl rfl rfl) rfl ?_
            refine .done rfl ?_
            refine ac_cond rfl rfl (fun hc112 => ?_) (fun hc112 => ?_)
            · replace h := cond_t hc112 h
              refine ac_seq ?_
              refine ac_region rfl ?_
              refine rq (u := .ptr bp_w_0 0) rfl rfl rfl (p_move rfl) rfl ?_
              refine rq (u := .ptr bp_w_0 0) rfl rfl rfl (p_nilCheck_ptr rfl rfl) rfl ?_
              refine rq (u := .ptr bp_w_0 0) rfl rfl rfl (p_field_ptr fl_51_0 rfl rfl) rfl ?_
              obtain ⟨v97, hv97, h⟩ := bnd_some h
              refine ra rfl rfl (a_callY en_35 (ws_call bp_w_0 v95 (⟨#[32, 114, 97, 116, 101, 32]⟩ : ByteArray) v97 hv97 rew94 hw94) rfl rfl (TVles.refl _) (fun rew96 => ([(b2, RS.box [.int .i64 r_1.Rate.Num, .int .i64 r_1.Rate.Per, .int .i64 r_1.Rate.Burst]), (b1, RS.box [.bool r_1.Allow, .int .i64 r_1.When.Kind, .int .i64 r_1.When.Field, .slice .ro 2 (r_1.When.Ranges.map GRange.enc), encF r_1.When.Low, encF r_1.When.High, .slice .ro 6 (r_1.When.Of.map GExpr.enc), .int .i64 r_1.Rate.Num, .int .i64 r_1.Rate.Per, .int .i64 r_1.Rate.Burst, .int .i64 r_1.Line])] ++ rew96)) [(b2, RS.box [.int .i64 r_1.Rate.Num, .int .i64 r_1.Rate.Per, .int .i64 r_1.Rate.Burst]), (b1, RS.box [.bool r_1.Allow, .int .i64 r_1.When.Kind, .int .i64 r_1.When.Field, .slice .ro 2 (r_1.When.Ranges.map GRange.enc), encF r_1.When.Low, encF r_1.When.High, .slice .ro 6 (r_1.When.Of.map GExpr.enc), .int .i64 r_1.Rate.Num, .int .i64 r_1.Rate.Per, .int .i64 r_1.Rate.Burst, .int .i64 r_1.Line])] [] (fun _ => by simp) rfl) ?_
              rintro E' s' ⟨rew96, hw96, rfl, hs'⟩
              rw [hs']
              show AReg _ _ _ _ _ _ ((61, .tuple [.int .i64 ((⟨#[32, 114, 97, 116, 101, 32]⟩ : ByteArray).size : Int), .nili]) :: _) ([(b2, RS.box [.int .i64 r_1.Rate.Num, .int .i64 r_1.Rate.Per, .int .i64 r_1.Rate.Burst]), (b1, RS.box [.bool r_1.Allow, .int .i64 r_1.When.Kind, .int .i64 r_1.When.Field, .slice .ro 2 (r_1.When.Ranges.map GRange.enc), encF r_1.When.Low, encF r_1.When.High, .slice .ro 6 (r_1.When.Of.map GExpr.enc), .int .i64 r_1.Rate.Num, .int .i64 r_1.Rate.Per, .int .i64 r_1.Rate.Burst, .int .i64 r_1.Line])] ++ rew96)
              refine .done rfl ?_
              refine ac_seq ?_
              refine ac_region rfl ?_
              refine rq (u := .ptr bp_w_0 0) rfl rfl rfl (p_move rfl) rfl ?_
              refine rq (u := .ptr b2 0) rfl rfl rfl (p_field_ptr fl_37_0 rfl rfl) rfl ?_
              refine rq (u := .int .i64 r_1.Rate.Num) rfl rfl rfl (p_load_ptr ti_3 (fun _ => rfl) rfl rfl (.head _) (Nat.le_of_ble_eq_true rfl)) rfl ?_
              obtain ⟨v99, hv99, h⟩ := bnd_some h
              refine ra rfl rfl (a_callY en_37 (tree_writer_number_fn k v97 bp_w_0 rew96 hw96 r_1.Rate.Num v99 hv99) rfl rfl (TVles.refl _) (fun rew98 => ([(b2, RS.box [.int .i64 r_1.Rate.Num, .int .i64 r_1.Rate.Per, .int .i64 r_1.Rate.Burst]), (b1, RS.box [.bool r_1.Allow, .int .i64 r_1.When.Kind, .int .i64 r_1.When.Field, .slice .ro 2 (r_1.When.Ranges.map GRange.enc), encF r_1.When.Low, encF r_1.When.High, .slice .ro 6 (r_1.When.Of.map GExpr.enc), .int .i64 r_1.Rate.Num, .int .i64 r_1.Rate.Per, .int .i64 r_1.Rate.Burst, .int .i64 r_1.Line])] ++ rew98)) [(b2, RS.box [.int .i64 r_1.Rate.Num, .int .i64 r_1.Rate.Per, .int .i64 r_1.Rate.Burst]), (b1, RS.box [.bool r_1.Allow, .int .i64 r_1.When.Kind, .int .i64 r_1.When.Field, .slice .ro 2 (r_1.When.Ranges.map GRange.enc), encF r_1.When.Low, encF r_1.When.High, .slice .ro 6 (r_1.When.Of.map GExpr.enc), .int .i64 r_1.Rate.Num, .int .i64 r_1.Rate.Per, .int .i64 r_1.Rate.Burst, .int .i64 r_1.Line])] [] (fun _ => by simp) rfl) ?_
              rintro E' s' ⟨rew98, hw98, rfl, hs'⟩
              rw [hs']
              show AReg _ _ _ _ _ _ ((65, .tuple []) :: _) ([(b2, RS.box [.int .i64 r_1.Rate.Num, .int .i64 r_1.Rate.Per, .int .i64 r_1.Rate.Burst]), (b1, RS.box [.bool r_1.Allow, .int .i64 r_1.When.Kind, .int .i64 r_1.When.Field, .slice .ro 2 (r_1.When.Ranges.map GRange.enc), encF r_1.When.Low, encF r_1.When.High, .slice .ro 6 (r_1.When.Of.map GExpr.enc), .int .i64 r_1.Rate.Num, .int .i64 r_1.Rate.Per, .int .i64 r_1.Rate.Burst, .int .i64 r_1.Line])] ++ rew98)
              refine .done rfl ?_
              refine ac_seq ?_
              refine ac_region rfl ?_
              refine rq (u := .ptr bp_w_0 0) rfl rfl rfl (p_move rfl) rfl ?_
              refine rq (u := .ptr bp_w_0 0) rfl rfl rfl (p_nilCheck_ptr rfl rfl) rfl ?_
              refine rq (u := .ptr bp_w_0 0) rfl rfl rfl (p_field_ptr fl_51_0 rfl rfl) rfl ?_
              obtain ⟨v101, hv101, h⟩ := bnd_some h
              refine ra rfl rfl (a_callY en_35 (ws_call bp_w_0 v99 (⟨#[32, 112, 101, 114, 32]⟩ : ByteArray) v101 hv101 rew98 hw98) rfl rfl (TVles.refl _) (fun rew100 => ([(b2, RS.box [.int .i64 r_1.Rate.Num, .int .i64 r_1.Rate.Per, .int .i64 r_1.Rate.Burst]), (b1, RS.box [.bool r_1.Allow, .int .i64 r_1.When.Kind, .int .i64 r_1.When.Field, .slice .ro 2 (r_1.When.Ranges.map GRange.enc), encF r_1.When.Low, encF r_1.When.High, .slice .ro 6 (r_1.When.Of.map GExpr.enc), .int .i64 r_1.Rate.Num, .int .i64 r_1.Rate.Per, .int .i64 r_1.Rate.Burst, .int .i64 r_1.Line])] ++ rew100)) [(b2, RS.box [.int .i64 r_1.Rate.Num, .int .i64 r_1.Rate.Per, .int .i64 r_1.Rate.Burst]), (b1, RS.box [.bool r_1.Allow, .int .i64 r_1.When.Kind, .int .i64 r_1.When.Field, .slice .ro 2 (r_1.When.Ranges.map GRange.enc), encF r_1.When.Low, encF r_1.When.High, .slice .ro 6 (r_1.When.Of.map GExpr.enc), .int .i64 r_1.Rate.Num, .int .i64 r_1.Rate.Per, .int .i64 r_1.Rate.Burst, .int .i64 r_1.Line])] [] (fun _ => by simp) rfl) ?_
              rintro E' s' ⟨rew100, hw100, rfl, hs'⟩
              rw [hs']
              show AReg _ _ _ _ _ _ ((69, .tuple [.int .i64 ((⟨#[32, 112, 101, 114, 32]⟩ : ByteArray).size : Int), .nili]) :: _) ([(b2, RS.box [.int .i64 r_1.Rate.Num, .int .i64 r_1.Rate.Per, .int .i64 r_1.Rate.Burst]), (b1, RS.box [.bool r_1.Allow, .int .i64 r_1.When.Kind, .int .i64 r_1.When.Field, .slice .ro 2 (r_1.When.Ranges.map GRange.enc), encF r_1.When.Low, encF r_1.When.High, .slice .ro 6 (r_1.When.Of.map GExpr.enc), .int .i64 r_1.Rate.Num, .int .i64 r_1.Rate.Per, .int .i64 r_1.Rate.Burst, .int .i64 r_1.Line])] ++ rew100)
              refine .done rfl ?_
              refine ac_seq ?_
              refine ac_region rfl ?_
              refine rq (u := .ptr bp_w_0 0) rfl rfl rfl (p_move rfl) rfl ?_
              refine rq (u := .ptr b2 1) rfl rfl rfl (p_field_ptr fl_37_1 rfl rfl) rfl ?_
              refine rq (u := .int .i64 r_1.Rate.Per) rfl rfl rfl (p_load_ptr ti_3 (fun _ => rfl) rfl rfl (.head _) (Nat.le_of_ble_eq_true rfl)) rfl ?_
              obtain ⟨v103, hv103, h⟩ := bnd_some h
              refine ra rfl rfl (a_callY en_37 (tree_writer_number_fn k v101 bp_w_0 rew100 hw100 r_1.Rate.Per v103 hv103) rfl rfl (TVles.refl _) (fun rew102 => ([(b2, RS.box [.int .i64 r_1.Rate.Num, .int .i64 r_1.Rate.Per, .int .i64 r_1.Rate.Burst]), (b1, RS.box [.bool r_1.Allow, .int .i64 r_1.When.Kind, .int .i64 r_1.When.Field, .slice .ro 2 (r_1.When.Ranges.map GRange.enc), encF r_1.When.Low, encF r_1.When.High, .slice .ro 6 (r_1.When.Of.map GExpr.enc), .int .i64 r_1.Rate.Num, .int .i64 r_1.Rate.Per, .int .i64 r_1.Rate.Burst, .int .i64 r_1.Line])] ++ rew102)) [(b2, RS.box [.int .i64 r_1.Rate.Num, .int .i64 r_1.Rate.Per, .int .i64 r_1.Rate.Burst]), (b1, RS.box [.bool r_1.Allow, .int .i64 r_1.When.Kind, .int .i64 r_1.When.Field, .slice .ro 2 (r_1.When.Ranges.map GRange.enc), encF r_1.When.Low, encF r_1.When.High, .slice .ro 6 (r_1.When.Of.map GExpr.enc), .int .i64 r_1.Rate.Num, .int .i64 r_1.Rate.Per, .int .i64 r_1.Rate.Burst, .int .i64 r_1.Line])] [] (fun _ => by simp) rfl) ?_
              rintro E' s' ⟨rew102, hw102, rfl, hs'⟩
              rw [hs']
              show AReg _ _ _ _ _ _ ((73, .tuple []) :: _) ([(b2, RS.box [.int .i64 r_1.Rate.Num, .int .i64 r_1.Rate.Per, .int .i64 r_1.Rate.Burst]), (b1, RS.box [.bool r_1.Allow, .int .i64 r_1.When.Kind, .int .i64 r_1.When.Field, .slice .ro 2 (r_1.When.Ranges.map GRange.enc), encF r_1.When.Low, encF r_1.When.High, .slice .ro 6 (r_1.When.Of.map GExpr.enc), .int .i64 r_1.Rate.Num, .int .i64 r_1.Rate.Per, .int .i64 r_1.Rate.Burst, .int .i64 r_1.Line])] ++ rew102)
              refine .done rfl ?_
              refine ac_seq ?_
              refine ac_region rfl ?_
              refine rq (u := .ptr bp_w_0 0) rfl rfl rfl (p_move rfl) rfl ?_
              refine rq (u := .ptr bp_w_0 0) rfl rfl rfl (p_nilCheck_ptr rfl rfl) rfl ?_
              refine rq (u := .ptr bp_w_0 0) rfl rfl rfl (p_field_ptr fl_51_0 rfl rfl) rfl ?_
              obtain ⟨v105, hv105, h⟩ := bnd_some h
              refine ra rfl rfl (a_callY en_35 (ws_call bp_w_0 v103 (⟨#[32, 98, 117, 114, 115, 116, 32]⟩ : ByteArray) v105 hv105 rew102 hw102) rfl rfl (TVles.refl _) (fun rew104 => ([(b2, RS.box [.int .i64 r_1.Rate.Num, .int .i64 r_1.Rate.Per, .int .i64 r_1.Rate.Burst]), (b1, RS.box [.bool r_1.Allow, .int .i64 r_1.When.Kind, .int .i64 r_1.When.Field, .slice .ro 2 (r_1.When.Ranges.map GRange.enc), encF r_1.When.Low, encF r_1.When.High, .slice .ro 6 (r_1.When.Of.map GExpr.enc), .int .i64 r_1.Rate.Num, .int .i64 r_1.Rate.Per, .int .i64 r_1.Rate.Burst, .int .i64 r_1.Line])] ++ rew104)) [(b2, RS.box [.int .i64 r_1.Rate.Num, .int .i64 r_1.Rate.Per, .int .i64 r_1.Rate.Burst]), (b1, RS.box [.bool r_1.Allow, .int .i64 r_1.When.Kind, .int .i64 r_1.When.Field, .slice .ro 2 (r_1.When.Ranges.map GRange.enc), encF r_1.When.Low, encF r_1.When.High, .slice .ro 6 (r_1.When.Of.map GExpr.enc), .int .i64 r_1.Rate.Num, .int .i64 r_1.Rate.Per, .int .i64 r_1.Rate.Burst, .int .i64 r_1.Line])] [] (fun _ => by simp) rfl) ?_
              rintro E' s' ⟨rew104, hw104, rfl, hs'⟩
              rw [hs']
              show AReg _ _ _ _ _ _ ((77, .tuple [.int .i64 ((⟨#[32, 98, 117, 114, 115, 116, 32]⟩ : ByteArray).size : Int), .nili]) :: _) ([(b2, RS.box [.int .i64 r_1.Rate.Num, .int .i64 r_1.Rate.Per, .int .i64 r_1.Rate.Burst]), (b1, RS.box [.bool r_1.Allow, .int .i64 r_1.When.Kind, .int .i64 r_1.When.Field, .slice .ro 2 (r_1.When.Ranges.map GRange.enc), encF r_1.When.Low, encF r_1.When.High, .slice .ro 6 (r_1.When.Of.map GExpr.enc), .int .i64 r_1.Rate.Num, .int .i64 r_1.Rate.Per, .int .i64 r_1.Rate.Burst, .int .i64 r_1.Line])] ++ rew104)
              refine .done rfl ?_
              refine ac_region rfl ?_
              refine rq (u := .ptr bp_w_0 0) rfl rfl rfl (p_move rfl) rfl ?_
              refine rq (u := .ptr b2 2) rfl rfl rfl (p_field_ptr fl_37_2 rfl rfl) rfl ?_
              refine rq (u := .int .i64 r_1.Rate.Burst) rfl rfl rfl (p_load_ptr ti_3 (fun _ => rfl) rfl rfl (.head _) (Nat.le_of_ble_eq_true rfl)) rfl ?_
              obtain ⟨v107, hv107, h⟩ := bnd_some h
              refine ra rfl rfl (a_callY en_37 (tree_writer_number_fn k v105 bp_w_0 rew104 hw104 r_1.Rate.Burst v107 hv107) rfl rfl (TVles.refl _) (fun rew106 => ([(b2, RS.box [.int .i64 r_1.Rate.Num, .int .i64 r_1.Rate.Per, .int .i64 r_1.Rate.Burst]), (b1, RS.box [.bool r_1.Allow, .int .i64 r_1.When.Kind, .int .i64 r_1.When.Field, .slice .ro 2 (r_1.When.Ranges.map GRange.enc), encF r_1.When.Low, encF r_1.When.High, .slice .ro 6 (r_1.When.Of.map GExpr.enc), .int .i64 r_1.Rate.Num, .int .i64 r_1.Rate.Per, .int .i64 r_1.Rate.Burst, .int .i64 r_1.Line])] ++ rew106)) [(b2, RS.box [.int .i64 r_1.Rate.Num, .int .i64 r_1.Rate.Per, .int .i64 r_1.Rate.Burst]), (b1, RS.box [.bool r_1.Allow, .int .i64 r_1.When.Kind, .int .i64 r_1.When.Field, .slice .ro 2 (r_1.When.Ranges.map GRange.enc), encF r_1.When.Low, encF r_1.When.High, .slice .ro 6 (r_1.When.Of.map GExpr.enc), .int .i64 r_1.Rate.Num, .int .i64 r_1.Rate.Per, .int .i64 r_1.Rate.Burst, .int .i64 r_1.Line])] [] (fun _ => by simp) rfl) ?_
              rintro E' s' ⟨rew106, hw106, rfl, hs'⟩
              rw [hs']
              show AReg _ _ _ _ _ _ ((81, .tuple []) :: _) ([(b2, RS.box [.int .i64 r_1.Rate.Num, .int .i64 r_1.Rate.Per, .int .i64 r_1.Rate.Burst]), (b1, RS.box [.bool r_1.Allow, .int .i64 r_1.When.Kind, .int .i64 r_1.When.Field, .slice .ro 2 (r_1.When.Ranges.map GRange.enc), encF r_1.When.Low, encF r_1.When.High, .slice .ro 6 (r_1.When.Of.map GExpr.enc), .int .i64 r_1.Rate.Num, .int .i64 r_1.Rate.Per, .int .i64 r_1.Rate.Burst, .int .i64 r_1.Line])] ++ rew106)
              refine .done rfl ?_
              refine ac_seq ?_
              refine ac_region rfl ?_
              refine rq (u := .ptr bp_w_0 0) rfl rfl rfl (p_move rfl) rfl ?_
              refine rq (u := .ptr bp_w_0 0) rfl rfl rfl (p_nilCheck_ptr rfl rfl) rfl ?_
              refine rq (u := .ptr bp_w_0 0) rfl rfl rfl (p_field_ptr fl_51_0 rfl rfl) rfl ?_
              obtain ⟨v109, hv109, h⟩ := bnd_some h
              refine ra rfl rfl (a_callY en_35 (ws_call bp_w_0 v107 (⟨#[59, 10]⟩ : ByteArray) v109 hv109 rew106 hw106) rfl rfl (TVles.refl _) (fun rew108 => ([(b2, RS.box [.int .i64 r_1.Rate.Num, .int .i64 r_1.Rate.Per, .int .i64 r_1.Rate.Burst]), (b1, RS.box [.bool r_1.Allow, .int .i64 r_1.When.Kind, .int .i64 r_1.When.Field, .slice .ro 2 (r_1.When.Ranges.map GRange.enc), encF r_1.When.Low, encF r_1.When.High, .slice .ro 6 (r_1.When.Of.map GExpr.enc), .int .i64 r_1.Rate.Num, .int .i64 r_1.Rate.Per, .int .i64 r_1.Rate.Burst, .int .i64 r_1.Line])] ++ rew108)) [(b2, RS.box [.int .i64 r_1.Rate.Num, .int .i64 r_1.Rate.Per, .int .i64 r_1.Rate.Burst]), (b1, RS.box [.bool r_1.Allow, .int .i64 r_1.When.Kind, .int .i64 r_1.When.Field, .slice .ro 2 (r_1.When.Ranges.map GRange.enc), encF r_1.When.Low, encF r_1.When.High, .slice .ro 6 (r_1.When.Of.map GExpr.enc), .int .i64 r_1.Rate.Num, .int .i64 r_1.Rate.Per, .int .i64 r_1.Rate.Burst, .int .i64 r_1.Line])] [] (fun _ => by simp) rfl) ?_
              rintro E' s' ⟨rew108, hw108, rfl, hs'⟩
              rw [hs']
              show AReg _ _ _ _ _ _ ((85, .tuple [.int .i64 ((⟨#[59, 10]⟩ : ByteArray).size : Int), .nili]) :: _) ([(b2, RS.box [.int .i64 r_1.Rate.Num, .int .i64 r_1.Rate.Per, .int .i64 r_1.Rate.Burst]), (b1, RS.box [.bool r_1.Allow, .int .i64 r_1.When.Kind, .int .i64 r_1.When.Field, .slice .ro 2 (r_1.When.Ranges.map GRange.enc), encF r_1.When.Low, encF r_1.When.High, .slice .ro 6 (r_1.When.Of.map GExpr.enc), .int .i64 r_1.Rate.Num, .int .i64 r_1.Rate.Per, .int .i64 r_1.Rate.Burst, .int .i64 r_1.Line])] ++ rew108)
              refine .done rfl ?_
              refine ac_seq ?_
              refine ac_region rfl ?_
              refine rq (u := .bool true) rfl rfl rfl (p_assign rfl) rfl ?_
              refine .done rfl ?_
              refine ac_ret ?_
              show Fin _ _ _ _ _ _ _
              exact fin_ret (Nat.le_of_ble_eq_true rfl) rfl ⟨rew108, (by obtain rfl := Option.some.inj h; exact hw108), (by obtain rfl := Option.some.inj h; rfl), (ResLe.sub (by simp))⟩
            · replace h := cond_f hc112 h
              refine ac_skip ?_
              refine ac_seq ?_
              refine ac_region rfl ?_
              refine rq (u := .ptr bp_w_0 0) rfl rfl rfl (p_move rfl) rfl ?_
              refine rq (u := .ptr bp_w_0 0) rfl rfl rfl (p_nilCheck_ptr rfl rfl) rfl ?_
              refine rq (u := .ptr bp_w_0 0) rfl rfl rfl (p_field_ptr fl_51_0 rfl rfl) rfl ?_
              obtain ⟨v111, hv111, h⟩ := bnd_some h
              refine ra rfl rfl (a_callY en_35 (ws_call bp_w_0 v95 (⟨#[59, 10]⟩ : ByteArray) v111 hv111 rew94 hw94) rfl rfl (TVles.refl _) (fun rew110 => ([(b2, RS.box [.int .i64 r_1.Rate.Num, .int .i64 r_1.Rate.Per, .int .i64 r_1.Rate.Burst]), (b1, RS.box [.bool r_1.Allow, .int .i64 r_1.When.Kind, .int .i64 r_1.When.Field, .slice .ro 2 (r_1.When.Ranges.map GRange.enc), encF r_1.When.Low, encF r_1.When.High, .slice .ro 6 (r_1.When.Of.map GExpr.enc), .int .i64 r_1.Rate.Num, .int .i64 r_1.Rate.Per, .int .i64 r_1.Rate.Burst, .int .i64 r_1.Line])] ++ rew110)) [(b2, RS.box [.int .i64 r_1.Rate.Num, .int .i64 r_1.Rate.Per, .int .i64 r_1.Rate.Burst]), (b1, RS.box [.bool r_1.Allow, .int .i64 r_1.When.Kind, .int .i64 r_1.When.Field, .slice .ro 2 (r_1.When.Ranges.map GRange.enc), encF r_1.When.Low, encF r_1.When.High, .slice .ro 6 (r_1.When.Of.map GExpr.enc), .int .i64 r_1.Rate.Num, .int .i64 r_1.Rate.Per, .int .i64 r_1.Rate.Burst, .int .i64 r_1.Line])] [] (fun _ => by simp) rfl) ?_
              rintro E' s' ⟨rew110, hw110, rfl, hs'⟩
              rw [hs']
              show AReg _ _ _ _ _ _ ((85, .tuple [.int .i64 ((⟨#[59, 10]⟩ : ByteArray).size : Int), .nili]) :: _) ([(b2, RS.box [.int .i64 r_1.Rate.Num, .int .i64 r_1.Rate.Per, .int .i64 r_1.Rate.Burst]), (b1, RS.box [.bool r_1.Allow, .int .i64 r_1.When.Kind, .int .i64 r_1.When.Field, .slice .ro 2 (r_1.When.Ranges.map GRange.enc), encF r_1.When.Low, encF r_1.When.High, .slice .ro 6 (r_1.When.Of.map GExpr.enc), .int .i64 r_1.Rate.Num, .int .i64 r_1.Rate.Per, .int .i64 r_1.Rate.Burst, .int .i64 r_1.Line])] ++ rew110)
              refine .done rfl ?_
              refine ac_seq ?_
              refine ac_region rfl ?_
              refine rq (u := .bool true) rfl rfl rfl (p_assign rfl) rfl ?_
              refine .done rfl ?_
              refine ac_ret ?_
              show Fin _ _ _ _ _ _ _
              exact fin_ret (Nat.le_of_ble_eq_true rfl) rfl ⟨rew110, (by obtain rfl := Option.some.inj h; exact hw110), (by obtain rfl := Option.some.inj h; rfl), (ResLe.sub (by simp))⟩
          · replace h := cond_f hc130 h
            refine ac_skip ?_
            refine ac_seq ?_
            refine ac_seq ?_
            refine ac_region rfl ?_
            refine rq (u := .ptr b2 1) rfl rfl rfl (p_field_ptr fl_37_1 rfl rfl) rfl ?_
            refine rq (u := .int .i64 r_1.Rate.Per) rfl rfl rfl (p_load_ptr ti_3 (fun _ => rfl) rfl rfl (.head _) (Nat.le_of_ble_eq_true rfl)) rfl ?_
            refine rq (u := .bool (decide (0 < r_1.Rate.Per))) rfl rfl rfl (p_gtr rfl rfl rfl) rfl ?_
            refine .done rfl ?_
            refine ac_cond rfl rfl (fun hc129 => ?_) (fun hc129 => ?_)
            · replace h := cond_t hc129 h
              refine ac_seq ?_
              refine ac_region rfl ?_
              refine rq (u := .ptr bp_w_0 0) rfl rfl rfl (p_move rfl) rfl ?_
              refine rq (u := .ptr bp_w_0 0) rfl rfl rfl (p_nilCheck_ptr rfl rfl) rfl ?_
              refine rq (u := .ptr bp_w_0 0) rfl rfl rfl (p_field_ptr fl_51_0 rfl rfl) rfl ?_
              obtain ⟨v114, hv114, h⟩ := bnd_some h
              refine ra rfl rfl (a_callY en_35 (ws_call bp_w_0 v91 (⟨#[32, 114, 97, 116, 101, 32]⟩ : ByteArray) v114 hv114 rew90 hw90) rfl rfl (TVles.refl _) (fun rew113 => ([(b2, RS.box [.int .i64 r_1.Rate.Num, .int .i64 r_1.Rate.Per, .int .i64 r_1.Rate.Burst]), (b1, RS.box [.bool r_1.Allow, .int .i64 r_1.When.Kind, .int .i64 r_1.When.Field, .slice .ro 2 (r_1.When.Ranges.map GRange.enc), encF r_1.When.Low, encF r_1.When.High, .slice .ro 6 (r_1.When.Of.map GExpr.enc), .int .i64 r_1.Rate.Num, .int .i64 r_1.Rate.Per, .int .i64 r_1.Rate.Burst, .int .i64 r_1.Line])] ++ rew113)) [(b2, RS.box [.int .i64 r_1.Rate.Num, .int .i64 r_1.Rate.Per, .int .i64 r_1.Rate.Burst]), (b1, RS.box [.bool r_1.Allow, .int .i64 r_1.When.Kind, .int .i64 r_1.When.Field, .slice .ro 2 (r_1.When.Ranges.map GRange.enc), encF r_1.When.Low, encF r_1.When.High, .slice .ro 6 (r_1.When.Of.map GExpr.enc), .int .i64 r_1.Rate.Num, .int .i64 r_1.Rate.Per, .int .i64 r_1.Rate.Burst, .int .i64 r_1.Line])] [] (fun _ => by simp) rfl) ?_
              rintro E' s' ⟨rew113, hw113, rfl, hs'⟩
              rw [hs']
              show AReg _ _ _ _ _ _ ((61, .tuple [.int .i64 ((⟨#[32, 114, 97, 116, 101, 32]⟩ : ByteArray).size : Int), .nili]) :: _) ([(b2, RS.box [.int .i64 r_1.Rate.Num, .int .i64 r_1.Rate.Per, .int .i64 r_1.Rate.Burst]), (b1, RS.box [.bool r_1.Allow, .int .i64 r_1.When.Kind, .int .i64 r_1.When.Field, .slice .ro 2 (r_1.When.Ranges.map GRange.enc), encF r_1.When.Low, encF r_1.When.High, .slice .ro 6 (r_1.When.Of.map GExpr.enc), .int .i64 r_1.Rate.Num, .int .i64 r_1.Rate.Per, .int .i64 r_1.Rate.Burst, .int .i64 r_1.Line])] ++ rew113)
              refine .done rfl ?_
              refine ac_seq ?_
              refine ac_region rfl ?_
              refine rq (u := .ptr bp_w_0 0) rfl rfl rfl (p_move rfl) rfl ?_
              refine rq (u := .ptr b2 0) rfl rfl rfl (p_field_ptr fl_37_0 rfl rfl) rfl ?_
              refine rq (u := .int .i64 r_1.Rate.Num) rfl rfl rfl (p_load_ptr ti_3 (fun _ => rfl) rfl rfl (.head _) (Nat.le_of_ble_eq_true rfl)) rfl ?_
              obtain ⟨v116, hv116, h⟩ := bnd_some h
              refine ra rfl rfl (a_callY en_37 (tree_writer_number_fn k v114 bp_w_0 rew113 hw113 r_1.Rate.Num v116 hv116) rfl rfl (TVles.refl _) (fun rew115 => ([(b2, RS.box [.int .i64 r_1.Rate.Num, .int .i64 r_1.Rate.Per, .int .i64 r_1.Rate.Burst]), (b1, RS.box [.bool r_1.Allow, .int .i64 r_1.When.Kind, .int .i64 r_1.When.Field, .slice .ro 2 (r_1.When.Ranges.map GRange.enc), encF r_1.When.Low, encF r_1.When.High, .slice .ro 6 (r_1.When.Of.map GExpr.enc), .int .i64 r_1.Rate.Num, .int .i64 r_1.Rate.Per, .int .i64 r_1.Rate.Burst, .int .i64 r_1.Line])] ++ rew115)) [(b2, RS.box [.int .i64 r_1.Rate.Num, .int .i64 r_1.Rate.Per, .int .i64 r_1.Rate.Burst]), (b1, RS.box [.bool r_1.Allow, .int .i64 r_1.When.Kind, .int .i64 r_1.When.Field, .slice .ro 2 (r_1.When.Ranges.map GRange.enc), encF r_1.When.Low, encF r_1.When.High, .slice .ro 6 (r_1.When.Of.map GExpr.enc), .int .i64 r_1.Rate.Num, .int .i64 r_1.Rate.Per, .int .i64 r_1.Rate.Burst, .int .i64 r_1.Line])] [] (fun _ => by simp) rfl) ?_
              rintro E' s' ⟨rew115, hw115, rfl, hs'⟩
              rw [hs']
              show AReg _ _ _ _ _ _ ((65, .tuple []) :: _) ([(b2, RS.box [.int .i64 r_1.Rate.Num, .int .i64 r_1.Rate.Per, .int .i64 r_1.Rate.Burst]), (b1, RS.box [.bool r_1.Allow, .int .i64 r_1.When.Kind, .int .i64 r_1.When.Field, .slice .ro 2 (r_1.When.Ranges.map GRange.enc), encF r_1.When.Low, encF r_1.When.High, .slice .ro 6 (r_1.When.Of.map GExpr.enc), .int .i64 r_1.Rate.Num, .int .i64 r_1.Rate.Per, .int .i64 r_1.Rate.Burst, .int .i64 r_1.Line])] ++ rew115)
              refine .done rfl ?_
              refine ac_seq ?_
              refine ac_region rfl ?_
              refine rq (u := .ptr bp_w_0 0) rfl rfl rfl (p_move rfl) rfl ?_
              refine rq (u := .ptr bp_w_0 0) rfl rfl rfl (p_nilCheck_ptr rfl rfl) rfl ?_
              refine rq (u := .ptr bp_w_0 0) rfl rfl rfl (p_field_ptr fl_51_0 rfl rfl) rfl ?_
              obtain ⟨v118, hv118, h⟩ := bnd_some h
              refine ra rfl rfl (a_callY en_35 (ws_call bp_w_0 v116 (⟨#[32, 112, 101, 114, 32]⟩ : ByteArray) v118 hv118 rew115 hw115) rfl rfl (TVles.refl _) (fun rew117 => ([(b2, RS.box [.int .i64 r_1.Rate.Num, .int .i64 r_1.Rate.Per, .int .i64 r_1.Rate.Burst]), (b1, RS.box [.bool r_1.Allow, .int .i64 r_1.When.Kind, .int .i64 r_1.When.Field, .slice .ro 2 (r_1.When.Ranges.map GRange.enc), encF r_1.When.Low, encF r_1.When.High, .slice .ro 6 (r_1.When.Of.map GExpr.enc), .int .i64 r_1.Rate.Num, .int .i64 r_1.Rate.Per, .int .i64 r_1.Rate.Burst, .int .i64 r_1.Line])] ++ rew117)) [(b2, RS.box [.int .i64 r_1.Rate.Num, .int .i64 r_1.Rate.Per, .int .i64 r_1.Rate.Burst]), (b1, RS.box [.bool r_1.Allow, .int .i64 r_1.When.Kind, .int .i64 r_1.When.Field, .slice .ro 2 (r_1.When.Ranges.map GRange.enc), encF r_1.When.Low, encF r_1.When.High, .slice .ro 6 (r_1.When.Of.map GExpr.enc), .int .i64 r_1.Rate.Num, .int .i64 r_1.Rate.Per, .int .i64 r_1.Rate.Burst, .int .i64 r_1.Line])] [] (fun _ => by simp) rfl) ?_
              rintro E' s' ⟨rew117, hw117, rfl, hs'⟩
              rw [hs']
              show AReg _ _ _ _ _ _ ((69, .tuple [.int .i64 ((⟨#[32, 112, 101, 114, 32]⟩ : ByteArray).size : Int), .nili]) :: _) ([(b2, RS.box [.int .i64 r_1.Rate.Num, .int .i64 r_1.Rate.Per, .int .i64 r_1.Rate.Burst]), (b1, RS.box [.bool r_1.Allow, .int .i64 r_1.When.Kind, .int .i64 r_1.When.Field, .slice .ro 2 (r_1.When.Ranges.map GRange.enc), encF r_1.When.Low, encF r_1.When.High, .slice .ro 6 (r_1.When.Of.map GExpr.enc), .int .i64 r_1.Rate.Num, .int .i64 r_1.Rate.Per, .int .i64 r_1.Rate.Burst, .int .i64 r_1.Line])] ++ rew117)
              refine .done rfl ?_
              refine ac_seq ?_
              refine ac_region rfl ?_
              refine rq (u := .ptr bp_w_0 0) rfl rfl rfl (p_move rfl) rfl ?_
              refine rq (u := .ptr b2 1) rfl rfl rfl (p_field_ptr fl_37_1 rfl rfl) rfl ?_
              refine rq (u := .int .i64 r_1.Rate.Per) rfl rfl rfl (p_load_ptr ti_3 (fun _ => rfl) rfl rfl (.head _) (Nat.le_of_ble_eq_true rfl)) rfl ?_
              obtain ⟨v120, hv120, h⟩ := bnd_some h
              refine ra rfl rfl (a_callY en_37 (tree_writer_number_fn k v118 bp_w_0 rew117 hw117 r_1.Rate.Per v120 hv120) rfl rfl (TVles.refl _) (fun rew119 => ([(b2, RS.box [.int .i64 r_1.Rate.Num, .int .i64 r_1.Rate.Per, .int .i64 r_1.Rate.Burst]), (b1, RS.box [.bool r_1.Allow, .int .i64 r_1.When.Kind, .int .i64 r_1.When.Field, .slice .ro 2 (r_1.When.Ranges.map GRange.enc), encF r_1.When.Low, encF r_1.When.High, .slice .ro 6 (r_1.When.Of.map GExpr.enc), .int .i64 r_1.Rate.Num, .int .i64 r_1.Rate.Per, .int .i64 r_1.Rate.Burst, .int .i64 r_1.Line])] ++ rew119)) [(b2, RS.box [.int .i64 r_1.Rate.Num, .int .i64 r_1.Rate.Per, .int .i64 r_1.Rate.Burst]), (b1, RS.box [.bool r_1.Allow, .int .i64 r_1.When.Kind, .int .i64 r_1.When.Field, .slice .ro 2 (r_1.When.Ranges.map GRange.enc), encF r_1.When.Low, encF r_1.When.High, .slice .ro 6 (r_1.When.Of.map GExpr.enc), .int .i64 r_1.Rate.Num, .int .i64 r_1.Rate.Per, .int .i64 r_1.Rate.Burst, .int .i64 r_1.Line])] [] (fun _ => by simp) rfl) ?_
              rintro E' s' ⟨rew119, hw119, rfl, hs'⟩
              rw [hs']
              show AReg _ _ _ _ _ _ ((73, .tuple []) :: _) ([(b2, RS.box [.int .i64 r_1.Rate.Num, .int .i64 r_1.Rate.Per, .int .i64 r_1.Rate.Burst]), (b1, RS.box [.bool r_1.Allow, .int .i64 r_1.When.Kind, .int .i64 r_1.When.Field, .slice .ro 2 (r_1.When.Ranges.map GRange.enc), encF r_1.When.Low, encF r_1.When.High, .slice .ro 6 (r_1.When.Of.map GExpr.enc), .int .i64 r_1.Rate.Num, .int .i64 r_1.Rate.Per, .int .i64 r_1.Rate.Burst, .int .i64 r_1.Line])] ++ rew119)
              refine .done rfl ?_
              refine ac_seq ?_
              refine ac_region rfl ?_
              refine rq (u := .ptr bp_w_0 0) rfl rfl rfl (p_move rfl) rfl ?_
              refine rq (u := .ptr bp_w_0 0) rfl rfl rfl (p_nilCheck_ptr rfl rfl) rfl ?_
              refine rq (u := .ptr bp_w_0 0) rfl rfl rfl (p_field_ptr fl_51_0 rfl rfl) rfl ?_
              obtain ⟨v122, hv122, h⟩ := bnd_some h
              refine ra rfl rfl (a_callY en_35 (ws_call bp_w_0 v120 (⟨#[32, 98, 117, 114, 115, 116, 32]⟩ : ByteArray) v122 hv122 rew119 hw119) rfl rfl (TVles.refl _) (fun rew121 => ([(b2, RS.box [.int .i64 r_1.Rate.Num, .int .i64 r_1.Rate.Per, .int .i64 r_1.Rate.Burst]), (b1, RS.box [.bool r_1.Allow, .int .i64 r_1.When.Kind, .int .i64 r_1.When.Field, .slice .ro 2 (r_1.When.Ranges.map GRange.enc), encF r_1.When.Low, encF r_1.When.High, .slice .ro 6 (r_1.When.Of.map GExpr.enc), .int .i64 r_1.Rate.Num, .int .i64 r_1.Rate.Per, .int .i64 r_1.Rate.Burst, .int .i64 r_1.Line])] ++ rew121)) [(b2, RS.box [.int .i64 r_1.Rate.Num, .int .i64 r_1.Rate.Per, .int .i64 r_1.Rate.Burst]), (b1, RS.box [.bool r_1.Allow, .int .i64 r_1.When.Kind, .int .i64 r_1.When.Field, .slice .ro 2 (r_1.When.Ranges.map GRange.enc), encF r_1.When.Low, encF r_1.When.High, .slice .ro 6 (r_1.When.Of.map GExpr.enc), .int .i64 r_1.Rate.Num, .int .i64 r_1.Rate.Per, .int .i64 r_1.Rate.Burst, .int .i64 r_1.Line])] [] (fun _ => by simp) rfl) ?_
              rintro E' s' ⟨rew121, hw121, rfl, hs'⟩
              rw [hs']
              show AReg _ _ _ _ _ _ ((77, .tuple [.int .i64 ((⟨#[32, 98, 117, 114, 115, 116, 32]⟩ : ByteArray).size : Int), .nili]) :: _) ([(b2, RS.box [.int .i64 r_1.Rate.Num, .int .i64 r_1.Rate.Per, .int .i64 r_1.Rate.Burst]), (b1, RS.box [.bool r_1.Allow, .int .i64 r_1.When.Kind, .int .i64 r_1.When.Field, .slice .ro 2 (r_1.When.Ranges.map GRange.enc), encF r_1.When.Low, encF r_1.When.High, .slice .ro 6 (r_1.When.Of.map GExpr.enc), .int .i64 r_1.Rate.Num, .int .i64 r_1.Rate.Per, .int .i64 r_1.Rate.Burst, .int .i64 r_1.Line])] ++ rew121)
              refine .done rfl ?_
              refine ac_region rfl ?_
              refine rq (u := .ptr bp_w_0 0) rfl rfl rfl (p_move rfl) rfl ?_
              refine rq (u := .ptr b2 2) rfl rfl rfl (p_field_ptr fl_37_2 rfl rfl) rfl ?_
              refine rq (u := .int .i64 r_1.Rate.Burst) rfl rfl rfl (p_load_ptr ti_3 (fun _ => rfl) rfl rfl (.head _) (Nat.le_of_ble_eq_true rfl)) rfl ?_
              obtain ⟨v124, hv124, h⟩ := bnd_some h
              refine ra rfl rfl (a_callY en_37 (tree_writer_number_fn k v122 bp_w_0 rew121 hw121 r_1.Rate.Burst v124 hv124) rfl rfl (TVles.refl _) (fun rew123 => ([(b2, RS.box [.int .i64 r_1.Rate.Num, .int .i64 r_1.Rate.Per, .int .i64 r_1.Rate.Burst]), (b1, RS.box [.bool r_1.Allow, .int .i64 r_1.When.Kind, .int .i64 r_1.When.Field, .slice .ro 2 (r_1.When.Ranges.map GRange.enc), encF r_1.When.Low, encF r_1.When.High, .slice .ro 6 (r_1.When.Of.map GExpr.enc), .int .i64 r_1.Rate.Num, .int .i64 r_1.Rate.Per, .int .i64 r_1.Rate.Burst, .int .i64 r_1.Line])] ++ rew123)) [(b2, RS.box [.int .i64 r_1.Rate.Num, .int .i64 r_1.Rate.Per, .int .i64 r_1.Rate.Burst]), (b1, RS.box [.bool r_1.Allow, .int .i64 r_1.When.Kind, .int .i64 r_1.When.Field, .slice .ro 2 (r_1.When.Ranges.map GRange.enc), encF r_1.When.Low, encF r_1.When.High, .slice .ro 6 (r_1.When.Of.map GExpr.enc), .int .i64 r_1.Rate.Num, .int .i64 r_1.Rate.Per, .int .i64 r_1.Rate.Burst, .int .i64 r_1.Line])] [] (fun _ => by simp) rfl) ?_
              rintro E' s' ⟨rew123, hw123, rfl, hs'⟩
              rw [hs']
              show AReg _ _ _ _ _ _ ((81, .tuple []) :: _) ([(b2, RS.box [.int .i64 r_1.Rate.Num, .int .i64 r_1.Rate.Per, .int .i64 r_1.Rate.Burst]), (b1, RS.box [.bool r_1.Allow, .int .i64 r_1.When.Kind, .int .i64 r_1.When.Field, .slice .ro 2 (r_1.When.Ranges.map GRange.enc), encF r_1.When.Low, encF r_1.When.High, .slice .ro 6 (r_1.When.Of.map GExpr.enc), .int .i64 r_1.Rate.Num, .int .i64 r_1.Rate.Per, .int .i64 r_1.Rate.Burst, .int .i64 r_1.Line])] ++ rew123)
              refine .done rfl ?_
              refine ac_seq ?_
              refine ac_region rfl ?_
              refine rq (u := .ptr bp_w_0 0) rfl rfl rfl (p_move rfl) rfl ?_
              refine rq (u := .ptr bp_w_0 0) rfl rfl rfl (p_nilCheck_ptr rfl rfl) rfl ?_
              refine rq (u := .ptr bp_w_0 0) rfl rfl rfl (p_field_ptr fl_51_0 rfl rfl) rfl ?_
              obtain ⟨v126, hv126, h⟩ := bnd_some h
              refine ra rfl rfl (a_callY en_35 (ws_call bp_w_0 v124 (⟨#[59, 10]⟩ : ByteArray) v126 hv126 rew123 hw123) rfl rfl (TVles.refl _) (fun rew125 => ([(b2, RS.box [.int .i64 r_1.Rate.Num, .int .i64 r_1.Rate.Per, .int .i64 r_1.Rate.Burst]), (b1, RS.box [.bool r_1.Allow, .int .i64 r_1.When.Kind, .int .i64 r_1.When.Field, .slice .ro 2 (r_1.When.Ranges.map GRange.enc), encF r_1.When.Low, encF r_1.When.High, .slice .ro 6 (r_1.When.Of.map GExpr.enc), .int .i64 r_1.Rate.Num, .int .i64 r_1.Rate.Per, .int .i64 r_1.Rate.Burst, .int .i64 r_1.Line])] ++ rew125)) [(b2, RS.box [.int .i64 r_1.Rate.Num, .int .i64 r_1.Rate.Per, .int .i64 r_1.Rate.Burst]), (b1, RS.box [.bool r_1.Allow, .int .i64 r_1.When.Kind, .int .i64 r_1.When.Field, .slice .ro 2 (r_1.When.Ranges.map GRange.enc), encF r_1.When.Low, encF r_1.When.High, .slice .ro 6 (r_1.When.Of.map GExpr.enc), .int .i64 r_1.Rate.Num, .int .i64 r_1.Rate.Per, .int .i64 r_1.Rate.Burst, .int .i64 r_1.Line])] [] (fun _ => by simp) rfl) ?_
              rintro E' s' ⟨rew125, hw125, rfl, hs'⟩
              rw [hs']
              show AReg _ _ _ _ _ _ ((85, .tuple [.int .i64 ((⟨#[59, 10]⟩ : ByteArray).size : Int), .nili]) :: _) ([(b2, RS.box [.int .i64 r_1.Rate.Num, .int .i64 r_1.Rate.Per, .int .i64 r_1.Rate.Burst]), (b1, RS.box [.bool r_1.Allow, .int .i64 r_1.When.Kind, .int .i64 r_1.When.Field, .slice .ro 2 (r_1.When.Ranges.map GRange.enc), encF r_1.When.Low, encF r_1.When.High, .slice .ro 6 (r_1.When.Of.map GExpr.enc), .int .i64 r_1.Rate.Num, .int .i64 r_1.Rate.Per, .int .i64 r_1.Rate.Burst, .int .i64 r_1.Line])] ++ rew125)
              refine .done rfl ?_
              refine ac_seq ?_
              refine ac_region rfl ?_
              refine rq (u := .bool true) rfl rfl rfl (p_assign rfl) rfl ?_
              refine .done rfl ?_
              refine ac_ret ?_
              show Fin _ _ _ _ _ _ _
              exact fin_ret (Nat.le_of_ble_eq_true rfl) rfl ⟨rew125, (by obtain rfl := Option.some.inj h; exact hw125), (by obtain rfl := Option.some.inj h; rfl), (ResLe.sub (by simp))⟩
            · replace h := cond_f hc129 h
              refine ac_skip ?_
              refine ac_seq ?_
              refine ac_region rfl ?_
              refine rq (u := .ptr bp_w_0 0) rfl rfl rfl (p_move rfl) rfl ?_
              refine rq (u := .ptr bp_w_0 0) rfl rfl rfl (p_nilCheck_ptr rfl rfl) rfl ?_
              refine rq (u := .ptr bp_w_0 0) rfl rfl rfl (p_field_ptr fl_51_0 rfl rfl) rfl ?_
              obtain ⟨v128, hv128, h⟩ := bnd_some h
              refine ra rfl rfl (a_callY en_35 (ws_call bp_w_0 v91 (⟨#[59, 10]⟩ : ByteArray) v128 hv128 rew90 hw90) rfl rfl (TVles.refl _) (fun rew127 => ([(b2, RS.box [.int .i64 r_1.Rate.Num, .int .i64 r_1.Rate.Per, .int .i64 r_1.Rate.Burst]), (b1, RS.box [.bool r_1.Allow, .int .i64 r_1.When.Kind, .int .i64 r_1.When.Field, .slice .ro 2 (r_1.When.Ranges.map GRange.enc), encF r_1.When.Low, encF r_1.When.High, .slice .ro 6 (r_1.When.Of.map GExpr.enc), .int .i64 r_1.Rate.Num, .int .i64 r_1.Rate.Per, .int .i64 r_1.Rate.Burst, .int .i64 r_1.Line])] ++ rew127)) [(b2, RS.box [.int .i64 r_1.Rate.Num, .int .i64 r_1.Rate.Per, .int .i64 r_1.Rate.Burst]), (b1, RS.box [.bool r_1.Allow, .int .i64 r_1.When.Kind, .int .i64 r_1.When.Field, .slice .ro 2 (r_1.When.Ranges.map GRange.enc), encF r_1.When.Low, encF r_1.When.High, .slice .ro 6 (r_1.When.Of.map GExpr.enc), .int .i64 r_1.Rate.Num, .int .i64 r_1.Rate.Per, .int .i64 r_1.Rate.Burst, .int .i64 r_1.Line])] [] (fun _ => by simp) rfl) ?_
              rintro E' s' ⟨rew127, hw127, rfl, hs'⟩
              rw [hs']
              show AReg _ _ _ _ _ _ ((85, .tuple [.int .i64 ((⟨#[59, 10]⟩ : ByteArray).size : Int), .nili]) :: _) ([(b2, RS.box [.int .i64 r_1.Rate.Num, .int .i64 r_1.Rate.Per, .int .i64 r_1.Rate.Burst]), (b1, RS.box [.bool r_1.Allow, .int .i64 r_1.When.Kind, .int .i64 r_1.When.Field, .slice .ro 2 (r_1.When.Ranges.map GRange.enc), encF r_1.When.Low, encF r_1.When.High, .slice .ro 6 (r_1.When.Of.map GExpr.enc), .int .i64 r_1.Rate.Num, .int .i64 r_1.Rate.Per, .int .i64 r_1.Rate.Burst, .int .i64 r_1.Line])] ++ rew127)
              refine .done rfl ?_
              refine ac_seq ?_
              refine ac_region rfl ?_
              refine rq (u := .bool true) rfl rfl rfl (p_assign rfl) rfl ?_
              refine .done rfl ?_
              refine ac_ret ?_
              show Fin _ _ _ _ _ _ _
              exact fin_ret (Nat.le_of_ble_eq_true rfl) rfl ⟨rew127, (by obtain rfl := Option.some.inj h; exact hw127), (by obtain rfl := Option.some.inj h; rfl), (ResLe.sub (by simp))⟩
        · replace h := cond_f hc172 h
          refine ac_region rfl ?_
          refine rq (u := .ptr bp_w_0 0) rfl rfl rfl (p_move rfl) rfl ?_
          refine rq (u := .ptr bp_w_0 0) rfl rfl rfl (p_nilCheck_ptr rfl rfl) rfl ?_
          refine rq (u := .ptr bp_w_0 0) rfl rfl rfl (p_field_ptr fl_51_0 rfl rfl) rfl ?_
          obtain ⟨v132, hv132, h⟩ := bnd_some h
          refine ra rfl rfl (a_callY en_35 (ws_call bp_w_0 w_0 (⟨#[100, 101, 110, 121]⟩ : ByteArray) v132 hv132 re_w_0 hw_w_0) rfl rfl (TVles.refl _) (fun rew131 => ([(b2, RS.box [.int .i64 r_1.Rate.Num, .int .i64 r_1.Rate.Per, .int .i64 r_1.Rate.Burst]), (b1, RS.box [.bool r_1.Allow, .int .i64 r_1.When.Kind, .int .i64 r_1.When.Field, .slice .ro 2 (r_1.When.Ranges.map GRange.enc), encF r_1.When.Low, encF r_1.When.High, .slice .ro 6 (r_1.When.Of.map GExpr.enc), .int .i64 r_1.Rate.Num, .int .i64 r_1.Rate.Per, .int .i64 r_1.Rate.Burst, .int .i64 r_1.Line])] ++ rew131)) [(b2, RS.box [.int .i64 r_1.Rate.Num, .int .i64 r_1.Rate.Per, .int .i64 r_1.Rate.Burst]), (b1, RS.box [.bool r_1.Allow, .int .i64 r_1.When.Kind, .int .i64 r_1.When.Field, .slice .ro 2 (r_1.When.Ranges.map GRange.enc), encF r_1.When.Low, encF r_1.When.High, .slice .ro 6 (r_1.When.Of.map GExpr.enc), .int .i64 r_1.Rate.Num, .int .i64 r_1.Rate.Per, .int .i64 r_1.Rate.Burst, .int .i64 r_1.Line])] [] (fun _ => by simp) rfl) ?_
          rintro E' s' ⟨rew131, hw131, rfl, hs'⟩
          rw [hs']
          show AReg _ _ _ _ _ _ ((42, .tuple [.int .i64 ((⟨#[100, 101, 110, 121]⟩ : ByteArray).size : Int), .nili]) :: _) ([(b2, RS.box [.int .i64 r_1.Rate.Num, .int .i64 r_1.Rate.Per, .int .i64 r_1.Rate.Burst]), (b1, RS.box [.bool r_1.Allow, .int .i64 r_1.When.Kind, .int .i64 r_1.When.Field, .slice .ro 2 (r_1.When.Ranges.map GRange.enc), encF r_1.When.Low, encF r_1.When.High, .slice .ro 6 (r_1.When.Of.map GExpr.enc), .int .i64 r_1.Rate.Num, .int .i64 r_1.Rate.Per, .int .i64 r_1.Rate.Burst, .int .i64 r_1.Line])] ++ rew131)
          refine .done rfl ?_
          refine ac_seq ?_
          refine ac_seq ?_
          refine ac_region rfl ?_
          refine rq (u := .ptr b1 1) rfl rfl rfl (p_field_ptr fl_39_1 rfl rfl) rfl ?_
          refine rq (u := .ptr b1 1) rfl rfl rfl (p_field_ptr fl_33_0 rfl rfl) rfl ?_
          refine rq (u := .int .i64 r_1.When.Kind) rfl rfl rfl (p_load_ptr ti_3 (fun _ => rfl) rfl rfl (.tail _ (.head _)) (Nat.le_of_ble_eq_true rfl)) rfl ?_
          refine rq (u := .bool (r_1.When.Kind != 0)) rfl rfl rfl (p_neq rfl rfl rfl) rfl ?_
          refine .done rfl ?_
          refine ac_cond rfl rfl (fun hc171 => ?_) (fun hc171 => ?_)
          · replace h := cond_t hc171 h
            refine ac_seq ?_
            refine ac_region rfl ?_
            refine rq (u := .ptr bp_w_0 0) rfl rfl rfl (p_move rfl) rfl ?_
            refine rq (u := .ptr bp_w_0 0) rfl rfl rfl (p_nilCheck_ptr rfl rfl) rfl ?_
            refine rq (u := .ptr bp_w_0 0) rfl rfl rfl (p_field_ptr fl_51_0 rfl rfl) rfl ?_
            obtain ⟨v134, hv134, h⟩ := bnd_some h
            refine ra rfl rfl (a_callY en_35 (ws_call bp_w_0 v132 (⟨#[32, 119, 104, 101, 110, 32]⟩ : ByteArray) v134 hv134 rew131 hw131) rfl rfl (TVles.refl _) (fun rew133 => ([(b2, RS.box [.int .i64 r_1.Rate.Num, .int .i64 r_1.Rate.Per, .int .i64 r_1.Rate.Burst]), (b1, RS.box [.bool r_1.Allow, .int .i64 r_1.When.Kind, .int .i64 r_1.When.Field, .slice .ro 2 (r_1.When.Ranges.map GRange.enc), encF r_1.When.Low, encF r_1.When.High, .slice .ro 6 (r_1.When.Of.map GExpr.enc), .int .i64 r_1.Rate.Num, .int .i64 r_1.Rate.Per, .int .i64 r_1.Rate.Burst, .int .i64 r_1.Line])] ++ rew133)) [(b2, RS.box [.int .i64 r_1.Rate.Num, .int .i64 r_1.Rate.Per, .int .i64 r_1.Rate.Burst]), (b1, RS.box [.bool r_1.Allow, .int .i64 r_1.When.Kind, .int .i64 r_1.When.Field, .slice .ro 2 (r_1.When.Ranges.map GRange.enc), encF r_1.When.Low, encF r_1.When.High, .slice .ro 6 (r_1.When.Of.map GExpr.enc), .int .i64 r_1.Rate.Num, .int .i64 r_1.Rate.Per, .int .i64 r_1.Rate.Burst, .int .i64 r_1.Line])] [] (fun _ => by simp) rfl) ?_
            rintro E' s' ⟨rew133, hw133, rfl, hs'⟩
            rw [hs']
            show AReg _ _ _ _ _ _ ((50, .tuple [.int .i64 ((⟨#[32, 119, 104, 101, 110, 32]⟩ : ByteArray).size : Int), .nili]) :: _) ([(b2, RS.box [.int .i64 r_1.Rate.Num, .int .i64 r_1.Rate.Per, .int .i64 r_1.Rate.Burst]), (b1, RS.box [.bool r_1.Allow, .int .i64 r_1.When.Kind, .int .i64 r_1.When.Field, .slice .ro 2 (r_1.When.Ranges.map GRange.enc), encF r_1.When.Low, encF r_1.When.High, .slice .ro 6 (r_1.When.Of.map GExpr.enc), .int .i64 r_1.Rate.Num, .int .i64 r_1.Rate.Per, .int .i64 r_1.Rate.Burst, .int .i64 r_1.Line])] ++ rew133)
            refine .done rfl ?_
            refine ac_region rfl ?_
            refine rq (u := .ptr bp_w_0 0) rfl rfl rfl (p_move rfl) rfl ?_
            refine rq (u := .ptr b1 1) rfl rfl rfl (p_field_ptr fl_39_1 rfl rfl) rfl ?_
            refine rq (u := .agg (GExpr.cells r_1.When)) rfl rfl rfl (p_load_ptr ti_33 nofun rfl rfl (.tail _ (.head _)) (Nat.le_of_ble_eq_true rfl)) rfl ?_
            obtain ⟨v136, hv136, h⟩ := bnd_some h
            refine ra rfl rfl (a_callY en_36 (tree_writer_expr_fn k v134 bp_w_0 rew133 hw133 r_1.When v136 hv136) rfl rfl (TVles.refl _) (fun rew135 => ([(b2, RS.box [.int .i64 r_1.Rate.Num, .int .i64 r_1.Rate.Per, .int .i64 r_1.Rate.Burst]), (b1, RS.box [.bool r_1.Allow, .int .i64 r_1.When.Kind, .int .i64 r_1.When.Field, .slice .ro 2 (r_1.When.Ranges.map GRange.enc), encF r_1.When.Low, encF r_1.When.High, .slice .ro 6 (r_1.When.Of.map GExpr.enc), .int .i64 r_1.Rate.Num, .int .i64 r_1.Rate.Per, .int .i64 r_1.Rate.Burst, .int .i64 r_1.Line])] ++ rew135)) [(b2, RS.box [.int .i64 r_1.Rate.Num, .int .i64 r_1.Rate.Per, .int .i64 r_1.Rate.Burst]), (b1, RS.box [.bool r_1.Allow, .int .i64 r_1.When.Kind, .int .i64 r_1.When.Field, .slice .ro 2 (r_1.When.Ranges.map GRange.enc), encF r_1.When.Low, encF r_1.When.High, .slice .ro 6 (r_1.When.Of.map GExpr.enc), .int .i64 r_1.Rate.Num, .int .i64 r_1.Rate.Per, .int .i64 r_1.Rate.Burst, .int .i64 r_1.Line])] [] (fun _ => by simp) rfl) ?_
            rintro E' s' ⟨rew135, hw135, rfl, hs'⟩
            rw [hs']
            show AReg _ _ _ _ _ _ ((54, .tuple []) :: _) ([(b2, RS.box [.int .i64 r_1.Rate.Num, .int .i64 r_1.Rate.Per, .int .i64 r_1.Rate.Burst]), (b1, RS.box [.bool r_1.Allow, .int .i64 r_1.When.Kind, .int .i64 r_1.When.Field, .slice .ro 2 (r_1.When.Ranges.map GRange.enc), encF r_1.When.Low, encF r_1.When.High, .slice .ro 6 (r_1.When.Of.map GExpr.enc), .int .i64 r_1.Rate.Num, .int .i64 r_1.Rate.Per, .int .i64 r_1.Rate.Burst, .int .i64 r_1.Line])] ++ rew135)
            refine .done rfl ?_
            refine ac_seq ?_
            refine ac_seq ?_
            refine ac_region rfl ?_
            refine rq (u := .ptr b2 1) rfl rfl rfl (p_field_ptr fl_37_1 rfl rfl) rfl ?_
            refine rq (u := .int .i64 r_1.Rate.Per) rfl rfl rfl (p_load_ptr ti_3 (fun _ => rfl) rfl rfl (.head _) (Nat.le_of_ble_eq_true rfl)) rfl ?_
            refine rq (u := .bool (decide (0 < r_1.Rate.Per))) rfl rfl rfl (p_gtr rfl rfl rfl) rfl ?_
            refine .done rfl ?_
            refine ac_cond rfl rfl (fun hc153 => ?_) (fun hc153 => ?_)
            · replace h := cond_t hc153 h
              refine ac_seq ?_
              refine ac_region rfl ?_
              refine rq (u := .ptr bp_w_0 0) rfl rfl rfl (p_move rfl) rfl ?_
              refine rq (u := .ptr bp_w_0 0) rfl rfl rfl (p_nilCheck_ptr rfl rfl) rfl ?_
              refine rq (u := .ptr bp_w_0 0) rfl rfl rfl (p_field_ptr fl_51_0 rfl rfl) rfl ?_
              obtain ⟨v138, hv138, h⟩ := bnd_some h
              refine ra rfl rfl (a_callY en_35 (ws_call bp_w_0 v136 (⟨#[32, 114, 97, 116, 101, 32]⟩ : ByteArray) v138 hv138 rew135 hw135) rfl rfl (TVles.refl _) (fun rew137 => ([(b2, RS.box [.int .i64 r_1.Rate.Num, .int .i64 r_1.Rate.Per, .int .i64 r_1.Rate.Burst]), (b1, RS.box [.bool r_1.Allow, .int .i64 r_1.When.Kind, .int .i64 r_1.When.Field, .slice .ro 2 (r_1.When.Ranges.map GRange.enc), encF r_1.When.Low, encF r_1.When.High, .slice .ro 6 (r_1.When.Of.map GExpr.enc), .int .i64 r_1.Rate.Num, .int .i64 r_1.Rate.Per, .int .i64 r_1.Rate.Burst, .int .i64 r_1.Line])] ++ rew137)) [(b2, RS.box [.int .i64 r_1.Rate.Num, .int .i64 r_1.Rate.Per, .int .i64 r_1.Rate.Burst]), (b1, RS.box [.bool r_1.Allow, .int .i64 r_1.When.Kind, .int .i64 r_1.When.Field, .slice .ro 2 (r_1.When.Ranges.map GRange.enc), encF r_1.When.Low, encF r_1.When.High, .slice .ro 6 (r_1.When.Of.map GExpr.enc), .int .i64 r_1.Rate.Num, .int .i64 r_1.Rate.Per, .int .i64 r_1.Rate.Burst, .int .i64 r_1.Line])] [] (fun _ => by simp) rfl) ?_
              rintro E' s' ⟨rew137, hw137, rfl, hs'⟩
              rw [hs']
              show AReg _ _ _ _ _ _ ((61, .tuple [.int .i64 ((⟨#[32, 114, 97, 116, 101, 32]⟩ : ByteArray).size : Int), .nili]) :: _) ([(b2, RS.box [.int .i64 r_1.Rate.Num, .int .i64 r_1.Rate.Per, .int .i64 r_1.Rate.Burst]), (b1, RS.box [.bool r_1.Allow, .int .i64 r_1.When.Kind, .int .i64 r_1.When.Field, .slice .ro 2 (r_1.When.Ranges.map GRange.enc), encF r_1.When.Low, encF r_1.When.High, .slice .ro 6 (r_1.When.Of.map GExpr.enc), .int .i64 r_1.Rate.Num, .int .i64 r_1.Rate.Per, .int .i64 r_1.Rate.Burst, .int .i64 r_1.Line])] ++ rew137)
              refine .done rfl ?_
              refine ac_seq ?_
              refine ac_region rfl ?_
              refine rq (u := .ptr bp_w_0 0) rfl rfl rfl (p_move rfl) rfl ?_
              refine rq (u := .ptr b2 0) rfl rfl rfl (p_field_ptr fl_37_0 rfl rfl) rfl ?_
              refine rq (u := .int .i64 r_1.Rate.Num) rfl rfl rfl (p_load_ptr ti_3 (fun _ => rfl) rfl rfl (.head _) (Nat.le_of_ble_eq_true rfl)) rfl ?_
              obtain ⟨v140, hv140, h⟩ := bnd_some h
              refine ra rfl rfl (a_callY en_37 (tree_writer_number_fn k v138 bp_w_0 rew137 hw137 r_1.Rate.Num v140 hv140) rfl rfl (TVles.refl _) (fun rew139 => ([(b2, RS.box [.int .i64 r_1.Rate.Num, .int .i64 r_1.Rate.Per, .int .i64 r_1.Rate.Burst]), (b1, RS.box [.bool r_1.Allow, .int .i64 r_1.When.Kind, .int .i64 r_1.When.Field, .slice .ro 2 (r_1.When.Ranges.map GRange.enc), encF r_1.When.Low, encF r_1.When.High, .slice .ro 6 (r_1.When.Of.map GExpr.enc), .int .i64 r_1.Rate.Num, .int .i64 r_1.Rate.Per, .int .i64 r_1.Rate.Burst, .int .i64 r_1.Line])] ++ rew139)) [(b2, RS.box [.int .i64 r_1.Rate.Num, .int .i64 r_1.Rate.Per, .int .i64 r_1.Rate.Burst]), (b1, RS.box [.bool r_1.Allow, .int .i64 r_1.When.Kind, .int .i64 r_1.When.Field, .slice .ro 2 (r_1.When.Ranges.map GRange.enc), encF r_1.When.Low, encF r_1.When.High, .slice .ro 6 (r_1.When.Of.map GExpr.enc), .int .i64 r_1.Rate.Num, .int .i64 r_1.Rate.Per, .int .i64 r_1.Rate.Burst, .int .i64 r_1.Line])] [] (fun _ => by simp) rfl) ?_
              rintro E' s' ⟨rew139, hw139, rfl, hs'⟩
              rw [hs']
              show AReg _ _ _ _ _ _ ((65, .tuple []) :: _) ([(b2, RS.box [.int .i64 r_1.Rate.Num, .int .i64 r_1.Rate.Per, .int .i64 r_1.Rate.Burst]), (b1, RS.box [.bool r_1.Allow, .int .i64 r_1.When.Kind, .int .i64 r_1.When.Field, .slice .ro 2 (r_1.When.Ranges.map GRange.enc), encF r_1.When.Low, encF r_1.When.High, .slice .ro 6 (r_1.When.Of.map GExpr.enc), .int .i64 r_1.Rate.Num, .int .i64 r_1.Rate.Per, .int .i64 r_1.Rate.Burst, .int .i64 r_1.Line])] ++ rew139)
              refine .done rfl ?_
              refine ac_seq ?_
              refine ac_region rfl ?_
              refine rq (u := .ptr bp_w_0 0) rfl rfl rfl (p_move rfl) rfl ?_
              refine rq (u := .ptr bp_w_0 0) rfl rfl rfl (p_nilCheck_ptr rfl rfl) rfl ?_
              refine rq (u := .ptr bp_w_0 0) rfl rfl rfl (p_field_ptr fl_51_0 rfl rfl) rfl ?_
              obtain ⟨v142, hv142, h⟩ := bnd_some h
              refine ra rfl rfl (a_callY en_35 (ws_call bp_w_0 v140 (⟨#[32, 112, 101, 114, 32]⟩ : ByteArray) v142 hv142 rew139 hw139) rfl rfl (TVles.refl _) (fun rew141 => ([(b2, RS.box [.int .i64 r_1.Rate.Num, .int .i64 r_1.Rate.Per, .int .i64 r_1.Rate.Burst]), (b1, RS.box [.bool r_1.Allow, .int .i64 r_1.When.Kind, .int .i64 r_1.When.Field, .slice .ro 2 (r_1.When.Ranges.map GRange.enc), encF r_1.When.Low, encF r_1.When.High, .slice .ro 6 (r_1.When.Of.map GExpr.enc), .int .i64 r_1.Rate.Num, .int .i64 r_1.Rate.Per, .int .i64 r_1.Rate.Burst, .int .i64 r_1.Line])] ++ rew141)) [(b2, RS.box [.int .i64 r_1.Rate.Num, .int .i64 r_1.Rate.Per, .int .i64 r_1.Rate.Burst]), (b1, RS.box [.bool r_1.Allow, .int .i64 r_1.When.Kind, .int .i64 r_1.When.Field, .slice .ro 2 (r_1.When.Ranges.map GRange.enc), encF r_1.When.Low, encF r_1.When.High, .slice .ro 6 (r_1.When.Of.map GExpr.enc), .int .i64 r_1.Rate.Num, .int .i64 r_1.Rate.Per, .int .i64 r_1.Rate.Burst, .int .i64 r_1.Line])] [] (fun _ => by simp) rfl) ?_
              rintro E' s' ⟨rew141, hw141, rfl, hs'⟩
              rw [hs']
              show AReg _ _ _ _ _ _ ((69, .tuple [.int .i64 ((⟨#[32, 112, 101, 114, 32]⟩ : ByteArray).size : Int), .nili]) :: _) ([(b2, RS.box [.int .i64 r_1.Rate.Num, .int .i64 r_1.Rate.Per, .int .i64 r_1.Rate.Burst]), (b1, RS.box [.bool r_1.Allow, .int .i64 r_1.When.Kind, .int .i64 r_1.When.Field, .slice .ro 2 (r_1.When.Ranges.map GRange.enc), encF r_1.When.Low, encF r_1.When.High, .slice .ro 6 (r_1.When.Of.map GExpr.enc), .int .i64 r_1.Rate.Num, .int .i64 r_1.Rate.Per, .int .i64 r_1.Rate.Burst, .int .i64 r_1.Line])] ++ rew141)
              refine .done rfl ?_
              refine ac_seq ?_
              refine ac_region rfl ?_
              refine rq (u := .ptr bp_w_0 0) rfl rfl rfl (p_move rfl) rfl ?_
              refine rq (u := .ptr b2 1) rfl rfl rfl (p_field_ptr fl_37_1 rfl rfl) rfl ?_
              refine rq (u := .int .i64 r_1.Rate.Per) rfl rfl rfl (p_load_ptr ti_3 (fun _ => rfl) rfl rfl (.head _) (Nat.le_of_ble_eq_true rfl)) rfl ?_
              obtain ⟨v144, hv144, h⟩ := bnd_some h
              refine ra rfl rfl (a_callY en_37 (tree_writer_number_fn k v142 bp_w_0 rew141 hw141 r_1.Rate.Per v144 hv144) rfl rfl (TVles.refl _) (fun rew143 => ([(b2, RS.box [.int .i64 r_1.Rate.Num, .int .i64 r_1.Rate.Per, .int .i64 r_1.Rate.Burst]), (b1, RS.box [.bool r_1.Allow, .int .i64 r_1.When.Kind, .int .i64 r_1.When.Field, .slice .ro 2 (r_1.When.Ranges.map GRange.enc), encF r_1.When.Low, encF r_1.When.High, .slice .ro 6 (r_1.When.Of.map GExpr.enc), .int .i64 r_1.Rate.Num, .int .i64 r_1.Rate.Per, .int .i64 r_1.Rate.Burst, .int .i64 r_1.Line])] ++ rew143)) [(b2, RS.box [.int .i64 r_1.Rate.Num, .int .i64 r_1.Rate.Per, .int .i64 r_1.Rate.Burst]), (b1, RS.box [.bool r_1.Allow, .int .i64 r_1.When.Kind, .int .i64 r_1.When.Field, .slice .ro 2 (r_1.When.Ranges.map GRange.enc), encF r_1.When.Low, encF r_1.When.High, .slice .ro 6 (r_1.When.Of.map GExpr.enc), .int .i64 r_1.Rate.Num, .int .i64 r_1.Rate.Per, .int .i64 r_1.Rate.Burst, .int .i64 r_1.Line])] [] (fun _ => by simp) rfl) ?_
              rintro E' s' ⟨rew143, hw143, rfl, hs'⟩
              rw [hs']
              show AReg _ _ _ _ _ _ ((73, .tuple []) :: _) ([(b2, RS.box [.int .i64 r_1.Rate.Num, .int .i64 r_1.Rate.Per, .int .i64 r_1.Rate.Burst]), (b1, RS.box [.bool r_1.Allow, .int .i64 r_1.When.Kind, .int .i64 r_1.When.Field, .slice .ro 2 (r_1.When.Ranges.map GRange.enc), encF r_1.When.Low, encF r_1.When.High, .slice .ro 6 (r_1.When.Of.map GExpr.enc), .int .i64 r_1.Rate.Num, .int .i64 r_1.Rate.Per, .int .i64 r_1.Rate.Burst, .int .i64 r_1.Line])] ++ rew143)
              refine .done rfl ?_
              refine ac_seq ?_
              refine ac_region rfl ?_
              refine rq (u := .ptr bp_w_0 0) rfl rfl rfl (p_move rfl) rfl ?_
              refine rq (u := .ptr bp_w_0 0) rfl rfl rfl (p_nilCheck_ptr rfl rfl) rfl ?_
              refine rq (u := .ptr bp_w_0 0) rfl rfl rfl (p_field_ptr fl_51_0 rfl rfl) rfl ?_
              obtain ⟨v146, hv146, h⟩ := bnd_some h
              refine ra rfl rfl (a_callY en_35 (ws_call bp_w_0 v144 (⟨#[32, 98, 117, 114, 115, 116, 32]⟩ : ByteArray) v146 hv146 rew143 hw143) rfl rfl (TVles.refl _) (fun rew145 => ([(b2, RS.box [.int .i64 r_1.Rate.Num, .int .i64 r_1.Rate.Per, .int .i64 r_1.Rate.Burst]), (b1, RS.box [.bool r_1.Allow, .int .i64 r_1.When.Kind, .int .i64 r_1.When.Field, .slice .ro 2 (r_1.When.Ranges.map GRange.enc), encF r_1.When.Low, encF r_1.When.High, .slice .ro 6 (r_1.When.Of.map GExpr.enc), .int .i64 r_1.Rate.Num, .int .i64 r_1.Rate.Per, .int .i64 r_1.Rate.Burst, .int .i64 r_1.Line])] ++ rew145)) [(b2, RS.box [.int .i64 r_1.Rate.Num, .int .i64 r_1.Rate.Per, .int .i64 r_1.Rate.Burst]), (b1, RS.box [.bool r_1.Allow, .int .i64 r_1.When.Kind, .int .i64 r_1.When.Field, .slice .ro 2 (r_1.When.Ranges.map GRange.enc), encF r_1.When.Low, encF r_1.When.High, .slice .ro 6 (r_1.When.Of.map GExpr.enc), .int .i64 r_1.Rate.Num, .int .i64 r_1.Rate.Per, .int .i64 r_1.Rate.Burst, .int .i64 r_1.Line])] [] (fun _ => by simp) rfl) ?_
              rintro E' s' ⟨rew145, hw145, rfl, hs'⟩
              rw [hs']
              show AReg _ _ _ _ _ _ ((77, .tuple [.int .i64 ((⟨#[32, 98, 117, 114, 115, 116, 32]⟩ : ByteArray).size : Int), .nili]) :: _) ([(b2, RS.box [.int .i64 r_1.Rate.Num, .int .i64 r_1.Rate.Per, .int .i64 r_1.Rate.Burst]), (b1, RS.box [.bool r_1.Allow, .int .i64 r_1.When.Kind, .int .i64 r_1.When.Field, .slice .ro 2 (r_1.When.Ranges.map GRange.enc), encF r_1.When.Low, encF r_1.When.High, .slice .ro 6 (r_1.When.Of.map GExpr.enc), .int .i64 r_1.Rate.Num, .int .i64 r_1.Rate.Per, .int .i64 r_1.Rate.Burst, .int .i64 r_1.Line])] ++ rew145)
              refine .done rfl ?_
              refine ac_region rfl ?_
              refine rq (u := .ptr bp_w_0 0) rfl rfl rfl (p_move rfl) rfl ?_
              refine rq (u := .ptr b2 2) rfl rfl rfl (p_field_ptr fl_37_2 rfl rfl) rfl ?_
              refine rq (u := .int .i64 r_1.Rate.Burst) rfl rfl rfl (p_load_ptr ti_3 (fun _ => rfl) rfl rfl (.head _) (Nat.le_of_ble_eq_true rfl)) rfl ?_
              obtain ⟨v148, hv148, h⟩ := bnd_some h
              refine ra rfl rfl (a_callY en_37 (tree_writer_number_fn k v146 bp_w_0 rew145 hw145 r_1.Rate.Burst v148 hv148) rfl rfl (TVles.refl _) (fun rew147 => ([(b2, RS.box [.int .i64 r_1.Rate.Num, .int .i64 r_1.Rate.Per, .int .i64 r_1.Rate.Burst]), (b1, RS.box [.bool r_1.Allow, .int .i64 r_1.When.Kind, .int .i64 r_1.When.Field, .slice .ro 2 (r_1.When.Ranges.map GRange.enc), encF r_1.When.Low, encF r_1.When.High, .slice .ro 6 (r_1.When.Of.map GExpr.enc), .int .i64 r_1.Rate.Num, .int .i64 r_1.Rate.Per, .int .i64 r_1.Rate.Burst, .int .i64 r_1.Line])] ++ rew147)) [(b2, RS.box [.int .i64 r_1.Rate.Num, .int .i64 r_1.Rate.Per, .int .i64 r_1.Rate.Burst]), (b1, RS.box [.bool r_1.Allow, .int .i64 r_1.When.Kind, .int .i64 r_1.When.Field, .slice .ro 2 (r_1.When.Ranges.map GRange.enc), encF r_1.When.Low, encF r_1.When.High, .slice .ro 6 (r_1.When.Of.map GExpr.enc), .int .i64 r_1.Rate.Num, .int .i64 r_1.Rate.Per, .int .i64 r_1.Rate.Burst, .int .i64 r_1.Line])] [] (fun _ => by simp) rfl) ?_
              rintro E' s' ⟨rew147, hw147, rfl, hs'⟩
              rw [hs']
              show AReg _ _ _ _ _ _ ((81, .tuple []) :: _) ([(b2, RS.box [.int .i64 r_1.Rate.Num, .int .i64 r_1.Rate.Per, .int .i64 r_1.Rate.Burst]), (b1, RS.box [.bool r_1.Allow, .int .i64 r_1.When.Kind, .int .i64 r_1.When.Field, .slice .ro 2 (r_1.When.Ranges.map GRange.enc), encF r_1.When.Low, encF r_1.When.High, .slice .ro 6 (r_1.When.Of.map GExpr.enc), .int .i64 r_1.Rate.Num, .int .i64 r_1.Rate.Per, .int .i64 r_1.Rate.Burst, .int .i64 r_1.Line])] ++ rew147)
              refine .done rfl ?_
              refine ac_seq ?_
              refine ac_region rfl ?_
              refine rq (u := .ptr bp_w_0 0) rfl rfl rfl (p_move rfl) rfl ?_
              refine rq (u := .ptr bp_w_0 0) rfl rfl rfl (p_nilCheck_ptr rfl rfl) rfl ?_
              refine rq (u := .ptr bp_w_0 0) rfl rfl rfl (p_field_ptr fl_51_0 rfl rfl) rfl ?_
              obtain ⟨v150, hv150, h⟩ := bnd_some h
              refine ra rfl rfl (a_callY en_35 (ws_call bp_w_0 v148 (⟨#[59, 10]⟩ : ByteArray) v150 hv150 rew147 hw147) rfl rfl (TVles.refl _) (fun rew149 => ([(b2, RS.box [.int .i64 r_1.Rate.Num, .int .i64 r_1.Rate.Per, .int .i64 r_1.Rate.Burst]), (b1, RS.box [.bool r_1.Allow, .int .i64 r_1.When.Kind, .int .i64 r_1.When.Field, .slice .ro 2 (r_1.When.Ranges.map GRange.enc), encF r_1.When.Low, encF r_1.When.High, .slice .ro 6 (r_1.When.Of.map GExpr.enc), .int .i64 r_1.Rate.Num, .int .i64 r_1.Rate.Per, .int .i64 r_1.Rate.Burst, .int .i64 r_1.Line])] ++ rew149)) [(b2, RS.box [.int .i64 r_1.Rate.Num, .int .i64 r_1.Rate.Per, .int .i64 r_1.Rate.Burst]), (b1, RS.box [.bool r_1.Allow, .int .i64 r_1.When.Kind, .int .i64 r_1.When.Field, .slice .ro 2 (r_1.When.Ranges.map GRange.enc), encF r_1.When.Low, encF r_1.When.High, .slice .ro 6 (r_1.When.Of.map GExpr.enc), .int .i64 r_1.Rate.Num, .int .i64 r_1.Rate.Per, .int .i64 r_1.Rate.Burst, .int .i64 r_1.Line])] [] (fun _ => by simp) rfl) ?_
              rintro E' s' ⟨rew149, hw149, rfl, hs'⟩
              rw [hs']
              show AReg _ _ _ _ _ _ ((85, .tuple [.int .i64 ((⟨#[59, 10]⟩ : ByteArray).size : Int), .nili]) :: _) ([(b2, RS.box [.int .i64 r_1.Rate.Num, .int .i64 r_1.Rate.Per, .int .i64 r_1.Rate.Burst]), (b1, RS.box [.bool r_1.Allow, .int .i64 r_1.When.Kind, .int .i64 r_1.When.Field, .slice .ro 2 (r_1.When.Ranges.map GRange.enc), encF r_1.When.Low, encF r_1.When.High, .slice .ro 6 (r_1.When.Of.map GExpr.enc), .int .i64 r_1.Rate.Num, .int .i64 r_1.Rate.Per, .int .i64 r_1.Rate.Burst, .int .i64 r_1.Line])] ++ rew149)
              refine .done rfl ?_
              refine ac_seq ?_
              refine ac_region rfl ?_
              refine rq (u := .bool true) rfl rfl rfl (p_assign rfl) rfl ?_
              refine .done rfl ?_
              refine ac_ret ?_
              show Fin _ _ _ _ _ _ _
              exact fin_ret (Nat.le_of_ble_eq_true rfl) rfl ⟨rew149, (by obtain rfl := Option.some.inj h; exact hw149), (by obtain rfl := Option.some.inj h; rfl), (ResLe.sub (by simp))⟩
            · replace h := cond_f hc153 h
              refine ac_skip ?_
              refine ac_seq ?_
              refine ac_region rfl ?_
              refine rq (u := .ptr bp_w_0 0) rfl rfl rfl (p_move rfl) rfl ?_
              refine rq (u := .ptr bp_w_0 0) rfl rfl rfl (p_nilCheck_ptr rfl rfl) rfl ?_
              refine rq (u := .ptr bp_w_0 0) rfl rfl rfl (p_field_ptr fl_51_0 rfl rfl) rfl ?_
              obtain ⟨v152, hv152, h⟩ := bnd_some h
              refine ra rfl rfl (a_callY en_35 (ws_call bp_w_0 v136 (⟨#[59, 10]⟩ : ByteArray) v152 hv152 rew135 hw135) rfl rfl (TVles.refl _) (fun rew151 => ([(b2, RS.box [.int .i64 r_1.Rate.Num, .int .i64 r_1.Rate.Per, .int .i64 r_1.Rate.Burst]), (b1, RS.box [.bool r_1.Allow, .int .i64 r_1.When.Kind, .int .i64 r_1.When.Field, .slice .ro 2 (r_1.When.Ranges.map GRange.enc), encF r_1.When.Low, encF r_1.When.High, .slice .ro 6 (r_1.When.Of.map GExpr.enc), .int .i64 r_1.Rate.Num, .int .i64 r_1.Rate.Per, .int .i64 r_1.Rate.Burst, .int .i64 r_1.Line])] ++ rew151)) [(b2, RS.box [.int .i64 r_1.Rate.Num, .int .i64 r_1.Rate.Per, .int .i64 r_1.Rate.Burst]), (b1, RS.box [.bool r_1.Allow, .int .i64 r_1.When.Kind, .int .i64 r_1.When.Field, .slice .ro 2 (r_1.When.Ranges.map GRange.enc), encF r_1.When.Low, encF r_1.When.High, .slice .ro 6 (r_1.When.Of.map GExpr.enc), .int .i64 r_1.Rate.Num, .int .i64 r_1.Rate.Per, .int .i64 r_1.Rate.Burst, .int .i64 r_1.Line])] [] (fun _ => by simp) rfl) ?_
              rintro E' s' ⟨rew151, hw151, rfl, hs'⟩
              rw [hs']
              show AReg _ _ _ _ _ _ ((85, .tuple [.int .i64 ((⟨#[59, 10]⟩ : ByteArray).size : Int), .nili]) :: _) ([(b2, RS.box [.int .i64 r_1.Rate.Num, .int .i64 r_1.Rate.Per, .int .i64 r_1.Rate.Burst]), (b1, RS.box [.bool r_1.Allow, .int .i64 r_1.When.Kind, .int .i64 r_1.When.Field, .slice .ro 2 (r_1.When.Ranges.map GRange.enc), encF r_1.When.Low, encF r_1.When.High, .slice .ro 6 (r_1.When.Of.map GExpr.enc), .int .i64 r_1.Rate.Num, .int .i64 r_1.Rate.Per, .int .i64 r_1.Rate.Burst, .int .i64 r_1.Line])] ++ rew151)
              refine .done rfl ?_
              refine ac_seq ?_
              refine ac_region rfl ?_
              refine rq (u := .bool true) rfl rfl rfl (p_assign rfl) rfl ?_
              refine .done rfl ?_
              refine ac_ret ?_
              show Fin _ _ _ _ _ _ _
              exact fin_ret (Nat.le_of_ble_eq_true rfl) rfl ⟨rew151, (by obtain rfl := Option.some.inj h; exact hw151), (by obtain rfl := Option.some.inj h; rfl), (ResLe.sub (by simp))⟩
          · replace h := cond_f hc171 h
            refine ac_skip ?_
            refine ac_seq ?_
            refine ac_seq ?_
            refine ac_region rfl ?_
            refine rq (u := .ptr b2 1) rfl rfl rfl (p_field_ptr fl_37_1 rfl rfl) rfl ?_
            refine rq (u := .int .i64 r_1.Rate.Per) rfl rfl rfl (p_load_ptr ti_3 (fun _ => rfl) rfl rfl (.head _) (Nat.le_of_ble_eq_true rfl)) rfl ?_
            refine rq (u := .bool (decide (0 < r_1.Rate.Per))) rfl rfl rfl (p_gtr rfl rfl rfl) rfl ?_
            refine .done rfl ?_
            refine ac_cond rfl rfl (fun hc170 => ?_) (fun hc170 => ?_)
            · replace h := cond_t hc170 h
              refine ac_seq ?_
              refine ac_region rfl ?_
              refine rq (u := .ptr bp_w_0 0) rfl rfl rfl (p_move rfl) rfl ?_
              refine rq (u := .ptr bp_w_0 0) rfl rfl rfl (p_nilCheck_ptr rfl rfl) rfl ?_
              refine rq (u := .ptr bp_w_0 0) rfl rfl rfl (p_field_ptr fl_51_0 rfl rfl) rfl ?_
              obtain ⟨v155, hv155, h⟩ := bnd_some h
              refine ra rfl rfl (a_callY en_35 (ws_call bp_w_0 v132 (⟨#[32, 114, 97, 116, 101, 32]⟩ : ByteArray) v155 hv155 rew131 hw131) rfl rfl (TVles.refl _) (fun rew154 => ([(b2, RS.box [.int .i64 r_1.Rate.Num, .int .i64 r_1.Rate.Per, .int .i64 r_1.Rate.Burst]), (b1, RS.box [.bool r_1.Allow, .int .i64 r_1.When.Kind, .int .i64 r_1.When.Field, .slice .ro 2 (r_1.When.Ranges.map GRange.enc), encF r_1.When.Low, encF r_1.When.High, .slice .ro 6 (r_1.When.Of.map GExpr.enc), .int .i64 r_1.Rate.Num, .int .i64 r_1.Rate.Per, .int .i64 r_1.Rate.Burst, .int .i64 r_1.Line])] ++ rew154)) [(b2, RS.box [.int .i64 r_1.Rate.Num, .int .i64 r_1.Rate.Per, .int .i64 r_1.Rate.Burst]), (b1, RS.box [.bool r_1.Allow, .int .i64 r_1.When.Kind, .int .i64 r_1.When.Field, .slice .ro 2 (r_1.When.Ranges.map GRange.enc), encF r_1.When.Low, encF r_1.When.High, .slice .ro 6 (r_1.When.Of.map GExpr.enc), .int .i64 r_1.Rate.Num, .int .i64 r_1.Rate.Per, .int .i64 r_1.Rate.Burst, .int .i64 r_1.Line])] [] (fun _ => by simp) rfl) ?_
              rintro E' s' ⟨rew154, hw154, rfl, hs'⟩
              rw [hs']
              show AReg _ _ _ _ _ _ ((61, .tuple [.int .i64 ((⟨#[32, 114, 97, 116, 101, 32]⟩ : ByteArray).size : Int), .nili]) :: _) ([(b2, RS.box [.int .i64 r_1.Rate.Num, .int .i64 r_1.Rate.Per, .int .i64 r_1.Rate.Burst]), (b1, RS.box [.bool r_1.Allow, .int .i64 r_1.When.Kind, .int .i64 r_1.When.Field, .slice .ro 2 (r_1.When.Ranges.map GRange.enc), encF r_1.When.Low, encF r_1.When.High, .slice .ro 6 (r_1.When.Of.map GExpr.enc), .int .i64 r_1.Rate.Num, .int .i64 r_1.Rate.Per, .int .i64 r_1.Rate.Burst, .int .i64 r_1.Line])] ++ rew154)
              refine .done rfl ?_
              refine ac_seq ?_
              refine ac_region rfl ?_
              refine rq (u := .ptr bp_w_0 0) rfl rfl rfl (p_move rfl) rfl ?_
              refine rq (u := .ptr b2 0) rfl rfl rfl (p_field_ptr fl_37_0 rfl rfl) rfl ?_
              refine rq (u := .int .i64 r_1.Rate.Num) rfl rfl rfl (p_load_ptr ti_3 (fun _ => rfl) rfl rfl (.head _) (Nat.le_of_ble_eq_true rfl)) rfl ?_
              obtain ⟨v157, hv157, h⟩ := bnd_some h
              refine ra rfl rfl (a_callY en_37 (tree_writer_number_fn k v155 bp_w_0 rew154 hw154 r_1.Rate.Num v157 hv157) rfl rfl (TVles.refl _) (fun rew156 => ([(b2, RS.box [.int .i64 r_1.Rate.Num, .int .i64 r_1.Rate.Per, .int .i64 r_1.Rate.Burst]), (b1, RS.box [.bool r_1.Allow, .int .i64 r_1.When.Kind, .int .i64 r_1.When.Field, .slice .ro 2 (r_1.When.Ranges.map GRange.enc), encF r_1.When.Low, encF r_1.When.High, .slice .ro 6 (r_1.When.Of.map GExpr.enc), .int .i64 r_1.Rate.Num, .int .i64 r_1.Rate.Per, .int .i64 r_1.Rate.Burst, .int .i64 r_1.Line])] ++ rew156)) [(b2, RS.box [.int .i64 r_1.Rate.Num, .int .i64 r_1.Rate.Per, .int .i64 r_1.Rate.Burst]), (b1, RS.box [.bool r_1.Allow, .int .i64 r_1.When.Kind, .int .i64 r_1.When.Field, .slice .ro 2 (r_1.When.Ranges.map GRange.enc), encF r_1.When.Low, encF r_1.When.High, .slice .ro 6 (r_1.When.Of.map GExpr.enc), .int .i64 r_1.Rate.Num, .int .i64 r_1.Rate.Per, .int .i64 r_1.Rate.Burst, .int .i64 r_1.Line])] [] (fun _ => by simp) rfl) ?_
              rintro E' s' ⟨rew156, hw156, rfl, hs'⟩
              rw [hs']
              show AReg _ _ _ _ _ _ ((65, .tuple []) :: _) ([(b2, RS.box [.int .i64 r_1.Rate.Num, .int .i64 r_1.Rate.Per, .int .i64 r_1.Rate.Burst]), (b1, RS.box [.bool r_1.Allow, .int .i64 r_1.When.Kind, .int .i64 r_1.When.Field, .slice .ro 2 (r_1.When.Ranges.map GRange.enc), encF r_1.When.Low, encF r_1.When.High, .slice .ro 6 (r_1.When.Of.map GExpr.enc), .int .i64 r_1.Rate.Num, .int .i64 r_1.Rate.Per, .int .i64 r_1.Rate.Burst, .int .i64 r_1.Line])] ++ rew156)
              refine .done rfl ?_
              refine ac_seq ?_
              refine ac_region rfl ?_
              refine rq (u := .ptr bp_w_0 0) rfl rfl rfl (p_move rfl) rfl ?_
              refine rq (u := .ptr bp_w_0 0) rfl rfl rfl (p_nilCheck_ptr rfl rfl) rfl ?_
              refine rq (u := .ptr bp_w_0 0) rfl rfl rfl (p_field_ptr fl_51_0 rfl rfl) rfl ?_
              obtain ⟨v159, hv159, h⟩ := bnd_some h
              refine ra rfl rfl (a_callY en_35 (ws_call bp_w_0 v157 (⟨#[32, 112, 101, 114, 32]⟩ : ByteArray) v159 hv159 rew156 hw156) rfl rfl (TVles.refl _) (fun rew158 => ([(b2, RS.box [.int .i64 r_1.Rate.Num, .int .i64 r_1.Rate.Per, .int .i64 r_1.Rate.Burst]), (b1, RS.box [.bool r_1.Allow, .int .i64 r_1.When.Kind, .int .i64 r_1.When.Field, .slice .ro 2 (r_1.When.Ranges.map GRange.enc), encF r_1.When.Low, encF r_1.When.High, .slice .ro 6 (r_1.When.Of.map GExpr.enc), .int .i64 r_1.Rate.Num, .int .i64 r_1.Rate.Per, .int .i64 r_1.Rate.Burst, .int .i64 r_1.Line])] ++ rew158)) [(b2, RS.box [.int .i64 r_1.Rate.Num, .int .i64 r_1.Rate.Per, .int .i64 r_1.Rate.Burst]), (b1, RS.box [.bool r_1.Allow, .int .i64 r_1.When.Kind, .int .i64 r_1.When.Field, .slice .ro 2 (r_1.When.Ranges.map GRange.enc), encF r_1.When.Low, encF r_1.When.High, .slice .ro 6 (r_1.When.Of.map GExpr.enc), .int .i64 r_1.Rate.Num, .int .i64 r_1.Rate.Per, .int .i64 r_1.Rate.Burst, .int .i64 r_1.Line])] [] (fun _ => by simp) rfl) ?_
              rintro E' s' ⟨rew158, hw158, rfl, hs'⟩
              rw [hs']
              show AReg _ _ _ _ _ _ ((69, .tuple [.int .i64 ((⟨#[32, 112, 101, 114, 32]⟩ : ByteArray).size : Int), .nili]) :: _) ([(b2, RS.box [.int .i64 r_1.Rate.Num, .int .i64 r_1.Rate.Per, .int .i64 r_1.Rate.Burst]), (b1, RS.box [.bool r_1.Allow, .int .i64 r_1.When.Kind, .int .i64 r_1.When.Field, .slice .ro 2 (r_1.When.Ranges.map GRange.enc), encF r_1.When.Low, encF r_1.When.High, .slice .ro 6 (r_1.When.Of.map GExpr.enc), .int .i64 r_1.Rate.Num, .int .i64 r_1.Rate.Per, .int .i64 r_1.Rate.Burst, .int .i64 r_1.Line])] ++ rew158)
              refine .done rfl ?_
              refine ac_seq ?_
              refine ac_region rfl ?_
              refine rq (u := .ptr bp_w_0 0) rfl rfl rfl (p_move rfl) rfl ?_
              refine rq (u := .ptr b2 1) rfl rfl rfl (p_field_ptr fl_37_1 rfl rfl) rfl ?_
              refine rq (u := .int .i64 r_1.Rate.Per) rfl rfl rfl (p_load_ptr ti_3 (fun _ => rfl) rfl rfl (.head _) (Nat.le_of_ble_eq_true rfl)) rfl ?_
              obtain ⟨v161, hv161, h⟩ := bnd_some h
              refine ra rfl rfl (a_callY en_37 (tree_writer_number_fn k v159 bp_w_0 rew158 hw158 r_1.Rate.Per v161 hv161) rfl rfl (TVles.refl _) (fun rew160 => ([(b2, RS.box [.int .i64 r_1.Rate.Num, .int .i64 r_1.Rate.Per, .int .i64 r_1.Rate.Burst]), (b1, RS.box [.bool r_1.Allow, .int .i64 r_1.When.Kind, .int .i64 r_1.When.Field, .slice .ro 2 (r_1.When.Ranges.map GRange.enc), encF r_1.When.Low, encF r_1.When.High, .slice .ro 6 (r_1.When.Of.map GExpr.enc), .int .i64 r_1.Rate.Num, .int .i64 r_1.Rate.Per, .int .i64 r_1.Rate.Burst, .int .i64 r_1.Line])] ++ rew160)) [(b2, RS.box [.int .i64 r_1.Rate.Num, .int .i64 r_1.Rate.Per, .int .i64 r_1.Rate.Burst]), (b1, RS.box [.bool r_1.Allow, .int .i64 r_1.When.Kind, .int .i64 r_1.When.Field, .slice .ro 2 (r_1.When.Ranges.map GRange.enc), encF r_1.When.Low, encF r_1.When.High, .slice .ro 6 (r_1.When.Of.map GExpr.enc), .int .i64 r_1.Rate.Num, .int .i64 r_1.Rate.Per, .int .i64 r_1.Rate.Burst, .int .i64 r_1.Line])] [] (fun _ => by simp) rfl) ?_
              rintro E' s' ⟨rew160, hw160, rfl, hs'⟩
              rw [hs']
              show AReg _ _ _ _ _ _ ((73, .tuple []) :: _) ([(b2, RS.box [.int .i64 r_1.Rate.Num, .int .i64 r_1.Rate.Per, .int .i64 r_1.Rate.Burst]), (b1, RS.box [.bool r_1.Allow, .int .i64 r_1.When.Kind, .int .i64 r_1.When.Field, .slice .ro 2 (r_1.When.Ranges.map GRange.enc), encF r_1.When.Low, encF r_1.When.High, .slice .ro 6 (r_1.When.Of.map GExpr.enc), .int .i64 r_1.Rate.Num, .int .i64 r_1.Rate.Per, .int .i64 r_1.Rate.Burst, .int .i64 r_1.Line])] ++ rew160)
              refine .done rfl ?_
              refine ac_seq ?_
              refine ac_region rfl ?_
              refine rq (u := .ptr bp_w_0 0) rfl rfl rfl (p_move rfl) rfl ?_
              refine rq (u := .ptr bp_w_0 0) rfl rfl rfl (p_nilCheck_ptr rfl rfl) rfl ?_
              refine rq (u := .ptr bp_w_0 0) rfl rfl rfl (p_field_ptr fl_51_0 rfl rfl) rfl ?_
              obtain ⟨v163, hv163, h⟩ := bnd_some h
              refine ra rfl rfl (a_callY en_35 (ws_call bp_w_0 v161 (⟨#[32, 98, 117, 114, 115, 116, 32]⟩ : ByteArray) v163 hv163 rew160 hw160) rfl rfl (TVles.refl _) (fun rew162 => ([(b2, RS.box [.int .i64 r_1.Rate.Num, .int .i64 r_1.Rate.Per, .int .i64 r_1.Rate.Burst]), (b1, RS.box [.bool r_1.Allow, .int .i64 r_1.When.Kind, .int .i64 r_1.When.Field, .slice .ro 2 (r_1.When.Ranges.map GRange.enc), encF r_1.When.Low, encF r_1.When.High, .slice .ro 6 (r_1.When.Of.map GExpr.enc), .int .i64 r_1.Rate.Num, .int .i64 r_1.Rate.Per, .int .i64 r_1.Rate.Burst, .int .i64 r_1.Line])] ++ rew162)) [(b2, RS.box [.int .i64 r_1.Rate.Num, .int .i64 r_1.Rate.Per, .int .i64 r_1.Rate.Burst]), (b1, RS.box [.bool r_1.Allow, .int .i64 r_1.When.Kind, .int .i64 r_1.When.Field, .slice .ro 2 (r_1.When.Ranges.map GRange.enc), encF r_1.When.Low, encF r_1.When.High, .slice .ro 6 (r_1.When.Of.map GExpr.enc), .int .i64 r_1.Rate.Num, .int .i64 r_1.Rate.Per, .int .i64 r_1.Rate.Burst, .int .i64 r_1.Line])] [] (fun _ => by simp) rfl) ?_
              rintro E' s' ⟨rew162, hw162, rfl, hs'⟩
              rw [hs']
              show AReg _ _ _ _ _ _ ((77, .tuple [.int .i64 ((⟨#[32, 98, 117, 114, 115, 116, 32]⟩ : ByteArray).size : Int), .nili]) :: _) ([(b2, RS.box [.int .i64 r_1.Rate.Num, .int .i64 r_1.Rate.Per, .int .i64 r_1.Rate.Burst]), (b1, RS.box [.bool r_1.Allow, .int .i64 r_1.When.Kind, .int .i64 r_1.When.Field, .slice .ro 2 (r_1.When.Ranges.map GRange.enc), encF r_1.When.Low, encF r_1.When.High, .slice .ro 6 (r_1.When.Of.map GExpr.enc), .int .i64 r_1.Rate.Num, .int .i64 r_1.Rate.Per, .int .i64 r_1.Rate.Burst, .int .i64 r_1.Line])] ++ rew162)
              refine .done rfl ?_
              refine ac_region rfl ?_
              refine rq (u := .ptr bp_w_0 0) rfl rfl rfl (p_move rfl) rfl ?_
              refine rq (u := .ptr b2 2) rfl rfl rfl (p_field_ptr fl_37_2 rfl rfl) rfl ?_
              refine rq (u := .int .i64 r_1.Rate.Burst) rfl rfl rfl (p_load_ptr ti_3 (fun _ => rfl) rfl rfl (.head _) (Nat.le_of_ble_eq_true rfl)) rfl ?_
              obtain ⟨v165, hv165, h⟩ := bnd_some h
              refine ra rfl rfl (a_callY en_37 (tree_writer_number_fn k v163 bp_w_0 rew162 hw162 r_1.Rate.Burst v165 hv165) rfl rfl (TVles.refl _) (fun rew164 => ([(b2, RS.box [.int .i64 r_1.Rate.Num, .int .i64 r_1.Rate.Per, .int .i64 r_1.Rate.Burst]), (b1, RS.box [.bool r_1.Allow, .int .i64 r_1.When.Kind, .int .i64 r_1.When.Field, .slice .ro 2 (r_1.When.Ranges.map GRange.enc), encF r_1.When.Low, encF r_1.When.High, .slice .ro 6 (r_1.When.Of.map GExpr.enc), .int .i64 r_1.Rate.Num, .int .i64 r_1.Rate.Per, .int .i64 r_1.Rate.Burst, .int .i64 r_1.Line])] ++ rew164)) [(b2, RS.box [.int .i64 r_1.Rate.Num, .int .i64 r_1.Rate.Per, .int .i64 r_1.Rate.Burst]), (b1, RS.box [.bool r_1.Allow, .int .i64 r_1.When.Kind, .int .i64 r_1.When.Field, .slice .ro 2 (r_1.When.Ranges.map GRange.enc), encF r_1.When.Low, encF r_1.When.High, .slice .ro 6 (r_1.When.Of.map GExpr.enc), .int .i64 r_1.Rate.Num, .int .i64 r_1.Rate.Per, .int .i64 r_1.Rate.Burst, .int .i64 r_1.Line])] [] (fun _ => by simp) rfl) ?_
              rintro E' s' ⟨rew164, hw164, rfl, hs'⟩
              rw [hs']
              show AReg _ _ _ _ _ _ ((81, .tuple []) :: _) ([(b2, RS.box [.int .i64 r_1.Rate.Num, .int .i64 r_1.Rate.Per, .int .i64 r_1.Rate.Burst]), (b1, RS.box [.bool r_1.Allow, .int .i64 r_1.When.Kind, .int .i64 r_1.When.Field, .slice .ro 2 (r_1.When.Ranges.map GRange.enc), encF r_1.When.Low, encF r_1.When.High, .slice .ro 6 (r_1.When.Of.map GExpr.enc), .int .i64 r_1.Rate.Num, .int .i64 r_1.Rate.Per, .int .i64 r_1.Rate.Burst, .int .i64 r_1.Line])] ++ rew164)
              refine .done rfl ?_
              refine ac_seq ?_
              refine ac_region rfl ?_
              refine rq (u := .ptr bp_w_0 0) rfl rfl rfl (p_move rfl) rfl ?_
              refine rq (u := .ptr bp_w_0 0) rfl rfl rfl (p_nilCheck_ptr rfl rfl) rfl ?_
              refine rq (u := .ptr bp_w_0 0) rfl rfl rfl (p_field_ptr fl_51_0 rfl rfl) rfl ?_
              obtain ⟨v167, hv167, h⟩ := bnd_some h
              refine ra rfl rfl (a_callY en_35 (ws_call bp_w_0 v165 (⟨#[59, 10]⟩ : ByteArray) v167 hv167 rew164 hw164) rfl rfl (TVles.refl _) (fun rew166 => ([(b2, RS.box [.int .i64 r_1.Rate.Num, .int .i64 r_1.Rate.Per, .int .i64 r_1.Rate.Burst]), (b1, RS.box [.bool r_1.Allow, .int .i64 r_1.When.Kind, .int .i64 r_1.When.Field, .slice .ro 2 (r_1.When.Ranges.map GRange.enc), encF r_1.When.Low, encF r_1.When.High, .slice .ro 6 (r_1.When.Of.map GExpr.enc), .int .i64 r_1.Rate.Num, .int .i64 r_1.Rate.Per, .int .i64 r_1.Rate.Burst, .int .i64 r_1.Line])] ++ rew166)) [(b2, RS.box [.int .i64 r_1.Rate.Num, .int .i64 r_1.Rate.Per, .int .i64 r_1.Rate.Burst]), (b1, RS.box [.bool r_1.Allow, .int .i64 r_1.When.Kind, .int .i64 r_1.When.Field, .slice .ro 2 (r_1.When.Ranges.map GRange.enc), encF r_1.When.Low, encF r_1.When.High, .slice .ro 6 (r_1.When.Of.map GExpr.enc), .int .i64 r_1.Rate.Num, .int .i64 r_1.Rate.Per, .int .i64 r_1.Rate.Burst, .int .i64 r_1.Line])] [] (fun _ => by simp) rfl) ?_
              rintro E' s' ⟨rew166, hw166, rfl, hs'⟩
              rw [hs']
              show AReg _ _ _ _ _ _ ((85, .tuple [.int .i64 ((⟨#[59, 10]⟩ : ByteArray).size : Int), .nili]) :: _) ([(b2, RS.box [.int .i64 r_1.Rate.Num, .int .i64 r_1.Rate.Per, .int .i64 r_1.Rate.Burst]), (b1, RS.box [.bool r_1.Allow, .int .i64 r_1.When.Kind, .int .i64 r_1.When.Field, .slice .ro 2 (r_1.When.Ranges.map GRange.enc), encF r_1.When.Low, encF r_1.When.High, .slice .ro 6 (r_1.When.Of.map GExpr.enc), .int .i64 r_1.Rate.Num, .int .i64 r_1.Rate.Per, .int .i64 r_1.Rate.Burst, .int .i64 r_1.Line])] ++ rew166)
              refine .done rfl ?_
              refine ac_seq ?_
              refine ac_region rfl ?_
              refine rq (u := .bool true) rfl rfl rfl (p_assign rfl) rfl ?_
              refine .done rfl ?_
              refine ac_ret ?_
              show Fin _ _ _ _ _ _ _
              exact fin_ret (Nat.le_of_ble_eq_true rfl) rfl ⟨rew166, (by obtain rfl := Option.some.inj h; exact hw166), (by obtain rfl := Option.some.inj h; rfl), (ResLe.sub (by simp))⟩
            · replace h := cond_f hc170 h
              refine ac_skip ?_
              refine ac_seq ?_
              refine ac_region rfl ?_
              refine rq (u := .ptr bp_w_0 0) rfl rfl rfl (p_move rfl) rfl ?_
              refine rq (u := .ptr bp_w_0 0) rfl rfl rfl (p_nilCheck_ptr rfl rfl) rfl ?_
              refine rq (u := .ptr bp_w_0 0) rfl rfl rfl (p_field_ptr fl_51_0 rfl rfl) rfl ?_
              obtain ⟨v169, hv169, h⟩ := bnd_some h
              refine ra rfl rfl (a_callY en_35 (ws_call bp_w_0 v132 (⟨#[59, 10]⟩ : ByteArray) v169 hv169 rew131 hw131) rfl rfl (TVles.refl _) (fun rew168 => ([(b2, RS.box [.int .i64 r_1.Rate.Num, .int .i64 r_1.Rate.Per, .int .i64 r_1.Rate.Burst]), (b1, RS.box [.bool r_1.Allow, .int .i64 r_1.When.Kind, .int .i64 r_1.When.Field, .slice .ro 2 (r_1.When.Ranges.map GRange.enc), encF r_1.When.Low, encF r_1.When.High, .slice .ro 6 (r_1.When.Of.map GExpr.enc), .int .i64 r_1.Rate.Num, .int .i64 r_1.Rate.Per, .int .i64 r_1.Rate.Burst, .int .i64 r_1.Line])] ++ rew168)) [(b2, RS.box [.int .i64 r_1.Rate.Num, .int .i64 r_1.Rate.Per, .int .i64 r_1.Rate.Burst]), (b1, RS.box [.bool r_1.Allow, .int .i64 r_1.When.Kind, .int .i64 r_1.When.Field, .slice .ro 2 (r_1.When.Ranges.map GRange.enc), encF r_1.When.Low, encF r_1.When.High, .slice .ro 6 (r_1.When.Of.map GExpr.enc), .int .i64 r_1.Rate.Num, .int .i64 r_1.Rate.Per, .int .i64 r_1.Rate.Burst, .int .i64 r_1.Line])] [] (fun _ => by simp) rfl) ?_
              rintro E' s' ⟨rew168, hw168, rfl, hs'⟩
              rw [hs']
              show AReg _ _ _ _ _ _ ((85, .tuple [.int .i64 ((⟨#[59, 10]⟩ : ByteArray).size : Int), .nili]) :: _) ([(b2, RS.box [.int .i64 r_1.Rate.Num, .int .i64 r_1.Rate.Per, .int .i64 r_1.Rate.Burst]), (b1, RS.box [.bool r_1.Allow, .int .i64 r_1.When.Kind, .int .i64 r_1.When.Field, .slice .ro 2 (r_1.When.Ranges.map GRange.enc), encF r_1.When.Low, encF r_1.When.High, .slice .ro 6 (r_1.When.Of.map GExpr.enc), .int .i64 r_1.Rate.Num, .int .i64 r_1.Rate.Per, .int .i64 r_1.Rate.Burst, .int .i64 r_1.Line])] ++ rew168)
              refine .done rfl ?_
              refine ac_seq ?_
              refine ac_region rfl ?_
              refine rq (u := .bool true) rfl rfl rfl (p_assign rfl) rfl ?_
              refine .done rfl ?_
              refine ac_ret ?_
              show Fin _ _ _ _ _ _ _
              exact fin_ret (Nat.le_of_ble_eq_true rfl) rfl ⟨rew168, (by obtain rfl := Option.some.inj h; exact hw168), (by obtain rfl := Option.some.inj h; rfl), (ResLe.sub (by simp))⟩
end Go.Proofs.YtdkiijhmmmfciaaDoor
