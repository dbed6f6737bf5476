/- The code computes the functions. Printed by tr.py. -/
import Derived.Test.YtdkiijhmmmfciaaDoorG0
import Derived.Test.YtdkiijhmmmfciaaDoorG1
import Derived.Test.YtdkiijhmmmfciaaDoorH2
set_option linter.unusedVariables false
set_option linter.unusedSimpArgs false
namespace Go.Proofs.YtdkiijhmmmfciaaDoor
open Go
set_option maxRecDepth 20000 in
set_option maxHeartbeats 4000000 in
theorem tree_Text_fn : ∀ k : Nat, ∀ (l : List GRule) (r : ByteArray × Bool) (h : tree_Text k l = some r), PFn Tryd.prog 8 [.slice .ro 11 (l.map GRule.enc)] (.tuple [.str r.1, .bool r.2]) := by
  intro k
  intro l r h
  rw [tree_Text] at h
  refine AFn.of Tryd.func8 rfl (Nat.le_of_ble_eq_true rfl) ?_
  refine ac_seq ?_
  refine ac_region rfl ?_
  refine rq (u := .str (⟨#[]⟩ : ByteArray)) rfl rfl rfl (p_assign rfl) rfl ?_
  refine rq (u := .bool false) rfl rfl rfl (p_assign rfl) rfl ?_
  refine .done rfl ?_
  refine ac_seq ?_
  refine ac_region rfl ?_
  refine rq (u := .agg [.nilp, .nils]) rfl rfl rfl (p_build0 zf_51 bf_51 (fun _ _ => V_bld) rfl) rfl ?_
  refine rboxW rfl rfl rfl rfl rfl fun b1 => ?_
  show AReg _ _ _ _ _ _ _ [(b1, RS.raw 51 #[.pointer none, .slice none 0 0])]
  refine rq (u := .ptr b1 0) rfl rfl rfl (p_assign rfl) rfl ?_
  refine .done rfl ?_
  refine ac_seq ?_
  refine ac_seq ?_
  refine ac_region rfl ?_
  refine rq (u := .slice .ro 11 (l.map GRule.enc)) rfl rfl rfl (p_move rfl) rfl ?_
  refine rq (u := .int .i64 (l.length : Int)) rfl rfl rfl (p_lenm is_22 rfl rfl) rfl ?_
  refine rq (u := .int .i64 0) rfl rfl rfl (p_move rfl) rfl ?_
  refine .done rfl ?_
  refine ac_block ?_
  refine ac_turns (σ := Nat × Int × ByteArray × Res) (fun (⟨m4, x1, x2, rew3⟩ : Nat × Int × ByteArray × Res) => [(0, .slice .ro 11 (l.map GRule.enc)), (2, .str (⟨#[]⟩ : ByteArray)), (3, .bool false), (4, .ptr b1 0), (7, .agg [.nilp, .nils]), (8, .ptr b1 0), (9, .slice .ro 11 (l.map GRule.enc)), (10, .int .i64 (l.length : Int)), (11, .int .i64 x1)]) (fun (⟨m4, x1, x2, rew3⟩ : Nat × Int × ByteArray × Res) => rew3) (fun x => x.1) (fun (⟨m4, x1, x2, rew3⟩ : Nat × Int × ByteArray × Res) => tree_Text_L0 k l (fun x11 x12 => some (x12, true)) m4 x1 x2 = some r ∧ WB 51 5 b1 x2 rew3) ⟨k, 0, ByteArray.empty, [(b1, RS.raw 51 #[.pointer none, .slice none 0 0])]⟩ ⟨h, (wb_new 51 5 b1)⟩ ⟨TVle.refl _, TVle.refl _, TVle.refl _, TVle.refl _, TVle.refl _, TVle.refl _, TVle.refl _, TVle.refl _, TVle.refl _, trivial⟩ (ResLe.refl _) ?_
  rintro ⟨m4, x1, x2, rew3⟩ ⟨h, hw3⟩
  replace h : tree_Text_L0 k l (fun x11 x12 => some (x12, true)) m4 x1 x2 = some r := h
  show ACode _ _ _ [(0, .slice .ro 11 (l.map GRule.enc)), (2, .str (⟨#[]⟩ : ByteArray)), (3, .bool false), (4, .ptr b1 0), (7, .agg [.nilp, .nils]), (8, .ptr b1 0), (9, .slice .ro 11 (l.map GRule.enc)), (10, .int .i64 (l.length : Int)), (11, .int .i64 x1)] rew3 _
  cases m4 with
  | zero => rw [tree_Text_L0] at h; cases h
  | succ m4 =>
    rw [tree_Text_L0] at h
    refine ac_seq ?_
    refine ac_region rfl ?_
    refine rq (u := .bool (decide (x1 < (l.length : Int)))) rfl rfl rfl (p_lss rfl rfl rfl) rfl ?_
    refine .done rfl ?_
    refine ac_seq ?_
    refine ac_cond rfl rfl (fun hc10 => ?_) (fun hc10 => ?_)
    · replace h := cond_t hc10 h
      refine ac_skip ?_
      refine ac_seq ?_
      refine ac_block ?_
      refine ac_seq ?_
      refine ac_region rfl ?_
      obtain ⟨v5, hv5, h⟩ := bnd_some h
      refine rq (u := .rptr [.bool v5.Allow, .int .i64 v5.When.Kind, .int .i64 v5.When.Field, .slice .ro 2 (v5.When.Ranges.map GRange.enc), encF v5.When.Low, encF v5.When.High, .slice .ro 6 (v5.When.Of.map GExpr.enc), .int .i64 v5.Rate.Num, .int .i64 v5.Rate.Per, .int .i64 v5.Rate.Burst, .int .i64 v5.Line]) rfl rfl rfl (p_ix GRule.enc_eq sl_22 hv5 rfl rfl rfl) rfl ?_
      refine rq (u := .agg (GRule.cells v5)) rfl rfl rfl (p_load_rptr ti_39 nofun rfl rfl (Nat.le_of_ble_eq_true rfl)) rfl ?_
      refine ralloc (cs := [.bool false, .int .i64 0, .int .i64 0, .slice .full 0 [], encF (some 0), encF (some 0), .slice .full 0 [], .int .i64 0, .int .i64 0, .int .i64 0, .int .i64 0]) zf_39 rfl rfl rfl rfl rfl rfl rfl nofun fun b2 => ?_
      refine rstore (j := 0) (us := [.bool v5.Allow, .int .i64 v5.When.Kind, .int .i64 v5.When.Field, .slice .ro 2 (v5.When.Ranges.map GRange.enc), encF v5.When.Low, encF v5.When.High, .slice .ro 6 (v5.When.Of.map GExpr.enc), .int .i64 v5.Rate.Num, .int .i64 v5.Rate.Per, .int .i64 v5.Rate.Burst, .int .i64 v5.Line]) ti_39 rfl rfl rfl rfl rfl rfl rfl rfl nofun rfl (by simp only [allOne, List.all_cons, List.all_nil, one_fl]; rfl) (Nat.le_of_ble_eq_true rfl) ?_
      refine .done rfl ?_
      refine ac_seq ?_
      refine ac_region rfl ?_
      refine rq (u := .ptr b1 0) rfl rfl rfl (p_move rfl) rfl ?_
      refine rq (u := .agg (GRule.cells v5)) rfl rfl rfl (p_load_ptr ti_39 nofun rfl rfl (.head _) (Nat.le_of_ble_eq_true rfl)) rfl ?_
      obtain ⟨v7, hv7, h⟩ := bnd_some h
      refine ra rfl rfl (a_callY en_18 (tree_writer_rule_fn k x2 b1 rew3 hw3 v5 v7 hv7) rfl rfl (TVles.refl _) (fun rew6 => ([(b2, RS.box [.bool v5.Allow, .int .i64 v5.When.Kind, .int .i64 v5.When.Field, .slice .ro 2 (v5.When.Ranges.map GRange.enc), encF v5.When.Low, encF v5.When.High, .slice .ro 6 (v5.When.Of.map GExpr.enc), .int .i64 v5.Rate.Num, .int .i64 v5.Rate.Per, .int .i64 v5.Rate.Burst, .int .i64 v5.Line])] ++ rew6)) [(b2, RS.box [.bool v5.Allow, .int .i64 v5.When.Kind, .int .i64 v5.When.Field, .slice .ro 2 (v5.When.Ranges.map GRange.enc), encF v5.When.Low, encF v5.When.High, .slice .ro 6 (v5.When.Of.map GExpr.enc), .int .i64 v5.Rate.Num, .int .i64 v5.Rate.Per, .int .i64 v5.Rate.Burst, .int .i64 v5.Line])] [] (fun _ => by simp) rfl) ?_
      rintro E' s' ⟨rew6, hw6, rfl, hs'⟩
      rw [hs']
      show AReg _ _ _ _ _ _ ((17, .bool v7.1) :: _) ([(b2, RS.box [.bool v5.Allow, .int .i64 v5.When.Kind, .int .i64 v5.When.Field, .slice .ro 2 (v5.When.Ranges.map GRange.enc), encF v5.When.Low, encF v5.When.High, .slice .ro 6 (v5.When.Of.map GExpr.enc), .int .i64 v5.Rate.Num, .int .i64 v5.Rate.Per, .int .i64 v5.Rate.Burst, .int .i64 v5.Line])] ++ rew6)
      refine rq (u := .bool (!v7.1)) rfl rfl rfl (p_not rfl rfl) rfl ?_
      refine .done rfl ?_
      refine ac_cond rfl rfl (fun hc8 => ?_) (fun hc8 => ?_)
      · replace h := cond_t hc8 h
        refine ac_seq ?_
        refine ac_region rfl ?_
        refine rq (u := .str (⟨#[]⟩ : ByteArray)) rfl rfl rfl (p_assign rfl) rfl ?_
        refine rq (u := .bool false) rfl rfl rfl (p_assign rfl) rfl ?_
        refine .done rfl ?_
        refine ac_ret ?_
        show Fin _ _ _ _ _ _ _
        exact fin_ret2 (Nat.le_of_ble_eq_true rfl) (Nat.le_of_ble_eq_true rfl) rfl rfl (by obtain rfl := Option.some.inj h; rfl)
      · replace h := cond_f hc8 h
        refine ac_skip ?_
        refine ac_region rfl ?_
        refine rq (u := .int .i64 (IntKind.wrap .i64 (x1 + 1))) rfl rfl rfl (p_add rfl rfl rfl) rfl ?_
        refine rq (u := .int .i64 (IntKind.wrap .i64 (x1 + 1))) rfl rfl rfl (p_move rfl) rfl ?_
        refine .done rfl ?_
        exact ⟨⟨m4, (IntKind.wrap .i64 (x1 + 1)), v7.2, rew6⟩, ⟨h, hw6⟩, Nat.lt_succ_self _, ⟨TVle.refl _, TVle.refl _, TVle.refl _, TVle.refl _, TVle.refl _, TVle.refl _, TVle.refl _, TVle.refl _, TVle.refl _, trivial⟩, (ResLe.drop (ResLe.refl _))⟩
    · replace h := cond_f hc10 h
      refine ac_exit ?_
      refine ac_seq ?_
      refine ac_region rfl ?_
      refine rq (u := .ptr b1 0) rfl rfl rfl (p_move rfl) rfl ?_
      refine rq (u := .ptr b1 0) rfl rfl rfl (p_nilCheck_ptr rfl rfl) rfl ?_
      refine rq (u := .ptr b1 0) rfl rfl rfl (p_field_ptr fl_51_0 rfl rfl) rfl ?_
      refine ra rfl rfl (a_callY en_19 (st_call b1 x2 rew3 hw3) rfl rfl (TVles.refl _) (fun rew9 => [] ++ rew9 ++ []) [] [] (fun _ => by simp) (by simp)) ?_
      rintro E' s' ⟨_, _, rfl, hs'⟩
      rw [hs']
      rw [show [] ++ ([] : Res) ++ [] = [] from by simp]
      show AReg _ _ _ _ _ _ ((23, .str x2) :: _) []
      refine rq (u := .str x2) rfl rfl rfl (p_assign rfl) rfl ?_
      refine rq (u := .bool true) rfl rfl rfl (p_assign rfl) rfl ?_
      refine .done rfl ?_
      refine ac_ret ?_
      show Fin _ _ _ _ _ _ _
      exact fin_ret2 (Nat.le_of_ble_eq_true rfl) (Nat.le_of_ble_eq_true rfl) rfl rfl (by obtain rfl := Option.some.inj h; rfl)

set_option maxRecDepth 20000 in
set_option maxHeartbeats 4000000 in
theorem tree_inner_fn : ∀ k : Nat, ∀ (e : GExpr) (r : (List GExpr)) (h : tree_inner k e = some r), PFn Tryd.prog 21 [.agg (GExpr.cells e)] (.slice .ro 6 (r.map GExpr.enc)) := by
  intro k
  intro e r h
  rw [tree_inner] at h
  refine AFn.of Tryd.func21 rfl (Nat.le_of_ble_eq_true rfl) ?_
  refine ac_seq ?_
  refine ac_region rfl ?_
  refine rbox rfl rfl rfl rfl rfl fun b1 => ?_
  refine rq (u := .slice .full 0 []) rfl rfl rfl (p_assign rfl) rfl ?_
  refine .done rfl ?_
  refine ac_seq ?_
  refine ac_seq ?_
  refine ac_region rfl ?_
  refine rq (u := .ptr b1 0) rfl rfl rfl (p_field_ptr fl_33_0 rfl rfl) rfl ?_
  refine rq (u := .int .i64 e.Kind) rfl rfl rfl (p_load_ptr ti_3 (fun _ => rfl) rfl rfl (.head _) (Nat.le_of_ble_eq_true rfl)) rfl ?_
  refine .done rfl ?_
  refine ac_block ?_
  refine ac_seq ?_
  refine ac_seq ?_
  refine ac_region rfl ?_
  refine rq (u := .bool (e.Kind == 2)) rfl rfl rfl (p_eql rfl rfl rfl) rfl ?_
  refine rq (u := .bool (e.Kind == 2)) rfl rfl rfl (p_assign rfl) rfl ?_
  refine .done rfl ?_
  refine ac_cond rfl rfl (fun hc5 => ?_) (fun hc5 => ?_)
  · replace h := cond_t hc5 h
    refine ac_skip ?_
    refine ac_cond rfl rfl (fun hc1 => ?_) (fun hc1 => ?_)
    · replace h := cond_t hc1 h
      refine ac_seq ?_
      refine ac_region rfl ?_
      refine rq (u := .ptr b1 5) rfl rfl rfl (p_field_ptr fl_33_5 rfl rfl) rfl ?_
      refine rq (u := .slice .ro 6 (e.Of.map GExpr.enc)) rfl rfl rfl (p_load_ptr ti_28 (fun _ => rfl) rfl rfl (.head _) (Nat.le_of_ble_eq_true rfl)) rfl ?_
      refine rq (u := .slice .ro 6 (e.Of.map GExpr.enc)) rfl rfl rfl (p_assign rfl) rfl ?_
      refine .done rfl ?_
      refine ac_ret ?_
      show Fin _ _ _ _ _ _ _
      exact fin_ret (Nat.le_of_ble_eq_true rfl) rfl (by obtain rfl := Option.some.inj h; rfl)
    · replace h := cond_f hc1 h
      refine ac_skip ?_
      refine ac_seq ?_
      refine ac_region rfl ?_
      refine rq (u := .slice .full 0 []) rfl rfl rfl (p_assign rfl) rfl ?_
      refine .done rfl ?_
      refine ac_le (u := .slice .ro 6 []) 2 TVle.nilro ?_
      refine ac_ret ?_
      show Fin _ _ _ _ _ _ _
      exact fin_ret (Nat.le_of_ble_eq_true rfl) rfl (by obtain rfl := Option.some.inj h; rfl)
  · replace h := cond_f hc5 h
    refine ac_seq ?_
    refine ac_region rfl ?_
    refine rq (u := .bool (e.Kind == 3)) rfl rfl rfl (p_eql rfl rfl rfl) rfl ?_
    refine rq (u := .bool (e.Kind == 3)) rfl rfl rfl (p_assign rfl) rfl ?_
    refine .done rfl ?_
    refine ac_cond rfl rfl (fun hc4 => ?_) (fun hc4 => ?_)
    · replace h := cond_t hc4 h
      refine ac_skip ?_
      refine ac_cond rfl rfl (fun hc2 => ?_) (fun hc2 => ?_)
      · replace h := cond_t hc2 h
        refine ac_seq ?_
        refine ac_region rfl ?_
        refine rq (u := .ptr b1 5) rfl rfl rfl (p_field_ptr fl_33_5 rfl rfl) rfl ?_
        refine rq (u := .slice .ro 6 (e.Of.map GExpr.enc)) rfl rfl rfl (p_load_ptr ti_28 (fun _ => rfl) rfl rfl (.head _) (Nat.le_of_ble_eq_true rfl)) rfl ?_
        refine rq (u := .slice .ro 6 (e.Of.map GExpr.enc)) rfl rfl rfl (p_assign rfl) rfl ?_
        refine .done rfl ?_
        refine ac_ret ?_
        show Fin _ _ _ _ _ _ _
        exact fin_ret (Nat.le_of_ble_eq_true rfl) rfl (by obtain rfl := Option.some.inj h; rfl)
      · replace h := cond_f hc2 h
        refine ac_skip ?_
        refine ac_seq ?_
        refine ac_region rfl ?_
        refine rq (u := .slice .full 0 []) rfl rfl rfl (p_assign rfl) rfl ?_
        refine .done rfl ?_
        refine ac_le (u := .slice .ro 6 []) 2 TVle.nilro ?_
        refine ac_ret ?_
        show Fin _ _ _ _ _ _ _
        exact fin_ret (Nat.le_of_ble_eq_true rfl) rfl (by obtain rfl := Option.some.inj h; rfl)
    · replace h := cond_f hc4 h
      refine ac_region rfl ?_
      refine rq (u := .bool (e.Kind == 4)) rfl rfl rfl (p_eql rfl rfl rfl) rfl ?_
      refine rq (u := .bool (e.Kind == 4)) rfl rfl rfl (p_assign rfl) rfl ?_
      refine .done rfl ?_
      refine ac_cond rfl rfl (fun hc3 => ?_) (fun hc3 => ?_)
      · replace h := cond_t hc3 h
        refine ac_seq ?_
        refine ac_region rfl ?_
        refine rq (u := .ptr b1 5) rfl rfl rfl (p_field_ptr fl_33_5 rfl rfl) rfl ?_
        refine rq (u := .slice .ro 6 (e.Of.map GExpr.enc)) rfl rfl rfl (p_load_ptr ti_28 (fun _ => rfl) rfl rfl (.head _) (Nat.le_of_ble_eq_true rfl)) rfl ?_
        refine rq (u := .slice .ro 6 (e.Of.map GExpr.enc)) rfl rfl rfl (p_assign rfl) rfl ?_
        refine .done rfl ?_
        refine ac_ret ?_
        show Fin _ _ _ _ _ _ _
        exact fin_ret (Nat.le_of_ble_eq_true rfl) rfl (by obtain rfl := Option.some.inj h; rfl)
      · replace h := cond_f hc3 h
        refine ac_skip ?_
        refine ac_seq ?_
        refine ac_region rfl ?_
        refine rq (u := .slice .full 0 []) rfl rfl rfl (p_assign rfl) rfl ?_
        refine .done rfl ?_
        refine ac_le (u := .slice .ro 6 []) 2 TVle.nilro ?_
        refine ac_ret ?_
        show Fin _ _ _ _ _ _ _
        exact fin_ret (Nat.le_of_ble_eq_true rfl) rfl (by obtain rfl := Option.some.inj h; rfl)

set_option maxRecDepth 20000 in
set_option maxHeartbeats 4000000 in
theorem tree_Atoms_fn : ∀ k : Nat, ∀ (e : GExpr) (r : Int) (h : tree_Atoms k e = some r), PFn Tryd.prog 11 [.agg (GExpr.cells e)] (.int .i64 r) := by
  intro k
  induction k with
  | zero => intro e r h; rw [tree_Atoms] at h; cases h
  | succ k ih_tree_Atoms =>
    intro e r h
    rw [tree_Atoms] at h
    refine AFn.of Tryd.func11 rfl (Nat.le_of_ble_eq_true rfl) ?_
    refine ac_seq ?_
    refine ac_region rfl ?_
    refine rbox rfl rfl rfl rfl rfl fun b1 => ?_
    refine rq (u := .int .i64 0) rfl rfl rfl (p_assign rfl) rfl ?_
    refine .done rfl ?_
    refine ac_seq ?_
    refine ac_seq ?_
    refine ac_region rfl ?_
    refine rq (u := .ptr b1 0) rfl rfl rfl (p_field_ptr fl_33_0 rfl rfl) rfl ?_
    refine rq (u := .int .i64 e.Kind) rfl rfl rfl (p_load_ptr ti_3 (fun _ => rfl) rfl rfl (.head _) (Nat.le_of_ble_eq_true rfl)) rfl ?_
    refine rq (u := .bool (e.Kind == 1)) rfl rfl rfl (p_eql rfl rfl rfl) rfl ?_
    refine .done rfl ?_
    refine ac_cond rfl rfl (fun hc10 => ?_) (fun hc10 => ?_)
    · replace h := cond_t hc10 h
      refine ac_seq ?_
      refine ac_region rfl ?_
      refine rq (u := .int .i64 1) rfl rfl rfl (p_assign rfl) rfl ?_
      refine .done rfl ?_
      refine ac_ret ?_
      show Fin _ _ _ _ _ _ _
      exact fin_ret (Nat.le_of_ble_eq_true rfl) rfl (by obtain rfl := Option.some.inj h; rfl)
    · replace h := cond_f hc10 h
      refine ac_skip ?_
      refine ac_seq ?_
      refine ac_region rfl ?_
      refine rq (u := .int .i64 0) rfl rfl rfl (p_assign rfl) rfl ?_
      refine .done rfl ?_
      refine ac_seq ?_
      refine ac_seq ?_
      refine ac_region rfl ?_
      refine rq (u := .agg (GExpr.cells e)) rfl rfl rfl (p_load_ptr ti_33 nofun rfl rfl (.head _) (Nat.le_of_ble_eq_true rfl)) rfl ?_
      obtain ⟨v1, hv1, h⟩ := bnd_some h
      refine rq (u := .slice .ro 6 (v1.map GExpr.enc)) rfl rfl rfl (p_pfnL en_21 (tree_inner_fn k e v1 hv1) rfl rfl (TVles.refl _)) rfl ?_
      refine rq (u := .int .i64 (v1.length : Int)) rfl rfl rfl (p_lenm is_28 rfl rfl) rfl ?_
      refine rq (u := .int .i64 0) rfl rfl rfl (p_move rfl) rfl ?_
      refine .done rfl ?_
      refine ac_block ?_
      refine ac_turns (σ := Nat × Int × Int) (fun (⟨m4, x2, x3⟩ : Nat × Int × Int) => [(0, .agg (GExpr.cells e)), (1, .ptr b1 0), (2, .int .i64 0), (3, .int .i64 x2), (6, .ptr b1 0), (7, .int .i64 e.Kind), (8, .bool (e.Kind == 1)), (9, .agg (GExpr.cells e)), (10, .slice .ro 6 (v1.map GExpr.enc)), (11, .int .i64 (v1.length : Int)), (12, .int .i64 x3)]) (fun (⟨m4, x2, x3⟩ : Nat × Int × Int) => [(b1, RS.box [.int .i64 e.Kind, .int .i64 e.Field, .slice .ro 2 (e.Ranges.map GRange.enc), encF e.Low, encF e.High, .slice .ro 6 (e.Of.map GExpr.enc)])]) (fun x => x.1) (fun (⟨m4, x2, x3⟩ : Nat × Int × Int) => tree_Atoms_L0 (tree_Atoms k) v1 (fun x8 x9 => some x8) m4 x2 x3 = some r) ⟨k, 0, 0⟩ h ⟨TVle.refl _, TVle.refl _, TVle.refl _, TVle.refl _, TVle.refl _, TVle.refl _, TVle.refl _, TVle.refl _, TVle.refl _, TVle.refl _, TVle.refl _, trivial⟩ (ResLe.refl _) ?_
      rintro ⟨m4, x2, x3⟩ h
      replace h : tree_Atoms_L0 (tree_Atoms k) v1 (fun x8 x9 => some x8) m4 x2 x3 = some r := h
      show ACode _ _ _ [(0, .agg (GExpr.cells e)), (1, .ptr b1 0), (2, .int .i64 0), (3, .int .i64 x2), (6, .ptr b1 0), (7, .int .i64 e.Kind), (8, .bool (e.Kind == 1)), (9, .agg (GExpr.cells e)), (10, .slice .ro 6 (v1.map GExpr.enc)), (11, .int .i64 (v1.length : Int)), (12, .int .i64 x3)] [(b1, RS.box [.int .i64 e.Kind, .int .i64 e.Field, .slice .ro 2 (e.Ranges.map GRange.enc), encF e.Low, encF e.High, .slice .ro 6 (e.Of.map GExpr.enc)])] _
      cases m4 with
      | zero => rw [tree_Atoms_L0] at h; cases h
      | succ m4 =>
        rw [tree_Atoms_L0] at h
        refine ac_seq ?_
        refine ac_region rfl ?_
        refine rq (u := .bool (decide (x3 < (v1.length : Int)))) rfl rfl rfl (p_lss rfl rfl rfl) rfl ?_
        refine .done rfl ?_
        refine ac_seq ?_
        refine ac_cond rfl rfl (fun hc7 => ?_) (fun hc7 => ?_)
        · replace h := cond_t hc7 h
          refine ac_skip ?_
          refine ac_seq ?_
          refine ac_block ?_
          refine ac_seq ?_
          refine ac_region rfl ?_
          obtain ⟨v5, hv5, h⟩ := bnd_some h
          refine rq (u := .rptr [.int .i64 v5.Kind, .int .i64 v5.Field, .slice .ro 2 (v5.Ranges.map GRange.enc), encF v5.Low, encF v5.High, .slice .ro 6 (v5.Of.map GExpr.enc)]) rfl rfl rfl (p_ix GExpr.enc_eq sl_28 hv5 rfl rfl rfl) rfl ?_
          refine rq (u := .agg (GExpr.cells v5)) rfl rfl rfl (p_load_rptr ti_33 nofun rfl rfl (Nat.le_of_ble_eq_true rfl)) rfl ?_
          refine ralloc (cs := [.int .i64 0, .int .i64 0, .slice .full 0 [], encF (some 0), encF (some 0), .slice .full 0 []]) zf_33 rfl rfl rfl rfl rfl rfl rfl nofun fun b2 => ?_
          refine rstore (j := 0) (us := [.int .i64 v5.Kind, .int .i64 v5.Field, .slice .ro 2 (v5.Ranges.map GRange.enc), encF v5.Low, encF v5.High, .slice .ro 6 (v5.Of.map GExpr.enc)]) ti_33 rfl rfl rfl rfl rfl rfl rfl rfl nofun rfl (by simp only [allOne, List.all_cons, List.all_nil, one_fl]; rfl) (Nat.le_of_ble_eq_true rfl) ?_
          refine .done rfl ?_
          refine ac_region rfl ?_
          refine rq (u := .int .i64 x2) rfl rfl rfl (p_move rfl) rfl ?_
          refine rq (u := .agg (GExpr.cells v5)) rfl rfl rfl (p_load_ptr ti_33 nofun rfl rfl (.head _) (Nat.le_of_ble_eq_true rfl)) rfl ?_
          obtain ⟨v6, hv6, h⟩ := bnd_some h
          refine rq (u := .int .i64 v6) rfl rfl rfl (p_pfnL en_11 (ih_tree_Atoms v5 v6 hv6) rfl rfl (TVles.refl _)) rfl ?_
          refine rq (u := .int .i64 (IntKind.wrap .i64 (x2 + v6))) rfl rfl rfl (p_add rfl rfl rfl) rfl ?_
          refine rq (u := .int .i64 (IntKind.wrap .i64 (x2 + v6))) rfl rfl rfl (p_assign rfl) rfl ?_
          refine .done rfl ?_
          refine ac_region rfl ?_
          refine rq (u := .int .i64 (IntKind.wrap .i64 (x3 + 1))) rfl rfl rfl (p_add rfl rfl rfl) rfl ?_
          refine rq (u := .int .i64 (IntKind.wrap .i64 (x3 + 1))) rfl rfl rfl (p_move rfl) rfl ?_
          refine .done rfl ?_
          exact ⟨⟨m4, (IntKind.wrap .i64 (x2 + v6)), (IntKind.wrap .i64 (x3 + 1))⟩, h, Nat.lt_succ_self _, ⟨TVle.refl _, TVle.refl _, TVle.refl _, TVle.refl _, TVle.refl _, TVle.refl _, TVle.refl _, TVle.refl _, TVle.refl _, TVle.refl _, TVle.refl _, trivial⟩, (ResLe.drop (ResLe.refl _))⟩
        · replace h := cond_f hc7 h
          refine ac_exit ?_
          refine ac_seq ?_
          refine ac_region rfl ?_
          refine rq (u := .int .i64 x2) rfl rfl rfl (p_move rfl) rfl ?_
          refine rq (u := .int .i64 x2) rfl rfl rfl (p_assign rfl) rfl ?_
          refine .done rfl ?_
          refine ac_ret ?_
          show Fin _ _ _ _ _ _ _
          exact fin_ret (Nat.le_of_ble_eq_true rfl) rfl (by obtain rfl := Option.some.inj h; rfl)

set_option maxRecDepth 20000 in
set_option maxHeartbeats 4000000 in
theorem tree_Deep_fn : ∀ k : Nat, ∀ (e : GExpr) (r : Int) (h : tree_Deep k e = some r), PFn Tryd.prog 12 [.agg (GExpr.cells e)] (.int .i64 r) := by
  intro k
  induction k with
  | zero => intro e r h; rw [tree_Deep] at h; cases h
  | succ k ih_tree_Deep =>
    intro e r h
    rw [tree_Deep] at h
    refine AFn.of Tryd.func12 rfl (Nat.le_of_ble_eq_true rfl) ?_
    refine ac_seq ?_
    refine ac_region rfl ?_
    refine rbox rfl rfl rfl rfl rfl fun b1 => ?_
    refine rq (u := .int .i64 0) rfl rfl rfl (p_assign rfl) rfl ?_
    refine .done rfl ?_
    refine ac_seq ?_
    refine ac_region rfl ?_
    refine rq (u := .int .i64 0) rfl rfl rfl (p_assign rfl) rfl ?_
    refine .done rfl ?_
    refine ac_seq ?_
    refine ac_seq ?_
    refine ac_region rfl ?_
    refine rq (u := .ptr b1 0) rfl rfl rfl (p_field_ptr fl_33_0 rfl rfl) rfl ?_
    refine rq (u := .int .i64 e.Kind) rfl rfl rfl (p_load_ptr ti_3 (fun _ => rfl) rfl rfl (.head _) (Nat.le_of_ble_eq_true rfl)) rfl ?_
    refine rq (u := .bool (e.Kind == 2)) rfl rfl rfl (p_eql rfl rfl rfl) rfl ?_
    refine rq (u := .bool (e.Kind == 2)) rfl rfl rfl (p_move rfl) rfl ?_
    refine rcase 9 rfl (fun hc1 => ?_) (fun hc1 => ?_)
    · replace h := cond_t hc1 h
      refine rskip rfl (guard_at rfl rfl rfl rfl rfl) rfl ?_
      refine rskip rfl (guard_at rfl rfl rfl rfl rfl) rfl ?_
      refine rskip rfl (guard_at rfl rfl rfl rfl rfl) rfl ?_
      refine rq (u := .bool true) rfl rfl rfl (p_pick rfl rfl) rfl ?_
      refine rq (u := .bool true) rfl rfl rfl (p_move rfl) rfl ?_
      refine rskip rfl (guard_at rfl rfl rfl rfl rfl) rfl ?_
      refine rskip rfl (guard_at rfl rfl rfl rfl rfl) rfl ?_
      refine rskip rfl (guard_at rfl rfl rfl rfl rfl) rfl ?_
      refine rq (u := .bool true) rfl rfl rfl (p_pick rfl rfl) rfl ?_
      refine .done rfl ?_
      refine ac_condT rfl rfl ?_
      refine ac_region rfl ?_
      refine rq (u := .int .i64 1) rfl rfl rfl (p_assign rfl) rfl ?_
      refine .done rfl ?_
      refine ac_seq ?_
      refine ac_seq ?_
      refine ac_region rfl ?_
      refine rq (u := .agg (GExpr.cells e)) rfl rfl rfl (p_load_ptr ti_33 nofun rfl rfl (.head _) (Nat.le_of_ble_eq_true rfl)) rfl ?_
      obtain ⟨v2, hv2, h⟩ := bnd_some h
      refine rq (u := .slice .ro 6 (v2.map GExpr.enc)) rfl rfl rfl (p_pfnL en_21 (tree_inner_fn k e v2 hv2) rfl rfl (TVles.refl _)) rfl ?_
      refine rq (u := .int .i64 (v2.length : Int)) rfl rfl rfl (p_lenm is_28 rfl rfl) rfl ?_
      refine rq (u := .int .i64 0) rfl rfl rfl (p_move rfl) rfl ?_
      refine .done rfl ?_
      refine ac_block ?_
      refine ac_turns (σ := Nat × Int × Int) (fun (⟨m5, x3, x4⟩ : Nat × Int × Int) => [(0, .agg (GExpr.cells e)), (1, .ptr b1 0), (2, .int .i64 0), (3, .int .i64 x3), (6, .ptr b1 0), (7, .int .i64 e.Kind), (8, .bool (e.Kind == 2)), (9, .bool true), (13, .bool true), (14, .bool true), (18, .bool true), (19, .agg (GExpr.cells e)), (20, .slice .ro 6 (v2.map GExpr.enc)), (21, .int .i64 (v2.length : Int)), (22, .int .i64 x4)]) (fun (⟨m5, x3, x4⟩ : Nat × Int × Int) => [(b1, RS.box [.int .i64 e.Kind, .int .i64 e.Field, .slice .ro 2 (e.Ranges.map GRange.enc), encF e.Low, encF e.High, .slice .ro 6 (e.Of.map GExpr.enc)])]) (fun x => x.1) (fun (⟨m5, x3, x4⟩ : Nat × Int × Int) => tree_Deep_L0 (tree_Deep k) v2 (fun x9 x10 => some x9) m5 x3 x4 = some r) ⟨k, 1, 0⟩ h ⟨TVle.refl _, TVle.refl _, TVle.refl _, TVle.refl _, TVle.refl _, TVle.refl _, TVle.refl _, TVle.refl _, TVle.refl _, TVle.refl _, TVle.refl _, TVle.refl _, TVle.refl _, TVle.refl _, TVle.refl _, trivial⟩ (ResLe.refl _) ?_
      rintro ⟨m5, x3, x4⟩ h
      replace h : tree_Deep_L0 (tree_Deep k) v2 (fun x9 x10 => some x9) m5 x3 x4 = some r := h
      show ACode _ _ _ [(0, .agg (GExpr.cells e)), (1, .ptr b1 0), (2, .int .i64 0), (3, .int .i64 x3), (6, .ptr b1 0), (7, .int .i64 e.Kind), (8, .bool (e.Kind == 2)), (9, .bool true), (13, .bool true), (14, .bool true), (18, .bool true), (19, .agg (GExpr.cells e)), (20, .slice .ro 6 (v2.map GExpr.enc)), (21, .int .i64 (v2.length : Int)), (22, .int .i64 x4)] [(b1, RS.box [.int .i64 e.Kind, .int .i64 e.Field, .slice .ro 2 (e.Ranges.map GRange.enc), encF e.Low, encF e.High, .slice .ro 6 (e.Of.map GExpr.enc)])] _
      cases m5 with
      | zero => rw [tree_Deep_L0] at h; cases h
      | succ m5 =>
        rw [tree_Deep_L0] at h
        refine ac_seq ?_
        refine ac_region rfl ?_
        refine rq (u := .bool (decide (x4 < (v2.length : Int)))) rfl rfl rfl (p_lss rfl rfl rfl) rfl ?_
        refine .done rfl ?_
        refine ac_seq ?_
        refine ac_cond rfl rfl (fun hc8 => ?_) (fun hc8 => ?_)
        · replace h := cond_t hc8 h
          refine ac_skip ?_
          refine ac_seq ?_
          refine ac_block ?_
          refine ac_seq ?_
          refine ac_region rfl ?_
          obtain ⟨v6, hv6, h⟩ := bnd_some h
          refine rq (u := .rptr [.int .i64 v6.Kind, .int .i64 v6.Field, .slice .ro 2 (v6.Ranges.map GRange.enc), encF v6.Low, encF v6.High, .slice .ro 6 (v6.Of.map GExpr.enc)]) rfl rfl rfl (p_ix GExpr.enc_eq sl_28 hv6 rfl rfl rfl) rfl ?_
          refine rq (u := .agg (GExpr.cells v6)) rfl rfl rfl (p_load_rptr ti_33 nofun rfl rfl (Nat.le_of_ble_eq_true rfl)) rfl ?_
          refine ralloc (cs := [.int .i64 0, .int .i64 0, .slice .full 0 [], encF (some 0), encF (some 0), .slice .full 0 []]) zf_33 rfl rfl rfl rfl rfl rfl rfl nofun fun b2 => ?_
          refine rstore (j := 0) (us := [.int .i64 v6.Kind, .int .i64 v6.Field, .slice .ro 2 (v6.Ranges.map GRange.enc), encF v6.Low, encF v6.High, .slice .ro 6 (v6.Of.map GExpr.enc)]) ti_33 rfl rfl rfl rfl rfl rfl rfl rfl nofun rfl (by simp only [allOne, List.all_cons, List.all_nil, one_fl]; rfl) (Nat.le_of_ble_eq_true rfl) ?_
          refine .done rfl ?_
          refine ac_region rfl ?_
          refine rq (u := .int .i64 x3) rfl rfl rfl (p_move rfl) rfl ?_
          refine rq (u := .agg (GExpr.cells v6)) rfl rfl rfl (p_load_ptr ti_33 nofun rfl rfl (.head _) (Nat.le_of_ble_eq_true rfl)) rfl ?_
          obtain ⟨v7, hv7, h⟩ := bnd_some h
          refine rq (u := .int .i64 v7) rfl rfl rfl (p_pfnL en_12 (ih_tree_Deep v6 v7 hv7) rfl rfl (TVles.refl _)) rfl ?_
          refine rq (u := .int .i64 (IntKind.wrap .i64 (v7 + 1))) rfl rfl rfl (p_add rfl rfl rfl) rfl ?_
          refine rq (u := .int .i64 (max x3 (IntKind.wrap .i64 (v7 + 1)))) rfl rfl rfl (p_max rfl rfl rfl) rfl ?_
          refine rq (u := .int .i64 (max x3 (IntKind.wrap .i64 (v7 + 1)))) rfl rfl rfl (p_assign rfl) rfl ?_
          refine .done rfl ?_
          refine ac_region rfl ?_
          refine rq (u := .int .i64 (IntKind.wrap .i64 (x4 + 1))) rfl rfl rfl (p_add rfl rfl rfl) rfl ?_
          refine rq (u := .int .i64 (IntKind.wrap .i64 (x4 + 1))) rfl rfl rfl (p_move rfl) rfl ?_
          refine .done rfl ?_
          exact ⟨⟨m5, (max x3 (IntKind.wrap .i64 (v7 + 1))), (IntKind.wrap .i64 (x4 + 1))⟩, h, Nat.lt_succ_self _, ⟨TVle.refl _, TVle.refl _, TVle.refl _, TVle.refl _, TVle.refl _, TVle.refl _, TVle.refl _, TVle.refl _, TVle.refl _, TVle.refl _, TVle.refl _, TVle.refl _, TVle.refl _, TVle.refl _, TVle.refl _, trivial⟩, (ResLe.drop (ResLe.refl _))⟩
        · replace h := cond_f hc8 h
          refine ac_exit ?_
          refine ac_seq ?_
          refine ac_region rfl ?_
          refine rq (u := .int .i64 x3) rfl rfl rfl (p_move rfl) rfl ?_
          refine rq (u := .int .i64 x3) rfl rfl rfl (p_assign rfl) rfl ?_
          refine .done rfl ?_
          refine ac_ret ?_
          show Fin _ _ _ _ _ _ _
          exact fin_ret (Nat.le_of_ble_eq_true rfl) rfl (by obtain rfl := Option.some.inj h; rfl)
    · replace h := cond_f hc1 h
      refine rq (u := .ptr b1 0) rfl (guard_at rfl rfl rfl rfl rfl) rfl (p_field_ptr fl_33_0 rfl rfl) rfl ?_
      refine rq (u := .int .i64 e.Kind) rfl (guard_at rfl rfl rfl rfl rfl) rfl (p_load_ptr ti_3 (fun _ => rfl) rfl rfl (.head _) (Nat.le_of_ble_eq_true rfl)) rfl ?_
      refine rq (u := .bool (e.Kind == 3)) rfl (guard_at rfl rfl rfl rfl rfl) rfl (p_eql rfl rfl rfl) rfl ?_
      refine rq (u := .bool (e.Kind == 3)) rfl rfl rfl (p_pick rfl rfl) rfl ?_
      refine rq (u := .bool (e.Kind == 3)) rfl rfl rfl (p_move rfl) rfl ?_
      refine rcase 14 rfl (fun hc11 => ?_) (fun hc11 => ?_)
      · replace h := cond_t hc11 h
        refine rskip rfl (guard_at rfl rfl rfl rfl rfl) rfl ?_
        refine rskip rfl (guard_at rfl rfl rfl rfl rfl) rfl ?_
        refine rskip rfl (guard_at rfl rfl rfl rfl rfl) rfl ?_
        refine rq (u := .bool true) rfl rfl rfl (p_pick rfl rfl) rfl ?_
        refine .done rfl ?_
        refine ac_condT rfl rfl ?_
        refine ac_region rfl ?_
        refine rq (u := .int .i64 1) rfl rfl rfl (p_assign rfl) rfl ?_
        refine .done rfl ?_
        refine ac_seq ?_
        refine ac_seq ?_
        refine ac_region rfl ?_
        refine rq (u := .agg (GExpr.cells e)) rfl rfl rfl (p_load_ptr ti_33 nofun rfl rfl (.head _) (Nat.le_of_ble_eq_true rfl)) rfl ?_
        obtain ⟨v12, hv12, h⟩ := bnd_some h
        refine rq (u := .slice .ro 6 (v12.map GExpr.enc)) rfl rfl rfl (p_pfnL en_21 (tree_inner_fn k e v12 hv12) rfl rfl (TVles.refl _)) rfl ?_
        refine rq (u := .int .i64 (v12.length : Int)) rfl rfl rfl (p_lenm is_28 rfl rfl) rfl ?_
        refine rq (u := .int .i64 0) rfl rfl rfl (p_move rfl) rfl ?_
        refine .done rfl ?_
        refine ac_block ?_
        refine ac_turns (σ := Nat × Int × Int) (fun (⟨m15, x13, x14⟩ : Nat × Int × Int) => [(0, .agg (GExpr.cells e)), (1, .ptr b1 0), (2, .int .i64 0), (3, .int .i64 x13), (6, .ptr b1 0), (7, .int .i64 e.Kind), (8, .bool (e.Kind == 2)), (9, .bool false), (10, .ptr b1 0), (11, .int .i64 e.Kind), (12, .bool (e.Kind == 3)), (13, .bool (e.Kind == 3)), (14, .bool true), (18, .bool true), (19, .agg (GExpr.cells e)), (20, .slice .ro 6 (v12.map GExpr.enc)), (21, .int .i64 (v12.length : Int)), (22, .int .i64 x14)]) (fun (⟨m15, x13, x14⟩ : Nat × Int × Int) => [(b1, RS.box [.int .i64 e.Kind, .int .i64 e.Field, .slice .ro 2 (e.Ranges.map GRange.enc), encF e.Low, encF e.High, .slice .ro 6 (e.Of.map GExpr.enc)])]) (fun x => x.1) (fun (⟨m15, x13, x14⟩ : Nat × Int × Int) => tree_Deep_L0 (tree_Deep k) v12 (fun x19 x20 => some x19) m15 x13 x14 = some r) ⟨k, 1, 0⟩ h ⟨TVle.refl _, TVle.refl _, TVle.refl _, TVle.refl _, TVle.refl _, TVle.refl _, TVle.refl _, TVle.refl _, TVle.refl _, TVle.refl _, TVle.refl _, TVle.refl _, TVle.refl _, TVle.refl _, TVle.refl _, TVle.refl _, TVle.refl _, TVle.refl _, trivial⟩ (ResLe.refl _) ?_
        rintro ⟨m15, x13, x14⟩ h
        replace h : tree_Deep_L0 (tree_Deep k) v12 (fun x19 x20 => some x19) m15 x13 x14 = some r := h
        show ACode _ _ _ [(0, .agg (GExpr.cells e)), (1, .ptr b1 0), (2, .int .i64 0), (3, .int .i64 x13), (6, .ptr b1 0), (7, .int .i64 e.Kind), (8, .bool (e.Kind == 2)), (9, .bool false), (10, .ptr b1 0), (11, .int .i64 e.Kind), (12, .bool (e.Kind == 3)), (13, .bool (e.Kind == 3)), (14, .bool true), (18, .bool true), (19, .agg (GExpr.cells e)), (20, .slice .ro 6 (v12.map GExpr.enc)), (21, .int .i64 (v12.length : Int)), (22, .int .i64 x14)] [(b1, RS.box [.int .i64 e.Kind, .int .i64 e.Field, .slice .ro 2 (e.Ranges.map GRange.enc), encF e.Low, encF e.High, .slice .ro 6 (e.Of.map GExpr.enc)])] _
        cases m15 with
        | zero => rw [tree_Deep_L0] at h; cases h
        | succ m15 =>
          rw [tree_Deep_L0] at h
          refine ac_seq ?_
          refine ac_region rfl ?_
          refine rq (u := .bool (decide (x14 < (v12.length : Int)))) rfl rfl rfl (p_lss rfl rfl rfl) rfl ?_
          refine .done rfl ?_
          refine ac_seq ?_
          refine ac_cond rfl rfl (fun hc18 => ?_) (fun hc18 => ?_)
          · replace h := cond_t hc18 h
            refine ac_skip ?_
            refine ac_seq ?_
            refine ac_block ?_
            refine ac_seq ?_
            refine ac_region rfl ?_
            obtain ⟨v16, hv16, h⟩ := bnd_some h
            refine rq (u := .rptr [.int .i64 v16.Kind, .int .i64 v16.Field, .slice .ro 2 (v16.Ranges.map GRange.enc), encF v16.Low, encF v16.High, .slice .ro 6 (v16.Of.map GExpr.enc)]) rfl rfl rfl (p_ix GExpr.enc_eq sl_28 hv16 rfl rfl rfl) rfl ?_
            refine rq (u := .agg (GExpr.cells v16)) rfl rfl rfl (p_load_rptr ti_33 nofun rfl rfl (Nat.le_of_ble_eq_true rfl)) rfl ?_
            refine ralloc (cs := [.int .i64 0, .int .i64 0, .slice .full 0 [], encF (some 0), encF (some 0), .slice .full 0 []]) zf_33 rfl rfl rfl rfl rfl rfl rfl nofun fun b3 => ?_
            refine rstore (j := 0) (us := [.int .i64 v16.Kind, .int .i64 v16.Field, .slice .ro 2 (v16.Ranges.map GRange.enc), encF v16.Low, encF v16.High, .slice .ro 6 (v16.Of.map GExpr.enc)]) ti_33 rfl rfl rfl rfl rfl rfl rfl rfl nofun rfl (by simp only [allOne, List.all_cons, List.all_nil, one_fl]; rfl) (Nat.le_of_ble_eq_true rfl) ?_
            refine .done rfl ?_
            refine ac_region rfl ?_
            refine rq (u := .int .i64 x13) rfl rfl rfl (p_move rfl) rfl ?_
            refine rq (u := .agg (GExpr.cells v16)) rfl rfl rfl (p_load_ptr ti_33 nofun rfl rfl (.head _) (Nat.le_of_ble_eq_true rfl)) rfl ?_
            obtain ⟨v17, hv17, h⟩ := bnd_some h
            refine rq (u := .int .i64 v17) rfl rfl rfl (p_pfnL en_12 (ih_tree_Deep v16 v17 hv17) rfl rfl (TVles.refl _)) rfl ?_
            refine rq (u := .int .i64 (IntKind.wrap .i64 (v17 + 1))) rfl rfl rfl (p_add rfl rfl rfl) rfl ?_
            refine rq (u := .int .i64 (max x13 (IntKind.wrap .i64 (v17 + 1)))) rfl rfl rfl (p_max rfl rfl rfl) rfl ?_
            refine rq (u := .int .i64 (max x13 (IntKind.wrap .i64 (v17 + 1)))) rfl rfl rfl (p_assign rfl) rfl ?_
            refine .done rfl ?_
            refine ac_region rfl ?_
            refine rq (u := .int .i64 (IntKind.wrap .i64 (x14 + 1))) rfl rfl rfl (p_add rfl rfl rfl) rfl ?_
            refine rq (u := .int .i64 (IntKind.wrap .i64 (x14 + 1))) rfl rfl rfl (p_move rfl) rfl ?_
            refine .done rfl ?_
            exact ⟨⟨m15, (max x13 (IntKind.wrap .i64 (v17 + 1))), (IntKind.wrap .i64 (x14 + 1))⟩, h, Nat.lt_succ_self _, ⟨TVle.refl _, TVle.refl _, TVle.refl _, TVle.refl _, TVle.refl _, TVle.refl _, TVle.refl _, TVle.refl _, TVle.refl _, TVle.refl _, TVle.refl _, TVle.refl _, TVle.refl _, TVle.refl _, TVle.refl _, TVle.refl _, TVle.refl _, TVle.refl _, trivial⟩, (ResLe.drop (ResLe.refl _))⟩
          · replace h := cond_f hc18 h
            refine ac_exit ?_
            refine ac_seq ?_
            refine ac_region rfl ?_
            refine rq (u := .int .i64 x13) rfl rfl rfl (p_move rfl) rfl ?_
            refine rq (u := .int .i64 x13) rfl rfl rfl (p_assign rfl) rfl ?_
            refine .done rfl ?_
            refine ac_ret ?_
            show Fin _ _ _ _ _ _ _
            exact fin_ret (Nat.le_of_ble_eq_true rfl) rfl (by obtain rfl := Option.some.inj h; rfl)
      · replace h := cond_f hc11 h
        refine rq (u := .ptr b1 0) rfl (guard_at rfl rfl rfl rfl rfl) rfl (p_field_ptr fl_33_0 rfl rfl) rfl ?_
        refine rq (u := .int .i64 e.Kind) rfl (guard_at rfl rfl rfl rfl rfl) rfl (p_load_ptr ti_3 (fun _ => rfl) rfl rfl (.head _) (Nat.le_of_ble_eq_true rfl)) rfl ?_
        refine rq (u := .bool (e.Kind == 4)) rfl (guard_at rfl rfl rfl rfl rfl) rfl (p_eql rfl rfl rfl) rfl ?_
        refine rq (u := .bool (e.Kind == 4)) rfl rfl rfl (p_pick rfl rfl) rfl ?_
        refine .done rfl ?_
        refine ac_cond rfl rfl (fun hc39 => ?_) (fun hc39 => ?_)
        · replace h := cond_t hc39 h
          refine ac_region rfl ?_
          refine rq (u := .int .i64 1) rfl rfl rfl (p_assign rfl) rfl ?_
          refine .done rfl ?_
          refine ac_seq ?_
          refine ac_seq ?_
          refine ac_region rfl ?_
          refine rq (u := .agg (GExpr.cells e)) rfl rfl rfl (p_load_ptr ti_33 nofun rfl rfl (.head _) (Nat.le_of_ble_eq_true rfl)) rfl ?_
          obtain ⟨v21, hv21, h⟩ := bnd_some h
          refine rq (u := .slice .ro 6 (v21.map GExpr.enc)) rfl rfl rfl (p_pfnL en_21 (tree_inner_fn k e v21 hv21) rfl rfl (TVles.refl _)) rfl ?_
          refine rq (u := .int .i64 (v21.length : Int)) rfl rfl rfl (p_lenm is_28 rfl rfl) rfl ?_
          refine rq (u := .int .i64 0) rfl rfl rfl (p_move rfl) rfl ?_
          refine .done rfl ?_
          refine ac_block ?_
          refine ac_turns (σ := Nat × Int × Int) (fun (⟨m24, x22, x23⟩ : Nat × Int × Int) => [(0, .agg (GExpr.cells e)), (1, .ptr b1 0), (2, .int .i64 0), (3, .int .i64 x22), (6, .ptr b1 0), (7, .int .i64 e.Kind), (8, .bool (e.Kind == 2)), (9, .bool false), (10, .ptr b1 0), (11, .int .i64 e.Kind), (12, .bool (e.Kind == 3)), (13, .bool (e.Kind == 3)), (14, .bool false), (15, .ptr b1 0), (16, .int .i64 e.Kind), (17, .bool (e.Kind == 4)), (18, .bool (e.Kind == 4)), (19, .agg (GExpr.cells e)), (20, .slice .ro 6 (v21.map GExpr.enc)), (21, .int .i64 (v21.length : Int)), (22, .int .i64 x23)]) (fun (⟨m24, x22, x23⟩ : Nat × Int × Int) => [(b1, RS.box [.int .i64 e.Kind, .int .i64 e.Field, .slice .ro 2 (e.Ranges.map GRange.enc), encF e.Low, encF e.High, .slice .ro 6 (e.Of.map GExpr.enc)])]) (fun x => x.1) (fun (⟨m24, x22, x23⟩ : Nat × Int × Int) => tree_Deep_L0 (tree_Deep k) v21 (fun x28 x29 => some x28) m24 x22 x23 = some r) ⟨k, 1, 0⟩ h ⟨TVle.refl _, TVle.refl _, TVle.refl _, TVle.refl _, TVle.refl _, TVle.refl _, TVle.refl _, TVle.refl _, TVle.refl _, TVle.refl _, TVle.refl _, TVle.refl _, TVle.refl _, TVle.refl _, TVle.refl _, TVle.refl _, TVle.refl _, TVle.refl _, TVle.refl _, TVle.refl _, TVle.refl _, trivial⟩ (ResLe.refl _) ?_
          rintro ⟨m24, x22, x23⟩ h
          replace h : tree_Deep_L0 (tree_Deep k) v21 (fun x28 x29 => some x28) m24 x22 x23 = some r := h
          show ACode _ _ _ [(0, .agg (GExpr.cells e)), (1, .ptr b1 0), (2, .int .i64 0), (3, .int .i64 x22), (6, .ptr b1 0), (7, .int .i64 e.Kind), (8, .bool (e.Kind == 2)), (9, .bool false), (10, .ptr b1 0), (11, .int .i64 e.Kind), (12, .bool (e.Kind == 3)), (13, .bool (e.Kind == 3)), (14, .bool false), (15, .ptr b1 0), (16, .int .i64 e.Kind), (17, .bool (e.Kind == 4)), (18, .bool (e.Kind == 4)), (19, .agg (GExpr.cells e)), (20, .slice .ro 6 (v21.map GExpr.enc)), (21, .int .i64 (v21.length : Int)), (22, .int .i64 x23)] [(b1, RS.box [.int .i64 e.Kind, .int .i64 e.Field, .slice .ro 2 (e.Ranges.map GRange.enc), encF e.Low, encF e.High, .slice .ro 6 (e.Of.map GExpr.enc)])] _
          cases m24 with
          | zero => rw [tree_Deep_L0] at h; cases h
          | succ m24 =>
            rw [tree_Deep_L0] at h
            refine ac_seq ?_
            refine ac_region rfl ?_
            refine rq (u := .bool (decide (x23 < (v21.length : Int)))) rfl rfl rfl (p_lss rfl rfl rfl) rfl ?_
            refine .done rfl ?_
            refine ac_seq ?_
            refine ac_cond rfl rfl (fun hc27 => ?_) (fun hc27 => ?_)
            · replace h := cond_t hc27 h
              refine ac_skip ?_
              refine ac_seq ?_
              refine ac_block ?_
              refine ac_seq ?_
              refine ac_region rfl ?_
              obtain ⟨v25, hv25, h⟩ := bnd_some h
              refine rq (u := .rptr [.int .i64 v25.Kind, .int .i64 v25.Field, .slice .ro 2 (v25.Ranges.map GRange.enc), encF v25.Low, encF v25.High, .slice .ro 6 (v25.Of.map GExpr.enc)]) rfl rfl rfl (p_ix GExpr.enc_eq sl_28 hv25 rfl rfl rfl) rfl ?_
              refine rq (u := .agg (GExpr.cells v25)) rfl rfl rfl (p_load_rptr ti_33 nofun rfl rfl (Nat.le_of_ble_eq_true rfl)) rfl ?_
              refine ralloc (cs := [.int .i64 0, .int .i64 0, .slice .full 0 [], encF (some 0), encF (some 0), .slice .full 0 []]) zf_33 rfl rfl rfl rfl rfl rfl rfl nofun fun b4 => ?_
              refine rstore (j := 0) (us := [.int .i64 v25.Kind, .int .i64 v25.Field, .slice .ro 2 (v25.Ranges.map GRange.enc), encF v25.Low, encF v25.High, .slice .ro 6 (v25.Of.map GExpr.enc)]) ti_33 rfl rfl rfl rfl rfl rfl rfl rfl nofun rfl (by simp only [allOne, List.all_cons, List.all_nil, one_fl]; rfl) (Nat.le_of_ble_eq_true rfl) ?_
              refine .done rfl ?_
              refine ac_region rfl ?_
              refine rq (u := .int .i64 x22) rfl rfl rfl (p_move rfl) rfl ?_
              refine rq (u := .agg (GExpr.cells v25)) rfl rfl rfl (p_load_ptr ti_33 nofun rfl rfl (.head _) (Nat.le_of_ble_eq_true rfl)) rfl ?_
              obtain ⟨v26, hv26, h⟩ := bnd_some h
              refine rq (u := .int .i64 v26) rfl rfl rfl (p_pfnL en_12 (ih_tree_Deep v25 v26 hv26) rfl rfl (TVles.refl _)) rfl ?_
              refine rq (u := .int .i64 (IntKind.wrap .i64 (v26 + 1))) rfl rfl rfl (p_add rfl rfl rfl) rfl ?_
              refine rq (u := .int .i64 (max x22 (IntKind.wrap .i64 (v26 + 1)))) rfl rfl rfl (p_max rfl rfl rfl) rfl ?_
              refine rq (u := .int .i64 (max x22 (IntKind.wrap .i64 (v26 + 1)))) rfl rfl rfl (p_assign rfl) rfl ?_
              refine .done rfl ?_
              refine ac_region rfl ?_
              refine rq (u := .int .i64 (IntKind.wrap .i64 (x23 + 1))) rfl rfl rfl (p_add rfl rfl rfl) rfl ?_
              refine rq (u := .int .i64 (IntKind.wrap .i64 (x23 + 1))) rfl rfl rfl (p_move rfl) rfl ?_
              refine .done rfl ?_
              exact ⟨⟨m24, (max x22 (IntKind.wrap .i64 (v26 + 1))), (IntKind.wrap .i64 (x23 + 1))⟩, h, Nat.lt_succ_self _, ⟨TVle.refl _, TVle.refl _, TVle.refl _, TVle.refl _, TVle.refl _, TVle.refl _, TVle.refl _, TVle.refl _, TVle.refl _, TVle.refl _, TVle.refl _, TVle.refl _, TVle.refl _, TVle.refl _, TVle.refl _, TVle.refl _, TVle.refl _, TVle.refl _, TVle.refl _, TVle.refl _, TVle.refl _, trivial⟩, (ResLe.drop (ResLe.refl _))⟩
            · replace h := cond_f hc27 h
              refine ac_exit ?_
              refine ac_seq ?_
              refine ac_region rfl ?_
              refine rq (u := .int .i64 x22) rfl rfl rfl (p_move rfl) rfl ?_
              refine rq (u := .int .i64 x22) rfl rfl rfl (p_assign rfl) rfl ?_
              refine .done rfl ?_
              refine ac_ret ?_
              show Fin _ _ _ _ _ _ _
              exact fin_ret (Nat.le_of_ble_eq_true rfl) rfl (by obtain rfl := Option.some.inj h; rfl)
        · replace h := cond_f hc39 h
          refine ac_skip ?_
          refine ac_seq ?_
          refine ac_seq ?_
          refine ac_region rfl ?_
          refine rq (u := .agg (GExpr.cells e)) rfl rfl rfl (p_load_ptr ti_33 nofun rfl rfl (.head _) (Nat.le_of_ble_eq_true rfl)) rfl ?_
          obtain ⟨v30, hv30, h⟩ := bnd_some h
          refine rq (u := .slice .ro 6 (v30.map GExpr.enc)) rfl rfl rfl (p_pfnL en_21 (tree_inner_fn k e v30 hv30) rfl rfl (TVles.refl _)) rfl ?_
          refine rq (u := .int .i64 (v30.length : Int)) rfl rfl rfl (p_lenm is_28 rfl rfl) rfl ?_
          refine rq (u := .int .i64 0) rfl rfl rfl (p_move rfl) rfl ?_
          refine .done rfl ?_
          refine ac_block ?_
          refine ac_turns (σ := Nat × Int × Int) (fun (⟨m33, x31, x32⟩ : Nat × Int × Int) => [(0, .agg (GExpr.cells e)), (1, .ptr b1 0), (2, .int .i64 0), (3, .int .i64 x31), (6, .ptr b1 0), (7, .int .i64 e.Kind), (8, .bool (e.Kind == 2)), (9, .bool false), (10, .ptr b1 0), (11, .int .i64 e.Kind), (12, .bool (e.Kind == 3)), (13, .bool (e.Kind == 3)), (14, .bool false), (15, .ptr b1 0), (16, .int .i64 e.Kind), (17, .bool (e.Kind == 4)), (18, .bool (e.Kind == 4)), (19, .agg (GExpr.cells e)), (20, .slice .ro 6 (v30.map GExpr.enc)), (21, .int .i64 (v30.length : Int)), (22, .int .i64 x32)]) (fun (⟨m33, x31, x32⟩ : Nat × Int × Int) => [(b1, RS.box [.int .i64 e.Kind, .int .i64 e.Field, .slice .ro 2 (e.Ranges.map GRange.enc), encF e.Low, encF e.High, .slice .ro 6 (e.Of.map GExpr.enc)])]) (fun x => x.1) (fun (⟨m33, x31, x32⟩ : Nat × Int × Int) => tree_Deep_L0 (tree_Deep k) v30 (fun x37 x38 => some x37) m33 x31 x32 = some r) ⟨k, 0, 0⟩ h ⟨TVle.refl _, TVle.refl _, TVle.refl _, TVle.refl _, TVle.refl _, TVle.refl _, TVle.refl _, TVle.refl _, TVle.refl _, TVle.refl _, TVle.refl _, TVle.refl _, TVle.refl _, TVle.refl _, TVle.refl _, TVle.refl _, TVle.refl _, TVle.refl _, TVle.refl _, TVle.refl _, TVle.refl _, trivial⟩ (ResLe.refl _) ?_
          rintro ⟨m33, x31, x32⟩ h
          replace h : tree_Deep_L0 (tree_Deep k) v30 (fun x37 x38 => some x37) m33 x31 x32 = some r := h
          show ACode _ _ _ [(0, .agg (GExpr.cells e)), (1, .ptr b1 0), (2, .int .i64 0), (3, .int .i64 x31), (6, .ptr b1 0), (7, .int .i64 e.Kind), (8, .bool (e.Kind == 2)), (9, .bool false), (10, .ptr b1 0), (11, .int .i64 e.Kind), (12, .bool (e.Kind == 3)), (13, .bool (e.Kind == 3)), (14, .bool false), (15, .ptr b1 0), (16, .int .i64 e.Kind), (17, .bool (e.Kind == 4)), (18, .bool (e.Kind == 4)), (19, .agg (GExpr.cells e)), (20, .slice .ro 6 (v30.map GExpr.enc)), (21, .int .i64 (v30.length : Int)), (22, .int .i64 x32)] [(b1, RS.box [.int .i64 e.Kind, .int .i64 e.Field, .slice .ro 2 (e.Ranges.map GRange.enc), encF e.Low, encF e.High, .slice .ro 6 (e.Of.map GExpr.enc)])] _
          cases m33 with
          | zero => rw [tree_Deep_L0] at h; cases h
          | succ m33 =>
            rw [tree_Deep_L0] at h
            refine ac_seq ?_
            refine ac_region rfl ?_
            refine rq (u := .bool (decide (x32 < (v30.length : Int)))) rfl rfl rfl (p_lss rfl rfl rfl) rfl ?_
            refine .done rfl ?_
            refine ac_seq ?_
            refine ac_cond rfl rfl (fun hc36 => ?_) (fun hc36 => ?_)
            · replace h := cond_t hc36 h
              refine ac_skip ?_
              refine ac_seq ?_
              refine ac_block ?_
              refine ac_seq ?_
              refine ac_region rfl ?_
              obtain ⟨v34, hv34, h⟩ := bnd_some h
              refine rq (u := .rptr [.int .i64 v34.Kind, .int .i64 v34.Field, .slice .ro 2 (v34.Ranges.map GRange.enc), encF v34.Low, encF v34.High, .slice .ro 6 (v34.Of.map GExpr.enc)]) rfl rfl rfl (p_ix GExpr.enc_eq sl_28 hv34 rfl rfl rfl) rfl ?_
              refine rq (u := .agg (GExpr.cells v34)) rfl rfl rfl (p_load_rptr ti_33 nofun rfl rfl (Nat.le_of_ble_eq_true rfl)) rfl ?_
              refine ralloc (cs := [.int .i64 0, .int .i64 0, .slice .full 0 [], encF (some 0), encF (some 0), .slice .full 0 []]) zf_33 rfl rfl rfl rfl rfl rfl rfl nofun fun b5 => ?_
              refine rstore (j := 0) (us := [.int .i64 v34.Kind, .int .i64 v34.Field, .slice .ro 2 (v34.Ranges.map GRange.enc), encF v34.Low, encF v34.High, .slice .ro 6 (v34.Of.map GExpr.enc)]) ti_33 rfl rfl rfl rfl rfl rfl rfl rfl nofun rfl (by simp only [allOne, List.all_cons, List.all_nil, one_fl]; rfl) (Nat.le_of_ble_eq_true rfl) ?_
              refine .done rfl ?_
              refine ac_region rfl ?_
              refine rq (u := .int .i64 x31) rfl rfl rfl (p_move rfl) rfl ?_
              refine rq (u := .agg (GExpr.cells v34)) rfl rfl rfl (p_load_ptr ti_33 nofun rfl rfl (.head _) (Nat.le_of_ble_eq_true rfl)) rfl ?_
              obtain ⟨v35, hv35, h⟩ := bnd_some h
              refine rq (u := .int .i64 v35) rfl rfl rfl (p_pfnL en_12 (ih_tree_Deep v34 v35 hv35) rfl rfl (TVles.refl _)) rfl ?_
              refine rq (u := .int .i64 (IntKind.wrap .i64 (v35 + 1))) rfl rfl rfl (p_add rfl rfl rfl) rfl ?_
              refine rq (u := .int .i64 (max x31 (IntKind.wrap .i64 (v35 + 1)))) rfl rfl rfl (p_max rfl rfl rfl) rfl ?_
              refine rq (u := .int .i64 (max x31 (IntKind.wrap .i64 (v35 + 1)))) rfl rfl rfl (p_assign rfl) rfl ?_
              refine .done rfl ?_
              refine ac_region rfl ?_
              refine rq (u := .int .i64 (IntKind.wrap .i64 (x32 + 1))) rfl rfl rfl (p_add rfl rfl rfl) rfl ?_
              refine rq (u := .int .i64 (IntKind.wrap .i64 (x32 + 1))) rfl rfl rfl (p_move rfl) rfl ?_
              refine .done rfl ?_
              exact ⟨⟨m33, (max x31 (IntKind.wrap .i64 (v35 + 1))), (IntKind.wrap .i64 (x32 + 1))⟩, h, Nat.lt_succ_self _, ⟨TVle.refl _, TVle.refl _, TVle.refl _, TVle.refl _, TVle.refl _, TVle.refl _, TVle.refl _, TVle.refl _, TVle.refl _, TVle.refl _, TVle.refl _, TVle.refl _, TVle.refl _, TVle.refl _, TVle.refl _, TVle.refl _, TVle.refl _, TVle.refl _, TVle.refl _, TVle.refl _, TVle.refl _, trivial⟩, (ResLe.drop (ResLe.refl _))⟩
            · replace h := cond_f hc36 h
              refine ac_exit ?_
              refine ac_seq ?_
              refine ac_region rfl ?_
              refine rq (u := .int .i64 x31) rfl rfl rfl (p_move rfl) rfl ?_
              refine rq (u := .int .i64 x31) rfl rfl rfl (p_assign rfl) rfl ?_
              refine .done rfl ?_
              refine ac_ret ?_
              show Fin _ _ _ _ _ _ _
              exact fin_ret (Nat.le_of_ble_eq_true rfl) rfl (by obtain rfl := Option.some.inj h; rfl)

set_option maxRecDepth 20000 in
set_option maxHeartbeats 4000000 in
theorem slices_Equal_Range_fn : ∀ k : Nat, ∀ (s1 : List GRange) (s2 : List GRange) (r : Bool) (h : slices_Equal_Range k s1 s2 = some r), PFn Tryd.prog 50 [.slice .ro 2 (s1.map GRange.enc), .slice .ro 2 (s2.map GRange.enc)] (.bool r) := by
  intro k
  intro s1 s2 r h
  rw [slices_Equal_Range] at h
  refine AFn.of Tryd.func50 rfl (Nat.le_of_ble_eq_true rfl) ?_
  refine ac_seq ?_
  refine ac_region rfl ?_
  refine rq (u := .bool false) rfl rfl rfl (p_assign rfl) rfl ?_
  refine .done rfl ?_
  refine ac_seq ?_
  refine ac_seq ?_
  refine ac_region rfl ?_
  refine rq (u := .slice .ro 2 (s1.map GRange.enc)) rfl rfl rfl (p_move rfl) rfl ?_
  refine rq (u := .int .i64 (s1.length : Int)) rfl rfl rfl (p_lenm is_30 rfl rfl) rfl ?_
  refine rq (u := .slice .ro 2 (s2.map GRange.enc)) rfl rfl rfl (p_move rfl) rfl ?_
  refine rq (u := .int .i64 (s2.length : Int)) rfl rfl rfl (p_lenm is_30 rfl rfl) rfl ?_
  refine rq (u := .bool ((s1.length : Int) != (s2.length : Int))) rfl rfl rfl (p_neq rfl rfl rfl) rfl ?_
  refine .done rfl ?_
  refine ac_cond rfl rfl (fun hc8 => ?_) (fun hc8 => ?_)
  · replace h := cond_t hc8 h
    refine ac_seq ?_
    refine ac_region rfl ?_
    refine rq (u := .bool false) rfl rfl rfl (p_assign rfl) rfl ?_
    refine .done rfl ?_
    refine ac_ret ?_
    show Fin _ _ _ _ _ _ _
    exact fin_ret (Nat.le_of_ble_eq_true rfl) rfl (by obtain rfl := Option.some.inj h; rfl)
  · replace h := cond_f hc8 h
    refine ac_skip ?_
    refine ac_seq ?_
    refine ac_seq ?_
    refine ac_region rfl ?_
    refine rq (u := .slice .ro 2 (s1.map GRange.enc)) rfl rfl rfl (p_move rfl) rfl ?_
    refine rq (u := .int .i64 (s1.length : Int)) rfl rfl rfl (p_lenm is_30 rfl rfl) rfl ?_
    refine rq (u := .int .i64 0) rfl rfl rfl (p_move rfl) rfl ?_
    refine .done rfl ?_
    refine ac_block ?_
    refine ac_turns (σ := Nat × Int) (fun (⟨m2, x1⟩ : Nat × Int) => [(0, .slice .ro 2 (s1.map GRange.enc)), (1, .slice .ro 2 (s2.map GRange.enc)), (4, .bool false), (6, .slice .ro 2 (s1.map GRange.enc)), (7, .int .i64 (s1.length : Int)), (8, .slice .ro 2 (s2.map GRange.enc)), (9, .int .i64 (s2.length : Int)), (10, .bool ((s1.length : Int) != (s2.length : Int))), (11, .slice .ro 2 (s1.map GRange.enc)), (12, .int .i64 (s1.length : Int)), (13, .int .i64 x1)]) (fun (⟨m2, x1⟩ : Nat × Int) => []) (fun x => x.1) (fun (⟨m2, x1⟩ : Nat × Int) => slices_Equal_Range_L0 s1 s2 (fun x7 => some true) m2 x1 = some r) ⟨k, 0⟩ h ⟨TVle.refl _, TVle.refl _, TVle.refl _, TVle.refl _, TVle.refl _, TVle.refl _, TVle.refl _, TVle.refl _, TVle.refl _, TVle.refl _, TVle.refl _, trivial⟩ (ResLe.refl _) ?_
    rintro ⟨m2, x1⟩ h
    replace h : slices_Equal_Range_L0 s1 s2 (fun x7 => some true) m2 x1 = some r := h
    show ACode _ _ _ [(0, .slice .ro 2 (s1.map GRange.enc)), (1, .slice .ro 2 (s2.map GRange.enc)), (4, .bool false), (6, .slice .ro 2 (s1.map GRange.enc)), (7, .int .i64 (s1.length : Int)), (8, .slice .ro 2 (s2.map GRange.enc)), (9, .int .i64 (s2.length : Int)), (10, .bool ((s1.length : Int) != (s2.length : Int))), (11, .slice .ro 2 (s1.map GRange.enc)), (12, .int .i64 (s1.length : Int)), (13, .int .i64 x1)] [] _
    cases m2 with
    | zero => rw [slices_Equal_Range_L0] at h; cases h
    | succ m2 =>
      rw [slices_Equal_Range_L0] at h
      refine ac_seq ?_
      refine ac_region rfl ?_
      refine rq (u := .bool (decide (x1 < (s1.length : Int)))) rfl rfl rfl (p_lss rfl rfl rfl) rfl ?_
      refine .done rfl ?_
      refine ac_seq ?_
      refine ac_cond rfl rfl (fun hc6 => ?_) (fun hc6 => ?_)
      · replace h := cond_t hc6 h
        refine ac_skip ?_
        refine ac_seq ?_
        refine ac_block ?_
        refine ac_seq ?_
        refine ac_region rfl ?_
        refine rq (u := .int .i64 x1) rfl rfl rfl (p_move rfl) rfl ?_
        refine rq (u := .int .i64 x1) rfl rfl rfl (p_assign rfl) rfl ?_
        refine .done rfl ?_
        refine ac_seq ?_
        refine ac_region_draw mo rfl rfl rfl ?_
        refine rq (u := .slice .ro 2 (s1.map GRange.enc)) rfl rfl rfl (p_move rfl) rfl ?_
        refine rq (u := .int .i64 x1) rfl rfl rfl (p_move rfl) rfl ?_
        obtain ⟨v3, hv3, h⟩ := bnd_some h
        refine rq (u := .rptr [.int .i64 v3.Low, .int .i64 v3.High]) rfl rfl rfl (p_ix GRange.enc_eq sl_30 hv3 rfl rfl rfl) rfl ?_
        refine rq (u := .agg (GRange.cells v3)) rfl rfl rfl (p_load_rptr ti_41 nofun rfl rfl (Nat.le_of_ble_eq_true rfl)) rfl ?_
        refine rq (u := .slice .ro 2 (s2.map GRange.enc)) rfl rfl rfl (p_move rfl) rfl ?_
        refine rq (u := .int .i64 x1) rfl rfl rfl (p_move rfl) rfl ?_
        obtain ⟨v4, hv4, h⟩ := bnd_some h
        refine rq (u := .rptr [.int .i64 v4.Low, .int .i64 v4.High]) rfl rfl rfl (p_ix GRange.enc_eq sl_30 hv4 rfl rfl rfl) rfl ?_
        refine rq (u := .agg (GRange.cells v4)) rfl rfl rfl (p_load_rptr ti_41 nofun rfl rfl (Nat.le_of_ble_eq_true rfl)) rfl ?_
        refine rq (u := .bool (!((v3.Low == v4.Low) && ((v3.High == v4.High) && true)))) rfl rfl rfl (p_ane eu_41 eh_41 eg_41 (eqs_41) rfl rfl rfl) rfl ?_
        refine .done rfl ?_
        refine ac_cond rfl rfl (fun hc5 => ?_) (fun hc5 => ?_)
        · replace h := cond_t hc5 h
          refine ac_seq ?_
          refine ac_region rfl ?_
          refine rq (u := .bool false) rfl rfl rfl (p_assign rfl) rfl ?_
          refine .done rfl ?_
          refine ac_ret ?_
          show Fin _ _ _ _ _ _ _
          exact fin_ret (Nat.le_of_ble_eq_true rfl) rfl (by obtain rfl := Option.some.inj h; rfl)
        · replace h := cond_f hc5 h
          refine ac_skip ?_
          refine ac_region rfl ?_
          refine rq (u := .int .i64 (IntKind.wrap .i64 (x1 + 1))) rfl rfl rfl (p_add rfl rfl rfl) rfl ?_
          refine rq (u := .int .i64 (IntKind.wrap .i64 (x1 + 1))) rfl rfl rfl (p_move rfl) rfl ?_
          refine .done rfl ?_
          exact ⟨⟨m2, (IntKind.wrap .i64 (x1 + 1))⟩, h, Nat.lt_succ_self _, ⟨TVle.refl _, TVle.refl _, TVle.refl _, TVle.refl _, TVle.refl _, TVle.refl _, TVle.refl _, TVle.refl _, TVle.refl _, TVle.refl _, TVle.refl _, trivial⟩, (ResLe.refl _)⟩
      · replace h := cond_f hc6 h
        refine ac_exit ?_
        refine ac_seq ?_
        refine ac_region rfl ?_
        refine rq (u := .bool true) rfl rfl rfl (p_assign rfl) rfl ?_
        refine .done rfl ?_
        refine ac_ret ?_
        show Fin _ _ _ _ _ _ _
        exact fin_ret (Nat.le_of_ble_eq_true rfl) rfl (by obtain rfl := Option.some.inj h; rfl)

set_option maxRecDepth 20000 in
set_option maxHeartbeats 4000000 in
theorem span_Same_fn : ∀ k : Nat, ∀ (a_0 : List GRange) (b_1 : List GRange) (r : Bool) (h : span_Same k a_0 b_1 = some r), PFn Tryd.prog 32 [.slice .ro 2 (a_0.map GRange.enc), .slice .ro 2 (b_1.map GRange.enc)] (.bool r) := by
  intro k
  intro a_0 b_1 r h
  rw [span_Same] at h
  refine AFn.of Tryd.func32 rfl (Nat.le_of_ble_eq_true rfl) ?_
  refine ac_seq ?_
  refine ac_region rfl ?_
  refine rq (u := .bool false) rfl rfl rfl (p_assign rfl) rfl ?_
  refine .done rfl ?_
  refine ac_seq ?_
  refine ac_region rfl ?_
  refine rq (u := .slice .ro 2 (a_0.map GRange.enc)) rfl rfl rfl (p_move rfl) rfl ?_
  refine rq (u := .slice .ro 2 (b_1.map GRange.enc)) rfl rfl rfl (p_move rfl) rfl ?_
  obtain ⟨v1, hv1, h⟩ := bnd_some h
  refine rq (u := .bool v1) rfl rfl rfl (p_pfnL en_50 (slices_Equal_Range_fn k a_0 b_1 v1 hv1) rfl rfl (TVles.refl _)) rfl ?_
  refine rq (u := .bool v1) rfl rfl rfl (p_assign rfl) rfl ?_
  refine .done rfl ?_
  refine ac_ret ?_
  show Fin _ _ _ _ _ _ _
  exact fin_ret (Nat.le_of_ble_eq_true rfl) rfl (by obtain rfl := Option.some.inj h; rfl)

set_option maxRecDepth 20000 in
set_option maxHeartbeats 4000000 in
theorem slices_EqualFunc_Expr_fn : ∀ k : Nat, ∀ (s1 : List GExpr) (s2 : List GExpr) (eq : GExpr → GExpr → Option Bool) (eq_fn : FuncId) (eq_fs eq_cs : List TV) (eq_s : Res) (eq_en : enterB Tryd.prog eq_fn = true) (heq : ∀ (a1 : GExpr) (a2 : GExpr) (r' : Bool), eq a1 a2 = some r' → AFn Tryd.prog eq_fn (eq_fs ++ [.agg (GExpr.cells a1), .agg (GExpr.cells a2)] ++ eq_cs) eq_s fun y s' => y = .ret (.bool r') ∧ s' = eq_s) (r : Bool) (h : slices_EqualFunc_Expr k s1 s2 eq = some r), AFn Tryd.prog 33 [.slice .ro 6 (s1.map GExpr.enc), .slice .ro 6 (s2.map GExpr.enc), .func (.func eq_fn) eq_fs eq_cs] eq_s fun y s' => y = .ret (.bool r) ∧ s' = eq_s := by
  intro k
  intro s1 s2 eq eq_fn eq_fs eq_cs eq_s eq_en heq r h
  rw [slices_EqualFunc_Expr] at h
  refine AFn.shed ?_
  refine AFn.of Tryd.func33 rfl (Nat.le_of_ble_eq_true rfl) ?_
  refine ac_seq ?_
  refine ac_region rfl ?_
  refine rq (u := .bool false) rfl rfl rfl (p_assign rfl) rfl ?_
  refine .done rfl ?_
  refine ac_seq ?_
  refine ac_seq ?_
  refine ac_region rfl ?_
  refine rq (u := .slice .ro 6 (s1.map GExpr.enc)) rfl rfl rfl (p_move rfl) rfl ?_
  refine rq (u := .int .i64 (s1.length : Int)) rfl rfl rfl (p_lenm is_28 rfl rfl) rfl ?_
  refine rq (u := .slice .ro 6 (s2.map GExpr.enc)) rfl rfl rfl (p_move rfl) rfl ?_
  refine rq (u := .int .i64 (s2.length : Int)) rfl rfl rfl (p_lenm is_28 rfl rfl) rfl ?_
  refine rq (u := .bool ((s1.length : Int) != (s2.length : Int))) rfl rfl rfl (p_neq rfl rfl rfl) rfl ?_
  refine .done rfl ?_
  refine ac_cond rfl rfl (fun hc9 => ?_) (fun hc9 => ?_)
  · replace h := cond_t hc9 h
    refine ac_seq ?_
    refine ac_region rfl ?_
    refine rq (u := .bool false) rfl rfl rfl (p_assign rfl) rfl ?_
    refine .done rfl ?_
    refine ac_ret ?_
    show Fin _ _ _ _ _ _ _
    exact fin_ret (Nat.le_of_ble_eq_true rfl) rfl ⟨by obtain rfl := Option.some.inj h; rfl, (List.Sublist.refl _)⟩
  · replace h := cond_f hc9 h
    refine ac_skip ?_
    refine ac_seq ?_
    refine ac_seq ?_
    refine ac_region rfl ?_
    refine rq (u := .slice .ro 6 (s1.map GExpr.enc)) rfl rfl rfl (p_move rfl) rfl ?_
    refine rq (u := .int .i64 (s1.length : Int)) rfl rfl rfl (p_lenm is_28 rfl rfl) rfl ?_
    refine rq (u := .int .i64 0) rfl rfl rfl (p_move rfl) rfl ?_
    refine .done rfl ?_
    refine ac_block ?_
    refine ac_turns (σ := Nat × Int) (fun (⟨m2, x1⟩ : Nat × Int) => [(0, .slice .ro 6 (s1.map GExpr.enc)), (1, .slice .ro 6 (s2.map GExpr.enc)), (2, .func (.func eq_fn) eq_fs eq_cs), (6, .bool false), (10, .slice .ro 6 (s1.map GExpr.enc)), (11, .int .i64 (s1.length : Int)), (12, .slice .ro 6 (s2.map GExpr.enc)), (13, .int .i64 (s2.length : Int)), (14, .bool ((s1.length : Int) != (s2.length : Int))), (15, .slice .ro 6 (s1.map GExpr.enc)), (16, .int .i64 (s1.length : Int)), (17, .int .i64 x1)]) (fun (⟨m2, x1⟩ : Nat × Int) => eq_s) (fun x => x.1) (fun (⟨m2, x1⟩ : Nat × Int) => slices_EqualFunc_Expr_L0 s1 s2 eq (fun x8 => some true) m2 x1 = some r) ⟨k, 0⟩ h ⟨TVle.refl _, TVle.refl _, TVle.refl _, TVle.refl _, TVle.refl _, TVle.refl _, TVle.refl _, TVle.refl _, TVle.refl _, TVle.refl _, TVle.refl _, TVle.refl _, trivial⟩ (ResLe.refl _) ?_
    rintro ⟨m2, x1⟩ h
    replace h : slices_EqualFunc_Expr_L0 s1 s2 eq (fun x8 => some true) m2 x1 = some r := h
    show ACode _ _ _ [(0, .slice .ro 6 (s1.map GExpr.enc)), (1, .slice .ro 6 (s2.map GExpr.enc)), (2, .func (.func eq_fn) eq_fs eq_cs), (6, .bool false), (10, .slice .ro 6 (s1.map GExpr.enc)), (11, .int .i64 (s1.length : Int)), (12, .slice .ro 6 (s2.map GExpr.enc)), (13, .int .i64 (s2.length : Int)), (14, .bool ((s1.length : Int) != (s2.length : Int))), (15, .slice .ro 6 (s1.map GExpr.enc)), (16, .int .i64 (s1.length : Int)), (17, .int .i64 x1)] eq_s _
    cases m2 with
    | zero => rw [slices_EqualFunc_Expr_L0] at h; cases h
    | succ m2 =>
      rw [slices_EqualFunc_Expr_L0] at h
      refine ac_seq ?_
      refine ac_region rfl ?_
      refine rq (u := .bool (decide (x1 < (s1.length : Int)))) rfl rfl rfl (p_lss rfl rfl rfl) rfl ?_
      refine .done rfl ?_
      refine ac_seq ?_
      refine ac_cond rfl rfl (fun hc7 => ?_) (fun hc7 => ?_)
      · replace h := cond_t hc7 h
        refine ac_skip ?_
        refine ac_seq ?_
        refine ac_block ?_
        refine ac_seq ?_
        refine ac_region rfl ?_
        refine rq (u := .int .i64 x1) rfl rfl rfl (p_move rfl) rfl ?_
        obtain ⟨v3, hv3, h⟩ := bnd_some h
        refine rq (u := .rptr [.int .i64 v3.Kind, .int .i64 v3.Field, .slice .ro 2 (v3.Ranges.map GRange.enc), encF v3.Low, encF v3.High, .slice .ro 6 (v3.Of.map GExpr.enc)]) rfl rfl rfl (p_ix GExpr.enc_eq sl_28 hv3 rfl rfl rfl) rfl ?_
        refine rq (u := .agg (GExpr.cells v3)) rfl rfl rfl (p_load_rptr ti_33 nofun rfl rfl (Nat.le_of_ble_eq_true rfl)) rfl ?_
        refine ralloc (cs := [.int .i64 0, .int .i64 0, .slice .full 0 [], encF (some 0), encF (some 0), .slice .full 0 []]) zf_33 rfl rfl rfl rfl rfl rfl rfl nofun fun b1 => ?_
        refine rq (u := .int .i64 x1) rfl rfl rfl (p_assign rfl) rfl ?_
        refine rstore (j := 0) (us := [.int .i64 v3.Kind, .int .i64 v3.Field, .slice .ro 2 (v3.Ranges.map GRange.enc), encF v3.Low, encF v3.High, .slice .ro 6 (v3.Of.map GExpr.enc)]) ti_33 rfl rfl rfl rfl rfl rfl rfl rfl nofun rfl (by simp only [allOne, List.all_cons, List.all_nil, one_fl]; rfl) (Nat.le_of_ble_eq_true rfl) ?_
        refine .done rfl ?_
        refine ac_seq ?_
        refine ac_region rfl ?_
        refine rq (u := .slice .ro 6 (s2.map GExpr.enc)) rfl rfl rfl (p_move rfl) rfl ?_
        refine rq (u := .int .i64 x1) rfl rfl rfl (p_move rfl) rfl ?_
        obtain ⟨v4, hv4, h⟩ := bnd_some h
        refine rq (u := .rptr [.int .i64 v4.Kind, .int .i64 v4.Field, .slice .ro 2 (v4.Ranges.map GRange.enc), encF v4.Low, encF v4.High, .slice .ro 6 (v4.Of.map GExpr.enc)]) rfl rfl rfl (p_ix GExpr.enc_eq sl_28 hv4 rfl rfl rfl) rfl ?_
        refine rq (u := .agg (GExpr.cells v4)) rfl rfl rfl (p_load_rptr ti_33 nofun rfl rfl (Nat.le_of_ble_eq_true rfl)) rfl ?_
        refine ralloc (cs := [.int .i64 0, .int .i64 0, .slice .full 0 [], encF (some 0), encF (some 0), .slice .full 0 []]) zf_33 rfl rfl rfl rfl rfl rfl rfl nofun fun b2 => ?_
        refine rstore (j := 0) (us := [.int .i64 v4.Kind, .int .i64 v4.Field, .slice .ro 2 (v4.Ranges.map GRange.enc), encF v4.Low, encF v4.High, .slice .ro 6 (v4.Of.map GExpr.enc)]) ti_33 rfl rfl rfl rfl rfl rfl rfl rfl nofun rfl (by simp only [allOne, List.all_cons, List.all_nil, one_fl]; rfl) (Nat.le_of_ble_eq_true rfl) ?_
        refine .done rfl ?_
        refine ac_seq ?_
        refine ac_region rfl ?_
        refine rq (u := .func (.func eq_fn) eq_fs eq_cs) rfl rfl rfl (p_move rfl) rfl ?_
        refine rq (u := .agg (GExpr.cells v3)) rfl rfl rfl (p_load_ptr ti_33 nofun rfl rfl (.tail _ (.head _)) (Nat.le_of_ble_eq_true rfl)) rfl ?_
        refine rq (u := .agg (GExpr.cells v4)) rfl rfl rfl (p_load_ptr ti_33 nofun rfl rfl (.head _) (Nat.le_of_ble_eq_true rfl)) rfl ?_
        obtain ⟨v5, hv5, h⟩ := bnd_some h
        refine rq (u := .bool v5) rfl rfl rfl (p_callL eq_en (heq v3 v4 v5 hv5) rfl rfl (TVles.refl _) (perm_last (x := [_, _]))) rfl ?_
        refine rq (u := .bool (!v5)) rfl rfl rfl (p_not rfl rfl) rfl ?_
        refine .done rfl ?_
        refine ac_cond rfl rfl (fun hc6 => ?_) (fun hc6 => ?_)
        · replace h := cond_t hc6 h
          refine ac_seq ?_
          refine ac_region rfl ?_
          refine rq (u := .bool false) rfl rfl rfl (p_assign rfl) rfl ?_
          refine .done rfl ?_
          refine ac_ret ?_
          show Fin _ _ _ _ _ _ _
          exact fin_ret (Nat.le_of_ble_eq_true rfl) rfl ⟨by obtain rfl := Option.some.inj h; rfl, (.cons _ (.cons _ (List.Sublist.refl _)))⟩
        · replace h := cond_f hc6 h
          refine ac_skip ?_
          refine ac_region rfl ?_
          refine rq (u := .int .i64 (IntKind.wrap .i64 (x1 + 1))) rfl rfl rfl (p_add rfl rfl rfl) rfl ?_
          refine rq (u := .int .i64 (IntKind.wrap .i64 (x1 + 1))) rfl rfl rfl (p_move rfl) rfl ?_
          refine .done rfl ?_
          exact ⟨⟨m2, (IntKind.wrap .i64 (x1 + 1))⟩, h, Nat.lt_succ_self _, ⟨TVle.refl _, TVle.refl _, TVle.refl _, TVle.refl _, TVle.refl _, TVle.refl _, TVle.refl _, TVle.refl _, TVle.refl _, TVle.refl _, TVle.refl _, TVle.refl _, trivial⟩, (ResLe.drop (ResLe.drop (ResLe.refl _)))⟩
      · replace h := cond_f hc7 h
        refine ac_exit ?_
        refine ac_seq ?_
        refine ac_region rfl ?_
        refine rq (u := .bool true) rfl rfl rfl (p_assign rfl) rfl ?_
        refine .done rfl ?_
        refine ac_ret ?_
        show Fin _ _ _ _ _ _ _
        exact fin_ret (Nat.le_of_ble_eq_true rfl) rfl ⟨by obtain rfl := Option.some.inj h; rfl, (List.Sublist.refl _)⟩
end Go.Proofs.YtdkiijhmmmfciaaDoor
