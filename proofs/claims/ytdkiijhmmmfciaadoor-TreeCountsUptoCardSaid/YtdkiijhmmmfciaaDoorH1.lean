/- The code computes the functions. Printed by tr.py. -/
import Derived.Test.YtdkiijhmmmfciaaDoorG0
import Derived.Test.YtdkiijhmmmfciaaDoorG1
import Derived.Test.YtdkiijhmmmfciaaDoorH0
set_option linter.unusedVariables false
set_option linter.unusedSimpArgs false
namespace Go.Proofs.YtdkiijhmmmfciaaDoor
open Go
set_option maxRecDepth 20000 in
set_option maxHeartbeats 4000000 in
theorem tree_bare_fn : ∀ k : Nat, ∀ (e : GExpr) (r : Bool) (h : tree_bare k e = some r), PFn Tryd.prog 28 [.agg (GExpr.cells e)] (.bool r) := by
  intro k
  intro e r h
  rw [tree_bare] at h
  refine AFn.of Tryd.func28 rfl (Nat.le_of_ble_eq_true rfl) ?_
  refine ac_seq ?_
  refine ac_region rfl ?_
  refine rbox rfl rfl rfl rfl rfl fun b1 => ?_
  refine rq (u := .bool false) rfl rfl rfl (p_assign rfl) rfl ?_
  refine .done rfl ?_
  refine ac_seq ?_
  refine ac_region rfl ?_
  refine rq (u := .ptr b1 1) rfl rfl rfl (p_field_ptr fl_33_1 rfl rfl) rfl ?_
  refine rq (u := .int .i64 e.Field) rfl rfl rfl (p_load_ptr ti_3 (fun _ => rfl) rfl rfl (.head _) (Nat.le_of_ble_eq_true rfl)) rfl ?_
  refine rq (u := .bool (e.Field == 0)) rfl rfl rfl (p_eql rfl rfl rfl) rfl ?_
  refine rq (u := .bool (e.Field == 0)) rfl rfl rfl (p_move rfl) rfl ?_
  refine rcase 6 rfl (fun hc1 => ?_) (fun hc1 => ?_)
  · replace h := cond_t hc1 h
    refine rq (u := .ptr b1 2) rfl (guard_at rfl rfl rfl rfl rfl) rfl (p_field_ptr fl_33_2 rfl rfl) rfl ?_
    refine rq (u := .slice .ro 2 (e.Ranges.map GRange.enc)) rfl (guard_at rfl rfl rfl rfl rfl) rfl (p_load_ptr ti_30 (fun _ => rfl) rfl rfl (.head _) (Nat.le_of_ble_eq_true rfl)) rfl ?_
    refine rq (u := .int .i64 (e.Ranges.length : Int)) rfl (guard_at rfl rfl rfl rfl rfl) rfl (p_lenm is_30 rfl rfl) rfl ?_
    refine rq (u := .bool ((e.Ranges.length : Int) == 0)) rfl (guard_at rfl rfl rfl rfl rfl) rfl (p_eql rfl rfl rfl) rfl ?_
    refine rq (u := .bool ((e.Ranges.length : Int) == 0)) rfl rfl rfl (p_pick rfl rfl) rfl ?_
    refine rq (u := .bool ((e.Ranges.length : Int) == 0)) rfl rfl rfl (p_move rfl) rfl ?_
    refine rcase 12 rfl (fun hc2 => ?_) (fun hc2 => ?_)
    · replace h := cond_t hc2 h
      refine rq (u := .ptr b1 3) rfl (guard_at rfl rfl rfl rfl rfl) rfl (p_field_ptr fl_33_3 rfl rfl) rfl ?_
      refine rq (u := encF e.Low) rfl (guard_at rfl rfl rfl rfl rfl) rfl (p_load_ptr ti_31 (fun _ => rfl) rfl rfl (.head _) (Nat.le_of_ble_eq_true rfl)) rfl ?_
      obtain ⟨v3, hv3, h⟩ := bnd_some h
      refine rq (u := .bool v3) rfl (guard_at rfl rfl rfl rfl rfl) rfl (p_pfnL en_31 (real_Same_fn k e.Low (some 0) v3 hv3) rfl rfl (TVles.refl _)) rfl ?_
      refine rq (u := .bool v3) rfl rfl rfl (p_pick rfl rfl) rfl ?_
      refine rq (u := .bool v3) rfl rfl rfl (p_move rfl) rfl ?_
      refine rcase 17 rfl (fun hc4 => ?_) (fun hc4 => ?_)
      · replace h := cond_t hc4 h
        refine rq (u := .ptr b1 4) rfl (guard_at rfl rfl rfl rfl rfl) rfl (p_field_ptr fl_33_4 rfl rfl) rfl ?_
        refine rq (u := encF e.High) rfl (guard_at rfl rfl rfl rfl rfl) rfl (p_load_ptr ti_31 (fun _ => rfl) rfl rfl (.head _) (Nat.le_of_ble_eq_true rfl)) rfl ?_
        obtain ⟨v5, hv5, h⟩ := bnd_some h
        refine rq (u := .bool v5) rfl (guard_at rfl rfl rfl rfl rfl) rfl (p_pfnL en_31 (real_Same_fn k e.High (some 0) v5 hv5) rfl rfl (TVles.refl _)) rfl ?_
        refine rq (u := .bool v5) rfl rfl rfl (p_pick rfl rfl) rfl ?_
        refine rq (u := .bool v5) rfl rfl rfl (p_assign rfl) rfl ?_
        refine .done rfl ?_
        refine ac_ret ?_
        show Fin _ _ _ _ _ _ _
        exact fin_ret (Nat.le_of_ble_eq_true rfl) rfl (by obtain rfl := Option.some.inj h; rfl)
      · replace h := cond_f hc4 h
        refine rskip rfl (guard_at rfl rfl rfl rfl rfl) rfl ?_
        refine rskip rfl (guard_at rfl rfl rfl rfl rfl) rfl ?_
        refine rskip rfl (guard_at rfl rfl rfl rfl rfl) rfl ?_
        refine rq (u := .bool false) rfl rfl rfl (p_pick rfl rfl) rfl ?_
        refine rq (u := .bool false) rfl rfl rfl (p_assign rfl) rfl ?_
        refine .done rfl ?_
        refine ac_ret ?_
        show Fin _ _ _ _ _ _ _
        exact fin_ret (Nat.le_of_ble_eq_true rfl) rfl (by obtain rfl := Option.some.inj h; rfl)
    · replace h := cond_f hc2 h
      refine rskip rfl (guard_at rfl rfl rfl rfl rfl) rfl ?_
      refine rskip rfl (guard_at rfl rfl rfl rfl rfl) rfl ?_
      refine rskip rfl (guard_at rfl rfl rfl rfl rfl) rfl ?_
      refine rq (u := .bool false) rfl rfl rfl (p_pick rfl rfl) rfl ?_
      refine rq (u := .bool false) rfl rfl rfl (p_move rfl) rfl ?_
      refine rskip rfl (guard_at rfl rfl rfl rfl rfl) rfl ?_
      refine rskip rfl (guard_at rfl rfl rfl rfl rfl) rfl ?_
      refine rskip rfl (guard_at rfl rfl rfl rfl rfl) rfl ?_
      refine rq (u := .bool false) rfl rfl rfl (p_pick rfl rfl) rfl ?_
      refine rq (u := .bool false) rfl rfl rfl (p_assign rfl) rfl ?_
      refine .done rfl ?_
      refine ac_ret ?_
      show Fin _ _ _ _ _ _ _
      exact fin_ret (Nat.le_of_ble_eq_true rfl) rfl (by obtain rfl := Option.some.inj h; rfl)
  · replace h := cond_f hc1 h
    refine rskip rfl (guard_at rfl rfl rfl rfl rfl) rfl ?_
    refine rskip rfl (guard_at rfl rfl rfl rfl rfl) rfl ?_
    refine rskip rfl (guard_at rfl rfl rfl rfl rfl) rfl ?_
    refine rskip rfl (guard_at rfl rfl rfl rfl rfl) rfl ?_
    refine rq (u := .bool false) rfl rfl rfl (p_pick rfl rfl) rfl ?_
    refine rq (u := .bool false) rfl rfl rfl (p_move rfl) rfl ?_
    refine rskip rfl (guard_at rfl rfl rfl rfl rfl) rfl ?_
    refine rskip rfl (guard_at rfl rfl rfl rfl rfl) rfl ?_
    refine rskip rfl (guard_at rfl rfl rfl rfl rfl) rfl ?_
    refine rq (u := .bool false) rfl rfl rfl (p_pick rfl rfl) rfl ?_
    refine rq (u := .bool false) rfl rfl rfl (p_move rfl) rfl ?_
    refine rskip rfl (guard_at rfl rfl rfl rfl rfl) rfl ?_
    refine rskip rfl (guard_at rfl rfl rfl rfl rfl) rfl ?_
    refine rskip rfl (guard_at rfl rfl rfl rfl rfl) rfl ?_
    refine rq (u := .bool false) rfl rfl rfl (p_pick rfl rfl) rfl ?_
    refine rq (u := .bool false) rfl rfl rfl (p_assign rfl) rfl ?_
    refine .done rfl ?_
    refine ac_ret ?_
    show Fin _ _ _ _ _ _ _
    exact fin_ret (Nat.le_of_ble_eq_true rfl) rfl (by obtain rfl := Option.some.inj h; rfl)

set_option maxRecDepth 20000 in
set_option maxHeartbeats 4000000 in
theorem slices_IndexFunc_Expr_fn : ∀ k : Nat, ∀ (s_0 : List GExpr) (f : GExpr → Option Bool) (f_fn : FuncId) (f_fs f_cs : List TV) (f_s : Res) (f_en : enterB Tryd.prog f_fn = true) (hf : ∀ (a1 : GExpr) (r' : Bool), f a1 = some r' → AFn Tryd.prog f_fn (f_fs ++ [.agg (GExpr.cells a1)] ++ f_cs) f_s fun y s' => y = .ret (.bool r') ∧ s' = f_s) (r : Int) (h : slices_IndexFunc_Expr k s_0 f = some r), AFn Tryd.prog 47 [.slice .ro 6 (s_0.map GExpr.enc), .func (.func f_fn) f_fs f_cs] f_s fun y s' => y = .ret (.int .i64 r) ∧ s' = f_s := by
  intro k
  intro s_0 f f_fn f_fs f_cs f_s f_en hf r h
  rw [slices_IndexFunc_Expr] at h
  refine AFn.shed ?_
  refine AFn.of Tryd.func47 rfl (Nat.le_of_ble_eq_true rfl) ?_
  refine ac_seq ?_
  refine ac_region rfl ?_
  refine rq (u := .int .i64 0) rfl rfl rfl (p_assign rfl) rfl ?_
  refine .done rfl ?_
  refine ac_seq ?_
  refine ac_seq ?_
  refine ac_region rfl ?_
  refine rq (u := .slice .ro 6 (s_0.map GExpr.enc)) rfl rfl rfl (p_move rfl) rfl ?_
  refine rq (u := .int .i64 (s_0.length : Int)) rfl rfl rfl (p_lenm is_28 rfl rfl) rfl ?_
  refine rq (u := .int .i64 0) rfl rfl rfl (p_move rfl) rfl ?_
  refine .done rfl ?_
  refine ac_block ?_
  refine ac_turns (σ := Nat × Int) (fun (⟨m2, x1⟩ : Nat × Int) => [(0, .slice .ro 6 (s_0.map GExpr.enc)), (1, .func (.func f_fn) f_fs f_cs), (4, .int .i64 0), (6, .slice .ro 6 (s_0.map GExpr.enc)), (7, .int .i64 (s_0.length : Int)), (8, .int .i64 x1)]) (fun (⟨m2, x1⟩ : Nat × Int) => f_s) (fun x => x.1) (fun (⟨m2, x1⟩ : Nat × Int) => slices_IndexFunc_Expr_L0 s_0 f (fun x7 => some (-1)) m2 x1 = some r) ⟨k, 0⟩ h ⟨TVle.refl _, TVle.refl _, TVle.refl _, TVle.refl _, TVle.refl _, TVle.refl _, trivial⟩ (ResLe.refl _) ?_
  rintro ⟨m2, x1⟩ h
  replace h : slices_IndexFunc_Expr_L0 s_0 f (fun x7 => some (-1)) m2 x1 = some r := h
  show ACode _ _ _ [(0, .slice .ro 6 (s_0.map GExpr.enc)), (1, .func (.func f_fn) f_fs f_cs), (4, .int .i64 0), (6, .slice .ro 6 (s_0.map GExpr.enc)), (7, .int .i64 (s_0.length : Int)), (8, .int .i64 x1)] f_s _
  cases m2 with
  | zero => rw [slices_IndexFunc_Expr_L0] at h; cases h
  | succ m2 =>
    rw [slices_IndexFunc_Expr_L0] at h
    refine ac_seq ?_
    refine ac_region rfl ?_
    refine rq (u := .bool (decide (x1 < (s_0.length : Int)))) rfl rfl rfl (p_lss rfl rfl rfl) rfl ?_
    refine .done rfl ?_
    refine ac_seq ?_
    refine ac_cond rfl rfl (fun hc6 => ?_) (fun hc6 => ?_)
    · replace h := cond_t hc6 h
      refine ac_skip ?_
      refine ac_seq ?_
      refine ac_block ?_
      refine ac_seq ?_
      refine ac_region rfl ?_
      refine rq (u := .int .i64 x1) rfl rfl rfl (p_move rfl) rfl ?_
      refine rq (u := .int .i64 x1) rfl rfl rfl (p_assign rfl) rfl ?_
      refine .done rfl ?_
      refine ac_seq ?_
      refine ac_region rfl ?_
      refine rq (u := .func (.func f_fn) f_fs f_cs) rfl rfl rfl (p_move rfl) rfl ?_
      refine rq (u := .slice .ro 6 (s_0.map GExpr.enc)) rfl rfl rfl (p_move rfl) rfl ?_
      refine rq (u := .int .i64 x1) rfl rfl rfl (p_move rfl) rfl ?_
      obtain ⟨v3, hv3, h⟩ := bnd_some h
      refine rq (u := .rptr [.int .i64 v3.Kind, .int .i64 v3.Field, .slice .ro 2 (v3.Ranges.map GRange.enc), encF v3.Low, encF v3.High, .slice .ro 6 (v3.Of.map GExpr.enc)]) rfl rfl rfl (p_ix GExpr.enc_eq sl_28 hv3 rfl rfl rfl) rfl ?_
      refine rq (u := .agg (GExpr.cells v3)) rfl rfl rfl (p_load_rptr ti_33 nofun rfl rfl (Nat.le_of_ble_eq_true rfl)) rfl ?_
      obtain ⟨v4, hv4, h⟩ := bnd_some h
      refine rq (u := .bool v4) rfl rfl rfl (p_callL f_en (hf v3 v4 hv4) rfl rfl (TVles.refl _) (perm_end _)) rfl ?_
      refine .done rfl ?_
      refine ac_cond rfl rfl (fun hc5 => ?_) (fun hc5 => ?_)
      · replace h := cond_t hc5 h
        refine ac_seq ?_
        refine ac_region rfl ?_
        refine rq (u := .int .i64 x1) rfl rfl rfl (p_move rfl) rfl ?_
        refine rq (u := .int .i64 x1) rfl rfl rfl (p_assign rfl) rfl ?_
        refine .done rfl ?_
        refine ac_ret ?_
        show Fin _ _ _ _ _ _ _
        exact fin_ret (Nat.le_of_ble_eq_true rfl) rfl ⟨by obtain rfl := Option.some.inj h; rfl, (List.Sublist.refl _)⟩
      · replace h := cond_f hc5 h
        refine ac_skip ?_
        refine ac_region rfl ?_
        refine rq (u := .int .i64 (IntKind.wrap .i64 (x1 + 1))) rfl rfl rfl (p_add rfl rfl rfl) rfl ?_
        refine rq (u := .int .i64 (IntKind.wrap .i64 (x1 + 1))) rfl rfl rfl (p_move rfl) rfl ?_
        refine .done rfl ?_
        exact ⟨⟨m2, (IntKind.wrap .i64 (x1 + 1))⟩, h, Nat.lt_succ_self _, ⟨TVle.refl _, TVle.refl _, TVle.refl _, TVle.refl _, TVle.refl _, TVle.refl _, trivial⟩, (ResLe.refl _)⟩
    · replace h := cond_f hc6 h
      refine ac_exit ?_
      refine ac_seq ?_
      refine ac_region rfl ?_
      refine rq (u := .int .i64 (-1)) rfl rfl rfl (p_assign rfl) rfl ?_
      refine .done rfl ?_
      refine ac_ret ?_
      show Fin _ _ _ _ _ _ _
      exact fin_ret (Nat.le_of_ble_eq_true rfl) rfl ⟨by obtain rfl := Option.some.inj h; rfl, (List.Sublist.refl _)⟩

set_option maxRecDepth 20000 in
set_option maxHeartbeats 4000000 in
theorem slices_ContainsFunc_Expr_fn : ∀ k : Nat, ∀ (s_0 : List GExpr) (f : GExpr → Option Bool) (f_fn : FuncId) (f_fs f_cs : List TV) (f_s : Res) (f_en : enterB Tryd.prog f_fn = true) (hf : ∀ (a1 : GExpr) (r' : Bool), f a1 = some r' → AFn Tryd.prog f_fn (f_fs ++ [.agg (GExpr.cells a1)] ++ f_cs) f_s fun y s' => y = .ret (.bool r') ∧ s' = f_s) (r : Bool) (h : slices_ContainsFunc_Expr k s_0 f = some r), AFn Tryd.prog 29 [.slice .ro 6 (s_0.map GExpr.enc), .func (.func f_fn) f_fs f_cs] f_s fun y s' => y = .ret (.bool r) ∧ s' = f_s := by
  intro k
  intro s_0 f f_fn f_fs f_cs f_s f_en hf r h
  rw [slices_ContainsFunc_Expr] at h
  refine AFn.shed ?_
  refine AFn.of Tryd.func29 rfl (Nat.le_of_ble_eq_true rfl) ?_
  refine ac_seq ?_
  refine ac_region rfl ?_
  refine rq (u := .bool false) rfl rfl rfl (p_assign rfl) rfl ?_
  refine .done rfl ?_
  refine ac_seq ?_
  refine ac_region rfl ?_
  refine rq (u := .slice .ro 6 (s_0.map GExpr.enc)) rfl rfl rfl (p_move rfl) rfl ?_
  refine rq (u := .func (.func f_fn) f_fs f_cs) rfl rfl rfl (p_move rfl) rfl ?_
  obtain ⟨v1, hv1, h⟩ := bnd_some h
  refine rq (u := .int .i64 v1) rfl rfl rfl (p_callL en_47 (slices_IndexFunc_Expr_fn k s_0 f f_fn f_fs f_cs f_s f_en hf v1 hv1) rfl rfl (TVles.refl _) (perm_end _)) rfl ?_
  refine rq (u := .bool (decide (0 ≤ v1))) rfl rfl rfl (p_geq rfl rfl rfl) rfl ?_
  refine rq (u := .bool (decide (0 ≤ v1))) rfl rfl rfl (p_assign rfl) rfl ?_
  refine .done rfl ?_
  refine ac_ret ?_
  show Fin _ _ _ _ _ _ _
  exact fin_ret (Nat.le_of_ble_eq_true rfl) rfl ⟨by obtain rfl := Option.some.inj h; rfl, (List.Sublist.refl _)⟩

set_option maxRecDepth 20000 in
set_option maxHeartbeats 4000000 in
theorem tree_Right_1_fn (self_tree_Right : GExpr → Option Bool) (ih_tree_Right : ∀ (e : GExpr) (r : Bool) (h : self_tree_Right e = some r), PFn Tryd.prog 16 [.agg (GExpr.cells e)] (.bool r)) : ∀ k : Nat, ∀ (x_0 : GExpr) (r : Bool) (h : tree_Right_1 self_tree_Right k x_0 = some r), PFn Tryd.prog 30 [.agg (GExpr.cells x_0)] (.bool r) := by
  intro k
  intro x_0 r h
  rw [tree_Right_1] at h
  refine AFn.of Tryd.func30 rfl (Nat.le_of_ble_eq_true rfl) ?_
  refine ac_seq ?_
  refine ac_region rfl ?_
  refine rbox rfl rfl rfl rfl rfl fun b1 => ?_
  refine rq (u := .bool false) rfl rfl rfl (p_assign rfl) rfl ?_
  refine .done rfl ?_
  refine ac_seq ?_
  refine ac_region rfl ?_
  refine rq (u := .ptr b1 0) rfl rfl rfl (p_field_ptr fl_33_0 rfl rfl) rfl ?_
  refine rq (u := .int .i64 x_0.Kind) rfl rfl rfl (p_load_ptr ti_3 (fun _ => rfl) rfl rfl (.head _) (Nat.le_of_ble_eq_true rfl)) rfl ?_
  refine rq (u := .bool (x_0.Kind == 0)) rfl rfl rfl (p_eql rfl rfl rfl) rfl ?_
  refine rq (u := .bool (x_0.Kind == 0)) rfl rfl rfl (p_move rfl) rfl ?_
  refine rcase 6 rfl (fun hc1 => ?_) (fun hc1 => ?_)
  · replace h := cond_t hc1 h
    refine rskip rfl (guard_at rfl rfl rfl rfl rfl) rfl ?_
    refine rskip rfl (guard_at rfl rfl rfl rfl rfl) rfl ?_
    refine rskip rfl (guard_at rfl rfl rfl rfl rfl) rfl ?_
    refine rq (u := .bool true) rfl rfl rfl (p_pick rfl rfl) rfl ?_
    refine rq (u := .bool true) rfl rfl rfl (p_assign rfl) rfl ?_
    refine .done rfl ?_
    refine ac_ret ?_
    show Fin _ _ _ _ _ _ _
    exact fin_ret (Nat.le_of_ble_eq_true rfl) rfl (by obtain rfl := Option.some.inj h; rfl)
  · replace h := cond_f hc1 h
    refine rq (u := .agg (GExpr.cells x_0)) rfl (guard_at rfl rfl rfl rfl rfl) rfl (p_load_ptr ti_33 nofun rfl rfl (.head _) (Nat.le_of_ble_eq_true rfl)) rfl ?_
    obtain ⟨v2, hv2, h⟩ := bnd_some h
    refine rq (u := .bool v2) rfl (guard_at rfl rfl rfl rfl rfl) rfl (p_pfnL en_16 (ih_tree_Right x_0 v2 hv2) rfl rfl (TVles.refl _)) rfl ?_
    refine rq (u := .bool (!v2)) rfl (guard_at rfl rfl rfl rfl rfl) rfl (p_not rfl rfl) rfl ?_
    refine rq (u := .bool (!v2)) rfl rfl rfl (p_pick rfl rfl) rfl ?_
    refine rq (u := .bool (!v2)) rfl rfl rfl (p_assign rfl) rfl ?_
    refine .done rfl ?_
    refine ac_ret ?_
    show Fin _ _ _ _ _ _ _
    exact fin_ret (Nat.le_of_ble_eq_true rfl) rfl (by obtain rfl := Option.some.inj h; rfl)

set_option maxRecDepth 20000 in
set_option maxHeartbeats 4000000 in
theorem tree_Right_fn : ∀ k : Nat, ∀ (e : GExpr) (r : Bool) (h : tree_Right k e = some r), PFn Tryd.prog 16 [.agg (GExpr.cells e)] (.bool r) := by
  intro k
  induction k with
  | zero => intro e r h; rw [tree_Right] at h; cases h
  | succ k ih_tree_Right =>
    intro e r h
    rw [tree_Right] at h
    refine AFn.of Tryd.func16 rfl (Nat.le_of_ble_eq_true rfl) ?_
    refine ac_seq ?_
    refine ac_region rfl ?_
    refine rbox rfl rfl rfl rfl rfl fun b1 => ?_
    refine rq (u := .bool false) rfl rfl rfl (p_assign rfl) rfl ?_
    refine .done rfl ?_
    refine ac_seq ?_
    refine ac_region_draw mo rfl rfl rfl ?_
    refine rq (u := .ptr b1 5) rfl rfl rfl (p_field_ptr fl_33_5 rfl rfl) rfl ?_
    refine rq (u := .slice .ro 6 (e.Of.map GExpr.enc)) rfl rfl rfl (p_load_ptr ti_28 (fun _ => rfl) rfl rfl (.head _) (Nat.le_of_ble_eq_true rfl)) rfl ?_
    refine rq (u := .int .i64 (e.Of.length : Int)) rfl rfl rfl (p_lenm is_28 rfl rfl) rfl ?_
    refine rq (u := .int .i64 2) rfl rfl rfl (p_assign rfl) rfl ?_
    refine rq (u := .int .i64 (e.Of.length : Int)) rfl rfl rfl (p_assign rfl) rfl ?_
    refine .done rfl ?_
    refine ac_seq ?_
    refine ac_seq ?_
    refine ac_region rfl ?_
    refine rq (u := .ptr b1 0) rfl rfl rfl (p_field_ptr fl_33_0 rfl rfl) rfl ?_
    refine rq (u := .int .i64 e.Kind) rfl rfl rfl (p_load_ptr ti_3 (fun _ => rfl) rfl rfl (.head _) (Nat.le_of_ble_eq_true rfl)) rfl ?_
    refine .done rfl ?_
    refine ac_block ?_
    refine ac_seq ?_
    refine ac_region rfl ?_
    refine rq (u := .bool (e.Kind == 1)) rfl rfl rfl (p_eql rfl rfl rfl) rfl ?_
    refine rq (u := .bool (e.Kind == 1)) rfl rfl rfl (p_assign rfl) rfl ?_
    refine .done rfl ?_
    refine ac_cond rfl rfl (fun hc30 => ?_) (fun hc30 => ?_)
    · replace h := cond_t hc30 h
      refine ac_seq ?_
      refine ac_region rfl ?_
      refine rq (u := .agg (GExpr.cells e)) rfl rfl rfl (p_load_ptr ti_33 nofun rfl rfl (.head _) (Nat.le_of_ble_eq_true rfl)) rfl ?_
      obtain ⟨v1, hv1, h⟩ := bnd_some h
      refine rq (u := .bool v1) rfl rfl rfl (p_pfnL en_27 (tree_atom_fn k e v1 hv1) rfl rfl (TVles.refl _)) rfl ?_
      refine rq (u := .bool v1) rfl rfl rfl (p_assign rfl) rfl ?_
      refine .done rfl ?_
      refine ac_ret ?_
      show Fin _ _ _ _ _ _ _
      exact fin_ret (Nat.le_of_ble_eq_true rfl) rfl (by obtain rfl := Option.some.inj h; rfl)
    · replace h := cond_f hc30 h
      refine ac_seq ?_
      refine ac_region rfl ?_
      refine rq (u := .bool (e.Kind == 0)) rfl rfl rfl (p_eql rfl rfl rfl) rfl ?_
      refine rq (u := .bool (e.Kind == 0)) rfl rfl rfl (p_assign rfl) rfl ?_
      refine .done rfl ?_
      refine ac_cond rfl rfl (fun hc29 => ?_) (fun hc29 => ?_)
      · replace h := cond_t hc29 h
        refine ac_seq ?_
        refine ac_region rfl ?_
        refine rq (u := .agg (GExpr.cells e)) rfl rfl rfl (p_load_ptr ti_33 nofun rfl rfl (.head _) (Nat.le_of_ble_eq_true rfl)) rfl ?_
        obtain ⟨v2, hv2, h⟩ := bnd_some h
        refine rq (u := .bool v2) rfl rfl rfl (p_pfnL en_28 (tree_bare_fn k e v2 hv2) rfl rfl (TVles.refl _)) rfl ?_
        refine rq (u := .bool v2) rfl rfl rfl (p_move rfl) rfl ?_
        refine rcase 18 rfl (fun hc3 => ?_) (fun hc3 => ?_)
        · replace h := cond_t hc3 h
          refine rq (u := .int .i64 (e.Of.length : Int)) rfl (guard_at rfl rfl rfl rfl rfl) rfl (p_move rfl) rfl ?_
          refine rq (u := .bool ((e.Of.length : Int) == 0)) rfl (guard_at rfl rfl rfl rfl rfl) rfl (p_eql rfl rfl rfl) rfl ?_
          refine rq (u := .bool ((e.Of.length : Int) == 0)) rfl rfl rfl (p_pick rfl rfl) rfl ?_
          refine rq (u := .bool ((e.Of.length : Int) == 0)) rfl rfl rfl (p_assign rfl) rfl ?_
          refine .done rfl ?_
          refine ac_ret ?_
          show Fin _ _ _ _ _ _ _
          exact fin_ret (Nat.le_of_ble_eq_true rfl) rfl (by obtain rfl := Option.some.inj h; rfl)
        · replace h := cond_f hc3 h
          refine rskip rfl (guard_at rfl rfl rfl rfl rfl) rfl ?_
          refine rskip rfl (guard_at rfl rfl rfl rfl rfl) rfl ?_
          refine rq (u := .bool false) rfl rfl rfl (p_pick rfl rfl) rfl ?_
          refine rq (u := .bool false) rfl rfl rfl (p_assign rfl) rfl ?_
          refine .done rfl ?_
          refine ac_ret ?_
          show Fin _ _ _ _ _ _ _
          exact fin_ret (Nat.le_of_ble_eq_true rfl) rfl (by obtain rfl := Option.some.inj h; rfl)
      · replace h := cond_f hc29 h
        refine ac_seq ?_
        refine ac_region rfl ?_
        refine rq (u := .bool (e.Kind == 2)) rfl rfl rfl (p_eql rfl rfl rfl) rfl ?_
        refine rq (u := .bool (e.Kind == 2)) rfl rfl rfl (p_assign rfl) rfl ?_
        refine .done rfl ?_
        refine ac_cond rfl rfl (fun hc28 => ?_) (fun hc28 => ?_)
        · replace h := cond_t hc28 h
          refine ac_region rfl ?_
          refine rq (u := .int .i64 (e.Of.length : Int)) rfl rfl rfl (p_move rfl) rfl ?_
          refine rq (u := .int .i64 (min (e.Of.length : Int) 2)) rfl rfl rfl (p_min rfl rfl rfl) rfl ?_
          refine rq (u := .int .i64 1) rfl rfl rfl (p_assign rfl) rfl ?_
          refine rq (u := .int .i64 (min (e.Of.length : Int) 2)) rfl rfl rfl (p_assign rfl) rfl ?_
          refine .done rfl ?_
          refine ac_seq ?_
          refine ac_seq ?_
          refine ac_region rfl ?_
          refine rq (u := .agg (GExpr.cells e)) rfl rfl rfl (p_load_ptr ti_33 nofun rfl rfl (.head _) (Nat.le_of_ble_eq_true rfl)) rfl ?_
          obtain ⟨v4, hv4, h⟩ := bnd_some h
          refine rq (u := .bool v4) rfl rfl rfl (p_pfnL en_28 (tree_bare_fn k e v4 hv4) rfl rfl (TVles.refl _)) rfl ?_
          refine rq (u := .bool (!v4)) rfl rfl rfl (p_not rfl rfl) rfl ?_
          refine rq (u := .bool (!v4)) rfl rfl rfl (p_move rfl) rfl ?_
          refine rcase 32 rfl (fun hc5 => ?_) (fun hc5 => ?_)
          · replace h := cond_t hc5 h
            refine rskip rfl (guard_at rfl rfl rfl rfl rfl) rfl ?_
            refine rskip rfl (guard_at rfl rfl rfl rfl rfl) rfl ?_
            refine rskip rfl (guard_at rfl rfl rfl rfl rfl) rfl ?_
            refine rq (u := .bool true) rfl rfl rfl (p_pick rfl rfl) rfl ?_
            refine rq (u := .bool true) rfl rfl rfl (p_move rfl) rfl ?_
            refine rskip rfl (guard_at rfl rfl rfl rfl rfl) rfl ?_
            refine rskip rfl (guard_at rfl rfl rfl rfl rfl) rfl ?_
            refine rskip rfl (guard_at rfl rfl rfl rfl rfl) rfl ?_
            refine rskip rfl (guard_at rfl rfl rfl rfl rfl) rfl ?_
            refine rskip rfl (guard_un rfl rfl rfl rfl) rfl ?_
            refine rskip rfl (guard_un rfl rfl rfl rfl) rfl ?_
            refine rskip rfl (guard_at rfl rfl rfl rfl rfl) rfl ?_
            refine rq (u := .bool true) rfl rfl rfl (p_pick rfl rfl) rfl ?_
            refine .done rfl ?_
            refine ac_condT rfl rfl ?_
            refine ac_seq ?_
            refine ac_region rfl ?_
            refine rq (u := .bool false) rfl rfl rfl (p_assign rfl) rfl ?_
            refine .done rfl ?_
            refine ac_ret ?_
            show Fin _ _ _ _ _ _ _
            exact fin_ret (Nat.le_of_ble_eq_true rfl) rfl (by obtain rfl := Option.some.inj h; rfl)
          · replace h := cond_f hc5 h
            refine rq (u := .int .i64 (min (e.Of.length : Int) 2)) rfl (guard_at rfl rfl rfl rfl rfl) rfl (p_move rfl) rfl ?_
            refine rq (u := .int .i64 1) rfl (guard_at rfl rfl rfl rfl rfl) rfl (p_move rfl) rfl ?_
            refine rq (u := .bool (decide ((min (e.Of.length : Int) 2) < 1))) rfl (guard_at rfl rfl rfl rfl rfl) rfl (p_lss rfl rfl rfl) rfl ?_
            refine rq (u := .bool (decide ((min (e.Of.length : Int) 2) < 1))) rfl rfl rfl (p_pick rfl rfl) rfl ?_
            refine rq (u := .bool (decide ((min (e.Of.length : Int) 2) < 1))) rfl rfl rfl (p_move rfl) rfl ?_
            refine rcase 37 rfl (fun hc6 => ?_) (fun hc6 => ?_)
            · replace h := cond_t hc6 h
              refine rskip rfl (guard_at rfl rfl rfl rfl rfl) rfl ?_
              refine rskip rfl (guard_at rfl rfl rfl rfl rfl) rfl ?_
              refine rskip rfl (guard_at rfl rfl rfl rfl rfl) rfl ?_
              refine rskip rfl (guard_at rfl rfl rfl rfl rfl) rfl ?_
              refine rskip rfl (guard_un rfl rfl rfl rfl) rfl ?_
              refine rskip rfl (guard_un rfl rfl rfl rfl) rfl ?_
              refine rskip rfl (guard_at rfl rfl rfl rfl rfl) rfl ?_
              refine rq (u := .bool true) rfl rfl rfl (p_pick rfl rfl) rfl ?_
              refine .done rfl ?_
              refine ac_condT rfl rfl ?_
              refine ac_seq ?_
              refine ac_region rfl ?_
              refine rq (u := .bool false) rfl rfl rfl (p_assign rfl) rfl ?_
              refine .done rfl ?_
              refine ac_ret ?_
              show Fin _ _ _ _ _ _ _
              exact fin_ret (Nat.le_of_ble_eq_true rfl) rfl (by obtain rfl := Option.some.inj h; rfl)
            · replace h := cond_f hc6 h
              refine rq (u := .ptr b1 0) rfl (guard_at rfl rfl rfl rfl rfl) rfl (p_field_ptr fl_33_0 rfl rfl) rfl ?_
              refine rq (u := .int .i64 e.Kind) rfl (guard_at rfl rfl rfl rfl rfl) rfl (p_load_ptr ti_3 (fun _ => rfl) rfl rfl (.head _) (Nat.le_of_ble_eq_true rfl)) rfl ?_
              refine rq (u := .bool (e.Kind == 2)) rfl (guard_at rfl rfl rfl rfl rfl) rfl (p_eql rfl rfl rfl) rfl ?_
              refine rq (u := .bool (e.Kind == 2)) rfl (guard_at rfl rfl rfl rfl rfl) rfl (p_move rfl) rfl ?_
              refine rcase 41 rfl (fun hc7 => ?_) (fun hc7 => ?_)
              · replace h := cond_t hc7 h
                refine rq (u := .int .i64 (min (e.Of.length : Int) 2)) rfl (guard_at rfl rfl rfl rfl rfl) rfl (p_move rfl) rfl ?_
                refine rq (u := .bool (decide (1 < (min (e.Of.length : Int) 2)))) rfl (guard_at rfl rfl rfl rfl rfl) rfl (p_gtr rfl rfl rfl) rfl ?_
                refine rq (u := .bool (decide (1 < (min (e.Of.length : Int) 2)))) rfl (guard_at rfl rfl rfl rfl rfl) rfl (p_pick rfl rfl) rfl ?_
                refine rq (u := .bool (decide (1 < (min (e.Of.length : Int) 2)))) rfl rfl rfl (p_pick rfl rfl) rfl ?_
                refine .done rfl ?_
                refine ac_cond rfl rfl (fun hc9 => ?_) (fun hc9 => ?_)
                · replace h := cond_t hc9 h
                  refine ac_seq ?_
                  refine ac_region rfl ?_
                  refine rq (u := .bool false) rfl rfl rfl (p_assign rfl) rfl ?_
                  refine .done rfl ?_
                  refine ac_ret ?_
                  show Fin _ _ _ _ _ _ _
                  exact fin_ret (Nat.le_of_ble_eq_true rfl) rfl (by obtain rfl := Option.some.inj h; rfl)
                · replace h := cond_f hc9 h
                  refine ac_skip ?_
                  refine ac_seq ?_
                  refine ac_region rfl ?_
                  refine rq (u := .ptr b1 5) rfl rfl rfl (p_field_ptr fl_33_5 rfl rfl) rfl ?_
                  refine rq (u := .slice .ro 6 (e.Of.map GExpr.enc)) rfl rfl rfl (p_load_ptr ti_28 (fun _ => rfl) rfl rfl (.head _) (Nat.le_of_ble_eq_true rfl)) rfl ?_
                  obtain ⟨v8, hv8, h⟩ := bnd_some h
                  refine rq (u := .bool v8) rfl rfl rfl (p_callL en_29 (slices_ContainsFunc_Expr_fn k e.Of (tree_Right_1 (tree_Right k) k) 30 [] [] [] en_30 (fun a1 r' h' => PFn.at (tree_Right_1_fn (tree_Right k) ih_tree_Right k a1 r' h') []) v8 hv8) rfl rfl (TVles.refl _) (List.Perm.refl _)) rfl ?_
                  refine rq (u := .bool (!v8)) rfl rfl rfl (p_not rfl rfl) rfl ?_
                  refine rq (u := .bool (!v8)) rfl rfl rfl (p_assign rfl) rfl ?_
                  refine .done rfl ?_
                  refine ac_ret ?_
                  show Fin _ _ _ _ _ _ _
                  exact fin_ret (Nat.le_of_ble_eq_true rfl) rfl (by obtain rfl := Option.some.inj h; rfl)
              · replace h := cond_f hc7 h
                refine rskip rfl (guard_at rfl rfl rfl rfl rfl) rfl ?_
                refine rskip rfl (guard_at rfl rfl rfl rfl rfl) rfl ?_
                refine rq (u := .bool false) rfl (guard_at rfl rfl rfl rfl rfl) rfl (p_pick rfl rfl) rfl ?_
                refine rq (u := .bool false) rfl rfl rfl (p_pick rfl rfl) rfl ?_
                refine .done rfl ?_
                refine ac_condF rfl rfl ?_
                refine ac_skip ?_
                refine ac_seq ?_
                refine ac_region rfl ?_
                refine rq (u := .ptr b1 5) rfl rfl rfl (p_field_ptr fl_33_5 rfl rfl) rfl ?_
                refine rq (u := .slice .ro 6 (e.Of.map GExpr.enc)) rfl rfl rfl (p_load_ptr ti_28 (fun _ => rfl) rfl rfl (.head _) (Nat.le_of_ble_eq_true rfl)) rfl ?_
                obtain ⟨v10, hv10, h⟩ := bnd_some h
                refine rq (u := .bool v10) rfl rfl rfl (p_callL en_29 (slices_ContainsFunc_Expr_fn k e.Of (tree_Right_1 (tree_Right k) k) 30 [] [] [] en_30 (fun a1 r' h' => PFn.at (tree_Right_1_fn (tree_Right k) ih_tree_Right k a1 r' h') []) v10 hv10) rfl rfl (TVles.refl _) (List.Perm.refl _)) rfl ?_
                refine rq (u := .bool (!v10)) rfl rfl rfl (p_not rfl rfl) rfl ?_
                refine rq (u := .bool (!v10)) rfl rfl rfl (p_assign rfl) rfl ?_
                refine .done rfl ?_
                refine ac_ret ?_
                show Fin _ _ _ _ _ _ _
                exact fin_ret (Nat.le_of_ble_eq_true rfl) rfl (by obtain rfl := Option.some.inj h; rfl)
        · replace h := cond_f hc28 h
          refine ac_seq ?_
          refine ac_seq ?_
          refine ac_region rfl ?_
          refine rq (u := .bool (e.Kind == 3)) rfl rfl rfl (p_eql rfl rfl rfl) rfl ?_
          refine rq (u := .bool (e.Kind == 3)) rfl rfl rfl (p_assign rfl) rfl ?_
          refine .done rfl ?_
          refine ac_cond rfl rfl (fun hc27 => ?_) (fun hc27 => ?_)
          · replace h := cond_t hc27 h
            refine ac_skip ?_
            refine ac_cond rfl rfl (fun hc18 => ?_) (fun hc18 => ?_)
            · replace h := cond_t hc18 h
              refine ac_skip ?_
              refine ac_seq ?_
              refine ac_seq ?_
              refine ac_region rfl ?_
              refine rq (u := .agg (GExpr.cells e)) rfl rfl rfl (p_load_ptr ti_33 nofun rfl rfl (.head _) (Nat.le_of_ble_eq_true rfl)) rfl ?_
              obtain ⟨v11, hv11, h⟩ := bnd_some h
              refine rq (u := .bool v11) rfl rfl rfl (p_pfnL en_28 (tree_bare_fn k e v11 hv11) rfl rfl (TVles.refl _)) rfl ?_
              refine rq (u := .bool (!v11)) rfl rfl rfl (p_not rfl rfl) rfl ?_
              refine rq (u := .bool (!v11)) rfl rfl rfl (p_move rfl) rfl ?_
              refine rcase 32 rfl (fun hc12 => ?_) (fun hc12 => ?_)
              · replace h := cond_t hc12 h
                refine rskip rfl (guard_at rfl rfl rfl rfl rfl) rfl ?_
                refine rskip rfl (guard_at rfl rfl rfl rfl rfl) rfl ?_
                refine rskip rfl (guard_at rfl rfl rfl rfl rfl) rfl ?_
                refine rq (u := .bool true) rfl rfl rfl (p_pick rfl rfl) rfl ?_
                refine rq (u := .bool true) rfl rfl rfl (p_move rfl) rfl ?_
                refine rskip rfl (guard_at rfl rfl rfl rfl rfl) rfl ?_
                refine rskip rfl (guard_at rfl rfl rfl rfl rfl) rfl ?_
                refine rskip rfl (guard_at rfl rfl rfl rfl rfl) rfl ?_
                refine rskip rfl (guard_at rfl rfl rfl rfl rfl) rfl ?_
                refine rskip rfl (guard_un rfl rfl rfl rfl) rfl ?_
                refine rskip rfl (guard_un rfl rfl rfl rfl) rfl ?_
                refine rskip rfl (guard_at rfl rfl rfl rfl rfl) rfl ?_
                refine rq (u := .bool true) rfl rfl rfl (p_pick rfl rfl) rfl ?_
                refine .done rfl ?_
                refine ac_condT rfl rfl ?_
                refine ac_seq ?_
                refine ac_region rfl ?_
                refine rq (u := .bool false) rfl rfl rfl (p_assign rfl) rfl ?_
                refine .done rfl ?_
                refine ac_ret ?_
                show Fin _ _ _ _ _ _ _
                exact fin_ret (Nat.le_of_ble_eq_true rfl) rfl (by obtain rfl := Option.some.inj h; rfl)
              · replace h := cond_f hc12 h
                refine rq (u := .int .i64 (e.Of.length : Int)) rfl (guard_at rfl rfl rfl rfl rfl) rfl (p_move rfl) rfl ?_
                refine rq (u := .int .i64 2) rfl (guard_at rfl rfl rfl rfl rfl) rfl (p_move rfl) rfl ?_
                refine rq (u := .bool (decide ((e.Of.length : Int) < 2))) rfl (guard_at rfl rfl rfl rfl rfl) rfl (p_lss rfl rfl rfl) rfl ?_
                refine rq (u := .bool (decide ((e.Of.length : Int) < 2))) rfl rfl rfl (p_pick rfl rfl) rfl ?_
                refine rq (u := .bool (decide ((e.Of.length : Int) < 2))) rfl rfl rfl (p_move rfl) rfl ?_
                refine rcase 37 rfl (fun hc13 => ?_) (fun hc13 => ?_)
                · replace h := cond_t hc13 h
                  refine rskip rfl (guard_at rfl rfl rfl rfl rfl) rfl ?_
                  refine rskip rfl (guard_at rfl rfl rfl rfl rfl) rfl ?_
                  refine rskip rfl (guard_at rfl rfl rfl rfl rfl) rfl ?_
                  refine rskip rfl (guard_at rfl rfl rfl rfl rfl) rfl ?_
                  refine rskip rfl (guard_un rfl rfl rfl rfl) rfl ?_
                  refine rskip rfl (guard_un rfl rfl rfl rfl) rfl ?_
                  refine rskip rfl (guard_at rfl rfl rfl rfl rfl) rfl ?_
                  refine rq (u := .bool true) rfl rfl rfl (p_pick rfl rfl) rfl ?_
                  refine .done rfl ?_
                  refine ac_condT rfl rfl ?_
                  refine ac_seq ?_
                  refine ac_region rfl ?_
                  refine rq (u := .bool false) rfl rfl rfl (p_assign rfl) rfl ?_
                  refine .done rfl ?_
                  refine ac_ret ?_
                  show Fin _ _ _ _ _ _ _
                  exact fin_ret (Nat.le_of_ble_eq_true rfl) rfl (by obtain rfl := Option.some.inj h; rfl)
                · replace h := cond_f hc13 h
                  refine rq (u := .ptr b1 0) rfl (guard_at rfl rfl rfl rfl rfl) rfl (p_field_ptr fl_33_0 rfl rfl) rfl ?_
                  refine rq (u := .int .i64 e.Kind) rfl (guard_at rfl rfl rfl rfl rfl) rfl (p_load_ptr ti_3 (fun _ => rfl) rfl rfl (.head _) (Nat.le_of_ble_eq_true rfl)) rfl ?_
                  refine rq (u := .bool (e.Kind == 2)) rfl (guard_at rfl rfl rfl rfl rfl) rfl (p_eql rfl rfl rfl) rfl ?_
                  refine rq (u := .bool (e.Kind == 2)) rfl (guard_at rfl rfl rfl rfl rfl) rfl (p_move rfl) rfl ?_
                  refine rcase 41 rfl (fun hc14 => ?_) (fun hc14 => ?_)
                  · replace h := cond_t hc14 h
                    refine rq (u := .int .i64 (e.Of.length : Int)) rfl (guard_at rfl rfl rfl rfl rfl) rfl (p_move rfl) rfl ?_
                    refine rq (u := .bool (decide (1 < (e.Of.length : Int)))) rfl (guard_at rfl rfl rfl rfl rfl) rfl (p_gtr rfl rfl rfl) rfl ?_
                    refine rq (u := .bool (decide (1 < (e.Of.length : Int)))) rfl (guard_at rfl rfl rfl rfl rfl) rfl (p_pick rfl rfl) rfl ?_
                    refine rq (u := .bool (decide (1 < (e.Of.length : Int)))) rfl rfl rfl (p_pick rfl rfl) rfl ?_
                    refine .done rfl ?_
                    refine ac_cond rfl rfl (fun hc16 => ?_) (fun hc16 => ?_)
                    · replace h := cond_t hc16 h
                      refine ac_seq ?_
                      refine ac_region rfl ?_
                      refine rq (u := .bool false) rfl rfl rfl (p_assign rfl) rfl ?_
                      refine .done rfl ?_
                      refine ac_ret ?_
                      show Fin _ _ _ _ _ _ _
                      exact fin_ret (Nat.le_of_ble_eq_true rfl) rfl (by obtain rfl := Option.some.inj h; rfl)
                    · replace h := cond_f hc16 h
                      refine ac_skip ?_
                      refine ac_seq ?_
                      refine ac_region rfl ?_
                      refine rq (u := .ptr b1 5) rfl rfl rfl (p_field_ptr fl_33_5 rfl rfl) rfl ?_
                      refine rq (u := .slice .ro 6 (e.Of.map GExpr.enc)) rfl rfl rfl (p_load_ptr ti_28 (fun _ => rfl) rfl rfl (.head _) (Nat.le_of_ble_eq_true rfl)) rfl ?_
                      obtain ⟨v15, hv15, h⟩ := bnd_some h
                      refine rq (u := .bool v15) rfl rfl rfl (p_callL en_29 (slices_ContainsFunc_Expr_fn k e.Of (tree_Right_1 (tree_Right k) k) 30 [] [] [] en_30 (fun a1 r' h' => PFn.at (tree_Right_1_fn (tree_Right k) ih_tree_Right k a1 r' h') []) v15 hv15) rfl rfl (TVles.refl _) (List.Perm.refl _)) rfl ?_
                      refine rq (u := .bool (!v15)) rfl rfl rfl (p_not rfl rfl) rfl ?_
                      refine rq (u := .bool (!v15)) rfl rfl rfl (p_assign rfl) rfl ?_
                      refine .done rfl ?_
                      refine ac_ret ?_
                      show Fin _ _ _ _ _ _ _
                      exact fin_ret (Nat.le_of_ble_eq_true rfl) rfl (by obtain rfl := Option.some.inj h; rfl)
                  · replace h := cond_f hc14 h
                    refine rskip rfl (guard_at rfl rfl rfl rfl rfl) rfl ?_
                    refine rskip rfl (guard_at rfl rfl rfl rfl rfl) rfl ?_
                    refine rq (u := .bool false) rfl (guard_at rfl rfl rfl rfl rfl) rfl (p_pick rfl rfl) rfl ?_
                    refine rq (u := .bool false) rfl rfl rfl (p_pick rfl rfl) rfl ?_
                    refine .done rfl ?_
                    refine ac_condF rfl rfl ?_
                    refine ac_skip ?_
                    refine ac_seq ?_
                    refine ac_region rfl ?_
                    refine rq (u := .ptr b1 5) rfl rfl rfl (p_field_ptr fl_33_5 rfl rfl) rfl ?_
                    refine rq (u := .slice .ro 6 (e.Of.map GExpr.enc)) rfl rfl rfl (p_load_ptr ti_28 (fun _ => rfl) rfl rfl (.head _) (Nat.le_of_ble_eq_true rfl)) rfl ?_
                    obtain ⟨v17, hv17, h⟩ := bnd_some h
                    refine rq (u := .bool v17) rfl rfl rfl (p_callL en_29 (slices_ContainsFunc_Expr_fn k e.Of (tree_Right_1 (tree_Right k) k) 30 [] [] [] en_30 (fun a1 r' h' => PFn.at (tree_Right_1_fn (tree_Right k) ih_tree_Right k a1 r' h') []) v17 hv17) rfl rfl (TVles.refl _) (List.Perm.refl _)) rfl ?_
                    refine rq (u := .bool (!v17)) rfl rfl rfl (p_not rfl rfl) rfl ?_
                    refine rq (u := .bool (!v17)) rfl rfl rfl (p_assign rfl) rfl ?_
                    refine .done rfl ?_
                    refine ac_ret ?_
                    show Fin _ _ _ _ _ _ _
                    exact fin_ret (Nat.le_of_ble_eq_true rfl) rfl (by obtain rfl := Option.some.inj h; rfl)
            · replace h := cond_f hc18 h
              refine ac_seq ?_
              refine ac_region rfl ?_
              refine rq (u := .bool false) rfl rfl rfl (p_assign rfl) rfl ?_
              refine .done rfl ?_
              refine ac_ret ?_
              show Fin _ _ _ _ _ _ _
              exact fin_ret (Nat.le_of_ble_eq_true rfl) rfl (by obtain rfl := Option.some.inj h; rfl)
          · replace h := cond_f hc27 h
            refine ac_region rfl ?_
            refine rq (u := .bool (e.Kind == 4)) rfl rfl rfl (p_eql rfl rfl rfl) rfl ?_
            refine rq (u := .bool (e.Kind == 4)) rfl rfl rfl (p_assign rfl) rfl ?_
            refine .done rfl ?_
            refine ac_cond rfl rfl (fun hc26 => ?_) (fun hc26 => ?_)
            · replace h := cond_t hc26 h
              refine ac_skip ?_
              refine ac_seq ?_
              refine ac_seq ?_
              refine ac_region rfl ?_
              refine rq (u := .agg (GExpr.cells e)) rfl rfl rfl (p_load_ptr ti_33 nofun rfl rfl (.head _) (Nat.le_of_ble_eq_true rfl)) rfl ?_
              obtain ⟨v19, hv19, h⟩ := bnd_some h
              refine rq (u := .bool v19) rfl rfl rfl (p_pfnL en_28 (tree_bare_fn k e v19 hv19) rfl rfl (TVles.refl _)) rfl ?_
              refine rq (u := .bool (!v19)) rfl rfl rfl (p_not rfl rfl) rfl ?_
              refine rq (u := .bool (!v19)) rfl rfl rfl (p_move rfl) rfl ?_
              refine rcase 32 rfl (fun hc20 => ?_) (fun hc20 => ?_)
              · replace h := cond_t hc20 h
                refine rskip rfl (guard_at rfl rfl rfl rfl rfl) rfl ?_
                refine rskip rfl (guard_at rfl rfl rfl rfl rfl) rfl ?_
                refine rskip rfl (guard_at rfl rfl rfl rfl rfl) rfl ?_
                refine rq (u := .bool true) rfl rfl rfl (p_pick rfl rfl) rfl ?_
                refine rq (u := .bool true) rfl rfl rfl (p_move rfl) rfl ?_
                refine rskip rfl (guard_at rfl rfl rfl rfl rfl) rfl ?_
                refine rskip rfl (guard_at rfl rfl rfl rfl rfl) rfl ?_
                refine rskip rfl (guard_at rfl rfl rfl rfl rfl) rfl ?_
                refine rskip rfl (guard_at rfl rfl rfl rfl rfl) rfl ?_
                refine rskip rfl (guard_un rfl rfl rfl rfl) rfl ?_
                refine rskip rfl (guard_un rfl rfl rfl rfl) rfl ?_
                refine rskip rfl (guard_at rfl rfl rfl rfl rfl) rfl ?_
                refine rq (u := .bool true) rfl rfl rfl (p_pick rfl rfl) rfl ?_
                refine .done rfl ?_
                refine ac_condT rfl rfl ?_
                refine ac_seq ?_
                refine ac_region rfl ?_
                refine rq (u := .bool false) rfl rfl rfl (p_assign rfl) rfl ?_
                refine .done rfl ?_
                refine ac_ret ?_
                show Fin _ _ _ _ _ _ _
                exact fin_ret (Nat.le_of_ble_eq_true rfl) rfl (by obtain rfl := Option.some.inj h; rfl)
              · replace h := cond_f hc20 h
                refine rq (u := .int .i64 (e.Of.length : Int)) rfl (guard_at rfl rfl rfl rfl rfl) rfl (p_move rfl) rfl ?_
                refine rq (u := .int .i64 2) rfl (guard_at rfl rfl rfl rfl rfl) rfl (p_move rfl) rfl ?_
                refine rq (u := .bool (decide ((e.Of.length : Int) < 2))) rfl (guard_at rfl rfl rfl rfl rfl) rfl (p_lss rfl rfl rfl) rfl ?_
                refine rq (u := .bool (decide ((e.Of.length : Int) < 2))) rfl rfl rfl (p_pick rfl rfl) rfl ?_
                refine rq (u := .bool (decide ((e.Of.length : Int) < 2))) rfl rfl rfl (p_move rfl) rfl ?_
                refine rcase 37 rfl (fun hc21 => ?_) (fun hc21 => ?_)
                · replace h := cond_t hc21 h
                  refine rskip rfl (guard_at rfl rfl rfl rfl rfl) rfl ?_
                  refine rskip rfl (guard_at rfl rfl rfl rfl rfl) rfl ?_
                  refine rskip rfl (guard_at rfl rfl rfl rfl rfl) rfl ?_
                  refine rskip rfl (guard_at rfl rfl rfl rfl rfl) rfl ?_
                  refine rskip rfl (guard_un rfl rfl rfl rfl) rfl ?_
                  refine rskip rfl (guard_un rfl rfl rfl rfl) rfl ?_
                  refine rskip rfl (guard_at rfl rfl rfl rfl rfl) rfl ?_
                  refine rq (u := .bool true) rfl rfl rfl (p_pick rfl rfl) rfl ?_
                  refine .done rfl ?_
                  refine ac_condT rfl rfl ?_
                  refine ac_seq ?_
                  refine ac_region rfl ?_
                  refine rq (u := .bool false) rfl rfl rfl (p_assign rfl) rfl ?_
                  refine .done rfl ?_
                  refine ac_ret ?_
                  show Fin _ _ _ _ _ _ _
                  exact fin_ret (Nat.le_of_ble_eq_true rfl) rfl (by obtain rfl := Option.some.inj h; rfl)
                · replace h := cond_f hc21 h
                  refine rq (u := .ptr b1 0) rfl (guard_at rfl rfl rfl rfl rfl) rfl (p_field_ptr fl_33_0 rfl rfl) rfl ?_
                  refine rq (u := .int .i64 e.Kind) rfl (guard_at rfl rfl rfl rfl rfl) rfl (p_load_ptr ti_3 (fun _ => rfl) rfl rfl (.head _) (Nat.le_of_ble_eq_true rfl)) rfl ?_
                  refine rq (u := .bool (e.Kind == 2)) rfl (guard_at rfl rfl rfl rfl rfl) rfl (p_eql rfl rfl rfl) rfl ?_
                  refine rq (u := .bool (e.Kind == 2)) rfl (guard_at rfl rfl rfl rfl rfl) rfl (p_move rfl) rfl ?_
                  refine rcase 41 rfl (fun hc22 => ?_) (fun hc22 => ?_)
                  · replace h := cond_t hc22 h
                    refine rq (u := .int .i64 (e.Of.length : Int)) rfl (guard_at rfl rfl rfl rfl rfl) rfl (p_move rfl) rfl ?_
                    refine rq (u := .bool (decide (1 < (e.Of.length : Int)))) rfl (guard_at rfl rfl rfl rfl rfl) rfl (p_gtr rfl rfl rfl) rfl ?_
                    refine rq (u := .bool (decide (1 < (e.Of.length : Int)))) rfl (guard_at rfl rfl rfl rfl rfl) rfl (p_pick rfl rfl) rfl ?_
                    refine rq (u := .bool (decide (1 < (e.Of.length : Int)))) rfl rfl rfl (p_pick rfl rfl) rfl ?_
                    refine .done rfl ?_
                    refine ac_cond rfl rfl (fun hc24 => ?_) (fun hc24 => ?_)
                    · replace h := cond_t hc24 h
                      refine ac_seq ?_
                      refine ac_region rfl ?_
                      refine rq (u := .bool false) rfl rfl rfl (p_assign rfl) rfl ?_
                      refine .done rfl ?_
                      refine ac_ret ?_
                      show Fin _ _ _ _ _ _ _
                      exact fin_ret (Nat.le_of_ble_eq_true rfl) rfl (by obtain rfl := Option.some.inj h; rfl)
                    · replace h := cond_f hc24 h
                      refine ac_skip ?_
                      refine ac_seq ?_
                      refine ac_region rfl ?_
                      refine rq (u := .ptr b1 5) rfl rfl rfl (p_field_ptr fl_33_5 rfl rfl) rfl ?_
                      refine rq (u := .slice .ro 6 (e.Of.map GExpr.enc)) rfl rfl rfl (p_load_ptr ti_28 (fun _ => rfl) rfl rfl (.head _) (Nat.le_of_ble_eq_true rfl)) rfl ?_
                      obtain ⟨v23, hv23, h⟩ := bnd_some h
                      refine rq (u := .bool v23) rfl rfl rfl (p_callL en_29 (slices_ContainsFunc_Expr_fn k e.Of (tree_Right_1 (tree_Right k) k) 30 [] [] [] en_30 (fun a1 r' h' => PFn.at (tree_Right_1_fn (tree_Right k) ih_tree_Right k a1 r' h') []) v23 hv23) rfl rfl (TVles.refl _) (List.Perm.refl _)) rfl ?_
                      refine rq (u := .bool (!v23)) rfl rfl rfl (p_not rfl rfl) rfl ?_
                      refine rq (u := .bool (!v23)) rfl rfl rfl (p_assign rfl) rfl ?_
                      refine .done rfl ?_
                      refine ac_ret ?_
                      show Fin _ _ _ _ _ _ _
                      exact fin_ret (Nat.le_of_ble_eq_true rfl) rfl (by obtain rfl := Option.some.inj h; rfl)
                  · replace h := cond_f hc22 h
                    refine rskip rfl (guard_at rfl rfl rfl rfl rfl) rfl ?_
                    refine rskip rfl (guard_at rfl rfl rfl rfl rfl) rfl ?_
                    refine rq (u := .bool false) rfl (guard_at rfl rfl rfl rfl rfl) rfl (p_pick rfl rfl) rfl ?_
                    refine rq (u := .bool false) rfl rfl rfl (p_pick rfl rfl) rfl ?_
                    refine .done rfl ?_
                    refine ac_condF rfl rfl ?_
                    refine ac_skip ?_
                    refine ac_seq ?_
                    refine ac_region rfl ?_
                    refine rq (u := .ptr b1 5) rfl rfl rfl (p_field_ptr fl_33_5 rfl rfl) rfl ?_
                    refine rq (u := .slice .ro 6 (e.Of.map GExpr.enc)) rfl rfl rfl (p_load_ptr ti_28 (fun _ => rfl) rfl rfl (.head _) (Nat.le_of_ble_eq_true rfl)) rfl ?_
                    obtain ⟨v25, hv25, h⟩ := bnd_some h
                    refine rq (u := .bool v25) rfl rfl rfl (p_callL en_29 (slices_ContainsFunc_Expr_fn k e.Of (tree_Right_1 (tree_Right k) k) 30 [] [] [] en_30 (fun a1 r' h' => PFn.at (tree_Right_1_fn (tree_Right k) ih_tree_Right k a1 r' h') []) v25 hv25) rfl rfl (TVles.refl _) (List.Perm.refl _)) rfl ?_
                    refine rq (u := .bool (!v25)) rfl rfl rfl (p_not rfl rfl) rfl ?_
                    refine rq (u := .bool (!v25)) rfl rfl rfl (p_assign rfl) rfl ?_
                    refine .done rfl ?_
                    refine ac_ret ?_
                    show Fin _ _ _ _ _ _ _
                    exact fin_ret (Nat.le_of_ble_eq_true rfl) rfl (by obtain rfl := Option.some.inj h; rfl)
            · replace h := cond_f hc26 h
              refine ac_seq ?_
              refine ac_region rfl ?_
              refine rq (u := .bool false) rfl rfl rfl (p_assign rfl) rfl ?_
              refine .done rfl ?_
              refine ac_ret ?_
              show Fin _ _ _ _ _ _ _
              exact fin_ret (Nat.le_of_ble_eq_true rfl) rfl (by obtain rfl := Option.some.inj h; rfl)

set_option maxRecDepth 20000 in
set_option maxHeartbeats 4000000 in
theorem internal_strconv_small_fn : ∀ k : Nat, ∀ (i : Int) (r : ByteArray) (h : internal_strconv_small k i = some r), PFn Tryd.prog 76 [.int .i64 i] (.str r) := by
  intro k
  intro i r h
  rw [internal_strconv_small] at h
  refine AFn.of Tryd.func76 rfl (Nat.le_of_ble_eq_true rfl) ?_
  refine ac_seq ?_
  refine ac_region rfl ?_
  refine rq (u := .str (⟨#[]⟩ : ByteArray)) rfl rfl rfl (p_assign rfl) rfl ?_
  refine .done rfl ?_
  refine ac_seq ?_
  refine ac_seq ?_
  refine ac_region rfl ?_
  refine rq (u := .int .i64 i) rfl rfl rfl (p_move rfl) rfl ?_
  refine rq (u := .bool (decide (i < 10))) rfl rfl rfl (p_lss rfl rfl rfl) rfl ?_
  refine .done rfl ?_
  refine ac_cond rfl rfl (fun hc3 => ?_) (fun hc3 => ?_)
  · replace h := cond_t hc3 h
    refine ac_seq ?_
    refine ac_region rfl ?_
    refine rq (u := .int .i64 i) rfl rfl rfl (p_move rfl) rfl ?_
    refine rq (u := .int .i64 i) rfl rfl rfl (p_move rfl) rfl ?_
    refine rq (u := .int .i64 (IntKind.wrap .i64 (i + 1))) rfl rfl rfl (p_add rfl rfl rfl) rfl ?_
    obtain ⟨v1, hv1, h⟩ := bnd_some h
    refine rq (u := .str v1) rfl rfl rfl (p_scutO hv1 it_9 rfl rfl (.inr ⟨_, _, rfl, rfl⟩) (.inr ⟨_, _, rfl, rfl⟩)) rfl ?_
    refine rq (u := .str v1) rfl rfl rfl (p_assign rfl) rfl ?_
    refine .done rfl ?_
    refine ac_ret ?_
    show Fin _ _ _ _ _ _ _
    exact fin_ret (Nat.le_of_ble_eq_true rfl) rfl (by obtain rfl := Option.some.inj h; rfl)
  · replace h := cond_f hc3 h
    refine ac_skip ?_
    refine ac_seq ?_
    refine ac_region rfl ?_
    refine rq (u := .int .i64 i) rfl rfl rfl (p_move rfl) rfl ?_
    refine rq (u := .int .i64 (IntKind.wrap .i64 (i * 2))) rfl rfl rfl (p_mul rfl rfl rfl) rfl ?_
    refine rq (u := .int .i64 i) rfl rfl rfl (p_move rfl) rfl ?_
    refine rq (u := .int .i64 (IntKind.wrap .i64 (i * 2))) rfl rfl rfl (p_mul rfl rfl rfl) rfl ?_
    refine rq (u := .int .i64 (IntKind.wrap .i64 ((IntKind.wrap .i64 (i * 2)) + 2))) rfl rfl rfl (p_add rfl rfl rfl) rfl ?_
    obtain ⟨v2, hv2, h⟩ := bnd_some h
    refine rq (u := .str v2) rfl rfl rfl (p_scutO hv2 it_9 rfl rfl (.inr ⟨_, _, rfl, rfl⟩) (.inr ⟨_, _, rfl, rfl⟩)) rfl ?_
    refine rq (u := .str v2) rfl rfl rfl (p_assign rfl) rfl ?_
    refine .done rfl ?_
    refine ac_ret ?_
    show Fin _ _ _ _ _ _ _
    exact fin_ret (Nat.le_of_ble_eq_true rfl) rfl (by obtain rfl := Option.some.inj h; rfl)

set_option maxRecDepth 20000 in
set_option maxHeartbeats 4000000 in
theorem internal_strconv_formatBits_fn : ∀ k : Nat, ∀ (dst : List Int) (u : Int) (base : Int) (neg : Bool) (append_ : Bool) (r : (List Int) × ByteArray) (h : internal_strconv_formatBits k dst u base neg append_ = some r), PFn Tryd.prog 79 [.slice .ro 1 (dst.map (TV.int .u8)), .int .u64 u, .int .i64 base, .bool neg, .bool append_] (.tuple [.slice .ro 1 (r.1.map (TV.int .u8)), .str r.2]) := by
  intro k
  intro dst u base neg append_ r h
  rw [internal_strconv_formatBits] at h
  refine AFn.of Tryd.func79 rfl (Nat.le_of_ble_eq_true rfl) ?_
  refine ac_seq ?_
  refine ac_region rfl ?_
  refine rq (u := .slice .full 0 []) rfl rfl rfl (p_assign rfl) rfl ?_
  refine rq (u := .str (⟨#[]⟩ : ByteArray)) rfl rfl rfl (p_assign rfl) rfl ?_
  refine .done rfl ?_
  refine ac_seq ?_
  refine ac_seq ?_
  refine ac_region rfl ?_
  refine rq (u := .int .i64 base) rfl rfl rfl (p_move rfl) rfl ?_
  refine rq (u := .bool (decide (base < 2))) rfl rfl rfl (p_lss rfl rfl rfl) rfl ?_
  refine rq (u := .bool (decide (base < 2))) rfl rfl rfl (p_move rfl) rfl ?_
  refine rcase 21 rfl (fun hc1 => ?_) (fun hc1 => ?_)
  · replace h := cond_t hc1 h
    cases h
  · replace h := cond_f hc1 h
    refine rq (u := .int .i64 base) rfl (guard_at rfl rfl rfl rfl rfl) rfl (p_move rfl) rfl ?_
    refine rq (u := .bool (base == 10)) rfl (guard_at rfl rfl rfl rfl rfl) rfl (p_eql rfl rfl rfl) rfl ?_
    refine rq (u := .bool (base == 10)) rfl rfl rfl (p_pick rfl rfl) rfl ?_
    refine rq (u := .bool (base == 10)) rfl rfl rfl (p_move rfl) rfl ?_
    refine rcase 25 rfl (fun hc2 => ?_) (fun hc2 => ?_)
    · replace h := cond_t hc2 h
      cases h
    · replace h := cond_f hc2 h
      refine rq (u := .int .i64 base) rfl (guard_at rfl rfl rfl rfl rfl) rfl (p_move rfl) rfl ?_
      refine rq (u := .bool (decide (36 < base))) rfl (guard_at rfl rfl rfl rfl rfl) rfl (p_gtr rfl rfl rfl) rfl ?_
      refine rq (u := .bool (decide (36 < base))) rfl rfl rfl (p_pick rfl rfl) rfl ?_
      refine .done rfl ?_
      refine ac_cond rfl rfl (fun hc3 => ?_) (fun hc3 => ?_)
      · replace h := cond_t hc3 h
        cases h
      · replace h := cond_f hc3 h
        cases h

set_option maxRecDepth 20000 in
set_option maxHeartbeats 4000000 in
theorem internal_strconv_FormatInt_fn : ∀ k : Nat, ∀ (i : Int) (base : Int) (r : ByteArray) (h : internal_strconv_FormatInt k i base = some r), PFn Tryd.prog 75 [.int .i64 i, .int .i64 base] (.str r) := by
  intro k
  intro i base r h
  rw [internal_strconv_FormatInt] at h
  refine AFn.of Tryd.func75 rfl (Nat.le_of_ble_eq_true rfl) ?_
  refine ac_seq ?_
  refine ac_region rfl ?_
  refine rq (u := .str (⟨#[]⟩ : ByteArray)) rfl rfl rfl (p_assign rfl) rfl ?_
  refine .done rfl ?_
  refine ac_seq ?_
  refine ac_seq ?_
  refine ac_region rfl ?_
  refine rq (u := .int .i64 base) rfl rfl rfl (p_move rfl) rfl ?_
  refine rq (u := .bool (base == 10)) rfl rfl rfl (p_eql rfl rfl rfl) rfl ?_
  refine .done rfl ?_
  refine ac_cond rfl rfl (fun hc5 => ?_) (fun hc5 => ?_)
  · replace h := cond_t hc5 h
    refine ac_seq ?_
    refine ac_seq ?_
    refine ac_region rfl ?_
    refine rq (u := .int .i64 i) rfl rfl rfl (p_move rfl) rfl ?_
    refine rq (u := .bool (decide (0 ≤ i))) rfl rfl rfl (p_leq rfl rfl rfl) rfl ?_
    refine rq (u := .bool (decide (0 ≤ i))) rfl rfl rfl (p_move rfl) rfl ?_
    refine rcase 14 rfl (fun hc1 => ?_) (fun hc1 => ?_)
    · replace h := cond_t hc1 h
      refine rq (u := .int .i64 i) rfl (guard_at rfl rfl rfl rfl rfl) rfl (p_move rfl) rfl ?_
      refine rq (u := .bool (decide (i < 100))) rfl (guard_at rfl rfl rfl rfl rfl) rfl (p_lss rfl rfl rfl) rfl ?_
      refine rq (u := .bool (decide (i < 100))) rfl rfl rfl (p_pick rfl rfl) rfl ?_
      refine .done rfl ?_
      refine ac_cond rfl rfl (fun hc3 => ?_) (fun hc3 => ?_)
      · replace h := cond_t hc3 h
        refine ac_seq ?_
        refine ac_region rfl ?_
        refine rq (u := .int .i64 i) rfl rfl rfl (p_move rfl) rfl ?_
        obtain ⟨v2, hv2, h⟩ := bnd_some h
        refine rq (u := .str v2) rfl rfl rfl (p_pfnL en_76 (internal_strconv_small_fn k i v2 hv2) rfl rfl (TVles.refl _)) rfl ?_
        refine rq (u := .str v2) rfl rfl rfl (p_assign rfl) rfl ?_
        refine .done rfl ?_
        refine ac_ret ?_
        show Fin _ _ _ _ _ _ _
        exact fin_ret (Nat.le_of_ble_eq_true rfl) rfl (by obtain rfl := Option.some.inj h; rfl)
      · replace h := cond_f hc3 h
        cases h
    · replace h := cond_f hc1 h
      cases h
  · replace h := cond_f hc5 h
    refine ac_skip ?_
    refine ac_seq ?_
    refine ac_region rfl ?_
    refine rq (u := .int .i64 i) rfl rfl rfl (p_move rfl) rfl ?_
    refine rq (u := .int .u64 (IntKind.wrap .u64 i)) rfl rfl rfl (p_cii ik_2 ik_79 rfl rfl) rfl ?_
    refine rq (u := .int .i64 base) rfl rfl rfl (p_move rfl) rfl ?_
    refine rq (u := .int .i64 i) rfl rfl rfl (p_move rfl) rfl ?_
    refine rq (u := .bool (decide (i < 0))) rfl rfl rfl (p_lss rfl rfl rfl) rfl ?_
    obtain ⟨v4, hv4, h⟩ := bnd_some h
    refine rq (u := .tuple [.slice .ro 1 (v4.1.map (TV.int .u8)), .str v4.2]) rfl rfl rfl (p_pfnL en_79 (internal_strconv_formatBits_fn k [] (IntKind.wrap .u64 i) base (decide (i < 0)) false v4 hv4) rfl rfl ⟨TVle.nilro, TVle.refl _, TVle.refl _, TVle.refl _, TVle.refl _, trivial⟩) rfl ?_
    refine rq (u := .tuple [.slice .ro 1 (v4.1.map (TV.int .u8)), .str v4.2]) rfl rfl rfl (p_move rfl) rfl ?_
    refine rq (u := .slice .ro 1 (v4.1.map (TV.int .u8))) rfl rfl rfl (p_extract rfl rfl rfl) rfl ?_
    refine rq (u := .str v4.2) rfl rfl rfl (p_extract rfl rfl rfl) rfl ?_
    refine rq (u := .slice .ro 1 (v4.1.map (TV.int .u8))) rfl rfl rfl (p_assign rfl) rfl ?_
    refine rq (u := .str v4.2) rfl rfl rfl (p_assign rfl) rfl ?_
    refine .done rfl ?_
    refine ac_seq ?_
    refine ac_region rfl ?_
    refine rq (u := .str v4.2) rfl rfl rfl (p_move rfl) rfl ?_
    refine rq (u := .str v4.2) rfl rfl rfl (p_assign rfl) rfl ?_
    refine .done rfl ?_
    refine ac_ret ?_
    show Fin _ _ _ _ _ _ _
    exact fin_ret (Nat.le_of_ble_eq_true rfl) rfl (by obtain rfl := Option.some.inj h; rfl)

set_option maxRecDepth 20000 in
set_option maxHeartbeats 4000000 in
theorem internal_strconv_Itoa_fn : ∀ k : Nat, ∀ (i : Int) (r : ByteArray) (h : internal_strconv_Itoa k i = some r), PFn Tryd.prog 73 [.int .i64 i] (.str r) := by
  intro k
  intro i r h
  rw [internal_strconv_Itoa] at h
  refine AFn.of Tryd.func73 rfl (Nat.le_of_ble_eq_true rfl) ?_
  refine ac_seq ?_
  refine ac_region rfl ?_
  refine rq (u := .str (⟨#[]⟩ : ByteArray)) rfl rfl rfl (p_assign rfl) rfl ?_
  refine .done rfl ?_
  refine ac_seq ?_
  refine ac_region rfl ?_
  refine rq (u := .int .i64 i) rfl rfl rfl (p_move rfl) rfl ?_
  obtain ⟨v1, hv1, h⟩ := bnd_some h
  refine rq (u := .str v1) rfl rfl rfl (p_pfnL en_75 (internal_strconv_FormatInt_fn k i 10 v1 hv1) rfl rfl (TVles.refl _)) rfl ?_
  refine rq (u := .str v1) rfl rfl rfl (p_assign rfl) rfl ?_
  refine .done rfl ?_
  refine ac_ret ?_
  show Fin _ _ _ _ _ _ _
  exact fin_ret (Nat.le_of_ble_eq_true rfl) rfl (by obtain rfl := Option.some.inj h; rfl)

set_option maxRecDepth 20000 in
set_option maxHeartbeats 4000000 in
theorem strconv_Itoa_fn : ∀ k : Nat, ∀ (i : Int) (r : ByteArray) (h : strconv_Itoa k i = some r), PFn Tryd.prog 68 [.int .i64 i] (.str r) := by
  intro k
  intro i r h
  rw [strconv_Itoa] at h
  refine AFn.of Tryd.func68 rfl (Nat.le_of_ble_eq_true rfl) ?_
  refine ac_seq ?_
  refine ac_region rfl ?_
  refine rq (u := .str (⟨#[]⟩ : ByteArray)) rfl rfl rfl (p_assign rfl) rfl ?_
  refine .done rfl ?_
  refine ac_seq ?_
  refine ac_region rfl ?_
  refine rq (u := .int .i64 i) rfl rfl rfl (p_move rfl) rfl ?_
  obtain ⟨v1, hv1, h⟩ := bnd_some h
  refine rq (u := .str v1) rfl rfl rfl (p_pfnL en_73 (internal_strconv_Itoa_fn k i v1 hv1) rfl rfl (TVles.refl _)) rfl ?_
  refine rq (u := .str v1) rfl rfl rfl (p_assign rfl) rfl ?_
  refine .done rfl ?_
  refine ac_ret ?_
  show Fin _ _ _ _ _ _ _
  exact fin_ret (Nat.le_of_ble_eq_true rfl) rfl (by obtain rfl := Option.some.inj h; rfl)

set_option maxRecDepth 20000 in
set_option maxHeartbeats 4000000 in
theorem guard_Put_fn : ∀ k : Nat, ∀ (n : Int) (r : ByteArray × Bool) (h : guard_Put k n = some r), PFn Tryd.prog 57 [.int .i64 n] (.tuple [.str r.1, .bool r.2]) := by
  intro k
  intro n r h
  rw [guard_Put] at h
  refine AFn.of Tryd.func57 rfl (Nat.le_of_ble_eq_true rfl) ?_
  refine ac_seq ?_
  refine ac_region rfl ?_
  refine rq (u := .str (⟨#[]⟩ : ByteArray)) rfl rfl rfl (p_assign rfl) rfl ?_
  refine rq (u := .bool false) rfl rfl rfl (p_assign rfl) rfl ?_
  refine .done rfl ?_
  refine ac_seq ?_
  refine ac_seq ?_
  refine ac_region rfl ?_
  refine rq (u := .int .i64 n) rfl rfl rfl (p_move rfl) rfl ?_
  refine rq (u := .bool (decide (n < 0))) rfl rfl rfl (p_lss rfl rfl rfl) rfl ?_
  refine rq (u := .bool (decide (n < 0))) rfl rfl rfl (p_move rfl) rfl ?_
  refine rcase 6 rfl (fun hc1 => ?_) (fun hc1 => ?_)
  · replace h := cond_t hc1 h
    refine rskip rfl (guard_at rfl rfl rfl rfl rfl) rfl ?_
    refine rskip rfl (guard_at rfl rfl rfl rfl rfl) rfl ?_
    refine rq (u := .bool true) rfl rfl rfl (p_pick rfl rfl) rfl ?_
    refine .done rfl ?_
    refine ac_condT rfl rfl ?_
    refine ac_seq ?_
    refine ac_region rfl ?_
    refine rq (u := .str (⟨#[]⟩ : ByteArray)) rfl rfl rfl (p_assign rfl) rfl ?_
    refine rq (u := .bool false) rfl rfl rfl (p_assign rfl) rfl ?_
    refine .done rfl ?_
    refine ac_ret ?_
    show Fin _ _ _ _ _ _ _
    exact fin_ret2 (Nat.le_of_ble_eq_true rfl) (Nat.le_of_ble_eq_true rfl) rfl rfl (by obtain rfl := Option.some.inj h; rfl)
  · replace h := cond_f hc1 h
    refine rq (u := .int .i64 n) rfl (guard_at rfl rfl rfl rfl rfl) rfl (p_move rfl) rfl ?_
    refine rq (u := .bool (decide (9007199254740992 < n))) rfl (guard_at rfl rfl rfl rfl rfl) rfl (p_gtr rfl rfl rfl) rfl ?_
    refine rq (u := .bool (decide (9007199254740992 < n))) rfl rfl rfl (p_pick rfl rfl) rfl ?_
    refine .done rfl ?_
    refine ac_cond rfl rfl (fun hc3 => ?_) (fun hc3 => ?_)
    · replace h := cond_t hc3 h
      refine ac_seq ?_
      refine ac_region rfl ?_
      refine rq (u := .str (⟨#[]⟩ : ByteArray)) rfl rfl rfl (p_assign rfl) rfl ?_
      refine rq (u := .bool false) rfl rfl rfl (p_assign rfl) rfl ?_
      refine .done rfl ?_
      refine ac_ret ?_
      show Fin _ _ _ _ _ _ _
      exact fin_ret2 (Nat.le_of_ble_eq_true rfl) (Nat.le_of_ble_eq_true rfl) rfl rfl (by obtain rfl := Option.some.inj h; rfl)
    · replace h := cond_f hc3 h
      refine ac_skip ?_
      refine ac_seq ?_
      refine ac_region rfl ?_
      refine rq (u := .int .i64 n) rfl rfl rfl (p_move rfl) rfl ?_
      obtain ⟨v2, hv2, h⟩ := bnd_some h
      refine rq (u := .str v2) rfl rfl rfl (p_pfnL en_68 (strconv_Itoa_fn k n v2 hv2) rfl rfl (TVles.refl _)) rfl ?_
      refine rq (u := .str v2) rfl rfl rfl (p_assign rfl) rfl ?_
      refine rq (u := .bool true) rfl rfl rfl (p_assign rfl) rfl ?_
      refine .done rfl ?_
      refine ac_ret ?_
      show Fin _ _ _ _ _ _ _
      exact fin_ret2 (Nat.le_of_ble_eq_true rfl) (Nat.le_of_ble_eq_true rfl) rfl rfl (by obtain rfl := Option.some.inj h; rfl)
end Go.Proofs.YtdkiijhmmmfciaaDoor
