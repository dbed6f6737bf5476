/- The code computes the functions. Printed by tr.py. -/
import Derived.Test.YtdkiijhmmmfciaaDoorG0
import Derived.Test.YtdkiijhmmmfciaaDoorG1
import Derived.Test.YtdkiijhmmmfciaaDoorH0
set_option linter.unusedVariables false
set_option linter.unusedSimpArgs false
namespace Go.Proofs.YtdkiijhmmmfciaaDoor
open Go
set_option maxRecDepth 20000 in
set_option maxHeartbeats 4000000 in
theorem tree_bare_fn : ∀ k : Nat, ∀ (e : GExpr) (r : Bool) (h : tree_bare k e = some r), PFn Tryd.prog 28 [.agg (GExpr.cells e)] (.bool r) := by
  intro k
  intro e r h
  rw [tree_bare] at h
  refine AFn.of Tryd.func28 rfl (Nat.le_of_ble_eq_true rfl) ?_
  refine ac_seq ?_
  refine ac_region rfl ?_
  refine rbox rfl rfl rfl rfl rfl fun b1 => ?_
  refine rq (u := .bool false) rfl rfl rfl (p_assign rfl) rfl ?_
  refine .done rfl ?_
  refine ac_seq ?_
  refine ac_region rfl ?_
  refine rq (u := .ptr b1 1) rfl rfl rfl (p_field_ptr fl_33_1 rfl rfl) rfl ?_
  refine rq (u := .int .i64 e.Field) rfl rfl rfl (p_load_ptr ti_3 (fun _ => rfl) rfl rfl (.head _) (Nat.le_of_ble_eq_true rfl)) rfl ?_
  refine rq (u := .bool (e.Field == 0)) rfl rfl rfl (p_eql rfl rfl rfl) rfl ?_
  refine rq (u := .bool (e.Field == 0)) rfl rfl rfl (p_move rfl) rfl ?_
  refine rcase 6 rfl (fun hc1 => ?_) (fun hc1 => ?_)
  · replace h := cond_t hc1 h
    refine rq (u := .ptr b1 2) rfl (guard_at rfl rfl rfl rfl rfl) rfl (p_field_ptr fl_33_2 rfl rfl) rfl ?_
    refine rq (u := .slice .ro 2 (e.Ranges.map GRange.enc)) rfl (guard_at rfl rfl rfl rfl rfl) rfl (p_load_ptr ti_30 (fun _ => rfl) rfl rfl (.head _) (Nat.le_of_ble_eq_true rfl)) rfl ?_
    refine rq (u := .int .i64 (e.Ranges.length : Int)) rfl (guard_at rfl rfl rfl rfl rfl) rfl (p_lenm is_30 rfl rfl) rfl ?_
    refine rq (u := .bool ((e.Ranges.length : Int) == 0)) rfl (guard_at rfl rfl rfl rfl rfl) rfl (p_eql rfl rfl rfl) rfl ?_
    refine rq (u := .bool ((e.Ranges.length : Int) == 0)) rfl rfl rfl (p_pick rfl rfl) rfl ?_
    refine rq (u := .bool ((e.Ranges.length : Int) == 0)) rfl rfl rfl (p_move rfl) rfl ?_
    refine rcase 12 rfl (fun hc2 => ?_) (fun hc2 => ?_)
    · replace h := cond_t hc2 h
      refine rq (u := .ptr b1 3) rfl (guard_at rfl rfl rfl rfl rfl) rfl (p_field_ptr fl_33_3 rfl rfl) rfl ?_
      refine rq (u := encF e.Low) rfl (guard_at rfl rfl rfl rfl rfl) rfl (p_load_ptr ti_31 (fun _ => rfl) rfl rfl (.head _) (Nat.le_of_ble_eq_true rfl)) rfl ?_
      obtain ⟨v3, hv3, h⟩ := bnd_some h
      refine rq (u := .bool v3) rfl (guard_at rfl rfl rfl rfl rfl) rfl (p_pfnL en_31 (real_Same_fn k e.Low (some 0) v3 hv3) rfl rfl (TVles.refl _)) rfl ?_
      refine rq (u := .bool v3) rfl rfl rfl (p_pick rfl rfl) rfl ?_
      refine rq (u := .bool v3) rfl rfl rfl (p_move rfl) rfl ?_
      refine rcase 17 rfl (fun hc4 => ?_) (fun hc4 => ?_)
      · replace h := cond_t hc4 h
        refine rq (u := .ptr b1 4) rfl (guard_at rfl rfl rfl rfl rfl) rfl (p_field_ptr fl_33_4 rfl rfl) rfl ?_
        refine rq (u := encF e.High) rfl (guard_at rfl rfl rfl rfl rfl) rfl (p_load_ptr ti_31 (fun _ => rfl) rfl rfl (.head _) (Nat.le_of_ble_eq_true rfl)) rfl ?_
        obtain ⟨v5, hv5, h⟩ := bnd_some h
        refine rq (u := .bool v5) rfl (guard_at rfl rfl rfl rfl rfl) rfl (p_pfnL en_31 (real_Same_fn k e.High (some 0) v5 hv5) rfl rfl (TVles.refl _)) rfl ?_
        refine rq (u := .bool v5) rfl rfl rfl (p_pick rfl rfl) rfl ?_
        refine rq (u := .bool v5) rfl rfl rfl (p_assign rfl) rfl ?_
        refine .done rfl ?_
        refine ac_ret ?_
        show Fin _ _ _ _ _ _ _
        exact fin_ret (Nat.le_of_ble_eq_true rfl) rfl (by obtain rfl := Option.some.inj h; rfl)
      · replace h := cond_f hc4 h
        refine rskip rfl (guard_at rfl rfl rfl rfl rfl) rfl ?_
        refine rskip rfl (guard_at rfl rfl rfl rfl rfl) rfl ?_
        refine rskip rfl (guard_at rfl rfl rfl rfl rfl) rfl ?_
        refine rq (u := .bool false) rfl rfl rfl (p_pick rfl rfl) rfl ?_
        refine rq (u := .bool false) rfl rfl rfl (p_assign rfl) rfl ?_
        refine .done rfl ?_
        refine ac_ret ?_
        show Fin _ _ _ _ _ _ _
        exact fin_ret (Nat.le_of_ble_eq_true rfl) rfl (by obtain rfl := Option.some.inj h; rfl)
    · replace h := cond_f hc2 h
      refine rskip rfl (guard_at rfl rfl rfl rfl rfl) rfl ?_
      refine rskip rfl (guard_at rfl rfl rfl rfl rfl) rfl ?_
      refine rskip rfl (guard_at rfl rfl rfl rfl rfl) rfl ?_
      refine rq (u := .bool false) rfl rfl rfl (p_pick rfl rfl) rfl ?_
      refine rq (u := .bool false) rfl rfl rfl (p_move rfl) rfl ?_
      refine rskip rfl (guard_at rfl rfl rfl rfl rfl) rfl ?_
      refine rskip rfl (guard_at rfl rfl rfl rfl rfl) rfl ?_
      refine rskip rfl (guard_at rfl rfl rfl rfl rfl) rfl ?_
      refine rq (u := .bool false) rfl rfl rfl (p_pick rfl rfl) rfl ?_
      refine rq (u := .bool false) rfl rfl rfl (p_assign rfl) rfl ?_
      refine .done rfl ?_
      refine ac_ret ?_
      show Fin _ _ _ _ _ _ _
      exact fin_ret (Nat.le_of_ble_eq_true rfl) rfl (by obtain rfl := Option.some.inj h; rfl)
  · replace h := cond_f hc1 h
    refine rskip rfl (guard_at rfl rfl rfl rfl rfl) rfl ?_
    refine rskip rfl (guard_at rfl rfl rfl rfl rfl) rfl ?_
    refine rskip rfl (guard_at rfl rfl rfl rfl rfl) rfl ?_
    refine rskip rfl (guard_at rfl rfl rfl rfl rfl) rfl ?_
    refine rq (u := .bool false) rfl rfl rfl (p_pick rfl rfl) rfl ?_
    refine rq (u := .bool false) rfl rfl rfl (p_move rfl) rfl ?_
    refine rskip rfl (guard_at rfl rfl rfl rfl rfl) rfl ?_
    refine rskip rfl (guard_at rfl rfl rfl rfl rfl) rfl ?_
    refine rskip rfl (guard_at rfl rfl rfl rfl rfl) rfl ?_
    refine rq (u := .bool false) rfl rfl rfl (p_pick rfl rfl) rfl ?_
    refine rq (u := .bool false) rfl rfl rfl (p_move rfl) rfl ?_
    refine rskip rfl (guard_at rfl rfl rfl rfl rfl) rfl ?_
    refine rskip rfl (guard_at rfl rfl rfl rfl rfl) rfl ?_
    refine rskip rfl (guard_at rfl rfl rfl rfl rfl) rfl ?_
    refine rq (u := .bool false) rfl rfl rfl (p_pick rfl rfl) rfl ?_
    refine rq (u := .bool false) rfl rfl rfl (p_assign rfl) rfl ?_
    refine .done rfl ?_
    refine ac_ret ?_
    show Fin _ _ _ _ _ _ _
    exact fin_ret (Nat.le_of_ble_eq_true rfl) rfl (by obtain rfl := Option.some.inj h; rfl)

set_option maxRecDepth 20000 in
set_option maxHeartbeats 4000000 in
theorem slices_IndexFunc_Expr_fn : ∀ k : Nat, ∀ (s_0 : List GExpr) (f : GExpr → Option Bool) (f_fn : FuncId) (f_fs f_cs : List TV) (f_s : Res) (f_en : enterB Tryd.prog f_fn = true) (hf : ∀ (a1 : GExpr) (r' : Bool), f a1 = some r' → AFn Tryd.prog f_fn (f_fs ++ [.agg (GExpr.cells a1)] ++ f_cs) f_s fun y s' => y = .ret (.bool r') ∧ s' = f_s) (r : Int) (h : slices_IndexFunc_Expr k s_0 f = some r), AFn Tryd.prog 47 [.slice .ro 6 (s_0.map GExpr.enc), .func (.func f_fn) f_fs f_cs] f_s fun y s' => y = .ret (.int .i64 r) ∧ s' = f_s := by
  intro k
  intro s_0 f f_fn f_fs f_cs f_s f_en hf r h
  rw [slices_IndexFunc_Expr] at h
  refine AFn.shed ?_
  refine AFn.of Tryd.func47 rfl (Nat.le_of_ble_eq_true rfl) ?_
  refine ac_seq ?_
  refine ac_region rfl ?_
  refine rq (u := .int .i64 0) rfl rfl rfl (p_assign rfl) rfl ?_
  refine .done rfl ?_
  refine ac_seq ?_
  refine ac_seq ?_
  refine ac_region rfl ?_
  refine rq (u := .slice .ro 6 (s_0.map GExpr.enc)) rfl rfl rfl (p_move rfl) rfl ?_
  refine rq (u := .int .i64 (s_0.length : Int)) rfl rfl rfl (p_lenm is_28 rfl rfl) rfl ?_
  refine rq (u := .int .i64 0) rfl rfl rfl (p_move rfl) rfl ?_
  refine .done rfl ?_
  refine ac_block ?_
  refine ac_turns (σ := Nat × Int) (fun (⟨m2, x1⟩ : Nat × Int) => [(0, .slice .ro 6 (s_0.map GExpr.enc)), (1, .func (.func f_fn) f_fs f_cs), (4, .int .i64 0), (6, .slice .ro 6 (s_0.map GExpr.enc)), (7, .int .i64 (s_0.length : Int)), (8, .int .i64 x1)]) (fun (⟨m2, x1⟩ : Nat × Int) => f_s) (fun x => x.1) (fun (⟨m2, x1⟩ : Nat × Int) => slices_IndexFunc_Expr_L0 s_0 f (fun x7 => some (-1)) m2 x1 = some r) ⟨k, 0⟩ h ⟨TVle.refl _, TVle.refl _, TVle.refl _, TVle.refl _, TVle.refl _, TVle.refl _, trivial⟩ (ResLe.refl _) ?_
  rintro ⟨m2, x1⟩ h
  replace h : slices_IndexFunc_Expr_L0 s_0 f (fun x7 => some (-1)) m2 x1 = some r := h
  show ACode _ _ _ [(0, .slice .ro 6 (s_0.map GExpr.enc)), (1, .func (.func f_fn) f_fs f_cs), (4, .int .i64 0), (6, .slice .ro 6 (s_0.map GExpr.enc)), (7, .int .i64 (s_0.length : Int)), (8, .int .i64 x1)] f_s _
  cases m2 with
  | zero => rw [slices_IndexFunc_Expr_L0] at h; cases h
  | succ m2 =>
    rw [slices_IndexFunc_Expr_L0] at h
    refine ac_seq ?_
    refine ac_region rfl ?_
    refine rq (u := .bool (decide (x1 < (s_0.length : Int)))) rfl rfl rfl (p_lss rfl rfl rfl) rfl ?_
    refine .done rfl ?_
    refine ac_seq ?_
    refine ac_cond rfl rfl (fun hc6 => ?_) (fun hc6 => ?_)
    · replace h := cond_t hc6 h
      refine ac_skip ?_
      refine ac_seq ?_
      refine ac_block ?_
      refine ac_seq ?_
      refine ac_region rfl ?_
      refine rq (u := .int .i64 x1) rfl rfl rfl (p_move rfl) rfl ?_
      refine rq (u := .int .i64 x1) rfl rfl rfl (p_assign rfl) rfl ?_
      refine .done rfl ?_
      refine ac_seq ?_
      refine ac_region rfl ?_
      refine rq (u := .func (.func f_fn) f_fs f_cs) rfl rfl rfl (p_move rfl) rfl ?_
      refine rq (u := .slice .ro 6 (s_0.map GExpr.enc)) rfl rfl rfl (p_move rfl) rfl ?_
      refine rq (u := .int .i64 x1) rfl rfl rfl (p_move rfl) rfl ?_
      obtain ⟨v3, hv3, h⟩ := bnd_some h
      refine rq (u := .rptr [.int .i64 v3.Kind, .int .i64 v3.Field, .slice .ro 2 (v3.Ranges.map GRange.enc), encF v3.Low, encF v3.High, .slice .ro 6 (v3.Of.map GExpr.enc)]) rfl rfl rfl (p_ix GExpr.enc_eq sl_28 hv3 rfl rfl rfl) rfl ?_
      refine rq (u := .agg (GExpr.cells v3)) rfl rfl rfl (p_load_rptr ti_33 nofun rfl rfl (Nat.le_of_ble_eq_true rfl)) rfl ?_
      obtain ⟨v4, hv4, h⟩ := bnd_some h
      refine rq (u := .bool v4) rfl rfl rfl (p_callL f_en (hf v3 v4 hv4) rfl rfl (TVles.refl _) (perm_end _)) rfl ?_
      refine .done rfl ?_
      refine ac_cond rfl rfl (fun hc5 => ?_) (fun hc5 => ?_)
      · replace h := cond_t hc5 h
        refine ac_seq ?_
        refine ac_region rfl ?_
        refine rq (u := .int .i64 x1) rfl rfl rfl (p_move rfl) rfl ?_
        refine rq (u := .int .i64 x1) rfl rfl rfl (p_assign rfl) rfl ?_
        refine .done rfl ?_
        refine ac_ret ?_
        show Fin _ _ _ _ _ _ _
        exact fin_ret (Nat.le_of_ble_eq_true rfl) rfl ⟨by obtain rfl := Option.some.inj h; rfl, (List.Sublist.refl _)⟩
      · replace h := cond_f hc5 h
        refine ac_skip ?_
        refine ac_region rfl ?_
        refine rq (u := .int .i64 (IntKind.wrap .i64 (x1 + 1))) rfl rfl rfl (p_add rfl rfl rfl) rfl ?_
        refine rq (u := .int .i64 (IntKind.wrap .i64 (x1 + 1))) rfl rfl rfl (p_move rfl) rfl ?_
        refine .done rfl ?_
        exact ⟨⟨m2, (IntKind.wrap .i64 (x1 + 1))⟩, h, Nat.lt_succ_self _, ⟨TVle.refl _, TVle.refl _, TVle.refl _, TVle.refl _, TVle.refl _, TVle.refl _, trivial⟩, (ResLe.refl _)⟩
    · replace h := cond_f hc6 h
      refine ac_exit ?_
      refine ac_seq ?_
      refine ac_region rfl ?_
      refine rq (u := .int .i64 (-1)) rfl rfl rfl (p_assign rfl) rfl ?_
      refine .done rfl ?_
      refine ac_ret ?_
      show Fin _ _ _ _ _ _ _
      exact fin_ret (Nat.le_of_ble_eq_true rfl) rfl ⟨by obtain rfl := Option.some.inj h; rfl, (List.Sublist.refl _)⟩

set_option maxRecDepth 20000 in
set_option maxHeartbeats 4000000 in
theorem slices_ContainsFunc_Expr_fn : ∀ k : Nat, ∀ (s_0 : List GExpr) (f : GExpr → Option Bool) (f_fn : FuncId) (f_fs f_cs : List TV) (f_s : Res) (f_en : enterB Tryd.prog f_fn = true) (hf : ∀ (a1 : GExpr) (r' : Bool), f a1 = some r' → AFn Tryd.prog f_fn (f_fs ++ [.agg (GExpr.cells a1)] ++ f_cs) f_s fun y s' => y = .ret (.bool r') ∧ s' = f_s) (r : Bool) (h : slices_ContainsFunc_Expr k s_0 f = some r), AFn Tryd.prog 29 [.slice .ro 6 (s_0.map GExpr.enc), .func (.func f_fn) f_fs f_cs] f_s fun y s' => y = .ret (.bool r) ∧ s' = f_s := by
  intro k
  intro s_0 f f_fn f_fs f_cs f_s f_en hf r h
  rw [slices_ContainsFunc_Expr] at h
  refine AFn.shed ?_
  refine AFn.of Tryd.func29 rfl (Nat.le_of_ble_eq_true rfl) ?_
  refine ac_seq ?_
  refine ac_region rfl ?_
  refine rq (u := .bool false) rfl rfl rfl (p_assign rfl) rfl ?_
  refine .done rfl ?_
  refine ac_seq ?_
  refine ac_region rfl ?_
  refine rq (u := .slice .ro 6 (s_0.map GExpr.enc)) rfl rfl rfl (p_move rfl) rfl ?_
  refine rq (u := .func (.func f_fn) f_fs f_cs) rfl rfl rfl (p_move rfl) rfl ?_
  obtain ⟨v1, hv1, h⟩ := bnd_some h
  refine rq (u := .int .i64 v1) rfl rfl rfl (p_callL en_47 (slices_IndexFunc_Expr_fn k s_0 f f_fn f_fs f_cs f_s f_en hf v1 hv1) rfl rfl (TVles.refl _) (perm_end _)) rfl ?_
  refine rq (u := .bool (decide (0 ≤ v1))) rfl rfl rfl (p_geq rfl rfl rfl) rfl ?_
  refine rq (u := .bool (decide (0 ≤ v1))) rfl rfl rfl (p_assign rfl) rfl ?_
  refine .done rfl ?_
  refine ac_ret ?_
  show Fin _ _ _ _ _ _ _
  exact fin_ret (Nat.le_of_ble_eq_true rfl) rfl ⟨by obtain rfl := Option.some.inj h; rfl, (List.Sublist.refl _)⟩

set_option maxRecDepth 20000 in
set_option maxHeartbeats 4000000 in
theorem tree_Right_1_fn (self_tree_Right : GExpr → Option Bool) (ih_tree_Right : ∀ (e : GExpr) (r : Bool) (h : self_tree_Right e = some r), PFn Tryd.prog 16 [.agg (GExpr.cells e)] (.bool r)) : ∀ k : Nat, ∀ (x_0 : GExpr) (r : Bool) (h : tree_Right_1 self_tree_Right k x_0 = some r), PFn Tryd.prog 30 [.agg (GExpr.cells x_0)] (.bool r) := by
  intro k
  intro x_0 r h
  rw [tree_Right_1] at h
  refine AFn.of Tryd.func30 rfl (Nat.le_of_ble_eq_true rfl) ?_
  refine ac_seq ?_
  refine ac_region rfl ?_
  refine rbox rfl rfl rfl rfl rfl fun b1 => ?_
  refine rq (u := .bool false) rfl rfl rfl (p_assign rfl) rfl ?_
  refine .done rfl ?_
  refine ac_seq ?_
  refine ac_region rfl ?_
  refine rq (u := .ptr b1 0) rfl rfl rfl (p_field_ptr fl_33_0 rfl rfl) rfl ?_
  refine rq (u := .int .i64 x_0.Kind) rfl rfl rfl (p_load_ptr ti_3 (fun _ => rfl) rfl rfl (.head _) (Nat.le_of_ble_eq_true rfl)) rfl ?_
  refine rq (u := .bool (x_0.Kind == 0)) rfl rfl rfl (p_eql rfl rfl rfl) rfl ?_
  refine rq (u := .bool (x_0.Kind == 0)) rfl rfl rfl (p_move rfl) rfl ?_
  refine rcase 6 rfl (fun hc1 => ?_) (fun hc1 => ?_)
  · replace h := cond_t hc1 h
    refine rskip rfl (guard_at rfl rfl rfl rfl rfl) rfl ?_
    refine rskip rfl (guard_at rfl rfl rfl rfl rfl) rfl ?_
    refine rskip rfl (guard_at rfl rfl rfl rfl rfl) rfl ?_
    refine rq (u := .bool true) rfl rfl rfl (p_pick rfl rfl) rfl ?_
    refine rq (u := .bool true) rfl rfl rfl (p_assign rfl) rfl ?_
    refine .done rfl ?_
    refine ac_ret ?_
    show Fin _ _ _ _ _ _ _
    exact fin_ret (Nat.le_of_ble_eq_true rfl) rfl (by obtain rfl := Option.some.inj h; rfl)
  · replace h := cond_f hc1 h
    refine rq (u := .agg (GExpr.cells x_0)) rfl (guard_at rfl rfl rfl rfl rfl) rfl (p_load_ptr ti_33 nofun rfl rfl (.head _) (Nat.le_of_ble_eq_true rfl)) rfl ?_
    obtain ⟨v2, hv2, h⟩ := bnd_some h
    refine rq (u := .bool v2) rfl (guard_at rfl rfl rfl rfl rfl) rfl (p_pfnL en_16 (ih_tree_Right x_0 v2 hv2) rfl rfl (TVles.refl _)) rfl ?_
    refine rq (u := .bool (!v2)) rfl (guard_at rfl rfl rfl rfl rfl) rfl (p_not rfl rfl) rfl ?_
    refine rq (u := .bool (!v2)) rfl rfl rfl (p_pick rfl rfl) rfl ?_
    refine rq (u := .bool (!v2)) rfl rfl rfl (p_assign rfl) rfl ?_
    refine .done rfl ?_
    refine ac_ret ?_
    show Fin _ _ _ _ _ _ _
    exact fin_ret (Nat.le_of_ble_eq_true rfl) rfl (by obtain rfl := Option.some.inj h; rfl)

set_option maxRecDepth 20000 in
set_option maxHeartbeats 4000000 in
theorem tree_Right_fn : ∀ k : Nat, ∀ (e : GExpr) (r : Bool) (h : tree_Right k e = some r), PFn Tryd.prog 16 [.agg (GExpr.cells e)] (.bool r) := by
  intro k
  induction k with
  | zero => intro e r h; rw [tree_Right] at h; cases h
  | succ k ih_tree_Right =>
    intro e r h
    rw [tree_Right] at h
    refine AFn.of Tryd.func16 rfl (Nat.le_of_ble_eq_true rfl) ?_
    refine ac_seq ?_
    refine ac_region rfl ?_
    refine rbox rfl rfl rfl rfl rfl fun b1 => ?_
    refine rq (u := .bool false) rfl rfl rfl (p_assign rfl) rfl ?_
    refine .done rfl ?_
    refine ac_seq ?_
    refine ac_region_draw mo rfl rfl rfl ?_
    refine rq (u := .ptr b1 5) rfl rfl rfl (p_field_ptr fl_33_5 rfl rfl) rfl ?_
    refine rq (u := .slice .ro 6 (e.Of.map GExpr.enc)) rfl rfl rfl (p_load_ptr ti_28 (fun _ => rfl) rfl rfl (.head _) (Nat.le_of_ble_eq_true rfl)) rfl ?_
    refine rq (u := .int .i64 (e.Of.length : Int)) rfl rfl rfl (p_lenm is_28 rfl rfl) rfl ?_
    refine rq (u := .int .i64 2) rfl rfl rfl (p_assign rfl) rfl ?_
    refine rq (u := .int .i64 (e.Of.length : Int)) rfl rfl rfl (p_assign rfl) rfl ?_
    refine .done rfl ?_
    refine ac_seq ?_
    refine ac_seq ?_
    refine ac_region rfl ?_
    refine rq (u := .ptr b1 0) rfl rfl rfl (p_field_ptr fl_33_0 rfl rfl) rfl ?_
    refine rq (u := .int .i64 e.Kind) rfl rfl rfl (p_load_ptr ti_3 (fun _ => rfl) rfl rfl (.head _) (Nat.le_of_ble_eq_true rfl)) rfl ?_
    refine .done rfl ?_
    refine ac_block ?_
    refine ac_seq ?_
    refine ac_region rfl ?_
    refine rq (u := .bool (e.Kind == 1)) rfl rfl rfl (p_eql rfl rfl rfl) rfl ?_
    refine rq (u := .bool (e.Kind == 1)) rfl rfl rfl (p_assign rfl) rfl ?_
    refine .done rfl ?_
    refine ac_cond rfl rfl (fun hc30 => ?_) (fun hc30 => ?_)
    · replace h := cond_t hc30 h
      refine ac_seq ?_
      refine ac_region rfl ?_
      refine rq (u := .agg (GExpr.cells e)) rfl rfl rfl (p_load_ptr ti_33 nofun rfl rfl (.head _) (Nat.le_of_ble_eq_true rfl)) rfl ?_
      obtain ⟨v1, hv1, h⟩ := bnd_some h
      refine rq (u := .bool v1) rfl rfl rfl (p_pfnL en_27 (tree_atom_fn k e v1 hv1) rfl rfl (TVles.refl _)) rfl ?_
      refine rq (u := .bool v1) rfl rfl rfl (p_assign rfl) rfl ?_
      refine .done rfl ?_
      refine ac_ret ?_
      show Fin _ _ _ _ _ _ _
      exact fin_ret (Nat.le_of_ble_eq_true rfl) rfl (by obtain rfl := Option.some.inj h; rfl)
    · replace h := cond_f hc30 h
      refine ac_seq ?_
      refine ac_region rfl ?_
      refine rq (u := .bool (e.Kind == 0)) rfl rfl rfl (p_eql rfl rfl rfl) rfl ?_
      refine rq (u := .bool (e.Kind == 0)) rfl rfl rfl (p_assign rfl) rfl ?_
      refine .done rfl ?_
      refine ac_cond rfl rfl (fun hc29 => ?_) (fun hc29 => ?_)
      · replace h := cond_t hc29 h
        refine ac_seq ?_
        refine ac_region rfl ?_
        refine rq (u := .agg (GExpr.cells e)) rfl rfl rfl (p_load_ptr ti_33 nofun rfl rfl (.head _) (Nat.le_of_ble_eq_true rfl)) rfl ?_
        obtain ⟨v2, hv2, h⟩ := bnd_some h
        refine rq (u := .bool v2) rfl rfl rfl (p_pfnL en_28 (tree_bare_fn k e v2 hv2) rfl rfl (TVles.refl _)) rfl ?_
        refine rq (u := .bool v2) rfl rfl rfl (p_move rfl) rfl ?_
        refine rcase 18 rfl (fun hc3 => ?_) (fun hc3 => ?_)
        · replace h := cond_t hc3 h
          refine rq (u := .int .i64 (e.Of.length : Int)) rfl (guard_at rfl rfl rfl rfl rfl) rfl (p_move rfl) rfl ?_
          refine rq (u := .bool ((e.Of.length : Int) == 0)) rfl (guard_at rfl rfl rfl rfl rfl) rfl (p_eql rfl rfl rfl) rfl ?_
          refine rq (u := .bool ((e.Of.length : Int) == 0)) rfl rfl rfl (p_pick rfl rfl) rfl ?_
          refine rq (u := .bool ((e.Of.length : Int) == 0)) rfl rfl rfl (p_assign rfl) rfl ?_
          refine .done rfl ?_
          refine ac_ret ?_
          show Fin _ _ _ _ _ _ _
          exact fin_ret (Nat.le_of_ble_eq_true rfl) rfl (by obtain rfl := Option.some.inj h; rfl)
        · replace h := cond_f hc3 h
          refine rskip rfl (guard_at rfl rfl rfl rfl rfl) rfl ?_
          refine rskip rfl (guard_at rfl rfl rfl rfl rfl) rfl ?_
          refine rq (u := .bool false) rfl rfl rfl (p_pick rfl rfl) rfl ?_
          refine rq (u := .bool false) rfl rfl rfl (p_assign rfl) rfl ?_
          refine .done rfl ?_
          refine ac_ret ?_
          show Fin _ _ _ _ _ _ _
          exact fin_ret (Nat.le_of_ble_eq_true rfl) rfl (by obtain rfl := Option.some.inj h; rfl)
      · replace h := cond_f hc29 h
        refine ac_seq ?_
        refine ac_region rfl ?_
        refine rq (u := .bool (e.Kind == 2)) rfl rfl rfl (p_eql rfl rfl rfl) rfl ?_
        refine rq (u := .bool (e.Kind == 2)) rfl rfl rfl (p_assign rfl) rfl ?_
        refine .done rfl ?_
        refine ac_cond rfl rfl (fun hc28 => ?_) (fun hc28 => ?_)
        · replace h := cond_t hc28 h
          refine ac_region rfl ?_
          refine rq (u := .int .i64 (e.Of.length : Int)) rfl rfl rfl (p_move rfl) rfl ?_
          refine rq (u := .int .i64 (min (e.Of.length : Int) 2)) rfl rfl rfl (p_min rfl rfl rfl) rfl ?_
          refine rq (u := .int .i64 1) rfl rfl rfl (p_assign rfl) rfl ?_
          refine rq (u := .int .i64 (min (e.Of.length : Int) 2)) rfl rfl rfl (p_assign rfl) rfl ?_
          refine .done rfl ?_
          refine ac_seq ?_
          refine ac_seq ?_
          refine ac_region rfl ?_
          refine rq (u := .agg (GExpr.cells e)) rfl rfl rfl (p_load_ptr ti_33 nofun rfl rfl (.head _) (Nat.le_of_ble_eq_true rfl)) rfl ?_
          obtain ⟨v4, hv4, h⟩ := bnd_some h
          refine rq (u := .bool v4) rfl rfl rfl (p_pfnL en_28 (tree_bare_fn k e v4 hv4) rfl rfl (TVles.refl _)) rfl ?_
          refine rq (u := .bool (!v4)) rfl rfl rfl (p_not rfl rfl) rfl ?_
          refine rq (u := .bool (!v4)) rfl rfl rfl (p_move rfl) rfl ?_
          refine rcase 32 rfl (fun hc5 => ?_) (fun hc5 => ?_)
          · replace h := cond_t hc5 h
            refine rskip rfl (guard_at rfl rfl rfl rfl rfl) rfl ?_
            refine rskip rfl (guard_at rfl rfl rfl rfl rfl) rfl ?_
            refine rskip rfl (guard_at rfl rfl rfl rfl rfl) rfl ?_
            refine rq (u := .bool true) rfl rfl rfl (p_pick rfl rfl) rfl ?_
            refine rq (u := .bool true) rfl rfl rfl (p_move rfl) rfl ?_
            refine rskip rfl (guard_at rfl rfl rfl rfl rfl) rfl ?_
            refine rskip rfl (guard_at rfl rfl rfl rfl rfl) rfl ?_
            refine rskip rfl (guard_at rfl rfl rfl rfl rfl) rfl ?_
            refine rskip rfl (guard_at rfl rfl rfl rfl rfl) rfl ?_
            refine rskip rfl (guard_un rfl rfl rfl rfl) rfl ?_
            refine rskip rfl (guard_un rfl rfl rfl rfl) rfl ?_
            refine rskip rfl (guard_at rfl rfl rfl rfl rfl) rfl ?_
            refine rq (u := .bool true) rfl rfl rfl (p_pick rfl rfl) rfl ?_
            refine .done rfl ?_
            refine ac_condT rfl rfl ?_
            refine ac_seq ?_
            refine ac_region rfl ?_
            refine rq (u := .bool false) rfl rfl rfl (p_assign rfl) rfl ?_
            refine .done rfl ?_
            refine ac_ret ?_
            show Fin _ _ _ _ _ _ _
            exact fin_ret (Nat.le_of_ble_eq_true rfl) rfl (by obtain rfl := Option.some.inj h; rfl)
          · replace h := cond_f hc5 h
            refine rq (u := .int .i64 (min (e.Of.length : Int) 2)) rfl (guard_at rfl rfl rfl rfl rfl) rfl (p_move rfl) rfl ?_
            refine rq (u := .int .i64 1) rfl (guard_at rfl rfl rfl rfl rfl) rfl (p_move rfl) rfl ?_
            refine rq (u := .bool (decide ((min (e.Of.length : Int) 2) < 1))) rfl (guard_at rfl rfl rfl rfl rfl) rfl (p_lss rfl rfl rfl) rfl ?_
            refine rq (u := .bool (decide ((min (e.Of.length : Int) 2) < 1))) rfl rfl rfl (p_pick rfl rfl) rfl ?_
            refine rq (u := .bool (decide ((min (e.Of.length : Int) 2) < 1))) rfl rfl rfl (p_move rfl) rfl ?_
            refine rcase 37 rfl (fun hc6 => ?_) (fun hc6 => ?_)
            · replace h := cond_t hc6 h
              refine rskip rfl (guard_at rfl rfl rfl rfl rfl) rfl ?_
              refine rskip rfl (guard_at rfl rfl rfl rfl rfl) rfl ?_
              refine rskip rfl (guard_at rfl rfl rfl rfl rfl) rfl ?_
              refine rskip rfl (guard_at rfl rfl rfl rfl rfl) rfl ?_
              refine rskip rfl (guard_un rfl rfl rfl rfl) rfl ?_
              refine rskip rfl (guard_un rfl rfl rfl rfl) rfl ?_
              refine rskip rfl (guard_at rfl rfl rfl rfl rfl) rfl ?_
              refine rq (u := .bool true) rfl rfl rfl (p_pick rfl rfl) rfl ?_
              refine .done rfl ?_
              refine ac_condT rfl rfl ?_
              refine ac_seq ?_
              refine ac_region rfl ?_
              refine rq (u := .bool false) rfl rfl rfl (p_assign rfl) rfl ?_
              refine .done rfl ?_
              refine ac_ret ?_
              show Fin _ _ _ _ _ _ _
              exact fin_ret (Nat.le_of_ble_eq_true rfl) rfl (by obtain rfl := Option.some.inj h; rfl)
            · replace h := cond_f hc6 h
              refine rq (u := .ptr b1 0) rfl (guard_at rfl rfl rfl rfl rfl) rfl (p_field_ptr fl_33_0 rfl rfl) rfl ?_
              refine rq (u := .int .i64 e.Kind) rfl (guard_at rfl rfl rfl rfl rfl) rfl (p_load_ptr ti_3 (fun _ => rfl) rfl rfl (.head _) (Nat.le_of_ble_eq_true rfl)) rfl ?_
              refine rq (u := .bool (e.Kind == 2)) rfl (guard_at rfl rfl rfl rfl rfl) rfl (p_eql rfl rfl rfl) rfl ?_
              refine rq (u := .bool (e.Kind == 2)) rfl (guard_at rfl rfl rfl rfl rfl) rfl (p_move rfl) rfl ?_
              refine rcase 41 rfl (fun hc7 => ?_) (fun hc7 => ?_)
              · replace h := cond_t hc7 h
                refine rq (u := .int .i64 (min (e.Of.length : Int) 2)) rfl (guard_at rfl rfl rfl rfl rfl) rfl (p_move rfl) rfl ?_
                refine rq (u := .bool (decide (1 < (min (e.Of.length : Int) 2)))) rfl (guard_at rfl rfl rfl rfl rfl) rfl (p_gtr rfl rfl rfl) rfl ?_
                refine rq (u := .bool (decide (1 < (min (e.Of.length : Int) 2)))) rfl (guard_at rfl rfl rfl rfl rfl) rfl (p_pick rfl rfl) rfl ?_
                refine rq (u := .bool (decide (1 < (min (e.Of.length : Int) 2)))) rfl rfl rfl (p_pick rfl rfl) rfl ?_
                refine .done rfl ?_
                refine ac_cond rfl rfl (fun hc9 => ?_) (fun hc9 => ?_)
                · replace h := cond_t hc9 h
                  refine ac_seq ?_
                  refine ac_region rfl ?_
                  refine rq (u := .bool false) rfl rfl rfl (p_assign rfl) rfl ?_
                  refine .done rfl ?_
                  refine ac_ret ?_
                  show Fin _ _ _ _ _ _ _
                  exact fin_ret (Nat.le_of_ble_eq_true rfl) rfl (by obtain rfl := Option.some.inj h; rfl)
                · replace h := cond_f hc9 h
                  refine ac_skip ?_
                  refine ac_seq ?_
                  refine ac_region rfl ?_
                  refine rq (u := .ptr b1 5) rfl rfl rfl (p_field_ptr fl_33_5 rfl rfl) rfl ?_
                  refine rq (u := .slice .ro 6 (e.Of.map GExpr.enc)) rfl rfl rfl (p_load_ptr ti_28 (fun _ => rfl) rfl rfl (.head _) (Nat.le_of_ble_eq_true rfl)) rfl ?_
                  obtain ⟨v8, hv8, h⟩ := bnd_some h
                  refine rq (u := .bool v8) rfl rfl rfl (p_callL en_29 (slices_ContainsFunc_Expr_fn k e.Of (tree_Right_1 (tree_Right k) k) 30 [] [] [] en_30 (fun a1 r' h' => PFn.at (tree_Right_1_fn (tree_Right k) ih_tree_Right k a1 r' h') []) v8 hv8) rfl rfl (TVles.refl _) (List.Perm.refl _)) rfl ?_
                  refine rq (u := .bool (!v8)) rfl rfl rfl (p_not rfl rfl) rfl ?_
                  refine rq (u := .bool (!v8)) rfl rfl rfl (p_assign rfl) rfl ?_
                  refine .done rfl ?_
                  refine ac_ret ?_
                  show Fin _ _ _ _ _ _ _
                  exact fin_ret (Nat.le_of_ble_eq_true rfl) rfl (by obtain rfl := Option.some.inj h; rfl)
              · replace h := cond_f hc7 h
                refine rskip rfl (guard_at rfl rfl rfl rfl rfl) rfl ?_
                refine rskip rfl (guard_at rfl rfl rfl rfl rfl) rfl ?_
                refine rq (u := .bool false) rfl (guard_at rfl rfl rfl rfl rfl) rfl (p_pick rfl rfl) rfl ?_
                refine rq (u := .bool false) rfl rfl rfl (p_pick rfl rfl) rfl ?_
                refine .done rfl ?_
                refine ac_condF rfl rfl ?_
                refine ac_skip ?_
                refine ac_seq ?_
                refine ac_region rfl ?_
                refine rq (u := .ptr b1 5) rfl rfl rfl (p_field_ptr fl_33_5 rfl rfl) rfl ?_
                refine rq (u := .slice .ro 6 (e.Of.map GExpr.enc)) rfl rfl rfl (p_load_ptr ti_28 (fun _ => rfl) rfl rfl (.head _) (Nat.le_of_ble_eq_true rfl)) rfl ?_
                obtain ⟨v10, hv10, h⟩ := bnd_some h
                refine rq (u := .bool v10) rfl rfl rfl (p_callL en_29 (slices_ContainsFunc_Expr_fn k e.Of (tree_Right_1 (tree_Right k) k) 30 [] [] [] en_30 (fun a1 r' h' => PFn.at (tree_Right_1_fn (tree_Right k) ih_tree_Right k a1 r' h') []) v10 hv10) rfl rfl (TVles.refl _) (List.Perm.refl _)) rfl ?_
                refine rq (u := .bool (!v10)) rfl rfl rfl (p_not rfl rfl) rfl ?_
                refine rq (u := .bool (!v10)) rfl rfl rfl (p_assign rfl) rfl ?_
                refine .done rfl ?_
                refine ac_ret ?_
                show Fin _ _ _ _ _ _ _
                exact fin_ret (Nat.le_of_ble_eq_true rfl) rfl (by obtain rfl := Option.some.inj h; rfl)
        · replace h := cond_f hc28 h
          refine ac_seq ?_
          refine ac_seq ?_
          refine ac_region rfl ?_
          refine rq (u := .bool (e.Kind == 3)) rfl rfl rfl (p_eql rfl rfl rfl) rfl ?_
          refine rq (u := .bool (e.Kind == 3)) rfl rfl rfl (p_assign rfl) rfl ?_
          refine .done rfl ?_
          refine ac_cond rfl rfl (fun hc27 => ?_) (fun hc27 => ?_)
          · replace h := cond_t hc27 h
            refine ac_skip ?_
            refine ac_cond rfl rfl (fun hc18 => ?_) (fun hc18 => ?_)
            · replace h := cond_t hc18 h
              refine ac_skip ?_
              refine ac_seq ?_
              refine ac_seq ?_
              refine ac_region rfl ?_
              refine rq (u := .agg (GExpr.cells e)) rfl rfl rfl (p_load_ptr ti_33 nofun rfl rfl (.head _) (Nat.le_of_ble_eq_true rfl)) rfl ?_
              obtain ⟨v11, hv11, h⟩ := bnd_some h
              refine rq (u := .bool v11) rfl rfl rfl (p_pfnL en_28 (tree_bare_fn k e v11 hv11) rfl rfl (TVles.refl _)) rfl ?_
              refine rq (u := .bool (!v11)) rfl rfl rfl (p_not rfl rfl) rfl ?_
              refine rq (u := .bool (!v11)) rfl rfl rfl (p_move rfl) rfl ?_
              refine rcase 32 rfl (fun hc12 => ?_) (fun hc12 => ?_)
              · replace h := cond_t hc12 h
                refine rskip rfl (guard_at rfl rfl rfl rfl rfl) rfl ?_
                refine rskip rfl (guard_at rfl rfl rfl rfl rfl) rfl ?_
                refine rskip rfl (guard_at rfl rfl rfl rfl rfl) rfl ?_
                refine rq (u := .bool true) rfl rfl rfl (p_pick rfl rfl) rfl ?_
                refine rq (u := .bool true) rfl rfl rfl (p_move rfl) rfl ?_
                refine rskip rfl (guard_at rfl rfl rfl rfl rfl) rfl ?_
                refine rskip rfl (guard_at rfl rfl rfl rfl rfl) rfl ?_
                refine rskip rfl (guard_at rfl rfl rfl rfl rfl) rfl ?_
                refine rskip rfl (guard_at rfl rfl rfl rfl rfl) rfl ?_
                refine rskip rfl (guard_un rfl rfl rfl rfl) rfl ?_
                refine rskip rfl (guard_un rfl rfl rfl rfl) rfl ?_
                refine rskip rfl (guard_at rfl rfl rfl rfl rfl) rfl ?_
                refine rq (u := .bool true) rfl rfl rfl (p_pick rfl rfl) rfl ?_
                refine .done rfl ?_
                refine ac_condT rfl rfl ?_
                refine ac_seq ?_
                refine ac_region rfl ?_
                refine rq (u := .bool false) rfl rfl rfl (p_assign rfl) rfl ?_
                refine .done rfl ?_
                refine ac_ret ?_
                show Fin _ _ _ _ _ _ _
                exact fin_ret (Nat.le_of_ble_eq_true rfl) rfl (by obtain rfl := Option.some.inj h; rfl)
              · replace h := cond_f hc12 h
                refine rq (u := .int .i64 (e.Of.length : Int)) rfl (guard_at rfl rfl rfl rfl rfl) rfl (p_move rfl) rfl ?_
                refine rq (u := .int .i64 2) rfl (guard_at rfl rfl rfl rfl rfl) rfl (p_move rfl) rfl ?_
                refine rq (u := .bool (decide ((e.Of.length : Int) < 2))) rfl (guard_at rfl rfl rfl rfl rfl) rfl (p_lss rfl rfl rfl) rfl ?_
                refine rq (u := .bool (decide ((e.Of.length : Int) < 2))) rfl rfl rfl (p_pick rfl rfl) rfl ?_
                refine rq (u := .bool (decide ((e.Of.length : Int) < 2))) rfl rfl rfl (p_move rfl) rfl ?_
                refine rcase 37 rfl (fun hc13 => ?_) (fun hc13 => ?_)
                · replace h := cond_t hc13 h
                  refine rskip rfl (guard_at rfl rfl rfl rfl rfl) rfl ?_
                  refine rskip rfl (guard_at rfl rfl rfl rfl rfl) rfl ?_
                  refine rskip rfl (guard_at rfl rfl rfl rfl rfl) rfl ?_
                  refine rskip rfl (guard_at rfl rfl rfl rfl rfl) rfl ?_
                  refine rskip rfl (guard_un rfl rfl rfl rfl) rfl ?_
                  refine rskip rfl (guard_un rfl rfl rfl rfl) rfl ?_
                  refine rskip rfl (guard_at rfl rfl rfl rfl rfl) rfl ?_
                  refine rq (u := .bool true) rfl rfl rfl (p_pick rfl rfl) rfl ?_
                  refine .done rfl ?_
                  refine ac_condT rfl rfl ?_
                  refine ac_seq ?_
                  refine ac_region rfl ?_
                  refine rq (u := .bool false) rfl rfl rfl (p_assign rfl) rfl ?_
                  refine .done rfl ?_
                  refine ac_ret ?_
                  show Fin _ _ _ _ _ _ _
                  exact fin_ret (Nat.le_of_ble_eq_true rfl) rfl (by obtain rfl := Option.some.inj h; rfl)
                · replace h := cond_f hc13 h
                  refine rq (u := .ptr b1 0) rfl (guard_at rfl rfl rfl rfl rfl) rfl (p_field_ptr fl_33_0 rfl rfl) rfl ?_
                  refine rq (u := .int .i64 e.Kind) rfl (guard_at rfl rfl rfl rfl rfl) rfl (p_load_ptr ti_3 (fun _ => rfl) rfl rfl (.head _) (Nat.le_of_ble_eq_true rfl)) rfl ?_
                  refine rq (u := .bool (e.Kind == 2)) rfl (guard_at rfl rfl rfl rfl rfl) rfl (p_eql rfl rfl rfl) rfl ?_
                  refine rq (u := .bool (e.Kind == 2)) rfl (guard_at rfl rfl rfl rfl rfl) rfl (p_move rfl) rfl ?_
                  refine rcase 41 rfl (fun hc14 => ?_) (fun hc14 => ?_)
                  · replace h := cond_t hc14 h
                    refine rq (u := .int .i64 (e.Of.length : Int)) rfl (guard_at rfl rfl rfl rfl rfl) rfl (p_move rfl) rfl ?_
                    refine rq (u := .bool (decide (1 < (e.Of.length : Int)))) rfl (guard_at rfl rfl rfl rfl rfl) rfl (p_gtr rfl rfl rfl) rfl ?_
                    refine rq (u := .bool (decide (1 < (e.Of.length : Int)))) rfl (guard_at rfl rfl rfl rfl rfl) rfl (p_pick rfl rfl) rfl ?_
                    refine rq (u := .bool (decide (1 < (e.Of.length : Int)))) rfl rfl rfl (p_pick rfl rfl) rfl ?_
                    refine .done rfl ?_
                    refine ac_cond rfl rfl (fun hc16 => ?_) (fun hc16 => ?_)
                    · replace h := cond_t hc16 h
                      refine ac_seq ?_
                      refine ac_region rfl ?_
                      refine rq (u := .bool false) rfl rfl rfl (p_assign rfl) rfl ?_
                      refine .done rfl ?_
                      refine ac_ret ?_
                      show Fin _ _ _ _ _ _ _
                      exact fin_ret (Nat.le_of_ble_eq_true rfl) rfl (by obtain rfl := Option.some.inj h; rfl)
                    · replace h := cond_f hc16 h
                      refine ac_skip ?_
                      refine ac_seq ?_
                      refine ac_region rfl ?_
                      refine rq (u := .ptr b1 5) rfl rfl rfl (p_field_ptr fl_33_5 rfl rfl) rfl ?_
                      refine rq (u := .slice .ro 6 (e.Of.map GExpr.enc)) rfl rfl rfl (p_load_ptr ti_28 (fun _ => rfl) rfl rfl (.head _) (Nat.le_of_ble_eq_true rfl)) rfl ?_
                      obtain ⟨v15, hv15, h⟩ := bnd_some h
                      refine rq (u := .bool v15) rfl rfl rfl (p_callL en_29 (slices_ContainsFunc_Expr_fn k e.Of (tree_Right_1 (tree_Right k) k) 30 [] [] [] en_30 (fun a1 r' h' => PFn.at (tree_Right_1_fn (tree_Right k) ih_tree_Right k a1 r' h') []) v15 hv15) rfl rfl (TVles.refl _) (List.Perm.refl _)) rfl ?_
                      refine rq (u := .bool (!v15)) rfl rfl rfl (p_not rfl rfl) rfl ?_
                      refine rq (u := .bool (!v15)) rfl rfl rfl (p_assign rfl) rfl ?_
                      refine .done rfl ?_
                      refine ac_ret ?_
                      show Fin _ _ _ _ _ _ _
                      exact fin_ret (Nat.le_of_ble_eq_true rfl) rfl (by obtain rfl := Option.some.inj h; rfl)
                  · replace h := cond_f hc14 h
                    refine rskip rfl (guard_at rfl rfl rfl rfl rfl) rfl ?_
                    refine rskip rfl (guard_at rfl rfl rfl rfl rfl) rfl ?_
                    refine rq (u := .bool false) rfl (guard_at rfl rfl rfl rfl rfl) rfl (p_pick rfl rfl) rfl ?_
                    refine rq (u := .bool false) rfl rfl rfl (p_pick rfl rfl) rfl ?_
                    refine .done rfl ?_
                    refine ac_condF rfl rfl ?_
                    refine ac_skip ?_
                    refine ac_seq ?_
                    refine ac_region rfl ?_
                    refine rq (u := .ptr b1 5) rfl rfl rfl (p_field_ptr fl_33_5 rfl rfl) rfl ?_
                    refine rq (u := .slice .ro 6 (e.Of.map GExpr.enc)) rfl rfl rfl (p_load_ptr ti_28 (fun _ => rfl) rfl rfl (.head _) (Nat.le_of_ble_eq_true rfl)) rfl ?_
                    obtain ⟨v17, hv17, h⟩ := bnd_some h
                    refine rq (u := .bool v17) rfl rfl rfl (p_callL en_29 (slices_ContainsFunc_Expr_fn k e.Of (tree_Right_1 (tree_Right k) k) 30 [] [] [] en_30 (fun a1 r' h' => PFn.at (tree_Right_1_fn (tree_Right k) ih_tree_Right k a1 r' h') []) v17 hv17) rfl rfl (TVles.refl _) (List.Perm.refl _)) rfl ?_
                    refine rq (u := .bool (!v17)) rfl rfl rfl (p_not rfl rfl) rfl ?_
                    refine rq (u := .bool (!v17)) rfl rfl rfl (p_assign rfl) rfl ?_
                    refine .done rfl ?_
                    refine ac_ret ?_
                    show Fin _ _ _ _ _ _ _
                    exact fin_ret (Nat.le_of_ble_eq_true rfl) rfl (by obtain rfl := Option.some.inj h; rfl)
            · replace h := cond_f hc18 h
              refine ac_seq ?_
              refine ac_region rfl ?_
              refine rq (u := .bool false) rfl rfl rfl (p_assign rfl) rfl ?_
              refine .done rfl ?_
              refine ac_ret ?_
              show Fin _ _ _ _ _ _ _
              exact fin_ret (Nat.le_of_ble_eq_true rfl) rfl (by obtain rfl := Option.some.inj h; rfl)
          · replace h := cond_f hc27 h
            refine ac_region rfl ?_
            refine rq (u := .bool (e.Kind == 4)) rfl rfl rfl (p_eql rfl rfl rfl) rfl ?_
            refine rq (u := .bool (e.Kind == 4)) rfl rfl rfl (p_assign rfl) rfl ?_
            refine .done rfl ?_
            refine ac_cond rfl rfl (fun hc26 => ?_) (fun hc26 => ?_)
            · replace h := cond_t hc26 h
              refine ac_skip ?_
              refine ac_seq ?_
              refine ac_seq ?_
              refine ac_region rfl ?_
              refine rq (u := .agg (GExpr.cells e)) rfl rfl rfl (p_load_ptr ti_33 nofun rfl rfl (.head _) (Nat.le_of_ble_eq_true rfl)) rfl ?_
              obtain ⟨v19, hv19, h⟩ := bnd_some h
              refine rq (u := .bool v19) rfl rfl rfl (p_pfnL en_28 (tree_bare_fn k e v19 hv19) rfl rfl (TVles.refl _)) rfl ?_
              refine rq (u := .bool (!v19)) rfl rfl rfl (p_not rfl rfl) rfl ?_
              refine rq (u := .bool (!v19)) rfl rfl rfl (p_move rfl) rfl ?_
              refine rcase 32 rfl (fun hc20 => ?_) (fun hc20 => ?_)
              · replace h := cond_t hc20 h
                refine rskip rfl (guard_at rfl rfl rfl rfl rfl) rfl ?_
                refine rskip rfl (guard_at rfl rfl rfl rfl rfl) rfl ?_
                refine rskip rfl (guard_at rfl rfl rfl rfl rfl) rfl ?_
                refine rq (u := .bool true) rfl rfl rfl (p_pick rfl rfl) rfl ?_
                refine rq (u := .bool true) rfl rfl rfl (p_move rfl) rfl ?_
                refine rskip rfl (guard_at rfl rfl rfl rfl rfl) rfl ?_
                refine rskip rfl (guard_at rfl rfl rfl rfl rfl) rfl ?_
                refine rskip rfl (guard_at rfl rfl rfl rfl rfl) rfl ?_
                refine rskip rfl (guard_at rfl rfl rfl rfl rfl) rfl ?_
                refine rskip rfl (guard_un rfl rfl rfl rfl) rfl ?_
                refine rskip rfl (guard_un rfl rfl rfl rfl) rfl ?_
                refine rskip rfl (guard_at rfl rfl rfl rfl rfl) rfl ?_
                refine rq (u := .bool true) rfl rfl rfl (p_pick rfl rfl) rfl ?_
                refine .done rfl ?_
                refine ac_condT rfl rfl ?_
                refine ac_seq ?_
                refine ac_region rfl ?_
                refine rq (u := .bool false) rfl rfl rfl (p_assign rfl) rfl ?_
                refine .done rfl ?_
                refine ac_ret ?_
                show Fin _ _ _ _ _ _ _
                exact fin_ret (Nat.le_of_ble_eq_true rfl) rfl (by obtain rfl := Option.some.inj h; rfl)
              · replace h := cond_f hc20 h
                refine rq (u := .int .i64 (e.Of.length : Int)) rfl (guard_at rfl rfl rfl rfl rfl) rfl (p_move rfl) rfl ?_
                refine rq (u := .int .i64 2) rfl (guard_at rfl rfl rfl rfl rfl) rfl (p_move rfl) rfl ?_
                refine rq (u := .bool (decide ((e.Of.length : Int) < 2))) rfl (guard_at rfl rfl rfl rfl rfl) rfl (p_lss rfl rfl rfl) rfl ?_
                refine rq (u := .bool (decide ((e.Of.length : Int) < 2))) rfl rfl rfl (p_pick rfl rfl) rfl ?_
                refine rq (u := .bool (decide ((e.Of.length : Int) < 2))) rfl rfl rfl (p_move rfl) rfl ?_
                refine rcase 37 rfl (fun hc21 => ?_) (fun hc21 => ?_)
                · replace h := cond_t hc21 h
                  refine rskip rfl (guard_at rfl rfl rfl rfl rfl) rfl ?_
                  refine rskip rfl (guard_at rfl rfl rfl rfl rfl) rfl ?_
                  refine rskip rfl (guard_at rfl rfl rfl rfl rfl) rfl ?_
                  refine rskip rfl (guard_at rfl rfl rfl rfl rfl) rfl ?_
                  refine rskip rfl (guard_un rfl rfl rfl rfl) rfl ?_
                  refine rskip rfl (guard_un rfl rfl rfl rfl) rfl ?_
                  refine rskip rfl (guard_at rfl rfl rfl rfl rfl) rfl ?_
                  refine rq (u := .bool true) rfl rfl rfl (p_pick rfl rfl) rfl ?_
                  refine .done rfl ?_
                  refine ac_condT rfl rfl ?_
                  refine ac_seq ?_
                  refine ac_region rfl ?_
                  refine rq (u := .bool false) rfl rfl rfl (p_assign rfl) rfl ?_
                  refine .done rfl ?_
                  refine ac_ret ?_
                  show Fin _ _ _ _ _ _ _
                  exact fin_ret (Nat.le_of_ble_eq_true rfl) rfl (by obtain rfl := Option.some.inj h; rfl)
                · replace h := cond_f hc21 h
                  refine rq (u := .ptr b1 0) rfl (guard_at rfl rfl rfl rfl rfl) rfl (p_field_ptr fl_33_0 rfl rfl) rfl ?_
                  refine rq (u := .int .i64 e.Kind) rfl (guard_at rfl rfl rfl rfl rfl) rfl (p_load_ptr ti_3 (fun _ => rfl) rfl rfl (.head _) (Nat.le_of_ble_eq_true rfl)) rfl ?_
                  refine rq (u := .bool (e.Kind == 2)) rfl (guard_at rfl rfl rfl rfl rfl) rfl (p_eql rfl rfl rfl) rfl ?_
                  refine rq (u := .bool (e.Kind == 2)) rfl (guard_at rfl rfl rfl rfl rfl) rfl (p_move rfl) rfl ?_
                  refine rcase 41 rfl (fun hc22 => ?_) (fun hc22 => ?_)
                  · replace h := cond_t hc22 h
                    refine rq (u := .int .i64 (e.Of.length : Int)) rfl (guard_at rfl rfl rfl rfl rfl) rfl (p_move rfl) rfl ?_
                    refine rq (u := .bool (decide (1 < (e.Of.length : Int)))) rfl (guard_at rfl rfl rfl rfl rfl) rfl (p_gtr rfl rfl rfl) rfl ?_
                    refine rq (u := .bool (decide (1 < (e.Of.length : Int)))) rfl (guard_at rfl rfl rfl rfl rfl) rfl (p_pick rfl rfl) rfl ?_
                    refine rq (u := .bool (decide (1 < (e.Of.length : Int)))) rfl rfl rfl (p_pick rfl rfl) rfl ?_
                    refine .done rfl ?_
                    refine ac_cond rfl rfl (fun hc24 => ?_) (fun hc24 => ?_)
                    · replace h := cond_t hc24 h
                      refine ac_seq ?_
                      refine ac_region rfl ?_
                      refine rq (u := .bool false) rfl rfl rfl (p_assign rfl) rfl ?_
                      refine .done rfl ?_
                      refine ac_ret ?_
                      show Fin _ _ _ _ _ _ _
                      exact fin_ret (Nat.le_of_ble_eq_true rfl) rfl (by obtain rfl := Option.some.inj h; rfl)
                    · replace h := cond_f hc24 h
                      refine ac_skip ?_
                      refine ac_seq ?_
                      refine ac_region rfl ?_
                      refine rq (u := .ptr b1 5) rfl rfl rfl (p_field_ptr fl_33_5 rfl rfl) rfl ?_
                      refine rq (u := .slice .ro 6 (e.Of.map GExpr.enc)) rfl rfl rfl (p_load_ptr ti_28 (fun _ => rfl) rfl rfl (.head _) (Nat.le_of_ble_eq_true rfl)) rfl ?_
                      obtain ⟨v23, hv23, h⟩ := bnd_some h
                      refine rq (u := .bool v23) rfl rfl rfl (p_callL en_29 (slices_ContainsFunc_Expr_fn k e.Of (tree_Right_1 (tree_Right k) k) 30 [] [] [] en_30 (fun a1 r' h' => PFn.at (tree_Right_1_fn (tree_Right k) ih_tree_Right k a1 r' h') []) v23 hv23) rfl rfl (TVles.refl _) (List.Perm.refl _)) rfl ?_
                      refine rq (u := .bool (!v23)) rfl rfl rfl (p_not rfl rfl) rfl ?_
                      refine rq (u := .bool (!v23)) rfl rfl rfl (p_assign rfl) rfl ?_
                      refine .done rfl ?_
                      refine ac_ret ?_
                      show Fin _ _ _ _ _ _ _
                      exact fin_ret (Nat.le_of_ble_eq_true rfl) rfl (by obtain rfl := Option.some.inj h; rfl)
                  · replace h := cond_f hc22 h
                    refine rskip rfl (guard_at rfl rfl rfl rfl rfl) rfl ?_
                    refine rskip rfl (guard_at rfl rfl rfl rfl rfl) rfl ?_
                    refine rq (u := .bool false) rfl (guard_at rfl rfl rfl rfl rfl) rfl (p_pick rfl rfl) rfl ?_
                    refine rq (u := .bool false) rfl rfl rfl (p_pick rfl rfl) rfl ?_
                    refine .done rfl ?_
                    refine ac_condF rfl rfl ?_
                    refine ac_skip ?_
                    refine ac_seq ?_
                    refine ac_region rfl ?_
                    refine rq (u := .ptr b1 5) rfl rfl rfl (p_field_ptr fl_33_5 rfl rfl) rfl ?_
                    refine rq (u := .slice .ro 6 (e.Of.map GExpr.enc)) rfl rfl rfl (p_load_ptr ti_28 (fun _ => rfl) rfl rfl (.head _) (Nat.le_of_ble_eq_true rfl)) rfl ?_
                    obtain ⟨v25, hv25, h⟩ := bnd_some h
                    refine rq (u := .bool v25) rfl rfl rfl (p_callL en_29 (slices_ContainsFunc_Expr_fn k e.Of (tree_Right_1 (tree_Right k) k) 30 [] [] [] en_30 (fun a1 r' h' => PFn.at (tree_Right_1_fn (tree_Right k) ih_tree_Right k a1 r' h') []) v25 hv25) rfl rfl (TVles.refl _) (List.Perm.refl _)) rfl ?_
                    refine rq (u := .bool (!v25)) rfl rfl rfl (p_not rfl rfl) rfl ?_
                    refine rq (u := .bool (!v25)) rfl rfl rfl (p_assign rfl) rfl ?_
                    refine .done rfl ?_
                    refine ac_ret ?_
                    show Fin _ _ _ _ _ _ _
                    exact fin_ret (Nat.le_of_ble_eq_true rfl) rfl (by obtain rfl := Option.some.inj h; rfl)
            · replace h := cond_f hc26 h
              refine ac_seq ?_
              refine ac_region rfl ?_
              refine rq (u := .bool false) rfl rfl rfl (p_assign rfl) rfl ?_
              refine .done rfl ?_
              refine ac_ret ?_
              show Fin _ _ _ _ _ _ _
              exact fin_ret (Nat.le_of_ble_eq_true rfl) rfl (by obtain rfl := Option.some.inj h; rfl)

set_option maxRecDepth 20000 in
set_option maxHeartbeats 4000000 in
theorem tree_writer_number_fn : ∀ k : Nat, ∀ (w_0 : ByteArray) (bp_w_0 : Nat) (re_w_0 : Res) (hw_w_0 : WB 51 5 bp_w_0 w_0 re_w_0) (n : Int) (r : ByteArray) (h : tree_writer_number k w_0 n = some r), AFn Tryd.prog 37 [.ptr bp_w_0 0, .int .i64 n] re_w_0 fun y s' => ∃ z : Res, WB 51 5 bp_w_0 r z ∧ y = .ret (.tuple []) ∧ s' = z := by
  intro k
  intro w_0 bp_w_0 re_w_0 hw_w_0 n r h
  rw [tree_writer_number] at h
  refine AFn.shedX ?_
  refine AFn.of Tryd.func37 rfl (Nat.le_of_ble_eq_true rfl) ?_
  refine ac_seq ?_
  refine ac_region rfl ?_
  refine rq (u := .int .i64 n) rfl rfl rfl (p_move rfl) rfl ?_
  obtain ⟨v1, hv1, h⟩ := bnd_some h
  refine rq (u := .tuple [.str v1.1, .bool v1.2]) rfl rfl rfl (p_pfnL en_57 (guard_Put_fn k n v1 hv1) rfl rfl (TVles.refl _)) rfl ?_
  refine rq (u := .tuple [.str v1.1, .bool v1.2]) rfl rfl rfl (p_move rfl) rfl ?_
  refine rq (u := .str v1.1) rfl rfl rfl (p_extract rfl rfl rfl) rfl ?_
  refine rq (u := .bool v1.2) rfl rfl rfl (p_extract rfl rfl rfl) rfl ?_
  refine rq (u := .str v1.1) rfl rfl rfl (p_assign rfl) rfl ?_
  refine rq (u := .bool v1.2) rfl rfl rfl (p_assign rfl) rfl ?_
  refine .done rfl ?_
  refine ac_region rfl ?_
  refine rq (u := .ptr bp_w_0 0) rfl rfl rfl (p_move rfl) rfl ?_
  refine rq (u := .ptr bp_w_0 0) rfl rfl rfl (p_nilCheck_ptr rfl rfl) rfl ?_
  refine rq (u := .ptr bp_w_0 0) rfl rfl rfl (p_field_ptr fl_51_0 rfl rfl) rfl ?_
  refine rq (u := .str v1.1) rfl rfl rfl (p_move rfl) rfl ?_
  obtain ⟨v3, hv3, h⟩ := bnd_some h
  refine ra rfl rfl (a_callY en_35 (ws_call bp_w_0 w_0 v1.1 v3 hv3 re_w_0 hw_w_0) rfl rfl (TVles.refl _) (fun rew2 => rew2) [] [] (fun _ => by simp) rfl) ?_
  rintro E' s' ⟨rew2, hw2, rfl, hs'⟩
  rw [hs']
  show AReg _ _ _ _ _ _ ((15, .tuple [.int .i64 (v1.1.size : Int), .nili]) :: _) rew2
  refine .done rfl ?_
  show Fin _ _ _ _ _ _ _
  exact fin_end0 ⟨rew2, (by obtain rfl := Option.some.inj h; exact hw2), (by obtain rfl := Option.some.inj h; rfl), (ResLe.refl _)⟩

set_option maxRecDepth 20000 in
set_option maxHeartbeats 4000000 in
theorem tree_writer_atom_fn : ∀ k : Nat, ∀ (w_0 : ByteArray) (bp_w_0 : Nat) (re_w_0 : Res) (hw_w_0 : WB 51 5 bp_w_0 w_0 re_w_0) (e : GExpr) (r : ByteArray) (h : tree_writer_atom k w_0 e = some r), AFn Tryd.prog 54 [.ptr bp_w_0 0, .agg (GExpr.cells e)] re_w_0 fun y s' => ∃ z : Res, WB 51 5 bp_w_0 r z ∧ y = .ret (.tuple []) ∧ s' = z := by
  intro k
  intro w_0 bp_w_0 re_w_0 hw_w_0 e r h
  rw [tree_writer_atom] at h
  refine AFn.shedX ?_
  refine AFn.of Tryd.func54 rfl (Nat.le_of_ble_eq_true rfl) ?_
  refine ac_seq ?_
  refine ac_region rfl ?_
  refine rbox rfl rfl rfl rfl rfl fun b1 => ?_
  refine .done rfl ?_
  refine ac_seq ?_
  refine ac_seq ?_
  refine ac_region rfl ?_
  refine rq (u := .ptr b1 1) rfl rfl rfl (p_field_ptr fl_33_1 rfl rfl) rfl ?_
  refine rq (u := .int .i64 e.Field) rfl rfl rfl (p_load_ptr ti_3 (fun _ => rfl) rfl rfl (.head _) (Nat.le_of_ble_eq_true rfl)) rfl ?_
  refine rq (u := .bool (e.Field == 6)) rfl rfl rfl (p_eql rfl rfl rfl) rfl ?_
  refine .done rfl ?_
  refine ac_cond rfl rfl (fun hc37 => ?_) (fun hc37 => ?_)
  · replace h := cond_t hc37 h
    refine ac_seq ?_
    refine ac_region rfl ?_
    refine rq (u := .ptr b1 3) rfl rfl rfl (p_field_ptr fl_33_3 rfl rfl) rfl ?_
    refine rq (u := encF e.Low) rfl rfl rfl (p_load_ptr ti_31 (fun _ => rfl) rfl rfl (.head _) (Nat.le_of_ble_eq_true rfl)) rfl ?_
    obtain ⟨v1, hv1, h⟩ := bnd_some h
    refine rq (u := .tuple [.str v1.1, .bool v1.2]) rfl rfl rfl (p_pfnL en_46 (real_Text_fn k e.Low v1 hv1) rfl rfl (TVles.refl _)) rfl ?_
    refine rq (u := .tuple [.str v1.1, .bool v1.2]) rfl rfl rfl (p_move rfl) rfl ?_
    refine rq (u := .str v1.1) rfl rfl rfl (p_extract rfl rfl rfl) rfl ?_
    refine rq (u := .bool v1.2) rfl rfl rfl (p_extract rfl rfl rfl) rfl ?_
    refine rq (u := .str v1.1) rfl rfl rfl (p_assign rfl) rfl ?_
    refine rq (u := .bool v1.2) rfl rfl rfl (p_assign rfl) rfl ?_
    refine .done rfl ?_
    refine ac_seq ?_
    refine ac_region rfl ?_
    refine rq (u := .ptr b1 4) rfl rfl rfl (p_field_ptr fl_33_4 rfl rfl) rfl ?_
    refine rq (u := encF e.High) rfl rfl rfl (p_load_ptr ti_31 (fun _ => rfl) rfl rfl (.head _) (Nat.le_of_ble_eq_true rfl)) rfl ?_
    obtain ⟨v2, hv2, h⟩ := bnd_some h
    refine rq (u := .tuple [.str v2.1, .bool v2.2]) rfl rfl rfl (p_pfnL en_46 (real_Text_fn k e.High v2 hv2) rfl rfl (TVles.refl _)) rfl ?_
    refine rq (u := .tuple [.str v2.1, .bool v2.2]) rfl rfl rfl (p_move rfl) rfl ?_
    refine rq (u := .str v2.1) rfl rfl rfl (p_extract rfl rfl rfl) rfl ?_
    refine rq (u := .bool v2.2) rfl rfl rfl (p_extract rfl rfl rfl) rfl ?_
    refine rq (u := .str v2.1) rfl rfl rfl (p_assign rfl) rfl ?_
    refine rq (u := .bool v2.2) rfl rfl rfl (p_assign rfl) rfl ?_
    refine .done rfl ?_
    refine ac_seq ?_
    refine ac_region rfl ?_
    refine rq (u := .ptr bp_w_0 0) rfl rfl rfl (p_move rfl) rfl ?_
    refine rq (u := .ptr bp_w_0 0) rfl rfl rfl (p_nilCheck_ptr rfl rfl) rfl ?_
    refine rq (u := .ptr bp_w_0 0) rfl rfl rfl (p_field_ptr fl_51_0 rfl rfl) rfl ?_
    refine rq (u := .str v1.1) rfl rfl rfl (p_move rfl) rfl ?_
    obtain ⟨hv3, h⟩ := chk_some h
    refine rq (u := .str ((⟨#[114, 101, 97, 108, 32]⟩ : ByteArray) ++ v1.1)) rfl rfl rfl (p_sadd rfl rfl rfl (of_decide_eq_true hv3)) rfl ?_
    obtain ⟨hv4, h⟩ := chk_some h
    refine rq (u := .str (((⟨#[114, 101, 97, 108, 32]⟩ : ByteArray) ++ v1.1) ++ (⟨#[32, 116, 111, 32]⟩ : ByteArray))) rfl rfl rfl (p_sadd rfl rfl rfl (of_decide_eq_true hv4)) rfl ?_
    refine rq (u := .str v2.1) rfl rfl rfl (p_move rfl) rfl ?_
    obtain ⟨hv5, h⟩ := chk_some h
    refine rq (u := .str ((((⟨#[114, 101, 97, 108, 32]⟩ : ByteArray) ++ v1.1) ++ (⟨#[32, 116, 111, 32]⟩ : ByteArray)) ++ v2.1)) rfl rfl rfl (p_sadd rfl rfl rfl (of_decide_eq_true hv5)) rfl ?_
    obtain ⟨v7, hv7, h⟩ := bnd_some h
    refine ra rfl rfl (a_callY en_35 (ws_call bp_w_0 w_0 ((((⟨#[114, 101, 97, 108, 32]⟩ : ByteArray) ++ v1.1) ++ (⟨#[32, 116, 111, 32]⟩ : ByteArray)) ++ v2.1) v7 hv7 re_w_0 hw_w_0) rfl rfl (TVles.refl _) (fun rew6 => ([(b1, RS.box [.int .i64 e.Kind, .int .i64 e.Field, .slice .ro 2 (e.Ranges.map GRange.enc), encF e.Low, encF e.High, .slice .ro 6 (e.Of.map GExpr.enc)])] ++ rew6)) [(b1, RS.box [.int .i64 e.Kind, .int .i64 e.Field, .slice .ro 2 (e.Ranges.map GRange.enc), encF e.Low, encF e.High, .slice .ro 6 (e.Of.map GExpr.enc)])] [] (fun _ => by simp) rfl) ?_
    rintro E' s' ⟨rew6, hw6, rfl, hs'⟩
    rw [hs']
    show AReg _ _ _ _ _ _ ((33, .tuple [.int .i64 (((((⟨#[114, 101, 97, 108, 32]⟩ : ByteArray) ++ v1.1) ++ (⟨#[32, 116, 111, 32]⟩ : ByteArray)) ++ v2.1).size : Int), .nili]) :: _) ([(b1, RS.box [.int .i64 e.Kind, .int .i64 e.Field, .slice .ro 2 (e.Ranges.map GRange.enc), encF e.Low, encF e.High, .slice .ro 6 (e.Of.map GExpr.enc)])] ++ rew6)
    refine .done rfl ?_
    refine ac_ret ?_
    show Fin _ _ _ _ _ _ _
    exact fin_ret0 ⟨rew6, (by obtain rfl := Option.some.inj h; exact hw6), (by obtain rfl := Option.some.inj h; rfl), (ResLe.sub (by simp))⟩
  · replace h := cond_f hc37 h
    refine ac_skip ?_
    refine ac_seq ?_
    refine ac_region_draw mo rfl rfl rfl ?_
    refine rq (u := .ptr bp_w_0 0) rfl rfl rfl (p_move rfl) rfl ?_
    refine rq (u := .ptr bp_w_0 0) rfl rfl rfl (p_nilCheck_ptr rfl rfl) rfl ?_
    refine rq (u := .ptr bp_w_0 0) rfl rfl rfl (p_field_ptr fl_51_0 rfl rfl) rfl ?_
    refine rq (u := .agg [.str (⟨#[]⟩ : ByteArray), .str (⟨#[99, 108, 105, 101, 110, 116, 32]⟩ : ByteArray), .str (⟨#[117, 110, 105, 116, 32]⟩ : ByteArray), .str (⟨#[102, 117, 110, 99, 32]⟩ : ByteArray), .str (⟨#[97, 100, 100, 114, 32]⟩ : ByteArray), .str (⟨#[118, 97, 108, 117, 101, 32]⟩ : ByteArray)]) rfl rfl rfl (p_buildA (cs := [.str (⟨#[]⟩ : ByteArray), .str (⟨#[99, 108, 105, 101, 110, 116, 32]⟩ : ByteArray), .str (⟨#[117, 110, 105, 116, 32]⟩ : ByteArray), .str (⟨#[102, 117, 110, 99, 32]⟩ : ByteArray), .str (⟨#[97, 100, 100, 114, 32]⟩ : ByteArray), .str (⟨#[118, 97, 108, 117, 101, 32]⟩ : ByteArray)]) zf_91 rfl rfl rfl nofun arr_91 rfl rfl) rfl ?_
    refine rq (u := .ptr b1 1) rfl rfl rfl (p_field_ptr fl_33_1 rfl rfl) rfl ?_
    refine rq (u := .int .i64 e.Field) rfl rfl rfl (p_load_ptr ti_3 (fun _ => rfl) rfl rfl (.head _) (Nat.le_of_ble_eq_true rfl)) rfl ?_
    obtain ⟨v8, hv8, h⟩ := bnd_some h
    refine rq (u := .str v8) rfl rfl rfl (p_indexA (f := TV.str) (l := ([(⟨#[]⟩ : ByteArray), (⟨#[99, 108, 105, 101, 110, 116, 32]⟩ : ByteArray), (⟨#[117, 110, 105, 116, 32]⟩ : ByteArray), (⟨#[102, 117, 110, 99, 32]⟩ : ByteArray), (⟨#[97, 100, 100, 114, 32]⟩ : ByteArray), (⟨#[118, 97, 108, 117, 101, 32]⟩ : ByteArray)] : List ByteArray)) (fun _ => rfl) arr_91 ti_9 hv8 rfl rfl rfl rfl) rfl ?_
    obtain ⟨v10, hv10, h⟩ := bnd_some h
    refine .tail rfl (Nat.le_of_ble_eq_true rfl) rfl ?_
    refine ra rfl rfl (a_callY en_35 (ws_call bp_w_0 w_0 v8 v10 hv10 re_w_0 hw_w_0) rfl rfl (TVles.refl _) (fun rew9 => ([(b1, RS.box [.int .i64 e.Kind, .int .i64 e.Field, .slice .ro 2 (e.Ranges.map GRange.enc), encF e.Low, encF e.High, .slice .ro 6 (e.Of.map GExpr.enc)])] ++ rew9)) [(b1, RS.box [.int .i64 e.Kind, .int .i64 e.Field, .slice .ro 2 (e.Ranges.map GRange.enc), encF e.Low, encF e.High, .slice .ro 6 (e.Of.map GExpr.enc)])] [] (fun _ => by simp) rfl) ?_
    rintro E' s' ⟨rew9, hw9, rfl, hs'⟩
    rw [hs']
    show AReg _ _ _ _ _ _ ((41, .tuple [.int .i64 (v8.size : Int), .nili]) :: _) ([(b1, RS.box [.int .i64 e.Kind, .int .i64 e.Field, .slice .ro 2 (e.Ranges.map GRange.enc), encF e.Low, encF e.High, .slice .ro 6 (e.Of.map GExpr.enc)])] ++ rew9)
    refine .done rfl ?_
    refine ac_seq ?_
    refine ac_region rfl ?_
    refine rq (u := .ptr b1 2) rfl rfl rfl (p_field_ptr fl_33_2 rfl rfl) rfl ?_
    refine rq (u := .slice .ro 2 (e.Ranges.map GRange.enc)) rfl rfl rfl (p_load_ptr ti_30 (fun _ => rfl) rfl rfl (.head _) (Nat.le_of_ble_eq_true rfl)) rfl ?_
    refine rq (u := .int .i64 (e.Ranges.length : Int)) rfl rfl rfl (p_lenm is_30 rfl rfl) rfl ?_
    refine rq (u := .int .i64 0) rfl rfl rfl (p_move rfl) rfl ?_
    refine .done rfl ?_
    refine ac_block ?_
    refine ac_turns (σ := Nat × Int × ByteArray × Res) (fun (⟨m14, x11, x12, rew13⟩ : Nat × Int × ByteArray × Res) => [(0, .ptr bp_w_0 0), (1, .agg (GExpr.cells e)), (3, .ptr b1 0), (10, .ptr b1 1), (11, .int .i64 e.Field), (12, .bool (e.Field == 6)), (34, .ptr bp_w_0 0), (35, .ptr bp_w_0 0), (36, .ptr bp_w_0 0), (37, .agg [.str (⟨#[]⟩ : ByteArray), .str (⟨#[99, 108, 105, 101, 110, 116, 32]⟩ : ByteArray), .str (⟨#[117, 110, 105, 116, 32]⟩ : ByteArray), .str (⟨#[102, 117, 110, 99, 32]⟩ : ByteArray), .str (⟨#[97, 100, 100, 114, 32]⟩ : ByteArray), .str (⟨#[118, 97, 108, 117, 101, 32]⟩ : ByteArray)]), (38, .ptr b1 1), (39, .int .i64 e.Field), (40, .str v8), (41, .tuple [.int .i64 (v8.size : Int), .nili]), (42, .ptr b1 2), (43, .slice .ro 2 (e.Ranges.map GRange.enc)), (44, .int .i64 (e.Ranges.length : Int)), (45, .int .i64 x11)]) (fun (⟨m14, x11, x12, rew13⟩ : Nat × Int × ByteArray × Res) => ([(b1, RS.box [.int .i64 e.Kind, .int .i64 e.Field, .slice .ro 2 (e.Ranges.map GRange.enc), encF e.Low, encF e.High, .slice .ro 6 (e.Of.map GExpr.enc)])] ++ rew13)) (fun x => x.1) (fun (⟨m14, x11, x12, rew13⟩ : Nat × Int × ByteArray × Res) => tree_writer_atom_L0 k e (fun x34 x35 => some x35) m14 x11 x12 = some r ∧ WB 51 5 bp_w_0 x12 rew13) ⟨k, 0, v10, rew9⟩ ⟨h, hw9⟩ ⟨TVle.refl _, TVle.refl _, TVle.refl _, TVle.refl _, TVle.refl _, TVle.refl _, TVle.refl _, TVle.refl _, TVle.refl _, TVle.refl _, TVle.refl _, TVle.refl _, TVle.refl _, TVle.refl _, TVle.refl _, TVle.refl _, TVle.refl _, TVle.refl _, trivial⟩ (ResLe.refl _) ?_
    rintro ⟨m14, x11, x12, rew13⟩ ⟨h, hw13⟩
    replace h : tree_writer_atom_L0 k e (fun x34 x35 => some x35) m14 x11 x12 = some r := h
    show ACode _ _ _ [(0, .ptr bp_w_0 0), (1, .agg (GExpr.cells e)), (3, .ptr b1 0), (10, .ptr b1 1), (11, .int .i64 e.Field), (12, .bool (e.Field == 6)), (34, .ptr bp_w_0 0), (35, .ptr bp_w_0 0), (36, .ptr bp_w_0 0), (37, .agg [.str (⟨#[]⟩ : ByteArray), .str (⟨#[99, 108, 105, 101, 110, 116, 32]⟩ : ByteArray), .str (⟨#[117, 110, 105, 116, 32]⟩ : ByteArray), .str (⟨#[102, 117, 110, 99, 32]⟩ : ByteArray), .str (⟨#[97, 100, 100, 114, 32]⟩ : ByteArray), .str (⟨#[118, 97, 108, 117, 101, 32]⟩ : ByteArray)]), (38, .ptr b1 1), (39, .int .i64 e.Field), (40, .str v8), (41, .tuple [.int .i64 (v8.size : Int), .nili]), (42, .ptr b1 2), (43, .slice .ro 2 (e.Ranges.map GRange.enc)), (44, .int .i64 (e.Ranges.length : Int)), (45, .int .i64 x11)] ([(b1, RS.box [.int .i64 e.Kind, .int .i64 e.Field, .slice .ro 2 (e.Ranges.map GRange.enc), encF e.Low, encF e.High, .slice .ro 6 (e.Of.map GExpr.enc)])] ++ rew13) _
    cases m14 with
    | zero => rw [tree_writer_atom_L0] at h; cases h
    | succ m14 =>
      rw [tree_writer_atom_L0] at h
      refine ac_seq ?_
      refine ac_region rfl ?_
      refine rq (u := .bool (decide (x11 < (e.Ranges.length : Int)))) rfl rfl rfl (p_lss rfl rfl rfl) rfl ?_
      refine .done rfl ?_
      refine ac_seq ?_
      refine ac_cond rfl rfl (fun hc33 => ?_) (fun hc33 => ?_)
      · replace h := cond_t hc33 h
        refine ac_skip ?_
        refine ac_seq ?_
        refine ac_block ?_
        refine ac_seq ?_
        refine ac_region rfl ?_
        refine rq (u := .int .i64 x11) rfl rfl rfl (p_move rfl) rfl ?_
        obtain ⟨v15, hv15, h⟩ := bnd_some h
        refine rq (u := .rptr [.int .i64 v15.Low, .int .i64 v15.High]) rfl rfl rfl (p_ix GRange.enc_eq sl_30 hv15 rfl rfl rfl) rfl ?_
        refine rq (u := .agg (GRange.cells v15)) rfl rfl rfl (p_load_rptr ti_41 nofun rfl rfl (Nat.le_of_ble_eq_true rfl)) rfl ?_
        refine ralloc (cs := [.int .i64 0, .int .i64 0]) zf_41 rfl rfl rfl rfl rfl rfl rfl nofun fun b2 => ?_
        refine rq (u := .int .i64 x11) rfl rfl rfl (p_assign rfl) rfl ?_
        refine rstore (j := 0) (us := [.int .i64 v15.Low, .int .i64 v15.High]) ti_41 rfl rfl rfl rfl rfl rfl rfl rfl nofun rfl rfl (Nat.le_of_ble_eq_true rfl) ?_
        refine .done rfl ?_
        refine ac_seq ?_
        refine ac_seq ?_
        refine ac_region rfl ?_
        refine rq (u := .int .i64 x11) rfl rfl rfl (p_move rfl) rfl ?_
        refine rq (u := .bool (decide (0 < x11))) rfl rfl rfl (p_gtr rfl rfl rfl) rfl ?_
        refine .done rfl ?_
        refine ac_cond rfl rfl (fun hc32 => ?_) (fun hc32 => ?_)
        · replace h := cond_t hc32 h
          refine ac_region rfl ?_
          refine rq (u := .ptr bp_w_0 0) rfl rfl rfl (p_move rfl) rfl ?_
          refine rq (u := .ptr bp_w_0 0) rfl rfl rfl (p_nilCheck_ptr rfl rfl) rfl ?_
          refine rq (u := .ptr bp_w_0 0) rfl rfl rfl (p_field_ptr fl_51_0 rfl rfl) rfl ?_
          obtain ⟨v17, hv17, h⟩ := bnd_some h
          refine ra rfl rfl (a_callY en_35 (ws_call bp_w_0 x12 (⟨#[44]⟩ : ByteArray) v17 hv17 rew13 hw13) rfl rfl (TVles.refl _) (fun rew16 => ([(b2, RS.box [.int .i64 v15.Low, .int .i64 v15.High]), (b1, RS.box [.int .i64 e.Kind, .int .i64 e.Field, .slice .ro 2 (e.Ranges.map GRange.enc), encF e.Low, encF e.High, .slice .ro 6 (e.Of.map GExpr.enc)])] ++ rew16)) [(b2, RS.box [.int .i64 v15.Low, .int .i64 v15.High]), (b1, RS.box [.int .i64 e.Kind, .int .i64 e.Field, .slice .ro 2 (e.Ranges.map GRange.enc), encF e.Low, encF e.High, .slice .ro 6 (e.Of.map GExpr.enc)])] [] (fun _ => by simp) rfl) ?_
          rintro E' s' ⟨rew16, hw16, rfl, hs'⟩
          rw [hs']
          show AReg _ _ _ _ _ _ ((55, .tuple [.int .i64 ((⟨#[44]⟩ : ByteArray).size : Int), .nili]) :: _) ([(b2, RS.box [.int .i64 v15.Low, .int .i64 v15.High]), (b1, RS.box [.int .i64 e.Kind, .int .i64 e.Field, .slice .ro 2 (e.Ranges.map GRange.enc), encF e.Low, encF e.High, .slice .ro 6 (e.Of.map GExpr.enc)])] ++ rew16)
          refine .done rfl ?_
          refine ac_seq ?_
          refine ac_region rfl ?_
          refine rq (u := .ptr bp_w_0 0) rfl rfl rfl (p_move rfl) rfl ?_
          refine rq (u := .ptr b2 0) rfl rfl rfl (p_field_ptr fl_41_0 rfl rfl) rfl ?_
          refine rq (u := .int .i64 v15.Low) rfl rfl rfl (p_load_ptr ti_3 (fun _ => rfl) rfl rfl (.head _) (Nat.le_of_ble_eq_true rfl)) rfl ?_
          obtain ⟨v19, hv19, h⟩ := bnd_some h
          refine ra rfl rfl (a_callY en_37 (tree_writer_number_fn k v17 bp_w_0 rew16 hw16 v15.Low v19 hv19) rfl rfl (TVles.refl _) (fun rew18 => ([(b2, RS.box [.int .i64 v15.Low, .int .i64 v15.High]), (b1, RS.box [.int .i64 e.Kind, .int .i64 e.Field, .slice .ro 2 (e.Ranges.map GRange.enc), encF e.Low, encF e.High, .slice .ro 6 (e.Of.map GExpr.enc)])] ++ rew18)) [(b2, RS.box [.int .i64 v15.Low, .int .i64 v15.High]), (b1, RS.box [.int .i64 e.Kind, .int .i64 e.Field, .slice .ro 2 (e.Ranges.map GRange.enc), encF e.Low, encF e.High, .slice .ro 6 (e.Of.map GExpr.enc)])] [] (fun _ => by simp) rfl) ?_
          rintro E' s' ⟨rew18, hw18, rfl, hs'⟩
          rw [hs']
          show AReg _ _ _ _ _ _ ((59, .tuple []) :: _) ([(b2, RS.box [.int .i64 v15.Low, .int .i64 v15.High]), (b1, RS.box [.int .i64 e.Kind, .int .i64 e.Field, .slice .ro 2 (e.Ranges.map GRange.enc), encF e.Low, encF e.High, .slice .ro 6 (e.Of.map GExpr.enc)])] ++ rew18)
          refine .done rfl ?_
          refine ac_seq ?_
          refine ac_region rfl ?_
          refine rq (u := .ptr b2 1) rfl rfl rfl (p_field_ptr fl_41_1 rfl rfl) rfl ?_
          refine rq (u := .int .i64 v15.High) rfl rfl rfl (p_load_ptr ti_3 (fun _ => rfl) rfl rfl (.head _) (Nat.le_of_ble_eq_true rfl)) rfl ?_
          refine rq (u := .ptr b2 0) rfl rfl rfl (p_field_ptr fl_41_0 rfl rfl) rfl ?_
          refine rq (u := .int .i64 v15.Low) rfl rfl rfl (p_load_ptr ti_3 (fun _ => rfl) rfl rfl (.head _) (Nat.le_of_ble_eq_true rfl)) rfl ?_
          refine rq (u := .bool (v15.High != v15.Low)) rfl rfl rfl (p_neq rfl rfl rfl) rfl ?_
          refine .done rfl ?_
          refine ac_cond rfl rfl (fun hc24 => ?_) (fun hc24 => ?_)
          · replace h := cond_t hc24 h
            refine ac_seq ?_
            refine ac_region rfl ?_
            refine rq (u := .ptr bp_w_0 0) rfl rfl rfl (p_move rfl) rfl ?_
            refine rq (u := .ptr bp_w_0 0) rfl rfl rfl (p_nilCheck_ptr rfl rfl) rfl ?_
            refine rq (u := .ptr bp_w_0 0) rfl rfl rfl (p_field_ptr fl_51_0 rfl rfl) rfl ?_
            obtain ⟨v21, hv21, h⟩ := bnd_some h
            refine ra rfl rfl (a_callY en_35 (ws_call bp_w_0 v19 (⟨#[45]⟩ : ByteArray) v21 hv21 rew18 hw18) rfl rfl (TVles.refl _) (fun rew20 => ([(b2, RS.box [.int .i64 v15.Low, .int .i64 v15.High]), (b1, RS.box [.int .i64 e.Kind, .int .i64 e.Field, .slice .ro 2 (e.Ranges.map GRange.enc), encF e.Low, encF e.High, .slice .ro 6 (e.Of.map GExpr.enc)])] ++ rew20)) [(b2, RS.box [.int .i64 v15.Low, .int .i64 v15.High]), (b1, RS.box [.int .i64 e.Kind, .int .i64 e.Field, .slice .ro 2 (e.Ranges.map GRange.enc), encF e.Low, encF e.High, .slice .ro 6 (e.Of.map GExpr.enc)])] [] (fun _ => by simp) rfl) ?_
            rintro E' s' ⟨rew20, hw20, rfl, hs'⟩
            rw [hs']
            show AReg _ _ _ _ _ _ ((68, .tuple [.int .i64 ((⟨#[45]⟩ : ByteArray).size : Int), .nili]) :: _) ([(b2, RS.box [.int .i64 v15.Low, .int .i64 v15.High]), (b1, RS.box [.int .i64 e.Kind, .int .i64 e.Field, .slice .ro 2 (e.Ranges.map GRange.enc), encF e.Low, encF e.High, .slice .ro 6 (e.Of.map GExpr.enc)])] ++ rew20)
            refine .done rfl ?_
            refine ac_region rfl ?_
            refine rq (u := .ptr bp_w_0 0) rfl rfl rfl (p_move rfl) rfl ?_
            refine rq (u := .ptr b2 1) rfl rfl rfl (p_field_ptr fl_41_1 rfl rfl) rfl ?_
            refine rq (u := .int .i64 v15.High) rfl rfl rfl (p_load_ptr ti_3 (fun _ => rfl) rfl rfl (.head _) (Nat.le_of_ble_eq_true rfl)) rfl ?_
            obtain ⟨v23, hv23, h⟩ := bnd_some h
            refine ra rfl rfl (a_callY en_37 (tree_writer_number_fn k v21 bp_w_0 rew20 hw20 v15.High v23 hv23) rfl rfl (TVles.refl _) (fun rew22 => ([(b2, RS.box [.int .i64 v15.Low, .int .i64 v15.High]), (b1, RS.box [.int .i64 e.Kind, .int .i64 e.Field, .slice .ro 2 (e.Ranges.map GRange.enc), encF e.Low, encF e.High, .slice .ro 6 (e.Of.map GExpr.enc)])] ++ rew22)) [(b2, RS.box [.int .i64 v15.Low, .int .i64 v15.High]), (b1, RS.box [.int .i64 e.Kind, .int .i64 e.Field, .slice .ro 2 (e.Ranges.map GRange.enc), encF e.Low, encF e.High, .slice .ro 6 (e.Of.map GExpr.enc)])] [] (fun _ => by simp) rfl) ?_
            rintro E' s' ⟨rew22, hw22, rfl, hs'⟩
            rw [hs']
            show AReg _ _ _ _ _ _ ((72, .tuple []) :: _) ([(b2, RS.box [.int .i64 v15.Low, .int .i64 v15.High]), (b1, RS.box [.int .i64 e.Kind, .int .i64 e.Field, .slice .ro 2 (e.Ranges.map GRange.enc), encF e.Low, encF e.High, .slice .ro 6 (e.Of.map GExpr.enc)])] ++ rew22)
            refine .done rfl ?_
            refine ac_region rfl ?_
            refine rq (u := .int .i64 (IntKind.wrap .i64 (x11 + 1))) rfl rfl rfl (p_add rfl rfl rfl) rfl ?_
            refine rq (u := .int .i64 (IntKind.wrap .i64 (x11 + 1))) rfl rfl rfl (p_move rfl) rfl ?_
            refine .done rfl ?_
            exact ⟨⟨m14, (IntKind.wrap .i64 (x11 + 1)), v23, rew22⟩, ⟨h, hw22⟩, Nat.lt_succ_self _, ⟨TVle.refl _, TVle.refl _, TVle.refl _, TVle.refl _, TVle.refl _, TVle.refl _, TVle.refl _, TVle.refl _, TVle.refl _, TVle.refl _, TVle.refl _, TVle.refl _, TVle.refl _, TVle.refl _, TVle.refl _, TVle.refl _, TVle.refl _, TVle.refl _, trivial⟩, (ResLe.drop (ResLe.refl _))⟩
          · replace h := cond_f hc24 h
            refine ac_skip ?_
            refine ac_region rfl ?_
            refine rq (u := .int .i64 (IntKind.wrap .i64 (x11 + 1))) rfl rfl rfl (p_add rfl rfl rfl) rfl ?_
            refine rq (u := .int .i64 (IntKind.wrap .i64 (x11 + 1))) rfl rfl rfl (p_move rfl) rfl ?_
            refine .done rfl ?_
            exact ⟨⟨m14, (IntKind.wrap .i64 (x11 + 1)), v19, rew18⟩, ⟨h, hw18⟩, Nat.lt_succ_self _, ⟨TVle.refl _, TVle.refl _, TVle.refl _, TVle.refl _, TVle.refl _, TVle.refl _, TVle.refl _, TVle.refl _, TVle.refl _, TVle.refl _, TVle.refl _, TVle.refl _, TVle.refl _, TVle.refl _, TVle.refl _, TVle.refl _, TVle.refl _, TVle.refl _, trivial⟩, (ResLe.drop (ResLe.refl _))⟩
        · replace h := cond_f hc32 h
          refine ac_skip ?_
          refine ac_seq ?_
          refine ac_region rfl ?_
          refine rq (u := .ptr bp_w_0 0) rfl rfl rfl (p_move rfl) rfl ?_
          refine rq (u := .ptr b2 0) rfl rfl rfl (p_field_ptr fl_41_0 rfl rfl) rfl ?_
          refine rq (u := .int .i64 v15.Low) rfl rfl rfl (p_load_ptr ti_3 (fun _ => rfl) rfl rfl (.head _) (Nat.le_of_ble_eq_true rfl)) rfl ?_
          obtain ⟨v26, hv26, h⟩ := bnd_some h
          refine ra rfl rfl (a_callY en_37 (tree_writer_number_fn k x12 bp_w_0 rew13 hw13 v15.Low v26 hv26) rfl rfl (TVles.refl _) (fun rew25 => ([(b2, RS.box [.int .i64 v15.Low, .int .i64 v15.High]), (b1, RS.box [.int .i64 e.Kind, .int .i64 e.Field, .slice .ro 2 (e.Ranges.map GRange.enc), encF e.Low, encF e.High, .slice .ro 6 (e.Of.map GExpr.enc)])] ++ rew25)) [(b2, RS.box [.int .i64 v15.Low, .int .i64 v15.High]), (b1, RS.box [.int .i64 e.Kind, .int .i64 e.Field, .slice .ro 2 (e.Ranges.map GRange.enc), encF e.Low, encF e.High, .slice .ro 6 (e.Of.map GExpr.enc)])] [] (fun _ => by simp) rfl) ?_
          rintro E' s' ⟨rew25, hw25, rfl, hs'⟩
          rw [hs']
          show AReg _ _ _ _ _ _ ((59, .tuple []) :: _) ([(b2, RS.box [.int .i64 v15.Low, .int .i64 v15.High]), (b1, RS.box [.int .i64 e.Kind, .int .i64 e.Field, .slice .ro 2 (e.Ranges.map GRange.enc), encF e.Low, encF e.High, .slice .ro 6 (e.Of.map GExpr.enc)])] ++ rew25)
          refine .done rfl ?_
          refine ac_seq ?_
          refine ac_region rfl ?_
          refine rq (u := .ptr b2 1) rfl rfl rfl (p_field_ptr fl_41_1 rfl rfl) rfl ?_
          refine rq (u := .int .i64 v15.High) rfl rfl rfl (p_load_ptr ti_3 (fun _ => rfl) rfl rfl (.head _) (Nat.le_of_ble_eq_true rfl)) rfl ?_
          refine rq (u := .ptr b2 0) rfl rfl rfl (p_field_ptr fl_41_0 rfl rfl) rfl ?_
          refine rq (u := .int .i64 v15.Low) rfl rfl rfl (p_load_ptr ti_3 (fun _ => rfl) rfl rfl (.head _) (Nat.le_of_ble_eq_true rfl)) rfl ?_
          refine rq (u := .bool (v15.High != v15.Low)) rfl rfl rfl (p_neq rfl rfl rfl) rfl ?_
          refine .done rfl ?_
          refine ac_cond rfl rfl (fun hc31 => ?_) (fun hc31 => ?_)
          · replace h := cond_t hc31 h
            refine ac_seq ?_
            refine ac_region rfl ?_
            refine rq (u := .ptr bp_w_0 0) rfl rfl rfl (p_move rfl) rfl ?_
            refine rq (u := .ptr bp_w_0 0) rfl rfl rfl (p_nilCheck_ptr rfl rfl) rfl ?_
            refine rq (u := .ptr bp_w_0 0) rfl rfl rfl (p_field_ptr fl_51_0 rfl rfl) rfl ?_
            obtain ⟨v28, hv28, h⟩ := bnd_some h
            refine ra rfl rfl (a_callY en_35 (ws_call bp_w_0 v26 (⟨#[45]⟩ : ByteArray) v28 hv28 rew25 hw25) rfl rfl (TVles.refl _) (fun rew27 => ([(b2, RS.box [.int .i64 v15.Low, .int .i64 v15.High]), (b1, RS.box [.int .i64 e.Kind, .int .i64 e.Field, .slice .ro 2 (e.Ranges.map GRange.enc), encF e.Low, encF e.High, .slice .ro 6 (e.Of.map GExpr.enc)])] ++ rew27)) [(b2, RS.box [.int .i64 v15.Low, .int .i64 v15.High]), (b1, RS.box [.int .i64 e.Kind, .int .i64 e.Field, .slice .ro 2 (e.Ranges.map GRange.enc), encF e.Low, encF e.High, .slice .ro 6 (e.Of.map GExpr.enc)])] [] (fun _ => by simp) rfl) ?_
            rintro E' s' ⟨rew27, hw27, rfl, hs'⟩
            rw [hs']
            show AReg _ _ _ _ _ _ ((68, .tuple [.int .i64 ((⟨#[45]⟩ : ByteArray).size : Int), .nili]) :: _) ([(b2, RS.box [.int .i64 v15.Low, .int .i64 v15.High]), (b1, RS.box [.int .i64 e.Kind, .int .i64 e.Field, .slice .ro 2 (e.Ranges.map GRange.enc), encF e.Low, encF e.High, .slice .ro 6 (e.Of.map GExpr.enc)])] ++ rew27)
            refine .done rfl ?_
            refine ac_region rfl ?_
            refine rq (u := .ptr bp_w_0 0) rfl rfl rfl (p_move rfl) rfl ?_
            refine rq (u := .ptr b2 1) rfl rfl rfl (p_field_ptr fl_41_1 rfl rfl) rfl ?_
            refine rq (u := .int .i64 v15.High) rfl rfl rfl (p_load_ptr ti_3 (fun _ => rfl) rfl rfl (.head _) (Nat.le_of_ble_eq_true rfl)) rfl ?_
            obtain ⟨v30, hv30, h⟩ := bnd_some h
            refine ra rfl rfl (a_callY en_37 (tree_writer_number_fn k v28 bp_w_0 rew27 hw27 v15.High v30 hv30) rfl rfl (TVles.refl _) (fun rew29 => ([(b2, RS.box [.int .i64 v15.Low, .int .i64 v15.High]), (b1, RS.box [.int .i64 e.Kind, .int .i64 e.Field, .slice .ro 2 (e.Ranges.map GRange.enc), encF e.Low, encF e.High, .slice .ro 6 (e.Of.map GExpr.enc)])] ++ rew29)) [(b2, RS.box [.int .i64 v15.Low, .int .i64 v15.High]), (b1, RS.box [.int .i64 e.Kind, .int .i64 e.Field, .slice .ro 2 (e.Ranges.map GRange.enc), encF e.Low, encF e.High, .slice .ro 6 (e.Of.map GExpr.enc)])] [] (fun _ => by simp) rfl) ?_
            rintro E' s' ⟨rew29, hw29, rfl, hs'⟩
            rw [hs']
            show AReg _ _ _ _ _ _ ((72, .tuple []) :: _) ([(b2, RS.box [.int .i64 v15.Low, .int .i64 v15.High]), (b1, RS.box [.int .i64 e.Kind, .int .i64 e.Field, .slice .ro 2 (e.Ranges.map GRange.enc), encF e.Low, encF e.High, .slice .ro 6 (e.Of.map GExpr.enc)])] ++ rew29)
            refine .done rfl ?_
            refine ac_region rfl ?_
            refine rq (u := .int .i64 (IntKind.wrap .i64 (x11 + 1))) rfl rfl rfl (p_add rfl rfl rfl) rfl ?_
            refine rq (u := .int .i64 (IntKind.wrap .i64 (x11 + 1))) rfl rfl rfl (p_move rfl) rfl ?_
            refine .done rfl ?_
            exact ⟨⟨m14, (IntKind.wrap .i64 (x11 + 1)), v30, rew29⟩, ⟨h, hw29⟩, Nat.lt_succ_self _, ⟨TVle.refl _, TVle.refl _, TVle.refl _, TVle.refl _, TVle.refl _, TVle.refl _, TVle.refl _, TVle.refl _, TVle.refl _, TVle.refl _, TVle.refl _, TVle.refl _, TVle.refl _, TVle.refl _, TVle.refl _, TVle.refl _, TVle.refl _, TVle.refl _, trivial⟩, (ResLe.drop (ResLe.refl _))⟩
          · replace h := cond_f hc31 h
            refine ac_skip ?_
            refine ac_region rfl ?_
            refine rq (u := .int .i64 (IntKind.wrap .i64 (x11 + 1))) rfl rfl rfl (p_add rfl rfl rfl) rfl ?_
            refine rq (u := .int .i64 (IntKind.wrap .i64 (x11 + 1))) rfl rfl rfl (p_move rfl) rfl ?_
            refine .done rfl ?_
            exact ⟨⟨m14, (IntKind.wrap .i64 (x11 + 1)), v26, rew25⟩, ⟨h, hw25⟩, Nat.lt_succ_self _, ⟨TVle.refl _, TVle.refl _, TVle.refl _, TVle.refl _, TVle.refl _, TVle.refl _, TVle.refl _, TVle.refl _, TVle.refl _, TVle.refl _, TVle.refl _, TVle.refl _, TVle.refl _, TVle.refl _, TVle.refl _, TVle.refl _, TVle.refl _, TVle.refl _, trivial⟩, (ResLe.drop (ResLe.refl _))⟩
      · replace h := cond_f hc33 h
        refine ac_exit ?_
        show Fin _ _ _ _ _ _ _
        exact fin_end0 ⟨rew13, (by obtain rfl := Option.some.inj h; exact hw13), (by obtain rfl := Option.some.inj h; rfl), (ResLe.sub (by simp))⟩
end Go.Proofs.YtdkiijhmmmfciaaDoor
