/- The code computes the functions. Printed by tr.py. -/
import Derived.Test.YtdkiijhmmmfciaaDoorG0
import Derived.Test.YtdkiijhmmmfciaaDoorG1
import Derived.Test.YtdkiijhmmmfciaaDoorH3
set_option linter.unusedVariables false
set_option linter.unusedSimpArgs false
namespace Go.Proofs.YtdkiijhmmmfciaaDoor
open Go
set_option maxRecDepth 20000 in
set_option maxHeartbeats 4000000 in
theorem tree_Same_fn : ∀ k : Nat, ∀ (a_0 : GExpr) (b_1 : GExpr) (r : Bool) (h : tree_Same k a_0 b_1 = some r), PFn Tryd.prog 17 [.agg (GExpr.cells a_0), .agg (GExpr.cells b_1)] (.bool r) := by
  intro k
  induction k with
  | zero => intro a_0 b_1 r h; rw [tree_Same] at h; cases h
  | succ k ih_tree_Same =>
    intro a_0 b_1 r h
    rw [tree_Same] at h
    refine AFn.of Tryd.func17 rfl (Nat.le_of_ble_eq_true rfl) ?_
    refine ac_seq ?_
    refine ac_region rfl ?_
    refine rbox rfl rfl rfl rfl rfl fun b1 => ?_
    refine rbox rfl rfl rfl rfl rfl fun b2 => ?_
    refine rq (u := .bool false) rfl rfl rfl (p_assign rfl) rfl ?_
    refine .done rfl ?_
    refine ac_seq ?_
    refine ac_region rfl ?_
    refine rq (u := .ptr b1 0) rfl rfl rfl (p_field_ptr fl_33_0 rfl rfl) rfl ?_
    refine rq (u := .int .i64 a_0.Kind) rfl rfl rfl (p_load_ptr ti_3 (fun _ => rfl) rfl rfl (.tail _ (.head _)) (Nat.le_of_ble_eq_true rfl)) rfl ?_
    refine rq (u := .ptr b2 0) rfl rfl rfl (p_field_ptr fl_33_0 rfl rfl) rfl ?_
    refine rq (u := .int .i64 b_1.Kind) rfl rfl rfl (p_load_ptr ti_3 (fun _ => rfl) rfl rfl (.head _) (Nat.le_of_ble_eq_true rfl)) rfl ?_
    refine rq (u := .bool (a_0.Kind == b_1.Kind)) rfl rfl rfl (p_eql rfl rfl rfl) rfl ?_
    refine rq (u := .bool (a_0.Kind == b_1.Kind)) rfl rfl rfl (p_move rfl) rfl ?_
    refine rcase 10 rfl (fun hc1 => ?_) (fun hc1 => ?_)
    · replace h := cond_t hc1 h
      refine rq (u := .ptr b1 1) rfl (guard_at rfl rfl rfl rfl rfl) rfl (p_field_ptr fl_33_1 rfl rfl) rfl ?_
      refine rq (u := .int .i64 a_0.Field) rfl (guard_at rfl rfl rfl rfl rfl) rfl (p_load_ptr ti_3 (fun _ => rfl) rfl rfl (.tail _ (.head _)) (Nat.le_of_ble_eq_true rfl)) rfl ?_
      refine rq (u := .ptr b2 1) rfl (guard_at rfl rfl rfl rfl rfl) rfl (p_field_ptr fl_33_1 rfl rfl) rfl ?_
      refine rq (u := .int .i64 b_1.Field) rfl (guard_at rfl rfl rfl rfl rfl) rfl (p_load_ptr ti_3 (fun _ => rfl) rfl rfl (.head _) (Nat.le_of_ble_eq_true rfl)) rfl ?_
      refine rq (u := .bool (a_0.Field == b_1.Field)) rfl (guard_at rfl rfl rfl rfl rfl) rfl (p_eql rfl rfl rfl) rfl ?_
      refine rq (u := .bool (a_0.Field == b_1.Field)) rfl rfl rfl (p_pick rfl rfl) rfl ?_
      refine rq (u := .bool (a_0.Field == b_1.Field)) rfl rfl rfl (p_move rfl) rfl ?_
      refine rcase 17 rfl (fun hc2 => ?_) (fun hc2 => ?_)
      · replace h := cond_t hc2 h
        refine rq (u := .ptr b1 3) rfl (guard_at rfl rfl rfl rfl rfl) rfl (p_field_ptr fl_33_3 rfl rfl) rfl ?_
        refine rq (u := encF a_0.Low) rfl (guard_at rfl rfl rfl rfl rfl) rfl (p_load_ptr ti_31 (fun _ => rfl) rfl rfl (.tail _ (.head _)) (Nat.le_of_ble_eq_true rfl)) rfl ?_
        refine rq (u := .ptr b2 3) rfl (guard_at rfl rfl rfl rfl rfl) rfl (p_field_ptr fl_33_3 rfl rfl) rfl ?_
        refine rq (u := encF b_1.Low) rfl (guard_at rfl rfl rfl rfl rfl) rfl (p_load_ptr ti_31 (fun _ => rfl) rfl rfl (.head _) (Nat.le_of_ble_eq_true rfl)) rfl ?_
        obtain ⟨v3, hv3, h⟩ := bnd_some h
        refine rq (u := .bool v3) rfl (guard_at rfl rfl rfl rfl rfl) rfl (p_pfnL en_31 (real_Same_fn k a_0.Low b_1.Low v3 hv3) rfl rfl (TVles.refl _)) rfl ?_
        refine rq (u := .bool v3) rfl rfl rfl (p_pick rfl rfl) rfl ?_
        refine rq (u := .bool v3) rfl rfl rfl (p_move rfl) rfl ?_
        refine rcase 24 rfl (fun hc4 => ?_) (fun hc4 => ?_)
        · replace h := cond_t hc4 h
          refine rq (u := .ptr b1 4) rfl (guard_at rfl rfl rfl rfl rfl) rfl (p_field_ptr fl_33_4 rfl rfl) rfl ?_
          refine rq (u := encF a_0.High) rfl (guard_at rfl rfl rfl rfl rfl) rfl (p_load_ptr ti_31 (fun _ => rfl) rfl rfl (.tail _ (.head _)) (Nat.le_of_ble_eq_true rfl)) rfl ?_
          refine rq (u := .ptr b2 4) rfl (guard_at rfl rfl rfl rfl rfl) rfl (p_field_ptr fl_33_4 rfl rfl) rfl ?_
          refine rq (u := encF b_1.High) rfl (guard_at rfl rfl rfl rfl rfl) rfl (p_load_ptr ti_31 (fun _ => rfl) rfl rfl (.head _) (Nat.le_of_ble_eq_true rfl)) rfl ?_
          obtain ⟨v5, hv5, h⟩ := bnd_some h
          refine rq (u := .bool v5) rfl (guard_at rfl rfl rfl rfl rfl) rfl (p_pfnL en_31 (real_Same_fn k a_0.High b_1.High v5 hv5) rfl rfl (TVles.refl _)) rfl ?_
          refine rq (u := .bool v5) rfl rfl rfl (p_pick rfl rfl) rfl ?_
          refine rq (u := .bool v5) rfl rfl rfl (p_move rfl) rfl ?_
          refine rcase 31 rfl (fun hc6 => ?_) (fun hc6 => ?_)
          · replace h := cond_t hc6 h
            refine rq (u := .ptr b1 2) rfl (guard_at rfl rfl rfl rfl rfl) rfl (p_field_ptr fl_33_2 rfl rfl) rfl ?_
            refine rq (u := .slice .ro 2 (a_0.Ranges.map GRange.enc)) rfl (guard_at rfl rfl rfl rfl rfl) rfl (p_load_ptr ti_30 (fun _ => rfl) rfl rfl (.tail _ (.head _)) (Nat.le_of_ble_eq_true rfl)) rfl ?_
            refine rq (u := .ptr b2 2) rfl (guard_at rfl rfl rfl rfl rfl) rfl (p_field_ptr fl_33_2 rfl rfl) rfl ?_
            refine rq (u := .slice .ro 2 (b_1.Ranges.map GRange.enc)) rfl (guard_at rfl rfl rfl rfl rfl) rfl (p_load_ptr ti_30 (fun _ => rfl) rfl rfl (.head _) (Nat.le_of_ble_eq_true rfl)) rfl ?_
            obtain ⟨v7, hv7, h⟩ := bnd_some h
            refine rq (u := .bool v7) rfl (guard_at rfl rfl rfl rfl rfl) rfl (p_pfnL en_32 (span_Same_fn k a_0.Ranges b_1.Ranges v7 hv7) rfl rfl (TVles.refl _)) rfl ?_
            refine rq (u := .bool v7) rfl rfl rfl (p_pick rfl rfl) rfl ?_
            refine rq (u := .bool v7) rfl rfl rfl (p_move rfl) rfl ?_
            refine rcase 38 rfl (fun hc8 => ?_) (fun hc8 => ?_)
            · replace h := cond_t hc8 h
              refine rq (u := .ptr b1 5) rfl (guard_at rfl rfl rfl rfl rfl) rfl (p_field_ptr fl_33_5 rfl rfl) rfl ?_
              refine rq (u := .slice .ro 6 (a_0.Of.map GExpr.enc)) rfl (guard_at rfl rfl rfl rfl rfl) rfl (p_load_ptr ti_28 (fun _ => rfl) rfl rfl (.tail _ (.head _)) (Nat.le_of_ble_eq_true rfl)) rfl ?_
              refine rq (u := .ptr b2 5) rfl (guard_at rfl rfl rfl rfl rfl) rfl (p_field_ptr fl_33_5 rfl rfl) rfl ?_
              refine rq (u := .slice .ro 6 (b_1.Of.map GExpr.enc)) rfl (guard_at rfl rfl rfl rfl rfl) rfl (p_load_ptr ti_28 (fun _ => rfl) rfl rfl (.head _) (Nat.le_of_ble_eq_true rfl)) rfl ?_
              obtain ⟨v9, hv9, h⟩ := bnd_some h
              refine rq (u := .bool v9) rfl (guard_at rfl rfl rfl rfl rfl) rfl (p_callL en_33 (slices_EqualFunc_Expr_fn k a_0.Of b_1.Of (tree_Same k) 17 [] [] [] en_17 (fun a1 a2 r' h' => PFn.at (ih_tree_Same a1 a2 r' h') []) v9 hv9) rfl rfl (TVles.refl _) (List.Perm.refl _)) rfl ?_
              refine rq (u := .bool v9) rfl rfl rfl (p_pick rfl rfl) rfl ?_
              refine rq (u := .bool v9) rfl rfl rfl (p_assign rfl) rfl ?_
              refine .done rfl ?_
              refine ac_ret ?_
              show Fin _ _ _ _ _ _ _
              exact fin_ret (Nat.le_of_ble_eq_true rfl) rfl (by obtain rfl := Option.some.inj h; rfl)
            · replace h := cond_f hc8 h
              refine rskip rfl (guard_at rfl rfl rfl rfl rfl) rfl ?_
              refine rskip rfl (guard_at rfl rfl rfl rfl rfl) rfl ?_
              refine rskip rfl (guard_at rfl rfl rfl rfl rfl) rfl ?_
              refine rskip rfl (guard_at rfl rfl rfl rfl rfl) rfl ?_
              refine rskip rfl (guard_at rfl rfl rfl rfl rfl) rfl ?_
              refine rq (u := .bool false) rfl rfl rfl (p_pick rfl rfl) rfl ?_
              refine rq (u := .bool false) rfl rfl rfl (p_assign rfl) rfl ?_
              refine .done rfl ?_
              refine ac_ret ?_
              show Fin _ _ _ _ _ _ _
              exact fin_ret (Nat.le_of_ble_eq_true rfl) rfl (by obtain rfl := Option.some.inj h; rfl)
          · replace h := cond_f hc6 h
            refine rskip rfl (guard_at rfl rfl rfl rfl rfl) rfl ?_
            refine rskip rfl (guard_at rfl rfl rfl rfl rfl) rfl ?_
            refine rskip rfl (guard_at rfl rfl rfl rfl rfl) rfl ?_
            refine rskip rfl (guard_at rfl rfl rfl rfl rfl) rfl ?_
            refine rskip rfl (guard_at rfl rfl rfl rfl rfl) rfl ?_
            refine rq (u := .bool false) rfl rfl rfl (p_pick rfl rfl) rfl ?_
            refine rq (u := .bool false) rfl rfl rfl (p_move rfl) rfl ?_
            refine rskip rfl (guard_at rfl rfl rfl rfl rfl) rfl ?_
            refine rskip rfl (guard_at rfl rfl rfl rfl rfl) rfl ?_
            refine rskip rfl (guard_at rfl rfl rfl rfl rfl) rfl ?_
            refine rskip rfl (guard_at rfl rfl rfl rfl rfl) rfl ?_
            refine rskip rfl (guard_at rfl rfl rfl rfl rfl) rfl ?_
            refine rq (u := .bool false) rfl rfl rfl (p_pick rfl rfl) rfl ?_
            refine rq (u := .bool false) rfl rfl rfl (p_assign rfl) rfl ?_
            refine .done rfl ?_
            refine ac_ret ?_
            show Fin _ _ _ _ _ _ _
            exact fin_ret (Nat.le_of_ble_eq_true rfl) rfl (by obtain rfl := Option.some.inj h; rfl)
        · replace h := cond_f hc4 h
          refine rskip rfl (guard_at rfl rfl rfl rfl rfl) rfl ?_
          refine rskip rfl (guard_at rfl rfl rfl rfl rfl) rfl ?_
          refine rskip rfl (guard_at rfl rfl rfl rfl rfl) rfl ?_
          refine rskip rfl (guard_at rfl rfl rfl rfl rfl) rfl ?_
          refine rskip rfl (guard_at rfl rfl rfl rfl rfl) rfl ?_
          refine rq (u := .bool false) rfl rfl rfl (p_pick rfl rfl) rfl ?_
          refine rq (u := .bool false) rfl rfl rfl (p_move rfl) rfl ?_
          refine rskip rfl (guard_at rfl rfl rfl rfl rfl) rfl ?_
          refine rskip rfl (guard_at rfl rfl rfl rfl rfl) rfl ?_
          refine rskip rfl (guard_at rfl rfl rfl rfl rfl) rfl ?_
          refine rskip rfl (guard_at rfl rfl rfl rfl rfl) rfl ?_
          refine rskip rfl (guard_at rfl rfl rfl rfl rfl) rfl ?_
          refine rq (u := .bool false) rfl rfl rfl (p_pick rfl rfl) rfl ?_
          refine rq (u := .bool false) rfl rfl rfl (p_move rfl) rfl ?_
          refine rskip rfl (guard_at rfl rfl rfl rfl rfl) rfl ?_
          refine rskip rfl (guard_at rfl rfl rfl rfl rfl) rfl ?_
          refine rskip rfl (guard_at rfl rfl rfl rfl rfl) rfl ?_
          refine rskip rfl (guard_at rfl rfl rfl rfl rfl) rfl ?_
          refine rskip rfl (guard_at rfl rfl rfl rfl rfl) rfl ?_
          refine rq (u := .bool false) rfl rfl rfl (p_pick rfl rfl) rfl ?_
          refine rq (u := .bool false) rfl rfl rfl (p_assign rfl) rfl ?_
          refine .done rfl ?_
          refine ac_ret ?_
          show Fin _ _ _ _ _ _ _
          exact fin_ret (Nat.le_of_ble_eq_true rfl) rfl (by obtain rfl := Option.some.inj h; rfl)
      · replace h := cond_f hc2 h
        refine rskip rfl (guard_at rfl rfl rfl rfl rfl) rfl ?_
        refine rskip rfl (guard_at rfl rfl rfl rfl rfl) rfl ?_
        refine rskip rfl (guard_at rfl rfl rfl rfl rfl) rfl ?_
        refine rskip rfl (guard_at rfl rfl rfl rfl rfl) rfl ?_
        refine rskip rfl (guard_at rfl rfl rfl rfl rfl) rfl ?_
        refine rq (u := .bool false) rfl rfl rfl (p_pick rfl rfl) rfl ?_
        refine rq (u := .bool false) rfl rfl rfl (p_move rfl) rfl ?_
        refine rskip rfl (guard_at rfl rfl rfl rfl rfl) rfl ?_
        refine rskip rfl (guard_at rfl rfl rfl rfl rfl) rfl ?_
        refine rskip rfl (guard_at rfl rfl rfl rfl rfl) rfl ?_
        refine rskip rfl (guard_at rfl rfl rfl rfl rfl) rfl ?_
        refine rskip rfl (guard_at rfl rfl rfl rfl rfl) rfl ?_
        refine rq (u := .bool false) rfl rfl rfl (p_pick rfl rfl) rfl ?_
        refine rq (u := .bool false) rfl rfl rfl (p_move rfl) rfl ?_
        refine rskip rfl (guard_at rfl rfl rfl rfl rfl) rfl ?_
        refine rskip rfl (guard_at rfl rfl rfl rfl rfl) rfl ?_
        refine rskip rfl (guard_at rfl rfl rfl rfl rfl) rfl ?_
        refine rskip rfl (guard_at rfl rfl rfl rfl rfl) rfl ?_
        refine rskip rfl (guard_at rfl rfl rfl rfl rfl) rfl ?_
        refine rq (u := .bool false) rfl rfl rfl (p_pick rfl rfl) rfl ?_
        refine rq (u := .bool false) rfl rfl rfl (p_move rfl) rfl ?_
        refine rskip rfl (guard_at rfl rfl rfl rfl rfl) rfl ?_
        refine rskip rfl (guard_at rfl rfl rfl rfl rfl) rfl ?_
        refine rskip rfl (guard_at rfl rfl rfl rfl rfl) rfl ?_
        refine rskip rfl (guard_at rfl rfl rfl rfl rfl) rfl ?_
        refine rskip rfl (guard_at rfl rfl rfl rfl rfl) rfl ?_
        refine rq (u := .bool false) rfl rfl rfl (p_pick rfl rfl) rfl ?_
        refine rq (u := .bool false) rfl rfl rfl (p_assign rfl) rfl ?_
        refine .done rfl ?_
        refine ac_ret ?_
        show Fin _ _ _ _ _ _ _
        exact fin_ret (Nat.le_of_ble_eq_true rfl) rfl (by obtain rfl := Option.some.inj h; rfl)
    · replace h := cond_f hc1 h
      refine rskip rfl (guard_at rfl rfl rfl rfl rfl) rfl ?_
      refine rskip rfl (guard_at rfl rfl rfl rfl rfl) rfl ?_
      refine rskip rfl (guard_at rfl rfl rfl rfl rfl) rfl ?_
      refine rskip rfl (guard_at rfl rfl rfl rfl rfl) rfl ?_
      refine rskip rfl (guard_at rfl rfl rfl rfl rfl) rfl ?_
      refine rq (u := .bool false) rfl rfl rfl (p_pick rfl rfl) rfl ?_
      refine rq (u := .bool false) rfl rfl rfl (p_move rfl) rfl ?_
      refine rskip rfl (guard_at rfl rfl rfl rfl rfl) rfl ?_
      refine rskip rfl (guard_at rfl rfl rfl rfl rfl) rfl ?_
      refine rskip rfl (guard_at rfl rfl rfl rfl rfl) rfl ?_
      refine rskip rfl (guard_at rfl rfl rfl rfl rfl) rfl ?_
      refine rskip rfl (guard_at rfl rfl rfl rfl rfl) rfl ?_
      refine rq (u := .bool false) rfl rfl rfl (p_pick rfl rfl) rfl ?_
      refine rq (u := .bool false) rfl rfl rfl (p_move rfl) rfl ?_
      refine rskip rfl (guard_at rfl rfl rfl rfl rfl) rfl ?_
      refine rskip rfl (guard_at rfl rfl rfl rfl rfl) rfl ?_
      refine rskip rfl (guard_at rfl rfl rfl rfl rfl) rfl ?_
      refine rskip rfl (guard_at rfl rfl rfl rfl rfl) rfl ?_
      refine rskip rfl (guard_at rfl rfl rfl rfl rfl) rfl ?_
      refine rq (u := .bool false) rfl rfl rfl (p_pick rfl rfl) rfl ?_
      refine rq (u := .bool false) rfl rfl rfl (p_move rfl) rfl ?_
      refine rskip rfl (guard_at rfl rfl rfl rfl rfl) rfl ?_
      refine rskip rfl (guard_at rfl rfl rfl rfl rfl) rfl ?_
      refine rskip rfl (guard_at rfl rfl rfl rfl rfl) rfl ?_
      refine rskip rfl (guard_at rfl rfl rfl rfl rfl) rfl ?_
      refine rskip rfl (guard_at rfl rfl rfl rfl rfl) rfl ?_
      refine rq (u := .bool false) rfl rfl rfl (p_pick rfl rfl) rfl ?_
      refine rq (u := .bool false) rfl rfl rfl (p_move rfl) rfl ?_
      refine rskip rfl (guard_at rfl rfl rfl rfl rfl) rfl ?_
      refine rskip rfl (guard_at rfl rfl rfl rfl rfl) rfl ?_
      refine rskip rfl (guard_at rfl rfl rfl rfl rfl) rfl ?_
      refine rskip rfl (guard_at rfl rfl rfl rfl rfl) rfl ?_
      refine rskip rfl (guard_at rfl rfl rfl rfl rfl) rfl ?_
      refine rq (u := .bool false) rfl rfl rfl (p_pick rfl rfl) rfl ?_
      refine rq (u := .bool false) rfl rfl rfl (p_assign rfl) rfl ?_
      refine .done rfl ?_
      refine ac_ret ?_
      show Fin _ _ _ _ _ _ _
      exact fin_ret (Nat.le_of_ble_eq_true rfl) rfl (by obtain rfl := Option.some.inj h; rfl)

set_option maxRecDepth 20000 in
set_option maxHeartbeats 4000000 in
theorem law11_awake_fn : ∀ k : Nat, ∀ (r : Bool) (h : law11_awake k = some r), PFn Tryd.prog 7 [] (.bool r) := by
  intro k
  intro  r h
  rw [law11_awake] at h
  refine AFn.of Tryd.func7 rfl (Nat.le_of_ble_eq_true rfl) ?_
  refine ac_seq ?_
  refine ac_region rfl ?_
  refine rq (u := .bool false) rfl rfl rfl (p_assign rfl) rfl ?_
  refine .done rfl ?_
  refine ac_seq ?_
  refine ac_region rfl ?_
  refine rq (u := .func (.func 15) [] []) rfl rfl rfl (p_assign rfl) rfl ?_
  refine .done rfl ?_
  refine ac_seq ?_
  refine ac_region rfl ?_
  refine rq (u := .agg [.int .i64 17, .int .i64 17]) rfl rfl rfl (p_build (cs := [.int .i64 17, .int .i64 17]) zf_41 rfl rfl rfl nofun bf_41 rfl rfl) rfl ?_
  refine rq (u := .slice .full 2 ([(GRange.mk 17 17)].map GRange.enc)) rfl rfl rfl (p_bsliceS (xs := ([(GRange.mk 17 17)] : List GRange)) GRange.enc_eq (fun _ => rfl) sl_30 ⟨_, _, rfl, zf_41, rfl⟩ rfl rfl rfl rfl rfl rfl) rfl ?_
  refine rl (u := .agg [.int .i64 1, .int .i64 2, .slice .ro 2 ([(GRange.mk 17 17)].map GRange.enc), encF (some 0), encF (some 0), .slice .ro 6 []]) rfl rfl rfl (p_build (cs := [.int .i64 1, .int .i64 2, .slice .full 2 ([(GRange.mk 17 17)].map GRange.enc), encF (some 0), encF (some 0), .slice .full 0 []]) zf_33 rfl rfl rfl nofun bf_33 rfl rfl) (TVle.agg ⟨TVle.refl _, TVle.refl _, TVle.ro, TVle.refl _, TVle.refl _, TVle.nilro, trivial⟩) ?_
  refine ralloc (cs := [.int .i64 0, .int .i64 0, .slice .full 0 [], encF (some 0), encF (some 0), .slice .full 0 []]) zf_33 rfl rfl rfl rfl rfl rfl rfl nofun fun b1 => ?_
  refine rstore (j := 0) (us := [.int .i64 1, .int .i64 2, .slice .ro 2 ([(GRange.mk 17 17)].map GRange.enc), encF (some 0), encF (some 0), .slice .ro 6 []]) ti_33 rfl rfl rfl rfl rfl rfl rfl rfl nofun rfl (by simp only [allOne, List.all_cons, List.all_nil, one_fl]; rfl) (Nat.le_of_ble_eq_true rfl) ?_
  refine .done rfl ?_
  refine ac_seq ?_
  refine ac_region_draw mo rfl rfl rfl ?_
  refine rq (u := .func (.func 15) [] []) rfl rfl rfl (p_move rfl) rfl ?_
  obtain ⟨v1, hv1, h⟩ := bnd_some h
  refine rq (u := .agg (GExpr.cells v1)) rfl rfl rfl (p_pfnL en_15 (law11_awake_1_fn k 3 v1 hv1) rfl rfl (TVles.refl _)) rfl ?_
  refine rq (u := .func (.func 15) [] []) rfl rfl rfl (p_move rfl) rfl ?_
  obtain ⟨v2, hv2, h⟩ := bnd_some h
  refine rq (u := .agg (GExpr.cells v2)) rfl rfl rfl (p_pfnL en_15 (law11_awake_1_fn k 4 v2 hv2) rfl rfl (TVles.refl _)) rfl ?_
  refine rq (u := .slice .full 6 ([v1, v2].map GExpr.enc)) rfl rfl rfl (p_bsliceS (xs := ([v1, v2] : List GExpr)) GExpr.enc_eq (fun _ => rfl) sl_28 ⟨_, _, rfl, zf_33, rfl⟩ rfl rfl rfl rfl rfl rfl) rfl ?_
  refine rl (u := .agg [.int .i64 4, .int .i64 0, .slice .ro 2 [], encF (some 0), encF (some 0), .slice .ro 6 ([v1, v2].map GExpr.enc)]) rfl rfl rfl (p_build (cs := [.int .i64 4, .int .i64 0, .slice .full 0 [], encF (some 0), encF (some 0), .slice .full 6 ([v1, v2].map GExpr.enc)]) zf_33 rfl rfl rfl nofun bf_33 rfl rfl) (TVle.agg ⟨TVle.refl _, TVle.refl _, TVle.nilro, TVle.refl _, TVle.refl _, TVle.ro, trivial⟩) ?_
  refine rq (u := .slice .full 6 (([(GExpr.mk 4 0 [] (some 0) (some 0) [v1, v2])]).map GExpr.enc)) rfl rfl rfl (p_bsliceS (xs := ([(GExpr.mk 4 0 [] (some 0) (some 0) [v1, v2])] : List GExpr)) GExpr.enc_eq (fun _ => rfl) sl_28 ⟨_, _, rfl, zf_33, rfl⟩ rfl rfl rfl rfl rfl rfl) rfl ?_
  refine rl (u := .agg [.int .i64 2, .int .i64 0, .slice .ro 2 [], encF (some 0), encF (some 0), .slice .ro 6 (([(GExpr.mk 4 0 [] (some 0) (some 0) [v1, v2])]).map GExpr.enc)]) rfl rfl rfl (p_build (cs := [.int .i64 2, .int .i64 0, .slice .full 0 [], encF (some 0), encF (some 0), .slice .full 6 (([(GExpr.mk 4 0 [] (some 0) (some 0) [v1, v2])]).map GExpr.enc)]) zf_33 rfl rfl rfl nofun bf_33 rfl rfl) (TVle.agg ⟨TVle.refl _, TVle.refl _, TVle.nilro, TVle.refl _, TVle.refl _, TVle.ro, trivial⟩) ?_
  refine rq (u := .agg [.int .i64 1, .int .i64 2, .slice .ro 2 ([(GRange.mk 17 17)].map GRange.enc), encF (some 0), encF (some 0), .slice .ro 6 []]) rfl rfl rfl (p_load_ptr ti_33 nofun rfl rfl (.head _) (Nat.le_of_ble_eq_true rfl)) rfl ?_
  refine rq (u := .slice .full 6 (([(GExpr.mk 2 0 [] (some 0) (some 0) ([(GExpr.mk 4 0 [] (some 0) (some 0) [v1, v2])])), (GExpr.mk 1 2 [(GRange.mk 17 17)] (some 0) (some 0) [])]).map GExpr.enc)) rfl rfl rfl (p_bsliceS (xs := ([(GExpr.mk 2 0 [] (some 0) (some 0) ([(GExpr.mk 4 0 [] (some 0) (some 0) [v1, v2])])), (GExpr.mk 1 2 [(GRange.mk 17 17)] (some 0) (some 0) [])] : List GExpr)) GExpr.enc_eq (fun _ => rfl) sl_28 ⟨_, _, rfl, zf_33, rfl⟩ rfl rfl rfl rfl rfl rfl) rfl ?_
  refine rl (u := .agg [.int .i64 3, .int .i64 0, .slice .ro 2 [], encF (some 0), encF (some 0), .slice .ro 6 (([(GExpr.mk 2 0 [] (some 0) (some 0) ([(GExpr.mk 4 0 [] (some 0) (some 0) [v1, v2])])), (GExpr.mk 1 2 [(GRange.mk 17 17)] (some 0) (some 0) [])]).map GExpr.enc)]) rfl rfl rfl (p_build (cs := [.int .i64 3, .int .i64 0, .slice .full 0 [], encF (some 0), encF (some 0), .slice .full 6 (([(GExpr.mk 2 0 [] (some 0) (some 0) ([(GExpr.mk 4 0 [] (some 0) (some 0) [v1, v2])])), (GExpr.mk 1 2 [(GRange.mk 17 17)] (some 0) (some 0) [])]).map GExpr.enc)]) zf_33 rfl rfl rfl nofun bf_33 rfl rfl) (TVle.agg ⟨TVle.refl _, TVle.refl _, TVle.nilro, TVle.refl _, TVle.refl _, TVle.ro, trivial⟩) ?_
  refine rallocD (cs := [.int .i64 0, .int .i64 0, .slice .full 0 [], encF (some 0), encF (some 0), .slice .full 0 []]) zf_33 rfl rfl rfl rfl rfl rfl rfl nofun rfl fun b2 => ?_
  refine rstore (j := 0) (us := [.int .i64 3, .int .i64 0, .slice .ro 2 [], encF (some 0), encF (some 0), .slice .ro 6 (([(GExpr.mk 2 0 [] (some 0) (some 0) ([(GExpr.mk 4 0 [] (some 0) (some 0) [v1, v2])])), (GExpr.mk 1 2 [(GRange.mk 17 17)] (some 0) (some 0) [])]).map GExpr.enc)]) ti_33 rfl rfl rfl rfl rfl rfl rfl rfl nofun rfl (by simp only [allOne, List.all_cons, List.all_nil, one_fl]; rfl) (Nat.le_of_ble_eq_true rfl) ?_
  refine .done rfl ?_
  refine ac_seq ?_
  refine ac_region rfl ?_
  refine rq (u := .agg [.int .i64 3, .int .i64 0, .slice .ro 2 [], encF (some 0), encF (some 0), .slice .ro 6 (([(GExpr.mk 2 0 [] (some 0) (some 0) ([(GExpr.mk 4 0 [] (some 0) (some 0) [v1, v2])])), (GExpr.mk 1 2 [(GRange.mk 17 17)] (some 0) (some 0) [])]).map GExpr.enc)]) rfl rfl rfl (p_load_ptr ti_33 nofun rfl rfl (.head _) (Nat.le_of_ble_eq_true rfl)) rfl ?_
  refine rq (u := .agg [.bool true, .int .i64 3, .int .i64 0, .slice .ro 2 [], encF (some 0), encF (some 0), .slice .ro 6 (([(GExpr.mk 2 0 [] (some 0) (some 0) ([(GExpr.mk 4 0 [] (some 0) (some 0) [v1, v2])])), (GExpr.mk 1 2 [(GRange.mk 17 17)] (some 0) (some 0) [])]).map GExpr.enc), .int .i64 0, .int .i64 0, .int .i64 0, .int .i64 0]) rfl rfl rfl (p_build (cs := [.bool true, .int .i64 3, .int .i64 0, .slice .ro 2 [], encF (some 0), encF (some 0), .slice .ro 6 (([(GExpr.mk 2 0 [] (some 0) (some 0) ([(GExpr.mk 4 0 [] (some 0) (some 0) [v1, v2])])), (GExpr.mk 1 2 [(GRange.mk 17 17)] (some 0) (some 0) [])]).map GExpr.enc), .int .i64 0, .int .i64 0, .int .i64 0, .int .i64 0]) zf_39 rfl rfl rfl nofun bf_39 rfl rfl) rfl ?_
  refine rq (u := .slice .full 11 (([(GRule.mk true (GExpr.mk 3 0 [] (some 0) (some 0) ([(GExpr.mk 2 0 [] (some 0) (some 0) ([(GExpr.mk 4 0 [] (some 0) (some 0) [v1, v2])])), (GExpr.mk 1 2 [(GRange.mk 17 17)] (some 0) (some 0) [])])) (GRate.mk 0 0 0) 0)]).map GRule.enc)) rfl rfl rfl (p_bsliceS (xs := ([(GRule.mk true (GExpr.mk 3 0 [] (some 0) (some 0) ([(GExpr.mk 2 0 [] (some 0) (some 0) ([(GExpr.mk 4 0 [] (some 0) (some 0) [v1, v2])])), (GExpr.mk 1 2 [(GRange.mk 17 17)] (some 0) (some 0) [])])) (GRate.mk 0 0 0) 0)] : List GRule)) GRule.enc_eq (fun _ => rfl) sl_22 ⟨_, _, rfl, zf_39, rfl⟩ rfl rfl rfl rfl rfl rfl) rfl ?_
  obtain ⟨v3, hv3, h⟩ := bnd_some h
  refine rq (u := .tuple [.str v3.1, .bool v3.2]) rfl rfl rfl (p_pfnL en_8 (tree_Text_fn k ([(GRule.mk true (GExpr.mk 3 0 [] (some 0) (some 0) ([(GExpr.mk 2 0 [] (some 0) (some 0) ([(GExpr.mk 4 0 [] (some 0) (some 0) [v1, v2])])), (GExpr.mk 1 2 [(GRange.mk 17 17)] (some 0) (some 0) [])])) (GRate.mk 0 0 0) 0)]) v3 hv3) rfl rfl ⟨TVle.ro, trivial⟩) rfl ?_
  refine rq (u := .tuple [.str v3.1, .bool v3.2]) rfl rfl rfl (p_move rfl) rfl ?_
  refine rq (u := .str v3.1) rfl rfl rfl (p_extract rfl rfl rfl) rfl ?_
  refine rq (u := .bool v3.2) rfl rfl rfl (p_extract rfl rfl rfl) rfl ?_
  refine rq (u := .str v3.1) rfl rfl rfl (p_assign rfl) rfl ?_
  refine rq (u := .bool v3.2) rfl rfl rfl (p_assign rfl) rfl ?_
  refine .done rfl ?_
  refine ac_seq ?_
  refine ac_region rfl ?_
  refine rq (u := .bool v3.2) rfl rfl rfl (p_move rfl) rfl ?_
  refine rq (u := .bool v3.2) rfl rfl rfl (p_move rfl) rfl ?_
  refine rcase 28 rfl (fun hc4 => ?_) (fun hc4 => ?_)
  · replace h := cond_t hc4 h
    refine rq (u := .str v3.1) rfl (guard_at rfl rfl rfl rfl rfl) rfl (p_move rfl) rfl ?_
    refine rq (u := .bool (v3.1.toList == (⟨#[97, 108, 108, 111, 119, 32, 119, 104, 101, 110, 32, 110, 111, 116, 32, 40, 102, 117, 110, 99, 32, 51, 32, 111, 114, 32, 102, 117, 110, 99, 32, 52, 41, 32, 97, 110, 100, 32, 117, 110, 105, 116, 32, 49, 55, 59, 10]⟩ : ByteArray).toList)) rfl (guard_at rfl rfl rfl rfl rfl) rfl (p_seql rfl rfl rfl) rfl ?_
    refine rq (u := .bool (v3.1.toList == (⟨#[97, 108, 108, 111, 119, 32, 119, 104, 101, 110, 32, 110, 111, 116, 32, 40, 102, 117, 110, 99, 32, 51, 32, 111, 114, 32, 102, 117, 110, 99, 32, 52, 41, 32, 97, 110, 100, 32, 117, 110, 105, 116, 32, 49, 55, 59, 10]⟩ : ByteArray).toList)) rfl rfl rfl (p_pick rfl rfl) rfl ?_
    refine rq (u := .bool (v3.1.toList == (⟨#[97, 108, 108, 111, 119, 32, 119, 104, 101, 110, 32, 110, 111, 116, 32, 40, 102, 117, 110, 99, 32, 51, 32, 111, 114, 32, 102, 117, 110, 99, 32, 52, 41, 32, 97, 110, 100, 32, 117, 110, 105, 116, 32, 49, 55, 59, 10]⟩ : ByteArray).toList)) rfl rfl rfl (p_move rfl) rfl ?_
    refine rcase 32 rfl (fun hc5 => ?_) (fun hc5 => ?_)
    · replace h := cond_t hc5 h
      refine rq (u := .agg [.int .i64 3, .int .i64 0, .slice .ro 2 [], encF (some 0), encF (some 0), .slice .ro 6 (([(GExpr.mk 2 0 [] (some 0) (some 0) ([(GExpr.mk 4 0 [] (some 0) (some 0) [v1, v2])])), (GExpr.mk 1 2 [(GRange.mk 17 17)] (some 0) (some 0) [])]).map GExpr.enc)]) rfl (guard_at rfl rfl rfl rfl rfl) rfl (p_load_ptr ti_33 nofun rfl rfl (.head _) (Nat.le_of_ble_eq_true rfl)) rfl ?_
      obtain ⟨v6, hv6, h⟩ := bnd_some h
      refine rq (u := .bool v6) rfl (guard_at rfl rfl rfl rfl rfl) rfl (p_pfnL en_16 (tree_Right_fn k (GExpr.mk 3 0 [] (some 0) (some 0) ([(GExpr.mk 2 0 [] (some 0) (some 0) ([(GExpr.mk 4 0 [] (some 0) (some 0) [v1, v2])])), (GExpr.mk 1 2 [(GRange.mk 17 17)] (some 0) (some 0) [])])) v6 hv6) rfl rfl ⟨(TVle.agg ⟨TVle.refl _, TVle.refl _, TVle.nilro, TVle.refl _, TVle.refl _, TVle.refl _, trivial⟩), trivial⟩) rfl ?_
      refine rq (u := .bool v6) rfl rfl rfl (p_pick rfl rfl) rfl ?_
      refine rq (u := .bool v6) rfl rfl rfl (p_move rfl) rfl ?_
      refine rcase 36 rfl (fun hc7 => ?_) (fun hc7 => ?_)
      · replace h := cond_t hc7 h
        refine rq (u := .agg [.int .i64 3, .int .i64 0, .slice .ro 2 [], encF (some 0), encF (some 0), .slice .ro 6 (([(GExpr.mk 2 0 [] (some 0) (some 0) ([(GExpr.mk 4 0 [] (some 0) (some 0) [v1, v2])])), (GExpr.mk 1 2 [(GRange.mk 17 17)] (some 0) (some 0) [])]).map GExpr.enc)]) rfl (guard_at rfl rfl rfl rfl rfl) rfl (p_load_ptr ti_33 nofun rfl rfl (.head _) (Nat.le_of_ble_eq_true rfl)) rfl ?_
        obtain ⟨v8, hv8, h⟩ := bnd_some h
        refine rq (u := .int .i64 v8) rfl (guard_at rfl rfl rfl rfl rfl) rfl (p_pfnL en_11 (tree_Atoms_fn k (GExpr.mk 3 0 [] (some 0) (some 0) ([(GExpr.mk 2 0 [] (some 0) (some 0) ([(GExpr.mk 4 0 [] (some 0) (some 0) [v1, v2])])), (GExpr.mk 1 2 [(GRange.mk 17 17)] (some 0) (some 0) [])])) v8 hv8) rfl rfl ⟨(TVle.agg ⟨TVle.refl _, TVle.refl _, TVle.nilro, TVle.refl _, TVle.refl _, TVle.refl _, trivial⟩), trivial⟩) rfl ?_
        refine rq (u := .bool (v8 == 3)) rfl (guard_at rfl rfl rfl rfl rfl) rfl (p_eql rfl rfl rfl) rfl ?_
        refine rq (u := .bool (v8 == 3)) rfl rfl rfl (p_pick rfl rfl) rfl ?_
        refine rq (u := .bool (v8 == 3)) rfl rfl rfl (p_move rfl) rfl ?_
        refine rcase 41 rfl (fun hc9 => ?_) (fun hc9 => ?_)
        · replace h := cond_t hc9 h
          refine rq (u := .agg [.int .i64 3, .int .i64 0, .slice .ro 2 [], encF (some 0), encF (some 0), .slice .ro 6 (([(GExpr.mk 2 0 [] (some 0) (some 0) ([(GExpr.mk 4 0 [] (some 0) (some 0) [v1, v2])])), (GExpr.mk 1 2 [(GRange.mk 17 17)] (some 0) (some 0) [])]).map GExpr.enc)]) rfl (guard_at rfl rfl rfl rfl rfl) rfl (p_load_ptr ti_33 nofun rfl rfl (.head _) (Nat.le_of_ble_eq_true rfl)) rfl ?_
          obtain ⟨v10, hv10, h⟩ := bnd_some h
          refine rq (u := .int .i64 v10) rfl (guard_at rfl rfl rfl rfl rfl) rfl (p_pfnL en_12 (tree_Deep_fn k (GExpr.mk 3 0 [] (some 0) (some 0) ([(GExpr.mk 2 0 [] (some 0) (some 0) ([(GExpr.mk 4 0 [] (some 0) (some 0) [v1, v2])])), (GExpr.mk 1 2 [(GRange.mk 17 17)] (some 0) (some 0) [])])) v10 hv10) rfl rfl ⟨(TVle.agg ⟨TVle.refl _, TVle.refl _, TVle.nilro, TVle.refl _, TVle.refl _, TVle.refl _, trivial⟩), trivial⟩) rfl ?_
          refine rq (u := .bool (v10 == 3)) rfl (guard_at rfl rfl rfl rfl rfl) rfl (p_eql rfl rfl rfl) rfl ?_
          refine rq (u := .bool (v10 == 3)) rfl rfl rfl (p_pick rfl rfl) rfl ?_
          refine rq (u := .bool (v10 == 3)) rfl rfl rfl (p_move rfl) rfl ?_
          refine rcase 46 rfl (fun hc11 => ?_) (fun hc11 => ?_)
          · replace h := cond_t hc11 h
            refine rq (u := .agg [.int .i64 3, .int .i64 0, .slice .ro 2 [], encF (some 0), encF (some 0), .slice .ro 6 (([(GExpr.mk 2 0 [] (some 0) (some 0) ([(GExpr.mk 4 0 [] (some 0) (some 0) [v1, v2])])), (GExpr.mk 1 2 [(GRange.mk 17 17)] (some 0) (some 0) [])]).map GExpr.enc)]) rfl (guard_at rfl rfl rfl rfl rfl) rfl (p_load_ptr ti_33 nofun rfl rfl (.head _) (Nat.le_of_ble_eq_true rfl)) rfl ?_
            refine rq (u := .agg [.int .i64 3, .int .i64 0, .slice .ro 2 [], encF (some 0), encF (some 0), .slice .ro 6 (([(GExpr.mk 2 0 [] (some 0) (some 0) ([(GExpr.mk 4 0 [] (some 0) (some 0) [v1, v2])])), (GExpr.mk 1 2 [(GRange.mk 17 17)] (some 0) (some 0) [])]).map GExpr.enc)]) rfl (guard_at rfl rfl rfl rfl rfl) rfl (p_load_ptr ti_33 nofun rfl rfl (.head _) (Nat.le_of_ble_eq_true rfl)) rfl ?_
            obtain ⟨v12, hv12, h⟩ := bnd_some h
            refine rq (u := .bool v12) rfl (guard_at rfl rfl rfl rfl rfl) rfl (p_pfnL en_17 (tree_Same_fn k (GExpr.mk 3 0 [] (some 0) (some 0) ([(GExpr.mk 2 0 [] (some 0) (some 0) ([(GExpr.mk 4 0 [] (some 0) (some 0) [v1, v2])])), (GExpr.mk 1 2 [(GRange.mk 17 17)] (some 0) (some 0) [])])) (GExpr.mk 3 0 [] (some 0) (some 0) ([(GExpr.mk 2 0 [] (some 0) (some 0) ([(GExpr.mk 4 0 [] (some 0) (some 0) [v1, v2])])), (GExpr.mk 1 2 [(GRange.mk 17 17)] (some 0) (some 0) [])])) v12 hv12) rfl rfl ⟨(TVle.agg ⟨TVle.refl _, TVle.refl _, TVle.nilro, TVle.refl _, TVle.refl _, TVle.refl _, trivial⟩), (TVle.agg ⟨TVle.refl _, TVle.refl _, TVle.nilro, TVle.refl _, TVle.refl _, TVle.refl _, trivial⟩), trivial⟩) rfl ?_
            refine rq (u := .bool v12) rfl rfl rfl (p_pick rfl rfl) rfl ?_
            refine rq (u := .bool v12) rfl rfl rfl (p_assign rfl) rfl ?_
            refine .done rfl ?_
            refine ac_ret ?_
            show Fin _ _ _ _ _ _ _
            exact fin_ret (Nat.le_of_ble_eq_true rfl) rfl (by obtain rfl := Option.some.inj h; rfl)
          · replace h := cond_f hc11 h
            refine rskip rfl (guard_at rfl rfl rfl rfl rfl) rfl ?_
            refine rskip rfl (guard_at rfl rfl rfl rfl rfl) rfl ?_
            refine rskip rfl (guard_at rfl rfl rfl rfl rfl) rfl ?_
            refine rq (u := .bool false) rfl rfl rfl (p_pick rfl rfl) rfl ?_
            refine rq (u := .bool false) rfl rfl rfl (p_assign rfl) rfl ?_
            refine .done rfl ?_
            refine ac_ret ?_
            show Fin _ _ _ _ _ _ _
            exact fin_ret (Nat.le_of_ble_eq_true rfl) rfl (by obtain rfl := Option.some.inj h; rfl)
        · replace h := cond_f hc9 h
          refine rskip rfl (guard_at rfl rfl rfl rfl rfl) rfl ?_
          refine rskip rfl (guard_at rfl rfl rfl rfl rfl) rfl ?_
          refine rskip rfl (guard_at rfl rfl rfl rfl rfl) rfl ?_
          refine rq (u := .bool false) rfl rfl rfl (p_pick rfl rfl) rfl ?_
          refine rq (u := .bool false) rfl rfl rfl (p_move rfl) rfl ?_
          refine rskip rfl (guard_at rfl rfl rfl rfl rfl) rfl ?_
          refine rskip rfl (guard_at rfl rfl rfl rfl rfl) rfl ?_
          refine rskip rfl (guard_at rfl rfl rfl rfl rfl) rfl ?_
          refine rq (u := .bool false) rfl rfl rfl (p_pick rfl rfl) rfl ?_
          refine rq (u := .bool false) rfl rfl rfl (p_assign rfl) rfl ?_
          refine .done rfl ?_
          refine ac_ret ?_
          show Fin _ _ _ _ _ _ _
          exact fin_ret (Nat.le_of_ble_eq_true rfl) rfl (by obtain rfl := Option.some.inj h; rfl)
      · replace h := cond_f hc7 h
        refine rskip rfl (guard_at rfl rfl rfl rfl rfl) rfl ?_
        refine rskip rfl (guard_at rfl rfl rfl rfl rfl) rfl ?_
        refine rskip rfl (guard_at rfl rfl rfl rfl rfl) rfl ?_
        refine rq (u := .bool false) rfl rfl rfl (p_pick rfl rfl) rfl ?_
        refine rq (u := .bool false) rfl rfl rfl (p_move rfl) rfl ?_
        refine rskip rfl (guard_at rfl rfl rfl rfl rfl) rfl ?_
        refine rskip rfl (guard_at rfl rfl rfl rfl rfl) rfl ?_
        refine rskip rfl (guard_at rfl rfl rfl rfl rfl) rfl ?_
        refine rq (u := .bool false) rfl rfl rfl (p_pick rfl rfl) rfl ?_
        refine rq (u := .bool false) rfl rfl rfl (p_move rfl) rfl ?_
        refine rskip rfl (guard_at rfl rfl rfl rfl rfl) rfl ?_
        refine rskip rfl (guard_at rfl rfl rfl rfl rfl) rfl ?_
        refine rskip rfl (guard_at rfl rfl rfl rfl rfl) rfl ?_
        refine rq (u := .bool false) rfl rfl rfl (p_pick rfl rfl) rfl ?_
        refine rq (u := .bool false) rfl rfl rfl (p_assign rfl) rfl ?_
        refine .done rfl ?_
        refine ac_ret ?_
        show Fin _ _ _ _ _ _ _
        exact fin_ret (Nat.le_of_ble_eq_true rfl) rfl (by obtain rfl := Option.some.inj h; rfl)
    · replace h := cond_f hc5 h
      refine rskip rfl (guard_at rfl rfl rfl rfl rfl) rfl ?_
      refine rskip rfl (guard_at rfl rfl rfl rfl rfl) rfl ?_
      refine rq (u := .bool false) rfl rfl rfl (p_pick rfl rfl) rfl ?_
      refine rq (u := .bool false) rfl rfl rfl (p_move rfl) rfl ?_
      refine rskip rfl (guard_at rfl rfl rfl rfl rfl) rfl ?_
      refine rskip rfl (guard_at rfl rfl rfl rfl rfl) rfl ?_
      refine rskip rfl (guard_at rfl rfl rfl rfl rfl) rfl ?_
      refine rq (u := .bool false) rfl rfl rfl (p_pick rfl rfl) rfl ?_
      refine rq (u := .bool false) rfl rfl rfl (p_move rfl) rfl ?_
      refine rskip rfl (guard_at rfl rfl rfl rfl rfl) rfl ?_
      refine rskip rfl (guard_at rfl rfl rfl rfl rfl) rfl ?_
      refine rskip rfl (guard_at rfl rfl rfl rfl rfl) rfl ?_
      refine rq (u := .bool false) rfl rfl rfl (p_pick rfl rfl) rfl ?_
      refine rq (u := .bool false) rfl rfl rfl (p_move rfl) rfl ?_
      refine rskip rfl (guard_at rfl rfl rfl rfl rfl) rfl ?_
      refine rskip rfl (guard_at rfl rfl rfl rfl rfl) rfl ?_
      refine rskip rfl (guard_at rfl rfl rfl rfl rfl) rfl ?_
      refine rq (u := .bool false) rfl rfl rfl (p_pick rfl rfl) rfl ?_
      refine rq (u := .bool false) rfl rfl rfl (p_assign rfl) rfl ?_
      refine .done rfl ?_
      refine ac_ret ?_
      show Fin _ _ _ _ _ _ _
      exact fin_ret (Nat.le_of_ble_eq_true rfl) rfl (by obtain rfl := Option.some.inj h; rfl)
  · replace h := cond_f hc4 h
    refine rskip rfl (guard_at rfl rfl rfl rfl rfl) rfl ?_
    refine rskip rfl (guard_at rfl rfl rfl rfl rfl) rfl ?_
    refine rq (u := .bool false) rfl rfl rfl (p_pick rfl rfl) rfl ?_
    refine rq (u := .bool false) rfl rfl rfl (p_move rfl) rfl ?_
    refine rskip rfl (guard_at rfl rfl rfl rfl rfl) rfl ?_
    refine rskip rfl (guard_at rfl rfl rfl rfl rfl) rfl ?_
    refine rq (u := .bool false) rfl rfl rfl (p_pick rfl rfl) rfl ?_
    refine rq (u := .bool false) rfl rfl rfl (p_move rfl) rfl ?_
    refine rskip rfl (guard_at rfl rfl rfl rfl rfl) rfl ?_
    refine rskip rfl (guard_at rfl rfl rfl rfl rfl) rfl ?_
    refine rskip rfl (guard_at rfl rfl rfl rfl rfl) rfl ?_
    refine rq (u := .bool false) rfl rfl rfl (p_pick rfl rfl) rfl ?_
    refine rq (u := .bool false) rfl rfl rfl (p_move rfl) rfl ?_
    refine rskip rfl (guard_at rfl rfl rfl rfl rfl) rfl ?_
    refine rskip rfl (guard_at rfl rfl rfl rfl rfl) rfl ?_
    refine rskip rfl (guard_at rfl rfl rfl rfl rfl) rfl ?_
    refine rq (u := .bool false) rfl rfl rfl (p_pick rfl rfl) rfl ?_
    refine rq (u := .bool false) rfl rfl rfl (p_move rfl) rfl ?_
    refine rskip rfl (guard_at rfl rfl rfl rfl rfl) rfl ?_
    refine rskip rfl (guard_at rfl rfl rfl rfl rfl) rfl ?_
    refine rskip rfl (guard_at rfl rfl rfl rfl rfl) rfl ?_
    refine rq (u := .bool false) rfl rfl rfl (p_pick rfl rfl) rfl ?_
    refine rq (u := .bool false) rfl rfl rfl (p_assign rfl) rfl ?_
    refine .done rfl ?_
    refine ac_ret ?_
    show Fin _ _ _ _ _ _ _
    exact fin_ret (Nat.le_of_ble_eq_true rfl) rfl (by obtain rfl := Option.some.inj h; rfl)

set_option maxRecDepth 20000 in
set_option maxHeartbeats 4000000 in
theorem ref04_Same_fn : ∀ k : Nat, ∀ (a_0 : List GRange) (b_1 : List GRange) (r : Bool) (h : ref04_Same k a_0 b_1 = some r), PFn Tryd.prog 38 [.slice .ro 2 (a_0.map GRange.enc), .slice .ro 2 (b_1.map GRange.enc)] (.bool r) := by
  intro k
  intro a_0 b_1 r h
  rw [ref04_Same] at h
  refine AFn.of Tryd.func38 rfl (Nat.le_of_ble_eq_true rfl) ?_
  refine ac_seq ?_
  refine ac_region rfl ?_
  refine rq (u := .bool false) rfl rfl rfl (p_assign rfl) rfl ?_
  refine .done rfl ?_
  refine ac_seq ?_
  refine ac_seq ?_
  refine ac_region rfl ?_
  refine rq (u := .slice .ro 2 (a_0.map GRange.enc)) rfl rfl rfl (p_move rfl) rfl ?_
  refine rq (u := .int .i64 (a_0.length : Int)) rfl rfl rfl (p_lenm is_30 rfl rfl) rfl ?_
  refine rq (u := .slice .ro 2 (b_1.map GRange.enc)) rfl rfl rfl (p_move rfl) rfl ?_
  refine rq (u := .int .i64 (b_1.length : Int)) rfl rfl rfl (p_lenm is_30 rfl rfl) rfl ?_
  refine rq (u := .bool ((a_0.length : Int) != (b_1.length : Int))) rfl rfl rfl (p_neq rfl rfl rfl) rfl ?_
  refine .done rfl ?_
  refine ac_cond rfl rfl (fun hc8 => ?_) (fun hc8 => ?_)
  · replace h := cond_t hc8 h
    refine ac_seq ?_
    refine ac_region rfl ?_
    refine rq (u := .bool false) rfl rfl rfl (p_assign rfl) rfl ?_
    refine .done rfl ?_
    refine ac_ret ?_
    show Fin _ _ _ _ _ _ _
    exact fin_ret (Nat.le_of_ble_eq_true rfl) rfl (by obtain rfl := Option.some.inj h; rfl)
  · replace h := cond_f hc8 h
    refine ac_skip ?_
    refine ac_seq ?_
    refine ac_seq ?_
    refine ac_region rfl ?_
    refine rq (u := .int .i64 0) rfl rfl rfl (p_assign rfl) rfl ?_
    refine .done rfl ?_
    refine ac_block ?_
    refine ac_turns (σ := Nat × Int) (fun (⟨m2, x1⟩ : Nat × Int) => [(0, .slice .ro 2 (a_0.map GRange.enc)), (1, .slice .ro 2 (b_1.map GRange.enc)), (4, .bool false), (5, .int .i64 x1), (6, .slice .ro 2 (a_0.map GRange.enc)), (7, .int .i64 (a_0.length : Int)), (8, .slice .ro 2 (b_1.map GRange.enc)), (9, .int .i64 (b_1.length : Int)), (10, .bool ((a_0.length : Int) != (b_1.length : Int)))]) (fun (⟨m2, x1⟩ : Nat × Int) => []) (fun x => x.1) (fun (⟨m2, x1⟩ : Nat × Int) => ref04_Same_L0 a_0 b_1 (fun x7 => some true) m2 x1 = some r) ⟨k, 0⟩ h ⟨TVle.refl _, TVle.refl _, TVle.refl _, TVle.refl _, TVle.refl _, TVle.refl _, TVle.refl _, TVle.refl _, TVle.refl _, trivial⟩ (ResLe.refl _) ?_
    rintro ⟨m2, x1⟩ h
    replace h : ref04_Same_L0 a_0 b_1 (fun x7 => some true) m2 x1 = some r := h
    show ACode _ _ _ [(0, .slice .ro 2 (a_0.map GRange.enc)), (1, .slice .ro 2 (b_1.map GRange.enc)), (4, .bool false), (5, .int .i64 x1), (6, .slice .ro 2 (a_0.map GRange.enc)), (7, .int .i64 (a_0.length : Int)), (8, .slice .ro 2 (b_1.map GRange.enc)), (9, .int .i64 (b_1.length : Int)), (10, .bool ((a_0.length : Int) != (b_1.length : Int)))] [] _
    cases m2 with
    | zero => rw [ref04_Same_L0] at h; cases h
    | succ m2 =>
      rw [ref04_Same_L0] at h
      refine ac_seq ?_
      refine ac_seq ?_
      refine ac_region rfl ?_
      refine rq (u := .int .i64 x1) rfl rfl rfl (p_move rfl) rfl ?_
      refine rq (u := .slice .ro 2 (a_0.map GRange.enc)) rfl rfl rfl (p_move rfl) rfl ?_
      refine rq (u := .int .i64 (a_0.length : Int)) rfl rfl rfl (p_lenm is_30 rfl rfl) rfl ?_
      refine rq (u := .bool (decide (x1 < (a_0.length : Int)))) rfl rfl rfl (p_lss rfl rfl rfl) rfl ?_
      refine .done rfl ?_
      refine ac_cond rfl rfl (fun hc6 => ?_) (fun hc6 => ?_)
      · replace h := cond_t hc6 h
        refine ac_skip ?_
        refine ac_seq ?_
        refine ac_block ?_
        refine ac_seq ?_
        refine ac_region_draw mo rfl rfl rfl ?_
        refine rq (u := .slice .ro 2 (a_0.map GRange.enc)) rfl rfl rfl (p_move rfl) rfl ?_
        refine rq (u := .int .i64 x1) rfl rfl rfl (p_move rfl) rfl ?_
        obtain ⟨v3, hv3, h⟩ := bnd_some h
        refine rq (u := .rptr [.int .i64 v3.Low, .int .i64 v3.High]) rfl rfl rfl (p_ix GRange.enc_eq sl_30 hv3 rfl rfl rfl) rfl ?_
        refine rq (u := .agg (GRange.cells v3)) rfl rfl rfl (p_load_rptr ti_41 nofun rfl rfl (Nat.le_of_ble_eq_true rfl)) rfl ?_
        refine rq (u := .slice .ro 2 (b_1.map GRange.enc)) rfl rfl rfl (p_move rfl) rfl ?_
        refine rq (u := .int .i64 x1) rfl rfl rfl (p_move rfl) rfl ?_
        obtain ⟨v4, hv4, h⟩ := bnd_some h
        refine rq (u := .rptr [.int .i64 v4.Low, .int .i64 v4.High]) rfl rfl rfl (p_ix GRange.enc_eq sl_30 hv4 rfl rfl rfl) rfl ?_
        refine rq (u := .agg (GRange.cells v4)) rfl rfl rfl (p_load_rptr ti_41 nofun rfl rfl (Nat.le_of_ble_eq_true rfl)) rfl ?_
        refine rq (u := .bool (!((v3.Low == v4.Low) && ((v3.High == v4.High) && true)))) rfl rfl rfl (p_ane eu_41 eh_41 eg_41 (eqs_41) rfl rfl rfl) rfl ?_
        refine .done rfl ?_
        refine ac_cond rfl rfl (fun hc5 => ?_) (fun hc5 => ?_)
        · replace h := cond_t hc5 h
          refine ac_seq ?_
          refine ac_region rfl ?_
          refine rq (u := .bool false) rfl rfl rfl (p_assign rfl) rfl ?_
          refine .done rfl ?_
          refine ac_ret ?_
          show Fin _ _ _ _ _ _ _
          exact fin_ret (Nat.le_of_ble_eq_true rfl) rfl (by obtain rfl := Option.some.inj h; rfl)
        · replace h := cond_f hc5 h
          refine ac_skip ?_
          refine ac_region rfl ?_
          refine rq (u := .int .i64 x1) rfl rfl rfl (p_move rfl) rfl ?_
          refine rq (u := .int .i64 (IntKind.wrap .i64 (x1 + 1))) rfl rfl rfl (p_add rfl rfl rfl) rfl ?_
          refine rq (u := .int .i64 (IntKind.wrap .i64 (x1 + 1))) rfl rfl rfl (p_assign rfl) rfl ?_
          refine .done rfl ?_
          exact ⟨⟨m2, (IntKind.wrap .i64 (x1 + 1))⟩, h, Nat.lt_succ_self _, ⟨TVle.refl _, TVle.refl _, TVle.refl _, TVle.refl _, TVle.refl _, TVle.refl _, TVle.refl _, TVle.refl _, TVle.refl _, trivial⟩, (ResLe.refl _)⟩
      · replace h := cond_f hc6 h
        refine ac_exit ?_
        refine ac_seq ?_
        refine ac_region rfl ?_
        refine rq (u := .bool true) rfl rfl rfl (p_assign rfl) rfl ?_
        refine .done rfl ?_
        refine ac_ret ?_
        show Fin _ _ _ _ _ _ _
        exact fin_ret (Nat.le_of_ble_eq_true rfl) rfl (by obtain rfl := Option.some.inj h; rfl)

set_option maxRecDepth 20000 in
set_option maxHeartbeats 4000000 in
theorem ref03_Minus_fn : ∀ k : Nat, ∀ (x_0 : Fl) (r : Bool) (h : ref03_Minus k x_0 = some r), PFn Tryd.prog 58 [encF x_0] (.bool r) := by
  intro k
  intro x_0 r h
  rw [ref03_Minus] at h
  refine AFn.of Tryd.func58 rfl (Nat.le_of_ble_eq_true rfl) ?_
  refine ac_seq ?_
  refine ac_region rfl ?_
  refine rq (u := .bool false) rfl rfl rfl (p_assign rfl) rfl ?_
  refine .done rfl ?_
  refine ac_seq ?_
  refine ac_region rfl ?_
  refine rq (u := encF x_0) rfl rfl rfl (p_move rfl) rfl ?_
  refine rq (u := .bool (Fl.lt x_0 (some 0))) rfl rfl rfl (p_flt rfl rfl rfl) rfl ?_
  refine rq (u := .bool (Fl.lt x_0 (some 0))) rfl rfl rfl (p_move rfl) rfl ?_
  refine rcase 5 rfl (fun hc1 => ?_) (fun hc1 => ?_)
  · replace h := cond_t hc1 h
    refine rskip rfl (guard_at rfl rfl rfl rfl rfl) rfl ?_
    refine rskip rfl (guard_at rfl rfl rfl rfl rfl) rfl ?_
    refine rskip rfl (guard_at rfl rfl rfl rfl rfl) rfl ?_
    refine rskip rfl (guard_un rfl rfl rfl rfl) rfl ?_
    refine rskip rfl (guard_un rfl rfl rfl rfl) rfl ?_
    refine rskip rfl (guard_un rfl rfl rfl rfl) rfl ?_
    refine rskip rfl (guard_at rfl rfl rfl rfl rfl) rfl ?_
    refine rq (u := .bool true) rfl rfl rfl (p_pick rfl rfl) rfl ?_
    refine rq (u := .bool true) rfl rfl rfl (p_assign rfl) rfl ?_
    refine .done rfl ?_
    refine ac_ret ?_
    show Fin _ _ _ _ _ _ _
    exact fin_ret (Nat.le_of_ble_eq_true rfl) rfl (by obtain rfl := Option.some.inj h; rfl)
  · replace h := cond_f hc1 h
    refine rq (u := encF x_0) rfl (guard_at rfl rfl rfl rfl rfl) rfl (p_move rfl) rfl ?_
    refine rq (u := .bool (Fl.eq x_0 (some 0))) rfl (guard_at rfl rfl rfl rfl rfl) rfl (p_feq rfl rfl rfl) rfl ?_
    refine rq (u := .bool (Fl.eq x_0 (some 0))) rfl (guard_at rfl rfl rfl rfl rfl) rfl (p_move rfl) rfl ?_
    refine rcase 8 rfl (fun hc2 => ?_) (fun hc2 => ?_)
    · replace h := cond_t hc2 h
      refine rq (u := encF x_0) rfl (guard_at rfl rfl rfl rfl rfl) rfl (p_move rfl) rfl ?_
      refine rq (u := encF (Fl.div (some 4607182418800017408) x_0)) rfl (guard_at rfl rfl rfl rfl rfl) rfl (p_fdiv rfl rfl rfl) rfl ?_
      refine rq (u := .bool (Fl.lt (Fl.div (some 4607182418800017408) x_0) (some 0))) rfl (guard_at rfl rfl rfl rfl rfl) rfl (p_flt rfl rfl rfl) rfl ?_
      refine rq (u := .bool (Fl.lt (Fl.div (some 4607182418800017408) x_0) (some 0))) rfl (guard_at rfl rfl rfl rfl rfl) rfl (p_pick rfl rfl) rfl ?_
      refine rq (u := .bool (Fl.lt (Fl.div (some 4607182418800017408) x_0) (some 0))) rfl rfl rfl (p_pick rfl rfl) rfl ?_
      refine rq (u := .bool (Fl.lt (Fl.div (some 4607182418800017408) x_0) (some 0))) rfl rfl rfl (p_assign rfl) rfl ?_
      refine .done rfl ?_
      refine ac_ret ?_
      show Fin _ _ _ _ _ _ _
      exact fin_ret (Nat.le_of_ble_eq_true rfl) rfl (by obtain rfl := Option.some.inj h; rfl)
    · replace h := cond_f hc2 h
      refine rskip rfl (guard_at rfl rfl rfl rfl rfl) rfl ?_
      refine rskip rfl (guard_at rfl rfl rfl rfl rfl) rfl ?_
      refine rskip rfl (guard_at rfl rfl rfl rfl rfl) rfl ?_
      refine rq (u := .bool false) rfl (guard_at rfl rfl rfl rfl rfl) rfl (p_pick rfl rfl) rfl ?_
      refine rq (u := .bool false) rfl rfl rfl (p_pick rfl rfl) rfl ?_
      refine rq (u := .bool false) rfl rfl rfl (p_assign rfl) rfl ?_
      refine .done rfl ?_
      refine ac_ret ?_
      show Fin _ _ _ _ _ _ _
      exact fin_ret (Nat.le_of_ble_eq_true rfl) rfl (by obtain rfl := Option.some.inj h; rfl)

set_option maxRecDepth 20000 in
set_option maxHeartbeats 4000000 in
theorem ref03_Same_fn : ∀ k : Nat, ∀ (a_0 : Fl) (b_1 : Fl) (r : Bool) (h : ref03_Same k a_0 b_1 = some r), PFn Tryd.prog 39 [encF a_0, encF b_1] (.bool r) := by
  intro k
  intro a_0 b_1 r h
  rw [ref03_Same] at h
  refine AFn.of Tryd.func39 rfl (Nat.le_of_ble_eq_true rfl) ?_
  refine ac_seq ?_
  refine ac_region rfl ?_
  refine rq (u := .bool false) rfl rfl rfl (p_assign rfl) rfl ?_
  refine .done rfl ?_
  refine ac_seq ?_
  refine ac_seq ?_
  refine ac_region rfl ?_
  refine rq (u := encF a_0) rfl rfl rfl (p_move rfl) rfl ?_
  refine rq (u := encF a_0) rfl rfl rfl (p_move rfl) rfl ?_
  refine rq (u := .bool (Fl.ne a_0 a_0)) rfl rfl rfl (p_fne rfl rfl rfl) rfl ?_
  refine rq (u := .bool (Fl.ne a_0 a_0)) rfl rfl rfl (p_move rfl) rfl ?_
  refine rcase 8 rfl (fun hc1 => ?_) (fun hc1 => ?_)
  · replace h := cond_t hc1 h
    refine rskip rfl (guard_at rfl rfl rfl rfl rfl) rfl ?_
    refine rskip rfl (guard_at rfl rfl rfl rfl rfl) rfl ?_
    refine rskip rfl (guard_at rfl rfl rfl rfl rfl) rfl ?_
    refine rq (u := .bool true) rfl rfl rfl (p_pick rfl rfl) rfl ?_
    refine .done rfl ?_
    refine ac_condT rfl rfl ?_
    refine ac_seq ?_
    refine ac_region rfl ?_
    refine rq (u := encF a_0) rfl rfl rfl (p_move rfl) rfl ?_
    refine rq (u := encF a_0) rfl rfl rfl (p_move rfl) rfl ?_
    refine rq (u := .bool (Fl.ne a_0 a_0)) rfl rfl rfl (p_fne rfl rfl rfl) rfl ?_
    refine rq (u := .bool (Fl.ne a_0 a_0)) rfl rfl rfl (p_move rfl) rfl ?_
    refine rcase 16 rfl (fun hc2 => ?_) (fun hc2 => ?_)
    · replace h := cond_t hc2 h
      refine rq (u := encF b_1) rfl (guard_at rfl rfl rfl rfl rfl) rfl (p_move rfl) rfl ?_
      refine rq (u := encF b_1) rfl (guard_at rfl rfl rfl rfl rfl) rfl (p_move rfl) rfl ?_
      refine rq (u := .bool (Fl.ne b_1 b_1)) rfl (guard_at rfl rfl rfl rfl rfl) rfl (p_fne rfl rfl rfl) rfl ?_
      refine rq (u := .bool (Fl.ne b_1 b_1)) rfl rfl rfl (p_pick rfl rfl) rfl ?_
      refine rq (u := .bool (Fl.ne b_1 b_1)) rfl rfl rfl (p_assign rfl) rfl ?_
      refine .done rfl ?_
      refine ac_ret ?_
      show Fin _ _ _ _ _ _ _
      exact fin_ret (Nat.le_of_ble_eq_true rfl) rfl (by obtain rfl := Option.some.inj h; rfl)
    · replace h := cond_f hc2 h
      refine rskip rfl (guard_at rfl rfl rfl rfl rfl) rfl ?_
      refine rskip rfl (guard_at rfl rfl rfl rfl rfl) rfl ?_
      refine rskip rfl (guard_at rfl rfl rfl rfl rfl) rfl ?_
      refine rq (u := .bool false) rfl rfl rfl (p_pick rfl rfl) rfl ?_
      refine rq (u := .bool false) rfl rfl rfl (p_assign rfl) rfl ?_
      refine .done rfl ?_
      refine ac_ret ?_
      show Fin _ _ _ _ _ _ _
      exact fin_ret (Nat.le_of_ble_eq_true rfl) rfl (by obtain rfl := Option.some.inj h; rfl)
  · replace h := cond_f hc1 h
    refine rq (u := encF b_1) rfl (guard_at rfl rfl rfl rfl rfl) rfl (p_move rfl) rfl ?_
    refine rq (u := encF b_1) rfl (guard_at rfl rfl rfl rfl rfl) rfl (p_move rfl) rfl ?_
    refine rq (u := .bool (Fl.ne b_1 b_1)) rfl (guard_at rfl rfl rfl rfl rfl) rfl (p_fne rfl rfl rfl) rfl ?_
    refine rq (u := .bool (Fl.ne b_1 b_1)) rfl rfl rfl (p_pick rfl rfl) rfl ?_
    refine .done rfl ?_
    refine ac_cond rfl rfl (fun hc7 => ?_) (fun hc7 => ?_)
    · replace h := cond_t hc7 h
      refine ac_seq ?_
      refine ac_region rfl ?_
      refine rq (u := encF a_0) rfl rfl rfl (p_move rfl) rfl ?_
      refine rq (u := encF a_0) rfl rfl rfl (p_move rfl) rfl ?_
      refine rq (u := .bool (Fl.ne a_0 a_0)) rfl rfl rfl (p_fne rfl rfl rfl) rfl ?_
      refine rq (u := .bool (Fl.ne a_0 a_0)) rfl rfl rfl (p_move rfl) rfl ?_
      refine rcase 16 rfl (fun hc3 => ?_) (fun hc3 => ?_)
      · replace h := cond_t hc3 h
        refine rq (u := encF b_1) rfl (guard_at rfl rfl rfl rfl rfl) rfl (p_move rfl) rfl ?_
        refine rq (u := encF b_1) rfl (guard_at rfl rfl rfl rfl rfl) rfl (p_move rfl) rfl ?_
        refine rq (u := .bool (Fl.ne b_1 b_1)) rfl (guard_at rfl rfl rfl rfl rfl) rfl (p_fne rfl rfl rfl) rfl ?_
        refine rq (u := .bool (Fl.ne b_1 b_1)) rfl rfl rfl (p_pick rfl rfl) rfl ?_
        refine rq (u := .bool (Fl.ne b_1 b_1)) rfl rfl rfl (p_assign rfl) rfl ?_
        refine .done rfl ?_
        refine ac_ret ?_
        show Fin _ _ _ _ _ _ _
        exact fin_ret (Nat.le_of_ble_eq_true rfl) rfl (by obtain rfl := Option.some.inj h; rfl)
      · replace h := cond_f hc3 h
        refine rskip rfl (guard_at rfl rfl rfl rfl rfl) rfl ?_
        refine rskip rfl (guard_at rfl rfl rfl rfl rfl) rfl ?_
        refine rskip rfl (guard_at rfl rfl rfl rfl rfl) rfl ?_
        refine rq (u := .bool false) rfl rfl rfl (p_pick rfl rfl) rfl ?_
        refine rq (u := .bool false) rfl rfl rfl (p_assign rfl) rfl ?_
        refine .done rfl ?_
        refine ac_ret ?_
        show Fin _ _ _ _ _ _ _
        exact fin_ret (Nat.le_of_ble_eq_true rfl) rfl (by obtain rfl := Option.some.inj h; rfl)
    · replace h := cond_f hc7 h
      refine ac_skip ?_
      refine ac_seq ?_
      refine ac_region rfl ?_
      refine rq (u := encF a_0) rfl rfl rfl (p_move rfl) rfl ?_
      refine rq (u := encF b_1) rfl rfl rfl (p_move rfl) rfl ?_
      refine rq (u := .bool (Fl.eq a_0 b_1)) rfl rfl rfl (p_feq rfl rfl rfl) rfl ?_
      refine rq (u := .bool (Fl.eq a_0 b_1)) rfl rfl rfl (p_move rfl) rfl ?_
      refine rcase 24 rfl (fun hc4 => ?_) (fun hc4 => ?_)
      · replace h := cond_t hc4 h
        refine rq (u := encF a_0) rfl (guard_at rfl rfl rfl rfl rfl) rfl (p_move rfl) rfl ?_
        obtain ⟨v5, hv5, h⟩ := bnd_some h
        refine rq (u := .bool v5) rfl (guard_at rfl rfl rfl rfl rfl) rfl (p_pfnL en_58 (ref03_Minus_fn k a_0 v5 hv5) rfl rfl (TVles.refl _)) rfl ?_
        refine rq (u := encF b_1) rfl (guard_at rfl rfl rfl rfl rfl) rfl (p_move rfl) rfl ?_
        obtain ⟨v6, hv6, h⟩ := bnd_some h
        refine rq (u := .bool v6) rfl (guard_at rfl rfl rfl rfl rfl) rfl (p_pfnL en_58 (ref03_Minus_fn k b_1 v6 hv6) rfl rfl (TVles.refl _)) rfl ?_
        refine rq (u := .bool (v5 == v6)) rfl (guard_at rfl rfl rfl rfl rfl) rfl (p_beql ub_4 rfl rfl rfl) rfl ?_
        refine rq (u := .bool (v5 == v6)) rfl rfl rfl (p_pick rfl rfl) rfl ?_
        refine rq (u := .bool (v5 == v6)) rfl rfl rfl (p_assign rfl) rfl ?_
        refine .done rfl ?_
        refine ac_ret ?_
        show Fin _ _ _ _ _ _ _
        exact fin_ret (Nat.le_of_ble_eq_true rfl) rfl (by obtain rfl := Option.some.inj h; rfl)
      · replace h := cond_f hc4 h
        refine rskip rfl (guard_at rfl rfl rfl rfl rfl) rfl ?_
        refine rskip rfl (guard_at rfl rfl rfl rfl rfl) rfl ?_
        refine rskip rfl (guard_at rfl rfl rfl rfl rfl) rfl ?_
        refine rskip rfl (guard_at rfl rfl rfl rfl rfl) rfl ?_
        refine rskip rfl (guard_at rfl rfl rfl rfl rfl) rfl ?_
        refine rq (u := .bool false) rfl rfl rfl (p_pick rfl rfl) rfl ?_
        refine rq (u := .bool false) rfl rfl rfl (p_assign rfl) rfl ?_
        refine .done rfl ?_
        refine ac_ret ?_
        show Fin _ _ _ _ _ _ _
        exact fin_ret (Nat.le_of_ble_eq_true rfl) rfl (by obtain rfl := Option.some.inj h; rfl)

set_option maxRecDepth 20000 in
set_option maxHeartbeats 4000000 in
theorem ref11_Same_fn : ∀ k : Nat, ∀ (a_0 : GExpr) (b_1 : GExpr) (r : Bool) (h : ref11_Same k a_0 b_1 = some r), PFn Tryd.prog 20 [.agg (GExpr.cells a_0), .agg (GExpr.cells b_1)] (.bool r) := by
  intro k
  induction k with
  | zero => intro a_0 b_1 r h; rw [ref11_Same] at h; cases h
  | succ k ih_ref11_Same =>
    intro a_0 b_1 r h
    rw [ref11_Same] at h
    refine AFn.of Tryd.func20 rfl (Nat.le_of_ble_eq_true rfl) ?_
    refine ac_seq ?_
    refine ac_region rfl ?_
    refine rbox rfl rfl rfl rfl rfl fun b1 => ?_
    refine rbox rfl rfl rfl rfl rfl fun b2 => ?_
    refine rq (u := .bool false) rfl rfl rfl (p_assign rfl) rfl ?_
    refine .done rfl ?_
    refine ac_seq ?_
    refine ac_seq ?_
    refine ac_region rfl ?_
    refine rq (u := .ptr b1 0) rfl rfl rfl (p_field_ptr fl_33_0 rfl rfl) rfl ?_
    refine rq (u := .int .i64 a_0.Kind) rfl rfl rfl (p_load_ptr ti_3 (fun _ => rfl) rfl rfl (.tail _ (.head _)) (Nat.le_of_ble_eq_true rfl)) rfl ?_
    refine rq (u := .ptr b2 0) rfl rfl rfl (p_field_ptr fl_33_0 rfl rfl) rfl ?_
    refine rq (u := .int .i64 b_1.Kind) rfl rfl rfl (p_load_ptr ti_3 (fun _ => rfl) rfl rfl (.head _) (Nat.le_of_ble_eq_true rfl)) rfl ?_
    refine rq (u := .bool (a_0.Kind != b_1.Kind)) rfl rfl rfl (p_neq rfl rfl rfl) rfl ?_
    refine rq (u := .bool (a_0.Kind != b_1.Kind)) rfl rfl rfl (p_move rfl) rfl ?_
    refine rcase 11 rfl (fun hc1 => ?_) (fun hc1 => ?_)
    · replace h := cond_t hc1 h
      refine rskip rfl (guard_at rfl rfl rfl rfl rfl) rfl ?_
      refine rskip rfl (guard_at rfl rfl rfl rfl rfl) rfl ?_
      refine rskip rfl (guard_at rfl rfl rfl rfl rfl) rfl ?_
      refine rskip rfl (guard_at rfl rfl rfl rfl rfl) rfl ?_
      refine rskip rfl (guard_at rfl rfl rfl rfl rfl) rfl ?_
      refine rq (u := .bool true) rfl rfl rfl (p_pick rfl rfl) rfl ?_
      refine rq (u := .bool true) rfl rfl rfl (p_move rfl) rfl ?_
      refine rskip rfl (guard_at rfl rfl rfl rfl rfl) rfl ?_
      refine rskip rfl (guard_at rfl rfl rfl rfl rfl) rfl ?_
      refine rskip rfl (guard_at rfl rfl rfl rfl rfl) rfl ?_
      refine rskip rfl (guard_at rfl rfl rfl rfl rfl) rfl ?_
      refine rskip rfl (guard_at rfl rfl rfl rfl rfl) rfl ?_
      refine rskip rfl (guard_at rfl rfl rfl rfl rfl) rfl ?_
      refine rq (u := .bool true) rfl rfl rfl (p_pick rfl rfl) rfl ?_
      refine rq (u := .bool true) rfl rfl rfl (p_move rfl) rfl ?_
      refine rskip rfl (guard_at rfl rfl rfl rfl rfl) rfl ?_
      refine rskip rfl (guard_at rfl rfl rfl rfl rfl) rfl ?_
      refine rskip rfl (guard_at rfl rfl rfl rfl rfl) rfl ?_
      refine rskip rfl (guard_at rfl rfl rfl rfl rfl) rfl ?_
      refine rskip rfl (guard_at rfl rfl rfl rfl rfl) rfl ?_
      refine rskip rfl (guard_at rfl rfl rfl rfl rfl) rfl ?_
      refine rq (u := .bool true) rfl rfl rfl (p_pick rfl rfl) rfl ?_
      refine rq (u := .bool true) rfl rfl rfl (p_move rfl) rfl ?_
      refine rskip rfl (guard_at rfl rfl rfl rfl rfl) rfl ?_
      refine rskip rfl (guard_at rfl rfl rfl rfl rfl) rfl ?_
      refine rskip rfl (guard_at rfl rfl rfl rfl rfl) rfl ?_
      refine rskip rfl (guard_at rfl rfl rfl rfl rfl) rfl ?_
      refine rskip rfl (guard_at rfl rfl rfl rfl rfl) rfl ?_
      refine rskip rfl (guard_at rfl rfl rfl rfl rfl) rfl ?_
      refine rq (u := .bool true) rfl rfl rfl (p_pick rfl rfl) rfl ?_
      refine rq (u := .bool true) rfl rfl rfl (p_move rfl) rfl ?_
      refine rskip rfl (guard_at rfl rfl rfl rfl rfl) rfl ?_
      refine rskip rfl (guard_at rfl rfl rfl rfl rfl) rfl ?_
      refine rskip rfl (guard_at rfl rfl rfl rfl rfl) rfl ?_
      refine rskip rfl (guard_at rfl rfl rfl rfl rfl) rfl ?_
      refine rskip rfl (guard_at rfl rfl rfl rfl rfl) rfl ?_
      refine rskip rfl (guard_at rfl rfl rfl rfl rfl) rfl ?_
      refine rskip rfl (guard_at rfl rfl rfl rfl rfl) rfl ?_
      refine rq (u := .bool true) rfl rfl rfl (p_pick rfl rfl) rfl ?_
      refine .done rfl ?_
      refine ac_condT rfl rfl ?_
      refine ac_seq ?_
      refine ac_region rfl ?_
      refine rq (u := .bool false) rfl rfl rfl (p_assign rfl) rfl ?_
      refine .done rfl ?_
      refine ac_ret ?_
      show Fin _ _ _ _ _ _ _
      exact fin_ret (Nat.le_of_ble_eq_true rfl) rfl (by obtain rfl := Option.some.inj h; rfl)
    · replace h := cond_f hc1 h
      refine rq (u := .ptr b1 1) rfl (guard_at rfl rfl rfl rfl rfl) rfl (p_field_ptr fl_33_1 rfl rfl) rfl ?_
      refine rq (u := .int .i64 a_0.Field) rfl (guard_at rfl rfl rfl rfl rfl) rfl (p_load_ptr ti_3 (fun _ => rfl) rfl rfl (.tail _ (.head _)) (Nat.le_of_ble_eq_true rfl)) rfl ?_
      refine rq (u := .ptr b2 1) rfl (guard_at rfl rfl rfl rfl rfl) rfl (p_field_ptr fl_33_1 rfl rfl) rfl ?_
      refine rq (u := .int .i64 b_1.Field) rfl (guard_at rfl rfl rfl rfl rfl) rfl (p_load_ptr ti_3 (fun _ => rfl) rfl rfl (.head _) (Nat.le_of_ble_eq_true rfl)) rfl ?_
      refine rq (u := .bool (a_0.Field != b_1.Field)) rfl (guard_at rfl rfl rfl rfl rfl) rfl (p_neq rfl rfl rfl) rfl ?_
      refine rq (u := .bool (a_0.Field != b_1.Field)) rfl rfl rfl (p_pick rfl rfl) rfl ?_
      refine rq (u := .bool (a_0.Field != b_1.Field)) rfl rfl rfl (p_move rfl) rfl ?_
      refine rcase 18 rfl (fun hc2 => ?_) (fun hc2 => ?_)
      · replace h := cond_t hc2 h
        refine rskip rfl (guard_at rfl rfl rfl rfl rfl) rfl ?_
        refine rskip rfl (guard_at rfl rfl rfl rfl rfl) rfl ?_
        refine rskip rfl (guard_at rfl rfl rfl rfl rfl) rfl ?_
        refine rskip rfl (guard_at rfl rfl rfl rfl rfl) rfl ?_
        refine rskip rfl (guard_at rfl rfl rfl rfl rfl) rfl ?_
        refine rskip rfl (guard_at rfl rfl rfl rfl rfl) rfl ?_
        refine rq (u := .bool true) rfl rfl rfl (p_pick rfl rfl) rfl ?_
        refine rq (u := .bool true) rfl rfl rfl (p_move rfl) rfl ?_
        refine rskip rfl (guard_at rfl rfl rfl rfl rfl) rfl ?_
        refine rskip rfl (guard_at rfl rfl rfl rfl rfl) rfl ?_
        refine rskip rfl (guard_at rfl rfl rfl rfl rfl) rfl ?_
        refine rskip rfl (guard_at rfl rfl rfl rfl rfl) rfl ?_
        refine rskip rfl (guard_at rfl rfl rfl rfl rfl) rfl ?_
        refine rskip rfl (guard_at rfl rfl rfl rfl rfl) rfl ?_
        refine rq (u := .bool true) rfl rfl rfl (p_pick rfl rfl) rfl ?_
        refine rq (u := .bool true) rfl rfl rfl (p_move rfl) rfl ?_
        refine rskip rfl (guard_at rfl rfl rfl rfl rfl) rfl ?_
        refine rskip rfl (guard_at rfl rfl rfl rfl rfl) rfl ?_
        refine rskip rfl (guard_at rfl rfl rfl rfl rfl) rfl ?_
        refine rskip rfl (guard_at rfl rfl rfl rfl rfl) rfl ?_
        refine rskip rfl (guard_at rfl rfl rfl rfl rfl) rfl ?_
        refine rskip rfl (guard_at rfl rfl rfl rfl rfl) rfl ?_
        refine rq (u := .bool true) rfl rfl rfl (p_pick rfl rfl) rfl ?_
        refine rq (u := .bool true) rfl rfl rfl (p_move rfl) rfl ?_
        refine rskip rfl (guard_at rfl rfl rfl rfl rfl) rfl ?_
        refine rskip rfl (guard_at rfl rfl rfl rfl rfl) rfl ?_
        refine rskip rfl (guard_at rfl rfl rfl rfl rfl) rfl ?_
        refine rskip rfl (guard_at rfl rfl rfl rfl rfl) rfl ?_
        refine rskip rfl (guard_at rfl rfl rfl rfl rfl) rfl ?_
        refine rskip rfl (guard_at rfl rfl rfl rfl rfl) rfl ?_
        refine rskip rfl (guard_at rfl rfl rfl rfl rfl) rfl ?_
        refine rq (u := .bool true) rfl rfl rfl (p_pick rfl rfl) rfl ?_
        refine .done rfl ?_
        refine ac_condT rfl rfl ?_
        refine ac_seq ?_
        refine ac_region rfl ?_
        refine rq (u := .bool false) rfl rfl rfl (p_assign rfl) rfl ?_
        refine .done rfl ?_
        refine ac_ret ?_
        show Fin _ _ _ _ _ _ _
        exact fin_ret (Nat.le_of_ble_eq_true rfl) rfl (by obtain rfl := Option.some.inj h; rfl)
      · replace h := cond_f hc2 h
        refine rq (u := .ptr b1 2) rfl (guard_at rfl rfl rfl rfl rfl) rfl (p_field_ptr fl_33_2 rfl rfl) rfl ?_
        refine rq (u := .slice .ro 2 (a_0.Ranges.map GRange.enc)) rfl (guard_at rfl rfl rfl rfl rfl) rfl (p_load_ptr ti_30 (fun _ => rfl) rfl rfl (.tail _ (.head _)) (Nat.le_of_ble_eq_true rfl)) rfl ?_
        refine rq (u := .ptr b2 2) rfl (guard_at rfl rfl rfl rfl rfl) rfl (p_field_ptr fl_33_2 rfl rfl) rfl ?_
        refine rq (u := .slice .ro 2 (b_1.Ranges.map GRange.enc)) rfl (guard_at rfl rfl rfl rfl rfl) rfl (p_load_ptr ti_30 (fun _ => rfl) rfl rfl (.head _) (Nat.le_of_ble_eq_true rfl)) rfl ?_
        obtain ⟨v3, hv3, h⟩ := bnd_some h
        refine rq (u := .bool v3) rfl (guard_at rfl rfl rfl rfl rfl) rfl (p_pfnL en_38 (ref04_Same_fn k a_0.Ranges b_1.Ranges v3 hv3) rfl rfl (TVles.refl _)) rfl ?_
        refine rq (u := .bool (!v3)) rfl (guard_at rfl rfl rfl rfl rfl) rfl (p_not rfl rfl) rfl ?_
        refine rq (u := .bool (!v3)) rfl rfl rfl (p_pick rfl rfl) rfl ?_
        refine rq (u := .bool (!v3)) rfl rfl rfl (p_move rfl) rfl ?_
        refine rcase 26 rfl (fun hc4 => ?_) (fun hc4 => ?_)
        · replace h := cond_t hc4 h
          refine rskip rfl (guard_at rfl rfl rfl rfl rfl) rfl ?_
          refine rskip rfl (guard_at rfl rfl rfl rfl rfl) rfl ?_
          refine rskip rfl (guard_at rfl rfl rfl rfl rfl) rfl ?_
          refine rskip rfl (guard_at rfl rfl rfl rfl rfl) rfl ?_
          refine rskip rfl (guard_at rfl rfl rfl rfl rfl) rfl ?_
          refine rskip rfl (guard_at rfl rfl rfl rfl rfl) rfl ?_
          refine rq (u := .bool true) rfl rfl rfl (p_pick rfl rfl) rfl ?_
          refine rq (u := .bool true) rfl rfl rfl (p_move rfl) rfl ?_
          refine rskip rfl (guard_at rfl rfl rfl rfl rfl) rfl ?_
          refine rskip rfl (guard_at rfl rfl rfl rfl rfl) rfl ?_
          refine rskip rfl (guard_at rfl rfl rfl rfl rfl) rfl ?_
          refine rskip rfl (guard_at rfl rfl rfl rfl rfl) rfl ?_
          refine rskip rfl (guard_at rfl rfl rfl rfl rfl) rfl ?_
          refine rskip rfl (guard_at rfl rfl rfl rfl rfl) rfl ?_
          refine rq (u := .bool true) rfl rfl rfl (p_pick rfl rfl) rfl ?_
          refine rq (u := .bool true) rfl rfl rfl (p_move rfl) rfl ?_
          refine rskip rfl (guard_at rfl rfl rfl rfl rfl) rfl ?_
          refine rskip rfl (guard_at rfl rfl rfl rfl rfl) rfl ?_
          refine rskip rfl (guard_at rfl rfl rfl rfl rfl) rfl ?_
          refine rskip rfl (guard_at rfl rfl rfl rfl rfl) rfl ?_
          refine rskip rfl (guard_at rfl rfl rfl rfl rfl) rfl ?_
          refine rskip rfl (guard_at rfl rfl rfl rfl rfl) rfl ?_
          refine rskip rfl (guard_at rfl rfl rfl rfl rfl) rfl ?_
          refine rq (u := .bool true) rfl rfl rfl (p_pick rfl rfl) rfl ?_
          refine .done rfl ?_
          refine ac_condT rfl rfl ?_
          refine ac_seq ?_
          refine ac_region rfl ?_
          refine rq (u := .bool false) rfl rfl rfl (p_assign rfl) rfl ?_
          refine .done rfl ?_
          refine ac_ret ?_
          show Fin _ _ _ _ _ _ _
          exact fin_ret (Nat.le_of_ble_eq_true rfl) rfl (by obtain rfl := Option.some.inj h; rfl)
        · replace h := cond_f hc4 h
          refine rq (u := .ptr b1 3) rfl (guard_at rfl rfl rfl rfl rfl) rfl (p_field_ptr fl_33_3 rfl rfl) rfl ?_
          refine rq (u := encF a_0.Low) rfl (guard_at rfl rfl rfl rfl rfl) rfl (p_load_ptr ti_31 (fun _ => rfl) rfl rfl (.tail _ (.head _)) (Nat.le_of_ble_eq_true rfl)) rfl ?_
          refine rq (u := .ptr b2 3) rfl (guard_at rfl rfl rfl rfl rfl) rfl (p_field_ptr fl_33_3 rfl rfl) rfl ?_
          refine rq (u := encF b_1.Low) rfl (guard_at rfl rfl rfl rfl rfl) rfl (p_load_ptr ti_31 (fun _ => rfl) rfl rfl (.head _) (Nat.le_of_ble_eq_true rfl)) rfl ?_
          obtain ⟨v5, hv5, h⟩ := bnd_some h
          refine rq (u := .bool v5) rfl (guard_at rfl rfl rfl rfl rfl) rfl (p_pfnL en_39 (ref03_Same_fn k a_0.Low b_1.Low v5 hv5) rfl rfl (TVles.refl _)) rfl ?_
          refine rq (u := .bool (!v5)) rfl (guard_at rfl rfl rfl rfl rfl) rfl (p_not rfl rfl) rfl ?_
          refine rq (u := .bool (!v5)) rfl rfl rfl (p_pick rfl rfl) rfl ?_
          refine rq (u := .bool (!v5)) rfl rfl rfl (p_move rfl) rfl ?_
          refine rcase 34 rfl (fun hc6 => ?_) (fun hc6 => ?_)
          · replace h := cond_t hc6 h
            refine rskip rfl (guard_at rfl rfl rfl rfl rfl) rfl ?_
            refine rskip rfl (guard_at rfl rfl rfl rfl rfl) rfl ?_
            refine rskip rfl (guard_at rfl rfl rfl rfl rfl) rfl ?_
            refine rskip rfl (guard_at rfl rfl rfl rfl rfl) rfl ?_
            refine rskip rfl (guard_at rfl rfl rfl rfl rfl) rfl ?_
            refine rskip rfl (guard_at rfl rfl rfl rfl rfl) rfl ?_
            refine rq (u := .bool true) rfl rfl rfl (p_pick rfl rfl) rfl ?_
            refine rq (u := .bool true) rfl rfl rfl (p_move rfl) rfl ?_
            refine rskip rfl (guard_at rfl rfl rfl rfl rfl) rfl ?_
            refine rskip rfl (guard_at rfl rfl rfl rfl rfl) rfl ?_
            refine rskip rfl (guard_at rfl rfl rfl rfl rfl) rfl ?_
            refine rskip rfl (guard_at rfl rfl rfl rfl rfl) rfl ?_
            refine rskip rfl (guard_at rfl rfl rfl rfl rfl) rfl ?_
            refine rskip rfl (guard_at rfl rfl rfl rfl rfl) rfl ?_
            refine rskip rfl (guard_at rfl rfl rfl rfl rfl) rfl ?_
            refine rq (u := .bool true) rfl rfl rfl (p_pick rfl rfl) rfl ?_
            refine .done rfl ?_
            refine ac_condT rfl rfl ?_
            refine ac_seq ?_
            refine ac_region rfl ?_
            refine rq (u := .bool false) rfl rfl rfl (p_assign rfl) rfl ?_
            refine .done rfl ?_
            refine ac_ret ?_
            show Fin _ _ _ _ _ _ _
            exact fin_ret (Nat.le_of_ble_eq_true rfl) rfl (by obtain rfl := Option.some.inj h; rfl)
          · replace h := cond_f hc6 h
            refine rq (u := .ptr b1 4) rfl (guard_at rfl rfl rfl rfl rfl) rfl (p_field_ptr fl_33_4 rfl rfl) rfl ?_
            refine rq (u := encF a_0.High) rfl (guard_at rfl rfl rfl rfl rfl) rfl (p_load_ptr ti_31 (fun _ => rfl) rfl rfl (.tail _ (.head _)) (Nat.le_of_ble_eq_true rfl)) rfl ?_
            refine rq (u := .ptr b2 4) rfl (guard_at rfl rfl rfl rfl rfl) rfl (p_field_ptr fl_33_4 rfl rfl) rfl ?_
            refine rq (u := encF b_1.High) rfl (guard_at rfl rfl rfl rfl rfl) rfl (p_load_ptr ti_31 (fun _ => rfl) rfl rfl (.head _) (Nat.le_of_ble_eq_true rfl)) rfl ?_
            obtain ⟨v7, hv7, h⟩ := bnd_some h
            refine rq (u := .bool v7) rfl (guard_at rfl rfl rfl rfl rfl) rfl (p_pfnL en_39 (ref03_Same_fn k a_0.High b_1.High v7 hv7) rfl rfl (TVles.refl _)) rfl ?_
            refine rq (u := .bool (!v7)) rfl (guard_at rfl rfl rfl rfl rfl) rfl (p_not rfl rfl) rfl ?_
            refine rq (u := .bool (!v7)) rfl rfl rfl (p_pick rfl rfl) rfl ?_
            refine rq (u := .bool (!v7)) rfl rfl rfl (p_move rfl) rfl ?_
            refine rcase 42 rfl (fun hc8 => ?_) (fun hc8 => ?_)
            · replace h := cond_t hc8 h
              refine rskip rfl (guard_at rfl rfl rfl rfl rfl) rfl ?_
              refine rskip rfl (guard_at rfl rfl rfl rfl rfl) rfl ?_
              refine rskip rfl (guard_at rfl rfl rfl rfl rfl) rfl ?_
              refine rskip rfl (guard_at rfl rfl rfl rfl rfl) rfl ?_
              refine rskip rfl (guard_at rfl rfl rfl rfl rfl) rfl ?_
              refine rskip rfl (guard_at rfl rfl rfl rfl rfl) rfl ?_
              refine rskip rfl (guard_at rfl rfl rfl rfl rfl) rfl ?_
              refine rq (u := .bool true) rfl rfl rfl (p_pick rfl rfl) rfl ?_
              refine .done rfl ?_
              refine ac_condT rfl rfl ?_
              refine ac_seq ?_
              refine ac_region rfl ?_
              refine rq (u := .bool false) rfl rfl rfl (p_assign rfl) rfl ?_
              refine .done rfl ?_
              refine ac_ret ?_
              show Fin _ _ _ _ _ _ _
              exact fin_ret (Nat.le_of_ble_eq_true rfl) rfl (by obtain rfl := Option.some.inj h; rfl)
            · replace h := cond_f hc8 h
              refine rq (u := .ptr b1 5) rfl (guard_at rfl rfl rfl rfl rfl) rfl (p_field_ptr fl_33_5 rfl rfl) rfl ?_
              refine rq (u := .slice .ro 6 (a_0.Of.map GExpr.enc)) rfl (guard_at rfl rfl rfl rfl rfl) rfl (p_load_ptr ti_28 (fun _ => rfl) rfl rfl (.tail _ (.head _)) (Nat.le_of_ble_eq_true rfl)) rfl ?_
              refine rq (u := .int .i64 (a_0.Of.length : Int)) rfl (guard_at rfl rfl rfl rfl rfl) rfl (p_lenm is_28 rfl rfl) rfl ?_
              refine rq (u := .ptr b2 5) rfl (guard_at rfl rfl rfl rfl rfl) rfl (p_field_ptr fl_33_5 rfl rfl) rfl ?_
              refine rq (u := .slice .ro 6 (b_1.Of.map GExpr.enc)) rfl (guard_at rfl rfl rfl rfl rfl) rfl (p_load_ptr ti_28 (fun _ => rfl) rfl rfl (.head _) (Nat.le_of_ble_eq_true rfl)) rfl ?_
              refine rq (u := .int .i64 (b_1.Of.length : Int)) rfl (guard_at rfl rfl rfl rfl rfl) rfl (p_lenm is_28 rfl rfl) rfl ?_
              refine rq (u := .bool ((a_0.Of.length : Int) != (b_1.Of.length : Int))) rfl (guard_at rfl rfl rfl rfl rfl) rfl (p_neq rfl rfl rfl) rfl ?_
              refine rq (u := .bool ((a_0.Of.length : Int) != (b_1.Of.length : Int))) rfl rfl rfl (p_pick rfl rfl) rfl ?_
              refine .done rfl ?_
              refine ac_cond rfl rfl (fun hc17 => ?_) (fun hc17 => ?_)
              · replace h := cond_t hc17 h
                refine ac_seq ?_
                refine ac_region rfl ?_
                refine rq (u := .bool false) rfl rfl rfl (p_assign rfl) rfl ?_
                refine .done rfl ?_
                refine ac_ret ?_
                show Fin _ _ _ _ _ _ _
                exact fin_ret (Nat.le_of_ble_eq_true rfl) rfl (by obtain rfl := Option.some.inj h; rfl)
              · replace h := cond_f hc17 h
                refine ac_skip ?_
                refine ac_seq ?_
                refine ac_seq ?_
                refine ac_region rfl ?_
                refine rq (u := .int .i64 0) rfl rfl rfl (p_assign rfl) rfl ?_
                refine .done rfl ?_
                refine ac_block ?_
                refine ac_turns (σ := Nat × Int) (fun (⟨m10, x9⟩ : Nat × Int) => [(0, .agg (GExpr.cells a_0)), (1, .agg (GExpr.cells b_1)), (2, .ptr b1 0), (3, .ptr b2 0), (4, .bool false), (5, .int .i64 x9), (6, .ptr b1 0), (7, .int .i64 a_0.Kind), (8, .ptr b2 0), (9, .int .i64 b_1.Kind), (10, .bool (a_0.Kind != b_1.Kind)), (11, .bool false), (12, .ptr b1 1), (13, .int .i64 a_0.Field), (14, .ptr b2 1), (15, .int .i64 b_1.Field), (16, .bool (a_0.Field != b_1.Field)), (17, .bool (a_0.Field != b_1.Field)), (18, .bool false), (19, .ptr b1 2), (20, .slice .ro 2 (a_0.Ranges.map GRange.enc)), (21, .ptr b2 2), (22, .slice .ro 2 (b_1.Ranges.map GRange.enc)), (23, .bool v3), (24, .bool (!v3)), (25, .bool (!v3)), (26, .bool false), (27, .ptr b1 3), (28, encF a_0.Low), (29, .ptr b2 3), (30, encF b_1.Low), (31, .bool v5), (32, .bool (!v5)), (33, .bool (!v5)), (34, .bool false), (35, .ptr b1 4), (36, encF a_0.High), (37, .ptr b2 4), (38, encF b_1.High), (39, .bool v7), (40, .bool (!v7)), (41, .bool (!v7)), (42, .bool false), (43, .ptr b1 5), (44, .slice .ro 6 (a_0.Of.map GExpr.enc)), (45, .int .i64 (a_0.Of.length : Int)), (46, .ptr b2 5), (47, .slice .ro 6 (b_1.Of.map GExpr.enc)), (48, .int .i64 (b_1.Of.length : Int)), (49, .bool ((a_0.Of.length : Int) != (b_1.Of.length : Int))), (50, .bool ((a_0.Of.length : Int) != (b_1.Of.length : Int)))]) (fun (⟨m10, x9⟩ : Nat × Int) => [(b2, RS.box [.int .i64 b_1.Kind, .int .i64 b_1.Field, .slice .ro 2 (b_1.Ranges.map GRange.enc), encF b_1.Low, encF b_1.High, .slice .ro 6 (b_1.Of.map GExpr.enc)]), (b1, RS.box [.int .i64 a_0.Kind, .int .i64 a_0.Field, .slice .ro 2 (a_0.Ranges.map GRange.enc), encF a_0.Low, encF a_0.High, .slice .ro 6 (a_0.Of.map GExpr.enc)])]) (fun x => x.1) (fun (⟨m10, x9⟩ : Nat × Int) => ref11_Same_L0 (ref11_Same k) a_0 b_1 (fun x16 => some true) m10 x9 = some r) ⟨k, 0⟩ h ⟨TVle.refl _, TVle.refl _, TVle.refl _, TVle.refl _, TVle.refl _, TVle.refl _, TVle.refl _, TVle.refl _, TVle.refl _, TVle.refl _, TVle.refl _, TVle.refl _, TVle.refl _, TVle.refl _, TVle.refl _, TVle.refl _, TVle.refl _, TVle.refl _, TVle.refl _, TVle.refl _, TVle.refl _, TVle.refl _, TVle.refl _, TVle.refl _, TVle.refl _, TVle.refl _, TVle.refl _, TVle.refl _, TVle.refl _, TVle.refl _, TVle.refl _, TVle.refl _, TVle.refl _, TVle.refl _, TVle.refl _, TVle.refl _, TVle.refl _, TVle.refl _, TVle.refl _, TVle.refl _, TVle.refl _, TVle.refl _, TVle.refl _, TVle.refl _, TVle.refl _, TVle.refl _, TVle.refl _, TVle.refl _, TVle.refl _, TVle.refl _, TVle.refl _, trivial⟩ (ResLe.refl _) ?_
                rintro ⟨m10, x9⟩ h
                replace h : ref11_Same_L0 (ref11_Same k) a_0 b_1 (fun x16 => some true) m10 x9 = some r := h
                show ACode _ _ _ [(0, .agg (GExpr.cells a_0)), (1, .agg (GExpr.cells b_1)), (2, .ptr b1 0), (3, .ptr b2 0), (4, .bool false), (5, .int .i64 x9), (6, .ptr b1 0), (7, .int .i64 a_0.Kind), (8, .ptr b2 0), (9, .int .i64 b_1.Kind), (10, .bool (a_0.Kind != b_1.Kind)), (11, .bool false), (12, .ptr b1 1), (13, .int .i64 a_0.Field), (14, .ptr b2 1), (15, .int .i64 b_1.Field), (16, .bool (a_0.Field != b_1.Field)), (17, .bool (a_0.Field != b_1.Field)), (18, .bool false), (19, .ptr b1 2), (20, .slice .ro 2 (a_0.Ranges.map GRange.enc)), (21, .ptr b2 2), (22, .slice .ro 2 (b_1.Ranges.map GRange.enc)), (23, .bool v3), (24, .bool (!v3)), (25, .bool (!v3)), (26, .bool false), (27, .ptr b1 3), (28, encF a_0.Low), (29, .ptr b2 3), (30, encF b_1.Low), (31, .bool v5), (32, .bool (!v5)), (33, .bool (!v5)), (34, .bool false), (35, .ptr b1 4), (36, encF a_0.High), (37, .ptr b2 4), (38, encF b_1.High), (39, .bool v7), (40, .bool (!v7)), (41, .bool (!v7)), (42, .bool false), (43, .ptr b1 5), (44, .slice .ro 6 (a_0.Of.map GExpr.enc)), (45, .int .i64 (a_0.Of.length : Int)), (46, .ptr b2 5), (47, .slice .ro 6 (b_1.Of.map GExpr.enc)), (48, .int .i64 (b_1.Of.length : Int)), (49, .bool ((a_0.Of.length : Int) != (b_1.Of.length : Int))), (50, .bool ((a_0.Of.length : Int) != (b_1.Of.length : Int)))] [(b2, RS.box [.int .i64 b_1.Kind, .int .i64 b_1.Field, .slice .ro 2 (b_1.Ranges.map GRange.enc), encF b_1.Low, encF b_1.High, .slice .ro 6 (b_1.Of.map GExpr.enc)]), (b1, RS.box [.int .i64 a_0.Kind, .int .i64 a_0.Field, .slice .ro 2 (a_0.Ranges.map GRange.enc), encF a_0.Low, encF a_0.High, .slice .ro 6 (a_0.Of.map GExpr.enc)])] _
                cases m10 with
                | zero => rw [ref11_Same_L0] at h; cases h
                | succ m10 =>
                  rw [ref11_Same_L0] at h
                  refine ac_seq ?_
                  refine ac_seq ?_
                  refine ac_region rfl ?_
                  refine rq (u := .int .i64 x9) rfl rfl rfl (p_move rfl) rfl ?_
                  refine rq (u := .ptr b1 5) rfl rfl rfl (p_field_ptr fl_33_5 rfl rfl) rfl ?_
                  refine rq (u := .slice .ro 6 (a_0.Of.map GExpr.enc)) rfl rfl rfl (p_load_ptr ti_28 (fun _ => rfl) rfl rfl (.tail _ (.head _)) (Nat.le_of_ble_eq_true rfl)) rfl ?_
                  refine rq (u := .int .i64 (a_0.Of.length : Int)) rfl rfl rfl (p_lenm is_28 rfl rfl) rfl ?_
                  refine rq (u := .bool (decide (x9 < (a_0.Of.length : Int)))) rfl rfl rfl (p_lss rfl rfl rfl) rfl ?_
                  refine .done rfl ?_
                  refine ac_cond rfl rfl (fun hc15 => ?_) (fun hc15 => ?_)
                  · replace h := cond_t hc15 h
                    refine ac_skip ?_
                    refine ac_seq ?_
                    refine ac_block ?_
                    refine ac_seq ?_
                    refine ac_region_draw mo rfl rfl rfl ?_
                    refine rq (u := .ptr b1 5) rfl rfl rfl (p_field_ptr fl_33_5 rfl rfl) rfl ?_
                    refine rq (u := .slice .ro 6 (a_0.Of.map GExpr.enc)) rfl rfl rfl (p_load_ptr ti_28 (fun _ => rfl) rfl rfl (.tail _ (.head _)) (Nat.le_of_ble_eq_true rfl)) rfl ?_
                    refine rq (u := .int .i64 x9) rfl rfl rfl (p_move rfl) rfl ?_
                    obtain ⟨v11, hv11, h⟩ := bnd_some h
                    refine rq (u := .rptr [.int .i64 v11.Kind, .int .i64 v11.Field, .slice .ro 2 (v11.Ranges.map GRange.enc), encF v11.Low, encF v11.High, .slice .ro 6 (v11.Of.map GExpr.enc)]) rfl rfl rfl (p_ix GExpr.enc_eq sl_28 hv11 rfl rfl rfl) rfl ?_
                    refine rq (u := .agg (GExpr.cells v11)) rfl rfl rfl (p_load_rptr ti_33 nofun rfl rfl (Nat.le_of_ble_eq_true rfl)) rfl ?_
                    refine rq (u := .ptr b2 5) rfl rfl rfl (p_field_ptr fl_33_5 rfl rfl) rfl ?_
                    refine rq (u := .slice .ro 6 (b_1.Of.map GExpr.enc)) rfl rfl rfl (p_load_ptr ti_28 (fun _ => rfl) rfl rfl (.head _) (Nat.le_of_ble_eq_true rfl)) rfl ?_
                    refine rq (u := .int .i64 x9) rfl rfl rfl (p_move rfl) rfl ?_
                    obtain ⟨v12, hv12, h⟩ := bnd_some h
                    refine rq (u := .rptr [.int .i64 v12.Kind, .int .i64 v12.Field, .slice .ro 2 (v12.Ranges.map GRange.enc), encF v12.Low, encF v12.High, .slice .ro 6 (v12.Of.map GExpr.enc)]) rfl rfl rfl (p_ix GExpr.enc_eq sl_28 hv12 rfl rfl rfl) rfl ?_
                    refine rq (u := .agg (GExpr.cells v12)) rfl rfl rfl (p_load_rptr ti_33 nofun rfl rfl (Nat.le_of_ble_eq_true rfl)) rfl ?_
                    obtain ⟨v13, hv13, h⟩ := bnd_some h
                    refine rq (u := .bool v13) rfl rfl rfl (p_pfnL en_20 (ih_ref11_Same v11 v12 v13 hv13) rfl rfl (TVles.refl _)) rfl ?_
                    refine rq (u := .bool (!v13)) rfl rfl rfl (p_not rfl rfl) rfl ?_
                    refine .done rfl ?_
                    refine ac_cond rfl rfl (fun hc14 => ?_) (fun hc14 => ?_)
                    · replace h := cond_t hc14 h
                      refine ac_seq ?_
                      refine ac_region rfl ?_
                      refine rq (u := .bool false) rfl rfl rfl (p_assign rfl) rfl ?_
                      refine .done rfl ?_
                      refine ac_ret ?_
                      show Fin _ _ _ _ _ _ _
                      exact fin_ret (Nat.le_of_ble_eq_true rfl) rfl (by obtain rfl := Option.some.inj h; rfl)
                    · replace h := cond_f hc14 h
                      refine ac_skip ?_
                      refine ac_region rfl ?_
                      refine rq (u := .int .i64 x9) rfl rfl rfl (p_move rfl) rfl ?_
                      refine rq (u := .int .i64 (IntKind.wrap .i64 (x9 + 1))) rfl rfl rfl (p_add rfl rfl rfl) rfl ?_
                      refine rq (u := .int .i64 (IntKind.wrap .i64 (x9 + 1))) rfl rfl rfl (p_assign rfl) rfl ?_
                      refine .done rfl ?_
                      exact ⟨⟨m10, (IntKind.wrap .i64 (x9 + 1))⟩, h, Nat.lt_succ_self _, ⟨TVle.refl _, TVle.refl _, TVle.refl _, TVle.refl _, TVle.refl _, TVle.refl _, TVle.refl _, TVle.refl _, TVle.refl _, TVle.refl _, TVle.refl _, TVle.refl _, TVle.refl _, TVle.refl _, TVle.refl _, TVle.refl _, TVle.refl _, TVle.refl _, TVle.refl _, TVle.refl _, TVle.refl _, TVle.refl _, TVle.refl _, TVle.refl _, TVle.refl _, TVle.refl _, TVle.refl _, TVle.refl _, TVle.refl _, TVle.refl _, TVle.refl _, TVle.refl _, TVle.refl _, TVle.refl _, TVle.refl _, TVle.refl _, TVle.refl _, TVle.refl _, TVle.refl _, TVle.refl _, TVle.refl _, TVle.refl _, TVle.refl _, TVle.refl _, TVle.refl _, TVle.refl _, TVle.refl _, TVle.refl _, TVle.refl _, TVle.refl _, TVle.refl _, trivial⟩, (ResLe.refl _)⟩
                  · replace h := cond_f hc15 h
                    refine ac_exit ?_
                    refine ac_seq ?_
                    refine ac_region rfl ?_
                    refine rq (u := .bool true) rfl rfl rfl (p_assign rfl) rfl ?_
                    refine .done rfl ?_
                    refine ac_ret ?_
                    show Fin _ _ _ _ _ _ _
                    exact fin_ret (Nat.le_of_ble_eq_true rfl) rfl (by obtain rfl := Option.some.inj h; rfl)
end Go.Proofs.YtdkiijhmmmfciaaDoor
