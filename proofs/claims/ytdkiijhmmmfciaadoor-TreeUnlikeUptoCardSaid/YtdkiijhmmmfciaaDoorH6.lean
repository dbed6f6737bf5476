/- The code computes the functions. Printed by tr.py. -/
import Derived.Test.YtdkiijhmmmfciaaDoorG0
import Derived.Test.YtdkiijhmmmfciaaDoorG1
import Derived.Test.YtdkiijhmmmfciaaDoorH5
set_option linter.unusedVariables false
set_option linter.unusedSimpArgs false
namespace Go.Proofs.YtdkiijhmmmfciaaDoor
open Go
set_option maxRecDepth 20000 in
set_option maxHeartbeats 4000000 in
theorem ref11_bound_fn : ∀ k : Nat, ∀ (x_0 : Fl) (r : Bool) (h : ref11_bound k x_0 = some r), PFn Tryd.prog 69 [encF x_0] (.bool r) := by
  intro k
  intro x_0 r h
  rw [ref11_bound] at h
  refine AFn.of Tryd.func69 rfl (Nat.le_of_ble_eq_true rfl) ?_
  refine ac_seq ?_
  refine ac_region rfl ?_
  refine rq (u := .bool false) rfl rfl rfl (p_assign rfl) rfl ?_
  refine .done rfl ?_
  refine ac_seq ?_
  refine ac_region rfl ?_
  refine rq (u := encF x_0) rfl rfl rfl (p_move rfl) rfl ?_
  obtain ⟨v1, hv1, h⟩ := bnd_some h
  refine rq (u := .tuple [.str v1.1, .bool v1.2]) rfl rfl rfl (p_pfnL en_42 (ref03_Text_fn k x_0 v1 hv1) rfl rfl (TVles.refl _)) rfl ?_
  refine rq (u := .tuple [.str v1.1, .bool v1.2]) rfl rfl rfl (p_move rfl) rfl ?_
  refine rq (u := .str v1.1) rfl rfl rfl (p_extract rfl rfl rfl) rfl ?_
  refine rq (u := .bool v1.2) rfl rfl rfl (p_extract rfl rfl rfl) rfl ?_
  refine rq (u := .str v1.1) rfl rfl rfl (p_assign rfl) rfl ?_
  refine rq (u := .bool v1.2) rfl rfl rfl (p_assign rfl) rfl ?_
  refine .done rfl ?_
  refine ac_seq ?_
  refine ac_region rfl ?_
  refine rq (u := .bool v1.2) rfl rfl rfl (p_move rfl) rfl ?_
  refine rq (u := .bool v1.2) rfl rfl rfl (p_assign rfl) rfl ?_
  refine .done rfl ?_
  refine ac_ret ?_
  show Fin _ _ _ _ _ _ _
  exact fin_ret (Nat.le_of_ble_eq_true rfl) rfl (by obtain rfl := Option.some.inj h; rfl)

set_option maxRecDepth 20000 in
set_option maxHeartbeats 4000000 in
theorem ref11_num_fn : ∀ k : Nat, ∀ (n : Int) (r : Bool) (h : ref11_num k n = some r), PFn Tryd.prog 41 [.int .i64 n] (.bool r) := by
  intro k
  intro n r h
  rw [ref11_num] at h
  refine AFn.of Tryd.func41 rfl (Nat.le_of_ble_eq_true rfl) ?_
  refine ac_seq ?_
  refine ac_region rfl ?_
  refine rq (u := .bool false) rfl rfl rfl (p_assign rfl) rfl ?_
  refine .done rfl ?_
  refine ac_seq ?_
  refine ac_region rfl ?_
  refine rq (u := .int .i64 n) rfl rfl rfl (p_move rfl) rfl ?_
  refine rq (u := .bool (decide (0 ≤ n))) rfl rfl rfl (p_geq rfl rfl rfl) rfl ?_
  refine rq (u := .bool (decide (0 ≤ n))) rfl rfl rfl (p_move rfl) rfl ?_
  refine rcase 5 rfl (fun hc1 => ?_) (fun hc1 => ?_)
  · replace h := cond_t hc1 h
    refine rq (u := .int .i64 n) rfl (guard_at rfl rfl rfl rfl rfl) rfl (p_move rfl) rfl ?_
    refine rq (u := .bool (decide (n ≤ 9007199254740992))) rfl (guard_at rfl rfl rfl rfl rfl) rfl (p_leq rfl rfl rfl) rfl ?_
    refine rq (u := .bool (decide (n ≤ 9007199254740992))) rfl rfl rfl (p_pick rfl rfl) rfl ?_
    refine rq (u := .bool (decide (n ≤ 9007199254740992))) rfl rfl rfl (p_assign rfl) rfl ?_
    refine .done rfl ?_
    refine ac_ret ?_
    show Fin _ _ _ _ _ _ _
    exact fin_ret (Nat.le_of_ble_eq_true rfl) rfl (by obtain rfl := Option.some.inj h; rfl)
  · replace h := cond_f hc1 h
    refine rskip rfl (guard_at rfl rfl rfl rfl rfl) rfl ?_
    refine rskip rfl (guard_at rfl rfl rfl rfl rfl) rfl ?_
    refine rq (u := .bool false) rfl rfl rfl (p_pick rfl rfl) rfl ?_
    refine rq (u := .bool false) rfl rfl rfl (p_assign rfl) rfl ?_
    refine .done rfl ?_
    refine ac_ret ?_
    show Fin _ _ _ _ _ _ _
    exact fin_ret (Nat.le_of_ble_eq_true rfl) rfl (by obtain rfl := Option.some.inj h; rfl)

set_option maxRecDepth 20000 in
set_option maxHeartbeats 4000000 in
theorem ref11_plain_fn : ∀ k : Nat, ∀ (x_0 : Fl) (r : Bool) (h : ref11_plain k x_0 = some r), PFn Tryd.prog 60 [encF x_0] (.bool r) := by
  intro k
  intro x_0 r h
  rw [ref11_plain] at h
  refine AFn.of Tryd.func60 rfl (Nat.le_of_ble_eq_true rfl) ?_
  refine ac_seq ?_
  refine ac_region rfl ?_
  refine rq (u := .bool false) rfl rfl rfl (p_assign rfl) rfl ?_
  refine .done rfl ?_
  refine ac_seq ?_
  refine ac_region rfl ?_
  refine rq (u := encF x_0) rfl rfl rfl (p_move rfl) rfl ?_
  obtain ⟨v1, hv1, h⟩ := bnd_some h
  refine rq (u := .bool v1) rfl rfl rfl (p_pfnL en_39 (ref03_Same_fn k x_0 (some 0) v1 hv1) rfl rfl (TVles.refl _)) rfl ?_
  refine rq (u := .bool v1) rfl rfl rfl (p_assign rfl) rfl ?_
  refine .done rfl ?_
  refine ac_ret ?_
  show Fin _ _ _ _ _ _ _
  exact fin_ret (Nat.le_of_ble_eq_true rfl) rfl (by obtain rfl := Option.some.inj h; rfl)

set_option maxRecDepth 20000 in
set_option maxHeartbeats 4000000 in
theorem ref11_atom_fn : ∀ k : Nat, ∀ (e : GExpr) (r : Bool) (h : ref11_atom k e = some r), PFn Tryd.prog 59 [.agg (GExpr.cells e)] (.bool r) := by
  intro k
  intro e r h
  rw [ref11_atom] at h
  refine AFn.of Tryd.func59 rfl (Nat.le_of_ble_eq_true rfl) ?_
  refine ac_seq ?_
  refine ac_region rfl ?_
  refine rbox rfl rfl rfl rfl rfl fun b1 => ?_
  refine rq (u := .bool false) rfl rfl rfl (p_assign rfl) rfl ?_
  refine .done rfl ?_
  refine ac_seq ?_
  refine ac_seq ?_
  refine ac_region rfl ?_
  refine rq (u := .ptr b1 5) rfl rfl rfl (p_field_ptr fl_33_5 rfl rfl) rfl ?_
  refine rq (u := .slice .ro 6 (e.Of.map GExpr.enc)) rfl rfl rfl (p_load_ptr ti_28 (fun _ => rfl) rfl rfl (.head _) (Nat.le_of_ble_eq_true rfl)) rfl ?_
  refine rq (u := .int .i64 (e.Of.length : Int)) rfl rfl rfl (p_lenm is_28 rfl rfl) rfl ?_
  refine rq (u := .bool (decide (0 < (e.Of.length : Int)))) rfl rfl rfl (p_gtr rfl rfl rfl) rfl ?_
  refine rq (u := .bool (decide (0 < (e.Of.length : Int)))) rfl rfl rfl (p_move rfl) rfl ?_
  refine rcase 8 rfl (fun hc1 => ?_) (fun hc1 => ?_)
  · replace h := cond_t hc1 h
    refine rskip rfl (guard_at rfl rfl rfl rfl rfl) rfl ?_
    refine rskip rfl (guard_at rfl rfl rfl rfl rfl) rfl ?_
    refine rskip rfl (guard_at rfl rfl rfl rfl rfl) rfl ?_
    refine rq (u := .bool true) rfl rfl rfl (p_pick rfl rfl) rfl ?_
    refine rq (u := .bool true) rfl rfl rfl (p_move rfl) rfl ?_
    refine rskip rfl (guard_at rfl rfl rfl rfl rfl) rfl ?_
    refine rskip rfl (guard_at rfl rfl rfl rfl rfl) rfl ?_
    refine rskip rfl (guard_at rfl rfl rfl rfl rfl) rfl ?_
    refine rq (u := .bool true) rfl rfl rfl (p_pick rfl rfl) rfl ?_
    refine .done rfl ?_
    refine ac_condT rfl rfl ?_
    refine ac_seq ?_
    refine ac_region rfl ?_
    refine rq (u := .bool false) rfl rfl rfl (p_assign rfl) rfl ?_
    refine .done rfl ?_
    refine ac_ret ?_
    show Fin _ _ _ _ _ _ _
    exact fin_ret (Nat.le_of_ble_eq_true rfl) rfl (by obtain rfl := Option.some.inj h; rfl)
  · replace h := cond_f hc1 h
    refine rq (u := .ptr b1 1) rfl (guard_at rfl rfl rfl rfl rfl) rfl (p_field_ptr fl_33_1 rfl rfl) rfl ?_
    refine rq (u := .int .i64 e.Field) rfl (guard_at rfl rfl rfl rfl rfl) rfl (p_load_ptr ti_3 (fun _ => rfl) rfl rfl (.head _) (Nat.le_of_ble_eq_true rfl)) rfl ?_
    refine rq (u := .bool (decide (e.Field < 1))) rfl (guard_at rfl rfl rfl rfl rfl) rfl (p_lss rfl rfl rfl) rfl ?_
    refine rq (u := .bool (decide (e.Field < 1))) rfl rfl rfl (p_pick rfl rfl) rfl ?_
    refine rq (u := .bool (decide (e.Field < 1))) rfl rfl rfl (p_move rfl) rfl ?_
    refine rcase 13 rfl (fun hc2 => ?_) (fun hc2 => ?_)
    · replace h := cond_t hc2 h
      refine rskip rfl (guard_at rfl rfl rfl rfl rfl) rfl ?_
      refine rskip rfl (guard_at rfl rfl rfl rfl rfl) rfl ?_
      refine rskip rfl (guard_at rfl rfl rfl rfl rfl) rfl ?_
      refine rq (u := .bool true) rfl rfl rfl (p_pick rfl rfl) rfl ?_
      refine .done rfl ?_
      refine ac_condT rfl rfl ?_
      refine ac_seq ?_
      refine ac_region rfl ?_
      refine rq (u := .bool false) rfl rfl rfl (p_assign rfl) rfl ?_
      refine .done rfl ?_
      refine ac_ret ?_
      show Fin _ _ _ _ _ _ _
      exact fin_ret (Nat.le_of_ble_eq_true rfl) rfl (by obtain rfl := Option.some.inj h; rfl)
    · replace h := cond_f hc2 h
      refine rq (u := .ptr b1 1) rfl (guard_at rfl rfl rfl rfl rfl) rfl (p_field_ptr fl_33_1 rfl rfl) rfl ?_
      refine rq (u := .int .i64 e.Field) rfl (guard_at rfl rfl rfl rfl rfl) rfl (p_load_ptr ti_3 (fun _ => rfl) rfl rfl (.head _) (Nat.le_of_ble_eq_true rfl)) rfl ?_
      refine rq (u := .bool (decide (6 < e.Field))) rfl (guard_at rfl rfl rfl rfl rfl) rfl (p_gtr rfl rfl rfl) rfl ?_
      refine rq (u := .bool (decide (6 < e.Field))) rfl rfl rfl (p_pick rfl rfl) rfl ?_
      refine .done rfl ?_
      refine ac_cond rfl rfl (fun hc26 => ?_) (fun hc26 => ?_)
      · replace h := cond_t hc26 h
        refine ac_seq ?_
        refine ac_region rfl ?_
        refine rq (u := .bool false) rfl rfl rfl (p_assign rfl) rfl ?_
        refine .done rfl ?_
        refine ac_ret ?_
        show Fin _ _ _ _ _ _ _
        exact fin_ret (Nat.le_of_ble_eq_true rfl) rfl (by obtain rfl := Option.some.inj h; rfl)
      · replace h := cond_f hc26 h
        refine ac_skip ?_
        refine ac_seq ?_
        refine ac_seq ?_
        refine ac_region rfl ?_
        refine rq (u := .ptr b1 1) rfl rfl rfl (p_field_ptr fl_33_1 rfl rfl) rfl ?_
        refine rq (u := .int .i64 e.Field) rfl rfl rfl (p_load_ptr ti_3 (fun _ => rfl) rfl rfl (.head _) (Nat.le_of_ble_eq_true rfl)) rfl ?_
        refine rq (u := .bool (e.Field == 6)) rfl rfl rfl (p_eql rfl rfl rfl) rfl ?_
        refine .done rfl ?_
        refine ac_cond rfl rfl (fun hc25 => ?_) (fun hc25 => ?_)
        · replace h := cond_t hc25 h
          refine ac_seq ?_
          refine ac_region rfl ?_
          refine rq (u := .ptr b1 2) rfl rfl rfl (p_field_ptr fl_33_2 rfl rfl) rfl ?_
          refine rq (u := .slice .ro 2 (e.Ranges.map GRange.enc)) rfl rfl rfl (p_load_ptr ti_30 (fun _ => rfl) rfl rfl (.head _) (Nat.le_of_ble_eq_true rfl)) rfl ?_
          refine rq (u := .int .i64 (e.Ranges.length : Int)) rfl rfl rfl (p_lenm is_30 rfl rfl) rfl ?_
          refine rq (u := .bool ((e.Ranges.length : Int) == 0)) rfl rfl rfl (p_eql rfl rfl rfl) rfl ?_
          refine rq (u := .bool ((e.Ranges.length : Int) == 0)) rfl rfl rfl (p_move rfl) rfl ?_
          refine rcase 25 rfl (fun hc3 => ?_) (fun hc3 => ?_)
          · replace h := cond_t hc3 h
            refine rq (u := .ptr b1 3) rfl (guard_at rfl rfl rfl rfl rfl) rfl (p_field_ptr fl_33_3 rfl rfl) rfl ?_
            refine rq (u := encF e.Low) rfl (guard_at rfl rfl rfl rfl rfl) rfl (p_load_ptr ti_31 (fun _ => rfl) rfl rfl (.head _) (Nat.le_of_ble_eq_true rfl)) rfl ?_
            obtain ⟨v4, hv4, h⟩ := bnd_some h
            refine rq (u := .bool v4) rfl (guard_at rfl rfl rfl rfl rfl) rfl (p_pfnL en_69 (ref11_bound_fn k e.Low v4 hv4) rfl rfl (TVles.refl _)) rfl ?_
            refine rq (u := .bool v4) rfl rfl rfl (p_pick rfl rfl) rfl ?_
            refine rq (u := .bool v4) rfl rfl rfl (p_move rfl) rfl ?_
            refine rcase 30 rfl (fun hc5 => ?_) (fun hc5 => ?_)
            · replace h := cond_t hc5 h
              refine rq (u := .ptr b1 4) rfl (guard_at rfl rfl rfl rfl rfl) rfl (p_field_ptr fl_33_4 rfl rfl) rfl ?_
              refine rq (u := encF e.High) rfl (guard_at rfl rfl rfl rfl rfl) rfl (p_load_ptr ti_31 (fun _ => rfl) rfl rfl (.head _) (Nat.le_of_ble_eq_true rfl)) rfl ?_
              obtain ⟨v6, hv6, h⟩ := bnd_some h
              refine rq (u := .bool v6) rfl (guard_at rfl rfl rfl rfl rfl) rfl (p_pfnL en_69 (ref11_bound_fn k e.High v6 hv6) rfl rfl (TVles.refl _)) rfl ?_
              refine rq (u := .bool v6) rfl rfl rfl (p_pick rfl rfl) rfl ?_
              refine rq (u := .bool v6) rfl rfl rfl (p_assign rfl) rfl ?_
              refine .done rfl ?_
              refine ac_ret ?_
              show Fin _ _ _ _ _ _ _
              exact fin_ret (Nat.le_of_ble_eq_true rfl) rfl (by obtain rfl := Option.some.inj h; rfl)
            · replace h := cond_f hc5 h
              refine rskip rfl (guard_at rfl rfl rfl rfl rfl) rfl ?_
              refine rskip rfl (guard_at rfl rfl rfl rfl rfl) rfl ?_
              refine rskip rfl (guard_at rfl rfl rfl rfl rfl) rfl ?_
              refine rq (u := .bool false) rfl rfl rfl (p_pick rfl rfl) rfl ?_
              refine rq (u := .bool false) rfl rfl rfl (p_assign rfl) rfl ?_
              refine .done rfl ?_
              refine ac_ret ?_
              show Fin _ _ _ _ _ _ _
              exact fin_ret (Nat.le_of_ble_eq_true rfl) rfl (by obtain rfl := Option.some.inj h; rfl)
          · replace h := cond_f hc3 h
            refine rskip rfl (guard_at rfl rfl rfl rfl rfl) rfl ?_
            refine rskip rfl (guard_at rfl rfl rfl rfl rfl) rfl ?_
            refine rskip rfl (guard_at rfl rfl rfl rfl rfl) rfl ?_
            refine rq (u := .bool false) rfl rfl rfl (p_pick rfl rfl) rfl ?_
            refine rq (u := .bool false) rfl rfl rfl (p_move rfl) rfl ?_
            refine rskip rfl (guard_at rfl rfl rfl rfl rfl) rfl ?_
            refine rskip rfl (guard_at rfl rfl rfl rfl rfl) rfl ?_
            refine rskip rfl (guard_at rfl rfl rfl rfl rfl) rfl ?_
            refine rq (u := .bool false) rfl rfl rfl (p_pick rfl rfl) rfl ?_
            refine rq (u := .bool false) rfl rfl rfl (p_assign rfl) rfl ?_
            refine .done rfl ?_
            refine ac_ret ?_
            show Fin _ _ _ _ _ _ _
            exact fin_ret (Nat.le_of_ble_eq_true rfl) rfl (by obtain rfl := Option.some.inj h; rfl)
        · replace h := cond_f hc25 h
          refine ac_skip ?_
          refine ac_seq ?_
          refine ac_seq ?_
          refine ac_region rfl ?_
          refine rq (u := .int .i64 0) rfl rfl rfl (p_assign rfl) rfl ?_
          refine .done rfl ?_
          refine ac_block ?_
          refine ac_turns (σ := Nat × Int) (fun (⟨m8, x7⟩ : Nat × Int) => [(0, .agg (GExpr.cells e)), (1, .ptr b1 0), (2, .bool false), (3, .int .i64 x7), (4, .ptr b1 5), (5, .slice .ro 6 (e.Of.map GExpr.enc)), (6, .int .i64 (e.Of.length : Int)), (7, .bool (decide (0 < (e.Of.length : Int)))), (8, .bool false), (9, .ptr b1 1), (10, .int .i64 e.Field), (11, .bool (decide (e.Field < 1))), (12, .bool (decide (e.Field < 1))), (13, .bool false), (14, .ptr b1 1), (15, .int .i64 e.Field), (16, .bool (decide (6 < e.Field))), (17, .bool (decide (6 < e.Field))), (18, .ptr b1 1), (19, .int .i64 e.Field), (20, .bool (e.Field == 6))]) (fun (⟨m8, x7⟩ : Nat × Int) => [(b1, RS.box [.int .i64 e.Kind, .int .i64 e.Field, .slice .ro 2 (e.Ranges.map GRange.enc), encF e.Low, encF e.High, .slice .ro 6 (e.Of.map GExpr.enc)])]) (fun x => x.1) (fun (⟨m8, x7⟩ : Nat × Int) => ref11_atom_L0 k e (fun x20 => cond (decide (0 < (e.Ranges.length : Int))) (bnd (ref11_plain k e.Low) fun v22 => cond v22 (bnd (ref11_plain k e.High) fun v24 => some v24) (some false)) (some false)) m8 x7 = some r) ⟨k, 0⟩ h ⟨TVle.refl _, TVle.refl _, TVle.refl _, TVle.refl _, TVle.refl _, TVle.refl _, TVle.refl _, TVle.refl _, TVle.refl _, TVle.refl _, TVle.refl _, TVle.refl _, TVle.refl _, TVle.refl _, TVle.refl _, TVle.refl _, TVle.refl _, TVle.refl _, TVle.refl _, TVle.refl _, TVle.refl _, trivial⟩ (ResLe.refl _) ?_
          rintro ⟨m8, x7⟩ h
          replace h : ref11_atom_L0 k e (fun x20 => cond (decide (0 < (e.Ranges.length : Int))) (bnd (ref11_plain k e.Low) fun v22 => cond v22 (bnd (ref11_plain k e.High) fun v24 => some v24) (some false)) (some false)) m8 x7 = some r := h
          show ACode _ _ _ [(0, .agg (GExpr.cells e)), (1, .ptr b1 0), (2, .bool false), (3, .int .i64 x7), (4, .ptr b1 5), (5, .slice .ro 6 (e.Of.map GExpr.enc)), (6, .int .i64 (e.Of.length : Int)), (7, .bool (decide (0 < (e.Of.length : Int)))), (8, .bool false), (9, .ptr b1 1), (10, .int .i64 e.Field), (11, .bool (decide (e.Field < 1))), (12, .bool (decide (e.Field < 1))), (13, .bool false), (14, .ptr b1 1), (15, .int .i64 e.Field), (16, .bool (decide (6 < e.Field))), (17, .bool (decide (6 < e.Field))), (18, .ptr b1 1), (19, .int .i64 e.Field), (20, .bool (e.Field == 6))] [(b1, RS.box [.int .i64 e.Kind, .int .i64 e.Field, .slice .ro 2 (e.Ranges.map GRange.enc), encF e.Low, encF e.High, .slice .ro 6 (e.Of.map GExpr.enc)])] _
          cases m8 with
          | zero => rw [ref11_atom_L0] at h; cases h
          | succ m8 =>
            rw [ref11_atom_L0] at h
            refine ac_seq ?_
            refine ac_seq ?_
            refine ac_region rfl ?_
            refine rq (u := .int .i64 x7) rfl rfl rfl (p_move rfl) rfl ?_
            refine rq (u := .ptr b1 2) rfl rfl rfl (p_field_ptr fl_33_2 rfl rfl) rfl ?_
            refine rq (u := .slice .ro 2 (e.Ranges.map GRange.enc)) rfl rfl rfl (p_load_ptr ti_30 (fun _ => rfl) rfl rfl (.head _) (Nat.le_of_ble_eq_true rfl)) rfl ?_
            refine rq (u := .int .i64 (e.Ranges.length : Int)) rfl rfl rfl (p_lenm is_30 rfl rfl) rfl ?_
            refine rq (u := .bool (decide (x7 < (e.Ranges.length : Int)))) rfl rfl rfl (p_lss rfl rfl rfl) rfl ?_
            refine .done rfl ?_
            refine ac_cond rfl rfl (fun hc19 => ?_) (fun hc19 => ?_)
            · replace h := cond_t hc19 h
              refine ac_skip ?_
              refine ac_seq ?_
              refine ac_block ?_
              refine ac_seq ?_
              refine ac_region rfl ?_
              refine rq (u := .ptr b1 2) rfl rfl rfl (p_field_ptr fl_33_2 rfl rfl) rfl ?_
              refine rq (u := .slice .ro 2 (e.Ranges.map GRange.enc)) rfl rfl rfl (p_load_ptr ti_30 (fun _ => rfl) rfl rfl (.head _) (Nat.le_of_ble_eq_true rfl)) rfl ?_
              refine rq (u := .int .i64 x7) rfl rfl rfl (p_move rfl) rfl ?_
              obtain ⟨v9, hv9, h⟩ := bnd_some h
              refine rq (u := .rptr [.int .i64 v9.Low, .int .i64 v9.High]) rfl rfl rfl (p_ix GRange.enc_eq sl_30 hv9 rfl rfl rfl) rfl ?_
              refine rq (u := .rptr [.int .i64 v9.Low, .int .i64 v9.High]) rfl rfl rfl (p_field_rptr fl_41_0 rfl rfl) rfl ?_
              refine rq (u := .int .i64 v9.Low) rfl rfl rfl (p_load_rptr ti_3 (fun _ => rfl) rfl rfl (Nat.le_of_ble_eq_true rfl)) rfl ?_
              obtain ⟨v10, hv10, h⟩ := bnd_some h
              refine rq (u := .bool v10) rfl rfl rfl (p_pfnL en_41 (ref11_num_fn k v9.Low v10 hv10) rfl rfl (TVles.refl _)) rfl ?_
              refine rq (u := .bool (!v10)) rfl rfl rfl (p_not rfl rfl) rfl ?_
              refine rq (u := .bool (!v10)) rfl rfl rfl (p_move rfl) rfl ?_
              refine rcase 50 rfl (fun hc11 => ?_) (fun hc11 => ?_)
              · replace h := cond_t hc11 h
                refine rskip rfl (guard_at rfl rfl rfl rfl rfl) rfl ?_
                refine rskip rfl (guard_at rfl rfl rfl rfl rfl) rfl ?_
                refine rskip rfl (guard_at rfl rfl rfl rfl rfl) rfl ?_
                refine rskip rfl (guard_at rfl rfl rfl rfl rfl) rfl ?_
                refine rskip rfl (guard_at rfl rfl rfl rfl rfl) rfl ?_
                refine rskip rfl (guard_at rfl rfl rfl rfl rfl) rfl ?_
                refine rskip rfl (guard_at rfl rfl rfl rfl rfl) rfl ?_
                refine rskip rfl (guard_at rfl rfl rfl rfl rfl) rfl ?_
                refine rq (u := .bool true) rfl rfl rfl (p_pick rfl rfl) rfl ?_
                refine .done rfl ?_
                refine ac_condT rfl rfl ?_
                refine ac_seq ?_
                refine ac_region rfl ?_
                refine rq (u := .bool false) rfl rfl rfl (p_assign rfl) rfl ?_
                refine .done rfl ?_
                refine ac_ret ?_
                show Fin _ _ _ _ _ _ _
                exact fin_ret (Nat.le_of_ble_eq_true rfl) rfl (by obtain rfl := Option.some.inj h; rfl)
              · replace h := cond_f hc11 h
                refine rq (u := .ptr b1 2) rfl (guard_at rfl rfl rfl rfl rfl) rfl (p_field_ptr fl_33_2 rfl rfl) rfl ?_
                refine rq (u := .slice .ro 2 (e.Ranges.map GRange.enc)) rfl (guard_at rfl rfl rfl rfl rfl) rfl (p_load_ptr ti_30 (fun _ => rfl) rfl rfl (.head _) (Nat.le_of_ble_eq_true rfl)) rfl ?_
                refine rq (u := .int .i64 x7) rfl (guard_at rfl rfl rfl rfl rfl) rfl (p_move rfl) rfl ?_
                obtain ⟨v12, hv12, h⟩ := bnd_some h
                refine rq (u := .rptr [.int .i64 v12.Low, .int .i64 v12.High]) rfl (guard_at rfl rfl rfl rfl rfl) rfl (p_ix GRange.enc_eq sl_30 hv12 rfl rfl rfl) rfl ?_
                refine rq (u := .rptr [.int .i64 v12.High]) rfl (guard_at rfl rfl rfl rfl rfl) rfl (p_field_rptr fl_41_1 rfl rfl) rfl ?_
                refine rq (u := .int .i64 v12.High) rfl (guard_at rfl rfl rfl rfl rfl) rfl (p_load_rptr ti_3 (fun _ => rfl) rfl rfl (Nat.le_of_ble_eq_true rfl)) rfl ?_
                obtain ⟨v13, hv13, h⟩ := bnd_some h
                refine rq (u := .bool v13) rfl (guard_at rfl rfl rfl rfl rfl) rfl (p_pfnL en_41 (ref11_num_fn k v12.High v13 hv13) rfl rfl (TVles.refl _)) rfl ?_
                refine rq (u := .bool (!v13)) rfl (guard_at rfl rfl rfl rfl rfl) rfl (p_not rfl rfl) rfl ?_
                refine rq (u := .bool (!v13)) rfl rfl rfl (p_pick rfl rfl) rfl ?_
                refine .done rfl ?_
                refine ac_cond rfl rfl (fun hc14 => ?_) (fun hc14 => ?_)
                · replace h := cond_t hc14 h
                  refine ac_seq ?_
                  refine ac_region rfl ?_
                  refine rq (u := .bool false) rfl rfl rfl (p_assign rfl) rfl ?_
                  refine .done rfl ?_
                  refine ac_ret ?_
                  show Fin _ _ _ _ _ _ _
                  exact fin_ret (Nat.le_of_ble_eq_true rfl) rfl (by obtain rfl := Option.some.inj h; rfl)
                · replace h := cond_f hc14 h
                  refine ac_skip ?_
                  refine ac_region rfl ?_
                  refine rq (u := .int .i64 x7) rfl rfl rfl (p_move rfl) rfl ?_
                  refine rq (u := .int .i64 (IntKind.wrap .i64 (x7 + 1))) rfl rfl rfl (p_add rfl rfl rfl) rfl ?_
                  refine rq (u := .int .i64 (IntKind.wrap .i64 (x7 + 1))) rfl rfl rfl (p_assign rfl) rfl ?_
                  refine .done rfl ?_
                  exact ⟨⟨m8, (IntKind.wrap .i64 (x7 + 1))⟩, h, Nat.lt_succ_self _, ⟨TVle.refl _, TVle.refl _, TVle.refl _, TVle.refl _, TVle.refl _, TVle.refl _, TVle.refl _, TVle.refl _, TVle.refl _, TVle.refl _, TVle.refl _, TVle.refl _, TVle.refl _, TVle.refl _, TVle.refl _, TVle.refl _, TVle.refl _, TVle.refl _, TVle.refl _, TVle.refl _, TVle.refl _, trivial⟩, (ResLe.refl _)⟩
            · replace h := cond_f hc19 h
              refine ac_exit ?_
              refine ac_seq ?_
              refine ac_region rfl ?_
              refine rq (u := .ptr b1 2) rfl rfl rfl (p_field_ptr fl_33_2 rfl rfl) rfl ?_
              refine rq (u := .slice .ro 2 (e.Ranges.map GRange.enc)) rfl rfl rfl (p_load_ptr ti_30 (fun _ => rfl) rfl rfl (.head _) (Nat.le_of_ble_eq_true rfl)) rfl ?_
              refine rq (u := .int .i64 (e.Ranges.length : Int)) rfl rfl rfl (p_lenm is_30 rfl rfl) rfl ?_
              refine rq (u := .bool (decide (0 < (e.Ranges.length : Int)))) rfl rfl rfl (p_gtr rfl rfl rfl) rfl ?_
              refine rq (u := .bool (decide (0 < (e.Ranges.length : Int)))) rfl rfl rfl (p_move rfl) rfl ?_
              refine rcase 64 rfl (fun hc15 => ?_) (fun hc15 => ?_)
              · replace h := cond_t hc15 h
                refine rq (u := .ptr b1 3) rfl (guard_at rfl rfl rfl rfl rfl) rfl (p_field_ptr fl_33_3 rfl rfl) rfl ?_
                refine rq (u := encF e.Low) rfl (guard_at rfl rfl rfl rfl rfl) rfl (p_load_ptr ti_31 (fun _ => rfl) rfl rfl (.head _) (Nat.le_of_ble_eq_true rfl)) rfl ?_
                obtain ⟨v16, hv16, h⟩ := bnd_some h
                refine rq (u := .bool v16) rfl (guard_at rfl rfl rfl rfl rfl) rfl (p_pfnL en_60 (ref11_plain_fn k e.Low v16 hv16) rfl rfl (TVles.refl _)) rfl ?_
                refine rq (u := .bool v16) rfl rfl rfl (p_pick rfl rfl) rfl ?_
                refine rq (u := .bool v16) rfl rfl rfl (p_move rfl) rfl ?_
                refine rcase 69 rfl (fun hc17 => ?_) (fun hc17 => ?_)
                · replace h := cond_t hc17 h
                  refine rq (u := .ptr b1 4) rfl (guard_at rfl rfl rfl rfl rfl) rfl (p_field_ptr fl_33_4 rfl rfl) rfl ?_
                  refine rq (u := encF e.High) rfl (guard_at rfl rfl rfl rfl rfl) rfl (p_load_ptr ti_31 (fun _ => rfl) rfl rfl (.head _) (Nat.le_of_ble_eq_true rfl)) rfl ?_
                  obtain ⟨v18, hv18, h⟩ := bnd_some h
                  refine rq (u := .bool v18) rfl (guard_at rfl rfl rfl rfl rfl) rfl (p_pfnL en_60 (ref11_plain_fn k e.High v18 hv18) rfl rfl (TVles.refl _)) rfl ?_
                  refine rq (u := .bool v18) rfl rfl rfl (p_pick rfl rfl) rfl ?_
                  refine rq (u := .bool v18) rfl rfl rfl (p_assign rfl) rfl ?_
                  refine .done rfl ?_
                  refine ac_ret ?_
                  show Fin _ _ _ _ _ _ _
                  exact fin_ret (Nat.le_of_ble_eq_true rfl) rfl (by obtain rfl := Option.some.inj h; rfl)
                · replace h := cond_f hc17 h
                  refine rskip rfl (guard_at rfl rfl rfl rfl rfl) rfl ?_
                  refine rskip rfl (guard_at rfl rfl rfl rfl rfl) rfl ?_
                  refine rskip rfl (guard_at rfl rfl rfl rfl rfl) rfl ?_
                  refine rq (u := .bool false) rfl rfl rfl (p_pick rfl rfl) rfl ?_
                  refine rq (u := .bool false) rfl rfl rfl (p_assign rfl) rfl ?_
                  refine .done rfl ?_
                  refine ac_ret ?_
                  show Fin _ _ _ _ _ _ _
                  exact fin_ret (Nat.le_of_ble_eq_true rfl) rfl (by obtain rfl := Option.some.inj h; rfl)
              · replace h := cond_f hc15 h
                refine rskip rfl (guard_at rfl rfl rfl rfl rfl) rfl ?_
                refine rskip rfl (guard_at rfl rfl rfl rfl rfl) rfl ?_
                refine rskip rfl (guard_at rfl rfl rfl rfl rfl) rfl ?_
                refine rq (u := .bool false) rfl rfl rfl (p_pick rfl rfl) rfl ?_
                refine rq (u := .bool false) rfl rfl rfl (p_move rfl) rfl ?_
                refine rskip rfl (guard_at rfl rfl rfl rfl rfl) rfl ?_
                refine rskip rfl (guard_at rfl rfl rfl rfl rfl) rfl ?_
                refine rskip rfl (guard_at rfl rfl rfl rfl rfl) rfl ?_
                refine rq (u := .bool false) rfl rfl rfl (p_pick rfl rfl) rfl ?_
                refine rq (u := .bool false) rfl rfl rfl (p_assign rfl) rfl ?_
                refine .done rfl ?_
                refine ac_ret ?_
                show Fin _ _ _ _ _ _ _
                exact fin_ret (Nat.le_of_ble_eq_true rfl) rfl (by obtain rfl := Option.some.inj h; rfl)

set_option maxRecDepth 20000 in
set_option maxHeartbeats 4000000 in
theorem ref11_Right_fn : ∀ k : Nat, ∀ (e : GExpr) (r : Bool) (h : ref11_Right k e = some r), PFn Tryd.prog 40 [.agg (GExpr.cells e)] (.bool r) := by
  intro k
  induction k with
  | zero => intro e r h; rw [ref11_Right] at h; cases h
  | succ k ih_ref11_Right =>
    intro e r h
    rw [ref11_Right] at h
    refine AFn.of Tryd.func40 rfl (Nat.le_of_ble_eq_true rfl) ?_
    refine ac_seq ?_
    refine ac_region rfl ?_
    refine rbox rfl rfl rfl rfl rfl fun b1 => ?_
    refine rq (u := .bool false) rfl rfl rfl (p_assign rfl) rfl ?_
    refine .done rfl ?_
    refine ac_seq ?_
    refine ac_seq ?_
    refine ac_region rfl ?_
    refine rq (u := .ptr b1 0) rfl rfl rfl (p_field_ptr fl_33_0 rfl rfl) rfl ?_
    refine rq (u := .int .i64 e.Kind) rfl rfl rfl (p_load_ptr ti_3 (fun _ => rfl) rfl rfl (.head _) (Nat.le_of_ble_eq_true rfl)) rfl ?_
    refine rq (u := .bool (e.Kind == 1)) rfl rfl rfl (p_eql rfl rfl rfl) rfl ?_
    refine .done rfl ?_
    refine ac_cond rfl rfl (fun hc43 => ?_) (fun hc43 => ?_)
    · replace h := cond_t hc43 h
      refine ac_seq ?_
      refine ac_region rfl ?_
      refine rq (u := .agg (GExpr.cells e)) rfl rfl rfl (p_load_ptr ti_33 nofun rfl rfl (.head _) (Nat.le_of_ble_eq_true rfl)) rfl ?_
      obtain ⟨v1, hv1, h⟩ := bnd_some h
      refine rq (u := .bool v1) rfl rfl rfl (p_pfnL en_59 (ref11_atom_fn k e v1 hv1) rfl rfl (TVles.refl _)) rfl ?_
      refine rq (u := .bool v1) rfl rfl rfl (p_assign rfl) rfl ?_
      refine .done rfl ?_
      refine ac_ret ?_
      show Fin _ _ _ _ _ _ _
      exact fin_ret (Nat.le_of_ble_eq_true rfl) rfl (by obtain rfl := Option.some.inj h; rfl)
    · replace h := cond_f hc43 h
      refine ac_skip ?_
      refine ac_seq ?_
      refine ac_seq ?_
      refine ac_region rfl ?_
      refine rq (u := .ptr b1 1) rfl rfl rfl (p_field_ptr fl_33_1 rfl rfl) rfl ?_
      refine rq (u := .int .i64 e.Field) rfl rfl rfl (p_load_ptr ti_3 (fun _ => rfl) rfl rfl (.head _) (Nat.le_of_ble_eq_true rfl)) rfl ?_
      refine rq (u := .bool (e.Field != 0)) rfl rfl rfl (p_neq rfl rfl rfl) rfl ?_
      refine rq (u := .bool (e.Field != 0)) rfl rfl rfl (p_move rfl) rfl ?_
      refine rcase 12 rfl (fun hc2 => ?_) (fun hc2 => ?_)
      · replace h := cond_t hc2 h
        refine rskip rfl (guard_at rfl rfl rfl rfl rfl) rfl ?_
        refine rskip rfl (guard_at rfl rfl rfl rfl rfl) rfl ?_
        refine rskip rfl (guard_at rfl rfl rfl rfl rfl) rfl ?_
        refine rskip rfl (guard_at rfl rfl rfl rfl rfl) rfl ?_
        refine rq (u := .bool true) rfl rfl rfl (p_pick rfl rfl) rfl ?_
        refine rq (u := .bool true) rfl rfl rfl (p_move rfl) rfl ?_
        refine rskip rfl (guard_at rfl rfl rfl rfl rfl) rfl ?_
        refine rskip rfl (guard_at rfl rfl rfl rfl rfl) rfl ?_
        refine rskip rfl (guard_at rfl rfl rfl rfl rfl) rfl ?_
        refine rskip rfl (guard_at rfl rfl rfl rfl rfl) rfl ?_
        refine rq (u := .bool true) rfl rfl rfl (p_pick rfl rfl) rfl ?_
        refine rq (u := .bool true) rfl rfl rfl (p_move rfl) rfl ?_
        refine rskip rfl (guard_at rfl rfl rfl rfl rfl) rfl ?_
        refine rskip rfl (guard_at rfl rfl rfl rfl rfl) rfl ?_
        refine rskip rfl (guard_at rfl rfl rfl rfl rfl) rfl ?_
        refine rskip rfl (guard_at rfl rfl rfl rfl rfl) rfl ?_
        refine rq (u := .bool true) rfl rfl rfl (p_pick rfl rfl) rfl ?_
        refine .done rfl ?_
        refine ac_condT rfl rfl ?_
        refine ac_seq ?_
        refine ac_region rfl ?_
        refine rq (u := .bool false) rfl rfl rfl (p_assign rfl) rfl ?_
        refine .done rfl ?_
        refine ac_ret ?_
        show Fin _ _ _ _ _ _ _
        exact fin_ret (Nat.le_of_ble_eq_true rfl) rfl (by obtain rfl := Option.some.inj h; rfl)
      · replace h := cond_f hc2 h
        refine rq (u := .ptr b1 2) rfl (guard_at rfl rfl rfl rfl rfl) rfl (p_field_ptr fl_33_2 rfl rfl) rfl ?_
        refine rq (u := .slice .ro 2 (e.Ranges.map GRange.enc)) rfl (guard_at rfl rfl rfl rfl rfl) rfl (p_load_ptr ti_30 (fun _ => rfl) rfl rfl (.head _) (Nat.le_of_ble_eq_true rfl)) rfl ?_
        refine rq (u := .int .i64 (e.Ranges.length : Int)) rfl (guard_at rfl rfl rfl rfl rfl) rfl (p_lenm is_30 rfl rfl) rfl ?_
        refine rq (u := .bool (decide (0 < (e.Ranges.length : Int)))) rfl (guard_at rfl rfl rfl rfl rfl) rfl (p_gtr rfl rfl rfl) rfl ?_
        refine rq (u := .bool (decide (0 < (e.Ranges.length : Int)))) rfl rfl rfl (p_pick rfl rfl) rfl ?_
        refine rq (u := .bool (decide (0 < (e.Ranges.length : Int)))) rfl rfl rfl (p_move rfl) rfl ?_
        refine rcase 18 rfl (fun hc3 => ?_) (fun hc3 => ?_)
        · replace h := cond_t hc3 h
          refine rskip rfl (guard_at rfl rfl rfl rfl rfl) rfl ?_
          refine rskip rfl (guard_at rfl rfl rfl rfl rfl) rfl ?_
          refine rskip rfl (guard_at rfl rfl rfl rfl rfl) rfl ?_
          refine rskip rfl (guard_at rfl rfl rfl rfl rfl) rfl ?_
          refine rq (u := .bool true) rfl rfl rfl (p_pick rfl rfl) rfl ?_
          refine rq (u := .bool true) rfl rfl rfl (p_move rfl) rfl ?_
          refine rskip rfl (guard_at rfl rfl rfl rfl rfl) rfl ?_
          refine rskip rfl (guard_at rfl rfl rfl rfl rfl) rfl ?_
          refine rskip rfl (guard_at rfl rfl rfl rfl rfl) rfl ?_
          refine rskip rfl (guard_at rfl rfl rfl rfl rfl) rfl ?_
          refine rq (u := .bool true) rfl rfl rfl (p_pick rfl rfl) rfl ?_
          refine .done rfl ?_
          refine ac_condT rfl rfl ?_
          refine ac_seq ?_
          refine ac_region rfl ?_
          refine rq (u := .bool false) rfl rfl rfl (p_assign rfl) rfl ?_
          refine .done rfl ?_
          refine ac_ret ?_
          show Fin _ _ _ _ _ _ _
          exact fin_ret (Nat.le_of_ble_eq_true rfl) rfl (by obtain rfl := Option.some.inj h; rfl)
        · replace h := cond_f hc3 h
          refine rq (u := .ptr b1 3) rfl (guard_at rfl rfl rfl rfl rfl) rfl (p_field_ptr fl_33_3 rfl rfl) rfl ?_
          refine rq (u := encF e.Low) rfl (guard_at rfl rfl rfl rfl rfl) rfl (p_load_ptr ti_31 (fun _ => rfl) rfl rfl (.head _) (Nat.le_of_ble_eq_true rfl)) rfl ?_
          obtain ⟨v4, hv4, h⟩ := bnd_some h
          refine rq (u := .bool v4) rfl (guard_at rfl rfl rfl rfl rfl) rfl (p_pfnL en_60 (ref11_plain_fn k e.Low v4 hv4) rfl rfl (TVles.refl _)) rfl ?_
          refine rq (u := .bool (!v4)) rfl (guard_at rfl rfl rfl rfl rfl) rfl (p_not rfl rfl) rfl ?_
          refine rq (u := .bool (!v4)) rfl rfl rfl (p_pick rfl rfl) rfl ?_
          refine rq (u := .bool (!v4)) rfl rfl rfl (p_move rfl) rfl ?_
          refine rcase 24 rfl (fun hc5 => ?_) (fun hc5 => ?_)
          · replace h := cond_t hc5 h
            refine rskip rfl (guard_at rfl rfl rfl rfl rfl) rfl ?_
            refine rskip rfl (guard_at rfl rfl rfl rfl rfl) rfl ?_
            refine rskip rfl (guard_at rfl rfl rfl rfl rfl) rfl ?_
            refine rskip rfl (guard_at rfl rfl rfl rfl rfl) rfl ?_
            refine rq (u := .bool true) rfl rfl rfl (p_pick rfl rfl) rfl ?_
            refine .done rfl ?_
            refine ac_condT rfl rfl ?_
            refine ac_seq ?_
            refine ac_region rfl ?_
            refine rq (u := .bool false) rfl rfl rfl (p_assign rfl) rfl ?_
            refine .done rfl ?_
            refine ac_ret ?_
            show Fin _ _ _ _ _ _ _
            exact fin_ret (Nat.le_of_ble_eq_true rfl) rfl (by obtain rfl := Option.some.inj h; rfl)
          · replace h := cond_f hc5 h
            refine rq (u := .ptr b1 4) rfl (guard_at rfl rfl rfl rfl rfl) rfl (p_field_ptr fl_33_4 rfl rfl) rfl ?_
            refine rq (u := encF e.High) rfl (guard_at rfl rfl rfl rfl rfl) rfl (p_load_ptr ti_31 (fun _ => rfl) rfl rfl (.head _) (Nat.le_of_ble_eq_true rfl)) rfl ?_
            obtain ⟨v6, hv6, h⟩ := bnd_some h
            refine rq (u := .bool v6) rfl (guard_at rfl rfl rfl rfl rfl) rfl (p_pfnL en_60 (ref11_plain_fn k e.High v6 hv6) rfl rfl (TVles.refl _)) rfl ?_
            refine rq (u := .bool (!v6)) rfl (guard_at rfl rfl rfl rfl rfl) rfl (p_not rfl rfl) rfl ?_
            refine rq (u := .bool (!v6)) rfl rfl rfl (p_pick rfl rfl) rfl ?_
            refine .done rfl ?_
            refine ac_cond rfl rfl (fun hc42 => ?_) (fun hc42 => ?_)
            · replace h := cond_t hc42 h
              refine ac_seq ?_
              refine ac_region rfl ?_
              refine rq (u := .bool false) rfl rfl rfl (p_assign rfl) rfl ?_
              refine .done rfl ?_
              refine ac_ret ?_
              show Fin _ _ _ _ _ _ _
              exact fin_ret (Nat.le_of_ble_eq_true rfl) rfl (by obtain rfl := Option.some.inj h; rfl)
            · replace h := cond_f hc42 h
              refine ac_skip ?_
              refine ac_seq ?_
              refine ac_seq ?_
              refine ac_region rfl ?_
              refine rq (u := .ptr b1 0) rfl rfl rfl (p_field_ptr fl_33_0 rfl rfl) rfl ?_
              refine rq (u := .int .i64 e.Kind) rfl rfl rfl (p_load_ptr ti_3 (fun _ => rfl) rfl rfl (.head _) (Nat.le_of_ble_eq_true rfl)) rfl ?_
              refine .done rfl ?_
              refine ac_block ?_
              refine ac_seq ?_
              refine ac_region rfl ?_
              refine rq (u := .bool (e.Kind == 0)) rfl rfl rfl (p_eql rfl rfl rfl) rfl ?_
              refine rq (u := .bool (e.Kind == 0)) rfl rfl rfl (p_assign rfl) rfl ?_
              refine .done rfl ?_
              refine ac_cond rfl rfl (fun hc41 => ?_) (fun hc41 => ?_)
              · replace h := cond_t hc41 h
                refine ac_seq ?_
                refine ac_region rfl ?_
                refine rq (u := .ptr b1 5) rfl rfl rfl (p_field_ptr fl_33_5 rfl rfl) rfl ?_
                refine rq (u := .slice .ro 6 (e.Of.map GExpr.enc)) rfl rfl rfl (p_load_ptr ti_28 (fun _ => rfl) rfl rfl (.head _) (Nat.le_of_ble_eq_true rfl)) rfl ?_
                refine rq (u := .int .i64 (e.Of.length : Int)) rfl rfl rfl (p_lenm is_28 rfl rfl) rfl ?_
                refine rq (u := .bool ((e.Of.length : Int) == 0)) rfl rfl rfl (p_eql rfl rfl rfl) rfl ?_
                refine rq (u := .bool ((e.Of.length : Int) == 0)) rfl rfl rfl (p_assign rfl) rfl ?_
                refine .done rfl ?_
                refine ac_ret ?_
                show Fin _ _ _ _ _ _ _
                exact fin_ret (Nat.le_of_ble_eq_true rfl) rfl (by obtain rfl := Option.some.inj h; rfl)
              · replace h := cond_f hc41 h
                refine ac_seq ?_
                refine ac_region rfl ?_
                refine rq (u := .bool (e.Kind == 2)) rfl rfl rfl (p_eql rfl rfl rfl) rfl ?_
                refine rq (u := .bool (e.Kind == 2)) rfl rfl rfl (p_assign rfl) rfl ?_
                refine .done rfl ?_
                refine ac_cond rfl rfl (fun hc40 => ?_) (fun hc40 => ?_)
                · replace h := cond_t hc40 h
                  refine ac_seq ?_
                  refine ac_region rfl ?_
                  refine rq (u := .ptr b1 5) rfl rfl rfl (p_field_ptr fl_33_5 rfl rfl) rfl ?_
                  refine rq (u := .slice .ro 6 (e.Of.map GExpr.enc)) rfl rfl rfl (p_load_ptr ti_28 (fun _ => rfl) rfl rfl (.head _) (Nat.le_of_ble_eq_true rfl)) rfl ?_
                  refine rq (u := .int .i64 (e.Of.length : Int)) rfl rfl rfl (p_lenm is_28 rfl rfl) rfl ?_
                  refine rq (u := .bool ((e.Of.length : Int) != 1)) rfl rfl rfl (p_neq rfl rfl rfl) rfl ?_
                  refine .done rfl ?_
                  refine ac_cond rfl rfl (fun hc16 => ?_) (fun hc16 => ?_)
                  · replace h := cond_t hc16 h
                    refine ac_seq ?_
                    refine ac_region rfl ?_
                    refine rq (u := .bool false) rfl rfl rfl (p_assign rfl) rfl ?_
                    refine .done rfl ?_
                    refine ac_ret ?_
                    show Fin _ _ _ _ _ _ _
                    exact fin_ret (Nat.le_of_ble_eq_true rfl) rfl (by obtain rfl := Option.some.inj h; rfl)
                  · replace h := cond_f hc16 h
                    refine ac_skip ?_
                    refine ac_seq ?_
                    refine ac_seq ?_
                    refine ac_region rfl ?_
                    refine rq (u := .int .i64 0) rfl rfl rfl (p_assign rfl) rfl ?_
                    refine .done rfl ?_
                    refine ac_block ?_
                    refine ac_turns (σ := Nat × Int) (fun (⟨m8, x7⟩ : Nat × Int) => [(0, .agg (GExpr.cells e)), (1, .ptr b1 0), (2, .bool false), (3, .int .i64 x7), (4, .ptr b1 0), (5, .int .i64 e.Kind), (6, .bool (e.Kind == 1)), (9, .ptr b1 1), (10, .int .i64 e.Field), (11, .bool (e.Field != 0)), (12, .bool false), (13, .ptr b1 2), (14, .slice .ro 2 (e.Ranges.map GRange.enc)), (15, .int .i64 (e.Ranges.length : Int)), (16, .bool (decide (0 < (e.Ranges.length : Int)))), (17, .bool (decide (0 < (e.Ranges.length : Int)))), (18, .bool false), (19, .ptr b1 3), (20, encF e.Low), (21, .bool v4), (22, .bool (!v4)), (23, .bool (!v4)), (24, .bool false), (25, .ptr b1 4), (26, encF e.High), (27, .bool v6), (28, .bool (!v6)), (29, .bool (!v6)), (30, .ptr b1 0), (31, .int .i64 e.Kind), (32, .bool (e.Kind == 0)), (33, .bool (e.Kind == 0)), (38, .bool (e.Kind == 2)), (39, .bool (e.Kind == 2)), (40, .ptr b1 5), (41, .slice .ro 6 (e.Of.map GExpr.enc)), (42, .int .i64 (e.Of.length : Int)), (43, .bool ((e.Of.length : Int) != 1))]) (fun (⟨m8, x7⟩ : Nat × Int) => [(b1, RS.box [.int .i64 e.Kind, .int .i64 e.Field, .slice .ro 2 (e.Ranges.map GRange.enc), encF e.Low, encF e.High, .slice .ro 6 (e.Of.map GExpr.enc)])]) (fun x => x.1) (fun (⟨m8, x7⟩ : Nat × Int) => ref11_Right_L0 (ref11_Right k) e (fun x15 => some true) m8 x7 = some r) ⟨k, 0⟩ h ⟨TVle.refl _, TVle.refl _, TVle.refl _, TVle.refl _, TVle.refl _, TVle.refl _, TVle.refl _, TVle.refl _, TVle.refl _, TVle.refl _, TVle.refl _, TVle.refl _, TVle.refl _, TVle.refl _, TVle.refl _, TVle.refl _, TVle.refl _, TVle.refl _, TVle.refl _, TVle.refl _, TVle.refl _, TVle.refl _, TVle.refl _, TVle.refl _, TVle.refl _, TVle.refl _, TVle.refl _, TVle.refl _, TVle.refl _, TVle.refl _, TVle.refl _, TVle.refl _, TVle.refl _, TVle.refl _, TVle.refl _, TVle.refl _, TVle.refl _, TVle.refl _, trivial⟩ (ResLe.refl _) ?_
                    rintro ⟨m8, x7⟩ h
                    replace h : ref11_Right_L0 (ref11_Right k) e (fun x15 => some true) m8 x7 = some r := h
                    show ACode _ _ _ [(0, .agg (GExpr.cells e)), (1, .ptr b1 0), (2, .bool false), (3, .int .i64 x7), (4, .ptr b1 0), (5, .int .i64 e.Kind), (6, .bool (e.Kind == 1)), (9, .ptr b1 1), (10, .int .i64 e.Field), (11, .bool (e.Field != 0)), (12, .bool false), (13, .ptr b1 2), (14, .slice .ro 2 (e.Ranges.map GRange.enc)), (15, .int .i64 (e.Ranges.length : Int)), (16, .bool (decide (0 < (e.Ranges.length : Int)))), (17, .bool (decide (0 < (e.Ranges.length : Int)))), (18, .bool false), (19, .ptr b1 3), (20, encF e.Low), (21, .bool v4), (22, .bool (!v4)), (23, .bool (!v4)), (24, .bool false), (25, .ptr b1 4), (26, encF e.High), (27, .bool v6), (28, .bool (!v6)), (29, .bool (!v6)), (30, .ptr b1 0), (31, .int .i64 e.Kind), (32, .bool (e.Kind == 0)), (33, .bool (e.Kind == 0)), (38, .bool (e.Kind == 2)), (39, .bool (e.Kind == 2)), (40, .ptr b1 5), (41, .slice .ro 6 (e.Of.map GExpr.enc)), (42, .int .i64 (e.Of.length : Int)), (43, .bool ((e.Of.length : Int) != 1))] [(b1, RS.box [.int .i64 e.Kind, .int .i64 e.Field, .slice .ro 2 (e.Ranges.map GRange.enc), encF e.Low, encF e.High, .slice .ro 6 (e.Of.map GExpr.enc)])] _
                    cases m8 with
                    | zero => rw [ref11_Right_L0] at h; cases h
                    | succ m8 =>
                      rw [ref11_Right_L0] at h
                      refine ac_seq ?_
                      refine ac_seq ?_
                      refine ac_region rfl ?_
                      refine rq (u := .int .i64 x7) rfl rfl rfl (p_move rfl) rfl ?_
                      refine rq (u := .ptr b1 5) rfl rfl rfl (p_field_ptr fl_33_5 rfl rfl) rfl ?_
                      refine rq (u := .slice .ro 6 (e.Of.map GExpr.enc)) rfl rfl rfl (p_load_ptr ti_28 (fun _ => rfl) rfl rfl (.head _) (Nat.le_of_ble_eq_true rfl)) rfl ?_
                      refine rq (u := .int .i64 (e.Of.length : Int)) rfl rfl rfl (p_lenm is_28 rfl rfl) rfl ?_
                      refine rq (u := .bool (decide (x7 < (e.Of.length : Int)))) rfl rfl rfl (p_lss rfl rfl rfl) rfl ?_
                      refine .done rfl ?_
                      refine ac_cond rfl rfl (fun hc14 => ?_) (fun hc14 => ?_)
                      · replace h := cond_t hc14 h
                        refine ac_skip ?_
                        refine ac_seq ?_
                        refine ac_block ?_
                        refine ac_seq ?_
                        refine ac_region rfl ?_
                        refine rq (u := .ptr b1 5) rfl rfl rfl (p_field_ptr fl_33_5 rfl rfl) rfl ?_
                        refine rq (u := .slice .ro 6 (e.Of.map GExpr.enc)) rfl rfl rfl (p_load_ptr ti_28 (fun _ => rfl) rfl rfl (.head _) (Nat.le_of_ble_eq_true rfl)) rfl ?_
                        refine rq (u := .int .i64 x7) rfl rfl rfl (p_move rfl) rfl ?_
                        obtain ⟨v9, hv9, h⟩ := bnd_some h
                        refine rq (u := .rptr [.int .i64 v9.Kind, .int .i64 v9.Field, .slice .ro 2 (v9.Ranges.map GRange.enc), encF v9.Low, encF v9.High, .slice .ro 6 (v9.Of.map GExpr.enc)]) rfl rfl rfl (p_ix GExpr.enc_eq sl_28 hv9 rfl rfl rfl) rfl ?_
                        refine rq (u := .rptr [.int .i64 v9.Kind, .int .i64 v9.Field, .slice .ro 2 (v9.Ranges.map GRange.enc), encF v9.Low, encF v9.High, .slice .ro 6 (v9.Of.map GExpr.enc)]) rfl rfl rfl (p_field_rptr fl_33_0 rfl rfl) rfl ?_
                        refine rq (u := .int .i64 v9.Kind) rfl rfl rfl (p_load_rptr ti_3 (fun _ => rfl) rfl rfl (Nat.le_of_ble_eq_true rfl)) rfl ?_
                        refine rq (u := .bool (v9.Kind == 0)) rfl rfl rfl (p_eql rfl rfl rfl) rfl ?_
                        refine rq (u := .bool (v9.Kind == 0)) rfl rfl rfl (p_move rfl) rfl ?_
                        refine rcase 65 rfl (fun hc10 => ?_) (fun hc10 => ?_)
                        · replace h := cond_t hc10 h
                          refine rskip rfl (guard_at rfl rfl rfl rfl rfl) rfl ?_
                          refine rskip rfl (guard_at rfl rfl rfl rfl rfl) rfl ?_
                          refine rskip rfl (guard_at rfl rfl rfl rfl rfl) rfl ?_
                          refine rskip rfl (guard_at rfl rfl rfl rfl rfl) rfl ?_
                          refine rskip rfl (guard_at rfl rfl rfl rfl rfl) rfl ?_
                          refine rskip rfl (guard_at rfl rfl rfl rfl rfl) rfl ?_
                          refine rskip rfl (guard_at rfl rfl rfl rfl rfl) rfl ?_
                          refine rq (u := .bool true) rfl rfl rfl (p_pick rfl rfl) rfl ?_
                          refine .done rfl ?_
                          refine ac_condT rfl rfl ?_
                          refine ac_seq ?_
                          refine ac_region rfl ?_
                          refine rq (u := .bool false) rfl rfl rfl (p_assign rfl) rfl ?_
                          refine .done rfl ?_
                          refine ac_ret ?_
                          show Fin _ _ _ _ _ _ _
                          exact fin_ret (Nat.le_of_ble_eq_true rfl) rfl (by obtain rfl := Option.some.inj h; rfl)
                        · replace h := cond_f hc10 h
                          refine rq (u := .ptr b1 5) rfl (guard_at rfl rfl rfl rfl rfl) rfl (p_field_ptr fl_33_5 rfl rfl) rfl ?_
                          refine rq (u := .slice .ro 6 (e.Of.map GExpr.enc)) rfl (guard_at rfl rfl rfl rfl rfl) rfl (p_load_ptr ti_28 (fun _ => rfl) rfl rfl (.head _) (Nat.le_of_ble_eq_true rfl)) rfl ?_
                          refine rq (u := .int .i64 x7) rfl (guard_at rfl rfl rfl rfl rfl) rfl (p_move rfl) rfl ?_
                          obtain ⟨v11, hv11, h⟩ := bnd_some h
                          refine rq (u := .rptr [.int .i64 v11.Kind, .int .i64 v11.Field, .slice .ro 2 (v11.Ranges.map GRange.enc), encF v11.Low, encF v11.High, .slice .ro 6 (v11.Of.map GExpr.enc)]) rfl (guard_at rfl rfl rfl rfl rfl) rfl (p_ix GExpr.enc_eq sl_28 hv11 rfl rfl rfl) rfl ?_
                          refine rq (u := .agg (GExpr.cells v11)) rfl (guard_at rfl rfl rfl rfl rfl) rfl (p_load_rptr ti_33 nofun rfl rfl (Nat.le_of_ble_eq_true rfl)) rfl ?_
                          obtain ⟨v12, hv12, h⟩ := bnd_some h
                          refine rq (u := .bool v12) rfl (guard_at rfl rfl rfl rfl rfl) rfl (p_pfnL en_40 (ih_ref11_Right v11 v12 hv12) rfl rfl (TVles.refl _)) rfl ?_
                          refine rq (u := .bool (!v12)) rfl (guard_at rfl rfl rfl rfl rfl) rfl (p_not rfl rfl) rfl ?_
                          refine rq (u := .bool (!v12)) rfl rfl rfl (p_pick rfl rfl) rfl ?_
                          refine .done rfl ?_
                          refine ac_cond rfl rfl (fun hc13 => ?_) (fun hc13 => ?_)
                          · replace h := cond_t hc13 h
                            refine ac_seq ?_
                            refine ac_region rfl ?_
                            refine rq (u := .bool false) rfl rfl rfl (p_assign rfl) rfl ?_
                            refine .done rfl ?_
                            refine ac_ret ?_
                            show Fin _ _ _ _ _ _ _
                            exact fin_ret (Nat.le_of_ble_eq_true rfl) rfl (by obtain rfl := Option.some.inj h; rfl)
                          · replace h := cond_f hc13 h
                            refine ac_skip ?_
                            refine ac_region rfl ?_
                            refine rq (u := .int .i64 x7) rfl rfl rfl (p_move rfl) rfl ?_
                            refine rq (u := .int .i64 (IntKind.wrap .i64 (x7 + 1))) rfl rfl rfl (p_add rfl rfl rfl) rfl ?_
                            refine rq (u := .int .i64 (IntKind.wrap .i64 (x7 + 1))) rfl rfl rfl (p_assign rfl) rfl ?_
                            refine .done rfl ?_
                            exact ⟨⟨m8, (IntKind.wrap .i64 (x7 + 1))⟩, h, Nat.lt_succ_self _, ⟨TVle.refl _, TVle.refl _, TVle.refl _, TVle.refl _, TVle.refl _, TVle.refl _, TVle.refl _, TVle.refl _, TVle.refl _, TVle.refl _, TVle.refl _, TVle.refl _, TVle.refl _, TVle.refl _, TVle.refl _, TVle.refl _, TVle.refl _, TVle.refl _, TVle.refl _, TVle.refl _, TVle.refl _, TVle.refl _, TVle.refl _, TVle.refl _, TVle.refl _, TVle.refl _, TVle.refl _, TVle.refl _, TVle.refl _, TVle.refl _, TVle.refl _, TVle.refl _, TVle.refl _, TVle.refl _, TVle.refl _, TVle.refl _, TVle.refl _, TVle.refl _, trivial⟩, (ResLe.refl _)⟩
                      · replace h := cond_f hc14 h
                        refine ac_exit ?_
                        refine ac_seq ?_
                        refine ac_region rfl ?_
                        refine rq (u := .bool true) rfl rfl rfl (p_assign rfl) rfl ?_
                        refine .done rfl ?_
                        refine ac_ret ?_
                        show Fin _ _ _ _ _ _ _
                        exact fin_ret (Nat.le_of_ble_eq_true rfl) rfl (by obtain rfl := Option.some.inj h; rfl)
                · replace h := cond_f hc40 h
                  refine ac_seq ?_
                  refine ac_seq ?_
                  refine ac_region rfl ?_
                  refine rq (u := .bool (e.Kind == 3)) rfl rfl rfl (p_eql rfl rfl rfl) rfl ?_
                  refine rq (u := .bool (e.Kind == 3)) rfl rfl rfl (p_assign rfl) rfl ?_
                  refine .done rfl ?_
                  refine ac_cond rfl rfl (fun hc39 => ?_) (fun hc39 => ?_)
                  · replace h := cond_t hc39 h
                    refine ac_skip ?_
                    refine ac_cond rfl rfl (fun hc27 => ?_) (fun hc27 => ?_)
                    · replace h := cond_t hc27 h
                      refine ac_seq ?_
                      refine ac_region rfl ?_
                      refine rq (u := .ptr b1 5) rfl rfl rfl (p_field_ptr fl_33_5 rfl rfl) rfl ?_
                      refine rq (u := .slice .ro 6 (e.Of.map GExpr.enc)) rfl rfl rfl (p_load_ptr ti_28 (fun _ => rfl) rfl rfl (.head _) (Nat.le_of_ble_eq_true rfl)) rfl ?_
                      refine rq (u := .int .i64 (e.Of.length : Int)) rfl rfl rfl (p_lenm is_28 rfl rfl) rfl ?_
                      refine rq (u := .bool (decide ((e.Of.length : Int) < 2))) rfl rfl rfl (p_lss rfl rfl rfl) rfl ?_
                      refine .done rfl ?_
                      refine ac_cond rfl rfl (fun hc26 => ?_) (fun hc26 => ?_)
                      · replace h := cond_t hc26 h
                        refine ac_seq ?_
                        refine ac_region rfl ?_
                        refine rq (u := .bool false) rfl rfl rfl (p_assign rfl) rfl ?_
                        refine .done rfl ?_
                        refine ac_ret ?_
                        show Fin _ _ _ _ _ _ _
                        exact fin_ret (Nat.le_of_ble_eq_true rfl) rfl (by obtain rfl := Option.some.inj h; rfl)
                      · replace h := cond_f hc26 h
                        refine ac_skip ?_
                        refine ac_seq ?_
                        refine ac_seq ?_
                        refine ac_region rfl ?_
                        refine rq (u := .int .i64 0) rfl rfl rfl (p_assign rfl) rfl ?_
                        refine .done rfl ?_
                        refine ac_block ?_
                        refine ac_turns (σ := Nat × Int) (fun (⟨m18, x17⟩ : Nat × Int) => [(0, .agg (GExpr.cells e)), (1, .ptr b1 0), (2, .bool false), (3, .int .i64 x17), (4, .ptr b1 0), (5, .int .i64 e.Kind), (6, .bool (e.Kind == 1)), (9, .ptr b1 1), (10, .int .i64 e.Field), (11, .bool (e.Field != 0)), (12, .bool false), (13, .ptr b1 2), (14, .slice .ro 2 (e.Ranges.map GRange.enc)), (15, .int .i64 (e.Ranges.length : Int)), (16, .bool (decide (0 < (e.Ranges.length : Int)))), (17, .bool (decide (0 < (e.Ranges.length : Int)))), (18, .bool false), (19, .ptr b1 3), (20, encF e.Low), (21, .bool v4), (22, .bool (!v4)), (23, .bool (!v4)), (24, .bool false), (25, .ptr b1 4), (26, encF e.High), (27, .bool v6), (28, .bool (!v6)), (29, .bool (!v6)), (30, .ptr b1 0), (31, .int .i64 e.Kind), (32, .bool (e.Kind == 0)), (33, .bool (e.Kind == 0)), (38, .bool (e.Kind == 2)), (39, .bool (e.Kind == 2)), (44, .bool (e.Kind == 3)), (45, .bool (e.Kind == 3)), (47, .ptr b1 5), (48, .slice .ro 6 (e.Of.map GExpr.enc)), (49, .int .i64 (e.Of.length : Int)), (50, .bool (decide ((e.Of.length : Int) < 2)))]) (fun (⟨m18, x17⟩ : Nat × Int) => [(b1, RS.box [.int .i64 e.Kind, .int .i64 e.Field, .slice .ro 2 (e.Ranges.map GRange.enc), encF e.Low, encF e.High, .slice .ro 6 (e.Of.map GExpr.enc)])]) (fun x => x.1) (fun (⟨m18, x17⟩ : Nat × Int) => ref11_Right_L0 (ref11_Right k) e (fun x25 => some true) m18 x17 = some r) ⟨k, 0⟩ h ⟨TVle.refl _, TVle.refl _, TVle.refl _, TVle.refl _, TVle.refl _, TVle.refl _, TVle.refl _, TVle.refl _, TVle.refl _, TVle.refl _, TVle.refl _, TVle.refl _, TVle.refl _, TVle.refl _, TVle.refl _, TVle.refl _, TVle.refl _, TVle.refl _, TVle.refl _, TVle.refl _, TVle.refl _, TVle.refl _, TVle.refl _, TVle.refl _, TVle.refl _, TVle.refl _, TVle.refl _, TVle.refl _, TVle.refl _, TVle.refl _, TVle.refl _, TVle.refl _, TVle.refl _, TVle.refl _, TVle.refl _, TVle.refl _, TVle.refl _, TVle.refl _, TVle.refl _, TVle.refl _, trivial⟩ (ResLe.refl _) ?_
                        rintro ⟨m18, x17⟩ h
                        replace h : ref11_Right_L0 (ref11_Right k) e (fun x25 => some true) m18 x17 = some r := h
                        show ACode _ _ _ [(0, .agg (GExpr.cells e)), (1, .ptr b1 0), (2, .bool false), (3, .int .i64 x17), (4, .ptr b1 0), (5, .int .i64 e.Kind), (6, .bool (e.Kind == 1)), (9, .ptr b1 1), (10, .int .i64 e.Field), (11, .bool (e.Field != 0)), (12, .bool false), (13, .ptr b1 2), (14, .slice .ro 2 (e.Ranges.map GRange.enc)), (15, .int .i64 (e.Ranges.length : Int)), (16, .bool (decide (0 < (e.Ranges.length : Int)))), (17, .bool (decide (0 < (e.Ranges.length : Int)))), (18, .bool false), (19, .ptr b1 3), (20, encF e.Low), (21, .bool v4), (22, .bool (!v4)), (23, .bool (!v4)), (24, .bool false), (25, .ptr b1 4), (26, encF e.High), (27, .bool v6), (28, .bool (!v6)), (29, .bool (!v6)), (30, .ptr b1 0), (31, .int .i64 e.Kind), (32, .bool (e.Kind == 0)), (33, .bool (e.Kind == 0)), (38, .bool (e.Kind == 2)), (39, .bool (e.Kind == 2)), (44, .bool (e.Kind == 3)), (45, .bool (e.Kind == 3)), (47, .ptr b1 5), (48, .slice .ro 6 (e.Of.map GExpr.enc)), (49, .int .i64 (e.Of.length : Int)), (50, .bool (decide ((e.Of.length : Int) < 2)))] [(b1, RS.box [.int .i64 e.Kind, .int .i64 e.Field, .slice .ro 2 (e.Ranges.map GRange.enc), encF e.Low, encF e.High, .slice .ro 6 (e.Of.map GExpr.enc)])] _
                        cases m18 with
                        | zero => rw [ref11_Right_L0] at h; cases h
                        | succ m18 =>
                          rw [ref11_Right_L0] at h
                          refine ac_seq ?_
                          refine ac_seq ?_
                          refine ac_region rfl ?_
                          refine rq (u := .int .i64 x17) rfl rfl rfl (p_move rfl) rfl ?_
                          refine rq (u := .ptr b1 5) rfl rfl rfl (p_field_ptr fl_33_5 rfl rfl) rfl ?_
                          refine rq (u := .slice .ro 6 (e.Of.map GExpr.enc)) rfl rfl rfl (p_load_ptr ti_28 (fun _ => rfl) rfl rfl (.head _) (Nat.le_of_ble_eq_true rfl)) rfl ?_
                          refine rq (u := .int .i64 (e.Of.length : Int)) rfl rfl rfl (p_lenm is_28 rfl rfl) rfl ?_
                          refine rq (u := .bool (decide (x17 < (e.Of.length : Int)))) rfl rfl rfl (p_lss rfl rfl rfl) rfl ?_
                          refine .done rfl ?_
                          refine ac_cond rfl rfl (fun hc24 => ?_) (fun hc24 => ?_)
                          · replace h := cond_t hc24 h
                            refine ac_skip ?_
                            refine ac_seq ?_
                            refine ac_block ?_
                            refine ac_seq ?_
                            refine ac_region rfl ?_
                            refine rq (u := .ptr b1 5) rfl rfl rfl (p_field_ptr fl_33_5 rfl rfl) rfl ?_
                            refine rq (u := .slice .ro 6 (e.Of.map GExpr.enc)) rfl rfl rfl (p_load_ptr ti_28 (fun _ => rfl) rfl rfl (.head _) (Nat.le_of_ble_eq_true rfl)) rfl ?_
                            refine rq (u := .int .i64 x17) rfl rfl rfl (p_move rfl) rfl ?_
                            obtain ⟨v19, hv19, h⟩ := bnd_some h
                            refine rq (u := .rptr [.int .i64 v19.Kind, .int .i64 v19.Field, .slice .ro 2 (v19.Ranges.map GRange.enc), encF v19.Low, encF v19.High, .slice .ro 6 (v19.Of.map GExpr.enc)]) rfl rfl rfl (p_ix GExpr.enc_eq sl_28 hv19 rfl rfl rfl) rfl ?_
                            refine rq (u := .rptr [.int .i64 v19.Kind, .int .i64 v19.Field, .slice .ro 2 (v19.Ranges.map GRange.enc), encF v19.Low, encF v19.High, .slice .ro 6 (v19.Of.map GExpr.enc)]) rfl rfl rfl (p_field_rptr fl_33_0 rfl rfl) rfl ?_
                            refine rq (u := .int .i64 v19.Kind) rfl rfl rfl (p_load_rptr ti_3 (fun _ => rfl) rfl rfl (Nat.le_of_ble_eq_true rfl)) rfl ?_
                            refine rq (u := .bool (v19.Kind == 0)) rfl rfl rfl (p_eql rfl rfl rfl) rfl ?_
                            refine rq (u := .bool (v19.Kind == 0)) rfl rfl rfl (p_move rfl) rfl ?_
                            refine rcase 65 rfl (fun hc20 => ?_) (fun hc20 => ?_)
                            · replace h := cond_t hc20 h
                              refine rskip rfl (guard_at rfl rfl rfl rfl rfl) rfl ?_
                              refine rskip rfl (guard_at rfl rfl rfl rfl rfl) rfl ?_
                              refine rskip rfl (guard_at rfl rfl rfl rfl rfl) rfl ?_
                              refine rskip rfl (guard_at rfl rfl rfl rfl rfl) rfl ?_
                              refine rskip rfl (guard_at rfl rfl rfl rfl rfl) rfl ?_
                              refine rskip rfl (guard_at rfl rfl rfl rfl rfl) rfl ?_
                              refine rskip rfl (guard_at rfl rfl rfl rfl rfl) rfl ?_
                              refine rq (u := .bool true) rfl rfl rfl (p_pick rfl rfl) rfl ?_
                              refine .done rfl ?_
                              refine ac_condT rfl rfl ?_
                              refine ac_seq ?_
                              refine ac_region rfl ?_
                              refine rq (u := .bool false) rfl rfl rfl (p_assign rfl) rfl ?_
                              refine .done rfl ?_
                              refine ac_ret ?_
                              show Fin _ _ _ _ _ _ _
                              exact fin_ret (Nat.le_of_ble_eq_true rfl) rfl (by obtain rfl := Option.some.inj h; rfl)
                            · replace h := cond_f hc20 h
                              refine rq (u := .ptr b1 5) rfl (guard_at rfl rfl rfl rfl rfl) rfl (p_field_ptr fl_33_5 rfl rfl) rfl ?_
                              refine rq (u := .slice .ro 6 (e.Of.map GExpr.enc)) rfl (guard_at rfl rfl rfl rfl rfl) rfl (p_load_ptr ti_28 (fun _ => rfl) rfl rfl (.head _) (Nat.le_of_ble_eq_true rfl)) rfl ?_
                              refine rq (u := .int .i64 x17) rfl (guard_at rfl rfl rfl rfl rfl) rfl (p_move rfl) rfl ?_
                              obtain ⟨v21, hv21, h⟩ := bnd_some h
                              refine rq (u := .rptr [.int .i64 v21.Kind, .int .i64 v21.Field, .slice .ro 2 (v21.Ranges.map GRange.enc), encF v21.Low, encF v21.High, .slice .ro 6 (v21.Of.map GExpr.enc)]) rfl (guard_at rfl rfl rfl rfl rfl) rfl (p_ix GExpr.enc_eq sl_28 hv21 rfl rfl rfl) rfl ?_
                              refine rq (u := .agg (GExpr.cells v21)) rfl (guard_at rfl rfl rfl rfl rfl) rfl (p_load_rptr ti_33 nofun rfl rfl (Nat.le_of_ble_eq_true rfl)) rfl ?_
                              obtain ⟨v22, hv22, h⟩ := bnd_some h
                              refine rq (u := .bool v22) rfl (guard_at rfl rfl rfl rfl rfl) rfl (p_pfnL en_40 (ih_ref11_Right v21 v22 hv22) rfl rfl (TVles.refl _)) rfl ?_
                              refine rq (u := .bool (!v22)) rfl (guard_at rfl rfl rfl rfl rfl) rfl (p_not rfl rfl) rfl ?_
                              refine rq (u := .bool (!v22)) rfl rfl rfl (p_pick rfl rfl) rfl ?_
                              refine .done rfl ?_
                              refine ac_cond rfl rfl (fun hc23 => ?_) (fun hc23 => ?_)
                              · replace h := cond_t hc23 h
                                refine ac_seq ?_
                                refine ac_region rfl ?_
                                refine rq (u := .bool false) rfl rfl rfl (p_assign rfl) rfl ?_
                                refine .done rfl ?_
                                refine ac_ret ?_
                                show Fin _ _ _ _ _ _ _
                                exact fin_ret (Nat.le_of_ble_eq_true rfl) rfl (by obtain rfl := Option.some.inj h; rfl)
                              · replace h := cond_f hc23 h
                                refine ac_skip ?_
                                refine ac_region rfl ?_
                                refine rq (u := .int .i64 x17) rfl rfl rfl (p_move rfl) rfl ?_
                                refine rq (u := .int .i64 (IntKind.wrap .i64 (x17 + 1))) rfl rfl rfl (p_add rfl rfl rfl) rfl ?_
                                refine rq (u := .int .i64 (IntKind.wrap .i64 (x17 + 1))) rfl rfl rfl (p_assign rfl) rfl ?_
                                refine .done rfl ?_
                                exact ⟨⟨m18, (IntKind.wrap .i64 (x17 + 1))⟩, h, Nat.lt_succ_self _, ⟨TVle.refl _, TVle.refl _, TVle.refl _, TVle.refl _, TVle.refl _, TVle.refl _, TVle.refl _, TVle.refl _, TVle.refl _, TVle.refl _, TVle.refl _, TVle.refl _, TVle.refl _, TVle.refl _, TVle.refl _, TVle.refl _, TVle.refl _, TVle.refl _, TVle.refl _, TVle.refl _, TVle.refl _, TVle.refl _, TVle.refl _, TVle.refl _, TVle.refl _, TVle.refl _, TVle.refl _, TVle.refl _, TVle.refl _, TVle.refl _, TVle.refl _, TVle.refl _, TVle.refl _, TVle.refl _, TVle.refl _, TVle.refl _, TVle.refl _, TVle.refl _, TVle.refl _, TVle.refl _, trivial⟩, (ResLe.refl _)⟩
                          · replace h := cond_f hc24 h
                            refine ac_exit ?_
                            refine ac_seq ?_
                            refine ac_region rfl ?_
                            refine rq (u := .bool true) rfl rfl rfl (p_assign rfl) rfl ?_
                            refine .done rfl ?_
                            refine ac_ret ?_
                            show Fin _ _ _ _ _ _ _
                            exact fin_ret (Nat.le_of_ble_eq_true rfl) rfl (by obtain rfl := Option.some.inj h; rfl)
                    · replace h := cond_f hc27 h
                      refine ac_seq ?_
                      refine ac_region rfl ?_
                      refine rq (u := .bool false) rfl rfl rfl (p_assign rfl) rfl ?_
                      refine .done rfl ?_
                      refine ac_ret ?_
                      show Fin _ _ _ _ _ _ _
                      exact fin_ret (Nat.le_of_ble_eq_true rfl) rfl (by obtain rfl := Option.some.inj h; rfl)
                  · replace h := cond_f hc39 h
                    refine ac_region rfl ?_
                    refine rq (u := .bool (e.Kind == 4)) rfl rfl rfl (p_eql rfl rfl rfl) rfl ?_
                    refine rq (u := .bool (e.Kind == 4)) rfl rfl rfl (p_assign rfl) rfl ?_
                    refine .done rfl ?_
                    refine ac_cond rfl rfl (fun hc38 => ?_) (fun hc38 => ?_)
                    · replace h := cond_t hc38 h
                      refine ac_seq ?_
                      refine ac_region rfl ?_
                      refine rq (u := .ptr b1 5) rfl rfl rfl (p_field_ptr fl_33_5 rfl rfl) rfl ?_
                      refine rq (u := .slice .ro 6 (e.Of.map GExpr.enc)) rfl rfl rfl (p_load_ptr ti_28 (fun _ => rfl) rfl rfl (.head _) (Nat.le_of_ble_eq_true rfl)) rfl ?_
                      refine rq (u := .int .i64 (e.Of.length : Int)) rfl rfl rfl (p_lenm is_28 rfl rfl) rfl ?_
                      refine rq (u := .bool (decide ((e.Of.length : Int) < 2))) rfl rfl rfl (p_lss rfl rfl rfl) rfl ?_
                      refine .done rfl ?_
                      refine ac_cond rfl rfl (fun hc37 => ?_) (fun hc37 => ?_)
                      · replace h := cond_t hc37 h
                        refine ac_seq ?_
                        refine ac_region rfl ?_
                        refine rq (u := .bool false) rfl rfl rfl (p_assign rfl) rfl ?_
                        refine .done rfl ?_
                        refine ac_ret ?_
                        show Fin _ _ _ _ _ _ _
                        exact fin_ret (Nat.le_of_ble_eq_true rfl) rfl (by obtain rfl := Option.some.inj h; rfl)
                      · replace h := cond_f hc37 h
                        refine ac_skip ?_
                        refine ac_seq ?_
                        refine ac_seq ?_
                        refine ac_region rfl ?_
                        refine rq (u := .int .i64 0) rfl rfl rfl (p_assign rfl) rfl ?_
                        refine .done rfl ?_
                        refine ac_block ?_
                        refine ac_turns (σ := Nat × Int) (fun (⟨m29, x28⟩ : Nat × Int) => [(0, .agg (GExpr.cells e)), (1, .ptr b1 0), (2, .bool false), (3, .int .i64 x28), (4, .ptr b1 0), (5, .int .i64 e.Kind), (6, .bool (e.Kind == 1)), (9, .ptr b1 1), (10, .int .i64 e.Field), (11, .bool (e.Field != 0)), (12, .bool false), (13, .ptr b1 2), (14, .slice .ro 2 (e.Ranges.map GRange.enc)), (15, .int .i64 (e.Ranges.length : Int)), (16, .bool (decide (0 < (e.Ranges.length : Int)))), (17, .bool (decide (0 < (e.Ranges.length : Int)))), (18, .bool false), (19, .ptr b1 3), (20, encF e.Low), (21, .bool v4), (22, .bool (!v4)), (23, .bool (!v4)), (24, .bool false), (25, .ptr b1 4), (26, encF e.High), (27, .bool v6), (28, .bool (!v6)), (29, .bool (!v6)), (30, .ptr b1 0), (31, .int .i64 e.Kind), (32, .bool (e.Kind == 0)), (33, .bool (e.Kind == 0)), (38, .bool (e.Kind == 2)), (39, .bool (e.Kind == 2)), (44, .bool (e.Kind == 4)), (45, .bool (e.Kind == 3)), (46, .bool (e.Kind == 4)), (47, .ptr b1 5), (48, .slice .ro 6 (e.Of.map GExpr.enc)), (49, .int .i64 (e.Of.length : Int)), (50, .bool (decide ((e.Of.length : Int) < 2)))]) (fun (⟨m29, x28⟩ : Nat × Int) => [(b1, RS.box [.int .i64 e.Kind, .int .i64 e.Field, .slice .ro 2 (e.Ranges.map GRange.enc), encF e.Low, encF e.High, .slice .ro 6 (e.Of.map GExpr.enc)])]) (fun x => x.1) (fun (⟨m29, x28⟩ : Nat × Int) => ref11_Right_L0 (ref11_Right k) e (fun x36 => some true) m29 x28 = some r) ⟨k, 0⟩ h ⟨TVle.refl _, TVle.refl _, TVle.refl _, TVle.refl _, TVle.refl _, TVle.refl _, TVle.refl _, TVle.refl _, TVle.refl _, TVle.refl _, TVle.refl _, TVle.refl _, TVle.refl _, TVle.refl _, TVle.refl _, TVle.refl _, TVle.refl _, TVle.refl _, TVle.refl _, TVle.refl _, TVle.refl _, TVle.refl _, TVle.refl _, TVle.refl _, TVle.refl _, TVle.refl _, TVle.refl _, TVle.refl _, TVle.refl _, TVle.refl _, TVle.refl _, TVle.refl _, TVle.refl _, TVle.refl _, TVle.refl _, TVle.refl _, TVle.refl _, TVle.refl _, TVle.refl _, TVle.refl _, TVle.refl _, trivial⟩ (ResLe.refl _) ?_
                        rintro ⟨m29, x28⟩ h
                        replace h : ref11_Right_L0 (ref11_Right k) e (fun x36 => some true) m29 x28 = some r := h
                        show ACode _ _ _ [(0, .agg (GExpr.cells e)), (1, .ptr b1 0), (2, .bool false), (3, .int .i64 x28), (4, .ptr b1 0), (5, .int .i64 e.Kind), (6, .bool (e.Kind == 1)), (9, .ptr b1 1), (10, .int .i64 e.Field), (11, .bool (e.Field != 0)), (12, .bool false), (13, .ptr b1 2), (14, .slice .ro 2 (e.Ranges.map GRange.enc)), (15, .int .i64 (e.Ranges.length : Int)), (16, .bool (decide (0 < (e.Ranges.length : Int)))), (17, .bool (decide (0 < (e.Ranges.length : Int)))), (18, .bool false), (19, .ptr b1 3), (20, encF e.Low), (21, .bool v4), (22, .bool (!v4)), (23, .bool (!v4)), (24, .bool false), (25, .ptr b1 4), (26, encF e.High), (27, .bool v6), (28, .bool (!v6)), (29, .bool (!v6)), (30, .ptr b1 0), (31, .int .i64 e.Kind), (32, .bool (e.Kind == 0)), (33, .bool (e.Kind == 0)), (38, .bool (e.Kind == 2)), (39, .bool (e.Kind == 2)), (44, .bool (e.Kind == 4)), (45, .bool (e.Kind == 3)), (46, .bool (e.Kind == 4)), (47, .ptr b1 5), (48, .slice .ro 6 (e.Of.map GExpr.enc)), (49, .int .i64 (e.Of.length : Int)), (50, .bool (decide ((e.Of.length : Int) < 2)))] [(b1, RS.box [.int .i64 e.Kind, .int .i64 e.Field, .slice .ro 2 (e.Ranges.map GRange.enc), encF e.Low, encF e.High, .slice .ro 6 (e.Of.map GExpr.enc)])] _
                        cases m29 with
                        | zero => rw [ref11_Right_L0] at h; cases h
                        | succ m29 =>
                          rw [ref11_Right_L0] at h
                          refine ac_seq ?_
                          refine ac_seq ?_
                          refine ac_region rfl ?_
                          refine rq (u := .int .i64 x28) rfl rfl rfl (p_move rfl) rfl ?_
                          refine rq (u := .ptr b1 5) rfl rfl rfl (p_field_ptr fl_33_5 rfl rfl) rfl ?_
                          refine rq (u := .slice .ro 6 (e.Of.map GExpr.enc)) rfl rfl rfl (p_load_ptr ti_28 (fun _ => rfl) rfl rfl (.head _) (Nat.le_of_ble_eq_true rfl)) rfl ?_
                          refine rq (u := .int .i64 (e.Of.length : Int)) rfl rfl rfl (p_lenm is_28 rfl rfl) rfl ?_
                          refine rq (u := .bool (decide (x28 < (e.Of.length : Int)))) rfl rfl rfl (p_lss rfl rfl rfl) rfl ?_
                          refine .done rfl ?_
                          refine ac_cond rfl rfl (fun hc35 => ?_) (fun hc35 => ?_)
                          · replace h := cond_t hc35 h
                            refine ac_skip ?_
                            refine ac_seq ?_
                            refine ac_block ?_
                            refine ac_seq ?_
                            refine ac_region rfl ?_
                            refine rq (u := .ptr b1 5) rfl rfl rfl (p_field_ptr fl_33_5 rfl rfl) rfl ?_
                            refine rq (u := .slice .ro 6 (e.Of.map GExpr.enc)) rfl rfl rfl (p_load_ptr ti_28 (fun _ => rfl) rfl rfl (.head _) (Nat.le_of_ble_eq_true rfl)) rfl ?_
                            refine rq (u := .int .i64 x28) rfl rfl rfl (p_move rfl) rfl ?_
                            obtain ⟨v30, hv30, h⟩ := bnd_some h
                            refine rq (u := .rptr [.int .i64 v30.Kind, .int .i64 v30.Field, .slice .ro 2 (v30.Ranges.map GRange.enc), encF v30.Low, encF v30.High, .slice .ro 6 (v30.Of.map GExpr.enc)]) rfl rfl rfl (p_ix GExpr.enc_eq sl_28 hv30 rfl rfl rfl) rfl ?_
                            refine rq (u := .rptr [.int .i64 v30.Kind, .int .i64 v30.Field, .slice .ro 2 (v30.Ranges.map GRange.enc), encF v30.Low, encF v30.High, .slice .ro 6 (v30.Of.map GExpr.enc)]) rfl rfl rfl (p_field_rptr fl_33_0 rfl rfl) rfl ?_
                            refine rq (u := .int .i64 v30.Kind) rfl rfl rfl (p_load_rptr ti_3 (fun _ => rfl) rfl rfl (Nat.le_of_ble_eq_true rfl)) rfl ?_
                            refine rq (u := .bool (v30.Kind == 0)) rfl rfl rfl (p_eql rfl rfl rfl) rfl ?_
                            refine rq (u := .bool (v30.Kind == 0)) rfl rfl rfl (p_move rfl) rfl ?_
                            refine rcase 65 rfl (fun hc31 => ?_) (fun hc31 => ?_)
                            · replace h := cond_t hc31 h
                              refine rskip rfl (guard_at rfl rfl rfl rfl rfl) rfl ?_
                              refine rskip rfl (guard_at rfl rfl rfl rfl rfl) rfl ?_
                              refine rskip rfl (guard_at rfl rfl rfl rfl rfl) rfl ?_
                              refine rskip rfl (guard_at rfl rfl rfl rfl rfl) rfl ?_
                              refine rskip rfl (guard_at rfl rfl rfl rfl rfl) rfl ?_
                              refine rskip rfl (guard_at rfl rfl rfl rfl rfl) rfl ?_
                              refine rskip rfl (guard_at rfl rfl rfl rfl rfl) rfl ?_
                              refine rq (u := .bool true) rfl rfl rfl (p_pick rfl rfl) rfl ?_
                              refine .done rfl ?_
                              refine ac_condT rfl rfl ?_
                              refine ac_seq ?_
                              refine ac_region rfl ?_
                              refine rq (u := .bool false) rfl rfl rfl (p_assign rfl) rfl ?_
                              refine .done rfl ?_
                              refine ac_ret ?_
                              show Fin _ _ _ _ _ _ _
                              exact fin_ret (Nat.le_of_ble_eq_true rfl) rfl (by obtain rfl := Option.some.inj h; rfl)
                            · replace h := cond_f hc31 h
                              refine rq (u := .ptr b1 5) rfl (guard_at rfl rfl rfl rfl rfl) rfl (p_field_ptr fl_33_5 rfl rfl) rfl ?_
                              refine rq (u := .slice .ro 6 (e.Of.map GExpr.enc)) rfl (guard_at rfl rfl rfl rfl rfl) rfl (p_load_ptr ti_28 (fun _ => rfl) rfl rfl (.head _) (Nat.le_of_ble_eq_true rfl)) rfl ?_
                              refine rq (u := .int .i64 x28) rfl (guard_at rfl rfl rfl rfl rfl) rfl (p_move rfl) rfl ?_
                              obtain ⟨v32, hv32, h⟩ := bnd_some h
                              refine rq (u := .rptr [.int .i64 v32.Kind, .int .i64 v32.Field, .slice .ro 2 (v32.Ranges.map GRange.enc), encF v32.Low, encF v32.High, .slice .ro 6 (v32.Of.map GExpr.enc)]) rfl (guard_at rfl rfl rfl rfl rfl) rfl (p_ix GExpr.enc_eq sl_28 hv32 rfl rfl rfl) rfl ?_
                              refine rq (u := .agg (GExpr.cells v32)) rfl (guard_at rfl rfl rfl rfl rfl) rfl (p_load_rptr ti_33 nofun rfl rfl (Nat.le_of_ble_eq_true rfl)) rfl ?_
                              obtain ⟨v33, hv33, h⟩ := bnd_some h
                              refine rq (u := .bool v33) rfl (guard_at rfl rfl rfl rfl rfl) rfl (p_pfnL en_40 (ih_ref11_Right v32 v33 hv33) rfl rfl (TVles.refl _)) rfl ?_
                              refine rq (u := .bool (!v33)) rfl (guard_at rfl rfl rfl rfl rfl) rfl (p_not rfl rfl) rfl ?_
                              refine rq (u := .bool (!v33)) rfl rfl rfl (p_pick rfl rfl) rfl ?_
                              refine .done rfl ?_
                              refine ac_cond rfl rfl (fun hc34 => ?_) (fun hc34 => ?_)
                              · replace h := cond_t hc34 h
                                refine ac_seq ?_
                                refine ac_region rfl ?_
                                refine rq (u := .bool false) rfl rfl rfl (p_assign rfl) rfl ?_
                                refine .done rfl ?_
                                refine ac_ret ?_
                                show Fin _ _ _ _ _ _ _
                                exact fin_ret (Nat.le_of_ble_eq_true rfl) rfl (by obtain rfl := Option.some.inj h; rfl)
                              · replace h := cond_f hc34 h
                                refine ac_skip ?_
                                refine ac_region rfl ?_
                                refine rq (u := .int .i64 x28) rfl rfl rfl (p_move rfl) rfl ?_
                                refine rq (u := .int .i64 (IntKind.wrap .i64 (x28 + 1))) rfl rfl rfl (p_add rfl rfl rfl) rfl ?_
                                refine rq (u := .int .i64 (IntKind.wrap .i64 (x28 + 1))) rfl rfl rfl (p_assign rfl) rfl ?_
                                refine .done rfl ?_
                                exact ⟨⟨m29, (IntKind.wrap .i64 (x28 + 1))⟩, h, Nat.lt_succ_self _, ⟨TVle.refl _, TVle.refl _, TVle.refl _, TVle.refl _, TVle.refl _, TVle.refl _, TVle.refl _, TVle.refl _, TVle.refl _, TVle.refl _, TVle.refl _, TVle.refl _, TVle.refl _, TVle.refl _, TVle.refl _, TVle.refl _, TVle.refl _, TVle.refl _, TVle.refl _, TVle.refl _, TVle.refl _, TVle.refl _, TVle.refl _, TVle.refl _, TVle.refl _, TVle.refl _, TVle.refl _, TVle.refl _, TVle.refl _, TVle.refl _, TVle.refl _, TVle.refl _, TVle.refl _, TVle.refl _, TVle.refl _, TVle.refl _, TVle.refl _, TVle.refl _, TVle.refl _, TVle.refl _, TVle.refl _, trivial⟩, (ResLe.refl _)⟩
                          · replace h := cond_f hc35 h
                            refine ac_exit ?_
                            refine ac_seq ?_
                            refine ac_region rfl ?_
                            refine rq (u := .bool true) rfl rfl rfl (p_assign rfl) rfl ?_
                            refine .done rfl ?_
                            refine ac_ret ?_
                            show Fin _ _ _ _ _ _ _
                            exact fin_ret (Nat.le_of_ble_eq_true rfl) rfl (by obtain rfl := Option.some.inj h; rfl)
                    · replace h := cond_f hc38 h
                      refine ac_seq ?_
                      refine ac_region rfl ?_
                      refine rq (u := .bool false) rfl rfl rfl (p_assign rfl) rfl ?_
                      refine .done rfl ?_
                      refine ac_ret ?_
                      show Fin _ _ _ _ _ _ _
                      exact fin_ret (Nat.le_of_ble_eq_true rfl) rfl (by obtain rfl := Option.some.inj h; rfl)
end Go.Proofs.YtdkiijhmmmfciaaDoor
