/- The code computes the functions. Printed by tr.py. -/
import Derived.Test.YtdkiijhmmmfciaaDoorG0
import Derived.Test.YtdkiijhmmmfciaaDoorG1
import Derived.Test.YtdkiijhmmmfciaaDoorH6
set_option linter.unusedVariables false
set_option linter.unusedSimpArgs false
namespace Go.Proofs.YtdkiijhmmmfciaaDoor
open Go
set_option maxRecDepth 20000 in
set_option maxHeartbeats 4000000 in
theorem ref11_rule_fn : ∀ k : Nat, ∀ (r_0 : GRule) (r : Bool) (h : ref11_rule k r_0 = some r), PFn Tryd.prog 22 [.agg (GRule.cells r_0)] (.bool r) := by
  intro k
  intro r_0 r h
  rw [ref11_rule] at h
  refine AFn.of Tryd.func22 rfl (Nat.le_of_ble_eq_true rfl) ?_
  refine ac_seq ?_
  refine ac_region rfl ?_
  refine rbox rfl rfl rfl rfl rfl fun b1 => ?_
  refine rq (u := .bool false) rfl rfl rfl (p_assign rfl) rfl ?_
  refine .done rfl ?_
  refine ac_seq ?_
  refine ac_region rfl ?_
  refine rq (u := .ptr b1 7) rfl rfl rfl (p_field_ptr fl_39_2 rfl rfl) rfl ?_
  refine rq (u := .agg (GRate.cells r_0.Rate)) rfl rfl rfl (p_load_ptr ti_37 nofun rfl rfl (.head _) (Nat.le_of_ble_eq_true rfl)) rfl ?_
  refine ralloc (cs := [.int .i64 0, .int .i64 0, .int .i64 0]) zf_37 rfl rfl rfl rfl rfl rfl rfl nofun fun b2 => ?_
  refine rstore (j := 0) (us := [.int .i64 r_0.Rate.Num, .int .i64 r_0.Rate.Per, .int .i64 r_0.Rate.Burst]) ti_37 rfl rfl rfl rfl rfl rfl rfl rfl nofun rfl rfl (Nat.le_of_ble_eq_true rfl) ?_
  refine .done rfl ?_
  refine ac_seq ?_
  refine ac_region rfl ?_
  refine rq (u := .ptr b1 1) rfl rfl rfl (p_field_ptr fl_39_1 rfl rfl) rfl ?_
  refine rq (u := .agg (GExpr.cells r_0.When)) rfl rfl rfl (p_load_ptr ti_33 nofun rfl rfl (.tail _ (.head _)) (Nat.le_of_ble_eq_true rfl)) rfl ?_
  obtain ⟨v1, hv1, h⟩ := bnd_some h
  refine rq (u := .bool v1) rfl rfl rfl (p_pfnL en_40 (ref11_Right_fn k r_0.When v1 hv1) rfl rfl (TVles.refl _)) rfl ?_
  refine rq (u := .bool v1) rfl rfl rfl (p_move rfl) rfl ?_
  refine rcase 9 rfl (fun hc2 => ?_) (fun hc2 => ?_)
  · replace h := cond_t hc2 h
    refine rq (u := .ptr b2 0) rfl (guard_at rfl rfl rfl rfl rfl) rfl (p_field_ptr fl_37_0 rfl rfl) rfl ?_
    refine rq (u := .int .i64 r_0.Rate.Num) rfl (guard_at rfl rfl rfl rfl rfl) rfl (p_load_ptr ti_3 (fun _ => rfl) rfl rfl (.head _) (Nat.le_of_ble_eq_true rfl)) rfl ?_
    obtain ⟨v3, hv3, h⟩ := bnd_some h
    refine rq (u := .bool v3) rfl (guard_at rfl rfl rfl rfl rfl) rfl (p_pfnL en_41 (ref11_num_fn k r_0.Rate.Num v3 hv3) rfl rfl (TVles.refl _)) rfl ?_
    refine rq (u := .bool v3) rfl rfl rfl (p_pick rfl rfl) rfl ?_
    refine rq (u := .bool v3) rfl rfl rfl (p_move rfl) rfl ?_
    refine rcase 14 rfl (fun hc4 => ?_) (fun hc4 => ?_)
    · replace h := cond_t hc4 h
      refine rq (u := .ptr b2 1) rfl (guard_at rfl rfl rfl rfl rfl) rfl (p_field_ptr fl_37_1 rfl rfl) rfl ?_
      refine rq (u := .int .i64 r_0.Rate.Per) rfl (guard_at rfl rfl rfl rfl rfl) rfl (p_load_ptr ti_3 (fun _ => rfl) rfl rfl (.head _) (Nat.le_of_ble_eq_true rfl)) rfl ?_
      obtain ⟨v5, hv5, h⟩ := bnd_some h
      refine rq (u := .bool v5) rfl (guard_at rfl rfl rfl rfl rfl) rfl (p_pfnL en_41 (ref11_num_fn k r_0.Rate.Per v5 hv5) rfl rfl (TVles.refl _)) rfl ?_
      refine rq (u := .bool v5) rfl rfl rfl (p_pick rfl rfl) rfl ?_
      refine rq (u := .bool v5) rfl rfl rfl (p_move rfl) rfl ?_
      refine rcase 19 rfl (fun hc6 => ?_) (fun hc6 => ?_)
      · replace h := cond_t hc6 h
        refine rq (u := .ptr b2 2) rfl (guard_at rfl rfl rfl rfl rfl) rfl (p_field_ptr fl_37_2 rfl rfl) rfl ?_
        refine rq (u := .int .i64 r_0.Rate.Burst) rfl (guard_at rfl rfl rfl rfl rfl) rfl (p_load_ptr ti_3 (fun _ => rfl) rfl rfl (.head _) (Nat.le_of_ble_eq_true rfl)) rfl ?_
        obtain ⟨v7, hv7, h⟩ := bnd_some h
        refine rq (u := .bool v7) rfl (guard_at rfl rfl rfl rfl rfl) rfl (p_pfnL en_41 (ref11_num_fn k r_0.Rate.Burst v7 hv7) rfl rfl (TVles.refl _)) rfl ?_
        refine rq (u := .bool v7) rfl rfl rfl (p_pick rfl rfl) rfl ?_
        refine rq (u := .bool v7) rfl rfl rfl (p_move rfl) rfl ?_
        refine rcase 24 rfl (fun hc8 => ?_) (fun hc8 => ?_)
        · replace h := cond_t hc8 h
          refine rq (u := .ptr b2 1) rfl (guard_at rfl rfl rfl rfl rfl) rfl (p_field_ptr fl_37_1 rfl rfl) rfl ?_
          refine rq (u := .int .i64 r_0.Rate.Per) rfl (guard_at rfl rfl rfl rfl rfl) rfl (p_load_ptr ti_3 (fun _ => rfl) rfl rfl (.head _) (Nat.le_of_ble_eq_true rfl)) rfl ?_
          refine rq (u := .bool (r_0.Rate.Per != 0)) rfl (guard_at rfl rfl rfl rfl rfl) rfl (p_neq rfl rfl rfl) rfl ?_
          refine rq (u := .bool (r_0.Rate.Per != 0)) rfl (guard_at rfl rfl rfl rfl rfl) rfl (p_move rfl) rfl ?_
          refine rcase 28 rfl (fun hc9 => ?_) (fun hc9 => ?_)
          · replace h := cond_t hc9 h
            refine rskip rfl (guard_at rfl rfl rfl rfl rfl) rfl ?_
            refine rskip rfl (guard_at rfl rfl rfl rfl rfl) rfl ?_
            refine rskip rfl (guard_at rfl rfl rfl rfl rfl) rfl ?_
            refine rq (u := .bool true) rfl (guard_at rfl rfl rfl rfl rfl) rfl (p_pick rfl rfl) rfl ?_
            refine rq (u := .bool true) rfl rfl rfl (p_pick rfl rfl) rfl ?_
            refine rq (u := .bool true) rfl rfl rfl (p_assign rfl) rfl ?_
            refine .done rfl ?_
            refine ac_ret ?_
            show Fin _ _ _ _ _ _ _
            exact fin_ret (Nat.le_of_ble_eq_true rfl) rfl (by obtain rfl := Option.some.inj h; rfl)
          · replace h := cond_f hc9 h
            refine rq (u := .agg (GRate.cells r_0.Rate)) rfl (guard_at rfl rfl rfl rfl rfl) rfl (p_load_ptr ti_37 nofun rfl rfl (.head _) (Nat.le_of_ble_eq_true rfl)) rfl ?_
            refine rq (u := .agg [.int .i64 0, .int .i64 0, .int .i64 0]) rfl (guard_at rfl rfl rfl rfl rfl) rfl (p_build (cs := [.int .i64 0, .int .i64 0, .int .i64 0]) zf_37 rfl rfl rfl nofun bf_37 rfl rfl) rfl ?_
            refine rq (u := .bool ((r_0.Rate.Num == 0) && ((r_0.Rate.Per == 0) && ((r_0.Rate.Burst == 0) && true)))) rfl (guard_at rfl rfl rfl rfl rfl) rfl (p_aeq eu_37 eh_37 eg_37 (eqs_37) rfl rfl rfl) rfl ?_
            refine rq (u := .bool ((r_0.Rate.Num == 0) && ((r_0.Rate.Per == 0) && ((r_0.Rate.Burst == 0) && true)))) rfl (guard_at rfl rfl rfl rfl rfl) rfl (p_pick rfl rfl) rfl ?_
            refine rq (u := .bool ((r_0.Rate.Num == 0) && ((r_0.Rate.Per == 0) && ((r_0.Rate.Burst == 0) && true)))) rfl rfl rfl (p_pick rfl rfl) rfl ?_
            refine rq (u := .bool ((r_0.Rate.Num == 0) && ((r_0.Rate.Per == 0) && ((r_0.Rate.Burst == 0) && true)))) rfl rfl rfl (p_assign rfl) rfl ?_
            refine .done rfl ?_
            refine ac_ret ?_
            show Fin _ _ _ _ _ _ _
            exact fin_ret (Nat.le_of_ble_eq_true rfl) rfl (by obtain rfl := Option.some.inj h; rfl)
        · replace h := cond_f hc8 h
          refine rskip rfl (guard_at rfl rfl rfl rfl rfl) rfl ?_
          refine rskip rfl (guard_at rfl rfl rfl rfl rfl) rfl ?_
          refine rskip rfl (guard_at rfl rfl rfl rfl rfl) rfl ?_
          refine rskip rfl (guard_at rfl rfl rfl rfl rfl) rfl ?_
          refine rskip rfl (guard_un rfl rfl rfl rfl) rfl ?_
          refine rskip rfl (guard_un rfl rfl rfl rfl) rfl ?_
          refine rskip rfl (guard_un rfl rfl rfl rfl) rfl ?_
          refine rskip rfl (guard_at rfl rfl rfl rfl rfl) rfl ?_
          refine rq (u := .bool false) rfl rfl rfl (p_pick rfl rfl) rfl ?_
          refine rq (u := .bool false) rfl rfl rfl (p_assign rfl) rfl ?_
          refine .done rfl ?_
          refine ac_ret ?_
          show Fin _ _ _ _ _ _ _
          exact fin_ret (Nat.le_of_ble_eq_true rfl) rfl (by obtain rfl := Option.some.inj h; rfl)
      · replace h := cond_f hc6 h
        refine rskip rfl (guard_at rfl rfl rfl rfl rfl) rfl ?_
        refine rskip rfl (guard_at rfl rfl rfl rfl rfl) rfl ?_
        refine rskip rfl (guard_at rfl rfl rfl rfl rfl) rfl ?_
        refine rq (u := .bool false) rfl rfl rfl (p_pick rfl rfl) rfl ?_
        refine rq (u := .bool false) rfl rfl rfl (p_move rfl) rfl ?_
        refine rskip rfl (guard_at rfl rfl rfl rfl rfl) rfl ?_
        refine rskip rfl (guard_at rfl rfl rfl rfl rfl) rfl ?_
        refine rskip rfl (guard_at rfl rfl rfl rfl rfl) rfl ?_
        refine rskip rfl (guard_at rfl rfl rfl rfl rfl) rfl ?_
        refine rskip rfl (guard_un rfl rfl rfl rfl) rfl ?_
        refine rskip rfl (guard_un rfl rfl rfl rfl) rfl ?_
        refine rskip rfl (guard_un rfl rfl rfl rfl) rfl ?_
        refine rskip rfl (guard_at rfl rfl rfl rfl rfl) rfl ?_
        refine rq (u := .bool false) rfl rfl rfl (p_pick rfl rfl) rfl ?_
        refine rq (u := .bool false) rfl rfl rfl (p_assign rfl) rfl ?_
        refine .done rfl ?_
        refine ac_ret ?_
        show Fin _ _ _ _ _ _ _
        exact fin_ret (Nat.le_of_ble_eq_true rfl) rfl (by obtain rfl := Option.some.inj h; rfl)
    · replace h := cond_f hc4 h
      refine rskip rfl (guard_at rfl rfl rfl rfl rfl) rfl ?_
      refine rskip rfl (guard_at rfl rfl rfl rfl rfl) rfl ?_
      refine rskip rfl (guard_at rfl rfl rfl rfl rfl) rfl ?_
      refine rq (u := .bool false) rfl rfl rfl (p_pick rfl rfl) rfl ?_
      refine rq (u := .bool false) rfl rfl rfl (p_move rfl) rfl ?_
      refine rskip rfl (guard_at rfl rfl rfl rfl rfl) rfl ?_
      refine rskip rfl (guard_at rfl rfl rfl rfl rfl) rfl ?_
      refine rskip rfl (guard_at rfl rfl rfl rfl rfl) rfl ?_
      refine rq (u := .bool false) rfl rfl rfl (p_pick rfl rfl) rfl ?_
      refine rq (u := .bool false) rfl rfl rfl (p_move rfl) rfl ?_
      refine rskip rfl (guard_at rfl rfl rfl rfl rfl) rfl ?_
      refine rskip rfl (guard_at rfl rfl rfl rfl rfl) rfl ?_
      refine rskip rfl (guard_at rfl rfl rfl rfl rfl) rfl ?_
      refine rskip rfl (guard_at rfl rfl rfl rfl rfl) rfl ?_
      refine rskip rfl (guard_un rfl rfl rfl rfl) rfl ?_
      refine rskip rfl (guard_un rfl rfl rfl rfl) rfl ?_
      refine rskip rfl (guard_un rfl rfl rfl rfl) rfl ?_
      refine rskip rfl (guard_at rfl rfl rfl rfl rfl) rfl ?_
      refine rq (u := .bool false) rfl rfl rfl (p_pick rfl rfl) rfl ?_
      refine rq (u := .bool false) rfl rfl rfl (p_assign rfl) rfl ?_
      refine .done rfl ?_
      refine ac_ret ?_
      show Fin _ _ _ _ _ _ _
      exact fin_ret (Nat.le_of_ble_eq_true rfl) rfl (by obtain rfl := Option.some.inj h; rfl)
  · replace h := cond_f hc2 h
    refine rskip rfl (guard_at rfl rfl rfl rfl rfl) rfl ?_
    refine rskip rfl (guard_at rfl rfl rfl rfl rfl) rfl ?_
    refine rskip rfl (guard_at rfl rfl rfl rfl rfl) rfl ?_
    refine rq (u := .bool false) rfl rfl rfl (p_pick rfl rfl) rfl ?_
    refine rq (u := .bool false) rfl rfl rfl (p_move rfl) rfl ?_
    refine rskip rfl (guard_at rfl rfl rfl rfl rfl) rfl ?_
    refine rskip rfl (guard_at rfl rfl rfl rfl rfl) rfl ?_
    refine rskip rfl (guard_at rfl rfl rfl rfl rfl) rfl ?_
    refine rq (u := .bool false) rfl rfl rfl (p_pick rfl rfl) rfl ?_
    refine rq (u := .bool false) rfl rfl rfl (p_move rfl) rfl ?_
    refine rskip rfl (guard_at rfl rfl rfl rfl rfl) rfl ?_
    refine rskip rfl (guard_at rfl rfl rfl rfl rfl) rfl ?_
    refine rskip rfl (guard_at rfl rfl rfl rfl rfl) rfl ?_
    refine rq (u := .bool false) rfl rfl rfl (p_pick rfl rfl) rfl ?_
    refine rq (u := .bool false) rfl rfl rfl (p_move rfl) rfl ?_
    refine rskip rfl (guard_at rfl rfl rfl rfl rfl) rfl ?_
    refine rskip rfl (guard_at rfl rfl rfl rfl rfl) rfl ?_
    refine rskip rfl (guard_at rfl rfl rfl rfl rfl) rfl ?_
    refine rskip rfl (guard_at rfl rfl rfl rfl rfl) rfl ?_
    refine rskip rfl (guard_un rfl rfl rfl rfl) rfl ?_
    refine rskip rfl (guard_un rfl rfl rfl rfl) rfl ?_
    refine rskip rfl (guard_un rfl rfl rfl rfl) rfl ?_
    refine rskip rfl (guard_at rfl rfl rfl rfl rfl) rfl ?_
    refine rq (u := .bool false) rfl rfl rfl (p_pick rfl rfl) rfl ?_
    refine rq (u := .bool false) rfl rfl rfl (p_assign rfl) rfl ?_
    refine .done rfl ?_
    refine ac_ret ?_
    show Fin _ _ _ _ _ _ _
    exact fin_ret (Nat.le_of_ble_eq_true rfl) rfl (by obtain rfl := Option.some.inj h; rfl)

set_option maxRecDepth 20000 in
set_option maxHeartbeats 4000000 in
theorem ref11_digits_fn : ∀ k : Nat, ∀ (n : Int) (r : ByteArray) (h : ref11_digits k n = some r), PFn Tryd.prog 24 [.int .i64 n] (.str r) := by
  intro k
  intro n r h
  rw [ref11_digits] at h
  refine AFn.of Tryd.func24 rfl (Nat.le_of_ble_eq_true rfl) ?_
  refine ac_seq ?_
  refine ac_region rfl ?_
  refine rq (u := .str (⟨#[]⟩ : ByteArray)) rfl rfl rfl (p_assign rfl) rfl ?_
  refine .done rfl ?_
  refine ac_seq ?_
  refine ac_region rfl ?_
  refine rq (u := .int .i64 n) rfl rfl rfl (p_move rfl) rfl ?_
  obtain ⟨v1, hv1, h⟩ := bnd_some h
  refine rq (u := .tuple [.str v1.1, .bool v1.2]) rfl rfl rfl (p_pfnL en_45 (ref02_Put_fn k n v1 hv1) rfl rfl (TVles.refl _)) rfl ?_
  refine rq (u := .tuple [.str v1.1, .bool v1.2]) rfl rfl rfl (p_move rfl) rfl ?_
  refine rq (u := .str v1.1) rfl rfl rfl (p_extract rfl rfl rfl) rfl ?_
  refine rq (u := .bool v1.2) rfl rfl rfl (p_extract rfl rfl rfl) rfl ?_
  refine rq (u := .str v1.1) rfl rfl rfl (p_assign rfl) rfl ?_
  refine rq (u := .bool v1.2) rfl rfl rfl (p_assign rfl) rfl ?_
  refine .done rfl ?_
  refine ac_seq ?_
  refine ac_region rfl ?_
  refine rq (u := .str v1.1) rfl rfl rfl (p_move rfl) rfl ?_
  refine rq (u := .str v1.1) rfl rfl rfl (p_assign rfl) rfl ?_
  refine .done rfl ?_
  refine ac_ret ?_
  show Fin _ _ _ _ _ _ _
  exact fin_ret (Nat.le_of_ble_eq_true rfl) rfl (by obtain rfl := Option.some.inj h; rfl)

set_option maxRecDepth 20000 in
set_option maxHeartbeats 4000000 in
theorem ref11_ranges_fn : ∀ k : Nat, ∀ (l : List GRange) (r : ByteArray) (h : ref11_ranges k l = some r), PFn Tryd.prog 43 [.slice .ro 2 (l.map GRange.enc)] (.str r) := by
  intro k
  intro l r h
  rw [ref11_ranges] at h
  refine AFn.of Tryd.func43 rfl (Nat.le_of_ble_eq_true rfl) ?_
  refine ac_seq ?_
  refine ac_region rfl ?_
  refine rq (u := .str (⟨#[]⟩ : ByteArray)) rfl rfl rfl (p_assign rfl) rfl ?_
  refine .done rfl ?_
  refine ac_seq ?_
  refine ac_region rfl ?_
  refine rq (u := .str (⟨#[]⟩ : ByteArray)) rfl rfl rfl (p_assign rfl) rfl ?_
  refine .done rfl ?_
  refine ac_seq ?_
  refine ac_seq ?_
  refine ac_region rfl ?_
  refine rq (u := .int .i64 0) rfl rfl rfl (p_assign rfl) rfl ?_
  refine .done rfl ?_
  refine ac_block ?_
  refine ac_turns (σ := Nat × ByteArray × Int) (fun (⟨m3, x1, x2⟩ : Nat × ByteArray × Int) => [(0, .slice .ro 2 (l.map GRange.enc)), (2, .str (⟨#[]⟩ : ByteArray)), (3, .str x1), (4, .int .i64 x2)]) (fun (⟨m3, x1, x2⟩ : Nat × ByteArray × Int) => []) (fun x => x.1) (fun (⟨m3, x1, x2⟩ : Nat × ByteArray × Int) => ref11_ranges_L0 k l (fun x27 x28 => some x27) m3 x1 x2 = some r) ⟨k, (⟨#[]⟩ : ByteArray), 0⟩ h ⟨TVle.refl _, TVle.refl _, TVle.refl _, TVle.refl _, trivial⟩ (ResLe.refl _) ?_
  rintro ⟨m3, x1, x2⟩ h
  replace h : ref11_ranges_L0 k l (fun x27 x28 => some x27) m3 x1 x2 = some r := h
  show ACode _ _ _ [(0, .slice .ro 2 (l.map GRange.enc)), (2, .str (⟨#[]⟩ : ByteArray)), (3, .str x1), (4, .int .i64 x2)] [] _
  cases m3 with
  | zero => rw [ref11_ranges_L0] at h; cases h
  | succ m3 =>
    rw [ref11_ranges_L0] at h
    refine ac_seq ?_
    refine ac_seq ?_
    refine ac_region rfl ?_
    refine rq (u := .int .i64 x2) rfl rfl rfl (p_move rfl) rfl ?_
    refine rq (u := .slice .ro 2 (l.map GRange.enc)) rfl rfl rfl (p_move rfl) rfl ?_
    refine rq (u := .int .i64 (l.length : Int)) rfl rfl rfl (p_lenm is_30 rfl rfl) rfl ?_
    refine rq (u := .bool (decide (x2 < (l.length : Int)))) rfl rfl rfl (p_lss rfl rfl rfl) rfl ?_
    refine .done rfl ?_
    refine ac_cond rfl rfl (fun hc26 => ?_) (fun hc26 => ?_)
    · replace h := cond_t hc26 h
      refine ac_skip ?_
      refine ac_seq ?_
      refine ac_block ?_
      refine ac_seq ?_
      refine ac_seq ?_
      refine ac_region rfl ?_
      refine rq (u := .int .i64 x2) rfl rfl rfl (p_move rfl) rfl ?_
      refine rq (u := .bool (decide (0 < x2))) rfl rfl rfl (p_gtr rfl rfl rfl) rfl ?_
      refine .done rfl ?_
      refine ac_cond rfl rfl (fun hc25 => ?_) (fun hc25 => ?_)
      · replace h := cond_t hc25 h
        refine ac_region rfl ?_
        refine rq (u := .str x1) rfl rfl rfl (p_move rfl) rfl ?_
        obtain ⟨hv4, h⟩ := chk_some h
        refine rq (u := .str (x1 ++ (⟨#[44]⟩ : ByteArray))) rfl rfl rfl (p_sadd rfl rfl rfl (of_decide_eq_true hv4)) rfl ?_
        refine rq (u := .str (x1 ++ (⟨#[44]⟩ : ByteArray))) rfl rfl rfl (p_assign rfl) rfl ?_
        refine .done rfl ?_
        refine ac_seq ?_
        refine ac_region rfl ?_
        refine rq (u := .str (x1 ++ (⟨#[44]⟩ : ByteArray))) rfl rfl rfl (p_move rfl) rfl ?_
        refine rq (u := .slice .ro 2 (l.map GRange.enc)) rfl rfl rfl (p_move rfl) rfl ?_
        refine rq (u := .int .i64 x2) rfl rfl rfl (p_move rfl) rfl ?_
        obtain ⟨v5, hv5, h⟩ := bnd_some h
        refine rq (u := .rptr [.int .i64 v5.Low, .int .i64 v5.High]) rfl rfl rfl (p_ix GRange.enc_eq sl_30 hv5 rfl rfl rfl) rfl ?_
        refine rq (u := .rptr [.int .i64 v5.Low, .int .i64 v5.High]) rfl rfl rfl (p_field_rptr fl_41_0 rfl rfl) rfl ?_
        refine rq (u := .int .i64 v5.Low) rfl rfl rfl (p_load_rptr ti_3 (fun _ => rfl) rfl rfl (Nat.le_of_ble_eq_true rfl)) rfl ?_
        obtain ⟨v6, hv6, h⟩ := bnd_some h
        refine rq (u := .str v6) rfl rfl rfl (p_pfnL en_24 (ref11_digits_fn k v5.Low v6 hv6) rfl rfl (TVles.refl _)) rfl ?_
        obtain ⟨hv7, h⟩ := chk_some h
        refine rq (u := .str ((x1 ++ (⟨#[44]⟩ : ByteArray)) ++ v6)) rfl rfl rfl (p_sadd rfl rfl rfl (of_decide_eq_true hv7)) rfl ?_
        refine rq (u := .str ((x1 ++ (⟨#[44]⟩ : ByteArray)) ++ v6)) rfl rfl rfl (p_assign rfl) rfl ?_
        refine .done rfl ?_
        refine ac_seq ?_
        refine ac_region_draw mo rfl rfl rfl ?_
        refine rq (u := .slice .ro 2 (l.map GRange.enc)) rfl rfl rfl (p_move rfl) rfl ?_
        refine rq (u := .int .i64 x2) rfl rfl rfl (p_move rfl) rfl ?_
        obtain ⟨v8, hv8, h⟩ := bnd_some h
        refine rq (u := .rptr [.int .i64 v8.Low, .int .i64 v8.High]) rfl rfl rfl (p_ix GRange.enc_eq sl_30 hv8 rfl rfl rfl) rfl ?_
        refine rq (u := .rptr [.int .i64 v8.High]) rfl rfl rfl (p_field_rptr fl_41_1 rfl rfl) rfl ?_
        refine rq (u := .int .i64 v8.High) rfl rfl rfl (p_load_rptr ti_3 (fun _ => rfl) rfl rfl (Nat.le_of_ble_eq_true rfl)) rfl ?_
        refine rq (u := .slice .ro 2 (l.map GRange.enc)) rfl rfl rfl (p_move rfl) rfl ?_
        refine rq (u := .int .i64 x2) rfl rfl rfl (p_move rfl) rfl ?_
        obtain ⟨v9, hv9, h⟩ := bnd_some h
        refine rq (u := .rptr [.int .i64 v9.Low, .int .i64 v9.High]) rfl rfl rfl (p_ix GRange.enc_eq sl_30 hv9 rfl rfl rfl) rfl ?_
        refine rq (u := .rptr [.int .i64 v9.Low, .int .i64 v9.High]) rfl rfl rfl (p_field_rptr fl_41_0 rfl rfl) rfl ?_
        refine rq (u := .int .i64 v9.Low) rfl rfl rfl (p_load_rptr ti_3 (fun _ => rfl) rfl rfl (Nat.le_of_ble_eq_true rfl)) rfl ?_
        refine rq (u := .bool (v8.High != v9.Low)) rfl rfl rfl (p_neq rfl rfl rfl) rfl ?_
        refine .done rfl ?_
        refine ac_cond rfl rfl (fun hc14 => ?_) (fun hc14 => ?_)
        · replace h := cond_t hc14 h
          refine ac_region rfl ?_
          refine rq (u := .str ((x1 ++ (⟨#[44]⟩ : ByteArray)) ++ v6)) rfl rfl rfl (p_move rfl) rfl ?_
          obtain ⟨hv10, h⟩ := chk_some h
          refine rq (u := .str (((x1 ++ (⟨#[44]⟩ : ByteArray)) ++ v6) ++ (⟨#[45]⟩ : ByteArray))) rfl rfl rfl (p_sadd rfl rfl rfl (of_decide_eq_true hv10)) rfl ?_
          refine rq (u := .slice .ro 2 (l.map GRange.enc)) rfl rfl rfl (p_move rfl) rfl ?_
          refine rq (u := .int .i64 x2) rfl rfl rfl (p_move rfl) rfl ?_
          obtain ⟨v11, hv11, h⟩ := bnd_some h
          refine rq (u := .rptr [.int .i64 v11.Low, .int .i64 v11.High]) rfl rfl rfl (p_ix GRange.enc_eq sl_30 hv11 rfl rfl rfl) rfl ?_
          refine rq (u := .rptr [.int .i64 v11.High]) rfl rfl rfl (p_field_rptr fl_41_1 rfl rfl) rfl ?_
          refine rq (u := .int .i64 v11.High) rfl rfl rfl (p_load_rptr ti_3 (fun _ => rfl) rfl rfl (Nat.le_of_ble_eq_true rfl)) rfl ?_
          obtain ⟨v12, hv12, h⟩ := bnd_some h
          refine rq (u := .str v12) rfl rfl rfl (p_pfnL en_24 (ref11_digits_fn k v11.High v12 hv12) rfl rfl (TVles.refl _)) rfl ?_
          obtain ⟨hv13, h⟩ := chk_some h
          refine rq (u := .str ((((x1 ++ (⟨#[44]⟩ : ByteArray)) ++ v6) ++ (⟨#[45]⟩ : ByteArray)) ++ v12)) rfl rfl rfl (p_sadd rfl rfl rfl (of_decide_eq_true hv13)) rfl ?_
          refine rq (u := .str ((((x1 ++ (⟨#[44]⟩ : ByteArray)) ++ v6) ++ (⟨#[45]⟩ : ByteArray)) ++ v12)) rfl rfl rfl (p_assign rfl) rfl ?_
          refine .done rfl ?_
          refine ac_region rfl ?_
          refine rq (u := .int .i64 x2) rfl rfl rfl (p_move rfl) rfl ?_
          refine rq (u := .int .i64 (IntKind.wrap .i64 (x2 + 1))) rfl rfl rfl (p_add rfl rfl rfl) rfl ?_
          refine rq (u := .int .i64 (IntKind.wrap .i64 (x2 + 1))) rfl rfl rfl (p_assign rfl) rfl ?_
          refine .done rfl ?_
          exact ⟨⟨m3, ((((x1 ++ (⟨#[44]⟩ : ByteArray)) ++ v6) ++ (⟨#[45]⟩ : ByteArray)) ++ v12), (IntKind.wrap .i64 (x2 + 1))⟩, h, Nat.lt_succ_self _, ⟨TVle.refl _, TVle.refl _, TVle.refl _, TVle.refl _, trivial⟩, (ResLe.refl _)⟩
        · replace h := cond_f hc14 h
          refine ac_skip ?_
          refine ac_region rfl ?_
          refine rq (u := .int .i64 x2) rfl rfl rfl (p_move rfl) rfl ?_
          refine rq (u := .int .i64 (IntKind.wrap .i64 (x2 + 1))) rfl rfl rfl (p_add rfl rfl rfl) rfl ?_
          refine rq (u := .int .i64 (IntKind.wrap .i64 (x2 + 1))) rfl rfl rfl (p_assign rfl) rfl ?_
          refine .done rfl ?_
          exact ⟨⟨m3, ((x1 ++ (⟨#[44]⟩ : ByteArray)) ++ v6), (IntKind.wrap .i64 (x2 + 1))⟩, h, Nat.lt_succ_self _, ⟨TVle.refl _, TVle.refl _, TVle.refl _, TVle.refl _, trivial⟩, (ResLe.refl _)⟩
      · replace h := cond_f hc25 h
        refine ac_skip ?_
        refine ac_seq ?_
        refine ac_region rfl ?_
        refine rq (u := .str x1) rfl rfl rfl (p_move rfl) rfl ?_
        refine rq (u := .slice .ro 2 (l.map GRange.enc)) rfl rfl rfl (p_move rfl) rfl ?_
        refine rq (u := .int .i64 x2) rfl rfl rfl (p_move rfl) rfl ?_
        obtain ⟨v15, hv15, h⟩ := bnd_some h
        refine rq (u := .rptr [.int .i64 v15.Low, .int .i64 v15.High]) rfl rfl rfl (p_ix GRange.enc_eq sl_30 hv15 rfl rfl rfl) rfl ?_
        refine rq (u := .rptr [.int .i64 v15.Low, .int .i64 v15.High]) rfl rfl rfl (p_field_rptr fl_41_0 rfl rfl) rfl ?_
        refine rq (u := .int .i64 v15.Low) rfl rfl rfl (p_load_rptr ti_3 (fun _ => rfl) rfl rfl (Nat.le_of_ble_eq_true rfl)) rfl ?_
        obtain ⟨v16, hv16, h⟩ := bnd_some h
        refine rq (u := .str v16) rfl rfl rfl (p_pfnL en_24 (ref11_digits_fn k v15.Low v16 hv16) rfl rfl (TVles.refl _)) rfl ?_
        obtain ⟨hv17, h⟩ := chk_some h
        refine rq (u := .str (x1 ++ v16)) rfl rfl rfl (p_sadd rfl rfl rfl (of_decide_eq_true hv17)) rfl ?_
        refine rq (u := .str (x1 ++ v16)) rfl rfl rfl (p_assign rfl) rfl ?_
        refine .done rfl ?_
        refine ac_seq ?_
        refine ac_region_draw mo rfl rfl rfl ?_
        refine rq (u := .slice .ro 2 (l.map GRange.enc)) rfl rfl rfl (p_move rfl) rfl ?_
        refine rq (u := .int .i64 x2) rfl rfl rfl (p_move rfl) rfl ?_
        obtain ⟨v18, hv18, h⟩ := bnd_some h
        refine rq (u := .rptr [.int .i64 v18.Low, .int .i64 v18.High]) rfl rfl rfl (p_ix GRange.enc_eq sl_30 hv18 rfl rfl rfl) rfl ?_
        refine rq (u := .rptr [.int .i64 v18.High]) rfl rfl rfl (p_field_rptr fl_41_1 rfl rfl) rfl ?_
        refine rq (u := .int .i64 v18.High) rfl rfl rfl (p_load_rptr ti_3 (fun _ => rfl) rfl rfl (Nat.le_of_ble_eq_true rfl)) rfl ?_
        refine rq (u := .slice .ro 2 (l.map GRange.enc)) rfl rfl rfl (p_move rfl) rfl ?_
        refine rq (u := .int .i64 x2) rfl rfl rfl (p_move rfl) rfl ?_
        obtain ⟨v19, hv19, h⟩ := bnd_some h
        refine rq (u := .rptr [.int .i64 v19.Low, .int .i64 v19.High]) rfl rfl rfl (p_ix GRange.enc_eq sl_30 hv19 rfl rfl rfl) rfl ?_
        refine rq (u := .rptr [.int .i64 v19.Low, .int .i64 v19.High]) rfl rfl rfl (p_field_rptr fl_41_0 rfl rfl) rfl ?_
        refine rq (u := .int .i64 v19.Low) rfl rfl rfl (p_load_rptr ti_3 (fun _ => rfl) rfl rfl (Nat.le_of_ble_eq_true rfl)) rfl ?_
        refine rq (u := .bool (v18.High != v19.Low)) rfl rfl rfl (p_neq rfl rfl rfl) rfl ?_
        refine .done rfl ?_
        refine ac_cond rfl rfl (fun hc24 => ?_) (fun hc24 => ?_)
        · replace h := cond_t hc24 h
          refine ac_region rfl ?_
          refine rq (u := .str (x1 ++ v16)) rfl rfl rfl (p_move rfl) rfl ?_
          obtain ⟨hv20, h⟩ := chk_some h
          refine rq (u := .str ((x1 ++ v16) ++ (⟨#[45]⟩ : ByteArray))) rfl rfl rfl (p_sadd rfl rfl rfl (of_decide_eq_true hv20)) rfl ?_
          refine rq (u := .slice .ro 2 (l.map GRange.enc)) rfl rfl rfl (p_move rfl) rfl ?_
          refine rq (u := .int .i64 x2) rfl rfl rfl (p_move rfl) rfl ?_
          obtain ⟨v21, hv21, h⟩ := bnd_some h
          refine rq (u := .rptr [.int .i64 v21.Low, .int .i64 v21.High]) rfl rfl rfl (p_ix GRange.enc_eq sl_30 hv21 rfl rfl rfl) rfl ?_
          refine rq (u := .rptr [.int .i64 v21.High]) rfl rfl rfl (p_field_rptr fl_41_1 rfl rfl) rfl ?_
          refine rq (u := .int .i64 v21.High) rfl rfl rfl (p_load_rptr ti_3 (fun _ => rfl) rfl rfl (Nat.le_of_ble_eq_true rfl)) rfl ?_
          obtain ⟨v22, hv22, h⟩ := bnd_some h
          refine rq (u := .str v22) rfl rfl rfl (p_pfnL en_24 (ref11_digits_fn k v21.High v22 hv22) rfl rfl (TVles.refl _)) rfl ?_
          obtain ⟨hv23, h⟩ := chk_some h
          refine rq (u := .str (((x1 ++ v16) ++ (⟨#[45]⟩ : ByteArray)) ++ v22)) rfl rfl rfl (p_sadd rfl rfl rfl (of_decide_eq_true hv23)) rfl ?_
          refine rq (u := .str (((x1 ++ v16) ++ (⟨#[45]⟩ : ByteArray)) ++ v22)) rfl rfl rfl (p_assign rfl) rfl ?_
          refine .done rfl ?_
          refine ac_region rfl ?_
          refine rq (u := .int .i64 x2) rfl rfl rfl (p_move rfl) rfl ?_
          refine rq (u := .int .i64 (IntKind.wrap .i64 (x2 + 1))) rfl rfl rfl (p_add rfl rfl rfl) rfl ?_
          refine rq (u := .int .i64 (IntKind.wrap .i64 (x2 + 1))) rfl rfl rfl (p_assign rfl) rfl ?_
          refine .done rfl ?_
          exact ⟨⟨m3, (((x1 ++ v16) ++ (⟨#[45]⟩ : ByteArray)) ++ v22), (IntKind.wrap .i64 (x2 + 1))⟩, h, Nat.lt_succ_self _, ⟨TVle.refl _, TVle.refl _, TVle.refl _, TVle.refl _, trivial⟩, (ResLe.refl _)⟩
        · replace h := cond_f hc24 h
          refine ac_skip ?_
          refine ac_region rfl ?_
          refine rq (u := .int .i64 x2) rfl rfl rfl (p_move rfl) rfl ?_
          refine rq (u := .int .i64 (IntKind.wrap .i64 (x2 + 1))) rfl rfl rfl (p_add rfl rfl rfl) rfl ?_
          refine rq (u := .int .i64 (IntKind.wrap .i64 (x2 + 1))) rfl rfl rfl (p_assign rfl) rfl ?_
          refine .done rfl ?_
          exact ⟨⟨m3, (x1 ++ v16), (IntKind.wrap .i64 (x2 + 1))⟩, h, Nat.lt_succ_self _, ⟨TVle.refl _, TVle.refl _, TVle.refl _, TVle.refl _, trivial⟩, (ResLe.refl _)⟩
    · replace h := cond_f hc26 h
      refine ac_exit ?_
      refine ac_seq ?_
      refine ac_region rfl ?_
      refine rq (u := .str x1) rfl rfl rfl (p_move rfl) rfl ?_
      refine rq (u := .str x1) rfl rfl rfl (p_assign rfl) rfl ?_
      refine .done rfl ?_
      refine ac_ret ?_
      show Fin _ _ _ _ _ _ _
      exact fin_ret (Nat.le_of_ble_eq_true rfl) rfl (by obtain rfl := Option.some.inj h; rfl)

set_option maxRecDepth 20000 in
set_option maxHeartbeats 4000000 in
theorem ref11_bracket_fn : ∀ k : Nat, ∀ (s_0 : ByteArray) (must : Bool) (r : ByteArray) (h : ref11_bracket k s_0 must = some r), PFn Tryd.prog 44 [.str s_0, .bool must] (.str r) := by
  intro k
  intro s_0 must r h
  rw [ref11_bracket] at h
  refine AFn.of Tryd.func44 rfl (Nat.le_of_ble_eq_true rfl) ?_
  refine ac_seq ?_
  refine ac_region rfl ?_
  refine rq (u := .str (⟨#[]⟩ : ByteArray)) rfl rfl rfl (p_assign rfl) rfl ?_
  refine .done rfl ?_
  refine ac_seq ?_
  refine ac_seq ?_
  refine ac_region rfl ?_
  refine rq (u := .bool must) rfl rfl rfl (p_move rfl) rfl ?_
  refine .done rfl ?_
  refine ac_cond rfl rfl (fun hc3 => ?_) (fun hc3 => ?_)
  · replace h := cond_t hc3 h
    refine ac_seq ?_
    refine ac_region rfl ?_
    refine rq (u := .str s_0) rfl rfl rfl (p_move rfl) rfl ?_
    obtain ⟨hv1, h⟩ := chk_some h
    refine rq (u := .str ((⟨#[40]⟩ : ByteArray) ++ s_0)) rfl rfl rfl (p_sadd rfl rfl rfl (of_decide_eq_true hv1)) rfl ?_
    obtain ⟨hv2, h⟩ := chk_some h
    refine rq (u := .str (((⟨#[40]⟩ : ByteArray) ++ s_0) ++ (⟨#[41]⟩ : ByteArray))) rfl rfl rfl (p_sadd rfl rfl rfl (of_decide_eq_true hv2)) rfl ?_
    refine rq (u := .str (((⟨#[40]⟩ : ByteArray) ++ s_0) ++ (⟨#[41]⟩ : ByteArray))) rfl rfl rfl (p_assign rfl) rfl ?_
    refine .done rfl ?_
    refine ac_ret ?_
    show Fin _ _ _ _ _ _ _
    exact fin_ret (Nat.le_of_ble_eq_true rfl) rfl (by obtain rfl := Option.some.inj h; rfl)
  · replace h := cond_f hc3 h
    refine ac_skip ?_
    refine ac_seq ?_
    refine ac_region rfl ?_
    refine rq (u := .str s_0) rfl rfl rfl (p_move rfl) rfl ?_
    refine rq (u := .str s_0) rfl rfl rfl (p_assign rfl) rfl ?_
    refine .done rfl ?_
    refine ac_ret ?_
    show Fin _ _ _ _ _ _ _
    exact fin_ret (Nat.le_of_ble_eq_true rfl) rfl (by obtain rfl := Option.some.inj h; rfl)

set_option maxRecDepth 20000 in
set_option maxHeartbeats 4000000 in
theorem ref11_text_fn : ∀ k : Nat, ∀ (e : GExpr) (r : ByteArray) (h : ref11_text k e = some r), PFn Tryd.prog 23 [.agg (GExpr.cells e)] (.str r) := by
  intro k
  induction k with
  | zero => intro e r h; rw [ref11_text] at h; cases h
  | succ k ih_ref11_text =>
    intro e r h
    rw [ref11_text] at h
    refine AFn.of Tryd.func23 rfl (Nat.le_of_ble_eq_true rfl) ?_
    refine ac_seq ?_
    refine ac_region rfl ?_
    refine rbox rfl rfl rfl rfl rfl fun b1 => ?_
    refine rq (u := .str (⟨#[]⟩ : ByteArray)) rfl rfl rfl (p_assign rfl) rfl ?_
    refine .done rfl ?_
    refine ac_seq ?_
    refine ac_seq ?_
    refine ac_region rfl ?_
    refine rq (u := .ptr b1 0) rfl rfl rfl (p_field_ptr fl_33_0 rfl rfl) rfl ?_
    refine rq (u := .int .i64 e.Kind) rfl rfl rfl (p_load_ptr ti_3 (fun _ => rfl) rfl rfl (.head _) (Nat.le_of_ble_eq_true rfl)) rfl ?_
    refine .done rfl ?_
    refine ac_block ?_
    refine ac_seq ?_
    refine ac_region rfl ?_
    refine rq (u := .bool (e.Kind == 1)) rfl rfl rfl (p_eql rfl rfl rfl) rfl ?_
    refine rq (u := .bool (e.Kind == 1)) rfl rfl rfl (p_assign rfl) rfl ?_
    refine .done rfl ?_
    refine ac_cond rfl rfl (fun hc78 => ?_) (fun hc78 => ?_)
    · replace h := cond_t hc78 h
      refine ac_seq ?_
      refine ac_seq ?_
      refine ac_region rfl ?_
      refine rq (u := .ptr b1 1) rfl rfl rfl (p_field_ptr fl_33_1 rfl rfl) rfl ?_
      refine rq (u := .int .i64 e.Field) rfl rfl rfl (p_load_ptr ti_3 (fun _ => rfl) rfl rfl (.head _) (Nat.le_of_ble_eq_true rfl)) rfl ?_
      refine rq (u := .bool (e.Field == 6)) rfl rfl rfl (p_eql rfl rfl rfl) rfl ?_
      refine .done rfl ?_
      refine ac_cond rfl rfl (fun hc10 => ?_) (fun hc10 => ?_)
      · replace h := cond_t hc10 h
        refine ac_seq ?_
        refine ac_region rfl ?_
        refine rq (u := .ptr b1 3) rfl rfl rfl (p_field_ptr fl_33_3 rfl rfl) rfl ?_
        refine rq (u := encF e.Low) rfl rfl rfl (p_load_ptr ti_31 (fun _ => rfl) rfl rfl (.head _) (Nat.le_of_ble_eq_true rfl)) rfl ?_
        obtain ⟨v1, hv1, h⟩ := bnd_some h
        refine rq (u := .tuple [.str v1.1, .bool v1.2]) rfl rfl rfl (p_pfnL en_42 (ref03_Text_fn k e.Low v1 hv1) rfl rfl (TVles.refl _)) rfl ?_
        refine rq (u := .tuple [.str v1.1, .bool v1.2]) rfl rfl rfl (p_move rfl) rfl ?_
        refine rq (u := .str v1.1) rfl rfl rfl (p_extract rfl rfl rfl) rfl ?_
        refine rq (u := .bool v1.2) rfl rfl rfl (p_extract rfl rfl rfl) rfl ?_
        refine rq (u := .str v1.1) rfl rfl rfl (p_assign rfl) rfl ?_
        refine rq (u := .bool v1.2) rfl rfl rfl (p_assign rfl) rfl ?_
        refine .done rfl ?_
        refine ac_seq ?_
        refine ac_region rfl ?_
        refine rq (u := .ptr b1 4) rfl rfl rfl (p_field_ptr fl_33_4 rfl rfl) rfl ?_
        refine rq (u := encF e.High) rfl rfl rfl (p_load_ptr ti_31 (fun _ => rfl) rfl rfl (.head _) (Nat.le_of_ble_eq_true rfl)) rfl ?_
        obtain ⟨v2, hv2, h⟩ := bnd_some h
        refine rq (u := .tuple [.str v2.1, .bool v2.2]) rfl rfl rfl (p_pfnL en_42 (ref03_Text_fn k e.High v2 hv2) rfl rfl (TVles.refl _)) rfl ?_
        refine rq (u := .tuple [.str v2.1, .bool v2.2]) rfl rfl rfl (p_move rfl) rfl ?_
        refine rq (u := .str v2.1) rfl rfl rfl (p_extract rfl rfl rfl) rfl ?_
        refine rq (u := .bool v2.2) rfl rfl rfl (p_extract rfl rfl rfl) rfl ?_
        refine rq (u := .str v2.1) rfl rfl rfl (p_assign rfl) rfl ?_
        refine rq (u := .bool v2.2) rfl rfl rfl (p_assign rfl) rfl ?_
        refine .done rfl ?_
        refine ac_seq ?_
        refine ac_region rfl ?_
        refine rq (u := .str v1.1) rfl rfl rfl (p_move rfl) rfl ?_
        obtain ⟨hv3, h⟩ := chk_some h
        refine rq (u := .str ((⟨#[114, 101, 97, 108, 32]⟩ : ByteArray) ++ v1.1)) rfl rfl rfl (p_sadd rfl rfl rfl (of_decide_eq_true hv3)) rfl ?_
        obtain ⟨hv4, h⟩ := chk_some h
        refine rq (u := .str (((⟨#[114, 101, 97, 108, 32]⟩ : ByteArray) ++ v1.1) ++ (⟨#[32, 116, 111, 32]⟩ : ByteArray))) rfl rfl rfl (p_sadd rfl rfl rfl (of_decide_eq_true hv4)) rfl ?_
        refine rq (u := .str v2.1) rfl rfl rfl (p_move rfl) rfl ?_
        obtain ⟨hv5, h⟩ := chk_some h
        refine rq (u := .str ((((⟨#[114, 101, 97, 108, 32]⟩ : ByteArray) ++ v1.1) ++ (⟨#[32, 116, 111, 32]⟩ : ByteArray)) ++ v2.1)) rfl rfl rfl (p_sadd rfl rfl rfl (of_decide_eq_true hv5)) rfl ?_
        refine rq (u := .str ((((⟨#[114, 101, 97, 108, 32]⟩ : ByteArray) ++ v1.1) ++ (⟨#[32, 116, 111, 32]⟩ : ByteArray)) ++ v2.1)) rfl rfl rfl (p_assign rfl) rfl ?_
        refine .done rfl ?_
        refine ac_ret ?_
        show Fin _ _ _ _ _ _ _
        exact fin_ret (Nat.le_of_ble_eq_true rfl) rfl (by obtain rfl := Option.some.inj h; rfl)
      · replace h := cond_f hc10 h
        refine ac_skip ?_
        refine ac_seq ?_
        refine ac_region_draw mo rfl rfl rfl ?_
        refine rq (u := .slice .full 1 (([(⟨#[]⟩ : ByteArray), (⟨#[99, 108, 105, 101, 110, 116]⟩ : ByteArray), (⟨#[117, 110, 105, 116]⟩ : ByteArray), (⟨#[102, 117, 110, 99]⟩ : ByteArray), (⟨#[97, 100, 100, 114]⟩ : ByteArray), (⟨#[118, 97, 108, 117, 101]⟩ : ByteArray)]).map TV.str)) rfl rfl rfl (p_bslice (f := TV.str) (xs := ([(⟨#[]⟩ : ByteArray), (⟨#[99, 108, 105, 101, 110, 116]⟩ : ByteArray), (⟨#[117, 110, 105, 116]⟩ : ByteArray), (⟨#[102, 117, 110, 99]⟩ : ByteArray), (⟨#[97, 100, 100, 114]⟩ : ByteArray), (⟨#[118, 97, 108, 117, 101]⟩ : ByteArray)] : List ByteArray)) (fun _ => ⟨rfl, nofun, rfl⟩) sl_73 ⟨_, _, rfl, zf_9, rfl⟩ rfl rfl rfl rfl rfl rfl) rfl ?_
        refine rq (u := .ptr b1 1) rfl rfl rfl (p_field_ptr fl_33_1 rfl rfl) rfl ?_
        refine rq (u := .int .i64 e.Field) rfl rfl rfl (p_load_ptr ti_3 (fun _ => rfl) rfl rfl (.head _) (Nat.le_of_ble_eq_true rfl)) rfl ?_
        obtain ⟨v6, hv6, h⟩ := bnd_some h
        refine rq (u := .rptr [.str v6]) rfl rfl rfl (p_ix1 (f := TV.str) (fun _ => rfl) sl_73 hv6 rfl rfl rfl) rfl ?_
        refine rq (u := .str v6) rfl rfl rfl (p_load_rptr ti_9 (fun _ => rfl) rfl rfl (Nat.le_of_ble_eq_true rfl)) rfl ?_
        obtain ⟨hv7, h⟩ := chk_some h
        refine rq (u := .str (v6 ++ (⟨#[32]⟩ : ByteArray))) rfl rfl rfl (p_sadd rfl rfl rfl (of_decide_eq_true hv7)) rfl ?_
        refine rq (u := .ptr b1 2) rfl rfl rfl (p_field_ptr fl_33_2 rfl rfl) rfl ?_
        refine rq (u := .slice .ro 2 (e.Ranges.map GRange.enc)) rfl rfl rfl (p_load_ptr ti_30 (fun _ => rfl) rfl rfl (.head _) (Nat.le_of_ble_eq_true rfl)) rfl ?_
        obtain ⟨v8, hv8, h⟩ := bnd_some h
        refine rq (u := .str v8) rfl rfl rfl (p_pfnL en_43 (ref11_ranges_fn k e.Ranges v8 hv8) rfl rfl (TVles.refl _)) rfl ?_
        obtain ⟨hv9, h⟩ := chk_some h
        refine rq (u := .str ((v6 ++ (⟨#[32]⟩ : ByteArray)) ++ v8)) rfl rfl rfl (p_sadd rfl rfl rfl (of_decide_eq_true hv9)) rfl ?_
        refine rq (u := .str ((v6 ++ (⟨#[32]⟩ : ByteArray)) ++ v8)) rfl rfl rfl (p_assign rfl) rfl ?_
        refine .done rfl ?_
        refine ac_ret ?_
        show Fin _ _ _ _ _ _ _
        exact fin_ret (Nat.le_of_ble_eq_true rfl) rfl (by obtain rfl := Option.some.inj h; rfl)
    · replace h := cond_f hc78 h
      refine ac_seq ?_
      refine ac_region rfl ?_
      refine rq (u := .bool (e.Kind == 2)) rfl rfl rfl (p_eql rfl rfl rfl) rfl ?_
      refine rq (u := .bool (e.Kind == 2)) rfl rfl rfl (p_assign rfl) rfl ?_
      refine .done rfl ?_
      refine ac_cond rfl rfl (fun hc77 => ?_) (fun hc77 => ?_)
      · replace h := cond_t hc77 h
        refine ac_seq ?_
        refine ac_region rfl ?_
        refine rq (u := .ptr b1 5) rfl rfl rfl (p_field_ptr fl_33_5 rfl rfl) rfl ?_
        refine rq (u := .slice .ro 6 (e.Of.map GExpr.enc)) rfl rfl rfl (p_load_ptr ti_28 (fun _ => rfl) rfl rfl (.head _) (Nat.le_of_ble_eq_true rfl)) rfl ?_
        obtain ⟨v11, hv11, h⟩ := bnd_some h
        refine rq (u := .rptr [.int .i64 v11.Kind, .int .i64 v11.Field, .slice .ro 2 (v11.Ranges.map GRange.enc), encF v11.Low, encF v11.High, .slice .ro 6 (v11.Of.map GExpr.enc)]) rfl rfl rfl (p_ix GExpr.enc_eq sl_28 hv11 rfl rfl rfl) rfl ?_
        refine rq (u := .agg (GExpr.cells v11)) rfl rfl rfl (p_load_rptr ti_33 nofun rfl rfl (Nat.le_of_ble_eq_true rfl)) rfl ?_
        refine ralloc (cs := [.int .i64 0, .int .i64 0, .slice .full 0 [], encF (some 0), encF (some 0), .slice .full 0 []]) zf_33 rfl rfl rfl rfl rfl rfl rfl nofun fun b2 => ?_
        refine rstore (j := 0) (us := [.int .i64 v11.Kind, .int .i64 v11.Field, .slice .ro 2 (v11.Ranges.map GRange.enc), encF v11.Low, encF v11.High, .slice .ro 6 (v11.Of.map GExpr.enc)]) ti_33 rfl rfl rfl rfl rfl rfl rfl rfl nofun rfl (by simp only [allOne, List.all_cons, List.all_nil, one_fl]; rfl) (Nat.le_of_ble_eq_true rfl) ?_
        refine .done rfl ?_
        refine ac_seq ?_
        refine ac_region_draw mo rfl rfl rfl ?_
        refine rq (u := .agg (GExpr.cells v11)) rfl rfl rfl (p_load_ptr ti_33 nofun rfl rfl (.head _) (Nat.le_of_ble_eq_true rfl)) rfl ?_
        obtain ⟨v12, hv12, h⟩ := bnd_some h
        refine rq (u := .str v12) rfl rfl rfl (p_pfnL en_23 (ih_ref11_text v11 v12 hv12) rfl rfl (TVles.refl _)) rfl ?_
        refine rq (u := .ptr b2 0) rfl rfl rfl (p_field_ptr fl_33_0 rfl rfl) rfl ?_
        refine rq (u := .int .i64 v11.Kind) rfl rfl rfl (p_load_ptr ti_3 (fun _ => rfl) rfl rfl (.head _) (Nat.le_of_ble_eq_true rfl)) rfl ?_
        refine rq (u := .bool (v11.Kind == 3)) rfl rfl rfl (p_eql rfl rfl rfl) rfl ?_
        refine rq (u := .bool (v11.Kind == 3)) rfl rfl rfl (p_move rfl) rfl ?_
        refine rcase 56 rfl (fun hc13 => ?_) (fun hc13 => ?_)
        · replace h := cond_t hc13 h
          refine rskip rfl (guard_at rfl rfl rfl rfl rfl) rfl ?_
          refine rskip rfl (guard_at rfl rfl rfl rfl rfl) rfl ?_
          refine rskip rfl (guard_at rfl rfl rfl rfl rfl) rfl ?_
          refine rq (u := .bool true) rfl rfl rfl (p_pick rfl rfl) rfl ?_
          obtain ⟨v14, hv14, h⟩ := bnd_some h
          refine rq (u := .str v14) rfl rfl rfl (p_pfnL en_44 (ref11_bracket_fn k v12 true v14 hv14) rfl rfl (TVles.refl _)) rfl ?_
          obtain ⟨hv15, h⟩ := chk_some h
          refine rq (u := .str ((⟨#[110, 111, 116, 32]⟩ : ByteArray) ++ v14)) rfl rfl rfl (p_sadd rfl rfl rfl (of_decide_eq_true hv15)) rfl ?_
          refine rq (u := .str ((⟨#[110, 111, 116, 32]⟩ : ByteArray) ++ v14)) rfl rfl rfl (p_assign rfl) rfl ?_
          refine .done rfl ?_
          refine ac_ret ?_
          show Fin _ _ _ _ _ _ _
          exact fin_ret (Nat.le_of_ble_eq_true rfl) rfl (by obtain rfl := Option.some.inj h; rfl)
        · replace h := cond_f hc13 h
          refine rq (u := .ptr b2 0) rfl (guard_at rfl rfl rfl rfl rfl) rfl (p_field_ptr fl_33_0 rfl rfl) rfl ?_
          refine rq (u := .int .i64 v11.Kind) rfl (guard_at rfl rfl rfl rfl rfl) rfl (p_load_ptr ti_3 (fun _ => rfl) rfl rfl (.head _) (Nat.le_of_ble_eq_true rfl)) rfl ?_
          refine rq (u := .bool (v11.Kind == 4)) rfl (guard_at rfl rfl rfl rfl rfl) rfl (p_eql rfl rfl rfl) rfl ?_
          refine rq (u := .bool (v11.Kind == 4)) rfl rfl rfl (p_pick rfl rfl) rfl ?_
          obtain ⟨v16, hv16, h⟩ := bnd_some h
          refine rq (u := .str v16) rfl rfl rfl (p_pfnL en_44 (ref11_bracket_fn k v12 (v11.Kind == 4) v16 hv16) rfl rfl (TVles.refl _)) rfl ?_
          obtain ⟨hv17, h⟩ := chk_some h
          refine rq (u := .str ((⟨#[110, 111, 116, 32]⟩ : ByteArray) ++ v16)) rfl rfl rfl (p_sadd rfl rfl rfl (of_decide_eq_true hv17)) rfl ?_
          refine rq (u := .str ((⟨#[110, 111, 116, 32]⟩ : ByteArray) ++ v16)) rfl rfl rfl (p_assign rfl) rfl ?_
          refine .done rfl ?_
          refine ac_ret ?_
          show Fin _ _ _ _ _ _ _
          exact fin_ret (Nat.le_of_ble_eq_true rfl) rfl (by obtain rfl := Option.some.inj h; rfl)
      · replace h := cond_f hc77 h
        refine ac_skip ?_
        refine ac_seq ?_
        refine ac_region rfl ?_
        refine rq (u := .str (⟨#[]⟩ : ByteArray)) rfl rfl rfl (p_assign rfl) rfl ?_
        refine .done rfl ?_
        refine ac_seq ?_
        refine ac_seq ?_
        refine ac_region rfl ?_
        refine rq (u := .int .i64 0) rfl rfl rfl (p_assign rfl) rfl ?_
        refine .done rfl ?_
        refine ac_block ?_
        refine ac_turns (σ := Nat × ByteArray × Int) (fun (⟨m20, x18, x19⟩ : Nat × ByteArray × Int) => [(0, .agg (GExpr.cells e)), (1, .ptr b1 0), (2, .str (⟨#[]⟩ : ByteArray)), (8, .str x18), (9, .int .i64 x19), (11, .ptr b1 0), (12, .int .i64 e.Kind), (13, .bool (e.Kind == 1)), (14, .bool (e.Kind == 1)), (45, .bool (e.Kind == 2)), (46, .bool (e.Kind == 2))]) (fun (⟨m20, x18, x19⟩ : Nat × ByteArray × Int) => [(b1, RS.box [.int .i64 e.Kind, .int .i64 e.Field, .slice .ro 2 (e.Ranges.map GRange.enc), encF e.Low, encF e.High, .slice .ro 6 (e.Of.map GExpr.enc)])]) (fun x => x.1) (fun (⟨m20, x18, x19⟩ : Nat × ByteArray × Int) => ref11_text_L0 k (ref11_text k) e (fun x75 x76 => some x75) m20 x18 x19 = some r) ⟨k, (⟨#[]⟩ : ByteArray), 0⟩ h ⟨TVle.refl _, TVle.refl _, TVle.refl _, TVle.refl _, TVle.refl _, TVle.refl _, TVle.refl _, TVle.refl _, TVle.refl _, TVle.refl _, TVle.refl _, trivial⟩ (ResLe.refl _) ?_
        rintro ⟨m20, x18, x19⟩ h
        replace h : ref11_text_L0 k (ref11_text k) e (fun x75 x76 => some x75) m20 x18 x19 = some r := h
        show ACode _ _ _ [(0, .agg (GExpr.cells e)), (1, .ptr b1 0), (2, .str (⟨#[]⟩ : ByteArray)), (8, .str x18), (9, .int .i64 x19), (11, .ptr b1 0), (12, .int .i64 e.Kind), (13, .bool (e.Kind == 1)), (14, .bool (e.Kind == 1)), (45, .bool (e.Kind == 2)), (46, .bool (e.Kind == 2))] [(b1, RS.box [.int .i64 e.Kind, .int .i64 e.Field, .slice .ro 2 (e.Ranges.map GRange.enc), encF e.Low, encF e.High, .slice .ro 6 (e.Of.map GExpr.enc)])] _
        cases m20 with
        | zero => rw [ref11_text_L0] at h; cases h
        | succ m20 =>
          rw [ref11_text_L0] at h
          refine ac_seq ?_
          refine ac_seq ?_
          refine ac_region rfl ?_
          refine rq (u := .int .i64 x19) rfl rfl rfl (p_move rfl) rfl ?_
          refine rq (u := .ptr b1 5) rfl rfl rfl (p_field_ptr fl_33_5 rfl rfl) rfl ?_
          refine rq (u := .slice .ro 6 (e.Of.map GExpr.enc)) rfl rfl rfl (p_load_ptr ti_28 (fun _ => rfl) rfl rfl (.head _) (Nat.le_of_ble_eq_true rfl)) rfl ?_
          refine rq (u := .int .i64 (e.Of.length : Int)) rfl rfl rfl (p_lenm is_28 rfl rfl) rfl ?_
          refine rq (u := .bool (decide (x19 < (e.Of.length : Int)))) rfl rfl rfl (p_lss rfl rfl rfl) rfl ?_
          refine .done rfl ?_
          refine ac_cond rfl rfl (fun hc74 => ?_) (fun hc74 => ?_)
          · replace h := cond_t hc74 h
            refine ac_skip ?_
            refine ac_seq ?_
            refine ac_block ?_
            refine ac_seq ?_
            refine ac_region rfl ?_
            refine rq (u := .ptr b1 5) rfl rfl rfl (p_field_ptr fl_33_5 rfl rfl) rfl ?_
            refine rq (u := .slice .ro 6 (e.Of.map GExpr.enc)) rfl rfl rfl (p_load_ptr ti_28 (fun _ => rfl) rfl rfl (.head _) (Nat.le_of_ble_eq_true rfl)) rfl ?_
            refine rq (u := .int .i64 x19) rfl rfl rfl (p_move rfl) rfl ?_
            obtain ⟨v21, hv21, h⟩ := bnd_some h
            refine rq (u := .rptr [.int .i64 v21.Kind, .int .i64 v21.Field, .slice .ro 2 (v21.Ranges.map GRange.enc), encF v21.Low, encF v21.High, .slice .ro 6 (v21.Of.map GExpr.enc)]) rfl rfl rfl (p_ix GExpr.enc_eq sl_28 hv21 rfl rfl rfl) rfl ?_
            refine rq (u := .agg (GExpr.cells v21)) rfl rfl rfl (p_load_rptr ti_33 nofun rfl rfl (Nat.le_of_ble_eq_true rfl)) rfl ?_
            refine ralloc (cs := [.int .i64 0, .int .i64 0, .slice .full 0 [], encF (some 0), encF (some 0), .slice .full 0 []]) zf_33 rfl rfl rfl rfl rfl rfl rfl nofun fun b3 => ?_
            refine rstore (j := 0) (us := [.int .i64 v21.Kind, .int .i64 v21.Field, .slice .ro 2 (v21.Ranges.map GRange.enc), encF v21.Low, encF v21.High, .slice .ro 6 (v21.Of.map GExpr.enc)]) ti_33 rfl rfl rfl rfl rfl rfl rfl rfl nofun rfl (by simp only [allOne, List.all_cons, List.all_nil, one_fl]; rfl) (Nat.le_of_ble_eq_true rfl) ?_
            refine .done rfl ?_
            refine ac_seq ?_
            refine ac_seq ?_
            refine ac_region rfl ?_
            refine rq (u := .int .i64 x19) rfl rfl rfl (p_move rfl) rfl ?_
            refine rq (u := .bool (decide (0 < x19))) rfl rfl rfl (p_gtr rfl rfl rfl) rfl ?_
            refine rq (u := .bool (decide (0 < x19))) rfl rfl rfl (p_move rfl) rfl ?_
            refine rcase 77 rfl (fun hc22 => ?_) (fun hc22 => ?_)
            · replace h := cond_t hc22 h
              refine rq (u := .ptr b1 0) rfl (guard_at rfl rfl rfl rfl rfl) rfl (p_field_ptr fl_33_0 rfl rfl) rfl ?_
              refine rq (u := .int .i64 e.Kind) rfl (guard_at rfl rfl rfl rfl rfl) rfl (p_load_ptr ti_3 (fun _ => rfl) rfl rfl (.tail _ (.head _)) (Nat.le_of_ble_eq_true rfl)) rfl ?_
              refine rq (u := .bool (e.Kind == 3)) rfl (guard_at rfl rfl rfl rfl rfl) rfl (p_eql rfl rfl rfl) rfl ?_
              refine rq (u := .bool (e.Kind == 3)) rfl rfl rfl (p_pick rfl rfl) rfl ?_
              refine .done rfl ?_
              refine ac_cond rfl rfl (fun hc53 => ?_) (fun hc53 => ?_)
              · replace h := cond_t hc53 h
                refine ac_region rfl ?_
                refine rq (u := .str x18) rfl rfl rfl (p_move rfl) rfl ?_
                obtain ⟨hv23, h⟩ := chk_some h
                refine rq (u := .str (x18 ++ (⟨#[32, 97, 110, 100, 32]⟩ : ByteArray))) rfl rfl rfl (p_sadd rfl rfl rfl (of_decide_eq_true hv23)) rfl ?_
                refine rq (u := .str (x18 ++ (⟨#[32, 97, 110, 100, 32]⟩ : ByteArray))) rfl rfl rfl (p_assign rfl) rfl ?_
                refine .done rfl ?_
                refine ac_region_draw mo rfl rfl rfl ?_
                refine rq (u := .str (x18 ++ (⟨#[32, 97, 110, 100, 32]⟩ : ByteArray))) rfl rfl rfl (p_move rfl) rfl ?_
                refine rq (u := .agg (GExpr.cells v21)) rfl rfl rfl (p_load_ptr ti_33 nofun rfl rfl (.head _) (Nat.le_of_ble_eq_true rfl)) rfl ?_
                obtain ⟨v24, hv24, h⟩ := bnd_some h
                refine rq (u := .str v24) rfl rfl rfl (p_pfnL en_23 (ih_ref11_text v21 v24 hv24) rfl rfl (TVles.refl _)) rfl ?_
                refine rq (u := .ptr b3 0) rfl rfl rfl (p_field_ptr fl_33_0 rfl rfl) rfl ?_
                refine rq (u := .int .i64 v21.Kind) rfl rfl rfl (p_load_ptr ti_3 (fun _ => rfl) rfl rfl (.head _) (Nat.le_of_ble_eq_true rfl)) rfl ?_
                refine rq (u := .bool (v21.Kind == 4)) rfl rfl rfl (p_eql rfl rfl rfl) rfl ?_
                refine rq (u := .bool (v21.Kind == 4)) rfl rfl rfl (p_move rfl) rfl ?_
                refine rcase 94 rfl (fun hc25 => ?_) (fun hc25 => ?_)
                · replace h := cond_t hc25 h
                  refine rskip rfl (guard_at rfl rfl rfl rfl rfl) rfl ?_
                  refine rskip rfl (guard_at rfl rfl rfl rfl rfl) rfl ?_
                  refine rskip rfl (guard_at rfl rfl rfl rfl rfl) rfl ?_
                  refine rskip rfl (guard_at rfl rfl rfl rfl rfl) rfl ?_
                  refine rskip rfl (guard_un rfl rfl rfl rfl) rfl ?_
                  refine rskip rfl (guard_un rfl rfl rfl rfl) rfl ?_
                  refine rskip rfl (guard_un rfl rfl rfl rfl) rfl ?_
                  refine rskip rfl (guard_at rfl rfl rfl rfl rfl) rfl ?_
                  refine rq (u := .bool true) rfl rfl rfl (p_pick rfl rfl) rfl ?_
                  obtain ⟨v26, hv26, h⟩ := bnd_some h
                  refine rq (u := .str v26) rfl rfl rfl (p_pfnL en_44 (ref11_bracket_fn k v24 true v26 hv26) rfl rfl (TVles.refl _)) rfl ?_
                  obtain ⟨hv27, h⟩ := chk_some h
                  refine rq (u := .str ((x18 ++ (⟨#[32, 97, 110, 100, 32]⟩ : ByteArray)) ++ v26)) rfl rfl rfl (p_sadd rfl rfl rfl (of_decide_eq_true hv27)) rfl ?_
                  refine rq (u := .str ((x18 ++ (⟨#[32, 97, 110, 100, 32]⟩ : ByteArray)) ++ v26)) rfl rfl rfl (p_assign rfl) rfl ?_
                  refine .done rfl ?_
                  refine ac_region rfl ?_
                  refine rq (u := .int .i64 x19) rfl rfl rfl (p_move rfl) rfl ?_
                  refine rq (u := .int .i64 (IntKind.wrap .i64 (x19 + 1))) rfl rfl rfl (p_add rfl rfl rfl) rfl ?_
                  refine rq (u := .int .i64 (IntKind.wrap .i64 (x19 + 1))) rfl rfl rfl (p_assign rfl) rfl ?_
                  refine .done rfl ?_
                  exact ⟨⟨m20, ((x18 ++ (⟨#[32, 97, 110, 100, 32]⟩ : ByteArray)) ++ v26), (IntKind.wrap .i64 (x19 + 1))⟩, h, Nat.lt_succ_self _, ⟨TVle.refl _, TVle.refl _, TVle.refl _, TVle.refl _, TVle.refl _, TVle.refl _, TVle.refl _, TVle.refl _, TVle.refl _, TVle.refl _, TVle.refl _, trivial⟩, (ResLe.drop (ResLe.refl _))⟩
                · replace h := cond_f hc25 h
                  refine rq (u := .ptr b3 0) rfl (guard_at rfl rfl rfl rfl rfl) rfl (p_field_ptr fl_33_0 rfl rfl) rfl ?_
                  refine rq (u := .int .i64 v21.Kind) rfl (guard_at rfl rfl rfl rfl rfl) rfl (p_load_ptr ti_3 (fun _ => rfl) rfl rfl (.head _) (Nat.le_of_ble_eq_true rfl)) rfl ?_
                  refine rq (u := .bool (v21.Kind == 3)) rfl (guard_at rfl rfl rfl rfl rfl) rfl (p_eql rfl rfl rfl) rfl ?_
                  refine rq (u := .bool (v21.Kind == 3)) rfl (guard_at rfl rfl rfl rfl rfl) rfl (p_move rfl) rfl ?_
                  refine rcase 98 rfl (fun hc28 => ?_) (fun hc28 => ?_)
                  · replace h := cond_t hc28 h
                    refine rq (u := .ptr b1 0) rfl (guard_at rfl rfl rfl rfl rfl) rfl (p_field_ptr fl_33_0 rfl rfl) rfl ?_
                    refine rq (u := .int .i64 e.Kind) rfl (guard_at rfl rfl rfl rfl rfl) rfl (p_load_ptr ti_3 (fun _ => rfl) rfl rfl (.tail _ (.head _)) (Nat.le_of_ble_eq_true rfl)) rfl ?_
                    refine rq (u := .bool (e.Kind == 3)) rfl (guard_at rfl rfl rfl rfl rfl) rfl (p_eql rfl rfl rfl) rfl ?_
                    refine rq (u := .bool (e.Kind == 3)) rfl (guard_at rfl rfl rfl rfl rfl) rfl (p_pick rfl rfl) rfl ?_
                    refine rq (u := .bool (e.Kind == 3)) rfl rfl rfl (p_pick rfl rfl) rfl ?_
                    obtain ⟨v29, hv29, h⟩ := bnd_some h
                    refine rq (u := .str v29) rfl rfl rfl (p_pfnL en_44 (ref11_bracket_fn k v24 (e.Kind == 3) v29 hv29) rfl rfl (TVles.refl _)) rfl ?_
                    obtain ⟨hv30, h⟩ := chk_some h
                    refine rq (u := .str ((x18 ++ (⟨#[32, 97, 110, 100, 32]⟩ : ByteArray)) ++ v29)) rfl rfl rfl (p_sadd rfl rfl rfl (of_decide_eq_true hv30)) rfl ?_
                    refine rq (u := .str ((x18 ++ (⟨#[32, 97, 110, 100, 32]⟩ : ByteArray)) ++ v29)) rfl rfl rfl (p_assign rfl) rfl ?_
                    refine .done rfl ?_
                    refine ac_region rfl ?_
                    refine rq (u := .int .i64 x19) rfl rfl rfl (p_move rfl) rfl ?_
                    refine rq (u := .int .i64 (IntKind.wrap .i64 (x19 + 1))) rfl rfl rfl (p_add rfl rfl rfl) rfl ?_
                    refine rq (u := .int .i64 (IntKind.wrap .i64 (x19 + 1))) rfl rfl rfl (p_assign rfl) rfl ?_
                    refine .done rfl ?_
                    exact ⟨⟨m20, ((x18 ++ (⟨#[32, 97, 110, 100, 32]⟩ : ByteArray)) ++ v29), (IntKind.wrap .i64 (x19 + 1))⟩, h, Nat.lt_succ_self _, ⟨TVle.refl _, TVle.refl _, TVle.refl _, TVle.refl _, TVle.refl _, TVle.refl _, TVle.refl _, TVle.refl _, TVle.refl _, TVle.refl _, TVle.refl _, trivial⟩, (ResLe.drop (ResLe.refl _))⟩
                  · replace h := cond_f hc28 h
                    refine rskip rfl (guard_at rfl rfl rfl rfl rfl) rfl ?_
                    refine rskip rfl (guard_at rfl rfl rfl rfl rfl) rfl ?_
                    refine rskip rfl (guard_at rfl rfl rfl rfl rfl) rfl ?_
                    refine rq (u := .bool false) rfl (guard_at rfl rfl rfl rfl rfl) rfl (p_pick rfl rfl) rfl ?_
                    refine rq (u := .bool false) rfl rfl rfl (p_pick rfl rfl) rfl ?_
                    obtain ⟨v31, hv31, h⟩ := bnd_some h
                    refine rq (u := .str v31) rfl rfl rfl (p_pfnL en_44 (ref11_bracket_fn k v24 false v31 hv31) rfl rfl (TVles.refl _)) rfl ?_
                    obtain ⟨hv32, h⟩ := chk_some h
                    refine rq (u := .str ((x18 ++ (⟨#[32, 97, 110, 100, 32]⟩ : ByteArray)) ++ v31)) rfl rfl rfl (p_sadd rfl rfl rfl (of_decide_eq_true hv32)) rfl ?_
                    refine rq (u := .str ((x18 ++ (⟨#[32, 97, 110, 100, 32]⟩ : ByteArray)) ++ v31)) rfl rfl rfl (p_assign rfl) rfl ?_
                    refine .done rfl ?_
                    refine ac_region rfl ?_
                    refine rq (u := .int .i64 x19) rfl rfl rfl (p_move rfl) rfl ?_
                    refine rq (u := .int .i64 (IntKind.wrap .i64 (x19 + 1))) rfl rfl rfl (p_add rfl rfl rfl) rfl ?_
                    refine rq (u := .int .i64 (IntKind.wrap .i64 (x19 + 1))) rfl rfl rfl (p_assign rfl) rfl ?_
                    refine .done rfl ?_
                    exact ⟨⟨m20, ((x18 ++ (⟨#[32, 97, 110, 100, 32]⟩ : ByteArray)) ++ v31), (IntKind.wrap .i64 (x19 + 1))⟩, h, Nat.lt_succ_self _, ⟨TVle.refl _, TVle.refl _, TVle.refl _, TVle.refl _, TVle.refl _, TVle.refl _, TVle.refl _, TVle.refl _, TVle.refl _, TVle.refl _, TVle.refl _, trivial⟩, (ResLe.drop (ResLe.refl _))⟩
              · replace h := cond_f hc53 h
                refine ac_seq ?_
                refine ac_region rfl ?_
                refine rq (u := .int .i64 x19) rfl rfl rfl (p_move rfl) rfl ?_
                refine rq (u := .bool (decide (0 < x19))) rfl rfl rfl (p_gtr rfl rfl rfl) rfl ?_
                refine .done rfl ?_
                refine ac_cond rfl rfl (fun hc52 => ?_) (fun hc52 => ?_)
                · replace h := cond_t hc52 h
                  refine ac_region rfl ?_
                  refine rq (u := .str x18) rfl rfl rfl (p_move rfl) rfl ?_
                  obtain ⟨hv33, h⟩ := chk_some h
                  refine rq (u := .str (x18 ++ (⟨#[32, 111, 114, 32]⟩ : ByteArray))) rfl rfl rfl (p_sadd rfl rfl rfl (of_decide_eq_true hv33)) rfl ?_
                  refine rq (u := .str (x18 ++ (⟨#[32, 111, 114, 32]⟩ : ByteArray))) rfl rfl rfl (p_assign rfl) rfl ?_
                  refine .done rfl ?_
                  refine ac_region_draw mo rfl rfl rfl ?_
                  refine rq (u := .str (x18 ++ (⟨#[32, 111, 114, 32]⟩ : ByteArray))) rfl rfl rfl (p_move rfl) rfl ?_
                  refine rq (u := .agg (GExpr.cells v21)) rfl rfl rfl (p_load_ptr ti_33 nofun rfl rfl (.head _) (Nat.le_of_ble_eq_true rfl)) rfl ?_
                  obtain ⟨v34, hv34, h⟩ := bnd_some h
                  refine rq (u := .str v34) rfl rfl rfl (p_pfnL en_23 (ih_ref11_text v21 v34 hv34) rfl rfl (TVles.refl _)) rfl ?_
                  refine rq (u := .ptr b3 0) rfl rfl rfl (p_field_ptr fl_33_0 rfl rfl) rfl ?_
                  refine rq (u := .int .i64 v21.Kind) rfl rfl rfl (p_load_ptr ti_3 (fun _ => rfl) rfl rfl (.head _) (Nat.le_of_ble_eq_true rfl)) rfl ?_
                  refine rq (u := .bool (v21.Kind == 4)) rfl rfl rfl (p_eql rfl rfl rfl) rfl ?_
                  refine rq (u := .bool (v21.Kind == 4)) rfl rfl rfl (p_move rfl) rfl ?_
                  refine rcase 94 rfl (fun hc35 => ?_) (fun hc35 => ?_)
                  · replace h := cond_t hc35 h
                    refine rskip rfl (guard_at rfl rfl rfl rfl rfl) rfl ?_
                    refine rskip rfl (guard_at rfl rfl rfl rfl rfl) rfl ?_
                    refine rskip rfl (guard_at rfl rfl rfl rfl rfl) rfl ?_
                    refine rskip rfl (guard_at rfl rfl rfl rfl rfl) rfl ?_
                    refine rskip rfl (guard_un rfl rfl rfl rfl) rfl ?_
                    refine rskip rfl (guard_un rfl rfl rfl rfl) rfl ?_
                    refine rskip rfl (guard_un rfl rfl rfl rfl) rfl ?_
                    refine rskip rfl (guard_at rfl rfl rfl rfl rfl) rfl ?_
                    refine rq (u := .bool true) rfl rfl rfl (p_pick rfl rfl) rfl ?_
                    obtain ⟨v36, hv36, h⟩ := bnd_some h
                    refine rq (u := .str v36) rfl rfl rfl (p_pfnL en_44 (ref11_bracket_fn k v34 true v36 hv36) rfl rfl (TVles.refl _)) rfl ?_
                    obtain ⟨hv37, h⟩ := chk_some h
                    refine rq (u := .str ((x18 ++ (⟨#[32, 111, 114, 32]⟩ : ByteArray)) ++ v36)) rfl rfl rfl (p_sadd rfl rfl rfl (of_decide_eq_true hv37)) rfl ?_
                    refine rq (u := .str ((x18 ++ (⟨#[32, 111, 114, 32]⟩ : ByteArray)) ++ v36)) rfl rfl rfl (p_assign rfl) rfl ?_
                    refine .done rfl ?_
                    refine ac_region rfl ?_
                    refine rq (u := .int .i64 x19) rfl rfl rfl (p_move rfl) rfl ?_
                    refine rq (u := .int .i64 (IntKind.wrap .i64 (x19 + 1))) rfl rfl rfl (p_add rfl rfl rfl) rfl ?_
                    refine rq (u := .int .i64 (IntKind.wrap .i64 (x19 + 1))) rfl rfl rfl (p_assign rfl) rfl ?_
                    refine .done rfl ?_
                    exact ⟨⟨m20, ((x18 ++ (⟨#[32, 111, 114, 32]⟩ : ByteArray)) ++ v36), (IntKind.wrap .i64 (x19 + 1))⟩, h, Nat.lt_succ_self _, ⟨TVle.refl _, TVle.refl _, TVle.refl _, TVle.refl _, TVle.refl _, TVle.refl _, TVle.refl _, TVle.refl _, TVle.refl _, TVle.refl _, TVle.refl _, trivial⟩, (ResLe.drop (ResLe.refl _))⟩
                  · replace h := cond_f hc35 h
                    refine rq (u := .ptr b3 0) rfl (guard_at rfl rfl rfl rfl rfl) rfl (p_field_ptr fl_33_0 rfl rfl) rfl ?_
                    refine rq (u := .int .i64 v21.Kind) rfl (guard_at rfl rfl rfl rfl rfl) rfl (p_load_ptr ti_3 (fun _ => rfl) rfl rfl (.head _) (Nat.le_of_ble_eq_true rfl)) rfl ?_
                    refine rq (u := .bool (v21.Kind == 3)) rfl (guard_at rfl rfl rfl rfl rfl) rfl (p_eql rfl rfl rfl) rfl ?_
                    refine rq (u := .bool (v21.Kind == 3)) rfl (guard_at rfl rfl rfl rfl rfl) rfl (p_move rfl) rfl ?_
                    refine rcase 98 rfl (fun hc38 => ?_) (fun hc38 => ?_)
                    · replace h := cond_t hc38 h
                      refine rq (u := .ptr b1 0) rfl (guard_at rfl rfl rfl rfl rfl) rfl (p_field_ptr fl_33_0 rfl rfl) rfl ?_
                      refine rq (u := .int .i64 e.Kind) rfl (guard_at rfl rfl rfl rfl rfl) rfl (p_load_ptr ti_3 (fun _ => rfl) rfl rfl (.tail _ (.head _)) (Nat.le_of_ble_eq_true rfl)) rfl ?_
                      refine rq (u := .bool (e.Kind == 3)) rfl (guard_at rfl rfl rfl rfl rfl) rfl (p_eql rfl rfl rfl) rfl ?_
                      refine rq (u := .bool (e.Kind == 3)) rfl (guard_at rfl rfl rfl rfl rfl) rfl (p_pick rfl rfl) rfl ?_
                      refine rq (u := .bool (e.Kind == 3)) rfl rfl rfl (p_pick rfl rfl) rfl ?_
                      obtain ⟨v39, hv39, h⟩ := bnd_some h
                      refine rq (u := .str v39) rfl rfl rfl (p_pfnL en_44 (ref11_bracket_fn k v34 (e.Kind == 3) v39 hv39) rfl rfl (TVles.refl _)) rfl ?_
                      obtain ⟨hv40, h⟩ := chk_some h
                      refine rq (u := .str ((x18 ++ (⟨#[32, 111, 114, 32]⟩ : ByteArray)) ++ v39)) rfl rfl rfl (p_sadd rfl rfl rfl (of_decide_eq_true hv40)) rfl ?_
                      refine rq (u := .str ((x18 ++ (⟨#[32, 111, 114, 32]⟩ : ByteArray)) ++ v39)) rfl rfl rfl (p_assign rfl) rfl ?_
                      refine .done rfl ?_
                      refine ac_region rfl ?_
                      refine rq (u := .int .i64 x19) rfl rfl rfl (p_move rfl) rfl ?_
                      refine rq (u := .int .i64 (IntKind.wrap .i64 (x19 + 1))) rfl rfl rfl (p_add rfl rfl rfl) rfl ?_
                      refine rq (u := .int .i64 (IntKind.wrap .i64 (x19 + 1))) rfl rfl rfl (p_assign rfl) rfl ?_
                      refine .done rfl ?_
                      exact ⟨⟨m20, ((x18 ++ (⟨#[32, 111, 114, 32]⟩ : ByteArray)) ++ v39), (IntKind.wrap .i64 (x19 + 1))⟩, h, Nat.lt_succ_self _, ⟨TVle.refl _, TVle.refl _, TVle.refl _, TVle.refl _, TVle.refl _, TVle.refl _, TVle.refl _, TVle.refl _, TVle.refl _, TVle.refl _, TVle.refl _, trivial⟩, (ResLe.drop (ResLe.refl _))⟩
                    · replace h := cond_f hc38 h
                      refine rskip rfl (guard_at rfl rfl rfl rfl rfl) rfl ?_
                      refine rskip rfl (guard_at rfl rfl rfl rfl rfl) rfl ?_
                      refine rskip rfl (guard_at rfl rfl rfl rfl rfl) rfl ?_
                      refine rq (u := .bool false) rfl (guard_at rfl rfl rfl rfl rfl) rfl (p_pick rfl rfl) rfl ?_
                      refine rq (u := .bool false) rfl rfl rfl (p_pick rfl rfl) rfl ?_
                      obtain ⟨v41, hv41, h⟩ := bnd_some h
                      refine rq (u := .str v41) rfl rfl rfl (p_pfnL en_44 (ref11_bracket_fn k v34 false v41 hv41) rfl rfl (TVles.refl _)) rfl ?_
                      obtain ⟨hv42, h⟩ := chk_some h
                      refine rq (u := .str ((x18 ++ (⟨#[32, 111, 114, 32]⟩ : ByteArray)) ++ v41)) rfl rfl rfl (p_sadd rfl rfl rfl (of_decide_eq_true hv42)) rfl ?_
                      refine rq (u := .str ((x18 ++ (⟨#[32, 111, 114, 32]⟩ : ByteArray)) ++ v41)) rfl rfl rfl (p_assign rfl) rfl ?_
                      refine .done rfl ?_
                      refine ac_region rfl ?_
                      refine rq (u := .int .i64 x19) rfl rfl rfl (p_move rfl) rfl ?_
                      refine rq (u := .int .i64 (IntKind.wrap .i64 (x19 + 1))) rfl rfl rfl (p_add rfl rfl rfl) rfl ?_
                      refine rq (u := .int .i64 (IntKind.wrap .i64 (x19 + 1))) rfl rfl rfl (p_assign rfl) rfl ?_
                      refine .done rfl ?_
                      exact ⟨⟨m20, ((x18 ++ (⟨#[32, 111, 114, 32]⟩ : ByteArray)) ++ v41), (IntKind.wrap .i64 (x19 + 1))⟩, h, Nat.lt_succ_self _, ⟨TVle.refl _, TVle.refl _, TVle.refl _, TVle.refl _, TVle.refl _, TVle.refl _, TVle.refl _, TVle.refl _, TVle.refl _, TVle.refl _, TVle.refl _, trivial⟩, (ResLe.drop (ResLe.refl _))⟩
                · replace h := cond_f hc52 h
                  refine ac_skip ?_
                  refine ac_region_draw mo rfl rfl rfl ?_
                  refine rq (u := .str x18) rfl rfl rfl (p_move rfl) rfl ?_
                  refine rq (u := .agg (GExpr.cells v21)) rfl rfl rfl (p_load_ptr ti_33 nofun rfl rfl (.head _) (Nat.le_of_ble_eq_true rfl)) rfl ?_
                  obtain ⟨v43, hv43, h⟩ := bnd_some h
                  refine rq (u := .str v43) rfl rfl rfl (p_pfnL en_23 (ih_ref11_text v21 v43 hv43) rfl rfl (TVles.refl _)) rfl ?_
                  refine rq (u := .ptr b3 0) rfl rfl rfl (p_field_ptr fl_33_0 rfl rfl) rfl ?_
                  refine rq (u := .int .i64 v21.Kind) rfl rfl rfl (p_load_ptr ti_3 (fun _ => rfl) rfl rfl (.head _) (Nat.le_of_ble_eq_true rfl)) rfl ?_
                  refine rq (u := .bool (v21.Kind == 4)) rfl rfl rfl (p_eql rfl rfl rfl) rfl ?_
                  refine rq (u := .bool (v21.Kind == 4)) rfl rfl rfl (p_move rfl) rfl ?_
                  refine rcase 94 rfl (fun hc44 => ?_) (fun hc44 => ?_)
                  · replace h := cond_t hc44 h
                    refine rskip rfl (guard_at rfl rfl rfl rfl rfl) rfl ?_
                    refine rskip rfl (guard_at rfl rfl rfl rfl rfl) rfl ?_
                    refine rskip rfl (guard_at rfl rfl rfl rfl rfl) rfl ?_
                    refine rskip rfl (guard_at rfl rfl rfl rfl rfl) rfl ?_
                    refine rskip rfl (guard_un rfl rfl rfl rfl) rfl ?_
                    refine rskip rfl (guard_un rfl rfl rfl rfl) rfl ?_
                    refine rskip rfl (guard_un rfl rfl rfl rfl) rfl ?_
                    refine rskip rfl (guard_at rfl rfl rfl rfl rfl) rfl ?_
                    refine rq (u := .bool true) rfl rfl rfl (p_pick rfl rfl) rfl ?_
                    obtain ⟨v45, hv45, h⟩ := bnd_some h
                    refine rq (u := .str v45) rfl rfl rfl (p_pfnL en_44 (ref11_bracket_fn k v43 true v45 hv45) rfl rfl (TVles.refl _)) rfl ?_
                    obtain ⟨hv46, h⟩ := chk_some h
                    refine rq (u := .str (x18 ++ v45)) rfl rfl rfl (p_sadd rfl rfl rfl (of_decide_eq_true hv46)) rfl ?_
                    refine rq (u := .str (x18 ++ v45)) rfl rfl rfl (p_assign rfl) rfl ?_
                    refine .done rfl ?_
                    refine ac_region rfl ?_
                    refine rq (u := .int .i64 x19) rfl rfl rfl (p_move rfl) rfl ?_
                    refine rq (u := .int .i64 (IntKind.wrap .i64 (x19 + 1))) rfl rfl rfl (p_add rfl rfl rfl) rfl ?_
                    refine rq (u := .int .i64 (IntKind.wrap .i64 (x19 + 1))) rfl rfl rfl (p_assign rfl) rfl ?_
                    refine .done rfl ?_
                    exact ⟨⟨m20, (x18 ++ v45), (IntKind.wrap .i64 (x19 + 1))⟩, h, Nat.lt_succ_self _, ⟨TVle.refl _, TVle.refl _, TVle.refl _, TVle.refl _, TVle.refl _, TVle.refl _, TVle.refl _, TVle.refl _, TVle.refl _, TVle.refl _, TVle.refl _, trivial⟩, (ResLe.drop (ResLe.refl _))⟩
                  · replace h := cond_f hc44 h
                    refine rq (u := .ptr b3 0) rfl (guard_at rfl rfl rfl rfl rfl) rfl (p_field_ptr fl_33_0 rfl rfl) rfl ?_
                    refine rq (u := .int .i64 v21.Kind) rfl (guard_at rfl rfl rfl rfl rfl) rfl (p_load_ptr ti_3 (fun _ => rfl) rfl rfl (.head _) (Nat.le_of_ble_eq_true rfl)) rfl ?_
                    refine rq (u := .bool (v21.Kind == 3)) rfl (guard_at rfl rfl rfl rfl rfl) rfl (p_eql rfl rfl rfl) rfl ?_
                    refine rq (u := .bool (v21.Kind == 3)) rfl (guard_at rfl rfl rfl rfl rfl) rfl (p_move rfl) rfl ?_
                    refine rcase 98 rfl (fun hc47 => ?_) (fun hc47 => ?_)
                    · replace h := cond_t hc47 h
                      refine rq (u := .ptr b1 0) rfl (guard_at rfl rfl rfl rfl rfl) rfl (p_field_ptr fl_33_0 rfl rfl) rfl ?_
                      refine rq (u := .int .i64 e.Kind) rfl (guard_at rfl rfl rfl rfl rfl) rfl (p_load_ptr ti_3 (fun _ => rfl) rfl rfl (.tail _ (.head _)) (Nat.le_of_ble_eq_true rfl)) rfl ?_
                      refine rq (u := .bool (e.Kind == 3)) rfl (guard_at rfl rfl rfl rfl rfl) rfl (p_eql rfl rfl rfl) rfl ?_
                      refine rq (u := .bool (e.Kind == 3)) rfl (guard_at rfl rfl rfl rfl rfl) rfl (p_pick rfl rfl) rfl ?_
                      refine rq (u := .bool (e.Kind == 3)) rfl rfl rfl (p_pick rfl rfl) rfl ?_
                      obtain ⟨v48, hv48, h⟩ := bnd_some h
                      refine rq (u := .str v48) rfl rfl rfl (p_pfnL en_44 (ref11_bracket_fn k v43 (e.Kind == 3) v48 hv48) rfl rfl (TVles.refl _)) rfl ?_
                      obtain ⟨hv49, h⟩ := chk_some h
                      refine rq (u := .str (x18 ++ v48)) rfl rfl rfl (p_sadd rfl rfl rfl (of_decide_eq_true hv49)) rfl ?_
                      refine rq (u := .str (x18 ++ v48)) rfl rfl rfl (p_assign rfl) rfl ?_
                      refine .done rfl ?_
                      refine ac_region rfl ?_
                      refine rq (u := .int .i64 x19) rfl rfl rfl (p_move rfl) rfl ?_
                      refine rq (u := .int .i64 (IntKind.wrap .i64 (x19 + 1))) rfl rfl rfl (p_add rfl rfl rfl) rfl ?_
                      refine rq (u := .int .i64 (IntKind.wrap .i64 (x19 + 1))) rfl rfl rfl (p_assign rfl) rfl ?_
                      refine .done rfl ?_
                      exact ⟨⟨m20, (x18 ++ v48), (IntKind.wrap .i64 (x19 + 1))⟩, h, Nat.lt_succ_self _, ⟨TVle.refl _, TVle.refl _, TVle.refl _, TVle.refl _, TVle.refl _, TVle.refl _, TVle.refl _, TVle.refl _, TVle.refl _, TVle.refl _, TVle.refl _, trivial⟩, (ResLe.drop (ResLe.refl _))⟩
                    · replace h := cond_f hc47 h
                      refine rskip rfl (guard_at rfl rfl rfl rfl rfl) rfl ?_
                      refine rskip rfl (guard_at rfl rfl rfl rfl rfl) rfl ?_
                      refine rskip rfl (guard_at rfl rfl rfl rfl rfl) rfl ?_
                      refine rq (u := .bool false) rfl (guard_at rfl rfl rfl rfl rfl) rfl (p_pick rfl rfl) rfl ?_
                      refine rq (u := .bool false) rfl rfl rfl (p_pick rfl rfl) rfl ?_
                      obtain ⟨v50, hv50, h⟩ := bnd_some h
                      refine rq (u := .str v50) rfl rfl rfl (p_pfnL en_44 (ref11_bracket_fn k v43 false v50 hv50) rfl rfl (TVles.refl _)) rfl ?_
                      obtain ⟨hv51, h⟩ := chk_some h
                      refine rq (u := .str (x18 ++ v50)) rfl rfl rfl (p_sadd rfl rfl rfl (of_decide_eq_true hv51)) rfl ?_
                      refine rq (u := .str (x18 ++ v50)) rfl rfl rfl (p_assign rfl) rfl ?_
                      refine .done rfl ?_
                      refine ac_region rfl ?_
                      refine rq (u := .int .i64 x19) rfl rfl rfl (p_move rfl) rfl ?_
                      refine rq (u := .int .i64 (IntKind.wrap .i64 (x19 + 1))) rfl rfl rfl (p_add rfl rfl rfl) rfl ?_
                      refine rq (u := .int .i64 (IntKind.wrap .i64 (x19 + 1))) rfl rfl rfl (p_assign rfl) rfl ?_
                      refine .done rfl ?_
                      exact ⟨⟨m20, (x18 ++ v50), (IntKind.wrap .i64 (x19 + 1))⟩, h, Nat.lt_succ_self _, ⟨TVle.refl _, TVle.refl _, TVle.refl _, TVle.refl _, TVle.refl _, TVle.refl _, TVle.refl _, TVle.refl _, TVle.refl _, TVle.refl _, TVle.refl _, trivial⟩, (ResLe.drop (ResLe.refl _))⟩
            · replace h := cond_f hc22 h
              refine rskip rfl (guard_at rfl rfl rfl rfl rfl) rfl ?_
              refine rskip rfl (guard_at rfl rfl rfl rfl rfl) rfl ?_
              refine rskip rfl (guard_at rfl rfl rfl rfl rfl) rfl ?_
              refine rq (u := .bool false) rfl rfl rfl (p_pick rfl rfl) rfl ?_
              refine .done rfl ?_
              refine ac_condF rfl rfl ?_
              refine ac_seq ?_
              refine ac_region rfl ?_
              refine rq (u := .int .i64 x19) rfl rfl rfl (p_move rfl) rfl ?_
              refine rq (u := .bool (decide (0 < x19))) rfl rfl rfl (p_gtr rfl rfl rfl) rfl ?_
              refine .done rfl ?_
              refine ac_cond rfl rfl (fun hc73 => ?_) (fun hc73 => ?_)
              · replace h := cond_t hc73 h
                refine ac_region rfl ?_
                refine rq (u := .str x18) rfl rfl rfl (p_move rfl) rfl ?_
                obtain ⟨hv54, h⟩ := chk_some h
                refine rq (u := .str (x18 ++ (⟨#[32, 111, 114, 32]⟩ : ByteArray))) rfl rfl rfl (p_sadd rfl rfl rfl (of_decide_eq_true hv54)) rfl ?_
                refine rq (u := .str (x18 ++ (⟨#[32, 111, 114, 32]⟩ : ByteArray))) rfl rfl rfl (p_assign rfl) rfl ?_
                refine .done rfl ?_
                refine ac_region_draw mo rfl rfl rfl ?_
                refine rq (u := .str (x18 ++ (⟨#[32, 111, 114, 32]⟩ : ByteArray))) rfl rfl rfl (p_move rfl) rfl ?_
                refine rq (u := .agg (GExpr.cells v21)) rfl rfl rfl (p_load_ptr ti_33 nofun rfl rfl (.head _) (Nat.le_of_ble_eq_true rfl)) rfl ?_
                obtain ⟨v55, hv55, h⟩ := bnd_some h
                refine rq (u := .str v55) rfl rfl rfl (p_pfnL en_23 (ih_ref11_text v21 v55 hv55) rfl rfl (TVles.refl _)) rfl ?_
                refine rq (u := .ptr b3 0) rfl rfl rfl (p_field_ptr fl_33_0 rfl rfl) rfl ?_
                refine rq (u := .int .i64 v21.Kind) rfl rfl rfl (p_load_ptr ti_3 (fun _ => rfl) rfl rfl (.head _) (Nat.le_of_ble_eq_true rfl)) rfl ?_
                refine rq (u := .bool (v21.Kind == 4)) rfl rfl rfl (p_eql rfl rfl rfl) rfl ?_
                refine rq (u := .bool (v21.Kind == 4)) rfl rfl rfl (p_move rfl) rfl ?_
                refine rcase 94 rfl (fun hc56 => ?_) (fun hc56 => ?_)
                · replace h := cond_t hc56 h
                  refine rskip rfl (guard_at rfl rfl rfl rfl rfl) rfl ?_
                  refine rskip rfl (guard_at rfl rfl rfl rfl rfl) rfl ?_
                  refine rskip rfl (guard_at rfl rfl rfl rfl rfl) rfl ?_
                  refine rskip rfl (guard_at rfl rfl rfl rfl rfl) rfl ?_
                  refine rskip rfl (guard_un rfl rfl rfl rfl) rfl ?_
                  refine rskip rfl (guard_un rfl rfl rfl rfl) rfl ?_
                  refine rskip rfl (guard_un rfl rfl rfl rfl) rfl ?_
                  refine rskip rfl (guard_at rfl rfl rfl rfl rfl) rfl ?_
                  refine rq (u := .bool true) rfl rfl rfl (p_pick rfl rfl) rfl ?_
                  obtain ⟨v57, hv57, h⟩ := bnd_some h
                  refine rq (u := .str v57) rfl rfl rfl (p_pfnL en_44 (ref11_bracket_fn k v55 true v57 hv57) rfl rfl (TVles.refl _)) rfl ?_
                  obtain ⟨hv58, h⟩ := chk_some h
                  refine rq (u := .str ((x18 ++ (⟨#[32, 111, 114, 32]⟩ : ByteArray)) ++ v57)) rfl rfl rfl (p_sadd rfl rfl rfl (of_decide_eq_true hv58)) rfl ?_
                  refine rq (u := .str ((x18 ++ (⟨#[32, 111, 114, 32]⟩ : ByteArray)) ++ v57)) rfl rfl rfl (p_assign rfl) rfl ?_
                  refine .done rfl ?_
                  refine ac_region rfl ?_
                  refine rq (u := .int .i64 x19) rfl rfl rfl (p_move rfl) rfl ?_
                  refine rq (u := .int .i64 (IntKind.wrap .i64 (x19 + 1))) rfl rfl rfl (p_add rfl rfl rfl) rfl ?_
                  refine rq (u := .int .i64 (IntKind.wrap .i64 (x19 + 1))) rfl rfl rfl (p_assign rfl) rfl ?_
                  refine .done rfl ?_
                  exact ⟨⟨m20, ((x18 ++ (⟨#[32, 111, 114, 32]⟩ : ByteArray)) ++ v57), (IntKind.wrap .i64 (x19 + 1))⟩, h, Nat.lt_succ_self _, ⟨TVle.refl _, TVle.refl _, TVle.refl _, TVle.refl _, TVle.refl _, TVle.refl _, TVle.refl _, TVle.refl _, TVle.refl _, TVle.refl _, TVle.refl _, trivial⟩, (ResLe.drop (ResLe.refl _))⟩
                · replace h := cond_f hc56 h
                  refine rq (u := .ptr b3 0) rfl (guard_at rfl rfl rfl rfl rfl) rfl (p_field_ptr fl_33_0 rfl rfl) rfl ?_
                  refine rq (u := .int .i64 v21.Kind) rfl (guard_at rfl rfl rfl rfl rfl) rfl (p_load_ptr ti_3 (fun _ => rfl) rfl rfl (.head _) (Nat.le_of_ble_eq_true rfl)) rfl ?_
                  refine rq (u := .bool (v21.Kind == 3)) rfl (guard_at rfl rfl rfl rfl rfl) rfl (p_eql rfl rfl rfl) rfl ?_
                  refine rq (u := .bool (v21.Kind == 3)) rfl (guard_at rfl rfl rfl rfl rfl) rfl (p_move rfl) rfl ?_
                  refine rcase 98 rfl (fun hc59 => ?_) (fun hc59 => ?_)
                  · replace h := cond_t hc59 h
                    refine rq (u := .ptr b1 0) rfl (guard_at rfl rfl rfl rfl rfl) rfl (p_field_ptr fl_33_0 rfl rfl) rfl ?_
                    refine rq (u := .int .i64 e.Kind) rfl (guard_at rfl rfl rfl rfl rfl) rfl (p_load_ptr ti_3 (fun _ => rfl) rfl rfl (.tail _ (.head _)) (Nat.le_of_ble_eq_true rfl)) rfl ?_
                    refine rq (u := .bool (e.Kind == 3)) rfl (guard_at rfl rfl rfl rfl rfl) rfl (p_eql rfl rfl rfl) rfl ?_
                    refine rq (u := .bool (e.Kind == 3)) rfl (guard_at rfl rfl rfl rfl rfl) rfl (p_pick rfl rfl) rfl ?_
                    refine rq (u := .bool (e.Kind == 3)) rfl rfl rfl (p_pick rfl rfl) rfl ?_
                    obtain ⟨v60, hv60, h⟩ := bnd_some h
                    refine rq (u := .str v60) rfl rfl rfl (p_pfnL en_44 (ref11_bracket_fn k v55 (e.Kind == 3) v60 hv60) rfl rfl (TVles.refl _)) rfl ?_
                    obtain ⟨hv61, h⟩ := chk_some h
                    refine rq (u := .str ((x18 ++ (⟨#[32, 111, 114, 32]⟩ : ByteArray)) ++ v60)) rfl rfl rfl (p_sadd rfl rfl rfl (of_decide_eq_true hv61)) rfl ?_
                    refine rq (u := .str ((x18 ++ (⟨#[32, 111, 114, 32]⟩ : ByteArray)) ++ v60)) rfl rfl rfl (p_assign rfl) rfl ?_
                    refine .done rfl ?_
                    refine ac_region rfl ?_
                    refine rq (u := .int .i64 x19) rfl rfl rfl (p_move rfl) rfl ?_
                    refine rq (u := .int .i64 (IntKind.wrap .i64 (x19 + 1))) rfl rfl rfl (p_add rfl rfl rfl) rfl ?_
                    refine rq (u := .int .i64 (IntKind.wrap .i64 (x19 + 1))) rfl rfl rfl (p_assign rfl) rfl ?_
                    refine .done rfl ?_
                    exact ⟨⟨m20, ((x18 ++ (⟨#[32, 111, 114, 32]⟩ : ByteArray)) ++ v60), (IntKind.wrap .i64 (x19 + 1))⟩, h, Nat.lt_succ_self _, ⟨TVle.refl _, TVle.refl _, TVle.refl _, TVle.refl _, TVle.refl _, TVle.refl _, TVle.refl _, TVle.refl _, TVle.refl _, TVle.refl _, TVle.refl _, trivial⟩, (ResLe.drop (ResLe.refl _))⟩
                  · replace h := cond_f hc59 h
                    refine rskip rfl (guard_at rfl rfl rfl rfl rfl) rfl ?_
                    refine rskip rfl (guard_at rfl rfl rfl rfl rfl) rfl ?_
                    refine rskip rfl (guard_at rfl rfl rfl rfl rfl) rfl ?_
                    refine rq (u := .bool false) rfl (guard_at rfl rfl rfl rfl rfl) rfl (p_pick rfl rfl) rfl ?_
                    refine rq (u := .bool false) rfl rfl rfl (p_pick rfl rfl) rfl ?_
                    obtain ⟨v62, hv62, h⟩ := bnd_some h
                    refine rq (u := .str v62) rfl rfl rfl (p_pfnL en_44 (ref11_bracket_fn k v55 false v62 hv62) rfl rfl (TVles.refl _)) rfl ?_
                    obtain ⟨hv63, h⟩ := chk_some h
                    refine rq (u := .str ((x18 ++ (⟨#[32, 111, 114, 32]⟩ : ByteArray)) ++ v62)) rfl rfl rfl (p_sadd rfl rfl rfl (of_decide_eq_true hv63)) rfl ?_
                    refine rq (u := .str ((x18 ++ (⟨#[32, 111, 114, 32]⟩ : ByteArray)) ++ v62)) rfl rfl rfl (p_assign rfl) rfl ?_
                    refine .done rfl ?_
                    refine ac_region rfl ?_
                    refine rq (u := .int .i64 x19) rfl rfl rfl (p_move rfl) rfl ?_
                    refine rq (u := .int .i64 (IntKind.wrap .i64 (x19 + 1))) rfl rfl rfl (p_add rfl rfl rfl) rfl ?_
                    refine rq (u := .int .i64 (IntKind.wrap .i64 (x19 + 1))) rfl rfl rfl (p_assign rfl) rfl ?_
                    refine .done rfl ?_
                    exact ⟨⟨m20, ((x18 ++ (⟨#[32, 111, 114, 32]⟩ : ByteArray)) ++ v62), (IntKind.wrap .i64 (x19 + 1))⟩, h, Nat.lt_succ_self _, ⟨TVle.refl _, TVle.refl _, TVle.refl _, TVle.refl _, TVle.refl _, TVle.refl _, TVle.refl _, TVle.refl _, TVle.refl _, TVle.refl _, TVle.refl _, trivial⟩, (ResLe.drop (ResLe.refl _))⟩
              · replace h := cond_f hc73 h
                refine ac_skip ?_
                refine ac_region_draw mo rfl rfl rfl ?_
                refine rq (u := .str x18) rfl rfl rfl (p_move rfl) rfl ?_
                refine rq (u := .agg (GExpr.cells v21)) rfl rfl rfl (p_load_ptr ti_33 nofun rfl rfl (.head _) (Nat.le_of_ble_eq_true rfl)) rfl ?_
                obtain ⟨v64, hv64, h⟩ := bnd_some h
                refine rq (u := .str v64) rfl rfl rfl (p_pfnL en_23 (ih_ref11_text v21 v64 hv64) rfl rfl (TVles.refl _)) rfl ?_
                refine rq (u := .ptr b3 0) rfl rfl rfl (p_field_ptr fl_33_0 rfl rfl) rfl ?_
                refine rq (u := .int .i64 v21.Kind) rfl rfl rfl (p_load_ptr ti_3 (fun _ => rfl) rfl rfl (.head _) (Nat.le_of_ble_eq_true rfl)) rfl ?_
                refine rq (u := .bool (v21.Kind == 4)) rfl rfl rfl (p_eql rfl rfl rfl) rfl ?_
                refine rq (u := .bool (v21.Kind == 4)) rfl rfl rfl (p_move rfl) rfl ?_
                refine rcase 94 rfl (fun hc65 => ?_) (fun hc65 => ?_)
                · replace h := cond_t hc65 h
                  refine rskip rfl (guard_at rfl rfl rfl rfl rfl) rfl ?_
                  refine rskip rfl (guard_at rfl rfl rfl rfl rfl) rfl ?_
                  refine rskip rfl (guard_at rfl rfl rfl rfl rfl) rfl ?_
                  refine rskip rfl (guard_at rfl rfl rfl rfl rfl) rfl ?_
                  refine rskip rfl (guard_un rfl rfl rfl rfl) rfl ?_
                  refine rskip rfl (guard_un rfl rfl rfl rfl) rfl ?_
                  refine rskip rfl (guard_un rfl rfl rfl rfl) rfl ?_
                  refine rskip rfl (guard_at rfl rfl rfl rfl rfl) rfl ?_
                  refine rq (u := .bool true) rfl rfl rfl (p_pick rfl rfl) rfl ?_
                  obtain ⟨v66, hv66, h⟩ := bnd_some h
                  refine rq (u := .str v66) rfl rfl rfl (p_pfnL en_44 (ref11_bracket_fn k v64 true v66 hv66) rfl rfl (TVles.refl _)) rfl ?_
                  obtain ⟨hv67, h⟩ := chk_some h
                  refine rq (u := .str (x18 ++ v66)) rfl rfl rfl (p_sadd rfl rfl rfl (of_decide_eq_true hv67)) rfl ?_
                  refine rq (u := .str (x18 ++ v66)) rfl rfl rfl (p_assign rfl) rfl ?_
                  refine .done rfl ?_
                  refine ac_region rfl ?_
                  refine rq (u := .int .i64 x19) rfl rfl rfl (p_move rfl) rfl ?_
                  refine rq (u := .int .i64 (IntKind.wrap .i64 (x19 + 1))) rfl rfl rfl (p_add rfl rfl rfl) rfl ?_
                  refine rq (u := .int .i64 (IntKind.wrap .i64 (x19 + 1))) rfl rfl rfl (p_assign rfl) rfl ?_
                  refine .done rfl ?_
                  exact ⟨⟨m20, (x18 ++ v66), (IntKind.wrap .i64 (x19 + 1))⟩, h, Nat.lt_succ_self _, ⟨TVle.refl _, TVle.refl _, TVle.refl _, TVle.refl _, TVle.refl _, TVle.refl _, TVle.refl _, TVle.refl _, TVle.refl _, TVle.refl _, TVle.refl _, trivial⟩, (ResLe.drop (ResLe.refl _))⟩
                · replace h := cond_f hc65 h
                  refine rq (u := .ptr b3 0) rfl (guard_at rfl rfl rfl rfl rfl) rfl (p_field_ptr fl_33_0 rfl rfl) rfl ?_
                  refine rq (u := .int .i64 v21.Kind) rfl (guard_at rfl rfl rfl rfl rfl) rfl (p_load_ptr ti_3 (fun _ => rfl) rfl rfl (.head _) (Nat.le_of_ble_eq_true rfl)) rfl ?_
                  refine rq (u := .bool (v21.Kind == 3)) rfl (guard_at rfl rfl rfl rfl rfl) rfl (p_eql rfl rfl rfl) rfl ?_
                  refine rq (u := .bool (v21.Kind == 3)) rfl (guard_at rfl rfl rfl rfl rfl) rfl (p_move rfl) rfl ?_
                  refine rcase 98 rfl (fun hc68 => ?_) (fun hc68 => ?_)
                  · replace h := cond_t hc68 h
                    refine rq (u := .ptr b1 0) rfl (guard_at rfl rfl rfl rfl rfl) rfl (p_field_ptr fl_33_0 rfl rfl) rfl ?_
                    refine rq (u := .int .i64 e.Kind) rfl (guard_at rfl rfl rfl rfl rfl) rfl (p_load_ptr ti_3 (fun _ => rfl) rfl rfl (.tail _ (.head _)) (Nat.le_of_ble_eq_true rfl)) rfl ?_
                    refine rq (u := .bool (e.Kind == 3)) rfl (guard_at rfl rfl rfl rfl rfl) rfl (p_eql rfl rfl rfl) rfl ?_
                    refine rq (u := .bool (e.Kind == 3)) rfl (guard_at rfl rfl rfl rfl rfl) rfl (p_pick rfl rfl) rfl ?_
                    refine rq (u := .bool (e.Kind == 3)) rfl rfl rfl (p_pick rfl rfl) rfl ?_
                    obtain ⟨v69, hv69, h⟩ := bnd_some h
                    refine rq (u := .str v69) rfl rfl rfl (p_pfnL en_44 (ref11_bracket_fn k v64 (e.Kind == 3) v69 hv69) rfl rfl (TVles.refl _)) rfl ?_
                    obtain ⟨hv70, h⟩ := chk_some h
                    refine rq (u := .str (x18 ++ v69)) rfl rfl rfl (p_sadd rfl rfl rfl (of_decide_eq_true hv70)) rfl ?_
                    refine rq (u := .str (x18 ++ v69)) rfl rfl rfl (p_assign rfl) rfl ?_
                    refine .done rfl ?_
                    refine ac_region rfl ?_
                    refine rq (u := .int .i64 x19) rfl rfl rfl (p_move rfl) rfl ?_
                    refine rq (u := .int .i64 (IntKind.wrap .i64 (x19 + 1))) rfl rfl rfl (p_add rfl rfl rfl) rfl ?_
                    refine rq (u := .int .i64 (IntKind.wrap .i64 (x19 + 1))) rfl rfl rfl (p_assign rfl) rfl ?_
                    refine .done rfl ?_
                    exact ⟨⟨m20, (x18 ++ v69), (IntKind.wrap .i64 (x19 + 1))⟩, h, Nat.lt_succ_self _, ⟨TVle.refl _, TVle.refl _, TVle.refl _, TVle.refl _, TVle.refl _, TVle.refl _, TVle.refl _, TVle.refl _, TVle.refl _, TVle.refl _, TVle.refl _, trivial⟩, (ResLe.drop (ResLe.refl _))⟩
                  · replace h := cond_f hc68 h
                    refine rskip rfl (guard_at rfl rfl rfl rfl rfl) rfl ?_
                    refine rskip rfl (guard_at rfl rfl rfl rfl rfl) rfl ?_
                    refine rskip rfl (guard_at rfl rfl rfl rfl rfl) rfl ?_
                    refine rq (u := .bool false) rfl (guard_at rfl rfl rfl rfl rfl) rfl (p_pick rfl rfl) rfl ?_
                    refine rq (u := .bool false) rfl rfl rfl (p_pick rfl rfl) rfl ?_
                    obtain ⟨v71, hv71, h⟩ := bnd_some h
                    refine rq (u := .str v71) rfl rfl rfl (p_pfnL en_44 (ref11_bracket_fn k v64 false v71 hv71) rfl rfl (TVles.refl _)) rfl ?_
                    obtain ⟨hv72, h⟩ := chk_some h
                    refine rq (u := .str (x18 ++ v71)) rfl rfl rfl (p_sadd rfl rfl rfl (of_decide_eq_true hv72)) rfl ?_
                    refine rq (u := .str (x18 ++ v71)) rfl rfl rfl (p_assign rfl) rfl ?_
                    refine .done rfl ?_
                    refine ac_region rfl ?_
                    refine rq (u := .int .i64 x19) rfl rfl rfl (p_move rfl) rfl ?_
                    refine rq (u := .int .i64 (IntKind.wrap .i64 (x19 + 1))) rfl rfl rfl (p_add rfl rfl rfl) rfl ?_
                    refine rq (u := .int .i64 (IntKind.wrap .i64 (x19 + 1))) rfl rfl rfl (p_assign rfl) rfl ?_
                    refine .done rfl ?_
                    exact ⟨⟨m20, (x18 ++ v71), (IntKind.wrap .i64 (x19 + 1))⟩, h, Nat.lt_succ_self _, ⟨TVle.refl _, TVle.refl _, TVle.refl _, TVle.refl _, TVle.refl _, TVle.refl _, TVle.refl _, TVle.refl _, TVle.refl _, TVle.refl _, TVle.refl _, trivial⟩, (ResLe.drop (ResLe.refl _))⟩
          · replace h := cond_f hc74 h
            refine ac_exit ?_
            refine ac_seq ?_
            refine ac_region rfl ?_
            refine rq (u := .str x18) rfl rfl rfl (p_move rfl) rfl ?_
            refine rq (u := .str x18) rfl rfl rfl (p_assign rfl) rfl ?_
            refine .done rfl ?_
            refine ac_ret ?_
            show Fin _ _ _ _ _ _ _
            exact fin_ret (Nat.le_of_ble_eq_true rfl) rfl (by obtain rfl := Option.some.inj h; rfl)
end Go.Proofs.YtdkiijhmmmfciaaDoor
