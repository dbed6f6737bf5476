/- The code computes the functions. Printed by tr.py. -/
import Derived.Test.YtdkiijhmmmfciaaDoorG0
import Derived.Test.YtdkiijhmmmfciaaDoorG1
import Derived.Test.YtdkiijhmmmfciaaDoorH8
set_option linter.unusedVariables false
set_option linter.unusedSimpArgs false
namespace Go.Proofs.YtdkiijhmmmfciaaDoor
open Go
set_option maxRecDepth 20000 in
set_option maxHeartbeats 4000000 in
theorem tree_Rules_fn : ∀ k : Nat, ∀ (a_0 : List GRule) (b_1 : List GRule) (r : Bool) (h : tree_Rules k a_0 b_1 = some r), PFn Tryd.prog 14 [.slice .ro 11 (a_0.map GRule.enc), .slice .ro 11 (b_1.map GRule.enc)] (.bool r) := by
  intro k
  intro a_0 b_1 r h
  rw [tree_Rules] at h
  refine AFn.of Tryd.func14 rfl (Nat.le_of_ble_eq_true rfl) ?_
  refine ac_seq ?_
  refine ac_region rfl ?_
  refine rq (u := .bool false) rfl rfl rfl (p_assign rfl) rfl ?_
  refine .done rfl ?_
  refine ac_seq ?_
  refine ac_region rfl ?_
  refine rq (u := .slice .ro 11 (a_0.map GRule.enc)) rfl rfl rfl (p_move rfl) rfl ?_
  refine rq (u := .slice .ro 11 (b_1.map GRule.enc)) rfl rfl rfl (p_move rfl) rfl ?_
  obtain ⟨v1, hv1, h⟩ := bnd_some h
  refine rq (u := .bool v1) rfl rfl rfl (p_callL en_25 (slices_EqualFunc_Rule_fn k a_0 b_1 (tree_Rules_1 k) 26 [] [] [] en_26 (fun a1 a2 r' h' => PFn.at (tree_Rules_1_fn k a1 a2 r' h') []) v1 hv1) rfl rfl (TVles.refl _) (List.Perm.refl _)) rfl ?_
  refine rq (u := .bool v1) rfl rfl rfl (p_assign rfl) rfl ?_
  refine .done rfl ?_
  refine ac_ret ?_
  show Fin _ _ _ _ _ _ _
  exact fin_ret (Nat.le_of_ble_eq_true rfl) rfl (by obtain rfl := Option.some.inj h; rfl)

set_option maxRecDepth 20000 in
set_option maxHeartbeats 4000000 in
theorem law11_TreeTexts_fn : ∀ k : Nat, ∀ (a_0 : List GRule) (b_1 : List GRule) (r : Bool) (h : law11_TreeTexts k a_0 b_1 = some r), PFn Tryd.prog 5 [.slice .ro 11 (a_0.map GRule.enc), .slice .ro 11 (b_1.map GRule.enc)] (.bool r) := by
  intro k
  intro a_0 b_1 r h
  rw [law11_TreeTexts] at h
  refine AFn.of Tryd.func5 rfl (Nat.le_of_ble_eq_true rfl) ?_
  refine ac_seq ?_
  refine ac_region rfl ?_
  refine rq (u := .bool false) rfl rfl rfl (p_assign rfl) rfl ?_
  refine .done rfl ?_
  refine ac_seq ?_
  refine ac_seq ?_
  refine ac_region rfl ?_
  refine rq (u := .slice .ro 11 (a_0.map GRule.enc)) rfl rfl rfl (p_move rfl) rfl ?_
  obtain ⟨v1, hv1, h⟩ := bnd_some h
  refine rq (u := .bool v1) rfl rfl rfl (p_pfnL en_6 (ref11_Few_fn k a_0 6 v1 hv1) rfl rfl (TVles.refl _)) rfl ?_
  refine rq (u := .bool (!v1)) rfl rfl rfl (p_not rfl rfl) rfl ?_
  refine rq (u := .bool (!v1)) rfl rfl rfl (p_move rfl) rfl ?_
  refine rcase 12 rfl (fun hc2 => ?_) (fun hc2 => ?_)
  · replace h := cond_t hc2 h
    refine rskip rfl (guard_at rfl rfl rfl rfl rfl) rfl ?_
    refine rskip rfl (guard_at rfl rfl rfl rfl rfl) rfl ?_
    refine rskip rfl (guard_at rfl rfl rfl rfl rfl) rfl ?_
    refine rq (u := .bool true) rfl rfl rfl (p_pick rfl rfl) rfl ?_
    refine .done rfl ?_
    refine ac_condT rfl rfl ?_
    refine ac_seq ?_
    refine ac_region rfl ?_
    obtain ⟨v3, hv3, h⟩ := bnd_some h
    refine rq (u := .bool v3) rfl rfl rfl (p_pfnL en_7 (law11_awake_fn k v3 hv3) rfl rfl (TVles.refl _)) rfl ?_
    refine rq (u := .bool v3) rfl rfl rfl (p_assign rfl) rfl ?_
    refine .done rfl ?_
    refine ac_ret ?_
    show Fin _ _ _ _ _ _ _
    exact fin_ret (Nat.le_of_ble_eq_true rfl) rfl (by obtain rfl := Option.some.inj h; rfl)
  · replace h := cond_f hc2 h
    refine rq (u := .slice .ro 11 (b_1.map GRule.enc)) rfl (guard_at rfl rfl rfl rfl rfl) rfl (p_move rfl) rfl ?_
    obtain ⟨v4, hv4, h⟩ := bnd_some h
    refine rq (u := .bool v4) rfl (guard_at rfl rfl rfl rfl rfl) rfl (p_pfnL en_6 (ref11_Few_fn k b_1 6 v4 hv4) rfl rfl (TVles.refl _)) rfl ?_
    refine rq (u := .bool (!v4)) rfl (guard_at rfl rfl rfl rfl rfl) rfl (p_not rfl rfl) rfl ?_
    refine rq (u := .bool (!v4)) rfl rfl rfl (p_pick rfl rfl) rfl ?_
    refine .done rfl ?_
    refine ac_cond rfl rfl (fun hc14 => ?_) (fun hc14 => ?_)
    · replace h := cond_t hc14 h
      refine ac_seq ?_
      refine ac_region rfl ?_
      obtain ⟨v5, hv5, h⟩ := bnd_some h
      refine rq (u := .bool v5) rfl rfl rfl (p_pfnL en_7 (law11_awake_fn k v5 hv5) rfl rfl (TVles.refl _)) rfl ?_
      refine rq (u := .bool v5) rfl rfl rfl (p_assign rfl) rfl ?_
      refine .done rfl ?_
      refine ac_ret ?_
      show Fin _ _ _ _ _ _ _
      exact fin_ret (Nat.le_of_ble_eq_true rfl) rfl (by obtain rfl := Option.some.inj h; rfl)
    · replace h := cond_f hc14 h
      refine ac_skip ?_
      refine ac_seq ?_
      refine ac_region rfl ?_
      refine rq (u := .slice .ro 11 (a_0.map GRule.enc)) rfl rfl rfl (p_move rfl) rfl ?_
      obtain ⟨v6, hv6, h⟩ := bnd_some h
      refine rq (u := .tuple [.str v6.1, .bool v6.2]) rfl rfl rfl (p_pfnL en_8 (tree_Text_fn k a_0 v6 hv6) rfl rfl (TVles.refl _)) rfl ?_
      refine rq (u := .tuple [.str v6.1, .bool v6.2]) rfl rfl rfl (p_move rfl) rfl ?_
      refine rq (u := .str v6.1) rfl rfl rfl (p_extract rfl rfl rfl) rfl ?_
      refine rq (u := .bool v6.2) rfl rfl rfl (p_extract rfl rfl rfl) rfl ?_
      refine rq (u := .str v6.1) rfl rfl rfl (p_assign rfl) rfl ?_
      refine rq (u := .bool v6.2) rfl rfl rfl (p_assign rfl) rfl ?_
      refine .done rfl ?_
      refine ac_seq ?_
      refine ac_region rfl ?_
      refine rq (u := .slice .ro 11 (a_0.map GRule.enc)) rfl rfl rfl (p_move rfl) rfl ?_
      obtain ⟨v7, hv7, h⟩ := bnd_some h
      refine rq (u := .tuple [.str v7.1, .bool v7.2]) rfl rfl rfl (p_pfnL en_13 (ref11_Text_fn k a_0 v7 hv7) rfl rfl (TVles.refl _)) rfl ?_
      refine rq (u := .tuple [.str v7.1, .bool v7.2]) rfl rfl rfl (p_move rfl) rfl ?_
      refine rq (u := .str v7.1) rfl rfl rfl (p_extract rfl rfl rfl) rfl ?_
      refine rq (u := .bool v7.2) rfl rfl rfl (p_extract rfl rfl rfl) rfl ?_
      refine rq (u := .str v7.1) rfl rfl rfl (p_assign rfl) rfl ?_
      refine rq (u := .bool v7.2) rfl rfl rfl (p_assign rfl) rfl ?_
      refine .done rfl ?_
      refine ac_seq ?_
      refine ac_region rfl ?_
      obtain ⟨v8, hv8, h⟩ := bnd_some h
      refine rq (u := .bool v8) rfl rfl rfl (p_pfnL en_7 (law11_awake_fn k v8 hv8) rfl rfl (TVles.refl _)) rfl ?_
      refine rq (u := .bool v8) rfl rfl rfl (p_move rfl) rfl ?_
      refine rcase 29 rfl (fun hc9 => ?_) (fun hc9 => ?_)
      · replace h := cond_t hc9 h
        refine rq (u := .str v6.1) rfl (guard_at rfl rfl rfl rfl rfl) rfl (p_move rfl) rfl ?_
        refine rq (u := .str v7.1) rfl (guard_at rfl rfl rfl rfl rfl) rfl (p_move rfl) rfl ?_
        refine rq (u := .bool (v6.1.toList == v7.1.toList)) rfl (guard_at rfl rfl rfl rfl rfl) rfl (p_seql rfl rfl rfl) rfl ?_
        refine rq (u := .bool (v6.1.toList == v7.1.toList)) rfl rfl rfl (p_pick rfl rfl) rfl ?_
        refine rq (u := .bool (v6.1.toList == v7.1.toList)) rfl rfl rfl (p_move rfl) rfl ?_
        refine rcase 34 rfl (fun hc10 => ?_) (fun hc10 => ?_)
        · replace h := cond_t hc10 h
          refine rq (u := .bool v6.2) rfl (guard_at rfl rfl rfl rfl rfl) rfl (p_move rfl) rfl ?_
          refine rq (u := .bool v7.2) rfl (guard_at rfl rfl rfl rfl rfl) rfl (p_move rfl) rfl ?_
          refine rq (u := .bool (v6.2 == v7.2)) rfl (guard_at rfl rfl rfl rfl rfl) rfl (p_beql ub_4 rfl rfl rfl) rfl ?_
          refine rq (u := .bool (v6.2 == v7.2)) rfl rfl rfl (p_pick rfl rfl) rfl ?_
          refine rq (u := .bool (v6.2 == v7.2)) rfl rfl rfl (p_move rfl) rfl ?_
          refine rcase 39 rfl (fun hc11 => ?_) (fun hc11 => ?_)
          · replace h := cond_t hc11 h
            refine rq (u := .slice .ro 11 (a_0.map GRule.enc)) rfl (guard_at rfl rfl rfl rfl rfl) rfl (p_move rfl) rfl ?_
            refine rq (u := .slice .ro 11 (b_1.map GRule.enc)) rfl (guard_at rfl rfl rfl rfl rfl) rfl (p_move rfl) rfl ?_
            obtain ⟨v12, hv12, h⟩ := bnd_some h
            refine rq (u := .bool v12) rfl (guard_at rfl rfl rfl rfl rfl) rfl (p_pfnL en_14 (tree_Rules_fn k a_0 b_1 v12 hv12) rfl rfl (TVles.refl _)) rfl ?_
            refine rq (u := .slice .ro 11 (a_0.map GRule.enc)) rfl (guard_at rfl rfl rfl rfl rfl) rfl (p_move rfl) rfl ?_
            refine rq (u := .slice .ro 11 (b_1.map GRule.enc)) rfl (guard_at rfl rfl rfl rfl rfl) rfl (p_move rfl) rfl ?_
            obtain ⟨v13, hv13, h⟩ := bnd_some h
            refine rq (u := .bool v13) rfl (guard_at rfl rfl rfl rfl rfl) rfl (p_pfnL en_9 (ref11_Rules_fn k a_0 b_1 v13 hv13) rfl rfl (TVles.refl _)) rfl ?_
            refine rq (u := .bool (v12 == v13)) rfl (guard_at rfl rfl rfl rfl rfl) rfl (p_beql ub_4 rfl rfl rfl) rfl ?_
            refine rq (u := .bool (v12 == v13)) rfl rfl rfl (p_pick rfl rfl) rfl ?_
            refine rq (u := .bool (v12 == v13)) rfl rfl rfl (p_assign rfl) rfl ?_
            refine .done rfl ?_
            refine ac_ret ?_
            show Fin _ _ _ _ _ _ _
            exact fin_ret (Nat.le_of_ble_eq_true rfl) rfl (by obtain rfl := Option.some.inj h; rfl)
          · replace h := cond_f hc11 h
            refine rskip rfl (guard_at rfl rfl rfl rfl rfl) rfl ?_
            refine rskip rfl (guard_at rfl rfl rfl rfl rfl) rfl ?_
            refine rskip rfl (guard_at rfl rfl rfl rfl rfl) rfl ?_
            refine rskip rfl (guard_at rfl rfl rfl rfl rfl) rfl ?_
            refine rskip rfl (guard_at rfl rfl rfl rfl rfl) rfl ?_
            refine rskip rfl (guard_at rfl rfl rfl rfl rfl) rfl ?_
            refine rskip rfl (guard_at rfl rfl rfl rfl rfl) rfl ?_
            refine rq (u := .bool false) rfl rfl rfl (p_pick rfl rfl) rfl ?_
            refine rq (u := .bool false) rfl rfl rfl (p_assign rfl) rfl ?_
            refine .done rfl ?_
            refine ac_ret ?_
            show Fin _ _ _ _ _ _ _
            exact fin_ret (Nat.le_of_ble_eq_true rfl) rfl (by obtain rfl := Option.some.inj h; rfl)
        · replace h := cond_f hc10 h
          refine rskip rfl (guard_at rfl rfl rfl rfl rfl) rfl ?_
          refine rskip rfl (guard_at rfl rfl rfl rfl rfl) rfl ?_
          refine rskip rfl (guard_at rfl rfl rfl rfl rfl) rfl ?_
          refine rq (u := .bool false) rfl rfl rfl (p_pick rfl rfl) rfl ?_
          refine rq (u := .bool false) rfl rfl rfl (p_move rfl) rfl ?_
          refine rskip rfl (guard_at rfl rfl rfl rfl rfl) rfl ?_
          refine rskip rfl (guard_at rfl rfl rfl rfl rfl) rfl ?_
          refine rskip rfl (guard_at rfl rfl rfl rfl rfl) rfl ?_
          refine rskip rfl (guard_at rfl rfl rfl rfl rfl) rfl ?_
          refine rskip rfl (guard_at rfl rfl rfl rfl rfl) rfl ?_
          refine rskip rfl (guard_at rfl rfl rfl rfl rfl) rfl ?_
          refine rskip rfl (guard_at rfl rfl rfl rfl rfl) rfl ?_
          refine rq (u := .bool false) rfl rfl rfl (p_pick rfl rfl) rfl ?_
          refine rq (u := .bool false) rfl rfl rfl (p_assign rfl) rfl ?_
          refine .done rfl ?_
          refine ac_ret ?_
          show Fin _ _ _ _ _ _ _
          exact fin_ret (Nat.le_of_ble_eq_true rfl) rfl (by obtain rfl := Option.some.inj h; rfl)
      · replace h := cond_f hc9 h
        refine rskip rfl (guard_at rfl rfl rfl rfl rfl) rfl ?_
        refine rskip rfl (guard_at rfl rfl rfl rfl rfl) rfl ?_
        refine rskip rfl (guard_at rfl rfl rfl rfl rfl) rfl ?_
        refine rq (u := .bool false) rfl rfl rfl (p_pick rfl rfl) rfl ?_
        refine rq (u := .bool false) rfl rfl rfl (p_move rfl) rfl ?_
        refine rskip rfl (guard_at rfl rfl rfl rfl rfl) rfl ?_
        refine rskip rfl (guard_at rfl rfl rfl rfl rfl) rfl ?_
        refine rskip rfl (guard_at rfl rfl rfl rfl rfl) rfl ?_
        refine rq (u := .bool false) rfl rfl rfl (p_pick rfl rfl) rfl ?_
        refine rq (u := .bool false) rfl rfl rfl (p_move rfl) rfl ?_
        refine rskip rfl (guard_at rfl rfl rfl rfl rfl) rfl ?_
        refine rskip rfl (guard_at rfl rfl rfl rfl rfl) rfl ?_
        refine rskip rfl (guard_at rfl rfl rfl rfl rfl) rfl ?_
        refine rskip rfl (guard_at rfl rfl rfl rfl rfl) rfl ?_
        refine rskip rfl (guard_at rfl rfl rfl rfl rfl) rfl ?_
        refine rskip rfl (guard_at rfl rfl rfl rfl rfl) rfl ?_
        refine rskip rfl (guard_at rfl rfl rfl rfl rfl) rfl ?_
        refine rq (u := .bool false) rfl rfl rfl (p_pick rfl rfl) rfl ?_
        refine rq (u := .bool false) rfl rfl rfl (p_assign rfl) rfl ?_
        refine .done rfl ?_
        refine ac_ret ?_
        show Fin _ _ _ _ _ _ _
        exact fin_ret (Nat.le_of_ble_eq_true rfl) rfl (by obtain rfl := Option.some.inj h; rfl)

set_option maxRecDepth 20000 in
set_option maxHeartbeats 4000000 in
theorem math_Copysign_fn : ∀ k : Nat, ∀ (f : Fl) (sign : Fl) (r : Fl) (h : math_Copysign k f sign = some r), PFn Tryd.prog 74 [encF f, encF sign] (encF r) := by
  intro k
  intro f sign r h
  rw [math_Copysign] at h
  refine AFn.of Tryd.func74 rfl (Nat.le_of_ble_eq_true rfl) ?_
  refine ac_seq ?_
  refine ac_region rfl ?_
  refine rq (u := encF (some 0)) rfl rfl rfl (p_assign rfl) rfl ?_
  refine .done rfl ?_
  refine ac_seq ?_
  refine ac_region rfl ?_
  refine rq (u := encF f) rfl rfl rfl (p_move rfl) rfl ?_
  obtain ⟨v1, hv1, h⟩ := bnd_some h
  refine rq (u := .int .u64 v1) rfl rfl rfl (p_bits hv1 ex_49 rfl rfl rfl) rfl ?_
  refine rq (u := .int .u64 (bitsOf .andNot .u64 v1 9223372036854775808)) rfl rfl rfl (p_andNot rfl rfl rfl) rfl ?_
  refine rq (u := encF sign) rfl rfl rfl (p_move rfl) rfl ?_
  obtain ⟨v2, hv2, h⟩ := bnd_some h
  refine rq (u := .int .u64 v2) rfl rfl rfl (p_bits hv2 ex_49 rfl rfl rfl) rfl ?_
  refine rq (u := .int .u64 (bitsOf .and .u64 v2 9223372036854775808)) rfl rfl rfl (p_and rfl rfl rfl) rfl ?_
  refine rq (u := .int .u64 (bitsOf .or .u64 (bitsOf .andNot .u64 v1 9223372036854775808) (bitsOf .and .u64 v2 9223372036854775808))) rfl rfl rfl (p_or rfl rfl rfl) rfl ?_
  refine rq (u := encF (some (Int.toNat (bitsOf .or .u64 (bitsOf .andNot .u64 v1 9223372036854775808) (bitsOf .and .u64 v2 9223372036854775808))))) rfl rfl rfl (p_frombits ex_70 rfl rfl rfl) rfl ?_
  refine rq (u := encF (some (Int.toNat (bitsOf .or .u64 (bitsOf .andNot .u64 v1 9223372036854775808) (bitsOf .and .u64 v2 9223372036854775808))))) rfl rfl rfl (p_assign rfl) rfl ?_
  refine .done rfl ?_
  refine ac_ret ?_
  show Fin _ _ _ _ _ _ _
  exact fin_ret (Nat.le_of_ble_eq_true rfl) rfl (by obtain rfl := Option.some.inj h; rfl)

set_option maxRecDepth 20000 in
set_option maxHeartbeats 4000000 in
theorem math_trunc_fn : ∀ k : Nat, ∀ (x_0 : Fl) (r : Fl) (h : math_trunc k x_0 = some r), PFn Tryd.prog 72 [encF x_0] (encF r) := by
  intro k
  intro x_0 r h
  rw [math_trunc] at h
  refine AFn.of Tryd.func72 rfl (Nat.le_of_ble_eq_true rfl) ?_
  refine ac_seq ?_
  refine ac_region rfl ?_
  refine rq (u := encF (some 0)) rfl rfl rfl (p_assign rfl) rfl ?_
  refine .done rfl ?_
  refine ac_seq ?_
  refine ac_seq ?_
  refine ac_region rfl ?_
  refine rq (u := encF x_0) rfl rfl rfl (p_move rfl) rfl ?_
  obtain ⟨v1, hv1, h⟩ := bnd_some h
  refine rq (u := encF v1) rfl rfl rfl (p_pfnL en_62 (math_Abs_fn k x_0 v1 hv1) rfl rfl (TVles.refl _)) rfl ?_
  refine rq (u := .bool (Fl.lt v1 (some 4607182418800017408))) rfl rfl rfl (p_flt rfl rfl rfl) rfl ?_
  refine .done rfl ?_
  refine ac_cond rfl rfl (fun hc6 => ?_) (fun hc6 => ?_)
  · replace h := cond_t hc6 h
    refine ac_seq ?_
    refine ac_region rfl ?_
    refine rq (u := encF x_0) rfl rfl rfl (p_move rfl) rfl ?_
    obtain ⟨v2, hv2, h⟩ := bnd_some h
    refine rq (u := encF v2) rfl rfl rfl (p_pfnL en_74 (math_Copysign_fn k (some 0) x_0 v2 hv2) rfl rfl (TVles.refl _)) rfl ?_
    refine rq (u := encF v2) rfl rfl rfl (p_assign rfl) rfl ?_
    refine .done rfl ?_
    refine ac_ret ?_
    show Fin _ _ _ _ _ _ _
    exact fin_ret (Nat.le_of_ble_eq_true rfl) rfl (by obtain rfl := Option.some.inj h; rfl)
  · replace h := cond_f hc6 h
    refine ac_skip ?_
    refine ac_seq ?_
    refine ac_region rfl ?_
    refine rq (u := encF x_0) rfl rfl rfl (p_move rfl) rfl ?_
    obtain ⟨v3, hv3, h⟩ := bnd_some h
    refine rq (u := .int .u64 v3) rfl rfl rfl (p_bits hv3 ex_49 rfl rfl rfl) rfl ?_
    refine rq (u := .int .u64 v3) rfl rfl rfl (p_assign rfl) rfl ?_
    refine .done rfl ?_
    refine ac_seq ?_
    refine ac_region rfl ?_
    refine rq (u := .int .u64 v3) rfl rfl rfl (p_move rfl) rfl ?_
    refine rq (u := .int .u64 (Int.fdiv v3 (2 ^ (min (Int.toNat 52) (IntKind.bits .u64))))) rfl rfl rfl (p_shr rfl rfl rfl (by decide)) rfl ?_
    refine rq (u := .int .u64 (bitsOf .and .u64 (Int.fdiv v3 (2 ^ (min (Int.toNat 52) (IntKind.bits .u64)))) 2047)) rfl rfl rfl (p_and rfl rfl rfl) rfl ?_
    refine rq (u := .int .u64 (IntKind.wrap .u64 ((bitsOf .and .u64 (Int.fdiv v3 (2 ^ (min (Int.toNat 52) (IntKind.bits .u64)))) 2047) - 1023))) rfl rfl rfl (p_sub rfl rfl rfl) rfl ?_
    refine rq (u := .int .u64 (IntKind.wrap .u64 ((bitsOf .and .u64 (Int.fdiv v3 (2 ^ (min (Int.toNat 52) (IntKind.bits .u64)))) 2047) - 1023))) rfl rfl rfl (p_assign rfl) rfl ?_
    refine .done rfl ?_
    refine ac_seq ?_
    refine ac_seq ?_
    refine ac_region rfl ?_
    refine rq (u := .int .u64 (IntKind.wrap .u64 ((bitsOf .and .u64 (Int.fdiv v3 (2 ^ (min (Int.toNat 52) (IntKind.bits .u64)))) 2047) - 1023))) rfl rfl rfl (p_move rfl) rfl ?_
    refine rq (u := .bool (decide ((IntKind.wrap .u64 ((bitsOf .and .u64 (Int.fdiv v3 (2 ^ (min (Int.toNat 52) (IntKind.bits .u64)))) 2047) - 1023)) < 52))) rfl rfl rfl (p_lss rfl rfl rfl) rfl ?_
    refine .done rfl ?_
    refine ac_cond rfl rfl (fun hc5 => ?_) (fun hc5 => ?_)
    · replace h := cond_t hc5 h
      refine ac_region rfl ?_
      refine rq (u := .int .u64 v3) rfl rfl rfl (p_move rfl) rfl ?_
      refine rq (u := .int .u64 (IntKind.wrap .u64 ((bitsOf .and .u64 (Int.fdiv v3 (2 ^ (min (Int.toNat 52) (IntKind.bits .u64)))) 2047) - 1023))) rfl rfl rfl (p_move rfl) rfl ?_
      refine rq (u := .int .u64 (IntKind.wrap .u64 (52 - (IntKind.wrap .u64 ((bitsOf .and .u64 (Int.fdiv v3 (2 ^ (min (Int.toNat 52) (IntKind.bits .u64)))) 2047) - 1023))))) rfl rfl rfl (p_sub rfl rfl rfl) rfl ?_
      obtain ⟨hv4, h⟩ := chk_some h
      refine rq (u := .int .u64 (IntKind.wrap .u64 (1 * 2 ^ (min (Int.toNat (IntKind.wrap .u64 (52 - (IntKind.wrap .u64 ((bitsOf .and .u64 (Int.fdiv v3 (2 ^ (min (Int.toNat 52) (IntKind.bits .u64)))) 2047) - 1023))))) (IntKind.bits .u64))))) rfl rfl rfl (p_shl rfl rfl rfl (of_decide_eq_true hv4)) rfl ?_
      refine rq (u := .int .u64 (IntKind.wrap .u64 ((IntKind.wrap .u64 (1 * 2 ^ (min (Int.toNat (IntKind.wrap .u64 (52 - (IntKind.wrap .u64 ((bitsOf .and .u64 (Int.fdiv v3 (2 ^ (min (Int.toNat 52) (IntKind.bits .u64)))) 2047) - 1023))))) (IntKind.bits .u64)))) - 1))) rfl rfl rfl (p_sub rfl rfl rfl) rfl ?_
      refine rq (u := .int .u64 (bitsOf .andNot .u64 v3 (IntKind.wrap .u64 ((IntKind.wrap .u64 (1 * 2 ^ (min (Int.toNat (IntKind.wrap .u64 (52 - (IntKind.wrap .u64 ((bitsOf .and .u64 (Int.fdiv v3 (2 ^ (min (Int.toNat 52) (IntKind.bits .u64)))) 2047) - 1023))))) (IntKind.bits .u64)))) - 1)))) rfl rfl rfl (p_andNot rfl rfl rfl) rfl ?_
      refine rq (u := .int .u64 (bitsOf .andNot .u64 v3 (IntKind.wrap .u64 ((IntKind.wrap .u64 (1 * 2 ^ (min (Int.toNat (IntKind.wrap .u64 (52 - (IntKind.wrap .u64 ((bitsOf .and .u64 (Int.fdiv v3 (2 ^ (min (Int.toNat 52) (IntKind.bits .u64)))) 2047) - 1023))))) (IntKind.bits .u64)))) - 1)))) rfl rfl rfl (p_assign rfl) rfl ?_
      refine .done rfl ?_
      refine ac_seq ?_
      refine ac_region rfl ?_
      refine rq (u := .int .u64 (bitsOf .andNot .u64 v3 (IntKind.wrap .u64 ((IntKind.wrap .u64 (1 * 2 ^ (min (Int.toNat (IntKind.wrap .u64 (52 - (IntKind.wrap .u64 ((bitsOf .and .u64 (Int.fdiv v3 (2 ^ (min (Int.toNat 52) (IntKind.bits .u64)))) 2047) - 1023))))) (IntKind.bits .u64)))) - 1)))) rfl rfl rfl (p_move rfl) rfl ?_
      refine rq (u := encF (some (Int.toNat (bitsOf .andNot .u64 v3 (IntKind.wrap .u64 ((IntKind.wrap .u64 (1 * 2 ^ (min (Int.toNat (IntKind.wrap .u64 (52 - (IntKind.wrap .u64 ((bitsOf .and .u64 (Int.fdiv v3 (2 ^ (min (Int.toNat 52) (IntKind.bits .u64)))) 2047) - 1023))))) (IntKind.bits .u64)))) - 1)))))) rfl rfl rfl (p_frombits ex_70 rfl rfl rfl) rfl ?_
      refine rq (u := encF (some (Int.toNat (bitsOf .andNot .u64 v3 (IntKind.wrap .u64 ((IntKind.wrap .u64 (1 * 2 ^ (min (Int.toNat (IntKind.wrap .u64 (52 - (IntKind.wrap .u64 ((bitsOf .and .u64 (Int.fdiv v3 (2 ^ (min (Int.toNat 52) (IntKind.bits .u64)))) 2047) - 1023))))) (IntKind.bits .u64)))) - 1)))))) rfl rfl rfl (p_assign rfl) rfl ?_
      refine .done rfl ?_
      refine ac_ret ?_
      show Fin _ _ _ _ _ _ _
      exact fin_ret (Nat.le_of_ble_eq_true rfl) rfl (by obtain rfl := Option.some.inj h; rfl)
    · replace h := cond_f hc5 h
      refine ac_skip ?_
      refine ac_seq ?_
      refine ac_region rfl ?_
      refine rq (u := .int .u64 v3) rfl rfl rfl (p_move rfl) rfl ?_
      refine rq (u := encF (some (Int.toNat v3))) rfl rfl rfl (p_frombits ex_70 rfl rfl rfl) rfl ?_
      refine rq (u := encF (some (Int.toNat v3))) rfl rfl rfl (p_assign rfl) rfl ?_
      refine .done rfl ?_
      refine ac_ret ?_
      show Fin _ _ _ _ _ _ _
      exact fin_ret (Nat.le_of_ble_eq_true rfl) rfl (by obtain rfl := Option.some.inj h; rfl)

set_option maxRecDepth 20000 in
set_option maxHeartbeats 4000000 in
theorem internal_strconv_formatBase10_fn : ∀ k : Nat, ∀ (a_0 : List Int) (u : Int) (r : Unit) (h : internal_strconv_formatBase10 k a_0 u = some r), PFn Tryd.prog 78 [.slice .ro 1 (a_0.map (TV.int .u8)), .int .u64 u] (.tuple []) := by
  intro k
  intro a_0 u r h
  rw [internal_strconv_formatBase10] at h
  refine AFn.of Tryd.func78 rfl (Nat.le_of_ble_eq_true rfl) ?_
  refine ac_seq ?_
  refine ac_region rfl ?_
  refine rq (u := .slice .ro 1 (a_0.map (TV.int .u8))) rfl rfl rfl (p_move rfl) rfl ?_
  refine rq (u := .int .i64 (a_0.length : Int)) rfl rfl rfl (p_lenm is_47 rfl rfl) rfl ?_
  refine rq (u := .int .i64 (a_0.length : Int)) rfl rfl rfl (p_assign rfl) rfl ?_
  refine .done rfl ?_
  refine ac_seq ?_
  refine ac_block ?_
  refine ac_turns (σ := Nat) (fun (m1 : Nat) => [(0, .slice .ro 1 (a_0.map (TV.int .u8))), (1, .int .u64 u), (4, .int .i64 (a_0.length : Int)), (17, .slice .ro 1 (a_0.map (TV.int .u8))), (18, .int .i64 (a_0.length : Int))]) (fun (m1 : Nat) => []) (fun x => x) (fun (m1 : Nat) => internal_strconv_formatBase10_L0 a_0 (cond (decide (4 ≤ (a_0.length : Int))) none (cond (decide (2 ≤ (a_0.length : Int))) none (cond (decide (0 < (a_0.length : Int))) none (some ())))) m1 = some r) k h ⟨TVle.refl _, TVle.refl _, TVle.refl _, TVle.refl _, TVle.refl _, trivial⟩ (ResLe.refl _) ?_
  rintro m1 h
  replace h : internal_strconv_formatBase10_L0 a_0 (cond (decide (4 ≤ (a_0.length : Int))) none (cond (decide (2 ≤ (a_0.length : Int))) none (cond (decide (0 < (a_0.length : Int))) none (some ())))) m1 = some r := h
  show ACode _ _ _ [(0, .slice .ro 1 (a_0.map (TV.int .u8))), (1, .int .u64 u), (4, .int .i64 (a_0.length : Int)), (17, .slice .ro 1 (a_0.map (TV.int .u8))), (18, .int .i64 (a_0.length : Int))] [] _
  cases m1 with
  | zero => rw [internal_strconv_formatBase10_L0] at h; cases h
  | succ m1 =>
    rw [internal_strconv_formatBase10_L0] at h
    refine ac_seq ?_
    refine ac_seq ?_
    refine ac_region rfl ?_
    refine rq (u := .int .i64 (a_0.length : Int)) rfl rfl rfl (p_move rfl) rfl ?_
    refine rq (u := .bool (decide (8 ≤ (a_0.length : Int)))) rfl rfl rfl (p_geq rfl rfl rfl) rfl ?_
    refine .done rfl ?_
    refine ac_cond rfl rfl (fun hc5 => ?_) (fun hc5 => ?_)
    · replace h := cond_t hc5 h
      cases h
    · replace h := cond_f hc5 h
      refine ac_exit ?_
      refine ac_seq ?_
      refine ac_region rfl ?_
      refine rq (u := .int .u64 u) rfl rfl rfl (p_move rfl) rfl ?_
      refine rq (u := .int .u32 (IntKind.wrap .u32 u)) rfl rfl rfl (p_cii ik_79 ik_104 rfl rfl) rfl ?_
      refine rq (u := .int .u32 (IntKind.wrap .u32 u)) rfl rfl rfl (p_assign rfl) rfl ?_
      refine .done rfl ?_
      refine ac_seq ?_
      refine ac_seq ?_
      refine ac_region rfl ?_
      refine rq (u := .int .i64 (a_0.length : Int)) rfl rfl rfl (p_move rfl) rfl ?_
      refine rq (u := .bool (decide (4 ≤ (a_0.length : Int)))) rfl rfl rfl (p_geq rfl rfl rfl) rfl ?_
      refine .done rfl ?_
      refine ac_cond rfl rfl (fun hc4 => ?_) (fun hc4 => ?_)
      · replace h := cond_t hc4 h
        cases h
      · replace h := cond_f hc4 h
        refine ac_skip ?_
        refine ac_seq ?_
        refine ac_seq ?_
        refine ac_region rfl ?_
        refine rq (u := .int .i64 (a_0.length : Int)) rfl rfl rfl (p_move rfl) rfl ?_
        refine rq (u := .bool (decide (2 ≤ (a_0.length : Int)))) rfl rfl rfl (p_geq rfl rfl rfl) rfl ?_
        refine .done rfl ?_
        refine ac_cond rfl rfl (fun hc3 => ?_) (fun hc3 => ?_)
        · replace h := cond_t hc3 h
          cases h
        · replace h := cond_f hc3 h
          refine ac_skip ?_
          refine ac_seq ?_
          refine ac_region rfl ?_
          refine rq (u := .int .i64 (a_0.length : Int)) rfl rfl rfl (p_move rfl) rfl ?_
          refine rq (u := .bool (decide (0 < (a_0.length : Int)))) rfl rfl rfl (p_gtr rfl rfl rfl) rfl ?_
          refine .done rfl ?_
          refine ac_cond rfl rfl (fun hc2 => ?_) (fun hc2 => ?_)
          · replace h := cond_t hc2 h
            cases h
          · replace h := cond_f hc2 h
            refine ac_skip ?_
            show Fin _ _ _ _ _ _ _
            exact fin_end0 (by obtain rfl := Option.some.inj h; rfl)

set_option maxRecDepth 20000 in
set_option maxHeartbeats 4000000 in
theorem internal_strconv_log10Pow2_fn : ∀ k : Nat, ∀ (x_0 : Int) (r : Int) (h : internal_strconv_log10Pow2 k x_0 = some r), PFn Tryd.prog 80 [.int .i64 x_0] (.int .i64 r) := by
  intro k
  intro x_0 r h
  rw [internal_strconv_log10Pow2] at h
  refine AFn.of Tryd.func80 rfl (Nat.le_of_ble_eq_true rfl) ?_
  refine ac_seq ?_
  refine ac_region rfl ?_
  refine rq (u := .int .i64 0) rfl rfl rfl (p_assign rfl) rfl ?_
  refine .done rfl ?_
  refine ac_seq ?_
  refine ac_region rfl ?_
  refine rq (u := .int .i64 x_0) rfl rfl rfl (p_move rfl) rfl ?_
  refine rq (u := .int .i64 (IntKind.wrap .i64 (x_0 * 78913))) rfl rfl rfl (p_mul rfl rfl rfl) rfl ?_
  refine rq (u := .int .i64 (Int.fdiv (IntKind.wrap .i64 (x_0 * 78913)) (2 ^ (min (Int.toNat 18) (IntKind.bits .i64))))) rfl rfl rfl (p_shr rfl rfl rfl (by decide)) rfl ?_
  refine rq (u := .int .i64 (Int.fdiv (IntKind.wrap .i64 (x_0 * 78913)) (2 ^ (min (Int.toNat 18) (IntKind.bits .i64))))) rfl rfl rfl (p_assign rfl) rfl ?_
  refine .done rfl ?_
  refine ac_ret ?_
  show Fin _ _ _ _ _ _ _
  exact fin_ret (Nat.le_of_ble_eq_true rfl) rfl (by obtain rfl := Option.some.inj h; rfl)

set_option maxRecDepth 20000 in
set_option maxHeartbeats 4000000 in
theorem math_bits_Len64_fn : ∀ k : Nat, ∀ (x_0 : Int) (r : Int) (h : math_bits_Len64 k x_0 = some r), PFn Tryd.prog 81 [.int .u64 x_0] (.int .i64 r) := by
  intro k
  intro x_0 r h
  rw [math_bits_Len64] at h
  refine AFn.of Tryd.func81 rfl (Nat.le_of_ble_eq_true rfl) ?_
  refine ac_seq ?_
  refine ac_region rfl ?_
  refine rq (u := .int .i64 0) rfl rfl rfl (p_assign rfl) rfl ?_
  refine .done rfl ?_
  refine ac_seq ?_
  refine ac_seq ?_
  refine ac_region rfl ?_
  refine rq (u := .int .u64 x_0) rfl rfl rfl (p_move rfl) rfl ?_
  refine rq (u := .bool (decide (4294967296 ≤ x_0))) rfl rfl rfl (p_geq rfl rfl rfl) rfl ?_
  refine .done rfl ?_
  refine ac_cond rfl rfl (fun hc15 => ?_) (fun hc15 => ?_)
  · replace h := cond_t hc15 h
    refine ac_seq ?_
    refine ac_region rfl ?_
    refine rq (u := .int .u64 x_0) rfl rfl rfl (p_move rfl) rfl ?_
    refine rq (u := .int .u64 (Int.fdiv x_0 (2 ^ (min (Int.toNat 32) (IntKind.bits .u64))))) rfl rfl rfl (p_shr rfl rfl rfl (by decide)) rfl ?_
    refine rq (u := .int .u64 (Int.fdiv x_0 (2 ^ (min (Int.toNat 32) (IntKind.bits .u64))))) rfl rfl rfl (p_assign rfl) rfl ?_
    refine .done rfl ?_
    refine ac_region rfl ?_
    refine rq (u := .int .i64 32) rfl rfl rfl (p_assign rfl) rfl ?_
    refine .done rfl ?_
    refine ac_seq ?_
    refine ac_seq ?_
    refine ac_region rfl ?_
    refine rq (u := .int .u64 (Int.fdiv x_0 (2 ^ (min (Int.toNat 32) (IntKind.bits .u64))))) rfl rfl rfl (p_move rfl) rfl ?_
    refine rq (u := .bool (decide (65536 ≤ (Int.fdiv x_0 (2 ^ (min (Int.toNat 32) (IntKind.bits .u64))))))) rfl rfl rfl (p_geq rfl rfl rfl) rfl ?_
    refine .done rfl ?_
    refine ac_cond rfl rfl (fun hc7 => ?_) (fun hc7 => ?_)
    · replace h := cond_t hc7 h
      refine ac_seq ?_
      refine ac_region rfl ?_
      refine rq (u := .int .u64 (Int.fdiv x_0 (2 ^ (min (Int.toNat 32) (IntKind.bits .u64))))) rfl rfl rfl (p_move rfl) rfl ?_
      refine rq (u := .int .u64 (Int.fdiv (Int.fdiv x_0 (2 ^ (min (Int.toNat 32) (IntKind.bits .u64)))) (2 ^ (min (Int.toNat 16) (IntKind.bits .u64))))) rfl rfl rfl (p_shr rfl rfl rfl (by decide)) rfl ?_
      refine rq (u := .int .u64 (Int.fdiv (Int.fdiv x_0 (2 ^ (min (Int.toNat 32) (IntKind.bits .u64)))) (2 ^ (min (Int.toNat 16) (IntKind.bits .u64))))) rfl rfl rfl (p_assign rfl) rfl ?_
      refine .done rfl ?_
      refine ac_region rfl ?_
      refine rq (u := .int .i64 32) rfl rfl rfl (p_move rfl) rfl ?_
      refine rq (u := .int .i64 (IntKind.wrap .i64 (32 + 16))) rfl rfl rfl (p_add rfl rfl rfl) rfl ?_
      refine rq (u := .int .i64 (IntKind.wrap .i64 (32 + 16))) rfl rfl rfl (p_assign rfl) rfl ?_
      refine .done rfl ?_
      refine ac_seq ?_
      refine ac_seq ?_
      refine ac_region rfl ?_
      refine rq (u := .int .u64 (Int.fdiv (Int.fdiv x_0 (2 ^ (min (Int.toNat 32) (IntKind.bits .u64)))) (2 ^ (min (Int.toNat 16) (IntKind.bits .u64))))) rfl rfl rfl (p_move rfl) rfl ?_
      refine rq (u := .bool (decide (256 ≤ (Int.fdiv (Int.fdiv x_0 (2 ^ (min (Int.toNat 32) (IntKind.bits .u64)))) (2 ^ (min (Int.toNat 16) (IntKind.bits .u64))))))) rfl rfl rfl (p_geq rfl rfl rfl) rfl ?_
      refine .done rfl ?_
      refine ac_cond rfl rfl (fun hc3 => ?_) (fun hc3 => ?_)
      · replace h := cond_t hc3 h
        refine ac_seq ?_
        refine ac_region rfl ?_
        refine rq (u := .int .u64 (Int.fdiv (Int.fdiv x_0 (2 ^ (min (Int.toNat 32) (IntKind.bits .u64)))) (2 ^ (min (Int.toNat 16) (IntKind.bits .u64))))) rfl rfl rfl (p_move rfl) rfl ?_
        refine rq (u := .int .u64 (Int.fdiv (Int.fdiv (Int.fdiv x_0 (2 ^ (min (Int.toNat 32) (IntKind.bits .u64)))) (2 ^ (min (Int.toNat 16) (IntKind.bits .u64)))) (2 ^ (min (Int.toNat 8) (IntKind.bits .u64))))) rfl rfl rfl (p_shr rfl rfl rfl (by decide)) rfl ?_
        refine rq (u := .int .u64 (Int.fdiv (Int.fdiv (Int.fdiv x_0 (2 ^ (min (Int.toNat 32) (IntKind.bits .u64)))) (2 ^ (min (Int.toNat 16) (IntKind.bits .u64)))) (2 ^ (min (Int.toNat 8) (IntKind.bits .u64))))) rfl rfl rfl (p_assign rfl) rfl ?_
        refine .done rfl ?_
        refine ac_region rfl ?_
        refine rq (u := .int .i64 (IntKind.wrap .i64 (32 + 16))) rfl rfl rfl (p_move rfl) rfl ?_
        refine rq (u := .int .i64 (IntKind.wrap .i64 ((IntKind.wrap .i64 (32 + 16)) + 8))) rfl rfl rfl (p_add rfl rfl rfl) rfl ?_
        refine rq (u := .int .i64 (IntKind.wrap .i64 ((IntKind.wrap .i64 (32 + 16)) + 8))) rfl rfl rfl (p_assign rfl) rfl ?_
        refine .done rfl ?_
        refine ac_seq ?_
        refine ac_region rfl ?_
        refine rq (u := .int .i64 (IntKind.wrap .i64 ((IntKind.wrap .i64 (32 + 16)) + 8))) rfl rfl rfl (p_move rfl) rfl ?_
        refine rq (u := .int .u64 (Int.fdiv (Int.fdiv (Int.fdiv x_0 (2 ^ (min (Int.toNat 32) (IntKind.bits .u64)))) (2 ^ (min (Int.toNat 16) (IntKind.bits .u64)))) (2 ^ (min (Int.toNat 8) (IntKind.bits .u64))))) rfl rfl rfl (p_move rfl) rfl ?_
        refine rq (u := .int .u8 (IntKind.wrap .u8 (Int.fdiv (Int.fdiv (Int.fdiv x_0 (2 ^ (min (Int.toNat 32) (IntKind.bits .u64)))) (2 ^ (min (Int.toNat 16) (IntKind.bits .u64)))) (2 ^ (min (Int.toNat 8) (IntKind.bits .u64)))))) rfl rfl rfl (p_cii ik_79 ik_5 rfl rfl) rfl ?_
        obtain ⟨v1, hv1, h⟩ := bnd_some h
        refine rq (u := .int .u8 v1) rfl rfl rfl (p_sidx hv1 it_9 rfl rfl rfl) rfl ?_
        refine rq (u := .int .i64 (IntKind.wrap .i64 v1)) rfl rfl rfl (p_cii ik_5 ik_3 rfl rfl) rfl ?_
        refine rq (u := .int .i64 (IntKind.wrap .i64 ((IntKind.wrap .i64 ((IntKind.wrap .i64 (32 + 16)) + 8)) + (IntKind.wrap .i64 v1)))) rfl rfl rfl (p_add rfl rfl rfl) rfl ?_
        refine rq (u := .int .i64 (IntKind.wrap .i64 ((IntKind.wrap .i64 ((IntKind.wrap .i64 (32 + 16)) + 8)) + (IntKind.wrap .i64 v1)))) rfl rfl rfl (p_assign rfl) rfl ?_
        refine .done rfl ?_
        refine ac_ret ?_
        show Fin _ _ _ _ _ _ _
        exact fin_ret (Nat.le_of_ble_eq_true rfl) rfl (by obtain rfl := Option.some.inj h; rfl)
      · replace h := cond_f hc3 h
        refine ac_skip ?_
        refine ac_seq ?_
        refine ac_region rfl ?_
        refine rq (u := .int .i64 (IntKind.wrap .i64 (32 + 16))) rfl rfl rfl (p_move rfl) rfl ?_
        refine rq (u := .int .u64 (Int.fdiv (Int.fdiv x_0 (2 ^ (min (Int.toNat 32) (IntKind.bits .u64)))) (2 ^ (min (Int.toNat 16) (IntKind.bits .u64))))) rfl rfl rfl (p_move rfl) rfl ?_
        refine rq (u := .int .u8 (IntKind.wrap .u8 (Int.fdiv (Int.fdiv x_0 (2 ^ (min (Int.toNat 32) (IntKind.bits .u64)))) (2 ^ (min (Int.toNat 16) (IntKind.bits .u64)))))) rfl rfl rfl (p_cii ik_79 ik_5 rfl rfl) rfl ?_
        obtain ⟨v2, hv2, h⟩ := bnd_some h
        refine rq (u := .int .u8 v2) rfl rfl rfl (p_sidx hv2 it_9 rfl rfl rfl) rfl ?_
        refine rq (u := .int .i64 (IntKind.wrap .i64 v2)) rfl rfl rfl (p_cii ik_5 ik_3 rfl rfl) rfl ?_
        refine rq (u := .int .i64 (IntKind.wrap .i64 ((IntKind.wrap .i64 (32 + 16)) + (IntKind.wrap .i64 v2)))) rfl rfl rfl (p_add rfl rfl rfl) rfl ?_
        refine rq (u := .int .i64 (IntKind.wrap .i64 ((IntKind.wrap .i64 (32 + 16)) + (IntKind.wrap .i64 v2)))) rfl rfl rfl (p_assign rfl) rfl ?_
        refine .done rfl ?_
        refine ac_ret ?_
        show Fin _ _ _ _ _ _ _
        exact fin_ret (Nat.le_of_ble_eq_true rfl) rfl (by obtain rfl := Option.some.inj h; rfl)
    · replace h := cond_f hc7 h
      refine ac_skip ?_
      refine ac_seq ?_
      refine ac_seq ?_
      refine ac_region rfl ?_
      refine rq (u := .int .u64 (Int.fdiv x_0 (2 ^ (min (Int.toNat 32) (IntKind.bits .u64))))) rfl rfl rfl (p_move rfl) rfl ?_
      refine rq (u := .bool (decide (256 ≤ (Int.fdiv x_0 (2 ^ (min (Int.toNat 32) (IntKind.bits .u64))))))) rfl rfl rfl (p_geq rfl rfl rfl) rfl ?_
      refine .done rfl ?_
      refine ac_cond rfl rfl (fun hc6 => ?_) (fun hc6 => ?_)
      · replace h := cond_t hc6 h
        refine ac_seq ?_
        refine ac_region rfl ?_
        refine rq (u := .int .u64 (Int.fdiv x_0 (2 ^ (min (Int.toNat 32) (IntKind.bits .u64))))) rfl rfl rfl (p_move rfl) rfl ?_
        refine rq (u := .int .u64 (Int.fdiv (Int.fdiv x_0 (2 ^ (min (Int.toNat 32) (IntKind.bits .u64)))) (2 ^ (min (Int.toNat 8) (IntKind.bits .u64))))) rfl rfl rfl (p_shr rfl rfl rfl (by decide)) rfl ?_
        refine rq (u := .int .u64 (Int.fdiv (Int.fdiv x_0 (2 ^ (min (Int.toNat 32) (IntKind.bits .u64)))) (2 ^ (min (Int.toNat 8) (IntKind.bits .u64))))) rfl rfl rfl (p_assign rfl) rfl ?_
        refine .done rfl ?_
        refine ac_region rfl ?_
        refine rq (u := .int .i64 32) rfl rfl rfl (p_move rfl) rfl ?_
        refine rq (u := .int .i64 (IntKind.wrap .i64 (32 + 8))) rfl rfl rfl (p_add rfl rfl rfl) rfl ?_
        refine rq (u := .int .i64 (IntKind.wrap .i64 (32 + 8))) rfl rfl rfl (p_assign rfl) rfl ?_
        refine .done rfl ?_
        refine ac_seq ?_
        refine ac_region rfl ?_
        refine rq (u := .int .i64 (IntKind.wrap .i64 (32 + 8))) rfl rfl rfl (p_move rfl) rfl ?_
        refine rq (u := .int .u64 (Int.fdiv (Int.fdiv x_0 (2 ^ (min (Int.toNat 32) (IntKind.bits .u64)))) (2 ^ (min (Int.toNat 8) (IntKind.bits .u64))))) rfl rfl rfl (p_move rfl) rfl ?_
        refine rq (u := .int .u8 (IntKind.wrap .u8 (Int.fdiv (Int.fdiv x_0 (2 ^ (min (Int.toNat 32) (IntKind.bits .u64)))) (2 ^ (min (Int.toNat 8) (IntKind.bits .u64)))))) rfl rfl rfl (p_cii ik_79 ik_5 rfl rfl) rfl ?_
        obtain ⟨v4, hv4, h⟩ := bnd_some h
        refine rq (u := .int .u8 v4) rfl rfl rfl (p_sidx hv4 it_9 rfl rfl rfl) rfl ?_
        refine rq (u := .int .i64 (IntKind.wrap .i64 v4)) rfl rfl rfl (p_cii ik_5 ik_3 rfl rfl) rfl ?_
        refine rq (u := .int .i64 (IntKind.wrap .i64 ((IntKind.wrap .i64 (32 + 8)) + (IntKind.wrap .i64 v4)))) rfl rfl rfl (p_add rfl rfl rfl) rfl ?_
        refine rq (u := .int .i64 (IntKind.wrap .i64 ((IntKind.wrap .i64 (32 + 8)) + (IntKind.wrap .i64 v4)))) rfl rfl rfl (p_assign rfl) rfl ?_
        refine .done rfl ?_
        refine ac_ret ?_
        show Fin _ _ _ _ _ _ _
        exact fin_ret (Nat.le_of_ble_eq_true rfl) rfl (by obtain rfl := Option.some.inj h; rfl)
      · replace h := cond_f hc6 h
        refine ac_skip ?_
        refine ac_seq ?_
        refine ac_region rfl ?_
        refine rq (u := .int .i64 32) rfl rfl rfl (p_move rfl) rfl ?_
        refine rq (u := .int .u64 (Int.fdiv x_0 (2 ^ (min (Int.toNat 32) (IntKind.bits .u64))))) rfl rfl rfl (p_move rfl) rfl ?_
        refine rq (u := .int .u8 (IntKind.wrap .u8 (Int.fdiv x_0 (2 ^ (min (Int.toNat 32) (IntKind.bits .u64)))))) rfl rfl rfl (p_cii ik_79 ik_5 rfl rfl) rfl ?_
        obtain ⟨v5, hv5, h⟩ := bnd_some h
        refine rq (u := .int .u8 v5) rfl rfl rfl (p_sidx hv5 it_9 rfl rfl rfl) rfl ?_
        refine rq (u := .int .i64 (IntKind.wrap .i64 v5)) rfl rfl rfl (p_cii ik_5 ik_3 rfl rfl) rfl ?_
        refine rq (u := .int .i64 (IntKind.wrap .i64 (32 + (IntKind.wrap .i64 v5)))) rfl rfl rfl (p_add rfl rfl rfl) rfl ?_
        refine rq (u := .int .i64 (IntKind.wrap .i64 (32 + (IntKind.wrap .i64 v5)))) rfl rfl rfl (p_assign rfl) rfl ?_
        refine .done rfl ?_
        refine ac_ret ?_
        show Fin _ _ _ _ _ _ _
        exact fin_ret (Nat.le_of_ble_eq_true rfl) rfl (by obtain rfl := Option.some.inj h; rfl)
  · replace h := cond_f hc15 h
    refine ac_skip ?_
    refine ac_seq ?_
    refine ac_seq ?_
    refine ac_region rfl ?_
    refine rq (u := .int .u64 x_0) rfl rfl rfl (p_move rfl) rfl ?_
    refine rq (u := .bool (decide (65536 ≤ x_0))) rfl rfl rfl (p_geq rfl rfl rfl) rfl ?_
    refine .done rfl ?_
    refine ac_cond rfl rfl (fun hc14 => ?_) (fun hc14 => ?_)
    · replace h := cond_t hc14 h
      refine ac_seq ?_
      refine ac_region rfl ?_
      refine rq (u := .int .u64 x_0) rfl rfl rfl (p_move rfl) rfl ?_
      refine rq (u := .int .u64 (Int.fdiv x_0 (2 ^ (min (Int.toNat 16) (IntKind.bits .u64))))) rfl rfl rfl (p_shr rfl rfl rfl (by decide)) rfl ?_
      refine rq (u := .int .u64 (Int.fdiv x_0 (2 ^ (min (Int.toNat 16) (IntKind.bits .u64))))) rfl rfl rfl (p_assign rfl) rfl ?_
      refine .done rfl ?_
      refine ac_region rfl ?_
      refine rq (u := .int .i64 0) rfl rfl rfl (p_move rfl) rfl ?_
      refine rq (u := .int .i64 (IntKind.wrap .i64 (0 + 16))) rfl rfl rfl (p_add rfl rfl rfl) rfl ?_
      refine rq (u := .int .i64 (IntKind.wrap .i64 (0 + 16))) rfl rfl rfl (p_assign rfl) rfl ?_
      refine .done rfl ?_
      refine ac_seq ?_
      refine ac_seq ?_
      refine ac_region rfl ?_
      refine rq (u := .int .u64 (Int.fdiv x_0 (2 ^ (min (Int.toNat 16) (IntKind.bits .u64))))) rfl rfl rfl (p_move rfl) rfl ?_
      refine rq (u := .bool (decide (256 ≤ (Int.fdiv x_0 (2 ^ (min (Int.toNat 16) (IntKind.bits .u64))))))) rfl rfl rfl (p_geq rfl rfl rfl) rfl ?_
      refine .done rfl ?_
      refine ac_cond rfl rfl (fun hc10 => ?_) (fun hc10 => ?_)
      · replace h := cond_t hc10 h
        refine ac_seq ?_
        refine ac_region rfl ?_
        refine rq (u := .int .u64 (Int.fdiv x_0 (2 ^ (min (Int.toNat 16) (IntKind.bits .u64))))) rfl rfl rfl (p_move rfl) rfl ?_
        refine rq (u := .int .u64 (Int.fdiv (Int.fdiv x_0 (2 ^ (min (Int.toNat 16) (IntKind.bits .u64)))) (2 ^ (min (Int.toNat 8) (IntKind.bits .u64))))) rfl rfl rfl (p_shr rfl rfl rfl (by decide)) rfl ?_
        refine rq (u := .int .u64 (Int.fdiv (Int.fdiv x_0 (2 ^ (min (Int.toNat 16) (IntKind.bits .u64)))) (2 ^ (min (Int.toNat 8) (IntKind.bits .u64))))) rfl rfl rfl (p_assign rfl) rfl ?_
        refine .done rfl ?_
        refine ac_region rfl ?_
        refine rq (u := .int .i64 (IntKind.wrap .i64 (0 + 16))) rfl rfl rfl (p_move rfl) rfl ?_
        refine rq (u := .int .i64 (IntKind.wrap .i64 ((IntKind.wrap .i64 (0 + 16)) + 8))) rfl rfl rfl (p_add rfl rfl rfl) rfl ?_
        refine rq (u := .int .i64 (IntKind.wrap .i64 ((IntKind.wrap .i64 (0 + 16)) + 8))) rfl rfl rfl (p_assign rfl) rfl ?_
        refine .done rfl ?_
        refine ac_seq ?_
        refine ac_region rfl ?_
        refine rq (u := .int .i64 (IntKind.wrap .i64 ((IntKind.wrap .i64 (0 + 16)) + 8))) rfl rfl rfl (p_move rfl) rfl ?_
        refine rq (u := .int .u64 (Int.fdiv (Int.fdiv x_0 (2 ^ (min (Int.toNat 16) (IntKind.bits .u64)))) (2 ^ (min (Int.toNat 8) (IntKind.bits .u64))))) rfl rfl rfl (p_move rfl) rfl ?_
        refine rq (u := .int .u8 (IntKind.wrap .u8 (Int.fdiv (Int.fdiv x_0 (2 ^ (min (Int.toNat 16) (IntKind.bits .u64)))) (2 ^ (min (Int.toNat 8) (IntKind.bits .u64)))))) rfl rfl rfl (p_cii ik_79 ik_5 rfl rfl) rfl ?_
        obtain ⟨v8, hv8, h⟩ := bnd_some h
        refine rq (u := .int .u8 v8) rfl rfl rfl (p_sidx hv8 it_9 rfl rfl rfl) rfl ?_
        refine rq (u := .int .i64 (IntKind.wrap .i64 v8)) rfl rfl rfl (p_cii ik_5 ik_3 rfl rfl) rfl ?_
        refine rq (u := .int .i64 (IntKind.wrap .i64 ((IntKind.wrap .i64 ((IntKind.wrap .i64 (0 + 16)) + 8)) + (IntKind.wrap .i64 v8)))) rfl rfl rfl (p_add rfl rfl rfl) rfl ?_
        refine rq (u := .int .i64 (IntKind.wrap .i64 ((IntKind.wrap .i64 ((IntKind.wrap .i64 (0 + 16)) + 8)) + (IntKind.wrap .i64 v8)))) rfl rfl rfl (p_assign rfl) rfl ?_
        refine .done rfl ?_
        refine ac_ret ?_
        show Fin _ _ _ _ _ _ _
        exact fin_ret (Nat.le_of_ble_eq_true rfl) rfl (by obtain rfl := Option.some.inj h; rfl)
      · replace h := cond_f hc10 h
        refine ac_skip ?_
        refine ac_seq ?_
        refine ac_region rfl ?_
        refine rq (u := .int .i64 (IntKind.wrap .i64 (0 + 16))) rfl rfl rfl (p_move rfl) rfl ?_
        refine rq (u := .int .u64 (Int.fdiv x_0 (2 ^ (min (Int.toNat 16) (IntKind.bits .u64))))) rfl rfl rfl (p_move rfl) rfl ?_
        refine rq (u := .int .u8 (IntKind.wrap .u8 (Int.fdiv x_0 (2 ^ (min (Int.toNat 16) (IntKind.bits .u64)))))) rfl rfl rfl (p_cii ik_79 ik_5 rfl rfl) rfl ?_
        obtain ⟨v9, hv9, h⟩ := bnd_some h
        refine rq (u := .int .u8 v9) rfl rfl rfl (p_sidx hv9 it_9 rfl rfl rfl) rfl ?_
        refine rq (u := .int .i64 (IntKind.wrap .i64 v9)) rfl rfl rfl (p_cii ik_5 ik_3 rfl rfl) rfl ?_
        refine rq (u := .int .i64 (IntKind.wrap .i64 ((IntKind.wrap .i64 (0 + 16)) + (IntKind.wrap .i64 v9)))) rfl rfl rfl (p_add rfl rfl rfl) rfl ?_
        refine rq (u := .int .i64 (IntKind.wrap .i64 ((IntKind.wrap .i64 (0 + 16)) + (IntKind.wrap .i64 v9)))) rfl rfl rfl (p_assign rfl) rfl ?_
        refine .done rfl ?_
        refine ac_ret ?_
        show Fin _ _ _ _ _ _ _
        exact fin_ret (Nat.le_of_ble_eq_true rfl) rfl (by obtain rfl := Option.some.inj h; rfl)
    · replace h := cond_f hc14 h
      refine ac_skip ?_
      refine ac_seq ?_
      refine ac_seq ?_
      refine ac_region rfl ?_
      refine rq (u := .int .u64 x_0) rfl rfl rfl (p_move rfl) rfl ?_
      refine rq (u := .bool (decide (256 ≤ x_0))) rfl rfl rfl (p_geq rfl rfl rfl) rfl ?_
      refine .done rfl ?_
      refine ac_cond rfl rfl (fun hc13 => ?_) (fun hc13 => ?_)
      · replace h := cond_t hc13 h
        refine ac_seq ?_
        refine ac_region rfl ?_
        refine rq (u := .int .u64 x_0) rfl rfl rfl (p_move rfl) rfl ?_
        refine rq (u := .int .u64 (Int.fdiv x_0 (2 ^ (min (Int.toNat 8) (IntKind.bits .u64))))) rfl rfl rfl (p_shr rfl rfl rfl (by decide)) rfl ?_
        refine rq (u := .int .u64 (Int.fdiv x_0 (2 ^ (min (Int.toNat 8) (IntKind.bits .u64))))) rfl rfl rfl (p_assign rfl) rfl ?_
        refine .done rfl ?_
        refine ac_region rfl ?_
        refine rq (u := .int .i64 0) rfl rfl rfl (p_move rfl) rfl ?_
        refine rq (u := .int .i64 (IntKind.wrap .i64 (0 + 8))) rfl rfl rfl (p_add rfl rfl rfl) rfl ?_
        refine rq (u := .int .i64 (IntKind.wrap .i64 (0 + 8))) rfl rfl rfl (p_assign rfl) rfl ?_
        refine .done rfl ?_
        refine ac_seq ?_
        refine ac_region rfl ?_
        refine rq (u := .int .i64 (IntKind.wrap .i64 (0 + 8))) rfl rfl rfl (p_move rfl) rfl ?_
        refine rq (u := .int .u64 (Int.fdiv x_0 (2 ^ (min (Int.toNat 8) (IntKind.bits .u64))))) rfl rfl rfl (p_move rfl) rfl ?_
        refine rq (u := .int .u8 (IntKind.wrap .u8 (Int.fdiv x_0 (2 ^ (min (Int.toNat 8) (IntKind.bits .u64)))))) rfl rfl rfl (p_cii ik_79 ik_5 rfl rfl) rfl ?_
        obtain ⟨v11, hv11, h⟩ := bnd_some h
        refine rq (u := .int .u8 v11) rfl rfl rfl (p_sidx hv11 it_9 rfl rfl rfl) rfl ?_
        refine rq (u := .int .i64 (IntKind.wrap .i64 v11)) rfl rfl rfl (p_cii ik_5 ik_3 rfl rfl) rfl ?_
        refine rq (u := .int .i64 (IntKind.wrap .i64 ((IntKind.wrap .i64 (0 + 8)) + (IntKind.wrap .i64 v11)))) rfl rfl rfl (p_add rfl rfl rfl) rfl ?_
        refine rq (u := .int .i64 (IntKind.wrap .i64 ((IntKind.wrap .i64 (0 + 8)) + (IntKind.wrap .i64 v11)))) rfl rfl rfl (p_assign rfl) rfl ?_
        refine .done rfl ?_
        refine ac_ret ?_
        show Fin _ _ _ _ _ _ _
        exact fin_ret (Nat.le_of_ble_eq_true rfl) rfl (by obtain rfl := Option.some.inj h; rfl)
      · replace h := cond_f hc13 h
        refine ac_skip ?_
        refine ac_seq ?_
        refine ac_region rfl ?_
        refine rq (u := .int .i64 0) rfl rfl rfl (p_move rfl) rfl ?_
        refine rq (u := .int .u64 x_0) rfl rfl rfl (p_move rfl) rfl ?_
        refine rq (u := .int .u8 (IntKind.wrap .u8 x_0)) rfl rfl rfl (p_cii ik_79 ik_5 rfl rfl) rfl ?_
        obtain ⟨v12, hv12, h⟩ := bnd_some h
        refine rq (u := .int .u8 v12) rfl rfl rfl (p_sidx hv12 it_9 rfl rfl rfl) rfl ?_
        refine rq (u := .int .i64 (IntKind.wrap .i64 v12)) rfl rfl rfl (p_cii ik_5 ik_3 rfl rfl) rfl ?_
        refine rq (u := .int .i64 (IntKind.wrap .i64 (0 + (IntKind.wrap .i64 v12)))) rfl rfl rfl (p_add rfl rfl rfl) rfl ?_
        refine rq (u := .int .i64 (IntKind.wrap .i64 (0 + (IntKind.wrap .i64 v12)))) rfl rfl rfl (p_assign rfl) rfl ?_
        refine .done rfl ?_
        refine ac_ret ?_
        show Fin _ _ _ _ _ _ _
        exact fin_ret (Nat.le_of_ble_eq_true rfl) rfl (by obtain rfl := Option.some.inj h; rfl)

set_option maxRecDepth 20000 in
set_option maxHeartbeats 4000000 in
theorem internal_strconv_bool2_int_fn : ∀ k : Nat, ∀ (b_0 : Bool) (r : Int) (h : internal_strconv_bool2_int k b_0 = some r), PFn Tryd.prog 82 [.bool b_0] (.int .i64 r) := by
  intro k
  intro b_0 r h
  rw [internal_strconv_bool2_int] at h
  refine AFn.of Tryd.func82 rfl (Nat.le_of_ble_eq_true rfl) ?_
  refine ac_seq ?_
  refine ac_region rfl ?_
  refine rq (u := .int .i64 0) rfl rfl rfl (p_assign rfl) rfl ?_
  refine .done rfl ?_
  refine ac_seq ?_
  refine ac_seq ?_
  refine ac_region rfl ?_
  refine rq (u := .bool b_0) rfl rfl rfl (p_move rfl) rfl ?_
  refine .done rfl ?_
  refine ac_cond rfl rfl (fun hc1 => ?_) (fun hc1 => ?_)
  · replace h := cond_t hc1 h
    refine ac_seq ?_
    refine ac_region rfl ?_
    refine rq (u := .int .i64 1) rfl rfl rfl (p_assign rfl) rfl ?_
    refine .done rfl ?_
    refine ac_ret ?_
    show Fin _ _ _ _ _ _ _
    exact fin_ret (Nat.le_of_ble_eq_true rfl) rfl (by obtain rfl := Option.some.inj h; rfl)
  · replace h := cond_f hc1 h
    refine ac_skip ?_
    refine ac_seq ?_
    refine ac_region rfl ?_
    refine rq (u := .int .i64 0) rfl rfl rfl (p_assign rfl) rfl ?_
    refine .done rfl ?_
    refine ac_ret ?_
    show Fin _ _ _ _ _ _ _
    exact fin_ret (Nat.le_of_ble_eq_true rfl) rfl (by obtain rfl := Option.some.inj h; rfl)

set_option maxRecDepth 20000 in
set_option maxHeartbeats 4000000 in
theorem internal_strconv_isPowerOfTwo_fn : ∀ k : Nat, ∀ (x_0 : Int) (r : Bool) (h : internal_strconv_isPowerOfTwo k x_0 = some r), PFn Tryd.prog 83 [.int .i64 x_0] (.bool r) := by
  intro k
  intro x_0 r h
  rw [internal_strconv_isPowerOfTwo] at h
  refine AFn.of Tryd.func83 rfl (Nat.le_of_ble_eq_true rfl) ?_
  refine ac_seq ?_
  refine ac_region rfl ?_
  refine rq (u := .bool false) rfl rfl rfl (p_assign rfl) rfl ?_
  refine .done rfl ?_
  refine ac_seq ?_
  refine ac_region rfl ?_
  refine rq (u := .int .i64 x_0) rfl rfl rfl (p_move rfl) rfl ?_
  refine rq (u := .int .i64 x_0) rfl rfl rfl (p_move rfl) rfl ?_
  refine rq (u := .int .i64 (IntKind.wrap .i64 (x_0 - 1))) rfl rfl rfl (p_sub rfl rfl rfl) rfl ?_
  refine rq (u := .int .i64 (bitsOf .and .i64 x_0 (IntKind.wrap .i64 (x_0 - 1)))) rfl rfl rfl (p_and rfl rfl rfl) rfl ?_
  refine rq (u := .bool ((bitsOf .and .i64 x_0 (IntKind.wrap .i64 (x_0 - 1))) == 0)) rfl rfl rfl (p_eql rfl rfl rfl) rfl ?_
  refine rq (u := .bool ((bitsOf .and .i64 x_0 (IntKind.wrap .i64 (x_0 - 1))) == 0)) rfl rfl rfl (p_assign rfl) rfl ?_
  refine .done rfl ?_
  refine ac_ret ?_
  show Fin _ _ _ _ _ _ _
  exact fin_ret (Nat.le_of_ble_eq_true rfl) rfl (by obtain rfl := Option.some.inj h; rfl)
end Go.Proofs.YtdkiijhmmmfciaaDoor
