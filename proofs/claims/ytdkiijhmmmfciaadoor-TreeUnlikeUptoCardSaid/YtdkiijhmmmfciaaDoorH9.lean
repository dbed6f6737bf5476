/- The code computes the functions. Printed by tr.py. -/
import Derived.Test.YtdkiijhmmmfciaaDoorG0
import Derived.Test.YtdkiijhmmmfciaaDoorG1
import Derived.Test.YtdkiijhmmmfciaaDoorH8
set_option linter.unusedVariables false
set_option linter.unusedSimpArgs false
namespace Go.Proofs.YtdkiijhmmmfciaaDoor
open Go
set_option maxRecDepth 20000 in
set_option maxHeartbeats 4000000 in
theorem tree_Rules_fn : ∀ k : Nat, ∀ (a_0 : List GRule) (b_1 : List GRule) (r : Bool) (h : tree_Rules k a_0 b_1 = some r), PFn Tryd.prog 14 [.slice .ro 11 (a_0.map GRule.enc), .slice .ro 11 (b_1.map GRule.enc)] (.bool r) := by
  intro k
  intro a_0 b_1 r h
  rw [tree_Rules] at h
  refine AFn.of Tryd.func14 rfl (Nat.le_of_ble_eq_true rfl) ?_
  refine ac_seq ?_
  refine ac_region rfl ?_
  refine rq (u := .bool false) rfl rfl rfl (p_assign rfl) rfl ?_
  refine .done rfl ?_
  refine ac_seq ?_
  refine ac_region rfl ?_
  refine rq (u := .slice .ro 11 (a_0.map GRule.enc)) rfl rfl rfl (p_move rfl) rfl ?_
  refine rq (u := .slice .ro 11 (b_1.map GRule.enc)) rfl rfl rfl (p_move rfl) rfl ?_
  obtain ⟨v1, hv1, h⟩ := bnd_some h
  refine rq (u := .bool v1) rfl rfl rfl (p_callL en_25 (slices_EqualFunc_Rule_fn k a_0 b_1 (tree_Rules_1 k) 26 [] [] [] en_26 (fun a1 a2 r' h' => PFn.at (tree_Rules_1_fn k a1 a2 r' h') []) v1 hv1) rfl rfl (TVles.refl _) (List.Perm.refl _)) rfl ?_
  refine rq (u := .bool v1) rfl rfl rfl (p_assign rfl) rfl ?_
  refine .done rfl ?_
  refine ac_ret ?_
  show Fin _ _ _ _ _ _ _
  exact fin_ret (Nat.le_of_ble_eq_true rfl) rfl (by obtain rfl := Option.some.inj h; rfl)

set_option maxRecDepth 20000 in
set_option maxHeartbeats 4000000 in
theorem law11_TreeTexts_fn : ∀ k : Nat, ∀ (a_0 : List GRule) (b_1 : List GRule) (r : Bool) (h : law11_TreeTexts k a_0 b_1 = some r), PFn Tryd.prog 5 [.slice .ro 11 (a_0.map GRule.enc), .slice .ro 11 (b_1.map GRule.enc)] (.bool r) := by
  intro k
  intro a_0 b_1 r h
  rw [law11_TreeTexts] at h
  refine AFn.of Tryd.func5 rfl (Nat.le_of_ble_eq_true rfl) ?_
  refine ac_seq ?_
  refine ac_region rfl ?_
  refine rq (u := .bool false) rfl rfl rfl (p_assign rfl) rfl ?_
  refine .done rfl ?_
  refine ac_seq ?_
  refine ac_seq ?_
  refine ac_region rfl ?_
  refine rq (u := .slice .ro 11 (a_0.map GRule.enc)) rfl rfl rfl (p_move rfl) rfl ?_
  obtain ⟨v1, hv1, h⟩ := bnd_some h
  refine rq (u := .bool v1) rfl rfl rfl (p_pfnL en_6 (ref11_Few_fn k a_0 6 v1 hv1) rfl rfl (TVles.refl _)) rfl ?_
  refine rq (u := .bool (!v1)) rfl rfl rfl (p_not rfl rfl) rfl ?_
  refine rq (u := .bool (!v1)) rfl rfl rfl (p_move rfl) rfl ?_
  refine rcase 12 rfl (fun hc2 => ?_) (fun hc2 => ?_)
  · replace h := cond_t hc2 h
    refine rskip rfl (guard_at rfl rfl rfl rfl rfl) rfl ?_
    refine rskip rfl (guard_at rfl rfl rfl rfl rfl) rfl ?_
    refine rskip rfl (guard_at rfl rfl rfl rfl rfl) rfl ?_
    refine rq (u := .bool true) rfl rfl rfl (p_pick rfl rfl) rfl ?_
    refine .done rfl ?_
    refine ac_condT rfl rfl ?_
    refine ac_seq ?_
    refine ac_region rfl ?_
    obtain ⟨v3, hv3, h⟩ := bnd_some h
    refine rq (u := .bool v3) rfl rfl rfl (p_pfnL en_7 (law11_awake_fn k v3 hv3) rfl rfl (TVles.refl _)) rfl ?_
    refine rq (u := .bool v3) rfl rfl rfl (p_assign rfl) rfl ?_
    refine .done rfl ?_
    refine ac_ret ?_
    show Fin _ _ _ _ _ _ _
    exact fin_ret (Nat.le_of_ble_eq_true rfl) rfl (by obtain rfl := Option.some.inj h; rfl)
  · replace h := cond_f hc2 h
    refine rq (u := .slice .ro 11 (b_1.map GRule.enc)) rfl (guard_at rfl rfl rfl rfl rfl) rfl (p_move rfl) rfl ?_
    obtain ⟨v4, hv4, h⟩ := bnd_some h
    refine rq (u := .bool v4) rfl (guard_at rfl rfl rfl rfl rfl) rfl (p_pfnL en_6 (ref11_Few_fn k b_1 6 v4 hv4) rfl rfl (TVles.refl _)) rfl ?_
    refine rq (u := .bool (!v4)) rfl (guard_at rfl rfl rfl rfl rfl) rfl (p_not rfl rfl) rfl ?_
    refine rq (u := .bool (!v4)) rfl rfl rfl (p_pick rfl rfl) rfl ?_
    refine .done rfl ?_
    refine ac_cond rfl rfl (fun hc14 => ?_) (fun hc14 => ?_)
    · replace h := cond_t hc14 h
      refine ac_seq ?_
      refine ac_region rfl ?_
      obtain ⟨v5, hv5, h⟩ := bnd_some h
      refine rq (u := .bool v5) rfl rfl rfl (p_pfnL en_7 (law11_awake_fn k v5 hv5) rfl rfl (TVles.refl _)) rfl ?_
      refine rq (u := .bool v5) rfl rfl rfl (p_assign rfl) rfl ?_
      refine .done rfl ?_
      refine ac_ret ?_
      show Fin _ _ _ _ _ _ _
      exact fin_ret (Nat.le_of_ble_eq_true rfl) rfl (by obtain rfl := Option.some.inj h; rfl)
    · replace h := cond_f hc14 h
      refine ac_skip ?_
      refine ac_seq ?_
      refine ac_region rfl ?_
      refine rq (u := .slice .ro 11 (a_0.map GRule.enc)) rfl rfl rfl (p_move rfl) rfl ?_
      obtain ⟨v6, hv6, h⟩ := bnd_some h
      refine rq (u := .tuple [.str v6.1, .bool v6.2]) rfl rfl rfl (p_pfnL en_8 (tree_Text_fn k a_0 v6 hv6) rfl rfl (TVles.refl _)) rfl ?_
      refine rq (u := .tuple [.str v6.1, .bool v6.2]) rfl rfl rfl (p_move rfl) rfl ?_
      refine rq (u := .str v6.1) rfl rfl rfl (p_extract rfl rfl rfl) rfl ?_
      refine rq (u := .bool v6.2) rfl rfl rfl (p_extract rfl rfl rfl) rfl ?_
      refine rq (u := .str v6.1) rfl rfl rfl (p_assign rfl) rfl ?_
      refine rq (u := .bool v6.2) rfl rfl rfl (p_assign rfl) rfl ?_
      refine .done rfl ?_
      refine ac_seq ?_
      refine ac_region rfl ?_
      refine rq (u := .slice .ro 11 (a_0.map GRule.enc)) rfl rfl rfl (p_move rfl) rfl ?_
      obtain ⟨v7, hv7, h⟩ := bnd_some h
      refine rq (u := .tuple [.str v7.1, .bool v7.2]) rfl rfl rfl (p_pfnL en_13 (ref11_Text_fn k a_0 v7 hv7) rfl rfl (TVles.refl _)) rfl ?_
      refine rq (u := .tuple [.str v7.1, .bool v7.2]) rfl rfl rfl (p_move rfl) rfl ?_
      refine rq (u := .str v7.1) rfl rfl rfl (p_extract rfl rfl rfl) rfl ?_
      refine rq (u := .bool v7.2) rfl rfl rfl (p_extract rfl rfl rfl) rfl ?_
      refine rq (u := .str v7.1) rfl rfl rfl (p_assign rfl) rfl ?_
      refine rq (u := .bool v7.2) rfl rfl rfl (p_assign rfl) rfl ?_
      refine .done rfl ?_
      refine ac_seq ?_
      refine ac_region rfl ?_
      obtain ⟨v8, hv8, h⟩ := bnd_some h
      refine rq (u := .bool v8) rfl rfl rfl (p_pfnL en_7 (law11_awake_fn k v8 hv8) rfl rfl (TVles.refl _)) rfl ?_
      refine rq (u := .bool v8) rfl rfl rfl (p_move rfl) rfl ?_
      refine rcase 29 rfl (fun hc9 => ?_) (fun hc9 => ?_)
      · replace h := cond_t hc9 h
        refine rq (u := .str v6.1) rfl (guard_at rfl rfl rfl rfl rfl) rfl (p_move rfl) rfl ?_
        refine rq (u := .str v7.1) rfl (guard_at rfl rfl rfl rfl rfl) rfl (p_move rfl) rfl ?_
        refine rq (u := .bool (v6.1.toList == v7.1.toList)) rfl (guard_at rfl rfl rfl rfl rfl) rfl (p_seql rfl rfl rfl) rfl ?_
        refine rq (u := .bool (v6.1.toList == v7.1.toList)) rfl rfl rfl (p_pick rfl rfl) rfl ?_
        refine rq (u := .bool (v6.1.toList == v7.1.toList)) rfl rfl rfl (p_move rfl) rfl ?_
        refine rcase 34 rfl (fun hc10 => ?_) (fun hc10 => ?_)
        · replace h := cond_t hc10 h
          refine rq (u := .bool v6.2) rfl (guard_at rfl rfl rfl rfl rfl) rfl (p_move rfl) rfl ?_
          refine rq (u := .bool v7.2) rfl (guard_at rfl rfl rfl rfl rfl) rfl (p_move rfl) rfl ?_
          refine rq (u := .bool (v6.2 == v7.2)) rfl (guard_at rfl rfl rfl rfl rfl) rfl (p_beql ub_4 rfl rfl rfl) rfl ?_
          refine rq (u := .bool (v6.2 == v7.2)) rfl rfl rfl (p_pick rfl rfl) rfl ?_
          refine rq (u := .bool (v6.2 == v7.2)) rfl rfl rfl (p_move rfl) rfl ?_
          refine rcase 39 rfl (fun hc11 => ?_) (fun hc11 => ?_)
          · replace h := cond_t hc11 h
            refine rq (u := .slice .ro 11 (a_0.map GRule.enc)) rfl (guard_at rfl rfl rfl rfl rfl) rfl (p_move rfl) rfl ?_
            refine rq (u := .slice .ro 11 (b_1.map GRule.enc)) rfl (guard_at rfl rfl rfl rfl rfl) rfl (p_move rfl) rfl ?_
            obtain ⟨v12, hv12, h⟩ := bnd_some h
            refine rq (u := .bool v12) rfl (guard_at rfl rfl rfl rfl rfl) rfl (p_pfnL en_14 (tree_Rules_fn k a_0 b_1 v12 hv12) rfl rfl (TVles.refl _)) rfl ?_
            refine rq (u := .slice .ro 11 (a_0.map GRule.enc)) rfl (guard_at rfl rfl rfl rfl rfl) rfl (p_move rfl) rfl ?_
            refine rq (u := .slice .ro 11 (b_1.map GRule.enc)) rfl (guard_at rfl rfl rfl rfl rfl) rfl (p_move rfl) rfl ?_
            obtain ⟨v13, hv13, h⟩ := bnd_some h
            refine rq (u := .bool v13) rfl (guard_at rfl rfl rfl rfl rfl) rfl (p_pfnL en_9 (ref11_Rules_fn k a_0 b_1 v13 hv13) rfl rfl (TVles.refl _)) rfl ?_
            refine rq (u := .bool (v12 == v13)) rfl (guard_at rfl rfl rfl rfl rfl) rfl (p_beql ub_4 rfl rfl rfl) rfl ?_
            refine rq (u := .bool (v12 == v13)) rfl rfl rfl (p_pick rfl rfl) rfl ?_
            refine rq (u := .bool (v12 == v13)) rfl rfl rfl (p_assign rfl) rfl ?_
            refine .done rfl ?_
            refine ac_ret ?_
            show Fin _ _ _ _ _ _ _
            exact fin_ret (Nat.le_of_ble_eq_true rfl) rfl (by obtain rfl := Option.some.inj h; rfl)
          · replace h := cond_f hc11 h
            refine rskip rfl (guard_at rfl rfl rfl rfl rfl) rfl ?_
            refine rskip rfl (guard_at rfl rfl rfl rfl rfl) rfl ?_
            refine rskip rfl (guard_at rfl rfl rfl rfl rfl) rfl ?_
            refine rskip rfl (guard_at rfl rfl rfl rfl rfl) rfl ?_
            refine rskip rfl (guard_at rfl rfl rfl rfl rfl) rfl ?_
            refine rskip rfl (guard_at rfl rfl rfl rfl rfl) rfl ?_
            refine rskip rfl (guard_at rfl rfl rfl rfl rfl) rfl ?_
            refine rq (u := .bool false) rfl rfl rfl (p_pick rfl rfl) rfl ?_
            refine rq (u := .bool false) rfl rfl rfl (p_assign rfl) rfl ?_
            refine .done rfl ?_
            refine ac_ret ?_
            show Fin _ _ _ _ _ _ _
            exact fin_ret (Nat.le_of_ble_eq_true rfl) rfl (by obtain rfl := Option.some.inj h; rfl)
        · replace h := cond_f hc10 h
          refine rskip rfl (guard_at rfl rfl rfl rfl rfl) rfl ?_
          refine rskip rfl (guard_at rfl rfl rfl rfl rfl) rfl ?_
          refine rskip rfl (guard_at rfl rfl rfl rfl rfl) rfl ?_
          refine rq (u := .bool false) rfl rfl rfl (p_pick rfl rfl) rfl ?_
          refine rq (u := .bool false) rfl rfl rfl (p_move rfl) rfl ?_
          refine rskip rfl (guard_at rfl rfl rfl rfl rfl) rfl ?_
          refine rskip rfl (guard_at rfl rfl rfl rfl rfl) rfl ?_
          refine rskip rfl (guard_at rfl rfl rfl rfl rfl) rfl ?_
          refine rskip rfl (guard_at rfl rfl rfl rfl rfl) rfl ?_
          refine rskip rfl (guard_at rfl rfl rfl rfl rfl) rfl ?_
          refine rskip rfl (guard_at rfl rfl rfl rfl rfl) rfl ?_
          refine rskip rfl (guard_at rfl rfl rfl rfl rfl) rfl ?_
          refine rq (u := .bool false) rfl rfl rfl (p_pick rfl rfl) rfl ?_
          refine rq (u := .bool false) rfl rfl rfl (p_assign rfl) rfl ?_
          refine .done rfl ?_
          refine ac_ret ?_
          show Fin _ _ _ _ _ _ _
          exact fin_ret (Nat.le_of_ble_eq_true rfl) rfl (by obtain rfl := Option.some.inj h; rfl)
      · replace h := cond_f hc9 h
        refine rskip rfl (guard_at rfl rfl rfl rfl rfl) rfl ?_
        refine rskip rfl (guard_at rfl rfl rfl rfl rfl) rfl ?_
        refine rskip rfl (guard_at rfl rfl rfl rfl rfl) rfl ?_
        refine rq (u := .bool false) rfl rfl rfl (p_pick rfl rfl) rfl ?_
        refine rq (u := .bool false) rfl rfl rfl (p_move rfl) rfl ?_
        refine rskip rfl (guard_at rfl rfl rfl rfl rfl) rfl ?_
        refine rskip rfl (guard_at rfl rfl rfl rfl rfl) rfl ?_
        refine rskip rfl (guard_at rfl rfl rfl rfl rfl) rfl ?_
        refine rq (u := .bool false) rfl rfl rfl (p_pick rfl rfl) rfl ?_
        refine rq (u := .bool false) rfl rfl rfl (p_move rfl) rfl ?_
        refine rskip rfl (guard_at rfl rfl rfl rfl rfl) rfl ?_
        refine rskip rfl (guard_at rfl rfl rfl rfl rfl) rfl ?_
        refine rskip rfl (guard_at rfl rfl rfl rfl rfl) rfl ?_
        refine rskip rfl (guard_at rfl rfl rfl rfl rfl) rfl ?_
        refine rskip rfl (guard_at rfl rfl rfl rfl rfl) rfl ?_
        refine rskip rfl (guard_at rfl rfl rfl rfl rfl) rfl ?_
        refine rskip rfl (guard_at rfl rfl rfl rfl rfl) rfl ?_
        refine rq (u := .bool false) rfl rfl rfl (p_pick rfl rfl) rfl ?_
        refine rq (u := .bool false) rfl rfl rfl (p_assign rfl) rfl ?_
        refine .done rfl ?_
        refine ac_ret ?_
        show Fin _ _ _ _ _ _ _
        exact fin_ret (Nat.le_of_ble_eq_true rfl) rfl (by obtain rfl := Option.some.inj h; rfl)
end Go.Proofs.YtdkiijhmmmfciaaDoor
