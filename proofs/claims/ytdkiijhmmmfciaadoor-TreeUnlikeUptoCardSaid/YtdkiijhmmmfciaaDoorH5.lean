/- The code computes the functions. Printed by tr.py. -/
import Derived.Test.YtdkiijhmmmfciaaDoorG0
import Derived.Test.YtdkiijhmmmfciaaDoorG1
import Derived.Test.YtdkiijhmmmfciaaDoorH4
set_option linter.unusedVariables false
set_option linter.unusedSimpArgs false
namespace Go.Proofs.YtdkiijhmmmfciaaDoor
open Go
set_option maxRecDepth 20000 in
set_option maxHeartbeats 4000000 in
theorem ref11_Rules_fn : ∀ k : Nat, ∀ (a_0 : List GRule) (b_1 : List GRule) (r : Bool) (h : ref11_Rules k a_0 b_1 = some r), PFn Tryd.prog 9 [.slice .ro 11 (a_0.map GRule.enc), .slice .ro 11 (b_1.map GRule.enc)] (.bool r) := by
  intro k
  intro a_0 b_1 r h
  rw [ref11_Rules] at h
  refine AFn.of Tryd.func9 rfl (Nat.le_of_ble_eq_true rfl) ?_
  refine ac_seq ?_
  refine ac_region rfl ?_
  refine rq (u := .bool false) rfl rfl rfl (p_assign rfl) rfl ?_
  refine .done rfl ?_
  refine ac_seq ?_
  refine ac_seq ?_
  refine ac_region rfl ?_
  refine rq (u := .slice .ro 11 (a_0.map GRule.enc)) rfl rfl rfl (p_move rfl) rfl ?_
  refine rq (u := .int .i64 (a_0.length : Int)) rfl rfl rfl (p_lenm is_22 rfl rfl) rfl ?_
  refine rq (u := .slice .ro 11 (b_1.map GRule.enc)) rfl rfl rfl (p_move rfl) rfl ?_
  refine rq (u := .int .i64 (b_1.length : Int)) rfl rfl rfl (p_lenm is_22 rfl rfl) rfl ?_
  refine rq (u := .bool ((a_0.length : Int) != (b_1.length : Int))) rfl rfl rfl (p_neq rfl rfl rfl) rfl ?_
  refine .done rfl ?_
  refine ac_cond rfl rfl (fun hc15 => ?_) (fun hc15 => ?_)
  · replace h := cond_t hc15 h
    refine ac_seq ?_
    refine ac_region rfl ?_
    refine rq (u := .bool false) rfl rfl rfl (p_assign rfl) rfl ?_
    refine .done rfl ?_
    refine ac_ret ?_
    show Fin _ _ _ _ _ _ _
    exact fin_ret (Nat.le_of_ble_eq_true rfl) rfl (by obtain rfl := Option.some.inj h; rfl)
  · replace h := cond_f hc15 h
    refine ac_skip ?_
    refine ac_seq ?_
    refine ac_seq ?_
    refine ac_region rfl ?_
    refine rq (u := .int .i64 0) rfl rfl rfl (p_assign rfl) rfl ?_
    refine .done rfl ?_
    refine ac_block ?_
    refine ac_turns (σ := Nat × Int) (fun (⟨m2, x1⟩ : Nat × Int) => [(0, .slice .ro 11 (a_0.map GRule.enc)), (1, .slice .ro 11 (b_1.map GRule.enc)), (4, .bool false), (5, .int .i64 x1), (6, .slice .ro 11 (a_0.map GRule.enc)), (7, .int .i64 (a_0.length : Int)), (8, .slice .ro 11 (b_1.map GRule.enc)), (9, .int .i64 (b_1.length : Int)), (10, .bool ((a_0.length : Int) != (b_1.length : Int)))]) (fun (⟨m2, x1⟩ : Nat × Int) => []) (fun x => x.1) (fun (⟨m2, x1⟩ : Nat × Int) => ref11_Rules_L0 k a_0 b_1 (fun x14 => some true) m2 x1 = some r) ⟨k, 0⟩ h ⟨TVle.refl _, TVle.refl _, TVle.refl _, TVle.refl _, TVle.refl _, TVle.refl _, TVle.refl _, TVle.refl _, TVle.refl _, trivial⟩ (ResLe.refl _) ?_
    rintro ⟨m2, x1⟩ h
    replace h : ref11_Rules_L0 k a_0 b_1 (fun x14 => some true) m2 x1 = some r := h
    show ACode _ _ _ [(0, .slice .ro 11 (a_0.map GRule.enc)), (1, .slice .ro 11 (b_1.map GRule.enc)), (4, .bool false), (5, .int .i64 x1), (6, .slice .ro 11 (a_0.map GRule.enc)), (7, .int .i64 (a_0.length : Int)), (8, .slice .ro 11 (b_1.map GRule.enc)), (9, .int .i64 (b_1.length : Int)), (10, .bool ((a_0.length : Int) != (b_1.length : Int)))] [] _
    cases m2 with
    | zero => rw [ref11_Rules_L0] at h; cases h
    | succ m2 =>
      rw [ref11_Rules_L0] at h
      refine ac_seq ?_
      refine ac_seq ?_
      refine ac_region rfl ?_
      refine rq (u := .int .i64 x1) rfl rfl rfl (p_move rfl) rfl ?_
      refine rq (u := .slice .ro 11 (a_0.map GRule.enc)) rfl rfl rfl (p_move rfl) rfl ?_
      refine rq (u := .int .i64 (a_0.length : Int)) rfl rfl rfl (p_lenm is_22 rfl rfl) rfl ?_
      refine rq (u := .bool (decide (x1 < (a_0.length : Int)))) rfl rfl rfl (p_lss rfl rfl rfl) rfl ?_
      refine .done rfl ?_
      refine ac_cond rfl rfl (fun hc13 => ?_) (fun hc13 => ?_)
      · replace h := cond_t hc13 h
        refine ac_skip ?_
        refine ac_seq ?_
        refine ac_block ?_
        refine ac_seq ?_
        refine ac_region_draw mo rfl rfl rfl ?_
        refine rq (u := .slice .ro 11 (a_0.map GRule.enc)) rfl rfl rfl (p_move rfl) rfl ?_
        refine rq (u := .int .i64 x1) rfl rfl rfl (p_move rfl) rfl ?_
        obtain ⟨v3, hv3, h⟩ := bnd_some h
        refine rq (u := .rptr [.bool v3.Allow, .int .i64 v3.When.Kind, .int .i64 v3.When.Field, .slice .ro 2 (v3.When.Ranges.map GRange.enc), encF v3.When.Low, encF v3.When.High, .slice .ro 6 (v3.When.Of.map GExpr.enc), .int .i64 v3.Rate.Num, .int .i64 v3.Rate.Per, .int .i64 v3.Rate.Burst, .int .i64 v3.Line]) rfl rfl rfl (p_ix GRule.enc_eq sl_22 hv3 rfl rfl rfl) rfl ?_
        refine rq (u := .rptr [.bool v3.Allow, .int .i64 v3.When.Kind, .int .i64 v3.When.Field, .slice .ro 2 (v3.When.Ranges.map GRange.enc), encF v3.When.Low, encF v3.When.High, .slice .ro 6 (v3.When.Of.map GExpr.enc), .int .i64 v3.Rate.Num, .int .i64 v3.Rate.Per, .int .i64 v3.Rate.Burst, .int .i64 v3.Line]) rfl rfl rfl (p_field_rptr fl_39_0 rfl rfl) rfl ?_
        refine rq (u := .bool v3.Allow) rfl rfl rfl (p_load_rptr ti_4 (fun _ => rfl) rfl rfl (Nat.le_of_ble_eq_true rfl)) rfl ?_
        refine rq (u := .slice .ro 11 (b_1.map GRule.enc)) rfl rfl rfl (p_move rfl) rfl ?_
        refine rq (u := .int .i64 x1) rfl rfl rfl (p_move rfl) rfl ?_
        obtain ⟨v4, hv4, h⟩ := bnd_some h
        refine rq (u := .rptr [.bool v4.Allow, .int .i64 v4.When.Kind, .int .i64 v4.When.Field, .slice .ro 2 (v4.When.Ranges.map GRange.enc), encF v4.When.Low, encF v4.When.High, .slice .ro 6 (v4.When.Of.map GExpr.enc), .int .i64 v4.Rate.Num, .int .i64 v4.Rate.Per, .int .i64 v4.Rate.Burst, .int .i64 v4.Line]) rfl rfl rfl (p_ix GRule.enc_eq sl_22 hv4 rfl rfl rfl) rfl ?_
        refine rq (u := .rptr [.bool v4.Allow, .int .i64 v4.When.Kind, .int .i64 v4.When.Field, .slice .ro 2 (v4.When.Ranges.map GRange.enc), encF v4.When.Low, encF v4.When.High, .slice .ro 6 (v4.When.Of.map GExpr.enc), .int .i64 v4.Rate.Num, .int .i64 v4.Rate.Per, .int .i64 v4.Rate.Burst, .int .i64 v4.Line]) rfl rfl rfl (p_field_rptr fl_39_0 rfl rfl) rfl ?_
        refine rq (u := .bool v4.Allow) rfl rfl rfl (p_load_rptr ti_4 (fun _ => rfl) rfl rfl (Nat.le_of_ble_eq_true rfl)) rfl ?_
        refine rq (u := .bool (!(v3.Allow == v4.Allow))) rfl rfl rfl (p_bneq ub_4 rfl rfl rfl) rfl ?_
        refine rq (u := .bool (!(v3.Allow == v4.Allow))) rfl rfl rfl (p_move rfl) rfl ?_
        refine rcase 28 rfl (fun hc5 => ?_) (fun hc5 => ?_)
        · replace h := cond_t hc5 h
          refine rskip rfl (guard_at rfl rfl rfl rfl rfl) rfl ?_
          refine rskip rfl (guard_at rfl rfl rfl rfl rfl) rfl ?_
          refine rskip rfl (guard_at rfl rfl rfl rfl rfl) rfl ?_
          refine rskip rfl (guard_at rfl rfl rfl rfl rfl) rfl ?_
          refine rskip rfl (guard_at rfl rfl rfl rfl rfl) rfl ?_
          refine rskip rfl (guard_at rfl rfl rfl rfl rfl) rfl ?_
          refine rskip rfl (guard_at rfl rfl rfl rfl rfl) rfl ?_
          refine rskip rfl (guard_at rfl rfl rfl rfl rfl) rfl ?_
          refine rskip rfl (guard_at rfl rfl rfl rfl rfl) rfl ?_
          refine rskip rfl (guard_at rfl rfl rfl rfl rfl) rfl ?_
          refine rskip rfl (guard_at rfl rfl rfl rfl rfl) rfl ?_
          refine rq (u := .bool true) rfl rfl rfl (p_pick rfl rfl) rfl ?_
          refine rq (u := .bool true) rfl rfl rfl (p_move rfl) rfl ?_
          refine rskip rfl (guard_at rfl rfl rfl rfl rfl) rfl ?_
          refine rskip rfl (guard_at rfl rfl rfl rfl rfl) rfl ?_
          refine rskip rfl (guard_at rfl rfl rfl rfl rfl) rfl ?_
          refine rskip rfl (guard_at rfl rfl rfl rfl rfl) rfl ?_
          refine rskip rfl (guard_at rfl rfl rfl rfl rfl) rfl ?_
          refine rskip rfl (guard_at rfl rfl rfl rfl rfl) rfl ?_
          refine rskip rfl (guard_at rfl rfl rfl rfl rfl) rfl ?_
          refine rskip rfl (guard_at rfl rfl rfl rfl rfl) rfl ?_
          refine rskip rfl (guard_at rfl rfl rfl rfl rfl) rfl ?_
          refine rskip rfl (guard_at rfl rfl rfl rfl rfl) rfl ?_
          refine rskip rfl (guard_at rfl rfl rfl rfl rfl) rfl ?_
          refine rskip rfl (guard_at rfl rfl rfl rfl rfl) rfl ?_
          refine rq (u := .bool true) rfl rfl rfl (p_pick rfl rfl) rfl ?_
          refine .done rfl ?_
          refine ac_condT rfl rfl ?_
          refine ac_seq ?_
          refine ac_region rfl ?_
          refine rq (u := .bool false) rfl rfl rfl (p_assign rfl) rfl ?_
          refine .done rfl ?_
          refine ac_ret ?_
          show Fin _ _ _ _ _ _ _
          exact fin_ret (Nat.le_of_ble_eq_true rfl) rfl (by obtain rfl := Option.some.inj h; rfl)
        · replace h := cond_f hc5 h
          refine rq (u := .slice .ro 11 (a_0.map GRule.enc)) rfl (guard_at rfl rfl rfl rfl rfl) rfl (p_move rfl) rfl ?_
          refine rq (u := .int .i64 x1) rfl (guard_at rfl rfl rfl rfl rfl) rfl (p_move rfl) rfl ?_
          obtain ⟨v6, hv6, h⟩ := bnd_some h
          refine rq (u := .rptr [.bool v6.Allow, .int .i64 v6.When.Kind, .int .i64 v6.When.Field, .slice .ro 2 (v6.When.Ranges.map GRange.enc), encF v6.When.Low, encF v6.When.High, .slice .ro 6 (v6.When.Of.map GExpr.enc), .int .i64 v6.Rate.Num, .int .i64 v6.Rate.Per, .int .i64 v6.Rate.Burst, .int .i64 v6.Line]) rfl (guard_at rfl rfl rfl rfl rfl) rfl (p_ix GRule.enc_eq sl_22 hv6 rfl rfl rfl) rfl ?_
          refine rq (u := .rptr [.int .i64 v6.Rate.Num, .int .i64 v6.Rate.Per, .int .i64 v6.Rate.Burst, .int .i64 v6.Line]) rfl (guard_at rfl rfl rfl rfl rfl) rfl (p_field_rptr fl_39_2 rfl rfl) rfl ?_
          refine rq (u := .agg (GRate.cells v6.Rate)) rfl (guard_at rfl rfl rfl rfl rfl) rfl (p_load_rptr ti_37 nofun rfl rfl (Nat.le_of_ble_eq_true rfl)) rfl ?_
          refine rq (u := .slice .ro 11 (b_1.map GRule.enc)) rfl (guard_at rfl rfl rfl rfl rfl) rfl (p_move rfl) rfl ?_
          refine rq (u := .int .i64 x1) rfl (guard_at rfl rfl rfl rfl rfl) rfl (p_move rfl) rfl ?_
          obtain ⟨v7, hv7, h⟩ := bnd_some h
          refine rq (u := .rptr [.bool v7.Allow, .int .i64 v7.When.Kind, .int .i64 v7.When.Field, .slice .ro 2 (v7.When.Ranges.map GRange.enc), encF v7.When.Low, encF v7.When.High, .slice .ro 6 (v7.When.Of.map GExpr.enc), .int .i64 v7.Rate.Num, .int .i64 v7.Rate.Per, .int .i64 v7.Rate.Burst, .int .i64 v7.Line]) rfl (guard_at rfl rfl rfl rfl rfl) rfl (p_ix GRule.enc_eq sl_22 hv7 rfl rfl rfl) rfl ?_
          refine rq (u := .rptr [.int .i64 v7.Rate.Num, .int .i64 v7.Rate.Per, .int .i64 v7.Rate.Burst, .int .i64 v7.Line]) rfl (guard_at rfl rfl rfl rfl rfl) rfl (p_field_rptr fl_39_2 rfl rfl) rfl ?_
          refine rq (u := .agg (GRate.cells v7.Rate)) rfl (guard_at rfl rfl rfl rfl rfl) rfl (p_load_rptr ti_37 nofun rfl rfl (Nat.le_of_ble_eq_true rfl)) rfl ?_
          refine rq (u := .bool (!((v6.Rate.Num == v7.Rate.Num) && ((v6.Rate.Per == v7.Rate.Per) && ((v6.Rate.Burst == v7.Rate.Burst) && true))))) rfl (guard_at rfl rfl rfl rfl rfl) rfl (p_ane eu_37 eh_37 eg_37 (eqs_37) rfl rfl rfl) rfl ?_
          refine rq (u := .bool (!((v6.Rate.Num == v7.Rate.Num) && ((v6.Rate.Per == v7.Rate.Per) && ((v6.Rate.Burst == v7.Rate.Burst) && true))))) rfl rfl rfl (p_pick rfl rfl) rfl ?_
          refine rq (u := .bool (!((v6.Rate.Num == v7.Rate.Num) && ((v6.Rate.Per == v7.Rate.Per) && ((v6.Rate.Burst == v7.Rate.Burst) && true))))) rfl rfl rfl (p_move rfl) rfl ?_
          refine rcase 41 rfl (fun hc8 => ?_) (fun hc8 => ?_)
          · replace h := cond_t hc8 h
            refine rskip rfl (guard_at rfl rfl rfl rfl rfl) rfl ?_
            refine rskip rfl (guard_at rfl rfl rfl rfl rfl) rfl ?_
            refine rskip rfl (guard_at rfl rfl rfl rfl rfl) rfl ?_
            refine rskip rfl (guard_at rfl rfl rfl rfl rfl) rfl ?_
            refine rskip rfl (guard_at rfl rfl rfl rfl rfl) rfl ?_
            refine rskip rfl (guard_at rfl rfl rfl rfl rfl) rfl ?_
            refine rskip rfl (guard_at rfl rfl rfl rfl rfl) rfl ?_
            refine rskip rfl (guard_at rfl rfl rfl rfl rfl) rfl ?_
            refine rskip rfl (guard_at rfl rfl rfl rfl rfl) rfl ?_
            refine rskip rfl (guard_at rfl rfl rfl rfl rfl) rfl ?_
            refine rskip rfl (guard_at rfl rfl rfl rfl rfl) rfl ?_
            refine rskip rfl (guard_at rfl rfl rfl rfl rfl) rfl ?_
            refine rq (u := .bool true) rfl rfl rfl (p_pick rfl rfl) rfl ?_
            refine .done rfl ?_
            refine ac_condT rfl rfl ?_
            refine ac_seq ?_
            refine ac_region rfl ?_
            refine rq (u := .bool false) rfl rfl rfl (p_assign rfl) rfl ?_
            refine .done rfl ?_
            refine ac_ret ?_
            show Fin _ _ _ _ _ _ _
            exact fin_ret (Nat.le_of_ble_eq_true rfl) rfl (by obtain rfl := Option.some.inj h; rfl)
          · replace h := cond_f hc8 h
            refine rq (u := .slice .ro 11 (a_0.map GRule.enc)) rfl (guard_at rfl rfl rfl rfl rfl) rfl (p_move rfl) rfl ?_
            refine rq (u := .int .i64 x1) rfl (guard_at rfl rfl rfl rfl rfl) rfl (p_move rfl) rfl ?_
            obtain ⟨v9, hv9, h⟩ := bnd_some h
            refine rq (u := .rptr [.bool v9.Allow, .int .i64 v9.When.Kind, .int .i64 v9.When.Field, .slice .ro 2 (v9.When.Ranges.map GRange.enc), encF v9.When.Low, encF v9.When.High, .slice .ro 6 (v9.When.Of.map GExpr.enc), .int .i64 v9.Rate.Num, .int .i64 v9.Rate.Per, .int .i64 v9.Rate.Burst, .int .i64 v9.Line]) rfl (guard_at rfl rfl rfl rfl rfl) rfl (p_ix GRule.enc_eq sl_22 hv9 rfl rfl rfl) rfl ?_
            refine rq (u := .rptr [.int .i64 v9.When.Kind, .int .i64 v9.When.Field, .slice .ro 2 (v9.When.Ranges.map GRange.enc), encF v9.When.Low, encF v9.When.High, .slice .ro 6 (v9.When.Of.map GExpr.enc), .int .i64 v9.Rate.Num, .int .i64 v9.Rate.Per, .int .i64 v9.Rate.Burst, .int .i64 v9.Line]) rfl (guard_at rfl rfl rfl rfl rfl) rfl (p_field_rptr fl_39_1 rfl rfl) rfl ?_
            refine rq (u := .agg (GExpr.cells v9.When)) rfl (guard_at rfl rfl rfl rfl rfl) rfl (p_load_rptr ti_33 nofun rfl rfl (Nat.le_of_ble_eq_true rfl)) rfl ?_
            refine rq (u := .slice .ro 11 (b_1.map GRule.enc)) rfl (guard_at rfl rfl rfl rfl rfl) rfl (p_move rfl) rfl ?_
            refine rq (u := .int .i64 x1) rfl (guard_at rfl rfl rfl rfl rfl) rfl (p_move rfl) rfl ?_
            obtain ⟨v10, hv10, h⟩ := bnd_some h
            refine rq (u := .rptr [.bool v10.Allow, .int .i64 v10.When.Kind, .int .i64 v10.When.Field, .slice .ro 2 (v10.When.Ranges.map GRange.enc), encF v10.When.Low, encF v10.When.High, .slice .ro 6 (v10.When.Of.map GExpr.enc), .int .i64 v10.Rate.Num, .int .i64 v10.Rate.Per, .int .i64 v10.Rate.Burst, .int .i64 v10.Line]) rfl (guard_at rfl rfl rfl rfl rfl) rfl (p_ix GRule.enc_eq sl_22 hv10 rfl rfl rfl) rfl ?_
            refine rq (u := .rptr [.int .i64 v10.When.Kind, .int .i64 v10.When.Field, .slice .ro 2 (v10.When.Ranges.map GRange.enc), encF v10.When.Low, encF v10.When.High, .slice .ro 6 (v10.When.Of.map GExpr.enc), .int .i64 v10.Rate.Num, .int .i64 v10.Rate.Per, .int .i64 v10.Rate.Burst, .int .i64 v10.Line]) rfl (guard_at rfl rfl rfl rfl rfl) rfl (p_field_rptr fl_39_1 rfl rfl) rfl ?_
            refine rq (u := .agg (GExpr.cells v10.When)) rfl (guard_at rfl rfl rfl rfl rfl) rfl (p_load_rptr ti_33 nofun rfl rfl (Nat.le_of_ble_eq_true rfl)) rfl ?_
            obtain ⟨v11, hv11, h⟩ := bnd_some h
            refine rq (u := .bool v11) rfl (guard_at rfl rfl rfl rfl rfl) rfl (p_pfnL en_20 (ref11_Same_fn k v9.When v10.When v11 hv11) rfl rfl (TVles.refl _)) rfl ?_
            refine rq (u := .bool (!v11)) rfl (guard_at rfl rfl rfl rfl rfl) rfl (p_not rfl rfl) rfl ?_
            refine rq (u := .bool (!v11)) rfl rfl rfl (p_pick rfl rfl) rfl ?_
            refine .done rfl ?_
            refine ac_cond rfl rfl (fun hc12 => ?_) (fun hc12 => ?_)
            · replace h := cond_t hc12 h
              refine ac_seq ?_
              refine ac_region rfl ?_
              refine rq (u := .bool false) rfl rfl rfl (p_assign rfl) rfl ?_
              refine .done rfl ?_
              refine ac_ret ?_
              show Fin _ _ _ _ _ _ _
              exact fin_ret (Nat.le_of_ble_eq_true rfl) rfl (by obtain rfl := Option.some.inj h; rfl)
            · replace h := cond_f hc12 h
              refine ac_skip ?_
              refine ac_region rfl ?_
              refine rq (u := .int .i64 x1) rfl rfl rfl (p_move rfl) rfl ?_
              refine rq (u := .int .i64 (IntKind.wrap .i64 (x1 + 1))) rfl rfl rfl (p_add rfl rfl rfl) rfl ?_
              refine rq (u := .int .i64 (IntKind.wrap .i64 (x1 + 1))) rfl rfl rfl (p_assign rfl) rfl ?_
              refine .done rfl ?_
              exact ⟨⟨m2, (IntKind.wrap .i64 (x1 + 1))⟩, h, Nat.lt_succ_self _, ⟨TVle.refl _, TVle.refl _, TVle.refl _, TVle.refl _, TVle.refl _, TVle.refl _, TVle.refl _, TVle.refl _, TVle.refl _, trivial⟩, (ResLe.refl _)⟩
      · replace h := cond_f hc13 h
        refine ac_exit ?_
        refine ac_seq ?_
        refine ac_region rfl ?_
        refine rq (u := .bool true) rfl rfl rfl (p_assign rfl) rfl ?_
        refine .done rfl ?_
        refine ac_ret ?_
        show Fin _ _ _ _ _ _ _
        exact fin_ret (Nat.le_of_ble_eq_true rfl) rfl (by obtain rfl := Option.some.inj h; rfl)

set_option maxRecDepth 20000 in
set_option maxHeartbeats 4000000 in
theorem law11_TreeUnlike_fn : ∀ k : Nat, ∀ (a_0 : List GRule) (b_1 : List GRule) (r : Bool) (h : law11_TreeUnlike k a_0 b_1 = some r), PFn Tryd.prog 3 [.slice .ro 11 (a_0.map GRule.enc), .slice .ro 11 (b_1.map GRule.enc)] (.bool r) := by
  intro k
  intro a_0 b_1 r h
  rw [law11_TreeUnlike] at h
  refine AFn.of Tryd.func3 rfl (Nat.le_of_ble_eq_true rfl) ?_
  refine ac_seq ?_
  refine ac_region rfl ?_
  refine rq (u := .bool false) rfl rfl rfl (p_assign rfl) rfl ?_
  refine .done rfl ?_
  refine ac_seq ?_
  refine ac_seq ?_
  refine ac_region rfl ?_
  refine rq (u := .slice .ro 11 (a_0.map GRule.enc)) rfl rfl rfl (p_move rfl) rfl ?_
  obtain ⟨v1, hv1, h⟩ := bnd_some h
  refine rq (u := .bool v1) rfl rfl rfl (p_pfnL en_6 (ref11_Few_fn k a_0 6 v1 hv1) rfl rfl (TVles.refl _)) rfl ?_
  refine rq (u := .bool (!v1)) rfl rfl rfl (p_not rfl rfl) rfl ?_
  refine rq (u := .bool (!v1)) rfl rfl rfl (p_move rfl) rfl ?_
  refine rcase 12 rfl (fun hc2 => ?_) (fun hc2 => ?_)
  · replace h := cond_t hc2 h
    refine rskip rfl (guard_at rfl rfl rfl rfl rfl) rfl ?_
    refine rskip rfl (guard_at rfl rfl rfl rfl rfl) rfl ?_
    refine rskip rfl (guard_at rfl rfl rfl rfl rfl) rfl ?_
    refine rq (u := .bool true) rfl rfl rfl (p_pick rfl rfl) rfl ?_
    refine .done rfl ?_
    refine ac_condT rfl rfl ?_
    refine ac_seq ?_
    refine ac_region rfl ?_
    obtain ⟨v3, hv3, h⟩ := bnd_some h
    refine rq (u := .bool v3) rfl rfl rfl (p_pfnL en_7 (law11_awake_fn k v3 hv3) rfl rfl (TVles.refl _)) rfl ?_
    refine rq (u := .bool v3) rfl rfl rfl (p_assign rfl) rfl ?_
    refine .done rfl ?_
    refine ac_ret ?_
    show Fin _ _ _ _ _ _ _
    exact fin_ret (Nat.le_of_ble_eq_true rfl) rfl (by obtain rfl := Option.some.inj h; rfl)
  · replace h := cond_f hc2 h
    refine rq (u := .slice .ro 11 (b_1.map GRule.enc)) rfl (guard_at rfl rfl rfl rfl rfl) rfl (p_move rfl) rfl ?_
    obtain ⟨v4, hv4, h⟩ := bnd_some h
    refine rq (u := .bool v4) rfl (guard_at rfl rfl rfl rfl rfl) rfl (p_pfnL en_6 (ref11_Few_fn k b_1 6 v4 hv4) rfl rfl (TVles.refl _)) rfl ?_
    refine rq (u := .bool (!v4)) rfl (guard_at rfl rfl rfl rfl rfl) rfl (p_not rfl rfl) rfl ?_
    refine rq (u := .bool (!v4)) rfl rfl rfl (p_pick rfl rfl) rfl ?_
    refine .done rfl ?_
    refine ac_cond rfl rfl (fun hc13 => ?_) (fun hc13 => ?_)
    · replace h := cond_t hc13 h
      refine ac_seq ?_
      refine ac_region rfl ?_
      obtain ⟨v5, hv5, h⟩ := bnd_some h
      refine rq (u := .bool v5) rfl rfl rfl (p_pfnL en_7 (law11_awake_fn k v5 hv5) rfl rfl (TVles.refl _)) rfl ?_
      refine rq (u := .bool v5) rfl rfl rfl (p_assign rfl) rfl ?_
      refine .done rfl ?_
      refine ac_ret ?_
      show Fin _ _ _ _ _ _ _
      exact fin_ret (Nat.le_of_ble_eq_true rfl) rfl (by obtain rfl := Option.some.inj h; rfl)
    · replace h := cond_f hc13 h
      refine ac_skip ?_
      refine ac_seq ?_
      refine ac_region rfl ?_
      refine rq (u := .slice .ro 11 (a_0.map GRule.enc)) rfl rfl rfl (p_move rfl) rfl ?_
      obtain ⟨v6, hv6, h⟩ := bnd_some h
      refine rq (u := .tuple [.str v6.1, .bool v6.2]) rfl rfl rfl (p_pfnL en_8 (tree_Text_fn k a_0 v6 hv6) rfl rfl (TVles.refl _)) rfl ?_
      refine rq (u := .tuple [.str v6.1, .bool v6.2]) rfl rfl rfl (p_move rfl) rfl ?_
      refine rq (u := .str v6.1) rfl rfl rfl (p_extract rfl rfl rfl) rfl ?_
      refine rq (u := .bool v6.2) rfl rfl rfl (p_extract rfl rfl rfl) rfl ?_
      refine rq (u := .str v6.1) rfl rfl rfl (p_assign rfl) rfl ?_
      refine rq (u := .bool v6.2) rfl rfl rfl (p_assign rfl) rfl ?_
      refine .done rfl ?_
      refine ac_seq ?_
      refine ac_region rfl ?_
      refine rq (u := .slice .ro 11 (b_1.map GRule.enc)) rfl rfl rfl (p_move rfl) rfl ?_
      obtain ⟨v7, hv7, h⟩ := bnd_some h
      refine rq (u := .tuple [.str v7.1, .bool v7.2]) rfl rfl rfl (p_pfnL en_8 (tree_Text_fn k b_1 v7 hv7) rfl rfl (TVles.refl _)) rfl ?_
      refine rq (u := .tuple [.str v7.1, .bool v7.2]) rfl rfl rfl (p_move rfl) rfl ?_
      refine rq (u := .str v7.1) rfl rfl rfl (p_extract rfl rfl rfl) rfl ?_
      refine rq (u := .bool v7.2) rfl rfl rfl (p_extract rfl rfl rfl) rfl ?_
      refine rq (u := .str v7.1) rfl rfl rfl (p_assign rfl) rfl ?_
      refine rq (u := .bool v7.2) rfl rfl rfl (p_assign rfl) rfl ?_
      refine .done rfl ?_
      refine ac_seq ?_
      refine ac_region rfl ?_
      obtain ⟨v8, hv8, h⟩ := bnd_some h
      refine rq (u := .bool v8) rfl rfl rfl (p_pfnL en_7 (law11_awake_fn k v8 hv8) rfl rfl (TVles.refl _)) rfl ?_
      refine rq (u := .bool v8) rfl rfl rfl (p_move rfl) rfl ?_
      refine rcase 29 rfl (fun hc9 => ?_) (fun hc9 => ?_)
      · replace h := cond_t hc9 h
        refine rq (u := .bool v6.2) rfl (guard_at rfl rfl rfl rfl rfl) rfl (p_move rfl) rfl ?_
        refine rq (u := .bool (!v6.2)) rfl (guard_at rfl rfl rfl rfl rfl) rfl (p_not rfl rfl) rfl ?_
        refine rq (u := .bool (!v6.2)) rfl (guard_at rfl rfl rfl rfl rfl) rfl (p_move rfl) rfl ?_
        refine rcase 32 rfl (fun hc10 => ?_) (fun hc10 => ?_)
        · replace h := cond_t hc10 h
          refine rskip rfl (guard_at rfl rfl rfl rfl rfl) rfl ?_
          refine rskip rfl (guard_at rfl rfl rfl rfl rfl) rfl ?_
          refine rq (u := .bool true) rfl (guard_at rfl rfl rfl rfl rfl) rfl (p_pick rfl rfl) rfl ?_
          refine rq (u := .bool true) rfl (guard_at rfl rfl rfl rfl rfl) rfl (p_move rfl) rfl ?_
          refine rskip rfl (guard_at rfl rfl rfl rfl rfl) rfl ?_
          refine rskip rfl (guard_at rfl rfl rfl rfl rfl) rfl ?_
          refine rskip rfl (guard_at rfl rfl rfl rfl rfl) rfl ?_
          refine rskip rfl (guard_at rfl rfl rfl rfl rfl) rfl ?_
          refine rskip rfl (guard_at rfl rfl rfl rfl rfl) rfl ?_
          refine rskip rfl (guard_at rfl rfl rfl rfl rfl) rfl ?_
          refine rskip rfl (guard_at rfl rfl rfl rfl rfl) rfl ?_
          refine rq (u := .bool true) rfl (guard_at rfl rfl rfl rfl rfl) rfl (p_pick rfl rfl) rfl ?_
          refine rq (u := .bool true) rfl rfl rfl (p_pick rfl rfl) rfl ?_
          refine rq (u := .bool true) rfl rfl rfl (p_assign rfl) rfl ?_
          refine .done rfl ?_
          refine ac_ret ?_
          show Fin _ _ _ _ _ _ _
          exact fin_ret (Nat.le_of_ble_eq_true rfl) rfl (by obtain rfl := Option.some.inj h; rfl)
        · replace h := cond_f hc10 h
          refine rq (u := .bool v7.2) rfl (guard_at rfl rfl rfl rfl rfl) rfl (p_move rfl) rfl ?_
          refine rq (u := .bool (!v7.2)) rfl (guard_at rfl rfl rfl rfl rfl) rfl (p_not rfl rfl) rfl ?_
          refine rq (u := .bool (!v7.2)) rfl (guard_at rfl rfl rfl rfl rfl) rfl (p_pick rfl rfl) rfl ?_
          refine rq (u := .bool (!v7.2)) rfl (guard_at rfl rfl rfl rfl rfl) rfl (p_move rfl) rfl ?_
          refine rcase 36 rfl (fun hc11 => ?_) (fun hc11 => ?_)
          · replace h := cond_t hc11 h
            refine rskip rfl (guard_at rfl rfl rfl rfl rfl) rfl ?_
            refine rskip rfl (guard_at rfl rfl rfl rfl rfl) rfl ?_
            refine rskip rfl (guard_at rfl rfl rfl rfl rfl) rfl ?_
            refine rskip rfl (guard_at rfl rfl rfl rfl rfl) rfl ?_
            refine rskip rfl (guard_at rfl rfl rfl rfl rfl) rfl ?_
            refine rskip rfl (guard_at rfl rfl rfl rfl rfl) rfl ?_
            refine rskip rfl (guard_at rfl rfl rfl rfl rfl) rfl ?_
            refine rq (u := .bool true) rfl (guard_at rfl rfl rfl rfl rfl) rfl (p_pick rfl rfl) rfl ?_
            refine rq (u := .bool true) rfl rfl rfl (p_pick rfl rfl) rfl ?_
            refine rq (u := .bool true) rfl rfl rfl (p_assign rfl) rfl ?_
            refine .done rfl ?_
            refine ac_ret ?_
            show Fin _ _ _ _ _ _ _
            exact fin_ret (Nat.le_of_ble_eq_true rfl) rfl (by obtain rfl := Option.some.inj h; rfl)
          · replace h := cond_f hc11 h
            refine rq (u := .str v6.1) rfl (guard_at rfl rfl rfl rfl rfl) rfl (p_move rfl) rfl ?_
            refine rq (u := .str v7.1) rfl (guard_at rfl rfl rfl rfl rfl) rfl (p_move rfl) rfl ?_
            refine rq (u := .bool (v6.1.toList == v7.1.toList)) rfl (guard_at rfl rfl rfl rfl rfl) rfl (p_seql rfl rfl rfl) rfl ?_
            refine rq (u := .slice .ro 11 (a_0.map GRule.enc)) rfl (guard_at rfl rfl rfl rfl rfl) rfl (p_move rfl) rfl ?_
            refine rq (u := .slice .ro 11 (b_1.map GRule.enc)) rfl (guard_at rfl rfl rfl rfl rfl) rfl (p_move rfl) rfl ?_
            obtain ⟨v12, hv12, h⟩ := bnd_some h
            refine rq (u := .bool v12) rfl (guard_at rfl rfl rfl rfl rfl) rfl (p_pfnL en_9 (ref11_Rules_fn k a_0 b_1 v12 hv12) rfl rfl (TVles.refl _)) rfl ?_
            refine rq (u := .bool ((v6.1.toList == v7.1.toList) == v12)) rfl (guard_at rfl rfl rfl rfl rfl) rfl (p_beql ub_4 rfl rfl rfl) rfl ?_
            refine rq (u := .bool ((v6.1.toList == v7.1.toList) == v12)) rfl (guard_at rfl rfl rfl rfl rfl) rfl (p_pick rfl rfl) rfl ?_
            refine rq (u := .bool ((v6.1.toList == v7.1.toList) == v12)) rfl rfl rfl (p_pick rfl rfl) rfl ?_
            refine rq (u := .bool ((v6.1.toList == v7.1.toList) == v12)) rfl rfl rfl (p_assign rfl) rfl ?_
            refine .done rfl ?_
            refine ac_ret ?_
            show Fin _ _ _ _ _ _ _
            exact fin_ret (Nat.le_of_ble_eq_true rfl) rfl (by obtain rfl := Option.some.inj h; rfl)
      · replace h := cond_f hc9 h
        refine rskip rfl (guard_at rfl rfl rfl rfl rfl) rfl ?_
        refine rskip rfl (guard_at rfl rfl rfl rfl rfl) rfl ?_
        refine rskip rfl (guard_at rfl rfl rfl rfl rfl) rfl ?_
        refine rskip rfl (guard_un rfl rfl rfl rfl) rfl ?_
        refine rskip rfl (guard_un rfl rfl rfl rfl) rfl ?_
        refine rskip rfl (guard_at rfl rfl rfl rfl rfl) rfl ?_
        refine rskip rfl (guard_at rfl rfl rfl rfl rfl) rfl ?_
        refine rskip rfl (guard_un rfl rfl rfl rfl) rfl ?_
        refine rskip rfl (guard_un rfl rfl rfl rfl) rfl ?_
        refine rskip rfl (guard_un rfl rfl rfl rfl) rfl ?_
        refine rskip rfl (guard_un rfl rfl rfl rfl) rfl ?_
        refine rskip rfl (guard_un rfl rfl rfl rfl) rfl ?_
        refine rskip rfl (guard_un rfl rfl rfl rfl) rfl ?_
        refine rskip rfl (guard_un rfl rfl rfl rfl) rfl ?_
        refine rskip rfl (guard_at rfl rfl rfl rfl rfl) rfl ?_
        refine rq (u := .bool false) rfl rfl rfl (p_pick rfl rfl) rfl ?_
        refine rq (u := .bool false) rfl rfl rfl (p_assign rfl) rfl ?_
        refine .done rfl ?_
        refine ac_ret ?_
        show Fin _ _ _ _ _ _ _
        exact fin_ret (Nat.le_of_ble_eq_true rfl) rfl (by obtain rfl := Option.some.inj h; rfl)

set_option maxRecDepth 20000 in
set_option maxHeartbeats 4000000 in
theorem law11_TreeCounts_fn : ∀ k : Nat, ∀ (l : List GExpr) (kind : Int) (r : Bool) (h : law11_TreeCounts k l kind = some r), PFn Tryd.prog 4 [.slice .ro 6 (l.map GExpr.enc), .int .u8 kind] (.bool r) := by
  intro k
  intro l kind r h
  rw [law11_TreeCounts] at h
  refine AFn.of Tryd.func4 rfl (Nat.le_of_ble_eq_true rfl) ?_
  refine ac_seq ?_
  refine ac_region rfl ?_
  refine rq (u := .bool false) rfl rfl rfl (p_assign rfl) rfl ?_
  refine .done rfl ?_
  refine ac_seq ?_
  refine ac_seq ?_
  refine ac_region rfl ?_
  refine rq (u := .slice .ro 6 (l.map GExpr.enc)) rfl rfl rfl (p_move rfl) rfl ?_
  refine rq (u := .int .i64 (l.length : Int)) rfl rfl rfl (p_lenm is_28 rfl rfl) rfl ?_
  refine rq (u := .bool ((l.length : Int) == 0)) rfl rfl rfl (p_eql rfl rfl rfl) rfl ?_
  refine rq (u := .bool ((l.length : Int) == 0)) rfl rfl rfl (p_move rfl) rfl ?_
  refine rcase 12 rfl (fun hc1 => ?_) (fun hc1 => ?_)
  · replace h := cond_t hc1 h
    refine rskip rfl (guard_at rfl rfl rfl rfl rfl) rfl ?_
    refine rskip rfl (guard_at rfl rfl rfl rfl rfl) rfl ?_
    refine rskip rfl (guard_at rfl rfl rfl rfl rfl) rfl ?_
    refine rq (u := .bool true) rfl rfl rfl (p_pick rfl rfl) rfl ?_
    refine .done rfl ?_
    refine ac_condT rfl rfl ?_
    refine ac_seq ?_
    refine ac_region rfl ?_
    obtain ⟨v2, hv2, h⟩ := bnd_some h
    refine rq (u := .bool v2) rfl rfl rfl (p_pfnL en_7 (law11_awake_fn k v2 hv2) rfl rfl (TVles.refl _)) rfl ?_
    refine rq (u := .bool v2) rfl rfl rfl (p_assign rfl) rfl ?_
    refine .done rfl ?_
    refine ac_ret ?_
    show Fin _ _ _ _ _ _ _
    exact fin_ret (Nat.le_of_ble_eq_true rfl) rfl (by obtain rfl := Option.some.inj h; rfl)
  · replace h := cond_f hc1 h
    refine rq (u := .slice .ro 6 (l.map GExpr.enc)) rfl (guard_at rfl rfl rfl rfl rfl) rfl (p_move rfl) rfl ?_
    refine rq (u := .int .i64 (l.length : Int)) rfl (guard_at rfl rfl rfl rfl rfl) rfl (p_lenm is_28 rfl rfl) rfl ?_
    refine rq (u := .bool (decide (6 < (l.length : Int)))) rfl (guard_at rfl rfl rfl rfl rfl) rfl (p_gtr rfl rfl rfl) rfl ?_
    refine rq (u := .bool (decide (6 < (l.length : Int)))) rfl rfl rfl (p_pick rfl rfl) rfl ?_
    refine .done rfl ?_
    refine ac_cond rfl rfl (fun hc30 => ?_) (fun hc30 => ?_)
    · replace h := cond_t hc30 h
      refine ac_seq ?_
      refine ac_region rfl ?_
      obtain ⟨v3, hv3, h⟩ := bnd_some h
      refine rq (u := .bool v3) rfl rfl rfl (p_pfnL en_7 (law11_awake_fn k v3 hv3) rfl rfl (TVles.refl _)) rfl ?_
      refine rq (u := .bool v3) rfl rfl rfl (p_assign rfl) rfl ?_
      refine .done rfl ?_
      refine ac_ret ?_
      show Fin _ _ _ _ _ _ _
      exact fin_ret (Nat.le_of_ble_eq_true rfl) rfl (by obtain rfl := Option.some.inj h; rfl)
    · replace h := cond_f hc30 h
      refine ac_skip ?_
      refine ac_seq ?_
      refine ac_region rfl ?_
      refine rq (u := .int .i64 0) rfl rfl rfl (p_assign rfl) rfl ?_
      refine rq (u := .int .i64 0) rfl rfl rfl (p_assign rfl) rfl ?_
      refine .done rfl ?_
      refine ac_seq ?_
      refine ac_seq ?_
      refine ac_region rfl ?_
      refine rq (u := .int .i64 0) rfl rfl rfl (p_assign rfl) rfl ?_
      refine .done rfl ?_
      refine ac_block ?_
      refine ac_turns (σ := Nat × Int × Int × Int) (fun (⟨m7, x4, x5, x6⟩ : Nat × Int × Int × Int) => [(0, .slice .ro 6 (l.map GExpr.enc)), (1, .int .u8 kind), (4, .bool false), (5, .int .i64 x4), (6, .int .i64 x5), (7, .int .i64 x6), (9, .slice .ro 6 (l.map GExpr.enc)), (10, .int .i64 (l.length : Int)), (11, .bool ((l.length : Int) == 0)), (12, .bool false), (13, .slice .ro 6 (l.map GExpr.enc)), (14, .int .i64 (l.length : Int)), (15, .bool (decide (6 < (l.length : Int)))), (16, .bool (decide (6 < (l.length : Int))))]) (fun (⟨m7, x4, x5, x6⟩ : Nat × Int × Int × Int) => []) (fun x => x.1) (fun (⟨m7, x4, x5, x6⟩ : Nat × Int × Int × Int) => law11_TreeCounts_L0 k l (fun x22 x23 x24 => bnd (law11_awake k) fun v25 => cond v25 (bnd (tree_Atoms k (GExpr.mk (IntKind.wrap .i64 (2 + (IntKind.wrap .i64 (Int.tmod kind 3)))) 0 [] (some 0) (some 0) l)) fun v27 => cond (v27 == x22) (bnd (tree_Deep k (GExpr.mk (IntKind.wrap .i64 (2 + (IntKind.wrap .i64 (Int.tmod kind 3)))) 0 [] (some 0) (some 0) l)) fun v29 => some (v29 == (IntKind.wrap .i64 (x23 + 1)))) (some false)) (some false)) m7 x4 x5 x6 = some r) ⟨k, 0, 0, 0⟩ h ⟨TVle.refl _, TVle.refl _, TVle.refl _, TVle.refl _, TVle.refl _, TVle.refl _, TVle.refl _, TVle.refl _, TVle.refl _, TVle.refl _, TVle.refl _, TVle.refl _, TVle.refl _, TVle.refl _, trivial⟩ (ResLe.refl _) ?_
      rintro ⟨m7, x4, x5, x6⟩ h
      replace h : law11_TreeCounts_L0 k l (fun x22 x23 x24 => bnd (law11_awake k) fun v25 => cond v25 (bnd (tree_Atoms k (GExpr.mk (IntKind.wrap .i64 (2 + (IntKind.wrap .i64 (Int.tmod kind 3)))) 0 [] (some 0) (some 0) l)) fun v27 => cond (v27 == x22) (bnd (tree_Deep k (GExpr.mk (IntKind.wrap .i64 (2 + (IntKind.wrap .i64 (Int.tmod kind 3)))) 0 [] (some 0) (some 0) l)) fun v29 => some (v29 == (IntKind.wrap .i64 (x23 + 1)))) (some false)) (some false)) m7 x4 x5 x6 = some r := h
      show ACode _ _ _ [(0, .slice .ro 6 (l.map GExpr.enc)), (1, .int .u8 kind), (4, .bool false), (5, .int .i64 x4), (6, .int .i64 x5), (7, .int .i64 x6), (9, .slice .ro 6 (l.map GExpr.enc)), (10, .int .i64 (l.length : Int)), (11, .bool ((l.length : Int) == 0)), (12, .bool false), (13, .slice .ro 6 (l.map GExpr.enc)), (14, .int .i64 (l.length : Int)), (15, .bool (decide (6 < (l.length : Int)))), (16, .bool (decide (6 < (l.length : Int))))] [] _
      cases m7 with
      | zero => rw [law11_TreeCounts_L0] at h; cases h
      | succ m7 =>
        rw [law11_TreeCounts_L0] at h
        refine ac_seq ?_
        refine ac_seq ?_
        refine ac_region rfl ?_
        refine rq (u := .int .i64 x6) rfl rfl rfl (p_move rfl) rfl ?_
        refine rq (u := .slice .ro 6 (l.map GExpr.enc)) rfl rfl rfl (p_move rfl) rfl ?_
        refine rq (u := .int .i64 (l.length : Int)) rfl rfl rfl (p_lenm is_28 rfl rfl) rfl ?_
        refine rq (u := .bool (decide (x6 < (l.length : Int)))) rfl rfl rfl (p_lss rfl rfl rfl) rfl ?_
        refine .done rfl ?_
        refine ac_cond rfl rfl (fun hc21 => ?_) (fun hc21 => ?_)
        · replace h := cond_t hc21 h
          refine ac_skip ?_
          refine ac_seq ?_
          refine ac_block ?_
          refine ac_seq ?_
          refine ac_seq ?_
          refine ac_region rfl ?_
          refine rq (u := .slice .ro 6 (l.map GExpr.enc)) rfl rfl rfl (p_move rfl) rfl ?_
          refine rq (u := .int .i64 x6) rfl rfl rfl (p_move rfl) rfl ?_
          obtain ⟨v8, hv8, h⟩ := bnd_some h
          refine rq (u := .rptr [.int .i64 v8.Kind, .int .i64 v8.Field, .slice .ro 2 (v8.Ranges.map GRange.enc), encF v8.Low, encF v8.High, .slice .ro 6 (v8.Of.map GExpr.enc)]) rfl rfl rfl (p_ix GExpr.enc_eq sl_28 hv8 rfl rfl rfl) rfl ?_
          refine rq (u := .agg (GExpr.cells v8)) rfl rfl rfl (p_load_rptr ti_33 nofun rfl rfl (Nat.le_of_ble_eq_true rfl)) rfl ?_
          obtain ⟨v9, hv9, h⟩ := bnd_some h
          refine rq (u := .bool v9) rfl rfl rfl (p_pfnL en_10 (ref11_Small_fn k v8 4 v9 hv9) rfl rfl (TVles.refl _)) rfl ?_
          refine rq (u := .bool (!v9)) rfl rfl rfl (p_not rfl rfl) rfl ?_
          refine .done rfl ?_
          refine ac_cond rfl rfl (fun hc15 => ?_) (fun hc15 => ?_)
          · replace h := cond_t hc15 h
            refine ac_seq ?_
            refine ac_region rfl ?_
            obtain ⟨v10, hv10, h⟩ := bnd_some h
            refine rq (u := .bool v10) rfl rfl rfl (p_pfnL en_7 (law11_awake_fn k v10 hv10) rfl rfl (TVles.refl _)) rfl ?_
            refine rq (u := .bool v10) rfl rfl rfl (p_assign rfl) rfl ?_
            refine .done rfl ?_
            refine ac_ret ?_
            show Fin _ _ _ _ _ _ _
            exact fin_ret (Nat.le_of_ble_eq_true rfl) rfl (by obtain rfl := Option.some.inj h; rfl)
          · replace h := cond_f hc15 h
            refine ac_skip ?_
            refine ac_seq ?_
            refine ac_region rfl ?_
            refine rq (u := .int .i64 x4) rfl rfl rfl (p_move rfl) rfl ?_
            refine rq (u := .slice .ro 6 (l.map GExpr.enc)) rfl rfl rfl (p_move rfl) rfl ?_
            refine rq (u := .int .i64 x6) rfl rfl rfl (p_move rfl) rfl ?_
            obtain ⟨v11, hv11, h⟩ := bnd_some h
            refine rq (u := .rptr [.int .i64 v11.Kind, .int .i64 v11.Field, .slice .ro 2 (v11.Ranges.map GRange.enc), encF v11.Low, encF v11.High, .slice .ro 6 (v11.Of.map GExpr.enc)]) rfl rfl rfl (p_ix GExpr.enc_eq sl_28 hv11 rfl rfl rfl) rfl ?_
            refine rq (u := .agg (GExpr.cells v11)) rfl rfl rfl (p_load_rptr ti_33 nofun rfl rfl (Nat.le_of_ble_eq_true rfl)) rfl ?_
            obtain ⟨v12, hv12, h⟩ := bnd_some h
            refine rq (u := .int .i64 v12) rfl rfl rfl (p_pfnL en_11 (tree_Atoms_fn k v11 v12 hv12) rfl rfl (TVles.refl _)) rfl ?_
            refine rq (u := .int .i64 (IntKind.wrap .i64 (x4 + v12))) rfl rfl rfl (p_add rfl rfl rfl) rfl ?_
            refine rq (u := .int .i64 (IntKind.wrap .i64 (x4 + v12))) rfl rfl rfl (p_assign rfl) rfl ?_
            refine .done rfl ?_
            refine ac_region rfl ?_
            refine rq (u := .int .i64 x5) rfl rfl rfl (p_move rfl) rfl ?_
            refine rq (u := .slice .ro 6 (l.map GExpr.enc)) rfl rfl rfl (p_move rfl) rfl ?_
            refine rq (u := .int .i64 x6) rfl rfl rfl (p_move rfl) rfl ?_
            obtain ⟨v13, hv13, h⟩ := bnd_some h
            refine rq (u := .rptr [.int .i64 v13.Kind, .int .i64 v13.Field, .slice .ro 2 (v13.Ranges.map GRange.enc), encF v13.Low, encF v13.High, .slice .ro 6 (v13.Of.map GExpr.enc)]) rfl rfl rfl (p_ix GExpr.enc_eq sl_28 hv13 rfl rfl rfl) rfl ?_
            refine rq (u := .agg (GExpr.cells v13)) rfl rfl rfl (p_load_rptr ti_33 nofun rfl rfl (Nat.le_of_ble_eq_true rfl)) rfl ?_
            obtain ⟨v14, hv14, h⟩ := bnd_some h
            refine rq (u := .int .i64 v14) rfl rfl rfl (p_pfnL en_12 (tree_Deep_fn k v13 v14 hv14) rfl rfl (TVles.refl _)) rfl ?_
            refine rq (u := .int .i64 (max x5 v14)) rfl rfl rfl (p_max rfl rfl rfl) rfl ?_
            refine rq (u := .int .i64 (max x5 v14)) rfl rfl rfl (p_assign rfl) rfl ?_
            refine .done rfl ?_
            refine ac_region rfl ?_
            refine rq (u := .int .i64 x6) rfl rfl rfl (p_move rfl) rfl ?_
            refine rq (u := .int .i64 (IntKind.wrap .i64 (x6 + 1))) rfl rfl rfl (p_add rfl rfl rfl) rfl ?_
            refine rq (u := .int .i64 (IntKind.wrap .i64 (x6 + 1))) rfl rfl rfl (p_assign rfl) rfl ?_
            refine .done rfl ?_
            exact ⟨⟨m7, (IntKind.wrap .i64 (x4 + v12)), (max x5 v14), (IntKind.wrap .i64 (x6 + 1))⟩, h, Nat.lt_succ_self _, ⟨TVle.refl _, TVle.refl _, TVle.refl _, TVle.refl _, TVle.refl _, TVle.refl _, TVle.refl _, TVle.refl _, TVle.refl _, TVle.refl _, TVle.refl _, TVle.refl _, TVle.refl _, TVle.refl _, trivial⟩, (ResLe.refl _)⟩
        · replace h := cond_f hc21 h
          refine ac_exit ?_
          refine ac_seq ?_
          refine ac_region rfl ?_
          refine rq (u := .int .u8 kind) rfl rfl rfl (p_move rfl) rfl ?_
          refine rq (u := .int .u8 (Int.tmod kind 3)) rfl rfl rfl (p_rem rfl rfl rfl (by decide)) rfl ?_
          refine rq (u := .int .i64 (IntKind.wrap .i64 (Int.tmod kind 3))) rfl rfl rfl (p_cii ik_5 ik_3 rfl rfl) rfl ?_
          refine rq (u := .int .i64 (IntKind.wrap .i64 (2 + (IntKind.wrap .i64 (Int.tmod kind 3))))) rfl rfl rfl (p_add rfl rfl rfl) rfl ?_
          refine rq (u := .slice .ro 6 (l.map GExpr.enc)) rfl rfl rfl (p_move rfl) rfl ?_
          refine rl (u := .agg [.int .i64 (IntKind.wrap .i64 (2 + (IntKind.wrap .i64 (Int.tmod kind 3)))), .int .i64 0, .slice .ro 2 [], encF (some 0), encF (some 0), .slice .ro 6 (l.map GExpr.enc)]) rfl rfl rfl (p_build (cs := [.int .i64 (IntKind.wrap .i64 (2 + (IntKind.wrap .i64 (Int.tmod kind 3)))), .int .i64 0, .slice .full 0 [], encF (some 0), encF (some 0), .slice .ro 6 (l.map GExpr.enc)]) zf_33 rfl rfl rfl nofun bf_33 rfl rfl) (TVle.agg ⟨TVle.refl _, TVle.refl _, TVle.nilro, TVle.refl _, TVle.refl _, TVle.refl _, trivial⟩) ?_
          refine ralloc (cs := [.int .i64 0, .int .i64 0, .slice .full 0 [], encF (some 0), encF (some 0), .slice .full 0 []]) zf_33 rfl rfl rfl rfl rfl rfl rfl nofun fun b1 => ?_
          refine rstore (j := 0) (us := [.int .i64 (IntKind.wrap .i64 (2 + (IntKind.wrap .i64 (Int.tmod kind 3)))), .int .i64 0, .slice .ro 2 [], encF (some 0), encF (some 0), .slice .ro 6 (l.map GExpr.enc)]) ti_33 rfl rfl rfl rfl rfl rfl rfl rfl nofun rfl (by simp only [allOne, List.all_cons, List.all_nil, one_fl]; rfl) (Nat.le_of_ble_eq_true rfl) ?_
          refine .done rfl ?_
          refine ac_seq ?_
          refine ac_region rfl ?_
          obtain ⟨v16, hv16, h⟩ := bnd_some h
          refine rq (u := .bool v16) rfl rfl rfl (p_pfnL en_7 (law11_awake_fn k v16 hv16) rfl rfl (TVles.refl _)) rfl ?_
          refine rq (u := .bool v16) rfl rfl rfl (p_move rfl) rfl ?_
          refine rcase 52 rfl (fun hc17 => ?_) (fun hc17 => ?_)
          · replace h := cond_t hc17 h
            refine rq (u := .agg [.int .i64 (IntKind.wrap .i64 (2 + (IntKind.wrap .i64 (Int.tmod kind 3)))), .int .i64 0, .slice .ro 2 [], encF (some 0), encF (some 0), .slice .ro 6 (l.map GExpr.enc)]) rfl (guard_at rfl rfl rfl rfl rfl) rfl (p_load_ptr ti_33 nofun rfl rfl (.head _) (Nat.le_of_ble_eq_true rfl)) rfl ?_
            obtain ⟨v18, hv18, h⟩ := bnd_some h
            refine rq (u := .int .i64 v18) rfl (guard_at rfl rfl rfl rfl rfl) rfl (p_pfnL en_11 (tree_Atoms_fn k (GExpr.mk (IntKind.wrap .i64 (2 + (IntKind.wrap .i64 (Int.tmod kind 3)))) 0 [] (some 0) (some 0) l) v18 hv18) rfl rfl ⟨(TVle.agg ⟨TVle.refl _, TVle.refl _, TVle.nilro, TVle.refl _, TVle.refl _, TVle.refl _, trivial⟩), trivial⟩) rfl ?_
            refine rq (u := .int .i64 x4) rfl (guard_at rfl rfl rfl rfl rfl) rfl (p_move rfl) rfl ?_
            refine rq (u := .bool (v18 == x4)) rfl (guard_at rfl rfl rfl rfl rfl) rfl (p_eql rfl rfl rfl) rfl ?_
            refine rq (u := .bool (v18 == x4)) rfl rfl rfl (p_pick rfl rfl) rfl ?_
            refine rq (u := .bool (v18 == x4)) rfl rfl rfl (p_move rfl) rfl ?_
            refine rcase 58 rfl (fun hc19 => ?_) (fun hc19 => ?_)
            · replace h := cond_t hc19 h
              refine rq (u := .agg [.int .i64 (IntKind.wrap .i64 (2 + (IntKind.wrap .i64 (Int.tmod kind 3)))), .int .i64 0, .slice .ro 2 [], encF (some 0), encF (some 0), .slice .ro 6 (l.map GExpr.enc)]) rfl (guard_at rfl rfl rfl rfl rfl) rfl (p_load_ptr ti_33 nofun rfl rfl (.head _) (Nat.le_of_ble_eq_true rfl)) rfl ?_
              obtain ⟨v20, hv20, h⟩ := bnd_some h
              refine rq (u := .int .i64 v20) rfl (guard_at rfl rfl rfl rfl rfl) rfl (p_pfnL en_12 (tree_Deep_fn k (GExpr.mk (IntKind.wrap .i64 (2 + (IntKind.wrap .i64 (Int.tmod kind 3)))) 0 [] (some 0) (some 0) l) v20 hv20) rfl rfl ⟨(TVle.agg ⟨TVle.refl _, TVle.refl _, TVle.nilro, TVle.refl _, TVle.refl _, TVle.refl _, trivial⟩), trivial⟩) rfl ?_
              refine rq (u := .int .i64 x5) rfl (guard_at rfl rfl rfl rfl rfl) rfl (p_move rfl) rfl ?_
              refine rq (u := .int .i64 (IntKind.wrap .i64 (x5 + 1))) rfl (guard_at rfl rfl rfl rfl rfl) rfl (p_add rfl rfl rfl) rfl ?_
              refine rq (u := .bool (v20 == (IntKind.wrap .i64 (x5 + 1)))) rfl (guard_at rfl rfl rfl rfl rfl) rfl (p_eql rfl rfl rfl) rfl ?_
              refine rq (u := .bool (v20 == (IntKind.wrap .i64 (x5 + 1)))) rfl rfl rfl (p_pick rfl rfl) rfl ?_
              refine rq (u := .bool (v20 == (IntKind.wrap .i64 (x5 + 1)))) rfl rfl rfl (p_assign rfl) rfl ?_
              refine .done rfl ?_
              refine ac_ret ?_
              show Fin _ _ _ _ _ _ _
              exact fin_ret (Nat.le_of_ble_eq_true rfl) rfl (by obtain rfl := Option.some.inj h; rfl)
            · replace h := cond_f hc19 h
              refine rskip rfl (guard_at rfl rfl rfl rfl rfl) rfl ?_
              refine rskip rfl (guard_at rfl rfl rfl rfl rfl) rfl ?_
              refine rskip rfl (guard_at rfl rfl rfl rfl rfl) rfl ?_
              refine rskip rfl (guard_at rfl rfl rfl rfl rfl) rfl ?_
              refine rskip rfl (guard_at rfl rfl rfl rfl rfl) rfl ?_
              refine rq (u := .bool false) rfl rfl rfl (p_pick rfl rfl) rfl ?_
              refine rq (u := .bool false) rfl rfl rfl (p_assign rfl) rfl ?_
              refine .done rfl ?_
              refine ac_ret ?_
              show Fin _ _ _ _ _ _ _
              exact fin_ret (Nat.le_of_ble_eq_true rfl) rfl (by obtain rfl := Option.some.inj h; rfl)
          · replace h := cond_f hc17 h
            refine rskip rfl (guard_at rfl rfl rfl rfl rfl) rfl ?_
            refine rskip rfl (guard_at rfl rfl rfl rfl rfl) rfl ?_
            refine rskip rfl (guard_at rfl rfl rfl rfl rfl) rfl ?_
            refine rskip rfl (guard_at rfl rfl rfl rfl rfl) rfl ?_
            refine rq (u := .bool false) rfl rfl rfl (p_pick rfl rfl) rfl ?_
            refine rq (u := .bool false) rfl rfl rfl (p_move rfl) rfl ?_
            refine rskip rfl (guard_at rfl rfl rfl rfl rfl) rfl ?_
            refine rskip rfl (guard_at rfl rfl rfl rfl rfl) rfl ?_
            refine rskip rfl (guard_at rfl rfl rfl rfl rfl) rfl ?_
            refine rskip rfl (guard_at rfl rfl rfl rfl rfl) rfl ?_
            refine rskip rfl (guard_at rfl rfl rfl rfl rfl) rfl ?_
            refine rq (u := .bool false) rfl rfl rfl (p_pick rfl rfl) rfl ?_
            refine rq (u := .bool false) rfl rfl rfl (p_assign rfl) rfl ?_
            refine .done rfl ?_
            refine ac_ret ?_
            show Fin _ _ _ _ _ _ _
            exact fin_ret (Nat.le_of_ble_eq_true rfl) rfl (by obtain rfl := Option.some.inj h; rfl)

set_option maxRecDepth 20000 in
set_option maxHeartbeats 4000000 in
theorem ref02_most_fn : ∀ k : Nat, ∀ (r : Int) (h : ref02_most k = some r), PFn Tryd.prog 61 [] (.int .i64 r) := by
  intro k
  intro  r h
  rw [ref02_most] at h
  refine AFn.of Tryd.func61 rfl (Nat.le_of_ble_eq_true rfl) ?_
  refine ac_seq ?_
  refine ac_region rfl ?_
  refine rq (u := .int .i64 0) rfl rfl rfl (p_assign rfl) rfl ?_
  refine .done rfl ?_
  refine ac_seq ?_
  refine ac_region rfl ?_
  refine rq (u := .int .i64 9007199254740992) rfl rfl rfl (p_assign rfl) rfl ?_
  refine .done rfl ?_
  refine ac_ret ?_
  show Fin _ _ _ _ _ _ _
  exact fin_ret (Nat.le_of_ble_eq_true rfl) rfl (by obtain rfl := Option.some.inj h; rfl)

set_option maxRecDepth 20000 in
set_option maxHeartbeats 4000000 in
theorem ref02_Put_fn : ∀ k : Nat, ∀ (n : Int) (r : ByteArray × Bool) (h : ref02_Put k n = some r), PFn Tryd.prog 45 [.int .i64 n] (.tuple [.str r.1, .bool r.2]) := by
  intro k
  intro n r h
  rw [ref02_Put] at h
  refine AFn.of Tryd.func45 rfl (Nat.le_of_ble_eq_true rfl) ?_
  refine ac_seq ?_
  refine ac_region rfl ?_
  refine rq (u := .str (⟨#[]⟩ : ByteArray)) rfl rfl rfl (p_assign rfl) rfl ?_
  refine rq (u := .bool false) rfl rfl rfl (p_assign rfl) rfl ?_
  refine .done rfl ?_
  refine ac_seq ?_
  refine ac_seq ?_
  refine ac_region rfl ?_
  refine rq (u := .int .i64 n) rfl rfl rfl (p_move rfl) rfl ?_
  refine rq (u := .bool (decide (n < 0))) rfl rfl rfl (p_lss rfl rfl rfl) rfl ?_
  refine rq (u := .bool (decide (n < 0))) rfl rfl rfl (p_move rfl) rfl ?_
  refine rcase 7 rfl (fun hc1 => ?_) (fun hc1 => ?_)
  · replace h := cond_t hc1 h
    refine rskip rfl (guard_at rfl rfl rfl rfl rfl) rfl ?_
    refine rskip rfl (guard_at rfl rfl rfl rfl rfl) rfl ?_
    refine rskip rfl (guard_at rfl rfl rfl rfl rfl) rfl ?_
    refine rq (u := .bool true) rfl rfl rfl (p_pick rfl rfl) rfl ?_
    refine .done rfl ?_
    refine ac_condT rfl rfl ?_
    refine ac_seq ?_
    refine ac_region rfl ?_
    refine rq (u := .str (⟨#[]⟩ : ByteArray)) rfl rfl rfl (p_assign rfl) rfl ?_
    refine rq (u := .bool false) rfl rfl rfl (p_assign rfl) rfl ?_
    refine .done rfl ?_
    refine ac_ret ?_
    show Fin _ _ _ _ _ _ _
    exact fin_ret2 (Nat.le_of_ble_eq_true rfl) (Nat.le_of_ble_eq_true rfl) rfl rfl (by obtain rfl := Option.some.inj h; rfl)
  · replace h := cond_f hc1 h
    refine rq (u := .int .i64 n) rfl (guard_at rfl rfl rfl rfl rfl) rfl (p_move rfl) rfl ?_
    obtain ⟨v2, hv2, h⟩ := bnd_some h
    refine rq (u := .int .i64 v2) rfl (guard_at rfl rfl rfl rfl rfl) rfl (p_pfnL en_61 (ref02_most_fn k v2 hv2) rfl rfl (TVles.refl _)) rfl ?_
    refine rq (u := .bool (decide (v2 < n))) rfl (guard_at rfl rfl rfl rfl rfl) rfl (p_gtr rfl rfl rfl) rfl ?_
    refine rq (u := .bool (decide (v2 < n))) rfl rfl rfl (p_pick rfl rfl) rfl ?_
    refine .done rfl ?_
    refine ac_cond rfl rfl (fun hc8 => ?_) (fun hc8 => ?_)
    · replace h := cond_t hc8 h
      refine ac_seq ?_
      refine ac_region rfl ?_
      refine rq (u := .str (⟨#[]⟩ : ByteArray)) rfl rfl rfl (p_assign rfl) rfl ?_
      refine rq (u := .bool false) rfl rfl rfl (p_assign rfl) rfl ?_
      refine .done rfl ?_
      refine ac_ret ?_
      show Fin _ _ _ _ _ _ _
      exact fin_ret2 (Nat.le_of_ble_eq_true rfl) (Nat.le_of_ble_eq_true rfl) rfl rfl (by obtain rfl := Option.some.inj h; rfl)
    · replace h := cond_f hc8 h
      refine ac_skip ?_
      refine ac_seq ?_
      refine ac_region rfl ?_
      refine rq (u := .str (⟨#[]⟩ : ByteArray)) rfl rfl rfl (p_assign rfl) rfl ?_
      refine .done rfl ?_
      refine ac_block ?_
      refine ac_turns (σ := Nat × Int × ByteArray) (fun (⟨m5, x3, x4⟩ : Nat × Int × ByteArray) => [(0, .int .i64 x3), (2, .str (⟨#[]⟩ : ByteArray)), (3, .bool false), (4, .str x4), (5, .int .i64 n), (6, .bool (decide (n < 0))), (7, .bool false), (8, .int .i64 n), (9, .int .i64 v2), (10, .bool (decide (v2 < n))), (11, .bool (decide (v2 < n)))]) (fun (⟨m5, x3, x4⟩ : Nat × Int × ByteArray) => []) (fun x => x.1) (fun (⟨m5, x3, x4⟩ : Nat × Int × ByteArray) => ref02_Put_L0 m5 x3 x4 = some r) ⟨k, n, (⟨#[]⟩ : ByteArray)⟩ h ⟨TVle.refl _, TVle.refl _, TVle.refl _, TVle.refl _, TVle.refl _, TVle.refl _, TVle.refl _, TVle.refl _, TVle.refl _, TVle.refl _, TVle.refl _, trivial⟩ (ResLe.refl _) ?_
      rintro ⟨m5, x3, x4⟩ h
      replace h : ref02_Put_L0 m5 x3 x4 = some r := h
      show ACode _ _ _ [(0, .int .i64 x3), (2, .str (⟨#[]⟩ : ByteArray)), (3, .bool false), (4, .str x4), (5, .int .i64 n), (6, .bool (decide (n < 0))), (7, .bool false), (8, .int .i64 n), (9, .int .i64 v2), (10, .bool (decide (v2 < n))), (11, .bool (decide (v2 < n)))] [] _
      cases m5 with
      | zero => rw [ref02_Put_L0] at h; cases h
      | succ m5 =>
        rw [ref02_Put_L0] at h
        refine ac_block ?_
        refine ac_seq ?_
        refine ac_region rfl ?_
        refine rq (u := .int .i64 x3) rfl rfl rfl (p_move rfl) rfl ?_
        refine rq (u := .int .i64 (Int.tmod x3 10)) rfl rfl rfl (p_rem rfl rfl rfl (by decide)) rfl ?_
        refine rq (u := .int .i64 (IntKind.wrap .i64 (48 + (Int.tmod x3 10)))) rfl rfl rfl (p_add rfl rfl rfl) rfl ?_
        refine rq (u := .int .u8 (IntKind.wrap .u8 (IntKind.wrap .i64 (48 + (Int.tmod x3 10))))) rfl rfl rfl (p_cii ik_3 ik_5 rfl rfl) rfl ?_
        refine rq (u := .slice .full 1 ([(IntKind.wrap .u8 (IntKind.wrap .i64 (48 + (Int.tmod x3 10))))].map (TV.int .u8))) rfl rfl rfl (p_bslice (f := (TV.int .u8)) (xs := ([(IntKind.wrap .u8 (IntKind.wrap .i64 (48 + (Int.tmod x3 10))))] : List Int)) (fun _ => ⟨rfl, nofun, rfl⟩) sl_47 ⟨_, _, rfl, zf_5, rfl⟩ rfl rfl rfl rfl rfl rfl) rfl ?_
        refine rq (u := .str (bytesOf [(IntKind.wrap .u8 (IntKind.wrap .i64 (48 + (Int.tmod x3 10))))])) rfl rfl rfl (p_cbs cbs_47_9 rfl rfl) rfl ?_
        refine rq (u := .str x4) rfl rfl rfl (p_move rfl) rfl ?_
        obtain ⟨hv6, h⟩ := chk_some h
        refine rq (u := .str ((bytesOf [(IntKind.wrap .u8 (IntKind.wrap .i64 (48 + (Int.tmod x3 10))))]) ++ x4)) rfl rfl rfl (p_sadd rfl rfl rfl (of_decide_eq_true hv6)) rfl ?_
        refine rq (u := .str ((bytesOf [(IntKind.wrap .u8 (IntKind.wrap .i64 (48 + (Int.tmod x3 10))))]) ++ x4)) rfl rfl rfl (p_assign rfl) rfl ?_
        refine .done rfl ?_
        refine ac_seq ?_
        refine ac_region rfl ?_
        refine rq (u := .int .i64 x3) rfl rfl rfl (p_move rfl) rfl ?_
        refine rq (u := .int .i64 (IntKind.wrap .i64 (Int.tdiv x3 10))) rfl rfl rfl (p_quo rfl rfl rfl (by decide)) rfl ?_
        refine rq (u := .int .i64 (IntKind.wrap .i64 (Int.tdiv x3 10))) rfl rfl rfl (p_assign rfl) rfl ?_
        refine .done rfl ?_
        refine ac_seq ?_
        refine ac_region rfl ?_
        refine rq (u := .int .i64 (IntKind.wrap .i64 (Int.tdiv x3 10))) rfl rfl rfl (p_move rfl) rfl ?_
        refine rq (u := .bool ((IntKind.wrap .i64 (Int.tdiv x3 10)) == 0)) rfl rfl rfl (p_eql rfl rfl rfl) rfl ?_
        refine .done rfl ?_
        refine ac_cond rfl rfl (fun hc7 => ?_) (fun hc7 => ?_)
        · replace h := cond_t hc7 h
          refine ac_seq ?_
          refine ac_region rfl ?_
          refine rq (u := .str ((bytesOf [(IntKind.wrap .u8 (IntKind.wrap .i64 (48 + (Int.tmod x3 10))))]) ++ x4)) rfl rfl rfl (p_move rfl) rfl ?_
          refine rq (u := .str ((bytesOf [(IntKind.wrap .u8 (IntKind.wrap .i64 (48 + (Int.tmod x3 10))))]) ++ x4)) rfl rfl rfl (p_assign rfl) rfl ?_
          refine rq (u := .bool true) rfl rfl rfl (p_assign rfl) rfl ?_
          refine .done rfl ?_
          refine ac_ret ?_
          show Fin _ _ _ _ _ _ _
          exact fin_ret2 (Nat.le_of_ble_eq_true rfl) (Nat.le_of_ble_eq_true rfl) rfl rfl (by obtain rfl := Option.some.inj h; rfl)
        · replace h := cond_f hc7 h
          refine ac_skip ?_
          exact ⟨⟨m5, (IntKind.wrap .i64 (Int.tdiv x3 10)), ((bytesOf [(IntKind.wrap .u8 (IntKind.wrap .i64 (48 + (Int.tmod x3 10))))]) ++ x4)⟩, h, Nat.lt_succ_self _, ⟨TVle.refl _, TVle.refl _, TVle.refl _, TVle.refl _, TVle.refl _, TVle.refl _, TVle.refl _, TVle.refl _, TVle.refl _, TVle.refl _, TVle.refl _, trivial⟩, (ResLe.refl _)⟩

set_option maxRecDepth 20000 in
set_option maxHeartbeats 4000000 in
theorem ref03_Text_fn : ∀ k : Nat, ∀ (x_0 : Fl) (r : ByteArray × Bool) (h : ref03_Text k x_0 = some r), PFn Tryd.prog 42 [encF x_0] (.tuple [.str r.1, .bool r.2]) := by
  intro k
  induction k with
  | zero => intro x_0 r h; rw [ref03_Text] at h; cases h
  | succ k ih_ref03_Text =>
    intro x_0 r h
    rw [ref03_Text] at h
    refine AFn.of Tryd.func42 rfl (Nat.le_of_ble_eq_true rfl) ?_
    refine ac_seq ?_
    refine ac_region rfl ?_
    refine rq (u := .str (⟨#[]⟩ : ByteArray)) rfl rfl rfl (p_assign rfl) rfl ?_
    refine rq (u := .bool false) rfl rfl rfl (p_assign rfl) rfl ?_
    refine .done rfl ?_
    refine ac_seq ?_
    refine ac_block ?_
    refine ac_seq ?_
    refine ac_region rfl ?_
    refine rq (u := encF x_0) rfl rfl rfl (p_move rfl) rfl ?_
    refine rq (u := encF x_0) rfl rfl rfl (p_move rfl) rfl ?_
    refine rq (u := .bool (Fl.ne x_0 x_0)) rfl rfl rfl (p_fne rfl rfl rfl) rfl ?_
    refine rq (u := .bool (Fl.ne x_0 x_0)) rfl rfl rfl (p_assign rfl) rfl ?_
    refine .done rfl ?_
    refine ac_cond rfl rfl (fun hc38 => ?_) (fun hc38 => ?_)
    · replace h := cond_t hc38 h
      refine ac_seq ?_
      refine ac_region rfl ?_
      refine rq (u := .str (⟨#[]⟩ : ByteArray)) rfl rfl rfl (p_assign rfl) rfl ?_
      refine rq (u := .bool false) rfl rfl rfl (p_assign rfl) rfl ?_
      refine .done rfl ?_
      refine ac_ret ?_
      show Fin _ _ _ _ _ _ _
      exact fin_ret2 (Nat.le_of_ble_eq_true rfl) (Nat.le_of_ble_eq_true rfl) rfl rfl (by obtain rfl := Option.some.inj h; rfl)
    · replace h := cond_f hc38 h
      refine ac_seq ?_
      refine ac_region rfl ?_
      refine rq (u := encF x_0) rfl rfl rfl (p_move rfl) rfl ?_
      refine rq (u := .bool (Fl.eq x_0 (some 0))) rfl rfl rfl (p_feq rfl rfl rfl) rfl ?_
      refine rq (u := .bool (Fl.eq x_0 (some 0))) rfl rfl rfl (p_move rfl) rfl ?_
      refine rcase 13 rfl (fun hc1 => ?_) (fun hc1 => ?_)
      · replace h := cond_t hc1 h
        refine rq (u := encF x_0) rfl (guard_at rfl rfl rfl rfl rfl) rfl (p_move rfl) rfl ?_
        obtain ⟨v2, hv2, h⟩ := bnd_some h
        refine rq (u := .bool v2) rfl (guard_at rfl rfl rfl rfl rfl) rfl (p_pfnL en_58 (ref03_Minus_fn k x_0 v2 hv2) rfl rfl (TVles.refl _)) rfl ?_
        refine rq (u := .bool v2) rfl rfl rfl (p_pick rfl rfl) rfl ?_
        refine rq (u := .bool v2) rfl rfl rfl (p_assign rfl) rfl ?_
        refine .done rfl ?_
        refine ac_cond rfl rfl (fun hc20 => ?_) (fun hc20 => ?_)
        · replace h := cond_t hc20 h
          refine ac_seq ?_
          refine ac_region rfl ?_
          refine rq (u := .str (⟨#[45, 48]⟩ : ByteArray)) rfl rfl rfl (p_assign rfl) rfl ?_
          refine rq (u := .bool true) rfl rfl rfl (p_assign rfl) rfl ?_
          refine .done rfl ?_
          refine ac_ret ?_
          show Fin _ _ _ _ _ _ _
          exact fin_ret2 (Nat.le_of_ble_eq_true rfl) (Nat.le_of_ble_eq_true rfl) rfl rfl (by obtain rfl := Option.some.inj h; rfl)
        · replace h := cond_f hc20 h
          refine ac_seq ?_
          refine ac_region rfl ?_
          refine rq (u := encF x_0) rfl rfl rfl (p_move rfl) rfl ?_
          obtain ⟨v3, hv3, h⟩ := bnd_some h
          refine rq (u := .bool v3) rfl rfl rfl (p_pfnL en_58 (ref03_Minus_fn k x_0 v3 hv3) rfl rfl (TVles.refl _)) rfl ?_
          refine rq (u := .bool v3) rfl rfl rfl (p_assign rfl) rfl ?_
          refine .done rfl ?_
          refine ac_cond rfl rfl (fun hc19 => ?_) (fun hc19 => ?_)
          · replace h := cond_t hc19 h
            refine ac_seq ?_
            refine ac_region rfl ?_
            refine rq (u := encF x_0) rfl rfl rfl (p_move rfl) rfl ?_
            refine rq (u := encF (Fl.neg x_0)) rfl rfl rfl (p_fneg rfl rfl) rfl ?_
            obtain ⟨v4, hv4, h⟩ := bnd_some h
            refine rq (u := .tuple [.str v4.1, .bool v4.2]) rfl rfl rfl (p_pfnL en_42 (ih_ref03_Text (Fl.neg x_0) v4 hv4) rfl rfl (TVles.refl _)) rfl ?_
            refine rq (u := .tuple [.str v4.1, .bool v4.2]) rfl rfl rfl (p_move rfl) rfl ?_
            refine rq (u := .str v4.1) rfl rfl rfl (p_extract rfl rfl rfl) rfl ?_
            refine rq (u := .bool v4.2) rfl rfl rfl (p_extract rfl rfl rfl) rfl ?_
            refine rq (u := .str v4.1) rfl rfl rfl (p_assign rfl) rfl ?_
            refine rq (u := .bool v4.2) rfl rfl rfl (p_assign rfl) rfl ?_
            refine .done rfl ?_
            refine ac_seq ?_
            refine ac_seq ?_
            refine ac_region rfl ?_
            refine rq (u := .bool v4.2) rfl rfl rfl (p_move rfl) rfl ?_
            refine rq (u := .bool (!v4.2)) rfl rfl rfl (p_not rfl rfl) rfl ?_
            refine .done rfl ?_
            refine ac_cond rfl rfl (fun hc6 => ?_) (fun hc6 => ?_)
            · replace h := cond_t hc6 h
              refine ac_seq ?_
              refine ac_region rfl ?_
              refine rq (u := .str (⟨#[]⟩ : ByteArray)) rfl rfl rfl (p_assign rfl) rfl ?_
              refine rq (u := .bool false) rfl rfl rfl (p_assign rfl) rfl ?_
              refine .done rfl ?_
              refine ac_ret ?_
              show Fin _ _ _ _ _ _ _
              exact fin_ret2 (Nat.le_of_ble_eq_true rfl) (Nat.le_of_ble_eq_true rfl) rfl rfl (by obtain rfl := Option.some.inj h; rfl)
            · replace h := cond_f hc6 h
              refine ac_skip ?_
              refine ac_seq ?_
              refine ac_region rfl ?_
              refine rq (u := .str v4.1) rfl rfl rfl (p_move rfl) rfl ?_
              obtain ⟨hv5, h⟩ := chk_some h
              refine rq (u := .str ((⟨#[45]⟩ : ByteArray) ++ v4.1)) rfl rfl rfl (p_sadd rfl rfl rfl (of_decide_eq_true hv5)) rfl ?_
              refine rq (u := .str ((⟨#[45]⟩ : ByteArray) ++ v4.1)) rfl rfl rfl (p_assign rfl) rfl ?_
              refine rq (u := .bool true) rfl rfl rfl (p_assign rfl) rfl ?_
              refine .done rfl ?_
              refine ac_ret ?_
              show Fin _ _ _ _ _ _ _
              exact fin_ret2 (Nat.le_of_ble_eq_true rfl) (Nat.le_of_ble_eq_true rfl) rfl rfl (by obtain rfl := Option.some.inj h; rfl)
          · replace h := cond_f hc19 h
            refine ac_seq ?_
            refine ac_region rfl ?_
            refine rq (u := encF x_0) rfl rfl rfl (p_move rfl) rfl ?_
            refine rq (u := .bool (Fl.gt x_0 (some 0))) rfl rfl rfl (p_fgt rfl rfl rfl) rfl ?_
            refine rq (u := .bool (Fl.gt x_0 (some 0))) rfl rfl rfl (p_move rfl) rfl ?_
            refine rcase 33 rfl (fun hc7 => ?_) (fun hc7 => ?_)
            · replace h := cond_t hc7 h
              refine rq (u := encF x_0) rfl (guard_at rfl rfl rfl rfl rfl) rfl (p_move rfl) rfl ?_
              refine rq (u := encF (Fl.div x_0 (some 4611686018427387904))) rfl (guard_at rfl rfl rfl rfl rfl) rfl (p_fdiv rfl rfl rfl) rfl ?_
              refine rq (u := encF x_0) rfl (guard_at rfl rfl rfl rfl rfl) rfl (p_move rfl) rfl ?_
              refine rq (u := .bool (Fl.eq (Fl.div x_0 (some 4611686018427387904)) x_0)) rfl (guard_at rfl rfl rfl rfl rfl) rfl (p_feq rfl rfl rfl) rfl ?_
              refine rq (u := .bool (Fl.eq (Fl.div x_0 (some 4611686018427387904)) x_0)) rfl rfl rfl (p_pick rfl rfl) rfl ?_
              refine rq (u := .bool (Fl.eq (Fl.div x_0 (some 4611686018427387904)) x_0)) rfl rfl rfl (p_assign rfl) rfl ?_
              refine .done rfl ?_
              refine ac_cond rfl rfl (fun hc13 => ?_) (fun hc13 => ?_)
              · replace h := cond_t hc13 h
                refine ac_seq ?_
                refine ac_region rfl ?_
                refine rq (u := .str (⟨#[105, 110, 102]⟩ : ByteArray)) rfl rfl rfl (p_assign rfl) rfl ?_
                refine rq (u := .bool true) rfl rfl rfl (p_assign rfl) rfl ?_
                refine .done rfl ?_
                refine ac_ret ?_
                show Fin _ _ _ _ _ _ _
                exact fin_ret2 (Nat.le_of_ble_eq_true rfl) (Nat.le_of_ble_eq_true rfl) rfl rfl (by obtain rfl := Option.some.inj h; rfl)
              · replace h := cond_f hc13 h
                refine ac_seq ?_
                refine ac_region rfl ?_
                refine rq (u := encF x_0) rfl rfl rfl (p_move rfl) rfl ?_
                refine rq (u := .bool (Fl.gt x_0 (some 4845873199050653696))) rfl rfl rfl (p_fgt rfl rfl rfl) rfl ?_
                refine rq (u := .bool (Fl.gt x_0 (some 4845873199050653696))) rfl rfl rfl (p_move rfl) rfl ?_
                refine rcase 42 rfl (fun hc8 => ?_) (fun hc8 => ?_)
                · replace h := cond_t hc8 h
                  refine rskip rfl (guard_at rfl rfl rfl rfl rfl) rfl ?_
                  refine rskip rfl (guard_at rfl rfl rfl rfl rfl) rfl ?_
                  refine rskip rfl (guard_at rfl rfl rfl rfl rfl) rfl ?_
                  refine rskip rfl (guard_at rfl rfl rfl rfl rfl) rfl ?_
                  refine rskip rfl (guard_at rfl rfl rfl rfl rfl) rfl ?_
                  refine rq (u := .bool true) rfl rfl rfl (p_pick rfl rfl) rfl ?_
                  refine rq (u := .bool true) rfl rfl rfl (p_assign rfl) rfl ?_
                  refine .done rfl ?_
                  refine ac_condT rfl rfl ?_
                  refine ac_seq ?_
                  refine ac_region rfl ?_
                  refine rq (u := .str (⟨#[]⟩ : ByteArray)) rfl rfl rfl (p_assign rfl) rfl ?_
                  refine rq (u := .bool false) rfl rfl rfl (p_assign rfl) rfl ?_
                  refine .done rfl ?_
                  refine ac_ret ?_
                  show Fin _ _ _ _ _ _ _
                  exact fin_ret2 (Nat.le_of_ble_eq_true rfl) (Nat.le_of_ble_eq_true rfl) rfl rfl (by obtain rfl := Option.some.inj h; rfl)
                · replace h := cond_f hc8 h
                  refine rq (u := encF x_0) rfl (guard_at rfl rfl rfl rfl rfl) rfl (p_move rfl) rfl ?_
                  refine rq (u := encF x_0) rfl (guard_at rfl rfl rfl rfl rfl) rfl (p_move rfl) rfl ?_
                  obtain ⟨v9, hv9, h⟩ := bnd_some h
                  refine rq (u := .int .i64 v9) rfl (guard_at rfl rfl rfl rfl rfl) rfl (p_cfi hv9 ft_31 ik_3 rfl rfl) rfl ?_
                  refine rq (u := encF (Fl.ofInt v9)) rfl (guard_at rfl rfl rfl rfl rfl) rfl (p_cif ik_3 ft_31 rfl rfl) rfl ?_
                  refine rq (u := .bool (Fl.ne x_0 (Fl.ofInt v9))) rfl (guard_at rfl rfl rfl rfl rfl) rfl (p_fne rfl rfl rfl) rfl ?_
                  refine rq (u := .bool (Fl.ne x_0 (Fl.ofInt v9))) rfl rfl rfl (p_pick rfl rfl) rfl ?_
                  refine rq (u := .bool (Fl.ne x_0 (Fl.ofInt v9))) rfl rfl rfl (p_assign rfl) rfl ?_
                  refine .done rfl ?_
                  refine ac_cond rfl rfl (fun hc12 => ?_) (fun hc12 => ?_)
                  · replace h := cond_t hc12 h
                    refine ac_seq ?_
                    refine ac_region rfl ?_
                    refine rq (u := .str (⟨#[]⟩ : ByteArray)) rfl rfl rfl (p_assign rfl) rfl ?_
                    refine rq (u := .bool false) rfl rfl rfl (p_assign rfl) rfl ?_
                    refine .done rfl ?_
                    refine ac_ret ?_
                    show Fin _ _ _ _ _ _ _
                    exact fin_ret2 (Nat.le_of_ble_eq_true rfl) (Nat.le_of_ble_eq_true rfl) rfl rfl (by obtain rfl := Option.some.inj h; rfl)
                  · replace h := cond_f hc12 h
                    refine ac_skip ?_
                    refine ac_seq ?_
                    refine ac_region rfl ?_
                    refine rq (u := encF x_0) rfl rfl rfl (p_move rfl) rfl ?_
                    obtain ⟨v10, hv10, h⟩ := bnd_some h
                    refine rq (u := .int .i64 v10) rfl rfl rfl (p_cfi hv10 ft_31 ik_3 rfl rfl) rfl ?_
                    obtain ⟨v11, hv11, h⟩ := bnd_some h
                    refine rq (u := .tuple [.str v11.1, .bool v11.2]) rfl rfl rfl (p_pfnL en_45 (ref02_Put_fn k v10 v11 hv11) rfl rfl (TVles.refl _)) rfl ?_
                    refine rq (u := .str v11.1) rfl rfl rfl (p_extract rfl rfl rfl) rfl ?_
                    refine rq (u := .bool v11.2) rfl rfl rfl (p_extract rfl rfl rfl) rfl ?_
                    refine rq (u := .str v11.1) rfl rfl rfl (p_assign rfl) rfl ?_
                    refine rq (u := .bool v11.2) rfl rfl rfl (p_assign rfl) rfl ?_
                    refine .done rfl ?_
                    refine ac_ret ?_
                    show Fin _ _ _ _ _ _ _
                    exact fin_ret2 (Nat.le_of_ble_eq_true rfl) (Nat.le_of_ble_eq_true rfl) rfl rfl (by obtain rfl := Option.some.inj h; rfl)
            · replace h := cond_f hc7 h
              refine rskip rfl (guard_at rfl rfl rfl rfl rfl) rfl ?_
              refine rskip rfl (guard_at rfl rfl rfl rfl rfl) rfl ?_
              refine rskip rfl (guard_at rfl rfl rfl rfl rfl) rfl ?_
              refine rskip rfl (guard_at rfl rfl rfl rfl rfl) rfl ?_
              refine rq (u := .bool false) rfl rfl rfl (p_pick rfl rfl) rfl ?_
              refine rq (u := .bool false) rfl rfl rfl (p_assign rfl) rfl ?_
              refine .done rfl ?_
              refine ac_condF rfl rfl ?_
              refine ac_seq ?_
              refine ac_region rfl ?_
              refine rq (u := encF x_0) rfl rfl rfl (p_move rfl) rfl ?_
              refine rq (u := .bool (Fl.gt x_0 (some 4845873199050653696))) rfl rfl rfl (p_fgt rfl rfl rfl) rfl ?_
              refine rq (u := .bool (Fl.gt x_0 (some 4845873199050653696))) rfl rfl rfl (p_move rfl) rfl ?_
              refine rcase 42 rfl (fun hc14 => ?_) (fun hc14 => ?_)
              · replace h := cond_t hc14 h
                refine rskip rfl (guard_at rfl rfl rfl rfl rfl) rfl ?_
                refine rskip rfl (guard_at rfl rfl rfl rfl rfl) rfl ?_
                refine rskip rfl (guard_at rfl rfl rfl rfl rfl) rfl ?_
                refine rskip rfl (guard_at rfl rfl rfl rfl rfl) rfl ?_
                refine rskip rfl (guard_at rfl rfl rfl rfl rfl) rfl ?_
                refine rq (u := .bool true) rfl rfl rfl (p_pick rfl rfl) rfl ?_
                refine rq (u := .bool true) rfl rfl rfl (p_assign rfl) rfl ?_
                refine .done rfl ?_
                refine ac_condT rfl rfl ?_
                refine ac_seq ?_
                refine ac_region rfl ?_
                refine rq (u := .str (⟨#[]⟩ : ByteArray)) rfl rfl rfl (p_assign rfl) rfl ?_
                refine rq (u := .bool false) rfl rfl rfl (p_assign rfl) rfl ?_
                refine .done rfl ?_
                refine ac_ret ?_
                show Fin _ _ _ _ _ _ _
                exact fin_ret2 (Nat.le_of_ble_eq_true rfl) (Nat.le_of_ble_eq_true rfl) rfl rfl (by obtain rfl := Option.some.inj h; rfl)
              · replace h := cond_f hc14 h
                refine rq (u := encF x_0) rfl (guard_at rfl rfl rfl rfl rfl) rfl (p_move rfl) rfl ?_
                refine rq (u := encF x_0) rfl (guard_at rfl rfl rfl rfl rfl) rfl (p_move rfl) rfl ?_
                obtain ⟨v15, hv15, h⟩ := bnd_some h
                refine rq (u := .int .i64 v15) rfl (guard_at rfl rfl rfl rfl rfl) rfl (p_cfi hv15 ft_31 ik_3 rfl rfl) rfl ?_
                refine rq (u := encF (Fl.ofInt v15)) rfl (guard_at rfl rfl rfl rfl rfl) rfl (p_cif ik_3 ft_31 rfl rfl) rfl ?_
                refine rq (u := .bool (Fl.ne x_0 (Fl.ofInt v15))) rfl (guard_at rfl rfl rfl rfl rfl) rfl (p_fne rfl rfl rfl) rfl ?_
                refine rq (u := .bool (Fl.ne x_0 (Fl.ofInt v15))) rfl rfl rfl (p_pick rfl rfl) rfl ?_
                refine rq (u := .bool (Fl.ne x_0 (Fl.ofInt v15))) rfl rfl rfl (p_assign rfl) rfl ?_
                refine .done rfl ?_
                refine ac_cond rfl rfl (fun hc18 => ?_) (fun hc18 => ?_)
                · replace h := cond_t hc18 h
                  refine ac_seq ?_
                  refine ac_region rfl ?_
                  refine rq (u := .str (⟨#[]⟩ : ByteArray)) rfl rfl rfl (p_assign rfl) rfl ?_
                  refine rq (u := .bool false) rfl rfl rfl (p_assign rfl) rfl ?_
                  refine .done rfl ?_
                  refine ac_ret ?_
                  show Fin _ _ _ _ _ _ _
                  exact fin_ret2 (Nat.le_of_ble_eq_true rfl) (Nat.le_of_ble_eq_true rfl) rfl rfl (by obtain rfl := Option.some.inj h; rfl)
                · replace h := cond_f hc18 h
                  refine ac_skip ?_
                  refine ac_seq ?_
                  refine ac_region rfl ?_
                  refine rq (u := encF x_0) rfl rfl rfl (p_move rfl) rfl ?_
                  obtain ⟨v16, hv16, h⟩ := bnd_some h
                  refine rq (u := .int .i64 v16) rfl rfl rfl (p_cfi hv16 ft_31 ik_3 rfl rfl) rfl ?_
                  obtain ⟨v17, hv17, h⟩ := bnd_some h
                  refine rq (u := .tuple [.str v17.1, .bool v17.2]) rfl rfl rfl (p_pfnL en_45 (ref02_Put_fn k v16 v17 hv17) rfl rfl (TVles.refl _)) rfl ?_
                  refine rq (u := .str v17.1) rfl rfl rfl (p_extract rfl rfl rfl) rfl ?_
                  refine rq (u := .bool v17.2) rfl rfl rfl (p_extract rfl rfl rfl) rfl ?_
                  refine rq (u := .str v17.1) rfl rfl rfl (p_assign rfl) rfl ?_
                  refine rq (u := .bool v17.2) rfl rfl rfl (p_assign rfl) rfl ?_
                  refine .done rfl ?_
                  refine ac_ret ?_
                  show Fin _ _ _ _ _ _ _
                  exact fin_ret2 (Nat.le_of_ble_eq_true rfl) (Nat.le_of_ble_eq_true rfl) rfl rfl (by obtain rfl := Option.some.inj h; rfl)
      · replace h := cond_f hc1 h
        refine rskip rfl (guard_at rfl rfl rfl rfl rfl) rfl ?_
        refine rskip rfl (guard_at rfl rfl rfl rfl rfl) rfl ?_
        refine rq (u := .bool false) rfl rfl rfl (p_pick rfl rfl) rfl ?_
        refine rq (u := .bool false) rfl rfl rfl (p_assign rfl) rfl ?_
        refine .done rfl ?_
        refine ac_condF rfl rfl ?_
        refine ac_seq ?_
        refine ac_region rfl ?_
        refine rq (u := encF x_0) rfl rfl rfl (p_move rfl) rfl ?_
        obtain ⟨v21, hv21, h⟩ := bnd_some h
        refine rq (u := .bool v21) rfl rfl rfl (p_pfnL en_58 (ref03_Minus_fn k x_0 v21 hv21) rfl rfl (TVles.refl _)) rfl ?_
        refine rq (u := .bool v21) rfl rfl rfl (p_assign rfl) rfl ?_
        refine .done rfl ?_
        refine ac_cond rfl rfl (fun hc37 => ?_) (fun hc37 => ?_)
        · replace h := cond_t hc37 h
          refine ac_seq ?_
          refine ac_region rfl ?_
          refine rq (u := encF x_0) rfl rfl rfl (p_move rfl) rfl ?_
          refine rq (u := encF (Fl.neg x_0)) rfl rfl rfl (p_fneg rfl rfl) rfl ?_
          obtain ⟨v22, hv22, h⟩ := bnd_some h
          refine rq (u := .tuple [.str v22.1, .bool v22.2]) rfl rfl rfl (p_pfnL en_42 (ih_ref03_Text (Fl.neg x_0) v22 hv22) rfl rfl (TVles.refl _)) rfl ?_
          refine rq (u := .tuple [.str v22.1, .bool v22.2]) rfl rfl rfl (p_move rfl) rfl ?_
          refine rq (u := .str v22.1) rfl rfl rfl (p_extract rfl rfl rfl) rfl ?_
          refine rq (u := .bool v22.2) rfl rfl rfl (p_extract rfl rfl rfl) rfl ?_
          refine rq (u := .str v22.1) rfl rfl rfl (p_assign rfl) rfl ?_
          refine rq (u := .bool v22.2) rfl rfl rfl (p_assign rfl) rfl ?_
          refine .done rfl ?_
          refine ac_seq ?_
          refine ac_seq ?_
          refine ac_region rfl ?_
          refine rq (u := .bool v22.2) rfl rfl rfl (p_move rfl) rfl ?_
          refine rq (u := .bool (!v22.2)) rfl rfl rfl (p_not rfl rfl) rfl ?_
          refine .done rfl ?_
          refine ac_cond rfl rfl (fun hc24 => ?_) (fun hc24 => ?_)
          · replace h := cond_t hc24 h
            refine ac_seq ?_
            refine ac_region rfl ?_
            refine rq (u := .str (⟨#[]⟩ : ByteArray)) rfl rfl rfl (p_assign rfl) rfl ?_
            refine rq (u := .bool false) rfl rfl rfl (p_assign rfl) rfl ?_
            refine .done rfl ?_
            refine ac_ret ?_
            show Fin _ _ _ _ _ _ _
            exact fin_ret2 (Nat.le_of_ble_eq_true rfl) (Nat.le_of_ble_eq_true rfl) rfl rfl (by obtain rfl := Option.some.inj h; rfl)
          · replace h := cond_f hc24 h
            refine ac_skip ?_
            refine ac_seq ?_
            refine ac_region rfl ?_
            refine rq (u := .str v22.1) rfl rfl rfl (p_move rfl) rfl ?_
            obtain ⟨hv23, h⟩ := chk_some h
            refine rq (u := .str ((⟨#[45]⟩ : ByteArray) ++ v22.1)) rfl rfl rfl (p_sadd rfl rfl rfl (of_decide_eq_true hv23)) rfl ?_
            refine rq (u := .str ((⟨#[45]⟩ : ByteArray) ++ v22.1)) rfl rfl rfl (p_assign rfl) rfl ?_
            refine rq (u := .bool true) rfl rfl rfl (p_assign rfl) rfl ?_
            refine .done rfl ?_
            refine ac_ret ?_
            show Fin _ _ _ _ _ _ _
            exact fin_ret2 (Nat.le_of_ble_eq_true rfl) (Nat.le_of_ble_eq_true rfl) rfl rfl (by obtain rfl := Option.some.inj h; rfl)
        · replace h := cond_f hc37 h
          refine ac_seq ?_
          refine ac_region rfl ?_
          refine rq (u := encF x_0) rfl rfl rfl (p_move rfl) rfl ?_
          refine rq (u := .bool (Fl.gt x_0 (some 0))) rfl rfl rfl (p_fgt rfl rfl rfl) rfl ?_
          refine rq (u := .bool (Fl.gt x_0 (some 0))) rfl rfl rfl (p_move rfl) rfl ?_
          refine rcase 33 rfl (fun hc25 => ?_) (fun hc25 => ?_)
          · replace h := cond_t hc25 h
            refine rq (u := encF x_0) rfl (guard_at rfl rfl rfl rfl rfl) rfl (p_move rfl) rfl ?_
            refine rq (u := encF (Fl.div x_0 (some 4611686018427387904))) rfl (guard_at rfl rfl rfl rfl rfl) rfl (p_fdiv rfl rfl rfl) rfl ?_
            refine rq (u := encF x_0) rfl (guard_at rfl rfl rfl rfl rfl) rfl (p_move rfl) rfl ?_
            refine rq (u := .bool (Fl.eq (Fl.div x_0 (some 4611686018427387904)) x_0)) rfl (guard_at rfl rfl rfl rfl rfl) rfl (p_feq rfl rfl rfl) rfl ?_
            refine rq (u := .bool (Fl.eq (Fl.div x_0 (some 4611686018427387904)) x_0)) rfl rfl rfl (p_pick rfl rfl) rfl ?_
            refine rq (u := .bool (Fl.eq (Fl.div x_0 (some 4611686018427387904)) x_0)) rfl rfl rfl (p_assign rfl) rfl ?_
            refine .done rfl ?_
            refine ac_cond rfl rfl (fun hc31 => ?_) (fun hc31 => ?_)
            · replace h := cond_t hc31 h
              refine ac_seq ?_
              refine ac_region rfl ?_
              refine rq (u := .str (⟨#[105, 110, 102]⟩ : ByteArray)) rfl rfl rfl (p_assign rfl) rfl ?_
              refine rq (u := .bool true) rfl rfl rfl (p_assign rfl) rfl ?_
              refine .done rfl ?_
              refine ac_ret ?_
              show Fin _ _ _ _ _ _ _
              exact fin_ret2 (Nat.le_of_ble_eq_true rfl) (Nat.le_of_ble_eq_true rfl) rfl rfl (by obtain rfl := Option.some.inj h; rfl)
            · replace h := cond_f hc31 h
              refine ac_seq ?_
              refine ac_region rfl ?_
              refine rq (u := encF x_0) rfl rfl rfl (p_move rfl) rfl ?_
              refine rq (u := .bool (Fl.gt x_0 (some 4845873199050653696))) rfl rfl rfl (p_fgt rfl rfl rfl) rfl ?_
              refine rq (u := .bool (Fl.gt x_0 (some 4845873199050653696))) rfl rfl rfl (p_move rfl) rfl ?_
              refine rcase 42 rfl (fun hc26 => ?_) (fun hc26 => ?_)
              · replace h := cond_t hc26 h
                refine rskip rfl (guard_at rfl rfl rfl rfl rfl) rfl ?_
                refine rskip rfl (guard_at rfl rfl rfl rfl rfl) rfl ?_
                refine rskip rfl (guard_at rfl rfl rfl rfl rfl) rfl ?_
                refine rskip rfl (guard_at rfl rfl rfl rfl rfl) rfl ?_
                refine rskip rfl (guard_at rfl rfl rfl rfl rfl) rfl ?_
                refine rq (u := .bool true) rfl rfl rfl (p_pick rfl rfl) rfl ?_
                refine rq (u := .bool true) rfl rfl rfl (p_assign rfl) rfl ?_
                refine .done rfl ?_
                refine ac_condT rfl rfl ?_
                refine ac_seq ?_
                refine ac_region rfl ?_
                refine rq (u := .str (⟨#[]⟩ : ByteArray)) rfl rfl rfl (p_assign rfl) rfl ?_
                refine rq (u := .bool false) rfl rfl rfl (p_assign rfl) rfl ?_
                refine .done rfl ?_
                refine ac_ret ?_
                show Fin _ _ _ _ _ _ _
                exact fin_ret2 (Nat.le_of_ble_eq_true rfl) (Nat.le_of_ble_eq_true rfl) rfl rfl (by obtain rfl := Option.some.inj h; rfl)
              · replace h := cond_f hc26 h
                refine rq (u := encF x_0) rfl (guard_at rfl rfl rfl rfl rfl) rfl (p_move rfl) rfl ?_
                refine rq (u := encF x_0) rfl (guard_at rfl rfl rfl rfl rfl) rfl (p_move rfl) rfl ?_
                obtain ⟨v27, hv27, h⟩ := bnd_some h
                refine rq (u := .int .i64 v27) rfl (guard_at rfl rfl rfl rfl rfl) rfl (p_cfi hv27 ft_31 ik_3 rfl rfl) rfl ?_
                refine rq (u := encF (Fl.ofInt v27)) rfl (guard_at rfl rfl rfl rfl rfl) rfl (p_cif ik_3 ft_31 rfl rfl) rfl ?_
                refine rq (u := .bool (Fl.ne x_0 (Fl.ofInt v27))) rfl (guard_at rfl rfl rfl rfl rfl) rfl (p_fne rfl rfl rfl) rfl ?_
                refine rq (u := .bool (Fl.ne x_0 (Fl.ofInt v27))) rfl rfl rfl (p_pick rfl rfl) rfl ?_
                refine rq (u := .bool (Fl.ne x_0 (Fl.ofInt v27))) rfl rfl rfl (p_assign rfl) rfl ?_
                refine .done rfl ?_
                refine ac_cond rfl rfl (fun hc30 => ?_) (fun hc30 => ?_)
                · replace h := cond_t hc30 h
                  refine ac_seq ?_
                  refine ac_region rfl ?_
                  refine rq (u := .str (⟨#[]⟩ : ByteArray)) rfl rfl rfl (p_assign rfl) rfl ?_
                  refine rq (u := .bool false) rfl rfl rfl (p_assign rfl) rfl ?_
                  refine .done rfl ?_
                  refine ac_ret ?_
                  show Fin _ _ _ _ _ _ _
                  exact fin_ret2 (Nat.le_of_ble_eq_true rfl) (Nat.le_of_ble_eq_true rfl) rfl rfl (by obtain rfl := Option.some.inj h; rfl)
                · replace h := cond_f hc30 h
                  refine ac_skip ?_
                  refine ac_seq ?_
                  refine ac_region rfl ?_
                  refine rq (u := encF x_0) rfl rfl rfl (p_move rfl) rfl ?_
                  obtain ⟨v28, hv28, h⟩ := bnd_some h
                  refine rq (u := .int .i64 v28) rfl rfl rfl (p_cfi hv28 ft_31 ik_3 rfl rfl) rfl ?_
                  obtain ⟨v29, hv29, h⟩ := bnd_some h
                  refine rq (u := .tuple [.str v29.1, .bool v29.2]) rfl rfl rfl (p_pfnL en_45 (ref02_Put_fn k v28 v29 hv29) rfl rfl (TVles.refl _)) rfl ?_
                  refine rq (u := .str v29.1) rfl rfl rfl (p_extract rfl rfl rfl) rfl ?_
                  refine rq (u := .bool v29.2) rfl rfl rfl (p_extract rfl rfl rfl) rfl ?_
                  refine rq (u := .str v29.1) rfl rfl rfl (p_assign rfl) rfl ?_
                  refine rq (u := .bool v29.2) rfl rfl rfl (p_assign rfl) rfl ?_
                  refine .done rfl ?_
                  refine ac_ret ?_
                  show Fin _ _ _ _ _ _ _
                  exact fin_ret2 (Nat.le_of_ble_eq_true rfl) (Nat.le_of_ble_eq_true rfl) rfl rfl (by obtain rfl := Option.some.inj h; rfl)
          · replace h := cond_f hc25 h
            refine rskip rfl (guard_at rfl rfl rfl rfl rfl) rfl ?_
            refine rskip rfl (guard_at rfl rfl rfl rfl rfl) rfl ?_
            refine rskip rfl (guard_at rfl rfl rfl rfl rfl) rfl ?_
            refine rskip rfl (guard_at rfl rfl rfl rfl rfl) rfl ?_
            refine rq (u := .bool false) rfl rfl rfl (p_pick rfl rfl) rfl ?_
            refine rq (u := .bool false) rfl rfl rfl (p_assign rfl) rfl ?_
            refine .done rfl ?_
            refine ac_condF rfl rfl ?_
            refine ac_seq ?_
            refine ac_region rfl ?_
            refine rq (u := encF x_0) rfl rfl rfl (p_move rfl) rfl ?_
            refine rq (u := .bool (Fl.gt x_0 (some 4845873199050653696))) rfl rfl rfl (p_fgt rfl rfl rfl) rfl ?_
            refine rq (u := .bool (Fl.gt x_0 (some 4845873199050653696))) rfl rfl rfl (p_move rfl) rfl ?_
            refine rcase 42 rfl (fun hc32 => ?_) (fun hc32 => ?_)
            · replace h := cond_t hc32 h
              refine rskip rfl (guard_at rfl rfl rfl rfl rfl) rfl ?_
              refine rskip rfl (guard_at rfl rfl rfl rfl rfl) rfl ?_
              refine rskip rfl (guard_at rfl rfl rfl rfl rfl) rfl ?_
              refine rskip rfl (guard_at rfl rfl rfl rfl rfl) rfl ?_
              refine rskip rfl (guard_at rfl rfl rfl rfl rfl) rfl ?_
              refine rq (u := .bool true) rfl rfl rfl (p_pick rfl rfl) rfl ?_
              refine rq (u := .bool true) rfl rfl rfl (p_assign rfl) rfl ?_
              refine .done rfl ?_
              refine ac_condT rfl rfl ?_
              refine ac_seq ?_
              refine ac_region rfl ?_
              refine rq (u := .str (⟨#[]⟩ : ByteArray)) rfl rfl rfl (p_assign rfl) rfl ?_
              refine rq (u := .bool false) rfl rfl rfl (p_assign rfl) rfl ?_
              refine .done rfl ?_
              refine ac_ret ?_
              show Fin _ _ _ _ _ _ _
              exact fin_ret2 (Nat.le_of_ble_eq_true rfl) (Nat.le_of_ble_eq_true rfl) rfl rfl (by obtain rfl := Option.some.inj h; rfl)
            · replace h := cond_f hc32 h
              refine rq (u := encF x_0) rfl (guard_at rfl rfl rfl rfl rfl) rfl (p_move rfl) rfl ?_
              refine rq (u := encF x_0) rfl (guard_at rfl rfl rfl rfl rfl) rfl (p_move rfl) rfl ?_
              obtain ⟨v33, hv33, h⟩ := bnd_some h
              refine rq (u := .int .i64 v33) rfl (guard_at rfl rfl rfl rfl rfl) rfl (p_cfi hv33 ft_31 ik_3 rfl rfl) rfl ?_
              refine rq (u := encF (Fl.ofInt v33)) rfl (guard_at rfl rfl rfl rfl rfl) rfl (p_cif ik_3 ft_31 rfl rfl) rfl ?_
              refine rq (u := .bool (Fl.ne x_0 (Fl.ofInt v33))) rfl (guard_at rfl rfl rfl rfl rfl) rfl (p_fne rfl rfl rfl) rfl ?_
              refine rq (u := .bool (Fl.ne x_0 (Fl.ofInt v33))) rfl rfl rfl (p_pick rfl rfl) rfl ?_
              refine rq (u := .bool (Fl.ne x_0 (Fl.ofInt v33))) rfl rfl rfl (p_assign rfl) rfl ?_
              refine .done rfl ?_
              refine ac_cond rfl rfl (fun hc36 => ?_) (fun hc36 => ?_)
              · replace h := cond_t hc36 h
                refine ac_seq ?_
                refine ac_region rfl ?_
                refine rq (u := .str (⟨#[]⟩ : ByteArray)) rfl rfl rfl (p_assign rfl) rfl ?_
                refine rq (u := .bool false) rfl rfl rfl (p_assign rfl) rfl ?_
                refine .done rfl ?_
                refine ac_ret ?_
                show Fin _ _ _ _ _ _ _
                exact fin_ret2 (Nat.le_of_ble_eq_true rfl) (Nat.le_of_ble_eq_true rfl) rfl rfl (by obtain rfl := Option.some.inj h; rfl)
              · replace h := cond_f hc36 h
                refine ac_skip ?_
                refine ac_seq ?_
                refine ac_region rfl ?_
                refine rq (u := encF x_0) rfl rfl rfl (p_move rfl) rfl ?_
                obtain ⟨v34, hv34, h⟩ := bnd_some h
                refine rq (u := .int .i64 v34) rfl rfl rfl (p_cfi hv34 ft_31 ik_3 rfl rfl) rfl ?_
                obtain ⟨v35, hv35, h⟩ := bnd_some h
                refine rq (u := .tuple [.str v35.1, .bool v35.2]) rfl rfl rfl (p_pfnL en_45 (ref02_Put_fn k v34 v35 hv35) rfl rfl (TVles.refl _)) rfl ?_
                refine rq (u := .str v35.1) rfl rfl rfl (p_extract rfl rfl rfl) rfl ?_
                refine rq (u := .bool v35.2) rfl rfl rfl (p_extract rfl rfl rfl) rfl ?_
                refine rq (u := .str v35.1) rfl rfl rfl (p_assign rfl) rfl ?_
                refine rq (u := .bool v35.2) rfl rfl rfl (p_assign rfl) rfl ?_
                refine .done rfl ?_
                refine ac_ret ?_
                show Fin _ _ _ _ _ _ _
                exact fin_ret2 (Nat.le_of_ble_eq_true rfl) (Nat.le_of_ble_eq_true rfl) rfl rfl (by obtain rfl := Option.some.inj h; rfl)
end Go.Proofs.YtdkiijhmmmfciaaDoor
