/- The code computes the functions. Printed by tr.py. -/
import Derived.Test.YtdkiijhmmmfciaaDoorG0
import Derived.Test.YtdkiijhmmmfciaaDoorG1
set_option linter.unusedVariables false
set_option linter.unusedSimpArgs false
namespace Go.Proofs.YtdkiijhmmmfciaaDoor
open Go
set_option maxRecDepth 20000 in
set_option maxHeartbeats 4000000 in
theorem ref11_Small_fn : ∀ k : Nat, ∀ (e : GExpr) (deep : Int) (r : Bool) (h : ref11_Small k e deep = some r), PFn Tryd.prog 10 [.agg (GExpr.cells e), .int .i64 deep] (.bool r) := by
  intro k
  induction k with
  | zero => intro e deep r h; rw [ref11_Small] at h; cases h
  | succ k ih_ref11_Small =>
    intro e deep r h
    rw [ref11_Small] at h
    refine AFn.of Tryd.func10 rfl (Nat.le_of_ble_eq_true rfl) ?_
    refine ac_seq ?_
    refine ac_region rfl ?_
    refine rbox rfl rfl rfl rfl rfl fun b1 => ?_
    refine rq (u := .bool false) rfl rfl rfl (p_assign rfl) rfl ?_
    refine .done rfl ?_
    refine ac_seq ?_
    refine ac_seq ?_
    refine ac_region rfl ?_
    refine rq (u := .int .i64 deep) rfl rfl rfl (p_move rfl) rfl ?_
    refine rq (u := .bool (decide (deep < 0))) rfl rfl rfl (p_lss rfl rfl rfl) rfl ?_
    refine rq (u := .bool (decide (deep < 0))) rfl rfl rfl (p_move rfl) rfl ?_
    refine rcase 8 rfl (fun hc1 => ?_) (fun hc1 => ?_)
    · replace h := cond_t hc1 h
      refine rskip rfl (guard_at rfl rfl rfl rfl rfl) rfl ?_
      refine rskip rfl (guard_at rfl rfl rfl rfl rfl) rfl ?_
      refine rskip rfl (guard_at rfl rfl rfl rfl rfl) rfl ?_
      refine rskip rfl (guard_at rfl rfl rfl rfl rfl) rfl ?_
      refine rq (u := .bool true) rfl rfl rfl (p_pick rfl rfl) rfl ?_
      refine rq (u := .bool true) rfl rfl rfl (p_move rfl) rfl ?_
      refine rskip rfl (guard_at rfl rfl rfl rfl rfl) rfl ?_
      refine rskip rfl (guard_at rfl rfl rfl rfl rfl) rfl ?_
      refine rskip rfl (guard_at rfl rfl rfl rfl rfl) rfl ?_
      refine rskip rfl (guard_at rfl rfl rfl rfl rfl) rfl ?_
      refine rq (u := .bool true) rfl rfl rfl (p_pick rfl rfl) rfl ?_
      refine .done rfl ?_
      refine ac_condT rfl rfl ?_
      refine ac_seq ?_
      refine ac_region rfl ?_
      refine rq (u := .bool false) rfl rfl rfl (p_assign rfl) rfl ?_
      refine .done rfl ?_
      refine ac_ret ?_
      show Fin _ _ _ _ _ _ _
      exact fin_ret (Nat.le_of_ble_eq_true rfl) rfl (by obtain rfl := Option.some.inj h; rfl)
    · replace h := cond_f hc1 h
      refine rq (u := .ptr b1 5) rfl (guard_at rfl rfl rfl rfl rfl) rfl (p_field_ptr fl_33_5 rfl rfl) rfl ?_
      refine rq (u := .slice .ro 6 (e.Of.map GExpr.enc)) rfl (guard_at rfl rfl rfl rfl rfl) rfl (p_load_ptr ti_28 (fun _ => rfl) rfl rfl (.head _) (Nat.le_of_ble_eq_true rfl)) rfl ?_
      refine rq (u := .int .i64 (e.Of.length : Int)) rfl (guard_at rfl rfl rfl rfl rfl) rfl (p_lenm is_28 rfl rfl) rfl ?_
      refine rq (u := .bool (decide (6 < (e.Of.length : Int)))) rfl (guard_at rfl rfl rfl rfl rfl) rfl (p_gtr rfl rfl rfl) rfl ?_
      refine rq (u := .bool (decide (6 < (e.Of.length : Int)))) rfl rfl rfl (p_pick rfl rfl) rfl ?_
      refine rq (u := .bool (decide (6 < (e.Of.length : Int)))) rfl rfl rfl (p_move rfl) rfl ?_
      refine rcase 14 rfl (fun hc2 => ?_) (fun hc2 => ?_)
      · replace h := cond_t hc2 h
        refine rskip rfl (guard_at rfl rfl rfl rfl rfl) rfl ?_
        refine rskip rfl (guard_at rfl rfl rfl rfl rfl) rfl ?_
        refine rskip rfl (guard_at rfl rfl rfl rfl rfl) rfl ?_
        refine rskip rfl (guard_at rfl rfl rfl rfl rfl) rfl ?_
        refine rq (u := .bool true) rfl rfl rfl (p_pick rfl rfl) rfl ?_
        refine .done rfl ?_
        refine ac_condT rfl rfl ?_
        refine ac_seq ?_
        refine ac_region rfl ?_
        refine rq (u := .bool false) rfl rfl rfl (p_assign rfl) rfl ?_
        refine .done rfl ?_
        refine ac_ret ?_
        show Fin _ _ _ _ _ _ _
        exact fin_ret (Nat.le_of_ble_eq_true rfl) rfl (by obtain rfl := Option.some.inj h; rfl)
      · replace h := cond_f hc2 h
        refine rq (u := .ptr b1 2) rfl (guard_at rfl rfl rfl rfl rfl) rfl (p_field_ptr fl_33_2 rfl rfl) rfl ?_
        refine rq (u := .slice .ro 2 (e.Ranges.map GRange.enc)) rfl (guard_at rfl rfl rfl rfl rfl) rfl (p_load_ptr ti_30 (fun _ => rfl) rfl rfl (.head _) (Nat.le_of_ble_eq_true rfl)) rfl ?_
        refine rq (u := .int .i64 (e.Ranges.length : Int)) rfl (guard_at rfl rfl rfl rfl rfl) rfl (p_lenm is_30 rfl rfl) rfl ?_
        refine rq (u := .bool (decide (8 < (e.Ranges.length : Int)))) rfl (guard_at rfl rfl rfl rfl rfl) rfl (p_gtr rfl rfl rfl) rfl ?_
        refine rq (u := .bool (decide (8 < (e.Ranges.length : Int)))) rfl rfl rfl (p_pick rfl rfl) rfl ?_
        refine .done rfl ?_
        refine ac_cond rfl rfl (fun hc10 => ?_) (fun hc10 => ?_)
        · replace h := cond_t hc10 h
          refine ac_seq ?_
          refine ac_region rfl ?_
          refine rq (u := .bool false) rfl rfl rfl (p_assign rfl) rfl ?_
          refine .done rfl ?_
          refine ac_ret ?_
          show Fin _ _ _ _ _ _ _
          exact fin_ret (Nat.le_of_ble_eq_true rfl) rfl (by obtain rfl := Option.some.inj h; rfl)
        · replace h := cond_f hc10 h
          refine ac_skip ?_
          refine ac_seq ?_
          refine ac_seq ?_
          refine ac_region rfl ?_
          refine rq (u := .int .i64 0) rfl rfl rfl (p_assign rfl) rfl ?_
          refine .done rfl ?_
          refine ac_block ?_
          refine ac_turns (σ := Nat × Int) (fun (⟨m4, x3⟩ : Nat × Int) => [(0, .agg (GExpr.cells e)), (1, .int .i64 deep), (2, .ptr b1 0), (4, .bool false), (5, .int .i64 x3), (6, .int .i64 deep), (7, .bool (decide (deep < 0))), (8, .bool false), (9, .ptr b1 5), (10, .slice .ro 6 (e.Of.map GExpr.enc)), (11, .int .i64 (e.Of.length : Int)), (12, .bool (decide (6 < (e.Of.length : Int)))), (13, .bool (decide (6 < (e.Of.length : Int)))), (14, .bool false), (15, .ptr b1 2), (16, .slice .ro 2 (e.Ranges.map GRange.enc)), (17, .int .i64 (e.Ranges.length : Int)), (18, .bool (decide (8 < (e.Ranges.length : Int)))), (19, .bool (decide (8 < (e.Ranges.length : Int))))]) (fun (⟨m4, x3⟩ : Nat × Int) => [(b1, RS.box [.int .i64 e.Kind, .int .i64 e.Field, .slice .ro 2 (e.Ranges.map GRange.enc), encF e.Low, encF e.High, .slice .ro 6 (e.Of.map GExpr.enc)])]) (fun x => x.1) (fun (⟨m4, x3⟩ : Nat × Int) => ref11_Small_L0 (ref11_Small k) e deep (fun x9 => some true) m4 x3 = some r) ⟨k, 0⟩ h ⟨TVle.refl _, TVle.refl _, TVle.refl _, TVle.refl _, TVle.refl _, TVle.refl _, TVle.refl _, TVle.refl _, TVle.refl _, TVle.refl _, TVle.refl _, TVle.refl _, TVle.refl _, TVle.refl _, TVle.refl _, TVle.refl _, TVle.refl _, TVle.refl _, TVle.refl _, trivial⟩ (ResLe.refl _) ?_
          rintro ⟨m4, x3⟩ h
          replace h : ref11_Small_L0 (ref11_Small k) e deep (fun x9 => some true) m4 x3 = some r := h
          show ACode _ _ _ [(0, .agg (GExpr.cells e)), (1, .int .i64 deep), (2, .ptr b1 0), (4, .bool false), (5, .int .i64 x3), (6, .int .i64 deep), (7, .bool (decide (deep < 0))), (8, .bool false), (9, .ptr b1 5), (10, .slice .ro 6 (e.Of.map GExpr.enc)), (11, .int .i64 (e.Of.length : Int)), (12, .bool (decide (6 < (e.Of.length : Int)))), (13, .bool (decide (6 < (e.Of.length : Int)))), (14, .bool false), (15, .ptr b1 2), (16, .slice .ro 2 (e.Ranges.map GRange.enc)), (17, .int .i64 (e.Ranges.length : Int)), (18, .bool (decide (8 < (e.Ranges.length : Int)))), (19, .bool (decide (8 < (e.Ranges.length : Int))))] [(b1, RS.box [.int .i64 e.Kind, .int .i64 e.Field, .slice .ro 2 (e.Ranges.map GRange.enc), encF e.Low, encF e.High, .slice .ro 6 (e.Of.map GExpr.enc)])] _
          cases m4 with
          | zero => rw [ref11_Small_L0] at h; cases h
          | succ m4 =>
            rw [ref11_Small_L0] at h
            refine ac_seq ?_
            refine ac_seq ?_
            refine ac_region rfl ?_
            refine rq (u := .int .i64 x3) rfl rfl rfl (p_move rfl) rfl ?_
            refine rq (u := .ptr b1 5) rfl rfl rfl (p_field_ptr fl_33_5 rfl rfl) rfl ?_
            refine rq (u := .slice .ro 6 (e.Of.map GExpr.enc)) rfl rfl rfl (p_load_ptr ti_28 (fun _ => rfl) rfl rfl (.head _) (Nat.le_of_ble_eq_true rfl)) rfl ?_
            refine rq (u := .int .i64 (e.Of.length : Int)) rfl rfl rfl (p_lenm is_28 rfl rfl) rfl ?_
            refine rq (u := .bool (decide (x3 < (e.Of.length : Int)))) rfl rfl rfl (p_lss rfl rfl rfl) rfl ?_
            refine .done rfl ?_
            refine ac_cond rfl rfl (fun hc8 => ?_) (fun hc8 => ?_)
            · replace h := cond_t hc8 h
              refine ac_skip ?_
              refine ac_seq ?_
              refine ac_block ?_
              refine ac_seq ?_
              refine ac_region rfl ?_
              refine rq (u := .ptr b1 5) rfl rfl rfl (p_field_ptr fl_33_5 rfl rfl) rfl ?_
              refine rq (u := .slice .ro 6 (e.Of.map GExpr.enc)) rfl rfl rfl (p_load_ptr ti_28 (fun _ => rfl) rfl rfl (.head _) (Nat.le_of_ble_eq_true rfl)) rfl ?_
              refine rq (u := .int .i64 x3) rfl rfl rfl (p_move rfl) rfl ?_
              obtain ⟨v5, hv5, h⟩ := bnd_some h
              refine rq (u := .rptr [.int .i64 v5.Kind, .int .i64 v5.Field, .slice .ro 2 (v5.Ranges.map GRange.enc), encF v5.Low, encF v5.High, .slice .ro 6 (v5.Of.map GExpr.enc)]) rfl rfl rfl (p_ix GExpr.enc_eq sl_28 hv5 rfl rfl rfl) rfl ?_
              refine rq (u := .agg (GExpr.cells v5)) rfl rfl rfl (p_load_rptr ti_33 nofun rfl rfl (Nat.le_of_ble_eq_true rfl)) rfl ?_
              refine rq (u := .int .i64 deep) rfl rfl rfl (p_move rfl) rfl ?_
              refine rq (u := .int .i64 (IntKind.wrap .i64 (deep - 1))) rfl rfl rfl (p_sub rfl rfl rfl) rfl ?_
              obtain ⟨v6, hv6, h⟩ := bnd_some h
              refine rq (u := .bool v6) rfl rfl rfl (p_pfnL en_10 (ih_ref11_Small v5 (IntKind.wrap .i64 (deep - 1)) v6 hv6) rfl rfl (TVles.refl _)) rfl ?_
              refine rq (u := .bool (!v6)) rfl rfl rfl (p_not rfl rfl) rfl ?_
              refine .done rfl ?_
              refine ac_cond rfl rfl (fun hc7 => ?_) (fun hc7 => ?_)
              · replace h := cond_t hc7 h
                refine ac_seq ?_
                refine ac_region rfl ?_
                refine rq (u := .bool false) rfl rfl rfl (p_assign rfl) rfl ?_
                refine .done rfl ?_
                refine ac_ret ?_
                show Fin _ _ _ _ _ _ _
                exact fin_ret (Nat.le_of_ble_eq_true rfl) rfl (by obtain rfl := Option.some.inj h; rfl)
              · replace h := cond_f hc7 h
                refine ac_skip ?_
                refine ac_region rfl ?_
                refine rq (u := .int .i64 x3) rfl rfl rfl (p_move rfl) rfl ?_
                refine rq (u := .int .i64 (IntKind.wrap .i64 (x3 + 1))) rfl rfl rfl (p_add rfl rfl rfl) rfl ?_
                refine rq (u := .int .i64 (IntKind.wrap .i64 (x3 + 1))) rfl rfl rfl (p_assign rfl) rfl ?_
                refine .done rfl ?_
                exact ⟨⟨m4, (IntKind.wrap .i64 (x3 + 1))⟩, h, Nat.lt_succ_self _, ⟨TVle.refl _, TVle.refl _, TVle.refl _, TVle.refl _, TVle.refl _, TVle.refl _, TVle.refl _, TVle.refl _, TVle.refl _, TVle.refl _, TVle.refl _, TVle.refl _, TVle.refl _, TVle.refl _, TVle.refl _, TVle.refl _, TVle.refl _, TVle.refl _, TVle.refl _, trivial⟩, (ResLe.refl _)⟩
            · replace h := cond_f hc8 h
              refine ac_exit ?_
              refine ac_seq ?_
              refine ac_region rfl ?_
              refine rq (u := .bool true) rfl rfl rfl (p_assign rfl) rfl ?_
              refine .done rfl ?_
              refine ac_ret ?_
              show Fin _ _ _ _ _ _ _
              exact fin_ret (Nat.le_of_ble_eq_true rfl) rfl (by obtain rfl := Option.some.inj h; rfl)

set_option maxRecDepth 20000 in
set_option maxHeartbeats 4000000 in
theorem ref11_Few_fn : ∀ k : Nat, ∀ (l : List GRule) (most : Int) (r : Bool) (h : ref11_Few k l most = some r), PFn Tryd.prog 6 [.slice .ro 11 (l.map GRule.enc), .int .i64 most] (.bool r) := by
  intro k
  intro l most r h
  rw [ref11_Few] at h
  refine AFn.of Tryd.func6 rfl (Nat.le_of_ble_eq_true rfl) ?_
  refine ac_seq ?_
  refine ac_region rfl ?_
  refine rq (u := .bool false) rfl rfl rfl (p_assign rfl) rfl ?_
  refine .done rfl ?_
  refine ac_seq ?_
  refine ac_seq ?_
  refine ac_region rfl ?_
  refine rq (u := .slice .ro 11 (l.map GRule.enc)) rfl rfl rfl (p_move rfl) rfl ?_
  refine rq (u := .int .i64 (l.length : Int)) rfl rfl rfl (p_lenm is_22 rfl rfl) rfl ?_
  refine rq (u := .int .i64 most) rfl rfl rfl (p_move rfl) rfl ?_
  refine rq (u := .bool (decide (most < (l.length : Int)))) rfl rfl rfl (p_gtr rfl rfl rfl) rfl ?_
  refine .done rfl ?_
  refine ac_cond rfl rfl (fun hc8 => ?_) (fun hc8 => ?_)
  · replace h := cond_t hc8 h
    refine ac_seq ?_
    refine ac_region rfl ?_
    refine rq (u := .bool false) rfl rfl rfl (p_assign rfl) rfl ?_
    refine .done rfl ?_
    refine ac_ret ?_
    show Fin _ _ _ _ _ _ _
    exact fin_ret (Nat.le_of_ble_eq_true rfl) rfl (by obtain rfl := Option.some.inj h; rfl)
  · replace h := cond_f hc8 h
    refine ac_skip ?_
    refine ac_seq ?_
    refine ac_seq ?_
    refine ac_region rfl ?_
    refine rq (u := .int .i64 0) rfl rfl rfl (p_assign rfl) rfl ?_
    refine .done rfl ?_
    refine ac_block ?_
    refine ac_turns (σ := Nat × Int) (fun (⟨m2, x1⟩ : Nat × Int) => [(0, .slice .ro 11 (l.map GRule.enc)), (1, .int .i64 most), (4, .bool false), (5, .int .i64 x1), (6, .slice .ro 11 (l.map GRule.enc)), (7, .int .i64 (l.length : Int)), (8, .int .i64 most), (9, .bool (decide (most < (l.length : Int))))]) (fun (⟨m2, x1⟩ : Nat × Int) => []) (fun x => x.1) (fun (⟨m2, x1⟩ : Nat × Int) => ref11_Few_L0 k l (fun x7 => some true) m2 x1 = some r) ⟨k, 0⟩ h ⟨TVle.refl _, TVle.refl _, TVle.refl _, TVle.refl _, TVle.refl _, TVle.refl _, TVle.refl _, TVle.refl _, trivial⟩ (ResLe.refl _) ?_
    rintro ⟨m2, x1⟩ h
    replace h : ref11_Few_L0 k l (fun x7 => some true) m2 x1 = some r := h
    show ACode _ _ _ [(0, .slice .ro 11 (l.map GRule.enc)), (1, .int .i64 most), (4, .bool false), (5, .int .i64 x1), (6, .slice .ro 11 (l.map GRule.enc)), (7, .int .i64 (l.length : Int)), (8, .int .i64 most), (9, .bool (decide (most < (l.length : Int))))] [] _
    cases m2 with
    | zero => rw [ref11_Few_L0] at h; cases h
    | succ m2 =>
      rw [ref11_Few_L0] at h
      refine ac_seq ?_
      refine ac_seq ?_
      refine ac_region rfl ?_
      refine rq (u := .int .i64 x1) rfl rfl rfl (p_move rfl) rfl ?_
      refine rq (u := .slice .ro 11 (l.map GRule.enc)) rfl rfl rfl (p_move rfl) rfl ?_
      refine rq (u := .int .i64 (l.length : Int)) rfl rfl rfl (p_lenm is_22 rfl rfl) rfl ?_
      refine rq (u := .bool (decide (x1 < (l.length : Int)))) rfl rfl rfl (p_lss rfl rfl rfl) rfl ?_
      refine .done rfl ?_
      refine ac_cond rfl rfl (fun hc6 => ?_) (fun hc6 => ?_)
      · replace h := cond_t hc6 h
        refine ac_skip ?_
        refine ac_seq ?_
        refine ac_block ?_
        refine ac_seq ?_
        refine ac_region rfl ?_
        refine rq (u := .slice .ro 11 (l.map GRule.enc)) rfl rfl rfl (p_move rfl) rfl ?_
        refine rq (u := .int .i64 x1) rfl rfl rfl (p_move rfl) rfl ?_
        obtain ⟨v3, hv3, h⟩ := bnd_some h
        refine rq (u := .rptr [.bool v3.Allow, .int .i64 v3.When.Kind, .int .i64 v3.When.Field, .slice .ro 2 (v3.When.Ranges.map GRange.enc), encF v3.When.Low, encF v3.When.High, .slice .ro 6 (v3.When.Of.map GExpr.enc), .int .i64 v3.Rate.Num, .int .i64 v3.Rate.Per, .int .i64 v3.Rate.Burst, .int .i64 v3.Line]) rfl rfl rfl (p_ix GRule.enc_eq sl_22 hv3 rfl rfl rfl) rfl ?_
        refine rq (u := .rptr [.int .i64 v3.When.Kind, .int .i64 v3.When.Field, .slice .ro 2 (v3.When.Ranges.map GRange.enc), encF v3.When.Low, encF v3.When.High, .slice .ro 6 (v3.When.Of.map GExpr.enc), .int .i64 v3.Rate.Num, .int .i64 v3.Rate.Per, .int .i64 v3.Rate.Burst, .int .i64 v3.Line]) rfl rfl rfl (p_field_rptr fl_39_1 rfl rfl) rfl ?_
        refine rq (u := .agg (GExpr.cells v3.When)) rfl rfl rfl (p_load_rptr ti_33 nofun rfl rfl (Nat.le_of_ble_eq_true rfl)) rfl ?_
        obtain ⟨v4, hv4, h⟩ := bnd_some h
        refine rq (u := .bool v4) rfl rfl rfl (p_pfnL en_10 (ref11_Small_fn k v3.When 4 v4 hv4) rfl rfl (TVles.refl _)) rfl ?_
        refine rq (u := .bool (!v4)) rfl rfl rfl (p_not rfl rfl) rfl ?_
        refine .done rfl ?_
        refine ac_cond rfl rfl (fun hc5 => ?_) (fun hc5 => ?_)
        · replace h := cond_t hc5 h
          refine ac_seq ?_
          refine ac_region rfl ?_
          refine rq (u := .bool false) rfl rfl rfl (p_assign rfl) rfl ?_
          refine .done rfl ?_
          refine ac_ret ?_
          show Fin _ _ _ _ _ _ _
          exact fin_ret (Nat.le_of_ble_eq_true rfl) rfl (by obtain rfl := Option.some.inj h; rfl)
        · replace h := cond_f hc5 h
          refine ac_skip ?_
          refine ac_region rfl ?_
          refine rq (u := .int .i64 x1) rfl rfl rfl (p_move rfl) rfl ?_
          refine rq (u := .int .i64 (IntKind.wrap .i64 (x1 + 1))) rfl rfl rfl (p_add rfl rfl rfl) rfl ?_
          refine rq (u := .int .i64 (IntKind.wrap .i64 (x1 + 1))) rfl rfl rfl (p_assign rfl) rfl ?_
          refine .done rfl ?_
          exact ⟨⟨m2, (IntKind.wrap .i64 (x1 + 1))⟩, h, Nat.lt_succ_self _, ⟨TVle.refl _, TVle.refl _, TVle.refl _, TVle.refl _, TVle.refl _, TVle.refl _, TVle.refl _, TVle.refl _, trivial⟩, (ResLe.refl _)⟩
      · replace h := cond_f hc6 h
        refine ac_exit ?_
        refine ac_seq ?_
        refine ac_region rfl ?_
        refine rq (u := .bool true) rfl rfl rfl (p_assign rfl) rfl ?_
        refine .done rfl ?_
        refine ac_ret ?_
        show Fin _ _ _ _ _ _ _
        exact fin_ret (Nat.le_of_ble_eq_true rfl) rfl (by obtain rfl := Option.some.inj h; rfl)

set_option maxRecDepth 20000 in
set_option maxHeartbeats 4000000 in
theorem law11_awake_1_fn : ∀ k : Nat, ∀ (n : Int) (r : GExpr) (h : law11_awake_1 k n = some r), PFn Tryd.prog 15 [.int .i64 n] (.agg (GExpr.cells r)) := by
  intro k
  intro n r h
  rw [law11_awake_1] at h
  refine AFn.of Tryd.func15 rfl (Nat.le_of_ble_eq_true rfl) ?_
  refine ac_seq ?_
  refine ac_region rfl ?_
  refine ralloc (cs := [.int .i64 0, .int .i64 0, .slice .full 0 [], encF (some 0), encF (some 0), .slice .full 0 []]) zf_33 rfl rfl rfl rfl rfl rfl rfl nofun fun b1 => ?_
  refine .done rfl ?_
  refine ac_seq ?_
  refine ac_region rfl ?_
  refine rq (u := .int .i64 n) rfl rfl rfl (p_move rfl) rfl ?_
  refine rq (u := .int .i64 n) rfl rfl rfl (p_move rfl) rfl ?_
  refine rq (u := .agg [.int .i64 n, .int .i64 n]) rfl rfl rfl (p_build (cs := [.int .i64 n, .int .i64 n]) zf_41 rfl rfl rfl nofun bf_41 rfl rfl) rfl ?_
  refine rq (u := .slice .full 2 ([(GRange.mk n n)].map GRange.enc)) rfl rfl rfl (p_bsliceS (xs := ([(GRange.mk n n)] : List GRange)) GRange.enc_eq (fun _ => rfl) sl_30 ⟨_, _, rfl, zf_41, rfl⟩ rfl rfl rfl rfl rfl rfl) rfl ?_
  refine rl (u := .agg [.int .i64 1, .int .i64 3, .slice .ro 2 ([(GRange.mk n n)].map GRange.enc), encF (some 0), encF (some 0), .slice .ro 6 []]) rfl rfl rfl (p_build (cs := [.int .i64 1, .int .i64 3, .slice .full 2 ([(GRange.mk n n)].map GRange.enc), encF (some 0), encF (some 0), .slice .full 0 []]) zf_33 rfl rfl rfl nofun bf_33 rfl rfl) (TVle.agg ⟨TVle.refl _, TVle.refl _, TVle.ro, TVle.refl _, TVle.refl _, TVle.nilro, trivial⟩) ?_
  refine rstore (j := 0) (us := [.int .i64 1, .int .i64 3, .slice .ro 2 ([(GRange.mk n n)].map GRange.enc), encF (some 0), encF (some 0), .slice .ro 6 []]) ti_33 rfl rfl rfl rfl rfl rfl rfl rfl nofun rfl (by simp only [allOne, List.all_cons, List.all_nil, one_fl]; rfl) (Nat.le_of_ble_eq_true rfl) ?_
  refine .done rfl ?_
  refine ac_resle (s' := [(b1, RS.box [.int .i64 ((GExpr.mk 1 3 [(GRange.mk n n)] (some 0) (some 0) []).Kind), .int .i64 ((GExpr.mk 1 3 [(GRange.mk n n)] (some 0) (some 0) []).Field), .slice .ro 2 (((GExpr.mk 1 3 [(GRange.mk n n)] (some 0) (some 0) []).Ranges).map GRange.enc), encF ((GExpr.mk 1 3 [(GRange.mk n n)] (some 0) (some 0) []).Low), encF ((GExpr.mk 1 3 [(GRange.mk n n)] (some 0) (some 0) []).High), .slice .ro 6 (((GExpr.mk 1 3 [(GRange.mk n n)] (some 0) (some 0) []).Of).map GExpr.enc)])]) (ResLe.box ⟨TVle.refl _, TVle.refl _, TVle.refl _, TVle.refl _, TVle.refl _, TVle.nilro, trivial⟩ (ResLe.refl _) rfl) ?_
  refine ac_ret ?_
  show Fin _ _ _ _ _ _ _
  exact fin_slot ⟨_, _, true, Nat.le_of_ble_eq_true rfl, rfl, (.head _), ti_33, rfl⟩ (by obtain rfl := Option.some.inj h; rfl)

set_option maxRecDepth 20000 in
set_option maxHeartbeats 4000000 in
theorem math_Abs_fn : ∀ k : Nat, ∀ (x_0 : Fl) (r : Fl) (h : math_Abs k x_0 = some r), PFn Tryd.prog 62 [encF x_0] (encF r) := by
  intro k
  intro x_0 r h
  rw [math_Abs] at h
  refine AFn.of Tryd.func62 rfl (Nat.le_of_ble_eq_true rfl) ?_
  refine ac_seq ?_
  refine ac_region rfl ?_
  refine rq (u := encF (some 0)) rfl rfl rfl (p_assign rfl) rfl ?_
  refine .done rfl ?_
  refine ac_seq ?_
  refine ac_region rfl ?_
  refine rq (u := encF x_0) rfl rfl rfl (p_move rfl) rfl ?_
  obtain ⟨v1, hv1, h⟩ := bnd_some h
  refine rq (u := .int .u64 v1) rfl rfl rfl (p_bits hv1 ex_49 rfl rfl rfl) rfl ?_
  refine rq (u := .int .u64 (bitsOf .andNot .u64 v1 9223372036854775808)) rfl rfl rfl (p_andNot rfl rfl rfl) rfl ?_
  refine rq (u := encF (some (Int.toNat (bitsOf .andNot .u64 v1 9223372036854775808)))) rfl rfl rfl (p_frombits ex_70 rfl rfl rfl) rfl ?_
  refine rq (u := encF (some (Int.toNat (bitsOf .andNot .u64 v1 9223372036854775808)))) rfl rfl rfl (p_assign rfl) rfl ?_
  refine .done rfl ?_
  refine ac_ret ?_
  show Fin _ _ _ _ _ _ _
  exact fin_ret (Nat.le_of_ble_eq_true rfl) rfl (by obtain rfl := Option.some.inj h; rfl)

set_option maxRecDepth 20000 in
set_option maxHeartbeats 4000000 in
theorem math_IsInf_fn : ∀ k : Nat, ∀ (f : Fl) (sign : Int) (r : Bool) (h : math_IsInf k f sign = some r), PFn Tryd.prog 63 [encF f, .int .i64 sign] (.bool r) := by
  intro k
  intro f sign r h
  rw [math_IsInf] at h
  refine AFn.of Tryd.func63 rfl (Nat.le_of_ble_eq_true rfl) ?_
  refine ac_seq ?_
  refine ac_region rfl ?_
  refine rq (u := .bool false) rfl rfl rfl (p_assign rfl) rfl ?_
  refine .done rfl ?_
  refine ac_seq ?_
  refine ac_seq ?_
  refine ac_region rfl ?_
  refine rq (u := .int .i64 sign) rfl rfl rfl (p_move rfl) rfl ?_
  refine rq (u := .bool (sign == 0)) rfl rfl rfl (p_eql rfl rfl rfl) rfl ?_
  refine .done rfl ?_
  refine ac_cond rfl rfl (fun hc3 => ?_) (fun hc3 => ?_)
  · replace h := cond_t hc3 h
    refine ac_region rfl ?_
    refine rq (u := encF f) rfl rfl rfl (p_move rfl) rfl ?_
    obtain ⟨v1, hv1, h⟩ := bnd_some h
    refine rq (u := encF v1) rfl rfl rfl (p_pfnL en_62 (math_Abs_fn k f v1 hv1) rfl rfl (TVles.refl _)) rfl ?_
    refine rq (u := encF v1) rfl rfl rfl (p_assign rfl) rfl ?_
    refine .done rfl ?_
    refine ac_seq ?_
    refine ac_region rfl ?_
    refine rq (u := encF v1) rfl rfl rfl (p_move rfl) rfl ?_
    refine rq (u := .bool (Fl.gt v1 (some 9218868437227405311))) rfl rfl rfl (p_fgt rfl rfl rfl) rfl ?_
    refine rq (u := .bool (Fl.gt v1 (some 9218868437227405311))) rfl rfl rfl (p_assign rfl) rfl ?_
    refine .done rfl ?_
    refine ac_ret ?_
    show Fin _ _ _ _ _ _ _
    exact fin_ret (Nat.le_of_ble_eq_true rfl) rfl (by obtain rfl := Option.some.inj h; rfl)
  · replace h := cond_f hc3 h
    refine ac_seq ?_
    refine ac_region rfl ?_
    refine rq (u := .int .i64 sign) rfl rfl rfl (p_move rfl) rfl ?_
    refine rq (u := .bool (decide (sign < 0))) rfl rfl rfl (p_lss rfl rfl rfl) rfl ?_
    refine .done rfl ?_
    refine ac_cond rfl rfl (fun hc2 => ?_) (fun hc2 => ?_)
    · replace h := cond_t hc2 h
      refine ac_region rfl ?_
      refine rq (u := encF f) rfl rfl rfl (p_move rfl) rfl ?_
      refine rq (u := encF (Fl.neg f)) rfl rfl rfl (p_fneg rfl rfl) rfl ?_
      refine rq (u := encF (Fl.neg f)) rfl rfl rfl (p_assign rfl) rfl ?_
      refine .done rfl ?_
      refine ac_seq ?_
      refine ac_region rfl ?_
      refine rq (u := encF (Fl.neg f)) rfl rfl rfl (p_move rfl) rfl ?_
      refine rq (u := .bool (Fl.gt (Fl.neg f) (some 9218868437227405311))) rfl rfl rfl (p_fgt rfl rfl rfl) rfl ?_
      refine rq (u := .bool (Fl.gt (Fl.neg f) (some 9218868437227405311))) rfl rfl rfl (p_assign rfl) rfl ?_
      refine .done rfl ?_
      refine ac_ret ?_
      show Fin _ _ _ _ _ _ _
      exact fin_ret (Nat.le_of_ble_eq_true rfl) rfl (by obtain rfl := Option.some.inj h; rfl)
    · replace h := cond_f hc2 h
      refine ac_skip ?_
      refine ac_seq ?_
      refine ac_region rfl ?_
      refine rq (u := encF f) rfl rfl rfl (p_move rfl) rfl ?_
      refine rq (u := .bool (Fl.gt f (some 9218868437227405311))) rfl rfl rfl (p_fgt rfl rfl rfl) rfl ?_
      refine rq (u := .bool (Fl.gt f (some 9218868437227405311))) rfl rfl rfl (p_assign rfl) rfl ?_
      refine .done rfl ?_
      refine ac_ret ?_
      show Fin _ _ _ _ _ _ _
      exact fin_ret (Nat.le_of_ble_eq_true rfl) rfl (by obtain rfl := Option.some.inj h; rfl)

set_option maxRecDepth 20000 in
set_option maxHeartbeats 4000000 in
theorem math_IsNaN_fn : ∀ k : Nat, ∀ (f : Fl) (r : Bool) (h : math_IsNaN k f = some r), PFn Tryd.prog 48 [encF f] (.bool r) := by
  intro k
  intro f r h
  rw [math_IsNaN] at h
  refine AFn.of Tryd.func48 rfl (Nat.le_of_ble_eq_true rfl) ?_
  refine ac_seq ?_
  refine ac_region rfl ?_
  refine rq (u := .bool false) rfl rfl rfl (p_assign rfl) rfl ?_
  refine .done rfl ?_
  refine ac_seq ?_
  refine ac_region rfl ?_
  refine rq (u := encF f) rfl rfl rfl (p_move rfl) rfl ?_
  refine rq (u := encF f) rfl rfl rfl (p_move rfl) rfl ?_
  refine rq (u := .bool (Fl.ne f f)) rfl rfl rfl (p_fne rfl rfl rfl) rfl ?_
  refine rq (u := .bool (Fl.ne f f)) rfl rfl rfl (p_assign rfl) rfl ?_
  refine .done rfl ?_
  refine ac_ret ?_
  show Fin _ _ _ _ _ _ _
  exact fin_ret (Nat.le_of_ble_eq_true rfl) rfl (by obtain rfl := Option.some.inj h; rfl)

set_option maxRecDepth 20000 in
set_option maxHeartbeats 4000000 in
theorem math_Trunc_fn : ∀ k : Nat, ∀ (x_0 : Fl) (r : Fl) (h : math_Trunc k x_0 = some r), PFn Tryd.prog 64 [encF x_0] (encF r) := by
  intro k
  intro x_0 r h
  rw [math_Trunc] at h
  refine AFn.of Tryd.func64 rfl (Nat.le_of_ble_eq_true rfl) ?_
  refine ac_seq ?_
  refine ac_region rfl ?_
  refine rq (u := encF (some 0)) rfl rfl rfl (p_assign rfl) rfl ?_
  refine .done rfl ?_
  refine ac_seq ?_
  refine ac_condT rfl rfl ?_
  refine ac_seq ?_
  refine ac_region rfl ?_
  refine rq (u := encF x_0) rfl rfl rfl (p_move rfl) rfl ?_
  obtain ⟨v1, hv1, h⟩ := bnd_some h
  refine rq (u := encF v1) rfl rfl rfl (p_trunc hv1 ex_71 rfl rfl rfl) rfl ?_
  refine rq (u := encF v1) rfl rfl rfl (p_assign rfl) rfl ?_
  refine .done rfl ?_
  refine ac_ret ?_
  show Fin _ _ _ _ _ _ _
  exact fin_ret (Nat.le_of_ble_eq_true rfl) rfl (by obtain rfl := Option.some.inj h; rfl)

set_option maxRecDepth 20000 in
set_option maxHeartbeats 4000000 in
theorem guard_Put_fn : ∀ k : Nat, ∀ (n : Int) (r : ByteArray × Bool) (h : guard_Put k n = some r), PFn Tryd.prog 57 [.int .i64 n] (.tuple [.str r.1, .bool r.2]) := by
  intro k
  intro n r h
  rw [guard_Put] at h
  refine AFn.of Tryd.func57 rfl (Nat.le_of_ble_eq_true rfl) ?_
  refine ac_seq ?_
  refine ac_region rfl ?_
  refine rq (u := .str (⟨#[]⟩ : ByteArray)) rfl rfl rfl (p_assign rfl) rfl ?_
  refine rq (u := .bool false) rfl rfl rfl (p_assign rfl) rfl ?_
  refine .done rfl ?_
  refine ac_seq ?_
  refine ac_seq ?_
  refine ac_region rfl ?_
  refine rq (u := .int .i64 n) rfl rfl rfl (p_move rfl) rfl ?_
  refine rq (u := .bool (decide (n < 0))) rfl rfl rfl (p_lss rfl rfl rfl) rfl ?_
  refine rq (u := .bool (decide (n < 0))) rfl rfl rfl (p_move rfl) rfl ?_
  refine rcase 6 rfl (fun hc1 => ?_) (fun hc1 => ?_)
  · replace h := cond_t hc1 h
    refine rskip rfl (guard_at rfl rfl rfl rfl rfl) rfl ?_
    refine rskip rfl (guard_at rfl rfl rfl rfl rfl) rfl ?_
    refine rq (u := .bool true) rfl rfl rfl (p_pick rfl rfl) rfl ?_
    refine .done rfl ?_
    refine ac_condT rfl rfl ?_
    refine ac_seq ?_
    refine ac_region rfl ?_
    refine rq (u := .str (⟨#[]⟩ : ByteArray)) rfl rfl rfl (p_assign rfl) rfl ?_
    refine rq (u := .bool false) rfl rfl rfl (p_assign rfl) rfl ?_
    refine .done rfl ?_
    refine ac_ret ?_
    show Fin _ _ _ _ _ _ _
    exact fin_ret2 (Nat.le_of_ble_eq_true rfl) (Nat.le_of_ble_eq_true rfl) rfl rfl (by obtain rfl := Option.some.inj h; rfl)
  · replace h := cond_f hc1 h
    refine rq (u := .int .i64 n) rfl (guard_at rfl rfl rfl rfl rfl) rfl (p_move rfl) rfl ?_
    refine rq (u := .bool (decide (9007199254740992 < n))) rfl (guard_at rfl rfl rfl rfl rfl) rfl (p_gtr rfl rfl rfl) rfl ?_
    refine rq (u := .bool (decide (9007199254740992 < n))) rfl rfl rfl (p_pick rfl rfl) rfl ?_
    refine .done rfl ?_
    refine ac_cond rfl rfl (fun hc2 => ?_) (fun hc2 => ?_)
    · replace h := cond_t hc2 h
      refine ac_seq ?_
      refine ac_region rfl ?_
      refine rq (u := .str (⟨#[]⟩ : ByteArray)) rfl rfl rfl (p_assign rfl) rfl ?_
      refine rq (u := .bool false) rfl rfl rfl (p_assign rfl) rfl ?_
      refine .done rfl ?_
      refine ac_ret ?_
      show Fin _ _ _ _ _ _ _
      exact fin_ret2 (Nat.le_of_ble_eq_true rfl) (Nat.le_of_ble_eq_true rfl) rfl rfl (by obtain rfl := Option.some.inj h; rfl)
    · replace h := cond_f hc2 h
      refine ac_skip ?_
      refine ac_seq ?_
      refine ac_region rfl ?_
      refine rq (u := .int .i64 n) rfl rfl rfl (p_move rfl) rfl ?_
      refine rq (u := .str (itoaB n)) rfl rfl rfl (p_pfnL en_68 (itoa_fn n) rfl rfl (TVles.refl _)) rfl ?_
      refine rq (u := .str (itoaB n)) rfl rfl rfl (p_assign rfl) rfl ?_
      refine rq (u := .bool true) rfl rfl rfl (p_assign rfl) rfl ?_
      refine .done rfl ?_
      refine ac_ret ?_
      show Fin _ _ _ _ _ _ _
      exact fin_ret2 (Nat.le_of_ble_eq_true rfl) (Nat.le_of_ble_eq_true rfl) rfl rfl (by obtain rfl := Option.some.inj h; rfl)

set_option maxRecDepth 20000 in
set_option maxHeartbeats 4000000 in
theorem math_Signbit_fn : ∀ k : Nat, ∀ (x_0 : Fl) (r : Bool) (h : math_Signbit k x_0 = some r), PFn Tryd.prog 65 [encF x_0] (.bool r) := by
  intro k
  intro x_0 r h
  rw [math_Signbit] at h
  refine AFn.of Tryd.func65 rfl (Nat.le_of_ble_eq_true rfl) ?_
  refine ac_seq ?_
  refine ac_region rfl ?_
  refine rq (u := .bool false) rfl rfl rfl (p_assign rfl) rfl ?_
  refine .done rfl ?_
  refine ac_seq ?_
  refine ac_region rfl ?_
  refine rq (u := encF x_0) rfl rfl rfl (p_move rfl) rfl ?_
  obtain ⟨v1, hv1, h⟩ := bnd_some h
  refine rq (u := .int .u64 v1) rfl rfl rfl (p_bits hv1 ex_49 rfl rfl rfl) rfl ?_
  refine rq (u := .int .i64 (IntKind.wrap .i64 v1)) rfl rfl rfl (p_cii ik_79 ik_2 rfl rfl) rfl ?_
  refine rq (u := .bool (decide ((IntKind.wrap .i64 v1) < 0))) rfl rfl rfl (p_lss rfl rfl rfl) rfl ?_
  refine rq (u := .bool (decide ((IntKind.wrap .i64 v1) < 0))) rfl rfl rfl (p_assign rfl) rfl ?_
  refine .done rfl ?_
  refine ac_ret ?_
  show Fin _ _ _ _ _ _ _
  exact fin_ret (Nat.le_of_ble_eq_true rfl) rfl (by obtain rfl := Option.some.inj h; rfl)

set_option maxRecDepth 20000 in
set_option maxHeartbeats 4000000 in
theorem real_Text_fn : ∀ k : Nat, ∀ (x_0 : Fl) (r : ByteArray × Bool) (h : real_Text k x_0 = some r), PFn Tryd.prog 46 [encF x_0] (.tuple [.str r.1, .bool r.2]) := by
  intro k
  intro x_0 r h
  rw [real_Text] at h
  refine AFn.of Tryd.func46 rfl (Nat.le_of_ble_eq_true rfl) ?_
  refine ac_seq ?_
  refine ac_region rfl ?_
  refine rq (u := .str (⟨#[]⟩ : ByteArray)) rfl rfl rfl (p_assign rfl) rfl ?_
  refine rq (u := .bool false) rfl rfl rfl (p_assign rfl) rfl ?_
  refine .done rfl ?_
  refine ac_seq ?_
  refine ac_region rfl ?_
  refine rq (u := encF x_0) rfl rfl rfl (p_move rfl) rfl ?_
  obtain ⟨v1, hv1, h⟩ := bnd_some h
  refine rq (u := encF v1) rfl rfl rfl (p_pfnL en_62 (math_Abs_fn k x_0 v1 hv1) rfl rfl (TVles.refl _)) rfl ?_
  refine rq (u := encF v1) rfl rfl rfl (p_assign rfl) rfl ?_
  refine .done rfl ?_
  refine ac_seq ?_
  refine ac_region rfl ?_
  refine rq (u := .str (⟨#[105, 110, 102]⟩ : ByteArray)) rfl rfl rfl (p_assign rfl) rfl ?_
  refine rq (u := .bool true) rfl rfl rfl (p_assign rfl) rfl ?_
  refine .done rfl ?_
  refine ac_seq ?_
  refine ac_seq ?_
  refine ac_region rfl ?_
  refine rq (u := encF v1) rfl rfl rfl (p_move rfl) rfl ?_
  obtain ⟨v2, hv2, h⟩ := bnd_some h
  refine rq (u := .bool v2) rfl rfl rfl (p_pfnL en_63 (math_IsInf_fn k v1 1 v2 hv2) rfl rfl (TVles.refl _)) rfl ?_
  refine rq (u := .bool (!v2)) rfl rfl rfl (p_not rfl rfl) rfl ?_
  refine .done rfl ?_
  refine ac_cond rfl rfl (fun hc16 => ?_) (fun hc16 => ?_)
  · replace h := cond_t hc16 h
    refine ac_seq ?_
    refine ac_seq ?_
    refine ac_region rfl ?_
    refine rq (u := encF x_0) rfl rfl rfl (p_move rfl) rfl ?_
    obtain ⟨v3, hv3, h⟩ := bnd_some h
    refine rq (u := .bool v3) rfl rfl rfl (p_pfnL en_48 (math_IsNaN_fn k x_0 v3 hv3) rfl rfl (TVles.refl _)) rfl ?_
    refine rq (u := .bool v3) rfl rfl rfl (p_move rfl) rfl ?_
    refine rcase 14 rfl (fun hc4 => ?_) (fun hc4 => ?_)
    · replace h := cond_t hc4 h
      refine rskip rfl (guard_at rfl rfl rfl rfl rfl) rfl ?_
      refine rskip rfl (guard_at rfl rfl rfl rfl rfl) rfl ?_
      refine rq (u := .bool true) rfl rfl rfl (p_pick rfl rfl) rfl ?_
      refine rq (u := .bool true) rfl rfl rfl (p_move rfl) rfl ?_
      refine rskip rfl (guard_at rfl rfl rfl rfl rfl) rfl ?_
      refine rskip rfl (guard_at rfl rfl rfl rfl rfl) rfl ?_
      refine rskip rfl (guard_at rfl rfl rfl rfl rfl) rfl ?_
      refine rskip rfl (guard_at rfl rfl rfl rfl rfl) rfl ?_
      refine rq (u := .bool true) rfl rfl rfl (p_pick rfl rfl) rfl ?_
      refine .done rfl ?_
      refine ac_condT rfl rfl ?_
      refine ac_seq ?_
      refine ac_region rfl ?_
      refine rq (u := .str (⟨#[]⟩ : ByteArray)) rfl rfl rfl (p_assign rfl) rfl ?_
      refine rq (u := .bool false) rfl rfl rfl (p_assign rfl) rfl ?_
      refine .done rfl ?_
      refine ac_ret ?_
      show Fin _ _ _ _ _ _ _
      exact fin_ret2 (Nat.le_of_ble_eq_true rfl) (Nat.le_of_ble_eq_true rfl) rfl rfl (by obtain rfl := Option.some.inj h; rfl)
    · replace h := cond_f hc4 h
      refine rq (u := encF v1) rfl (guard_at rfl rfl rfl rfl rfl) rfl (p_move rfl) rfl ?_
      refine rq (u := .bool (Fl.gt v1 (some 4845873199050653696))) rfl (guard_at rfl rfl rfl rfl rfl) rfl (p_fgt rfl rfl rfl) rfl ?_
      refine rq (u := .bool (Fl.gt v1 (some 4845873199050653696))) rfl rfl rfl (p_pick rfl rfl) rfl ?_
      refine rq (u := .bool (Fl.gt v1 (some 4845873199050653696))) rfl rfl rfl (p_move rfl) rfl ?_
      refine rcase 18 rfl (fun hc5 => ?_) (fun hc5 => ?_)
      · replace h := cond_t hc5 h
        refine rskip rfl (guard_at rfl rfl rfl rfl rfl) rfl ?_
        refine rskip rfl (guard_at rfl rfl rfl rfl rfl) rfl ?_
        refine rskip rfl (guard_at rfl rfl rfl rfl rfl) rfl ?_
        refine rskip rfl (guard_at rfl rfl rfl rfl rfl) rfl ?_
        refine rq (u := .bool true) rfl rfl rfl (p_pick rfl rfl) rfl ?_
        refine .done rfl ?_
        refine ac_condT rfl rfl ?_
        refine ac_seq ?_
        refine ac_region rfl ?_
        refine rq (u := .str (⟨#[]⟩ : ByteArray)) rfl rfl rfl (p_assign rfl) rfl ?_
        refine rq (u := .bool false) rfl rfl rfl (p_assign rfl) rfl ?_
        refine .done rfl ?_
        refine ac_ret ?_
        show Fin _ _ _ _ _ _ _
        exact fin_ret2 (Nat.le_of_ble_eq_true rfl) (Nat.le_of_ble_eq_true rfl) rfl rfl (by obtain rfl := Option.some.inj h; rfl)
      · replace h := cond_f hc5 h
        refine rq (u := encF v1) rfl (guard_at rfl rfl rfl rfl rfl) rfl (p_move rfl) rfl ?_
        refine rq (u := encF v1) rfl (guard_at rfl rfl rfl rfl rfl) rfl (p_move rfl) rfl ?_
        obtain ⟨v6, hv6, h⟩ := bnd_some h
        refine rq (u := encF v6) rfl (guard_at rfl rfl rfl rfl rfl) rfl (p_pfnL en_64 (math_Trunc_fn k v1 v6 hv6) rfl rfl (TVles.refl _)) rfl ?_
        refine rq (u := .bool (Fl.ne v1 v6)) rfl (guard_at rfl rfl rfl rfl rfl) rfl (p_fne rfl rfl rfl) rfl ?_
        refine rq (u := .bool (Fl.ne v1 v6)) rfl rfl rfl (p_pick rfl rfl) rfl ?_
        refine .done rfl ?_
        refine ac_cond rfl rfl (fun hc12 => ?_) (fun hc12 => ?_)
        · replace h := cond_t hc12 h
          refine ac_seq ?_
          refine ac_region rfl ?_
          refine rq (u := .str (⟨#[]⟩ : ByteArray)) rfl rfl rfl (p_assign rfl) rfl ?_
          refine rq (u := .bool false) rfl rfl rfl (p_assign rfl) rfl ?_
          refine .done rfl ?_
          refine ac_ret ?_
          show Fin _ _ _ _ _ _ _
          exact fin_ret2 (Nat.le_of_ble_eq_true rfl) (Nat.le_of_ble_eq_true rfl) rfl rfl (by obtain rfl := Option.some.inj h; rfl)
        · replace h := cond_f hc12 h
          refine ac_skip ?_
          refine ac_region rfl ?_
          refine rq (u := encF v1) rfl rfl rfl (p_move rfl) rfl ?_
          obtain ⟨v7, hv7, h⟩ := bnd_some h
          refine rq (u := .int .i64 v7) rfl rfl rfl (p_cfi hv7 ft_31 ik_3 rfl rfl) rfl ?_
          obtain ⟨v8, hv8, h⟩ := bnd_some h
          refine rq (u := .tuple [.str v8.1, .bool v8.2]) rfl rfl rfl (p_pfnL en_57 (guard_Put_fn k v7 v8 hv8) rfl rfl (TVles.refl _)) rfl ?_
          refine rq (u := .tuple [.str v8.1, .bool v8.2]) rfl rfl rfl (p_move rfl) rfl ?_
          refine rq (u := .str v8.1) rfl rfl rfl (p_extract rfl rfl rfl) rfl ?_
          refine rq (u := .bool v8.2) rfl rfl rfl (p_extract rfl rfl rfl) rfl ?_
          refine rq (u := .str v8.1) rfl rfl rfl (p_assign rfl) rfl ?_
          refine rq (u := .bool v8.2) rfl rfl rfl (p_assign rfl) rfl ?_
          refine .done rfl ?_
          refine ac_seq ?_
          refine ac_seq ?_
          refine ac_region rfl ?_
          refine rq (u := encF x_0) rfl rfl rfl (p_move rfl) rfl ?_
          obtain ⟨v9, hv9, h⟩ := bnd_some h
          refine rq (u := .bool v9) rfl rfl rfl (p_pfnL en_65 (math_Signbit_fn k x_0 v9 hv9) rfl rfl (TVles.refl _)) rfl ?_
          refine .done rfl ?_
          refine ac_cond rfl rfl (fun hc11 => ?_) (fun hc11 => ?_)
          · replace h := cond_t hc11 h
            refine ac_region rfl ?_
            refine rq (u := .str v8.1) rfl rfl rfl (p_move rfl) rfl ?_
            obtain ⟨hv10, h⟩ := chk_some h
            refine rq (u := .str ((⟨#[45]⟩ : ByteArray) ++ v8.1)) rfl rfl rfl (p_sadd rfl rfl rfl (of_decide_eq_true hv10)) rfl ?_
            refine rq (u := .str ((⟨#[45]⟩ : ByteArray) ++ v8.1)) rfl rfl rfl (p_assign rfl) rfl ?_
            refine .done rfl ?_
            refine ac_seq ?_
            refine ac_region rfl ?_
            refine rq (u := .str ((⟨#[45]⟩ : ByteArray) ++ v8.1)) rfl rfl rfl (p_move rfl) rfl ?_
            refine rq (u := .bool v8.2) rfl rfl rfl (p_move rfl) rfl ?_
            refine rq (u := .str ((⟨#[45]⟩ : ByteArray) ++ v8.1)) rfl rfl rfl (p_assign rfl) rfl ?_
            refine rq (u := .bool v8.2) rfl rfl rfl (p_assign rfl) rfl ?_
            refine .done rfl ?_
            refine ac_ret ?_
            show Fin _ _ _ _ _ _ _
            exact fin_ret2 (Nat.le_of_ble_eq_true rfl) (Nat.le_of_ble_eq_true rfl) rfl rfl (by obtain rfl := Option.some.inj h; rfl)
          · replace h := cond_f hc11 h
            refine ac_skip ?_
            refine ac_seq ?_
            refine ac_region rfl ?_
            refine rq (u := .str v8.1) rfl rfl rfl (p_move rfl) rfl ?_
            refine rq (u := .bool v8.2) rfl rfl rfl (p_move rfl) rfl ?_
            refine rq (u := .str v8.1) rfl rfl rfl (p_assign rfl) rfl ?_
            refine rq (u := .bool v8.2) rfl rfl rfl (p_assign rfl) rfl ?_
            refine .done rfl ?_
            refine ac_ret ?_
            show Fin _ _ _ _ _ _ _
            exact fin_ret2 (Nat.le_of_ble_eq_true rfl) (Nat.le_of_ble_eq_true rfl) rfl rfl (by obtain rfl := Option.some.inj h; rfl)
  · replace h := cond_f hc16 h
    refine ac_skip ?_
    refine ac_seq ?_
    refine ac_seq ?_
    refine ac_region rfl ?_
    refine rq (u := encF x_0) rfl rfl rfl (p_move rfl) rfl ?_
    obtain ⟨v13, hv13, h⟩ := bnd_some h
    refine rq (u := .bool v13) rfl rfl rfl (p_pfnL en_65 (math_Signbit_fn k x_0 v13 hv13) rfl rfl (TVles.refl _)) rfl ?_
    refine .done rfl ?_
    refine ac_cond rfl rfl (fun hc15 => ?_) (fun hc15 => ?_)
    · replace h := cond_t hc15 h
      refine ac_region rfl ?_
      refine rq (u := .str (⟨#[105, 110, 102]⟩ : ByteArray)) rfl rfl rfl (p_move rfl) rfl ?_
      obtain ⟨hv14, h⟩ := chk_some h
      refine rq (u := .str ((⟨#[45]⟩ : ByteArray) ++ (⟨#[105, 110, 102]⟩ : ByteArray))) rfl rfl rfl (p_sadd rfl rfl rfl (of_decide_eq_true hv14)) rfl ?_
      refine rq (u := .str ((⟨#[45]⟩ : ByteArray) ++ (⟨#[105, 110, 102]⟩ : ByteArray))) rfl rfl rfl (p_assign rfl) rfl ?_
      refine .done rfl ?_
      refine ac_seq ?_
      refine ac_region rfl ?_
      refine rq (u := .str ((⟨#[45]⟩ : ByteArray) ++ (⟨#[105, 110, 102]⟩ : ByteArray))) rfl rfl rfl (p_move rfl) rfl ?_
      refine rq (u := .bool true) rfl rfl rfl (p_move rfl) rfl ?_
      refine rq (u := .str ((⟨#[45]⟩ : ByteArray) ++ (⟨#[105, 110, 102]⟩ : ByteArray))) rfl rfl rfl (p_assign rfl) rfl ?_
      refine rq (u := .bool true) rfl rfl rfl (p_assign rfl) rfl ?_
      refine .done rfl ?_
      refine ac_ret ?_
      show Fin _ _ _ _ _ _ _
      exact fin_ret2 (Nat.le_of_ble_eq_true rfl) (Nat.le_of_ble_eq_true rfl) rfl rfl (by obtain rfl := Option.some.inj h; rfl)
    · replace h := cond_f hc15 h
      refine ac_skip ?_
      refine ac_seq ?_
      refine ac_region rfl ?_
      refine rq (u := .str (⟨#[105, 110, 102]⟩ : ByteArray)) rfl rfl rfl (p_move rfl) rfl ?_
      refine rq (u := .bool true) rfl rfl rfl (p_move rfl) rfl ?_
      refine rq (u := .str (⟨#[105, 110, 102]⟩ : ByteArray)) rfl rfl rfl (p_assign rfl) rfl ?_
      refine rq (u := .bool true) rfl rfl rfl (p_assign rfl) rfl ?_
      refine .done rfl ?_
      refine ac_ret ?_
      show Fin _ _ _ _ _ _ _
      exact fin_ret2 (Nat.le_of_ble_eq_true rfl) (Nat.le_of_ble_eq_true rfl) rfl rfl (by obtain rfl := Option.some.inj h; rfl)

set_option maxRecDepth 20000 in
set_option maxHeartbeats 4000000 in
theorem slices_IndexFunc_int_fn : ∀ k : Nat, ∀ (s_0 : List Int) (f : Int → Option Bool) (f_fn : FuncId) (f_fs f_cs : List TV) (f_s : Res) (f_en : enterB Tryd.prog f_fn = true) (hf : ∀ (a1 : Int) (r' : Bool), f a1 = some r' → AFn Tryd.prog f_fn (f_fs ++ [.int .i64 a1] ++ f_cs) f_s fun y s' => y = .ret (.bool r') ∧ s' = f_s) (r : Int) (h : slices_IndexFunc_int k s_0 f = some r), AFn Tryd.prog 66 [.slice .ro 1 (s_0.map (TV.int .i64)), .func (.func f_fn) f_fs f_cs] f_s fun y s' => y = .ret (.int .i64 r) ∧ s' = f_s := by
  intro k
  intro s_0 f f_fn f_fs f_cs f_s f_en hf r h
  rw [slices_IndexFunc_int] at h
  refine AFn.shed ?_
  refine AFn.of Tryd.func66 rfl (Nat.le_of_ble_eq_true rfl) ?_
  refine ac_seq ?_
  refine ac_region rfl ?_
  refine rq (u := .int .i64 0) rfl rfl rfl (p_assign rfl) rfl ?_
  refine .done rfl ?_
  refine ac_seq ?_
  refine ac_seq ?_
  refine ac_region rfl ?_
  refine rq (u := .slice .ro 1 (s_0.map (TV.int .i64))) rfl rfl rfl (p_move rfl) rfl ?_
  refine rq (u := .int .i64 (s_0.length : Int)) rfl rfl rfl (p_lenm is_81 rfl rfl) rfl ?_
  refine rq (u := .int .i64 0) rfl rfl rfl (p_move rfl) rfl ?_
  refine .done rfl ?_
  refine ac_block ?_
  refine ac_turns (σ := Nat × Int) (fun (⟨m2, x1⟩ : Nat × Int) => [(0, .slice .ro 1 (s_0.map (TV.int .i64))), (1, .func (.func f_fn) f_fs f_cs), (4, .int .i64 0), (6, .slice .ro 1 (s_0.map (TV.int .i64))), (7, .int .i64 (s_0.length : Int)), (8, .int .i64 x1)]) (fun (⟨m2, x1⟩ : Nat × Int) => f_s) (fun x => x.1) (fun (⟨m2, x1⟩ : Nat × Int) => slices_IndexFunc_int_L0 s_0 f (fun x7 => some (-1)) m2 x1 = some r) ⟨k, 0⟩ h ⟨TVle.refl _, TVle.refl _, TVle.refl _, TVle.refl _, TVle.refl _, TVle.refl _, trivial⟩ (ResLe.refl _) ?_
  rintro ⟨m2, x1⟩ h
  replace h : slices_IndexFunc_int_L0 s_0 f (fun x7 => some (-1)) m2 x1 = some r := h
  show ACode _ _ _ [(0, .slice .ro 1 (s_0.map (TV.int .i64))), (1, .func (.func f_fn) f_fs f_cs), (4, .int .i64 0), (6, .slice .ro 1 (s_0.map (TV.int .i64))), (7, .int .i64 (s_0.length : Int)), (8, .int .i64 x1)] f_s _
  cases m2 with
  | zero => rw [slices_IndexFunc_int_L0] at h; cases h
  | succ m2 =>
    rw [slices_IndexFunc_int_L0] at h
    refine ac_seq ?_
    refine ac_region rfl ?_
    refine rq (u := .bool (decide (x1 < (s_0.length : Int)))) rfl rfl rfl (p_lss rfl rfl rfl) rfl ?_
    refine .done rfl ?_
    refine ac_seq ?_
    refine ac_cond rfl rfl (fun hc6 => ?_) (fun hc6 => ?_)
    · replace h := cond_t hc6 h
      refine ac_skip ?_
      refine ac_seq ?_
      refine ac_block ?_
      refine ac_seq ?_
      refine ac_region rfl ?_
      refine rq (u := .int .i64 x1) rfl rfl rfl (p_move rfl) rfl ?_
      refine rq (u := .int .i64 x1) rfl rfl rfl (p_assign rfl) rfl ?_
      refine .done rfl ?_
      refine ac_seq ?_
      refine ac_region rfl ?_
      refine rq (u := .func (.func f_fn) f_fs f_cs) rfl rfl rfl (p_move rfl) rfl ?_
      refine rq (u := .slice .ro 1 (s_0.map (TV.int .i64))) rfl rfl rfl (p_move rfl) rfl ?_
      refine rq (u := .int .i64 x1) rfl rfl rfl (p_move rfl) rfl ?_
      obtain ⟨v3, hv3, h⟩ := bnd_some h
      refine rq (u := .rptr [.int .i64 v3]) rfl rfl rfl (p_ix1 (f := (TV.int .i64)) (fun _ => rfl) sl_81 hv3 rfl rfl rfl) rfl ?_
      refine rq (u := .int .i64 v3) rfl rfl rfl (p_load_rptr ti_3 (fun _ => rfl) rfl rfl (Nat.le_of_ble_eq_true rfl)) rfl ?_
      obtain ⟨v4, hv4, h⟩ := bnd_some h
      refine rq (u := .bool v4) rfl rfl rfl (p_callL f_en (hf v3 v4 hv4) rfl rfl (TVles.refl _) (perm_end _)) rfl ?_
      refine .done rfl ?_
      refine ac_cond rfl rfl (fun hc5 => ?_) (fun hc5 => ?_)
      · replace h := cond_t hc5 h
        refine ac_seq ?_
        refine ac_region rfl ?_
        refine rq (u := .int .i64 x1) rfl rfl rfl (p_move rfl) rfl ?_
        refine rq (u := .int .i64 x1) rfl rfl rfl (p_assign rfl) rfl ?_
        refine .done rfl ?_
        refine ac_ret ?_
        show Fin _ _ _ _ _ _ _
        exact fin_ret (Nat.le_of_ble_eq_true rfl) rfl ⟨by obtain rfl := Option.some.inj h; rfl, (List.Sublist.refl _)⟩
      · replace h := cond_f hc5 h
        refine ac_skip ?_
        refine ac_region rfl ?_
        refine rq (u := .int .i64 (IntKind.wrap .i64 (x1 + 1))) rfl rfl rfl (p_add rfl rfl rfl) rfl ?_
        refine rq (u := .int .i64 (IntKind.wrap .i64 (x1 + 1))) rfl rfl rfl (p_move rfl) rfl ?_
        refine .done rfl ?_
        exact ⟨⟨m2, (IntKind.wrap .i64 (x1 + 1))⟩, h, Nat.lt_succ_self _, ⟨TVle.refl _, TVle.refl _, TVle.refl _, TVle.refl _, TVle.refl _, TVle.refl _, trivial⟩, (ResLe.refl _)⟩
    · replace h := cond_f hc6 h
      refine ac_exit ?_
      refine ac_seq ?_
      refine ac_region rfl ?_
      refine rq (u := .int .i64 (-1)) rfl rfl rfl (p_assign rfl) rfl ?_
      refine .done rfl ?_
      refine ac_ret ?_
      show Fin _ _ _ _ _ _ _
      exact fin_ret (Nat.le_of_ble_eq_true rfl) rfl ⟨by obtain rfl := Option.some.inj h; rfl, (List.Sublist.refl _)⟩

set_option maxRecDepth 20000 in
set_option maxHeartbeats 4000000 in
theorem slices_ContainsFunc_int_fn : ∀ k : Nat, ∀ (s_0 : List Int) (f : Int → Option Bool) (f_fn : FuncId) (f_fs f_cs : List TV) (f_s : Res) (f_en : enterB Tryd.prog f_fn = true) (hf : ∀ (a1 : Int) (r' : Bool), f a1 = some r' → AFn Tryd.prog f_fn (f_fs ++ [.int .i64 a1] ++ f_cs) f_s fun y s' => y = .ret (.bool r') ∧ s' = f_s) (r : Bool) (h : slices_ContainsFunc_int k s_0 f = some r), AFn Tryd.prog 51 [.slice .ro 1 (s_0.map (TV.int .i64)), .func (.func f_fn) f_fs f_cs] f_s fun y s' => y = .ret (.bool r) ∧ s' = f_s := by
  intro k
  intro s_0 f f_fn f_fs f_cs f_s f_en hf r h
  rw [slices_ContainsFunc_int] at h
  refine AFn.shed ?_
  refine AFn.of Tryd.func51 rfl (Nat.le_of_ble_eq_true rfl) ?_
  refine ac_seq ?_
  refine ac_region rfl ?_
  refine rq (u := .bool false) rfl rfl rfl (p_assign rfl) rfl ?_
  refine .done rfl ?_
  refine ac_seq ?_
  refine ac_region rfl ?_
  refine rq (u := .slice .ro 1 (s_0.map (TV.int .i64))) rfl rfl rfl (p_move rfl) rfl ?_
  refine rq (u := .func (.func f_fn) f_fs f_cs) rfl rfl rfl (p_move rfl) rfl ?_
  obtain ⟨v1, hv1, h⟩ := bnd_some h
  refine rq (u := .int .i64 v1) rfl rfl rfl (p_callL en_66 (slices_IndexFunc_int_fn k s_0 f f_fn f_fs f_cs f_s f_en hf v1 hv1) rfl rfl (TVles.refl _) (perm_end _)) rfl ?_
  refine rq (u := .bool (decide (0 ≤ v1))) rfl rfl rfl (p_geq rfl rfl rfl) rfl ?_
  refine rq (u := .bool (decide (0 ≤ v1))) rfl rfl rfl (p_assign rfl) rfl ?_
  refine .done rfl ?_
  refine ac_ret ?_
  show Fin _ _ _ _ _ _ _
  exact fin_ret (Nat.le_of_ble_eq_true rfl) rfl ⟨by obtain rfl := Option.some.inj h; rfl, (List.Sublist.refl _)⟩

set_option maxRecDepth 20000 in
set_option maxHeartbeats 4000000 in
theorem tree_fine_1_fn : ∀ k : Nat, ∀ (n : Int) (r : Bool) (h : tree_fine_1 k n = some r), PFn Tryd.prog 52 [.int .i64 n] (.bool r) := by
  intro k
  intro n r h
  rw [tree_fine_1] at h
  refine AFn.of Tryd.func52 rfl (Nat.le_of_ble_eq_true rfl) ?_
  refine ac_seq ?_
  refine ac_region rfl ?_
  refine rq (u := .bool false) rfl rfl rfl (p_assign rfl) rfl ?_
  refine .done rfl ?_
  refine ac_seq ?_
  refine ac_region rfl ?_
  refine rq (u := .int .i64 n) rfl rfl rfl (p_move rfl) rfl ?_
  refine rq (u := .bool (decide (n < 0))) rfl rfl rfl (p_lss rfl rfl rfl) rfl ?_
  refine rq (u := .bool (decide (n < 0))) rfl rfl rfl (p_move rfl) rfl ?_
  refine rcase 5 rfl (fun hc1 => ?_) (fun hc1 => ?_)
  · replace h := cond_t hc1 h
    refine rskip rfl (guard_at rfl rfl rfl rfl rfl) rfl ?_
    refine rskip rfl (guard_at rfl rfl rfl rfl rfl) rfl ?_
    refine rq (u := .bool true) rfl rfl rfl (p_pick rfl rfl) rfl ?_
    refine rq (u := .bool true) rfl rfl rfl (p_assign rfl) rfl ?_
    refine .done rfl ?_
    refine ac_ret ?_
    show Fin _ _ _ _ _ _ _
    exact fin_ret (Nat.le_of_ble_eq_true rfl) rfl (by obtain rfl := Option.some.inj h; rfl)
  · replace h := cond_f hc1 h
    refine rq (u := .int .i64 n) rfl (guard_at rfl rfl rfl rfl rfl) rfl (p_move rfl) rfl ?_
    refine rq (u := .bool (decide (9007199254740992 < n))) rfl (guard_at rfl rfl rfl rfl rfl) rfl (p_gtr rfl rfl rfl) rfl ?_
    refine rq (u := .bool (decide (9007199254740992 < n))) rfl rfl rfl (p_pick rfl rfl) rfl ?_
    refine rq (u := .bool (decide (9007199254740992 < n))) rfl rfl rfl (p_assign rfl) rfl ?_
    refine .done rfl ?_
    refine ac_ret ?_
    show Fin _ _ _ _ _ _ _
    exact fin_ret (Nat.le_of_ble_eq_true rfl) rfl (by obtain rfl := Option.some.inj h; rfl)

set_option maxRecDepth 20000 in
set_option maxHeartbeats 4000000 in
theorem tree_fine_fn : ∀ k : Nat, ∀ (l : List Int) (r : Bool) (h : tree_fine k l = some r), PFn Tryd.prog 34 [.slice .ro 1 (l.map (TV.int .i64))] (.bool r) := by
  intro k
  intro l r h
  rw [tree_fine] at h
  refine AFn.of Tryd.func34 rfl (Nat.le_of_ble_eq_true rfl) ?_
  refine ac_seq ?_
  refine ac_region rfl ?_
  refine rq (u := .bool false) rfl rfl rfl (p_assign rfl) rfl ?_
  refine .done rfl ?_
  refine ac_seq ?_
  refine ac_region rfl ?_
  refine rq (u := .slice .ro 1 (l.map (TV.int .i64))) rfl rfl rfl (p_move rfl) rfl ?_
  obtain ⟨v1, hv1, h⟩ := bnd_some h
  refine rq (u := .bool v1) rfl rfl rfl (p_callL en_51 (slices_ContainsFunc_int_fn k l (tree_fine_1 k) 52 [] [] [] en_52 (fun a1 r' h' => PFn.at (tree_fine_1_fn k a1 r' h') []) v1 hv1) rfl rfl (TVles.refl _) (List.Perm.refl _)) rfl ?_
  refine rq (u := .bool (!v1)) rfl rfl rfl (p_not rfl rfl) rfl ?_
  refine rq (u := .bool (!v1)) rfl rfl rfl (p_assign rfl) rfl ?_
  refine .done rfl ?_
  refine ac_ret ?_
  show Fin _ _ _ _ _ _ _
  exact fin_ret (Nat.le_of_ble_eq_true rfl) rfl (by obtain rfl := Option.some.inj h; rfl)

set_option maxRecDepth 20000 in
set_option maxHeartbeats 4000000 in
theorem real_Same_fn : ∀ k : Nat, ∀ (a_0 : Fl) (b_1 : Fl) (r : Bool) (h : real_Same k a_0 b_1 = some r), PFn Tryd.prog 31 [encF a_0, encF b_1] (.bool r) := by
  intro k
  intro a_0 b_1 r h
  rw [real_Same] at h
  refine AFn.of Tryd.func31 rfl (Nat.le_of_ble_eq_true rfl) ?_
  refine ac_seq ?_
  refine ac_region rfl ?_
  refine rq (u := .bool false) rfl rfl rfl (p_assign rfl) rfl ?_
  refine .done rfl ?_
  refine ac_seq ?_
  refine ac_seq ?_
  refine ac_region rfl ?_
  refine rq (u := encF a_0) rfl rfl rfl (p_move rfl) rfl ?_
  obtain ⟨v1, hv1, h⟩ := bnd_some h
  refine rq (u := .bool v1) rfl rfl rfl (p_pfnL en_48 (math_IsNaN_fn k a_0 v1 hv1) rfl rfl (TVles.refl _)) rfl ?_
  refine rq (u := .bool v1) rfl rfl rfl (p_move rfl) rfl ?_
  refine rcase 7 rfl (fun hc2 => ?_) (fun hc2 => ?_)
  · replace h := cond_t hc2 h
    refine rskip rfl (guard_at rfl rfl rfl rfl rfl) rfl ?_
    refine rskip rfl (guard_at rfl rfl rfl rfl rfl) rfl ?_
    refine rq (u := .bool true) rfl rfl rfl (p_pick rfl rfl) rfl ?_
    refine .done rfl ?_
    refine ac_condT rfl rfl ?_
    refine ac_seq ?_
    refine ac_region rfl ?_
    refine rq (u := encF a_0) rfl rfl rfl (p_move rfl) rfl ?_
    obtain ⟨v3, hv3, h⟩ := bnd_some h
    refine rq (u := .bool v3) rfl rfl rfl (p_pfnL en_48 (math_IsNaN_fn k a_0 v3 hv3) rfl rfl (TVles.refl _)) rfl ?_
    refine rq (u := .bool v3) rfl rfl rfl (p_move rfl) rfl ?_
    refine rcase 13 rfl (fun hc4 => ?_) (fun hc4 => ?_)
    · replace h := cond_t hc4 h
      refine rq (u := encF b_1) rfl (guard_at rfl rfl rfl rfl rfl) rfl (p_move rfl) rfl ?_
      obtain ⟨v5, hv5, h⟩ := bnd_some h
      refine rq (u := .bool v5) rfl (guard_at rfl rfl rfl rfl rfl) rfl (p_pfnL en_48 (math_IsNaN_fn k b_1 v5 hv5) rfl rfl (TVles.refl _)) rfl ?_
      refine rq (u := .bool v5) rfl rfl rfl (p_pick rfl rfl) rfl ?_
      refine rq (u := .bool v5) rfl rfl rfl (p_assign rfl) rfl ?_
      refine .done rfl ?_
      refine ac_ret ?_
      show Fin _ _ _ _ _ _ _
      exact fin_ret (Nat.le_of_ble_eq_true rfl) rfl (by obtain rfl := Option.some.inj h; rfl)
    · replace h := cond_f hc4 h
      refine rskip rfl (guard_at rfl rfl rfl rfl rfl) rfl ?_
      refine rskip rfl (guard_at rfl rfl rfl rfl rfl) rfl ?_
      refine rq (u := .bool false) rfl rfl rfl (p_pick rfl rfl) rfl ?_
      refine rq (u := .bool false) rfl rfl rfl (p_assign rfl) rfl ?_
      refine .done rfl ?_
      refine ac_ret ?_
      show Fin _ _ _ _ _ _ _
      exact fin_ret (Nat.le_of_ble_eq_true rfl) rfl (by obtain rfl := Option.some.inj h; rfl)
  · replace h := cond_f hc2 h
    refine rq (u := encF b_1) rfl (guard_at rfl rfl rfl rfl rfl) rfl (p_move rfl) rfl ?_
    obtain ⟨v6, hv6, h⟩ := bnd_some h
    refine rq (u := .bool v6) rfl (guard_at rfl rfl rfl rfl rfl) rfl (p_pfnL en_48 (math_IsNaN_fn k b_1 v6 hv6) rfl rfl (TVles.refl _)) rfl ?_
    refine rq (u := .bool v6) rfl rfl rfl (p_pick rfl rfl) rfl ?_
    refine .done rfl ?_
    refine ac_cond rfl rfl (fun hc12 => ?_) (fun hc12 => ?_)
    · replace h := cond_t hc12 h
      refine ac_seq ?_
      refine ac_region rfl ?_
      refine rq (u := encF a_0) rfl rfl rfl (p_move rfl) rfl ?_
      obtain ⟨v7, hv7, h⟩ := bnd_some h
      refine rq (u := .bool v7) rfl rfl rfl (p_pfnL en_48 (math_IsNaN_fn k a_0 v7 hv7) rfl rfl (TVles.refl _)) rfl ?_
      refine rq (u := .bool v7) rfl rfl rfl (p_move rfl) rfl ?_
      refine rcase 13 rfl (fun hc8 => ?_) (fun hc8 => ?_)
      · replace h := cond_t hc8 h
        refine rq (u := encF b_1) rfl (guard_at rfl rfl rfl rfl rfl) rfl (p_move rfl) rfl ?_
        obtain ⟨v9, hv9, h⟩ := bnd_some h
        refine rq (u := .bool v9) rfl (guard_at rfl rfl rfl rfl rfl) rfl (p_pfnL en_48 (math_IsNaN_fn k b_1 v9 hv9) rfl rfl (TVles.refl _)) rfl ?_
        refine rq (u := .bool v9) rfl rfl rfl (p_pick rfl rfl) rfl ?_
        refine rq (u := .bool v9) rfl rfl rfl (p_assign rfl) rfl ?_
        refine .done rfl ?_
        refine ac_ret ?_
        show Fin _ _ _ _ _ _ _
        exact fin_ret (Nat.le_of_ble_eq_true rfl) rfl (by obtain rfl := Option.some.inj h; rfl)
      · replace h := cond_f hc8 h
        refine rskip rfl (guard_at rfl rfl rfl rfl rfl) rfl ?_
        refine rskip rfl (guard_at rfl rfl rfl rfl rfl) rfl ?_
        refine rq (u := .bool false) rfl rfl rfl (p_pick rfl rfl) rfl ?_
        refine rq (u := .bool false) rfl rfl rfl (p_assign rfl) rfl ?_
        refine .done rfl ?_
        refine ac_ret ?_
        show Fin _ _ _ _ _ _ _
        exact fin_ret (Nat.le_of_ble_eq_true rfl) rfl (by obtain rfl := Option.some.inj h; rfl)
    · replace h := cond_f hc12 h
      refine ac_skip ?_
      refine ac_seq ?_
      refine ac_region rfl ?_
      refine rq (u := encF a_0) rfl rfl rfl (p_move rfl) rfl ?_
      obtain ⟨v10, hv10, h⟩ := bnd_some h
      refine rq (u := .int .u64 v10) rfl rfl rfl (p_bits hv10 ex_49 rfl rfl rfl) rfl ?_
      refine rq (u := encF b_1) rfl rfl rfl (p_move rfl) rfl ?_
      obtain ⟨v11, hv11, h⟩ := bnd_some h
      refine rq (u := .int .u64 v11) rfl rfl rfl (p_bits hv11 ex_49 rfl rfl rfl) rfl ?_
      refine rq (u := .bool (v10 == v11)) rfl rfl rfl (p_eql rfl rfl rfl) rfl ?_
      refine rq (u := .bool (v10 == v11)) rfl rfl rfl (p_assign rfl) rfl ?_
      refine .done rfl ?_
      refine ac_ret ?_
      show Fin _ _ _ _ _ _ _
      exact fin_ret (Nat.le_of_ble_eq_true rfl) rfl (by obtain rfl := Option.some.inj h; rfl)

set_option maxRecDepth 20000 in
set_option maxHeartbeats 4000000 in
theorem tree_atom_fn : ∀ k : Nat, ∀ (e : GExpr) (r : Bool) (h : tree_atom k e = some r), PFn Tryd.prog 27 [.agg (GExpr.cells e)] (.bool r) := by
  intro k
  intro e r h
  rw [tree_atom] at h
  refine AFn.of Tryd.func27 rfl (Nat.le_of_ble_eq_true rfl) ?_
  refine ac_seq ?_
  refine ac_region rfl ?_
  refine rbox rfl rfl rfl rfl rfl fun b1 => ?_
  refine rq (u := .bool false) rfl rfl rfl (p_assign rfl) rfl ?_
  refine .done rfl ?_
  refine ac_seq ?_
  refine ac_block ?_
  refine ac_seq ?_
  refine ac_region rfl ?_
  refine rq (u := .ptr b1 5) rfl rfl rfl (p_field_ptr fl_33_5 rfl rfl) rfl ?_
  refine rq (u := .slice .ro 6 (e.Of.map GExpr.enc)) rfl rfl rfl (p_load_ptr ti_28 (fun _ => rfl) rfl rfl (.head _) (Nat.le_of_ble_eq_true rfl)) rfl ?_
  refine rq (u := .int .i64 (e.Of.length : Int)) rfl rfl rfl (p_lenm is_28 rfl rfl) rfl ?_
  refine rq (u := .bool (decide (0 < (e.Of.length : Int)))) rfl rfl rfl (p_gtr rfl rfl rfl) rfl ?_
  refine rq (u := .bool (decide (0 < (e.Of.length : Int)))) rfl rfl rfl (p_assign rfl) rfl ?_
  refine .done rfl ?_
  refine ac_cond rfl rfl (fun hc22 => ?_) (fun hc22 => ?_)
  · replace h := cond_t hc22 h
    refine ac_seq ?_
    refine ac_region rfl ?_
    refine rq (u := .bool false) rfl rfl rfl (p_assign rfl) rfl ?_
    refine .done rfl ?_
    refine ac_ret ?_
    show Fin _ _ _ _ _ _ _
    exact fin_ret (Nat.le_of_ble_eq_true rfl) rfl (by obtain rfl := Option.some.inj h; rfl)
  · replace h := cond_f hc22 h
    refine ac_seq ?_
    refine ac_region rfl ?_
    refine rq (u := .ptr b1 1) rfl rfl rfl (p_field_ptr fl_33_1 rfl rfl) rfl ?_
    refine rq (u := .int .i64 e.Field) rfl rfl rfl (p_load_ptr ti_3 (fun _ => rfl) rfl rfl (.head _) (Nat.le_of_ble_eq_true rfl)) rfl ?_
    refine rq (u := .bool (e.Field == 6)) rfl rfl rfl (p_eql rfl rfl rfl) rfl ?_
    refine rq (u := .bool (e.Field == 6)) rfl rfl rfl (p_assign rfl) rfl ?_
    refine .done rfl ?_
    refine ac_cond rfl rfl (fun hc21 => ?_) (fun hc21 => ?_)
    · replace h := cond_t hc21 h
      refine ac_seq ?_
      refine ac_region rfl ?_
      refine rq (u := .ptr b1 3) rfl rfl rfl (p_field_ptr fl_33_3 rfl rfl) rfl ?_
      refine rq (u := encF e.Low) rfl rfl rfl (p_load_ptr ti_31 (fun _ => rfl) rfl rfl (.head _) (Nat.le_of_ble_eq_true rfl)) rfl ?_
      obtain ⟨v1, hv1, h⟩ := bnd_some h
      refine rq (u := .tuple [.str v1.1, .bool v1.2]) rfl rfl rfl (p_pfnL en_46 (real_Text_fn k e.Low v1 hv1) rfl rfl (TVles.refl _)) rfl ?_
      refine rq (u := .tuple [.str v1.1, .bool v1.2]) rfl rfl rfl (p_move rfl) rfl ?_
      refine rq (u := .str v1.1) rfl rfl rfl (p_extract rfl rfl rfl) rfl ?_
      refine rq (u := .bool v1.2) rfl rfl rfl (p_extract rfl rfl rfl) rfl ?_
      refine rq (u := .str v1.1) rfl rfl rfl (p_assign rfl) rfl ?_
      refine rq (u := .bool v1.2) rfl rfl rfl (p_assign rfl) rfl ?_
      refine .done rfl ?_
      refine ac_seq ?_
      refine ac_region rfl ?_
      refine rq (u := .ptr b1 4) rfl rfl rfl (p_field_ptr fl_33_4 rfl rfl) rfl ?_
      refine rq (u := encF e.High) rfl rfl rfl (p_load_ptr ti_31 (fun _ => rfl) rfl rfl (.head _) (Nat.le_of_ble_eq_true rfl)) rfl ?_
      obtain ⟨v2, hv2, h⟩ := bnd_some h
      refine rq (u := .tuple [.str v2.1, .bool v2.2]) rfl rfl rfl (p_pfnL en_46 (real_Text_fn k e.High v2 hv2) rfl rfl (TVles.refl _)) rfl ?_
      refine rq (u := .tuple [.str v2.1, .bool v2.2]) rfl rfl rfl (p_move rfl) rfl ?_
      refine rq (u := .str v2.1) rfl rfl rfl (p_extract rfl rfl rfl) rfl ?_
      refine rq (u := .bool v2.2) rfl rfl rfl (p_extract rfl rfl rfl) rfl ?_
      refine rq (u := .str v2.1) rfl rfl rfl (p_assign rfl) rfl ?_
      refine rq (u := .bool v2.2) rfl rfl rfl (p_assign rfl) rfl ?_
      refine .done rfl ?_
      refine ac_seq ?_
      refine ac_region rfl ?_
      refine rq (u := .bool v1.2) rfl rfl rfl (p_move rfl) rfl ?_
      refine rq (u := .bool v1.2) rfl rfl rfl (p_move rfl) rfl ?_
      refine rcase 31 rfl (fun hc3 => ?_) (fun hc3 => ?_)
      · replace h := cond_t hc3 h
        refine rq (u := .bool v2.2) rfl (guard_at rfl rfl rfl rfl rfl) rfl (p_move rfl) rfl ?_
        refine rq (u := .bool v2.2) rfl rfl rfl (p_pick rfl rfl) rfl ?_
        refine rq (u := .bool v2.2) rfl rfl rfl (p_move rfl) rfl ?_
        refine rcase 34 rfl (fun hc4 => ?_) (fun hc4 => ?_)
        · replace h := cond_t hc4 h
          refine rq (u := .ptr b1 2) rfl (guard_at rfl rfl rfl rfl rfl) rfl (p_field_ptr fl_33_2 rfl rfl) rfl ?_
          refine rq (u := .slice .ro 2 (e.Ranges.map GRange.enc)) rfl (guard_at rfl rfl rfl rfl rfl) rfl (p_load_ptr ti_30 (fun _ => rfl) rfl rfl (.head _) (Nat.le_of_ble_eq_true rfl)) rfl ?_
          refine rq (u := .int .i64 (e.Ranges.length : Int)) rfl (guard_at rfl rfl rfl rfl rfl) rfl (p_lenm is_30 rfl rfl) rfl ?_
          refine rq (u := .bool ((e.Ranges.length : Int) == 0)) rfl (guard_at rfl rfl rfl rfl rfl) rfl (p_eql rfl rfl rfl) rfl ?_
          refine rq (u := .bool ((e.Ranges.length : Int) == 0)) rfl rfl rfl (p_pick rfl rfl) rfl ?_
          refine rq (u := .bool ((e.Ranges.length : Int) == 0)) rfl rfl rfl (p_assign rfl) rfl ?_
          refine .done rfl ?_
          refine ac_ret ?_
          show Fin _ _ _ _ _ _ _
          exact fin_ret (Nat.le_of_ble_eq_true rfl) rfl (by obtain rfl := Option.some.inj h; rfl)
        · replace h := cond_f hc4 h
          refine rskip rfl (guard_at rfl rfl rfl rfl rfl) rfl ?_
          refine rskip rfl (guard_at rfl rfl rfl rfl rfl) rfl ?_
          refine rskip rfl (guard_at rfl rfl rfl rfl rfl) rfl ?_
          refine rskip rfl (guard_at rfl rfl rfl rfl rfl) rfl ?_
          refine rq (u := .bool false) rfl rfl rfl (p_pick rfl rfl) rfl ?_
          refine rq (u := .bool false) rfl rfl rfl (p_assign rfl) rfl ?_
          refine .done rfl ?_
          refine ac_ret ?_
          show Fin _ _ _ _ _ _ _
          exact fin_ret (Nat.le_of_ble_eq_true rfl) rfl (by obtain rfl := Option.some.inj h; rfl)
      · replace h := cond_f hc3 h
        refine rskip rfl (guard_at rfl rfl rfl rfl rfl) rfl ?_
        refine rq (u := .bool false) rfl rfl rfl (p_pick rfl rfl) rfl ?_
        refine rq (u := .bool false) rfl rfl rfl (p_move rfl) rfl ?_
        refine rskip rfl (guard_at rfl rfl rfl rfl rfl) rfl ?_
        refine rskip rfl (guard_at rfl rfl rfl rfl rfl) rfl ?_
        refine rskip rfl (guard_at rfl rfl rfl rfl rfl) rfl ?_
        refine rskip rfl (guard_at rfl rfl rfl rfl rfl) rfl ?_
        refine rq (u := .bool false) rfl rfl rfl (p_pick rfl rfl) rfl ?_
        refine rq (u := .bool false) rfl rfl rfl (p_assign rfl) rfl ?_
        refine .done rfl ?_
        refine ac_ret ?_
        show Fin _ _ _ _ _ _ _
        exact fin_ret (Nat.le_of_ble_eq_true rfl) rfl (by obtain rfl := Option.some.inj h; rfl)
    · replace h := cond_f hc21 h
      refine ac_seq ?_
      refine ac_region rfl ?_
      refine rq (u := .ptr b1 1) rfl rfl rfl (p_field_ptr fl_33_1 rfl rfl) rfl ?_
      refine rq (u := .int .i64 e.Field) rfl rfl rfl (p_load_ptr ti_3 (fun _ => rfl) rfl rfl (.head _) (Nat.le_of_ble_eq_true rfl)) rfl ?_
      refine rq (u := .bool (decide (e.Field < 1))) rfl rfl rfl (p_lss rfl rfl rfl) rfl ?_
      refine rq (u := .bool (decide (e.Field < 1))) rfl rfl rfl (p_move rfl) rfl ?_
      refine rcase 44 rfl (fun hc5 => ?_) (fun hc5 => ?_)
      · replace h := cond_t hc5 h
        refine rskip rfl (guard_at rfl rfl rfl rfl rfl) rfl ?_
        refine rskip rfl (guard_at rfl rfl rfl rfl rfl) rfl ?_
        refine rskip rfl (guard_at rfl rfl rfl rfl rfl) rfl ?_
        refine rq (u := .bool true) rfl rfl rfl (p_pick rfl rfl) rfl ?_
        refine rq (u := .bool true) rfl rfl rfl (p_move rfl) rfl ?_
        refine rskip rfl (guard_at rfl rfl rfl rfl rfl) rfl ?_
        refine rskip rfl (guard_at rfl rfl rfl rfl rfl) rfl ?_
        refine rskip rfl (guard_at rfl rfl rfl rfl rfl) rfl ?_
        refine rskip rfl (guard_at rfl rfl rfl rfl rfl) rfl ?_
        refine rq (u := .bool true) rfl rfl rfl (p_pick rfl rfl) rfl ?_
        refine rq (u := .bool true) rfl rfl rfl (p_assign rfl) rfl ?_
        refine .done rfl ?_
        refine ac_condT rfl rfl ?_
        refine ac_seq ?_
        refine ac_region rfl ?_
        refine rq (u := .bool false) rfl rfl rfl (p_assign rfl) rfl ?_
        refine .done rfl ?_
        refine ac_ret ?_
        show Fin _ _ _ _ _ _ _
        exact fin_ret (Nat.le_of_ble_eq_true rfl) rfl (by obtain rfl := Option.some.inj h; rfl)
      · replace h := cond_f hc5 h
        refine rq (u := .ptr b1 1) rfl (guard_at rfl rfl rfl rfl rfl) rfl (p_field_ptr fl_33_1 rfl rfl) rfl ?_
        refine rq (u := .int .i64 e.Field) rfl (guard_at rfl rfl rfl rfl rfl) rfl (p_load_ptr ti_3 (fun _ => rfl) rfl rfl (.head _) (Nat.le_of_ble_eq_true rfl)) rfl ?_
        refine rq (u := .bool (decide (5 < e.Field))) rfl (guard_at rfl rfl rfl rfl rfl) rfl (p_gtr rfl rfl rfl) rfl ?_
        refine rq (u := .bool (decide (5 < e.Field))) rfl rfl rfl (p_pick rfl rfl) rfl ?_
        refine rq (u := .bool (decide (5 < e.Field))) rfl rfl rfl (p_move rfl) rfl ?_
        refine rcase 49 rfl (fun hc6 => ?_) (fun hc6 => ?_)
        · replace h := cond_t hc6 h
          refine rskip rfl (guard_at rfl rfl rfl rfl rfl) rfl ?_
          refine rskip rfl (guard_at rfl rfl rfl rfl rfl) rfl ?_
          refine rskip rfl (guard_at rfl rfl rfl rfl rfl) rfl ?_
          refine rskip rfl (guard_at rfl rfl rfl rfl rfl) rfl ?_
          refine rq (u := .bool true) rfl rfl rfl (p_pick rfl rfl) rfl ?_
          refine rq (u := .bool true) rfl rfl rfl (p_assign rfl) rfl ?_
          refine .done rfl ?_
          refine ac_condT rfl rfl ?_
          refine ac_seq ?_
          refine ac_region rfl ?_
          refine rq (u := .bool false) rfl rfl rfl (p_assign rfl) rfl ?_
          refine .done rfl ?_
          refine ac_ret ?_
          show Fin _ _ _ _ _ _ _
          exact fin_ret (Nat.le_of_ble_eq_true rfl) rfl (by obtain rfl := Option.some.inj h; rfl)
        · replace h := cond_f hc6 h
          refine rq (u := .ptr b1 2) rfl (guard_at rfl rfl rfl rfl rfl) rfl (p_field_ptr fl_33_2 rfl rfl) rfl ?_
          refine rq (u := .slice .ro 2 (e.Ranges.map GRange.enc)) rfl (guard_at rfl rfl rfl rfl rfl) rfl (p_load_ptr ti_30 (fun _ => rfl) rfl rfl (.head _) (Nat.le_of_ble_eq_true rfl)) rfl ?_
          refine rq (u := .int .i64 (e.Ranges.length : Int)) rfl (guard_at rfl rfl rfl rfl rfl) rfl (p_lenm is_30 rfl rfl) rfl ?_
          refine rq (u := .bool ((e.Ranges.length : Int) == 0)) rfl (guard_at rfl rfl rfl rfl rfl) rfl (p_eql rfl rfl rfl) rfl ?_
          refine rq (u := .bool ((e.Ranges.length : Int) == 0)) rfl rfl rfl (p_pick rfl rfl) rfl ?_
          refine rq (u := .bool ((e.Ranges.length : Int) == 0)) rfl rfl rfl (p_assign rfl) rfl ?_
          refine .done rfl ?_
          refine ac_cond rfl rfl (fun hc20 => ?_) (fun hc20 => ?_)
          · replace h := cond_t hc20 h
            refine ac_seq ?_
            refine ac_region rfl ?_
            refine rq (u := .bool false) rfl rfl rfl (p_assign rfl) rfl ?_
            refine .done rfl ?_
            refine ac_ret ?_
            show Fin _ _ _ _ _ _ _
            exact fin_ret (Nat.le_of_ble_eq_true rfl) rfl (by obtain rfl := Option.some.inj h; rfl)
          · replace h := cond_f hc20 h
            refine ac_skip ?_
            refine ac_seq ?_
            refine ac_seq ?_
            refine ac_region rfl ?_
            refine rq (u := .ptr b1 2) rfl rfl rfl (p_field_ptr fl_33_2 rfl rfl) rfl ?_
            refine rq (u := .slice .ro 2 (e.Ranges.map GRange.enc)) rfl rfl rfl (p_load_ptr ti_30 (fun _ => rfl) rfl rfl (.head _) (Nat.le_of_ble_eq_true rfl)) rfl ?_
            refine rq (u := .int .i64 (e.Ranges.length : Int)) rfl rfl rfl (p_lenm is_30 rfl rfl) rfl ?_
            refine rq (u := .int .i64 0) rfl rfl rfl (p_move rfl) rfl ?_
            refine .done rfl ?_
            refine ac_block ?_
            refine ac_turns (σ := Nat × Int) (fun (⟨m8, x7⟩ : Nat × Int) => [(0, .agg (GExpr.cells e)), (1, .ptr b1 0), (2, .bool false), (9, .bool (decide (0 < (e.Of.length : Int)))), (10, .ptr b1 5), (11, .slice .ro 6 (e.Of.map GExpr.enc)), (12, .int .i64 (e.Of.length : Int)), (13, .bool (decide (0 < (e.Of.length : Int)))), (14, .bool (e.Field == 6)), (15, .ptr b1 1), (16, .int .i64 e.Field), (17, .bool (e.Field == 6)), (40, .bool ((e.Ranges.length : Int) == 0)), (41, .ptr b1 1), (42, .int .i64 e.Field), (43, .bool (decide (e.Field < 1))), (44, .bool false), (45, .ptr b1 1), (46, .int .i64 e.Field), (47, .bool (decide (5 < e.Field))), (48, .bool (decide (5 < e.Field))), (49, .bool false), (50, .ptr b1 2), (51, .slice .ro 2 (e.Ranges.map GRange.enc)), (52, .int .i64 (e.Ranges.length : Int)), (53, .bool ((e.Ranges.length : Int) == 0)), (54, .bool ((e.Ranges.length : Int) == 0)), (55, .ptr b1 2), (56, .slice .ro 2 (e.Ranges.map GRange.enc)), (57, .int .i64 (e.Ranges.length : Int)), (58, .int .i64 x7)]) (fun (⟨m8, x7⟩ : Nat × Int) => [(b1, RS.box [.int .i64 e.Kind, .int .i64 e.Field, .slice .ro 2 (e.Ranges.map GRange.enc), encF e.Low, encF e.High, .slice .ro 6 (e.Of.map GExpr.enc)])]) (fun x => x.1) (fun (⟨m8, x7⟩ : Nat × Int) => tree_atom_L0 k e (fun x16 => bnd (real_Same k e.Low (some 0)) fun v17 => cond v17 (bnd (real_Same k e.High (some 0)) fun v19 => some v19) (some false)) m8 x7 = some r) ⟨k, 0⟩ h ⟨TVle.refl _, TVle.refl _, TVle.refl _, TVle.refl _, TVle.refl _, TVle.refl _, TVle.refl _, TVle.refl _, TVle.refl _, TVle.refl _, TVle.refl _, TVle.refl _, TVle.refl _, TVle.refl _, TVle.refl _, TVle.refl _, TVle.refl _, TVle.refl _, TVle.refl _, TVle.refl _, TVle.refl _, TVle.refl _, TVle.refl _, TVle.refl _, TVle.refl _, TVle.refl _, TVle.refl _, TVle.refl _, TVle.refl _, TVle.refl _, TVle.refl _, trivial⟩ (ResLe.refl _) ?_
            rintro ⟨m8, x7⟩ h
            replace h : tree_atom_L0 k e (fun x16 => bnd (real_Same k e.Low (some 0)) fun v17 => cond v17 (bnd (real_Same k e.High (some 0)) fun v19 => some v19) (some false)) m8 x7 = some r := h
            show ACode _ _ _ [(0, .agg (GExpr.cells e)), (1, .ptr b1 0), (2, .bool false), (9, .bool (decide (0 < (e.Of.length : Int)))), (10, .ptr b1 5), (11, .slice .ro 6 (e.Of.map GExpr.enc)), (12, .int .i64 (e.Of.length : Int)), (13, .bool (decide (0 < (e.Of.length : Int)))), (14, .bool (e.Field == 6)), (15, .ptr b1 1), (16, .int .i64 e.Field), (17, .bool (e.Field == 6)), (40, .bool ((e.Ranges.length : Int) == 0)), (41, .ptr b1 1), (42, .int .i64 e.Field), (43, .bool (decide (e.Field < 1))), (44, .bool false), (45, .ptr b1 1), (46, .int .i64 e.Field), (47, .bool (decide (5 < e.Field))), (48, .bool (decide (5 < e.Field))), (49, .bool false), (50, .ptr b1 2), (51, .slice .ro 2 (e.Ranges.map GRange.enc)), (52, .int .i64 (e.Ranges.length : Int)), (53, .bool ((e.Ranges.length : Int) == 0)), (54, .bool ((e.Ranges.length : Int) == 0)), (55, .ptr b1 2), (56, .slice .ro 2 (e.Ranges.map GRange.enc)), (57, .int .i64 (e.Ranges.length : Int)), (58, .int .i64 x7)] [(b1, RS.box [.int .i64 e.Kind, .int .i64 e.Field, .slice .ro 2 (e.Ranges.map GRange.enc), encF e.Low, encF e.High, .slice .ro 6 (e.Of.map GExpr.enc)])] _
            cases m8 with
            | zero => rw [tree_atom_L0] at h; cases h
            | succ m8 =>
              rw [tree_atom_L0] at h
              refine ac_seq ?_
              refine ac_region rfl ?_
              refine rq (u := .bool (decide (x7 < (e.Ranges.length : Int)))) rfl rfl rfl (p_lss rfl rfl rfl) rfl ?_
              refine .done rfl ?_
              refine ac_seq ?_
              refine ac_cond rfl rfl (fun hc15 => ?_) (fun hc15 => ?_)
              · replace h := cond_t hc15 h
                refine ac_skip ?_
                refine ac_seq ?_
                refine ac_block ?_
                refine ac_seq ?_
                refine ac_region rfl ?_
                obtain ⟨v9, hv9, h⟩ := bnd_some h
                refine rq (u := .rptr [.int .i64 v9.Low, .int .i64 v9.High]) rfl rfl rfl (p_ix GRange.enc_eq sl_30 hv9 rfl rfl rfl) rfl ?_
                refine rq (u := .agg (GRange.cells v9)) rfl rfl rfl (p_load_rptr ti_41 nofun rfl rfl (Nat.le_of_ble_eq_true rfl)) rfl ?_
                refine ralloc (cs := [.int .i64 0, .int .i64 0]) zf_41 rfl rfl rfl rfl rfl rfl rfl nofun fun b2 => ?_
                refine rstore (j := 0) (us := [.int .i64 v9.Low, .int .i64 v9.High]) ti_41 rfl rfl rfl rfl rfl rfl rfl rfl nofun rfl rfl (Nat.le_of_ble_eq_true rfl) ?_
                refine .done rfl ?_
                refine ac_seq ?_
                refine ac_region rfl ?_
                refine rq (u := .ptr b2 0) rfl rfl rfl (p_field_ptr fl_41_0 rfl rfl) rfl ?_
                refine rq (u := .int .i64 v9.Low) rfl rfl rfl (p_load_ptr ti_3 (fun _ => rfl) rfl rfl (.head _) (Nat.le_of_ble_eq_true rfl)) rfl ?_
                refine rq (u := .ptr b2 1) rfl rfl rfl (p_field_ptr fl_41_1 rfl rfl) rfl ?_
                refine rq (u := .int .i64 v9.High) rfl rfl rfl (p_load_ptr ti_3 (fun _ => rfl) rfl rfl (.head _) (Nat.le_of_ble_eq_true rfl)) rfl ?_
                refine rq (u := .slice .full 1 ([v9.Low, v9.High].map (TV.int .i64))) rfl rfl rfl (p_bslice (f := (TV.int .i64)) (xs := ([v9.Low, v9.High] : List Int)) (fun _ => ⟨rfl, nofun, rfl⟩) sl_81 ⟨_, _, rfl, zf_3, rfl⟩ rfl rfl rfl rfl rfl rfl) rfl ?_
                obtain ⟨v10, hv10, h⟩ := bnd_some h
                refine rq (u := .bool v10) rfl rfl rfl (p_pfnL en_34 (tree_fine_fn k [v9.Low, v9.High] v10 hv10) rfl rfl ⟨TVle.ro, trivial⟩) rfl ?_
                refine rq (u := .bool (!v10)) rfl rfl rfl (p_not rfl rfl) rfl ?_
                refine .done rfl ?_
                refine ac_cond rfl rfl (fun hc11 => ?_) (fun hc11 => ?_)
                · replace h := cond_t hc11 h
                  refine ac_seq ?_
                  refine ac_region rfl ?_
                  refine rq (u := .bool false) rfl rfl rfl (p_assign rfl) rfl ?_
                  refine .done rfl ?_
                  refine ac_ret ?_
                  show Fin _ _ _ _ _ _ _
                  exact fin_ret (Nat.le_of_ble_eq_true rfl) rfl (by obtain rfl := Option.some.inj h; rfl)
                · replace h := cond_f hc11 h
                  refine ac_skip ?_
                  refine ac_region rfl ?_
                  refine rq (u := .int .i64 (IntKind.wrap .i64 (x7 + 1))) rfl rfl rfl (p_add rfl rfl rfl) rfl ?_
                  refine rq (u := .int .i64 (IntKind.wrap .i64 (x7 + 1))) rfl rfl rfl (p_move rfl) rfl ?_
                  refine .done rfl ?_
                  exact ⟨⟨m8, (IntKind.wrap .i64 (x7 + 1))⟩, h, Nat.lt_succ_self _, ⟨TVle.refl _, TVle.refl _, TVle.refl _, TVle.refl _, TVle.refl _, TVle.refl _, TVle.refl _, TVle.refl _, TVle.refl _, TVle.refl _, TVle.refl _, TVle.refl _, TVle.refl _, TVle.refl _, TVle.refl _, TVle.refl _, TVle.refl _, TVle.refl _, TVle.refl _, TVle.refl _, TVle.refl _, TVle.refl _, TVle.refl _, TVle.refl _, TVle.refl _, TVle.refl _, TVle.refl _, TVle.refl _, TVle.refl _, TVle.refl _, TVle.refl _, trivial⟩, (ResLe.drop (ResLe.refl _))⟩
              · replace h := cond_f hc15 h
                refine ac_exit ?_
                refine ac_seq ?_
                refine ac_region rfl ?_
                refine rq (u := .ptr b1 3) rfl rfl rfl (p_field_ptr fl_33_3 rfl rfl) rfl ?_
                refine rq (u := encF e.Low) rfl rfl rfl (p_load_ptr ti_31 (fun _ => rfl) rfl rfl (.head _) (Nat.le_of_ble_eq_true rfl)) rfl ?_
                obtain ⟨v12, hv12, h⟩ := bnd_some h
                refine rq (u := .bool v12) rfl rfl rfl (p_pfnL en_31 (real_Same_fn k e.Low (some 0) v12 hv12) rfl rfl (TVles.refl _)) rfl ?_
                refine rq (u := .bool v12) rfl rfl rfl (p_move rfl) rfl ?_
                refine rcase 73 rfl (fun hc13 => ?_) (fun hc13 => ?_)
                · replace h := cond_t hc13 h
                  refine rq (u := .ptr b1 4) rfl (guard_at rfl rfl rfl rfl rfl) rfl (p_field_ptr fl_33_4 rfl rfl) rfl ?_
                  refine rq (u := encF e.High) rfl (guard_at rfl rfl rfl rfl rfl) rfl (p_load_ptr ti_31 (fun _ => rfl) rfl rfl (.head _) (Nat.le_of_ble_eq_true rfl)) rfl ?_
                  obtain ⟨v14, hv14, h⟩ := bnd_some h
                  refine rq (u := .bool v14) rfl (guard_at rfl rfl rfl rfl rfl) rfl (p_pfnL en_31 (real_Same_fn k e.High (some 0) v14 hv14) rfl rfl (TVles.refl _)) rfl ?_
                  refine rq (u := .bool v14) rfl rfl rfl (p_pick rfl rfl) rfl ?_
                  refine rq (u := .bool v14) rfl rfl rfl (p_assign rfl) rfl ?_
                  refine .done rfl ?_
                  refine ac_ret ?_
                  show Fin _ _ _ _ _ _ _
                  exact fin_ret (Nat.le_of_ble_eq_true rfl) rfl (by obtain rfl := Option.some.inj h; rfl)
                · replace h := cond_f hc13 h
                  refine rskip rfl (guard_at rfl rfl rfl rfl rfl) rfl ?_
                  refine rskip rfl (guard_at rfl rfl rfl rfl rfl) rfl ?_
                  refine rskip rfl (guard_at rfl rfl rfl rfl rfl) rfl ?_
                  refine rq (u := .bool false) rfl rfl rfl (p_pick rfl rfl) rfl ?_
                  refine rq (u := .bool false) rfl rfl rfl (p_assign rfl) rfl ?_
                  refine .done rfl ?_
                  refine ac_ret ?_
                  show Fin _ _ _ _ _ _ _
                  exact fin_ret (Nat.le_of_ble_eq_true rfl) rfl (by obtain rfl := Option.some.inj h; rfl)
end Go.Proofs.YtdkiijhmmmfciaaDoor
