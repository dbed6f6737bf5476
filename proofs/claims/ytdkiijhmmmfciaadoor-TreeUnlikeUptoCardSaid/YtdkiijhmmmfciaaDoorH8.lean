/- The code computes the functions. Printed by tr.py. -/
import Derived.Test.YtdkiijhmmmfciaaDoorG0
import Derived.Test.YtdkiijhmmmfciaaDoorG1
import Derived.Test.YtdkiijhmmmfciaaDoorH7
set_option linter.unusedVariables false
set_option linter.unusedSimpArgs false
namespace Go.Proofs.YtdkiijhmmmfciaaDoor
open Go
set_option maxRecDepth 20000 in
set_option maxHeartbeats 4000000 in
theorem ref11_Text_fn : ∀ k : Nat, ∀ (l : List GRule) (r : ByteArray × Bool) (h : ref11_Text k l = some r), PFn Tryd.prog 13 [.slice .ro 11 (l.map GRule.enc)] (.tuple [.str r.1, .bool r.2]) := by
  intro k
  intro l r h
  rw [ref11_Text] at h
  refine AFn.of Tryd.func13 rfl (Nat.le_of_ble_eq_true rfl) ?_
  refine ac_seq ?_
  refine ac_region rfl ?_
  refine rq (u := .str (⟨#[]⟩ : ByteArray)) rfl rfl rfl (p_assign rfl) rfl ?_
  refine rq (u := .bool false) rfl rfl rfl (p_assign rfl) rfl ?_
  refine .done rfl ?_
  refine ac_seq ?_
  refine ac_region rfl ?_
  refine rq (u := .str (⟨#[]⟩ : ByteArray)) rfl rfl rfl (p_assign rfl) rfl ?_
  refine .done rfl ?_
  refine ac_seq ?_
  refine ac_seq ?_
  refine ac_region rfl ?_
  refine rq (u := .int .i64 0) rfl rfl rfl (p_assign rfl) rfl ?_
  refine .done rfl ?_
  refine ac_block ?_
  refine ac_turns (σ := Nat × ByteArray × Int) (fun (⟨m3, x1, x2⟩ : Nat × ByteArray × Int) => [(0, .slice .ro 11 (l.map GRule.enc)), (2, .str (⟨#[]⟩ : ByteArray)), (3, .bool false), (4, .str x1), (5, .int .i64 x2)]) (fun (⟨m3, x1, x2⟩ : Nat × ByteArray × Int) => []) (fun x => x.1) (fun (⟨m3, x1, x2⟩ : Nat × ByteArray × Int) => ref11_Text_L0 k l (fun x73 x74 => some (x73, true)) m3 x1 x2 = some r) ⟨k, (⟨#[]⟩ : ByteArray), 0⟩ h ⟨TVle.refl _, TVle.refl _, TVle.refl _, TVle.refl _, TVle.refl _, trivial⟩ (ResLe.refl _) ?_
  rintro ⟨m3, x1, x2⟩ h
  replace h : ref11_Text_L0 k l (fun x73 x74 => some (x73, true)) m3 x1 x2 = some r := h
  show ACode _ _ _ [(0, .slice .ro 11 (l.map GRule.enc)), (2, .str (⟨#[]⟩ : ByteArray)), (3, .bool false), (4, .str x1), (5, .int .i64 x2)] [] _
  cases m3 with
  | zero => rw [ref11_Text_L0] at h; cases h
  | succ m3 =>
    rw [ref11_Text_L0] at h
    refine ac_seq ?_
    refine ac_seq ?_
    refine ac_region rfl ?_
    refine rq (u := .int .i64 x2) rfl rfl rfl (p_move rfl) rfl ?_
    refine rq (u := .slice .ro 11 (l.map GRule.enc)) rfl rfl rfl (p_move rfl) rfl ?_
    refine rq (u := .int .i64 (l.length : Int)) rfl rfl rfl (p_lenm is_22 rfl rfl) rfl ?_
    refine rq (u := .bool (decide (x2 < (l.length : Int)))) rfl rfl rfl (p_lss rfl rfl rfl) rfl ?_
    refine .done rfl ?_
    refine ac_cond rfl rfl (fun hc72 => ?_) (fun hc72 => ?_)
    · replace h := cond_t hc72 h
      refine ac_skip ?_
      refine ac_seq ?_
      refine ac_block ?_
      refine ac_seq ?_
      refine ac_region rfl ?_
      refine rq (u := .slice .ro 11 (l.map GRule.enc)) rfl rfl rfl (p_move rfl) rfl ?_
      refine rq (u := .int .i64 x2) rfl rfl rfl (p_move rfl) rfl ?_
      obtain ⟨v4, hv4, h⟩ := bnd_some h
      refine rq (u := .rptr [.bool v4.Allow, .int .i64 v4.When.Kind, .int .i64 v4.When.Field, .slice .ro 2 (v4.When.Ranges.map GRange.enc), encF v4.When.Low, encF v4.When.High, .slice .ro 6 (v4.When.Of.map GExpr.enc), .int .i64 v4.Rate.Num, .int .i64 v4.Rate.Per, .int .i64 v4.Rate.Burst, .int .i64 v4.Line]) rfl rfl rfl (p_ix GRule.enc_eq sl_22 hv4 rfl rfl rfl) rfl ?_
      refine rq (u := .agg (GRule.cells v4)) rfl rfl rfl (p_load_rptr ti_39 nofun rfl rfl (Nat.le_of_ble_eq_true rfl)) rfl ?_
      refine ralloc (cs := [.bool false, .int .i64 0, .int .i64 0, .slice .full 0 [], encF (some 0), encF (some 0), .slice .full 0 [], .int .i64 0, .int .i64 0, .int .i64 0, .int .i64 0]) zf_39 rfl rfl rfl rfl rfl rfl rfl nofun fun b1 => ?_
      refine rstore (j := 0) (us := [.bool v4.Allow, .int .i64 v4.When.Kind, .int .i64 v4.When.Field, .slice .ro 2 (v4.When.Ranges.map GRange.enc), encF v4.When.Low, encF v4.When.High, .slice .ro 6 (v4.When.Of.map GExpr.enc), .int .i64 v4.Rate.Num, .int .i64 v4.Rate.Per, .int .i64 v4.Rate.Burst, .int .i64 v4.Line]) ti_39 rfl rfl rfl rfl rfl rfl rfl rfl nofun rfl (by simp only [allOne, List.all_cons, List.all_nil, one_fl]; rfl) (Nat.le_of_ble_eq_true rfl) ?_
      refine .done rfl ?_
      refine ac_seq ?_
      refine ac_seq ?_
      refine ac_region rfl ?_
      refine rq (u := .agg (GRule.cells v4)) rfl rfl rfl (p_load_ptr ti_39 nofun rfl rfl (.head _) (Nat.le_of_ble_eq_true rfl)) rfl ?_
      obtain ⟨v5, hv5, h⟩ := bnd_some h
      refine rq (u := .bool v5) rfl rfl rfl (p_pfnL en_22 (ref11_rule_fn k v4 v5 hv5) rfl rfl (TVles.refl _)) rfl ?_
      refine rq (u := .bool (!v5)) rfl rfl rfl (p_not rfl rfl) rfl ?_
      refine .done rfl ?_
      refine ac_cond rfl rfl (fun hc71 => ?_) (fun hc71 => ?_)
      · replace h := cond_t hc71 h
        refine ac_seq ?_
        refine ac_region rfl ?_
        refine rq (u := .str (⟨#[]⟩ : ByteArray)) rfl rfl rfl (p_assign rfl) rfl ?_
        refine rq (u := .bool false) rfl rfl rfl (p_assign rfl) rfl ?_
        refine .done rfl ?_
        refine ac_ret ?_
        show Fin _ _ _ _ _ _ _
        exact fin_ret2 (Nat.le_of_ble_eq_true rfl) (Nat.le_of_ble_eq_true rfl) rfl rfl (by obtain rfl := Option.some.inj h; rfl)
      · replace h := cond_f hc71 h
        refine ac_skip ?_
        refine ac_seq ?_
        refine ac_region rfl ?_
        refine rq (u := .str (⟨#[100, 101, 110, 121]⟩ : ByteArray)) rfl rfl rfl (p_assign rfl) rfl ?_
        refine .done rfl ?_
        refine ac_seq ?_
        refine ac_seq ?_
        refine ac_region rfl ?_
        refine rq (u := .ptr b1 0) rfl rfl rfl (p_field_ptr fl_39_0 rfl rfl) rfl ?_
        refine rq (u := .bool v4.Allow) rfl rfl rfl (p_load_ptr ti_4 (fun _ => rfl) rfl rfl (.head _) (Nat.le_of_ble_eq_true rfl)) rfl ?_
        refine .done rfl ?_
        refine ac_cond rfl rfl (fun hc70 => ?_) (fun hc70 => ?_)
        · replace h := cond_t hc70 h
          refine ac_region rfl ?_
          refine rq (u := .str (⟨#[97, 108, 108, 111, 119]⟩ : ByteArray)) rfl rfl rfl (p_assign rfl) rfl ?_
          refine .done rfl ?_
          refine ac_seq ?_
          refine ac_seq ?_
          refine ac_region rfl ?_
          refine rq (u := .ptr b1 1) rfl rfl rfl (p_field_ptr fl_39_1 rfl rfl) rfl ?_
          refine rq (u := .ptr b1 1) rfl rfl rfl (p_field_ptr fl_33_0 rfl rfl) rfl ?_
          refine rq (u := .int .i64 v4.When.Kind) rfl rfl rfl (p_load_ptr ti_3 (fun _ => rfl) rfl rfl (.head _) (Nat.le_of_ble_eq_true rfl)) rfl ?_
          refine rq (u := .bool (v4.When.Kind != 0)) rfl rfl rfl (p_neq rfl rfl rfl) rfl ?_
          refine .done rfl ?_
          refine ac_cond rfl rfl (fun hc37 => ?_) (fun hc37 => ?_)
          · replace h := cond_t hc37 h
            refine ac_region rfl ?_
            refine rq (u := .str (⟨#[97, 108, 108, 111, 119]⟩ : ByteArray)) rfl rfl rfl (p_move rfl) rfl ?_
            obtain ⟨hv6, h⟩ := chk_some h
            refine rq (u := .str ((⟨#[97, 108, 108, 111, 119]⟩ : ByteArray) ++ (⟨#[32, 119, 104, 101, 110, 32]⟩ : ByteArray))) rfl rfl rfl (p_sadd rfl rfl rfl (of_decide_eq_true hv6)) rfl ?_
            refine rq (u := .ptr b1 1) rfl rfl rfl (p_field_ptr fl_39_1 rfl rfl) rfl ?_
            refine rq (u := .agg (GExpr.cells v4.When)) rfl rfl rfl (p_load_ptr ti_33 nofun rfl rfl (.head _) (Nat.le_of_ble_eq_true rfl)) rfl ?_
            obtain ⟨v7, hv7, h⟩ := bnd_some h
            refine rq (u := .str v7) rfl rfl rfl (p_pfnL en_23 (ref11_text_fn k v4.When v7 hv7) rfl rfl (TVles.refl _)) rfl ?_
            obtain ⟨hv8, h⟩ := chk_some h
            refine rq (u := .str (((⟨#[97, 108, 108, 111, 119]⟩ : ByteArray) ++ (⟨#[32, 119, 104, 101, 110, 32]⟩ : ByteArray)) ++ v7)) rfl rfl rfl (p_sadd rfl rfl rfl (of_decide_eq_true hv8)) rfl ?_
            refine rq (u := .str (((⟨#[97, 108, 108, 111, 119]⟩ : ByteArray) ++ (⟨#[32, 119, 104, 101, 110, 32]⟩ : ByteArray)) ++ v7)) rfl rfl rfl (p_assign rfl) rfl ?_
            refine .done rfl ?_
            refine ac_seq ?_
            refine ac_seq ?_
            refine ac_region rfl ?_
            refine rq (u := .ptr b1 7) rfl rfl rfl (p_field_ptr fl_39_2 rfl rfl) rfl ?_
            refine rq (u := .ptr b1 8) rfl rfl rfl (p_field_ptr fl_37_1 rfl rfl) rfl ?_
            refine rq (u := .int .i64 v4.Rate.Per) rfl rfl rfl (p_load_ptr ti_3 (fun _ => rfl) rfl rfl (.head _) (Nat.le_of_ble_eq_true rfl)) rfl ?_
            refine rq (u := .bool (v4.Rate.Per != 0)) rfl rfl rfl (p_neq rfl rfl rfl) rfl ?_
            refine .done rfl ?_
            refine ac_cond rfl rfl (fun hc22 => ?_) (fun hc22 => ?_)
            · replace h := cond_t hc22 h
              refine ac_region_draw mo rfl rfl rfl ?_
              refine rq (u := .str (((⟨#[97, 108, 108, 111, 119]⟩ : ByteArray) ++ (⟨#[32, 119, 104, 101, 110, 32]⟩ : ByteArray)) ++ v7)) rfl rfl rfl (p_move rfl) rfl ?_
              obtain ⟨hv9, h⟩ := chk_some h
              refine rq (u := .str ((((⟨#[97, 108, 108, 111, 119]⟩ : ByteArray) ++ (⟨#[32, 119, 104, 101, 110, 32]⟩ : ByteArray)) ++ v7) ++ (⟨#[32, 114, 97, 116, 101, 32]⟩ : ByteArray))) rfl rfl rfl (p_sadd rfl rfl rfl (of_decide_eq_true hv9)) rfl ?_
              refine rq (u := .ptr b1 7) rfl rfl rfl (p_field_ptr fl_39_2 rfl rfl) rfl ?_
              refine rq (u := .ptr b1 7) rfl rfl rfl (p_field_ptr fl_37_0 rfl rfl) rfl ?_
              refine rq (u := .int .i64 v4.Rate.Num) rfl rfl rfl (p_load_ptr ti_3 (fun _ => rfl) rfl rfl (.head _) (Nat.le_of_ble_eq_true rfl)) rfl ?_
              obtain ⟨v10, hv10, h⟩ := bnd_some h
              refine rq (u := .str v10) rfl rfl rfl (p_pfnL en_24 (ref11_digits_fn k v4.Rate.Num v10 hv10) rfl rfl (TVles.refl _)) rfl ?_
              obtain ⟨hv11, h⟩ := chk_some h
              refine rq (u := .str (((((⟨#[97, 108, 108, 111, 119]⟩ : ByteArray) ++ (⟨#[32, 119, 104, 101, 110, 32]⟩ : ByteArray)) ++ v7) ++ (⟨#[32, 114, 97, 116, 101, 32]⟩ : ByteArray)) ++ v10)) rfl rfl rfl (p_sadd rfl rfl rfl (of_decide_eq_true hv11)) rfl ?_
              obtain ⟨hv12, h⟩ := chk_some h
              refine rq (u := .str ((((((⟨#[97, 108, 108, 111, 119]⟩ : ByteArray) ++ (⟨#[32, 119, 104, 101, 110, 32]⟩ : ByteArray)) ++ v7) ++ (⟨#[32, 114, 97, 116, 101, 32]⟩ : ByteArray)) ++ v10) ++ (⟨#[32, 112, 101, 114, 32]⟩ : ByteArray))) rfl rfl rfl (p_sadd rfl rfl rfl (of_decide_eq_true hv12)) rfl ?_
              refine rq (u := .ptr b1 7) rfl rfl rfl (p_field_ptr fl_39_2 rfl rfl) rfl ?_
              refine rq (u := .ptr b1 8) rfl rfl rfl (p_field_ptr fl_37_1 rfl rfl) rfl ?_
              refine rq (u := .int .i64 v4.Rate.Per) rfl rfl rfl (p_load_ptr ti_3 (fun _ => rfl) rfl rfl (.head _) (Nat.le_of_ble_eq_true rfl)) rfl ?_
              obtain ⟨v13, hv13, h⟩ := bnd_some h
              refine rq (u := .str v13) rfl rfl rfl (p_pfnL en_24 (ref11_digits_fn k v4.Rate.Per v13 hv13) rfl rfl (TVles.refl _)) rfl ?_
              obtain ⟨hv14, h⟩ := chk_some h
              refine rq (u := .str (((((((⟨#[97, 108, 108, 111, 119]⟩ : ByteArray) ++ (⟨#[32, 119, 104, 101, 110, 32]⟩ : ByteArray)) ++ v7) ++ (⟨#[32, 114, 97, 116, 101, 32]⟩ : ByteArray)) ++ v10) ++ (⟨#[32, 112, 101, 114, 32]⟩ : ByteArray)) ++ v13)) rfl rfl rfl (p_sadd rfl rfl rfl (of_decide_eq_true hv14)) rfl ?_
              obtain ⟨hv15, h⟩ := chk_some h
              refine rq (u := .str ((((((((⟨#[97, 108, 108, 111, 119]⟩ : ByteArray) ++ (⟨#[32, 119, 104, 101, 110, 32]⟩ : ByteArray)) ++ v7) ++ (⟨#[32, 114, 97, 116, 101, 32]⟩ : ByteArray)) ++ v10) ++ (⟨#[32, 112, 101, 114, 32]⟩ : ByteArray)) ++ v13) ++ (⟨#[32, 98, 117, 114, 115, 116, 32]⟩ : ByteArray))) rfl rfl rfl (p_sadd rfl rfl rfl (of_decide_eq_true hv15)) rfl ?_
              refine rq (u := .ptr b1 7) rfl rfl rfl (p_field_ptr fl_39_2 rfl rfl) rfl ?_
              refine rq (u := .ptr b1 9) rfl rfl rfl (p_field_ptr fl_37_2 rfl rfl) rfl ?_
              refine rq (u := .int .i64 v4.Rate.Burst) rfl rfl rfl (p_load_ptr ti_3 (fun _ => rfl) rfl rfl (.head _) (Nat.le_of_ble_eq_true rfl)) rfl ?_
              obtain ⟨v16, hv16, h⟩ := bnd_some h
              refine rq (u := .str v16) rfl rfl rfl (p_pfnL en_24 (ref11_digits_fn k v4.Rate.Burst v16 hv16) rfl rfl (TVles.refl _)) rfl ?_
              obtain ⟨hv17, h⟩ := chk_some h
              refine rq (u := .str (((((((((⟨#[97, 108, 108, 111, 119]⟩ : ByteArray) ++ (⟨#[32, 119, 104, 101, 110, 32]⟩ : ByteArray)) ++ v7) ++ (⟨#[32, 114, 97, 116, 101, 32]⟩ : ByteArray)) ++ v10) ++ (⟨#[32, 112, 101, 114, 32]⟩ : ByteArray)) ++ v13) ++ (⟨#[32, 98, 117, 114, 115, 116, 32]⟩ : ByteArray)) ++ v16)) rfl rfl rfl (p_sadd rfl rfl rfl (of_decide_eq_true hv17)) rfl ?_
              refine rq (u := .str (((((((((⟨#[97, 108, 108, 111, 119]⟩ : ByteArray) ++ (⟨#[32, 119, 104, 101, 110, 32]⟩ : ByteArray)) ++ v7) ++ (⟨#[32, 114, 97, 116, 101, 32]⟩ : ByteArray)) ++ v10) ++ (⟨#[32, 112, 101, 114, 32]⟩ : ByteArray)) ++ v13) ++ (⟨#[32, 98, 117, 114, 115, 116, 32]⟩ : ByteArray)) ++ v16)) rfl rfl rfl (p_assign rfl) rfl ?_
              refine .done rfl ?_
              refine ac_region rfl ?_
              refine rq (u := .str x1) rfl rfl rfl (p_move rfl) rfl ?_
              refine rq (u := .str (((((((((⟨#[97, 108, 108, 111, 119]⟩ : ByteArray) ++ (⟨#[32, 119, 104, 101, 110, 32]⟩ : ByteArray)) ++ v7) ++ (⟨#[32, 114, 97, 116, 101, 32]⟩ : ByteArray)) ++ v10) ++ (⟨#[32, 112, 101, 114, 32]⟩ : ByteArray)) ++ v13) ++ (⟨#[32, 98, 117, 114, 115, 116, 32]⟩ : ByteArray)) ++ v16)) rfl rfl rfl (p_move rfl) rfl ?_
              obtain ⟨hv18, h⟩ := chk_some h
              refine rq (u := .str (x1 ++ (((((((((⟨#[97, 108, 108, 111, 119]⟩ : ByteArray) ++ (⟨#[32, 119, 104, 101, 110, 32]⟩ : ByteArray)) ++ v7) ++ (⟨#[32, 114, 97, 116, 101, 32]⟩ : ByteArray)) ++ v10) ++ (⟨#[32, 112, 101, 114, 32]⟩ : ByteArray)) ++ v13) ++ (⟨#[32, 98, 117, 114, 115, 116, 32]⟩ : ByteArray)) ++ v16))) rfl rfl rfl (p_sadd rfl rfl rfl (of_decide_eq_true hv18)) rfl ?_
              obtain ⟨hv19, h⟩ := chk_some h
              refine rq (u := .str ((x1 ++ (((((((((⟨#[97, 108, 108, 111, 119]⟩ : ByteArray) ++ (⟨#[32, 119, 104, 101, 110, 32]⟩ : ByteArray)) ++ v7) ++ (⟨#[32, 114, 97, 116, 101, 32]⟩ : ByteArray)) ++ v10) ++ (⟨#[32, 112, 101, 114, 32]⟩ : ByteArray)) ++ v13) ++ (⟨#[32, 98, 117, 114, 115, 116, 32]⟩ : ByteArray)) ++ v16)) ++ (⟨#[59, 10]⟩ : ByteArray))) rfl rfl rfl (p_sadd rfl rfl rfl (of_decide_eq_true hv19)) rfl ?_
              refine rq (u := .str ((x1 ++ (((((((((⟨#[97, 108, 108, 111, 119]⟩ : ByteArray) ++ (⟨#[32, 119, 104, 101, 110, 32]⟩ : ByteArray)) ++ v7) ++ (⟨#[32, 114, 97, 116, 101, 32]⟩ : ByteArray)) ++ v10) ++ (⟨#[32, 112, 101, 114, 32]⟩ : ByteArray)) ++ v13) ++ (⟨#[32, 98, 117, 114, 115, 116, 32]⟩ : ByteArray)) ++ v16)) ++ (⟨#[59, 10]⟩ : ByteArray))) rfl rfl rfl (p_assign rfl) rfl ?_
              refine .done rfl ?_
              refine ac_region rfl ?_
              refine rq (u := .int .i64 x2) rfl rfl rfl (p_move rfl) rfl ?_
              refine rq (u := .int .i64 (IntKind.wrap .i64 (x2 + 1))) rfl rfl rfl (p_add rfl rfl rfl) rfl ?_
              refine rq (u := .int .i64 (IntKind.wrap .i64 (x2 + 1))) rfl rfl rfl (p_assign rfl) rfl ?_
              refine .done rfl ?_
              exact ⟨⟨m3, ((x1 ++ (((((((((⟨#[97, 108, 108, 111, 119]⟩ : ByteArray) ++ (⟨#[32, 119, 104, 101, 110, 32]⟩ : ByteArray)) ++ v7) ++ (⟨#[32, 114, 97, 116, 101, 32]⟩ : ByteArray)) ++ v10) ++ (⟨#[32, 112, 101, 114, 32]⟩ : ByteArray)) ++ v13) ++ (⟨#[32, 98, 117, 114, 115, 116, 32]⟩ : ByteArray)) ++ v16)) ++ (⟨#[59, 10]⟩ : ByteArray)), (IntKind.wrap .i64 (x2 + 1))⟩, h, Nat.lt_succ_self _, ⟨TVle.refl _, TVle.refl _, TVle.refl _, TVle.refl _, TVle.refl _, trivial⟩, (ResLe.drop (ResLe.refl _))⟩
            · replace h := cond_f hc22 h
              refine ac_skip ?_
              refine ac_region rfl ?_
              refine rq (u := .str x1) rfl rfl rfl (p_move rfl) rfl ?_
              refine rq (u := .str (((⟨#[97, 108, 108, 111, 119]⟩ : ByteArray) ++ (⟨#[32, 119, 104, 101, 110, 32]⟩ : ByteArray)) ++ v7)) rfl rfl rfl (p_move rfl) rfl ?_
              obtain ⟨hv20, h⟩ := chk_some h
              refine rq (u := .str (x1 ++ (((⟨#[97, 108, 108, 111, 119]⟩ : ByteArray) ++ (⟨#[32, 119, 104, 101, 110, 32]⟩ : ByteArray)) ++ v7))) rfl rfl rfl (p_sadd rfl rfl rfl (of_decide_eq_true hv20)) rfl ?_
              obtain ⟨hv21, h⟩ := chk_some h
              refine rq (u := .str ((x1 ++ (((⟨#[97, 108, 108, 111, 119]⟩ : ByteArray) ++ (⟨#[32, 119, 104, 101, 110, 32]⟩ : ByteArray)) ++ v7)) ++ (⟨#[59, 10]⟩ : ByteArray))) rfl rfl rfl (p_sadd rfl rfl rfl (of_decide_eq_true hv21)) rfl ?_
              refine rq (u := .str ((x1 ++ (((⟨#[97, 108, 108, 111, 119]⟩ : ByteArray) ++ (⟨#[32, 119, 104, 101, 110, 32]⟩ : ByteArray)) ++ v7)) ++ (⟨#[59, 10]⟩ : ByteArray))) rfl rfl rfl (p_assign rfl) rfl ?_
              refine .done rfl ?_
              refine ac_region rfl ?_
              refine rq (u := .int .i64 x2) rfl rfl rfl (p_move rfl) rfl ?_
              refine rq (u := .int .i64 (IntKind.wrap .i64 (x2 + 1))) rfl rfl rfl (p_add rfl rfl rfl) rfl ?_
              refine rq (u := .int .i64 (IntKind.wrap .i64 (x2 + 1))) rfl rfl rfl (p_assign rfl) rfl ?_
              refine .done rfl ?_
              exact ⟨⟨m3, ((x1 ++ (((⟨#[97, 108, 108, 111, 119]⟩ : ByteArray) ++ (⟨#[32, 119, 104, 101, 110, 32]⟩ : ByteArray)) ++ v7)) ++ (⟨#[59, 10]⟩ : ByteArray)), (IntKind.wrap .i64 (x2 + 1))⟩, h, Nat.lt_succ_self _, ⟨TVle.refl _, TVle.refl _, TVle.refl _, TVle.refl _, TVle.refl _, trivial⟩, (ResLe.drop (ResLe.refl _))⟩
          · replace h := cond_f hc37 h
            refine ac_skip ?_
            refine ac_seq ?_
            refine ac_seq ?_
            refine ac_region rfl ?_
            refine rq (u := .ptr b1 7) rfl rfl rfl (p_field_ptr fl_39_2 rfl rfl) rfl ?_
            refine rq (u := .ptr b1 8) rfl rfl rfl (p_field_ptr fl_37_1 rfl rfl) rfl ?_
            refine rq (u := .int .i64 v4.Rate.Per) rfl rfl rfl (p_load_ptr ti_3 (fun _ => rfl) rfl rfl (.head _) (Nat.le_of_ble_eq_true rfl)) rfl ?_
            refine rq (u := .bool (v4.Rate.Per != 0)) rfl rfl rfl (p_neq rfl rfl rfl) rfl ?_
            refine .done rfl ?_
            refine ac_cond rfl rfl (fun hc36 => ?_) (fun hc36 => ?_)
            · replace h := cond_t hc36 h
              refine ac_region_draw mo rfl rfl rfl ?_
              refine rq (u := .str (⟨#[97, 108, 108, 111, 119]⟩ : ByteArray)) rfl rfl rfl (p_move rfl) rfl ?_
              obtain ⟨hv23, h⟩ := chk_some h
              refine rq (u := .str ((⟨#[97, 108, 108, 111, 119]⟩ : ByteArray) ++ (⟨#[32, 114, 97, 116, 101, 32]⟩ : ByteArray))) rfl rfl rfl (p_sadd rfl rfl rfl (of_decide_eq_true hv23)) rfl ?_
              refine rq (u := .ptr b1 7) rfl rfl rfl (p_field_ptr fl_39_2 rfl rfl) rfl ?_
              refine rq (u := .ptr b1 7) rfl rfl rfl (p_field_ptr fl_37_0 rfl rfl) rfl ?_
              refine rq (u := .int .i64 v4.Rate.Num) rfl rfl rfl (p_load_ptr ti_3 (fun _ => rfl) rfl rfl (.head _) (Nat.le_of_ble_eq_true rfl)) rfl ?_
              obtain ⟨v24, hv24, h⟩ := bnd_some h
              refine rq (u := .str v24) rfl rfl rfl (p_pfnL en_24 (ref11_digits_fn k v4.Rate.Num v24 hv24) rfl rfl (TVles.refl _)) rfl ?_
              obtain ⟨hv25, h⟩ := chk_some h
              refine rq (u := .str (((⟨#[97, 108, 108, 111, 119]⟩ : ByteArray) ++ (⟨#[32, 114, 97, 116, 101, 32]⟩ : ByteArray)) ++ v24)) rfl rfl rfl (p_sadd rfl rfl rfl (of_decide_eq_true hv25)) rfl ?_
              obtain ⟨hv26, h⟩ := chk_some h
              refine rq (u := .str ((((⟨#[97, 108, 108, 111, 119]⟩ : ByteArray) ++ (⟨#[32, 114, 97, 116, 101, 32]⟩ : ByteArray)) ++ v24) ++ (⟨#[32, 112, 101, 114, 32]⟩ : ByteArray))) rfl rfl rfl (p_sadd rfl rfl rfl (of_decide_eq_true hv26)) rfl ?_
              refine rq (u := .ptr b1 7) rfl rfl rfl (p_field_ptr fl_39_2 rfl rfl) rfl ?_
              refine rq (u := .ptr b1 8) rfl rfl rfl (p_field_ptr fl_37_1 rfl rfl) rfl ?_
              refine rq (u := .int .i64 v4.Rate.Per) rfl rfl rfl (p_load_ptr ti_3 (fun _ => rfl) rfl rfl (.head _) (Nat.le_of_ble_eq_true rfl)) rfl ?_
              obtain ⟨v27, hv27, h⟩ := bnd_some h
              refine rq (u := .str v27) rfl rfl rfl (p_pfnL en_24 (ref11_digits_fn k v4.Rate.Per v27 hv27) rfl rfl (TVles.refl _)) rfl ?_
              obtain ⟨hv28, h⟩ := chk_some h
              refine rq (u := .str (((((⟨#[97, 108, 108, 111, 119]⟩ : ByteArray) ++ (⟨#[32, 114, 97, 116, 101, 32]⟩ : ByteArray)) ++ v24) ++ (⟨#[32, 112, 101, 114, 32]⟩ : ByteArray)) ++ v27)) rfl rfl rfl (p_sadd rfl rfl rfl (of_decide_eq_true hv28)) rfl ?_
              obtain ⟨hv29, h⟩ := chk_some h
              refine rq (u := .str ((((((⟨#[97, 108, 108, 111, 119]⟩ : ByteArray) ++ (⟨#[32, 114, 97, 116, 101, 32]⟩ : ByteArray)) ++ v24) ++ (⟨#[32, 112, 101, 114, 32]⟩ : ByteArray)) ++ v27) ++ (⟨#[32, 98, 117, 114, 115, 116, 32]⟩ : ByteArray))) rfl rfl rfl (p_sadd rfl rfl rfl (of_decide_eq_true hv29)) rfl ?_
              refine rq (u := .ptr b1 7) rfl rfl rfl (p_field_ptr fl_39_2 rfl rfl) rfl ?_
              refine rq (u := .ptr b1 9) rfl rfl rfl (p_field_ptr fl_37_2 rfl rfl) rfl ?_
              refine rq (u := .int .i64 v4.Rate.Burst) rfl rfl rfl (p_load_ptr ti_3 (fun _ => rfl) rfl rfl (.head _) (Nat.le_of_ble_eq_true rfl)) rfl ?_
              obtain ⟨v30, hv30, h⟩ := bnd_some h
              refine rq (u := .str v30) rfl rfl rfl (p_pfnL en_24 (ref11_digits_fn k v4.Rate.Burst v30 hv30) rfl rfl (TVles.refl _)) rfl ?_
              obtain ⟨hv31, h⟩ := chk_some h
              refine rq (u := .str (((((((⟨#[97, 108, 108, 111, 119]⟩ : ByteArray) ++ (⟨#[32, 114, 97, 116, 101, 32]⟩ : ByteArray)) ++ v24) ++ (⟨#[32, 112, 101, 114, 32]⟩ : ByteArray)) ++ v27) ++ (⟨#[32, 98, 117, 114, 115, 116, 32]⟩ : ByteArray)) ++ v30)) rfl rfl rfl (p_sadd rfl rfl rfl (of_decide_eq_true hv31)) rfl ?_
              refine rq (u := .str (((((((⟨#[97, 108, 108, 111, 119]⟩ : ByteArray) ++ (⟨#[32, 114, 97, 116, 101, 32]⟩ : ByteArray)) ++ v24) ++ (⟨#[32, 112, 101, 114, 32]⟩ : ByteArray)) ++ v27) ++ (⟨#[32, 98, 117, 114, 115, 116, 32]⟩ : ByteArray)) ++ v30)) rfl rfl rfl (p_assign rfl) rfl ?_
              refine .done rfl ?_
              refine ac_region rfl ?_
              refine rq (u := .str x1) rfl rfl rfl (p_move rfl) rfl ?_
              refine rq (u := .str (((((((⟨#[97, 108, 108, 111, 119]⟩ : ByteArray) ++ (⟨#[32, 114, 97, 116, 101, 32]⟩ : ByteArray)) ++ v24) ++ (⟨#[32, 112, 101, 114, 32]⟩ : ByteArray)) ++ v27) ++ (⟨#[32, 98, 117, 114, 115, 116, 32]⟩ : ByteArray)) ++ v30)) rfl rfl rfl (p_move rfl) rfl ?_
              obtain ⟨hv32, h⟩ := chk_some h
              refine rq (u := .str (x1 ++ (((((((⟨#[97, 108, 108, 111, 119]⟩ : ByteArray) ++ (⟨#[32, 114, 97, 116, 101, 32]⟩ : ByteArray)) ++ v24) ++ (⟨#[32, 112, 101, 114, 32]⟩ : ByteArray)) ++ v27) ++ (⟨#[32, 98, 117, 114, 115, 116, 32]⟩ : ByteArray)) ++ v30))) rfl rfl rfl (p_sadd rfl rfl rfl (of_decide_eq_true hv32)) rfl ?_
              obtain ⟨hv33, h⟩ := chk_some h
              refine rq (u := .str ((x1 ++ (((((((⟨#[97, 108, 108, 111, 119]⟩ : ByteArray) ++ (⟨#[32, 114, 97, 116, 101, 32]⟩ : ByteArray)) ++ v24) ++ (⟨#[32, 112, 101, 114, 32]⟩ : ByteArray)) ++ v27) ++ (⟨#[32, 98, 117, 114, 115, 116, 32]⟩ : ByteArray)) ++ v30)) ++ (⟨#[59, 10]⟩ : ByteArray))) rfl rfl rfl (p_sadd rfl rfl rfl (of_decide_eq_true hv33)) rfl ?_
              refine rq (u := .str ((x1 ++ (((((((⟨#[97, 108, 108, 111, 119]⟩ : ByteArray) ++ (⟨#[32, 114, 97, 116, 101, 32]⟩ : ByteArray)) ++ v24) ++ (⟨#[32, 112, 101, 114, 32]⟩ : ByteArray)) ++ v27) ++ (⟨#[32, 98, 117, 114, 115, 116, 32]⟩ : ByteArray)) ++ v30)) ++ (⟨#[59, 10]⟩ : ByteArray))) rfl rfl rfl (p_assign rfl) rfl ?_
              refine .done rfl ?_
              refine ac_region rfl ?_
              refine rq (u := .int .i64 x2) rfl rfl rfl (p_move rfl) rfl ?_
              refine rq (u := .int .i64 (IntKind.wrap .i64 (x2 + 1))) rfl rfl rfl (p_add rfl rfl rfl) rfl ?_
              refine rq (u := .int .i64 (IntKind.wrap .i64 (x2 + 1))) rfl rfl rfl (p_assign rfl) rfl ?_
              refine .done rfl ?_
              exact ⟨⟨m3, ((x1 ++ (((((((⟨#[97, 108, 108, 111, 119]⟩ : ByteArray) ++ (⟨#[32, 114, 97, 116, 101, 32]⟩ : ByteArray)) ++ v24) ++ (⟨#[32, 112, 101, 114, 32]⟩ : ByteArray)) ++ v27) ++ (⟨#[32, 98, 117, 114, 115, 116, 32]⟩ : ByteArray)) ++ v30)) ++ (⟨#[59, 10]⟩ : ByteArray)), (IntKind.wrap .i64 (x2 + 1))⟩, h, Nat.lt_succ_self _, ⟨TVle.refl _, TVle.refl _, TVle.refl _, TVle.refl _, TVle.refl _, trivial⟩, (ResLe.drop (ResLe.refl _))⟩
            · replace h := cond_f hc36 h
              refine ac_skip ?_
              refine ac_region rfl ?_
              refine rq (u := .str x1) rfl rfl rfl (p_move rfl) rfl ?_
              refine rq (u := .str (⟨#[97, 108, 108, 111, 119]⟩ : ByteArray)) rfl rfl rfl (p_move rfl) rfl ?_
              obtain ⟨hv34, h⟩ := chk_some h
              refine rq (u := .str (x1 ++ (⟨#[97, 108, 108, 111, 119]⟩ : ByteArray))) rfl rfl rfl (p_sadd rfl rfl rfl (of_decide_eq_true hv34)) rfl ?_
              obtain ⟨hv35, h⟩ := chk_some h
              refine rq (u := .str ((x1 ++ (⟨#[97, 108, 108, 111, 119]⟩ : ByteArray)) ++ (⟨#[59, 10]⟩ : ByteArray))) rfl rfl rfl (p_sadd rfl rfl rfl (of_decide_eq_true hv35)) rfl ?_
              refine rq (u := .str ((x1 ++ (⟨#[97, 108, 108, 111, 119]⟩ : ByteArray)) ++ (⟨#[59, 10]⟩ : ByteArray))) rfl rfl rfl (p_assign rfl) rfl ?_
              refine .done rfl ?_
              refine ac_region rfl ?_
              refine rq (u := .int .i64 x2) rfl rfl rfl (p_move rfl) rfl ?_
              refine rq (u := .int .i64 (IntKind.wrap .i64 (x2 + 1))) rfl rfl rfl (p_add rfl rfl rfl) rfl ?_
              refine rq (u := .int .i64 (IntKind.wrap .i64 (x2 + 1))) rfl rfl rfl (p_assign rfl) rfl ?_
              refine .done rfl ?_
              exact ⟨⟨m3, ((x1 ++ (⟨#[97, 108, 108, 111, 119]⟩ : ByteArray)) ++ (⟨#[59, 10]⟩ : ByteArray)), (IntKind.wrap .i64 (x2 + 1))⟩, h, Nat.lt_succ_self _, ⟨TVle.refl _, TVle.refl _, TVle.refl _, TVle.refl _, TVle.refl _, trivial⟩, (ResLe.drop (ResLe.refl _))⟩
        · replace h := cond_f hc70 h
          refine ac_skip ?_
          refine ac_seq ?_
          refine ac_seq ?_
          refine ac_region rfl ?_
          refine rq (u := .ptr b1 1) rfl rfl rfl (p_field_ptr fl_39_1 rfl rfl) rfl ?_
          refine rq (u := .ptr b1 1) rfl rfl rfl (p_field_ptr fl_33_0 rfl rfl) rfl ?_
          refine rq (u := .int .i64 v4.When.Kind) rfl rfl rfl (p_load_ptr ti_3 (fun _ => rfl) rfl rfl (.head _) (Nat.le_of_ble_eq_true rfl)) rfl ?_
          refine rq (u := .bool (v4.When.Kind != 0)) rfl rfl rfl (p_neq rfl rfl rfl) rfl ?_
          refine .done rfl ?_
          refine ac_cond rfl rfl (fun hc69 => ?_) (fun hc69 => ?_)
          · replace h := cond_t hc69 h
            refine ac_region rfl ?_
            refine rq (u := .str (⟨#[100, 101, 110, 121]⟩ : ByteArray)) rfl rfl rfl (p_move rfl) rfl ?_
            obtain ⟨hv38, h⟩ := chk_some h
            refine rq (u := .str ((⟨#[100, 101, 110, 121]⟩ : ByteArray) ++ (⟨#[32, 119, 104, 101, 110, 32]⟩ : ByteArray))) rfl rfl rfl (p_sadd rfl rfl rfl (of_decide_eq_true hv38)) rfl ?_
            refine rq (u := .ptr b1 1) rfl rfl rfl (p_field_ptr fl_39_1 rfl rfl) rfl ?_
            refine rq (u := .agg (GExpr.cells v4.When)) rfl rfl rfl (p_load_ptr ti_33 nofun rfl rfl (.head _) (Nat.le_of_ble_eq_true rfl)) rfl ?_
            obtain ⟨v39, hv39, h⟩ := bnd_some h
            refine rq (u := .str v39) rfl rfl rfl (p_pfnL en_23 (ref11_text_fn k v4.When v39 hv39) rfl rfl (TVles.refl _)) rfl ?_
            obtain ⟨hv40, h⟩ := chk_some h
            refine rq (u := .str (((⟨#[100, 101, 110, 121]⟩ : ByteArray) ++ (⟨#[32, 119, 104, 101, 110, 32]⟩ : ByteArray)) ++ v39)) rfl rfl rfl (p_sadd rfl rfl rfl (of_decide_eq_true hv40)) rfl ?_
            refine rq (u := .str (((⟨#[100, 101, 110, 121]⟩ : ByteArray) ++ (⟨#[32, 119, 104, 101, 110, 32]⟩ : ByteArray)) ++ v39)) rfl rfl rfl (p_assign rfl) rfl ?_
            refine .done rfl ?_
            refine ac_seq ?_
            refine ac_seq ?_
            refine ac_region rfl ?_
            refine rq (u := .ptr b1 7) rfl rfl rfl (p_field_ptr fl_39_2 rfl rfl) rfl ?_
            refine rq (u := .ptr b1 8) rfl rfl rfl (p_field_ptr fl_37_1 rfl rfl) rfl ?_
            refine rq (u := .int .i64 v4.Rate.Per) rfl rfl rfl (p_load_ptr ti_3 (fun _ => rfl) rfl rfl (.head _) (Nat.le_of_ble_eq_true rfl)) rfl ?_
            refine rq (u := .bool (v4.Rate.Per != 0)) rfl rfl rfl (p_neq rfl rfl rfl) rfl ?_
            refine .done rfl ?_
            refine ac_cond rfl rfl (fun hc54 => ?_) (fun hc54 => ?_)
            · replace h := cond_t hc54 h
              refine ac_region_draw mo rfl rfl rfl ?_
              refine rq (u := .str (((⟨#[100, 101, 110, 121]⟩ : ByteArray) ++ (⟨#[32, 119, 104, 101, 110, 32]⟩ : ByteArray)) ++ v39)) rfl rfl rfl (p_move rfl) rfl ?_
              obtain ⟨hv41, h⟩ := chk_some h
              refine rq (u := .str ((((⟨#[100, 101, 110, 121]⟩ : ByteArray) ++ (⟨#[32, 119, 104, 101, 110, 32]⟩ : ByteArray)) ++ v39) ++ (⟨#[32, 114, 97, 116, 101, 32]⟩ : ByteArray))) rfl rfl rfl (p_sadd rfl rfl rfl (of_decide_eq_true hv41)) rfl ?_
              refine rq (u := .ptr b1 7) rfl rfl rfl (p_field_ptr fl_39_2 rfl rfl) rfl ?_
              refine rq (u := .ptr b1 7) rfl rfl rfl (p_field_ptr fl_37_0 rfl rfl) rfl ?_
              refine rq (u := .int .i64 v4.Rate.Num) rfl rfl rfl (p_load_ptr ti_3 (fun _ => rfl) rfl rfl (.head _) (Nat.le_of_ble_eq_true rfl)) rfl ?_
              obtain ⟨v42, hv42, h⟩ := bnd_some h
              refine rq (u := .str v42) rfl rfl rfl (p_pfnL en_24 (ref11_digits_fn k v4.Rate.Num v42 hv42) rfl rfl (TVles.refl _)) rfl ?_
              obtain ⟨hv43, h⟩ := chk_some h
              refine rq (u := .str (((((⟨#[100, 101, 110, 121]⟩ : ByteArray) ++ (⟨#[32, 119, 104, 101, 110, 32]⟩ : ByteArray)) ++ v39) ++ (⟨#[32, 114, 97, 116, 101, 32]⟩ : ByteArray)) ++ v42)) rfl rfl rfl (p_sadd rfl rfl rfl (of_decide_eq_true hv43)) rfl ?_
              obtain ⟨hv44, h⟩ := chk_some h
              refine rq (u := .str ((((((⟨#[100, 101, 110, 121]⟩ : ByteArray) ++ (⟨#[32, 119, 104, 101, 110, 32]⟩ : ByteArray)) ++ v39) ++ (⟨#[32, 114, 97, 116, 101, 32]⟩ : ByteArray)) ++ v42) ++ (⟨#[32, 112, 101, 114, 32]⟩ : ByteArray))) rfl rfl rfl (p_sadd rfl rfl rfl (of_decide_eq_true hv44)) rfl ?_
              refine rq (u := .ptr b1 7) rfl rfl rfl (p_field_ptr fl_39_2 rfl rfl) rfl ?_
              refine rq (u := .ptr b1 8) rfl rfl rfl (p_field_ptr fl_37_1 rfl rfl) rfl ?_
              refine rq (u := .int .i64 v4.Rate.Per) rfl rfl rfl (p_load_ptr ti_3 (fun _ => rfl) rfl rfl (.head _) (Nat.le_of_ble_eq_true rfl)) rfl ?_
              obtain ⟨v45, hv45, h⟩ := bnd_some h
              refine rq (u := .str v45) rfl rfl rfl (p_pfnL en_24 (ref11_digits_fn k v4.Rate.Per v45 hv45) rfl rfl (TVles.refl _)) rfl ?_
              obtain ⟨hv46, h⟩ := chk_some h
              refine rq (u := .str (((((((⟨#[100, 101, 110, 121]⟩ : ByteArray) ++ (⟨#[32, 119, 104, 101, 110, 32]⟩ : ByteArray)) ++ v39) ++ (⟨#[32, 114, 97, 116, 101, 32]⟩ : ByteArray)) ++ v42) ++ (⟨#[32, 112, 101, 114, 32]⟩ : ByteArray)) ++ v45)) rfl rfl rfl (p_sadd rfl rfl rfl (of_decide_eq_true hv46)) rfl ?_
              obtain ⟨hv47, h⟩ := chk_some h
              refine rq (u := .str ((((((((⟨#[100, 101, 110, 121]⟩ : ByteArray) ++ (⟨#[32, 119, 104, 101, 110, 32]⟩ : ByteArray)) ++ v39) ++ (⟨#[32, 114, 97, 116, 101, 32]⟩ : ByteArray)) ++ v42) ++ (⟨#[32, 112, 101, 114, 32]⟩ : ByteArray)) ++ v45) ++ (⟨#[32, 98, 117, 114, 115, 116, 32]⟩ : ByteArray))) rfl rfl rfl (p_sadd rfl rfl rfl (of_decide_eq_true hv47)) rfl ?_
              refine rq (u := .ptr b1 7) rfl rfl rfl (p_field_ptr fl_39_2 rfl rfl) rfl ?_
              refine rq (u := .ptr b1 9) rfl rfl rfl (p_field_ptr fl_37_2 rfl rfl) rfl ?_
              refine rq (u := .int .i64 v4.Rate.Burst) rfl rfl rfl (p_load_ptr ti_3 (fun _ => rfl) rfl rfl (.head _) (Nat.le_of_ble_eq_true rfl)) rfl ?_
              obtain ⟨v48, hv48, h⟩ := bnd_some h
              refine rq (u := .str v48) rfl rfl rfl (p_pfnL en_24 (ref11_digits_fn k v4.Rate.Burst v48 hv48) rfl rfl (TVles.refl _)) rfl ?_
              obtain ⟨hv49, h⟩ := chk_some h
              refine rq (u := .str (((((((((⟨#[100, 101, 110, 121]⟩ : ByteArray) ++ (⟨#[32, 119, 104, 101, 110, 32]⟩ : ByteArray)) ++ v39) ++ (⟨#[32, 114, 97, 116, 101, 32]⟩ : ByteArray)) ++ v42) ++ (⟨#[32, 112, 101, 114, 32]⟩ : ByteArray)) ++ v45) ++ (⟨#[32, 98, 117, 114, 115, 116, 32]⟩ : ByteArray)) ++ v48)) rfl rfl rfl (p_sadd rfl rfl rfl (of_decide_eq_true hv49)) rfl ?_
              refine rq (u := .str (((((((((⟨#[100, 101, 110, 121]⟩ : ByteArray) ++ (⟨#[32, 119, 104, 101, 110, 32]⟩ : ByteArray)) ++ v39) ++ (⟨#[32, 114, 97, 116, 101, 32]⟩ : ByteArray)) ++ v42) ++ (⟨#[32, 112, 101, 114, 32]⟩ : ByteArray)) ++ v45) ++ (⟨#[32, 98, 117, 114, 115, 116, 32]⟩ : ByteArray)) ++ v48)) rfl rfl rfl (p_assign rfl) rfl ?_
              refine .done rfl ?_
              refine ac_region rfl ?_
              refine rq (u := .str x1) rfl rfl rfl (p_move rfl) rfl ?_
              refine rq (u := .str (((((((((⟨#[100, 101, 110, 121]⟩ : ByteArray) ++ (⟨#[32, 119, 104, 101, 110, 32]⟩ : ByteArray)) ++ v39) ++ (⟨#[32, 114, 97, 116, 101, 32]⟩ : ByteArray)) ++ v42) ++ (⟨#[32, 112, 101, 114, 32]⟩ : ByteArray)) ++ v45) ++ (⟨#[32, 98, 117, 114, 115, 116, 32]⟩ : ByteArray)) ++ v48)) rfl rfl rfl (p_move rfl) rfl ?_
              obtain ⟨hv50, h⟩ := chk_some h
              refine rq (u := .str (x1 ++ (((((((((⟨#[100, 101, 110, 121]⟩ : ByteArray) ++ (⟨#[32, 119, 104, 101, 110, 32]⟩ : ByteArray)) ++ v39) ++ (⟨#[32, 114, 97, 116, 101, 32]⟩ : ByteArray)) ++ v42) ++ (⟨#[32, 112, 101, 114, 32]⟩ : ByteArray)) ++ v45) ++ (⟨#[32, 98, 117, 114, 115, 116, 32]⟩ : ByteArray)) ++ v48))) rfl rfl rfl (p_sadd rfl rfl rfl (of_decide_eq_true hv50)) rfl ?_
              obtain ⟨hv51, h⟩ := chk_some h
              refine rq (u := .str ((x1 ++ (((((((((⟨#[100, 101, 110, 121]⟩ : ByteArray) ++ (⟨#[32, 119, 104, 101, 110, 32]⟩ : ByteArray)) ++ v39) ++ (⟨#[32, 114, 97, 116, 101, 32]⟩ : ByteArray)) ++ v42) ++ (⟨#[32, 112, 101, 114, 32]⟩ : ByteArray)) ++ v45) ++ (⟨#[32, 98, 117, 114, 115, 116, 32]⟩ : ByteArray)) ++ v48)) ++ (⟨#[59, 10]⟩ : ByteArray))) rfl rfl rfl (p_sadd rfl rfl rfl (of_decide_eq_true hv51)) rfl ?_
              refine rq (u := .str ((x1 ++ (((((((((⟨#[100, 101, 110, 121]⟩ : ByteArray) ++ (⟨#[32, 119, 104, 101, 110, 32]⟩ : ByteArray)) ++ v39) ++ (⟨#[32, 114, 97, 116, 101, 32]⟩ : ByteArray)) ++ v42) ++ (⟨#[32, 112, 101, 114, 32]⟩ : ByteArray)) ++ v45) ++ (⟨#[32, 98, 117, 114, 115, 116, 32]⟩ : ByteArray)) ++ v48)) ++ (⟨#[59, 10]⟩ : ByteArray))) rfl rfl rfl (p_assign rfl) rfl ?_
              refine .done rfl ?_
              refine ac_region rfl ?_
              refine rq (u := .int .i64 x2) rfl rfl rfl (p_move rfl) rfl ?_
              refine rq (u := .int .i64 (IntKind.wrap .i64 (x2 + 1))) rfl rfl rfl (p_add rfl rfl rfl) rfl ?_
              refine rq (u := .int .i64 (IntKind.wrap .i64 (x2 + 1))) rfl rfl rfl (p_assign rfl) rfl ?_
              refine .done rfl ?_
              exact ⟨⟨m3, ((x1 ++ (((((((((⟨#[100, 101, 110, 121]⟩ : ByteArray) ++ (⟨#[32, 119, 104, 101, 110, 32]⟩ : ByteArray)) ++ v39) ++ (⟨#[32, 114, 97, 116, 101, 32]⟩ : ByteArray)) ++ v42) ++ (⟨#[32, 112, 101, 114, 32]⟩ : ByteArray)) ++ v45) ++ (⟨#[32, 98, 117, 114, 115, 116, 32]⟩ : ByteArray)) ++ v48)) ++ (⟨#[59, 10]⟩ : ByteArray)), (IntKind.wrap .i64 (x2 + 1))⟩, h, Nat.lt_succ_self _, ⟨TVle.refl _, TVle.refl _, TVle.refl _, TVle.refl _, TVle.refl _, trivial⟩, (ResLe.drop (ResLe.refl _))⟩
            · replace h := cond_f hc54 h
              refine ac_skip ?_
              refine ac_region rfl ?_
              refine rq (u := .str x1) rfl rfl rfl (p_move rfl) rfl ?_
              refine rq (u := .str (((⟨#[100, 101, 110, 121]⟩ : ByteArray) ++ (⟨#[32, 119, 104, 101, 110, 32]⟩ : ByteArray)) ++ v39)) rfl rfl rfl (p_move rfl) rfl ?_
              obtain ⟨hv52, h⟩ := chk_some h
              refine rq (u := .str (x1 ++ (((⟨#[100, 101, 110, 121]⟩ : ByteArray) ++ (⟨#[32, 119, 104, 101, 110, 32]⟩ : ByteArray)) ++ v39))) rfl rfl rfl (p_sadd rfl rfl rfl (of_decide_eq_true hv52)) rfl ?_
              obtain ⟨hv53, h⟩ := chk_some h
              refine rq (u := .str ((x1 ++ (((⟨#[100, 101, 110, 121]⟩ : ByteArray) ++ (⟨#[32, 119, 104, 101, 110, 32]⟩ : ByteArray)) ++ v39)) ++ (⟨#[59, 10]⟩ : ByteArray))) rfl rfl rfl (p_sadd rfl rfl rfl (of_decide_eq_true hv53)) rfl ?_
              refine rq (u := .str ((x1 ++ (((⟨#[100, 101, 110, 121]⟩ : ByteArray) ++ (⟨#[32, 119, 104, 101, 110, 32]⟩ : ByteArray)) ++ v39)) ++ (⟨#[59, 10]⟩ : ByteArray))) rfl rfl rfl (p_assign rfl) rfl ?_
              refine .done rfl ?_
              refine ac_region rfl ?_
              refine rq (u := .int .i64 x2) rfl rfl rfl (p_move rfl) rfl ?_
              refine rq (u := .int .i64 (IntKind.wrap .i64 (x2 + 1))) rfl rfl rfl (p_add rfl rfl rfl) rfl ?_
              refine rq (u := .int .i64 (IntKind.wrap .i64 (x2 + 1))) rfl rfl rfl (p_assign rfl) rfl ?_
              refine .done rfl ?_
              exact ⟨⟨m3, ((x1 ++ (((⟨#[100, 101, 110, 121]⟩ : ByteArray) ++ (⟨#[32, 119, 104, 101, 110, 32]⟩ : ByteArray)) ++ v39)) ++ (⟨#[59, 10]⟩ : ByteArray)), (IntKind.wrap .i64 (x2 + 1))⟩, h, Nat.lt_succ_self _, ⟨TVle.refl _, TVle.refl _, TVle.refl _, TVle.refl _, TVle.refl _, trivial⟩, (ResLe.drop (ResLe.refl _))⟩
          · replace h := cond_f hc69 h
            refine ac_skip ?_
            refine ac_seq ?_
            refine ac_seq ?_
            refine ac_region rfl ?_
            refine rq (u := .ptr b1 7) rfl rfl rfl (p_field_ptr fl_39_2 rfl rfl) rfl ?_
            refine rq (u := .ptr b1 8) rfl rfl rfl (p_field_ptr fl_37_1 rfl rfl) rfl ?_
            refine rq (u := .int .i64 v4.Rate.Per) rfl rfl rfl (p_load_ptr ti_3 (fun _ => rfl) rfl rfl (.head _) (Nat.le_of_ble_eq_true rfl)) rfl ?_
            refine rq (u := .bool (v4.Rate.Per != 0)) rfl rfl rfl (p_neq rfl rfl rfl) rfl ?_
            refine .done rfl ?_
            refine ac_cond rfl rfl (fun hc68 => ?_) (fun hc68 => ?_)
            · replace h := cond_t hc68 h
              refine ac_region_draw mo rfl rfl rfl ?_
              refine rq (u := .str (⟨#[100, 101, 110, 121]⟩ : ByteArray)) rfl rfl rfl (p_move rfl) rfl ?_
              obtain ⟨hv55, h⟩ := chk_some h
              refine rq (u := .str ((⟨#[100, 101, 110, 121]⟩ : ByteArray) ++ (⟨#[32, 114, 97, 116, 101, 32]⟩ : ByteArray))) rfl rfl rfl (p_sadd rfl rfl rfl (of_decide_eq_true hv55)) rfl ?_
              refine rq (u := .ptr b1 7) rfl rfl rfl (p_field_ptr fl_39_2 rfl rfl) rfl ?_
              refine rq (u := .ptr b1 7) rfl rfl rfl (p_field_ptr fl_37_0 rfl rfl) rfl ?_
              refine rq (u := .int .i64 v4.Rate.Num) rfl rfl rfl (p_load_ptr ti_3 (fun _ => rfl) rfl rfl (.head _) (Nat.le_of_ble_eq_true rfl)) rfl ?_
              obtain ⟨v56, hv56, h⟩ := bnd_some h
              refine rq (u := .str v56) rfl rfl rfl (p_pfnL en_24 (ref11_digits_fn k v4.Rate.Num v56 hv56) rfl rfl (TVles.refl _)) rfl ?_
              obtain ⟨hv57, h⟩ := chk_some h
              refine rq (u := .str (((⟨#[100, 101, 110, 121]⟩ : ByteArray) ++ (⟨#[32, 114, 97, 116, 101, 32]⟩ : ByteArray)) ++ v56)) rfl rfl rfl (p_sadd rfl rfl rfl (of_decide_eq_true hv57)) rfl ?_
              obtain ⟨hv58, h⟩ := chk_some h
              refine rq (u := .str ((((⟨#[100, 101, 110, 121]⟩ : ByteArray) ++ (⟨#[32, 114, 97, 116, 101, 32]⟩ : ByteArray)) ++ v56) ++ (⟨#[32, 112, 101, 114, 32]⟩ : ByteArray))) rfl rfl rfl (p_sadd rfl rfl rfl (of_decide_eq_true hv58)) rfl ?_
              refine rq (u := .ptr b1 7) rfl rfl rfl (p_field_ptr fl_39_2 rfl rfl) rfl ?_
              refine rq (u := .ptr b1 8) rfl rfl rfl (p_field_ptr fl_37_1 rfl rfl) rfl ?_
              refine rq (u := .int .i64 v4.Rate.Per) rfl rfl rfl (p_load_ptr ti_3 (fun _ => rfl) rfl rfl (.head _) (Nat.le_of_ble_eq_true rfl)) rfl ?_
              obtain ⟨v59, hv59, h⟩ := bnd_some h
              refine rq (u := .str v59) rfl rfl rfl (p_pfnL en_24 (ref11_digits_fn k v4.Rate.Per v59 hv59) rfl rfl (TVles.refl _)) rfl ?_
              obtain ⟨hv60, h⟩ := chk_some h
              refine rq (u := .str (((((⟨#[100, 101, 110, 121]⟩ : ByteArray) ++ (⟨#[32, 114, 97, 116, 101, 32]⟩ : ByteArray)) ++ v56) ++ (⟨#[32, 112, 101, 114, 32]⟩ : ByteArray)) ++ v59)) rfl rfl rfl (p_sadd rfl rfl rfl (of_decide_eq_true hv60)) rfl ?_
              obtain ⟨hv61, h⟩ := chk_some h
              refine rq (u := .str ((((((⟨#[100, 101, 110, 121]⟩ : ByteArray) ++ (⟨#[32, 114, 97, 116, 101, 32]⟩ : ByteArray)) ++ v56) ++ (⟨#[32, 112, 101, 114, 32]⟩ : ByteArray)) ++ v59) ++ (⟨#[32, 98, 117, 114, 115, 116, 32]⟩ : ByteArray))) rfl rfl rfl (p_sadd rfl rfl rfl (of_decide_eq_true hv61)) rfl ?_
              refine rq (u := .ptr b1 7) rfl rfl rfl (p_field_ptr fl_39_2 rfl rfl) rfl ?_
              refine rq (u := .ptr b1 9) rfl rfl rfl (p_field_ptr fl_37_2 rfl rfl) rfl ?_
              refine rq (u := .int .i64 v4.Rate.Burst) rfl rfl rfl (p_load_ptr ti_3 (fun _ => rfl) rfl rfl (.head _) (Nat.le_of_ble_eq_true rfl)) rfl ?_
              obtain ⟨v62, hv62, h⟩ := bnd_some h
              refine rq (u := .str v62) rfl rfl rfl (p_pfnL en_24 (ref11_digits_fn k v4.Rate.Burst v62 hv62) rfl rfl (TVles.refl _)) rfl ?_
              obtain ⟨hv63, h⟩ := chk_some h
              refine rq (u := .str (((((((⟨#[100, 101, 110, 121]⟩ : ByteArray) ++ (⟨#[32, 114, 97, 116, 101, 32]⟩ : ByteArray)) ++ v56) ++ (⟨#[32, 112, 101, 114, 32]⟩ : ByteArray)) ++ v59) ++ (⟨#[32, 98, 117, 114, 115, 116, 32]⟩ : ByteArray)) ++ v62)) rfl rfl rfl (p_sadd rfl rfl rfl (of_decide_eq_true hv63)) rfl ?_
              refine rq (u := .str (((((((⟨#[100, 101, 110, 121]⟩ : ByteArray) ++ (⟨#[32, 114, 97, 116, 101, 32]⟩ : ByteArray)) ++ v56) ++ (⟨#[32, 112, 101, 114, 32]⟩ : ByteArray)) ++ v59) ++ (⟨#[32, 98, 117, 114, 115, 116, 32]⟩ : ByteArray)) ++ v62)) rfl rfl rfl (p_assign rfl) rfl ?_
              refine .done rfl ?_
              refine ac_region rfl ?_
              refine rq (u := .str x1) rfl rfl rfl (p_move rfl) rfl ?_
              refine rq (u := .str (((((((⟨#[100, 101, 110, 121]⟩ : ByteArray) ++ (⟨#[32, 114, 97, 116, 101, 32]⟩ : ByteArray)) ++ v56) ++ (⟨#[32, 112, 101, 114, 32]⟩ : ByteArray)) ++ v59) ++ (⟨#[32, 98, 117, 114, 115, 116, 32]⟩ : ByteArray)) ++ v62)) rfl rfl rfl (p_move rfl) rfl ?_
              obtain ⟨hv64, h⟩ := chk_some h
              refine rq (u := .str (x1 ++ (((((((⟨#[100, 101, 110, 121]⟩ : ByteArray) ++ (⟨#[32, 114, 97, 116, 101, 32]⟩ : ByteArray)) ++ v56) ++ (⟨#[32, 112, 101, 114, 32]⟩ : ByteArray)) ++ v59) ++ (⟨#[32, 98, 117, 114, 115, 116, 32]⟩ : ByteArray)) ++ v62))) rfl rfl rfl (p_sadd rfl rfl rfl (of_decide_eq_true hv64)) rfl ?_
              obtain ⟨hv65, h⟩ := chk_some h
              refine rq (u := .str ((x1 ++ (((((((⟨#[100, 101, 110, 121]⟩ : ByteArray) ++ (⟨#[32, 114, 97, 116, 101, 32]⟩ : ByteArray)) ++ v56) ++ (⟨#[32, 112, 101, 114, 32]⟩ : ByteArray)) ++ v59) ++ (⟨#[32, 98, 117, 114, 115, 116, 32]⟩ : ByteArray)) ++ v62)) ++ (⟨#[59, 10]⟩ : ByteArray))) rfl rfl rfl (p_sadd rfl rfl rfl (of_decide_eq_true hv65)) rfl ?_
              refine rq (u := .str ((x1 ++ (((((((⟨#[100, 101, 110, 121]⟩ : ByteArray) ++ (⟨#[32, 114, 97, 116, 101, 32]⟩ : ByteArray)) ++ v56) ++ (⟨#[32, 112, 101, 114, 32]⟩ : ByteArray)) ++ v59) ++ (⟨#[32, 98, 117, 114, 115, 116, 32]⟩ : ByteArray)) ++ v62)) ++ (⟨#[59, 10]⟩ : ByteArray))) rfl rfl rfl (p_assign rfl) rfl ?_
              refine .done rfl ?_
              refine ac_region rfl ?_
              refine rq (u := .int .i64 x2) rfl rfl rfl (p_move rfl) rfl ?_
              refine rq (u := .int .i64 (IntKind.wrap .i64 (x2 + 1))) rfl rfl rfl (p_add rfl rfl rfl) rfl ?_
              refine rq (u := .int .i64 (IntKind.wrap .i64 (x2 + 1))) rfl rfl rfl (p_assign rfl) rfl ?_
              refine .done rfl ?_
              exact ⟨⟨m3, ((x1 ++ (((((((⟨#[100, 101, 110, 121]⟩ : ByteArray) ++ (⟨#[32, 114, 97, 116, 101, 32]⟩ : ByteArray)) ++ v56) ++ (⟨#[32, 112, 101, 114, 32]⟩ : ByteArray)) ++ v59) ++ (⟨#[32, 98, 117, 114, 115, 116, 32]⟩ : ByteArray)) ++ v62)) ++ (⟨#[59, 10]⟩ : ByteArray)), (IntKind.wrap .i64 (x2 + 1))⟩, h, Nat.lt_succ_self _, ⟨TVle.refl _, TVle.refl _, TVle.refl _, TVle.refl _, TVle.refl _, trivial⟩, (ResLe.drop (ResLe.refl _))⟩
            · replace h := cond_f hc68 h
              refine ac_skip ?_
              refine ac_region rfl ?_
              refine rq (u := .str x1) rfl rfl rfl (p_move rfl) rfl ?_
              refine rq (u := .str (⟨#[100, 101, 110, 121]⟩ : ByteArray)) rfl rfl rfl (p_move rfl) rfl ?_
              obtain ⟨hv66, h⟩ := chk_some h
              refine rq (u := .str (x1 ++ (⟨#[100, 101, 110, 121]⟩ : ByteArray))) rfl rfl rfl (p_sadd rfl rfl rfl (of_decide_eq_true hv66)) rfl ?_
              obtain ⟨hv67, h⟩ := chk_some h
              refine rq (u := .str ((x1 ++ (⟨#[100, 101, 110, 121]⟩ : ByteArray)) ++ (⟨#[59, 10]⟩ : ByteArray))) rfl rfl rfl (p_sadd rfl rfl rfl (of_decide_eq_true hv67)) rfl ?_
              refine rq (u := .str ((x1 ++ (⟨#[100, 101, 110, 121]⟩ : ByteArray)) ++ (⟨#[59, 10]⟩ : ByteArray))) rfl rfl rfl (p_assign rfl) rfl ?_
              refine .done rfl ?_
              refine ac_region rfl ?_
              refine rq (u := .int .i64 x2) rfl rfl rfl (p_move rfl) rfl ?_
              refine rq (u := .int .i64 (IntKind.wrap .i64 (x2 + 1))) rfl rfl rfl (p_add rfl rfl rfl) rfl ?_
              refine rq (u := .int .i64 (IntKind.wrap .i64 (x2 + 1))) rfl rfl rfl (p_assign rfl) rfl ?_
              refine .done rfl ?_
              exact ⟨⟨m3, ((x1 ++ (⟨#[100, 101, 110, 121]⟩ : ByteArray)) ++ (⟨#[59, 10]⟩ : ByteArray)), (IntKind.wrap .i64 (x2 + 1))⟩, h, Nat.lt_succ_self _, ⟨TVle.refl _, TVle.refl _, TVle.refl _, TVle.refl _, TVle.refl _, trivial⟩, (ResLe.drop (ResLe.refl _))⟩
    · replace h := cond_f hc72 h
      refine ac_exit ?_
      refine ac_seq ?_
      refine ac_region rfl ?_
      refine rq (u := .str x1) rfl rfl rfl (p_move rfl) rfl ?_
      refine rq (u := .str x1) rfl rfl rfl (p_assign rfl) rfl ?_
      refine rq (u := .bool true) rfl rfl rfl (p_assign rfl) rfl ?_
      refine .done rfl ?_
      refine ac_ret ?_
      show Fin _ _ _ _ _ _ _
      exact fin_ret2 (Nat.le_of_ble_eq_true rfl) (Nat.le_of_ble_eq_true rfl) rfl rfl (by obtain rfl := Option.some.inj h; rfl)

set_option maxRecDepth 20000 in
set_option maxHeartbeats 4000000 in
theorem slices_EqualFunc_Rule_fn : ∀ k : Nat, ∀ (s1 : List GRule) (s2 : List GRule) (eq : GRule → GRule → Option Bool) (eq_fn : FuncId) (eq_fs eq_cs : List TV) (eq_s : Res) (eq_en : enterB Tryd.prog eq_fn = true) (heq : ∀ (a1 : GRule) (a2 : GRule) (r' : Bool), eq a1 a2 = some r' → AFn Tryd.prog eq_fn (eq_fs ++ [.agg (GRule.cells a1), .agg (GRule.cells a2)] ++ eq_cs) eq_s fun y s' => y = .ret (.bool r') ∧ s' = eq_s) (r : Bool) (h : slices_EqualFunc_Rule k s1 s2 eq = some r), AFn Tryd.prog 25 [.slice .ro 11 (s1.map GRule.enc), .slice .ro 11 (s2.map GRule.enc), .func (.func eq_fn) eq_fs eq_cs] eq_s fun y s' => y = .ret (.bool r) ∧ s' = eq_s := by
  intro k
  intro s1 s2 eq eq_fn eq_fs eq_cs eq_s eq_en heq r h
  rw [slices_EqualFunc_Rule] at h
  refine AFn.shed ?_
  refine AFn.of Tryd.func25 rfl (Nat.le_of_ble_eq_true rfl) ?_
  refine ac_seq ?_
  refine ac_region rfl ?_
  refine rq (u := .bool false) rfl rfl rfl (p_assign rfl) rfl ?_
  refine .done rfl ?_
  refine ac_seq ?_
  refine ac_seq ?_
  refine ac_region rfl ?_
  refine rq (u := .slice .ro 11 (s1.map GRule.enc)) rfl rfl rfl (p_move rfl) rfl ?_
  refine rq (u := .int .i64 (s1.length : Int)) rfl rfl rfl (p_lenm is_22 rfl rfl) rfl ?_
  refine rq (u := .slice .ro 11 (s2.map GRule.enc)) rfl rfl rfl (p_move rfl) rfl ?_
  refine rq (u := .int .i64 (s2.length : Int)) rfl rfl rfl (p_lenm is_22 rfl rfl) rfl ?_
  refine rq (u := .bool ((s1.length : Int) != (s2.length : Int))) rfl rfl rfl (p_neq rfl rfl rfl) rfl ?_
  refine .done rfl ?_
  refine ac_cond rfl rfl (fun hc9 => ?_) (fun hc9 => ?_)
  · replace h := cond_t hc9 h
    refine ac_seq ?_
    refine ac_region rfl ?_
    refine rq (u := .bool false) rfl rfl rfl (p_assign rfl) rfl ?_
    refine .done rfl ?_
    refine ac_ret ?_
    show Fin _ _ _ _ _ _ _
    exact fin_ret (Nat.le_of_ble_eq_true rfl) rfl ⟨by obtain rfl := Option.some.inj h; rfl, (List.Sublist.refl _)⟩
  · replace h := cond_f hc9 h
    refine ac_skip ?_
    refine ac_seq ?_
    refine ac_seq ?_
    refine ac_region rfl ?_
    refine rq (u := .slice .ro 11 (s1.map GRule.enc)) rfl rfl rfl (p_move rfl) rfl ?_
    refine rq (u := .int .i64 (s1.length : Int)) rfl rfl rfl (p_lenm is_22 rfl rfl) rfl ?_
    refine rq (u := .int .i64 0) rfl rfl rfl (p_move rfl) rfl ?_
    refine .done rfl ?_
    refine ac_block ?_
    refine ac_turns (σ := Nat × Int) (fun (⟨m2, x1⟩ : Nat × Int) => [(0, .slice .ro 11 (s1.map GRule.enc)), (1, .slice .ro 11 (s2.map GRule.enc)), (2, .func (.func eq_fn) eq_fs eq_cs), (6, .bool false), (10, .slice .ro 11 (s1.map GRule.enc)), (11, .int .i64 (s1.length : Int)), (12, .slice .ro 11 (s2.map GRule.enc)), (13, .int .i64 (s2.length : Int)), (14, .bool ((s1.length : Int) != (s2.length : Int))), (15, .slice .ro 11 (s1.map GRule.enc)), (16, .int .i64 (s1.length : Int)), (17, .int .i64 x1)]) (fun (⟨m2, x1⟩ : Nat × Int) => eq_s) (fun x => x.1) (fun (⟨m2, x1⟩ : Nat × Int) => slices_EqualFunc_Rule_L0 s1 s2 eq (fun x8 => some true) m2 x1 = some r) ⟨k, 0⟩ h ⟨TVle.refl _, TVle.refl _, TVle.refl _, TVle.refl _, TVle.refl _, TVle.refl _, TVle.refl _, TVle.refl _, TVle.refl _, TVle.refl _, TVle.refl _, TVle.refl _, trivial⟩ (ResLe.refl _) ?_
    rintro ⟨m2, x1⟩ h
    replace h : slices_EqualFunc_Rule_L0 s1 s2 eq (fun x8 => some true) m2 x1 = some r := h
    show ACode _ _ _ [(0, .slice .ro 11 (s1.map GRule.enc)), (1, .slice .ro 11 (s2.map GRule.enc)), (2, .func (.func eq_fn) eq_fs eq_cs), (6, .bool false), (10, .slice .ro 11 (s1.map GRule.enc)), (11, .int .i64 (s1.length : Int)), (12, .slice .ro 11 (s2.map GRule.enc)), (13, .int .i64 (s2.length : Int)), (14, .bool ((s1.length : Int) != (s2.length : Int))), (15, .slice .ro 11 (s1.map GRule.enc)), (16, .int .i64 (s1.length : Int)), (17, .int .i64 x1)] eq_s _
    cases m2 with
    | zero => rw [slices_EqualFunc_Rule_L0] at h; cases h
    | succ m2 =>
      rw [slices_EqualFunc_Rule_L0] at h
      refine ac_seq ?_
      refine ac_region rfl ?_
      refine rq (u := .bool (decide (x1 < (s1.length : Int)))) rfl rfl rfl (p_lss rfl rfl rfl) rfl ?_
      refine .done rfl ?_
      refine ac_seq ?_
      refine ac_cond rfl rfl (fun hc7 => ?_) (fun hc7 => ?_)
      · replace h := cond_t hc7 h
        refine ac_skip ?_
        refine ac_seq ?_
        refine ac_block ?_
        refine ac_seq ?_
        refine ac_region rfl ?_
        refine rq (u := .int .i64 x1) rfl rfl rfl (p_move rfl) rfl ?_
        obtain ⟨v3, hv3, h⟩ := bnd_some h
        refine rq (u := .rptr [.bool v3.Allow, .int .i64 v3.When.Kind, .int .i64 v3.When.Field, .slice .ro 2 (v3.When.Ranges.map GRange.enc), encF v3.When.Low, encF v3.When.High, .slice .ro 6 (v3.When.Of.map GExpr.enc), .int .i64 v3.Rate.Num, .int .i64 v3.Rate.Per, .int .i64 v3.Rate.Burst, .int .i64 v3.Line]) rfl rfl rfl (p_ix GRule.enc_eq sl_22 hv3 rfl rfl rfl) rfl ?_
        refine rq (u := .agg (GRule.cells v3)) rfl rfl rfl (p_load_rptr ti_39 nofun rfl rfl (Nat.le_of_ble_eq_true rfl)) rfl ?_
        refine ralloc (cs := [.bool false, .int .i64 0, .int .i64 0, .slice .full 0 [], encF (some 0), encF (some 0), .slice .full 0 [], .int .i64 0, .int .i64 0, .int .i64 0, .int .i64 0]) zf_39 rfl rfl rfl rfl rfl rfl rfl nofun fun b1 => ?_
        refine rq (u := .int .i64 x1) rfl rfl rfl (p_assign rfl) rfl ?_
        refine rstore (j := 0) (us := [.bool v3.Allow, .int .i64 v3.When.Kind, .int .i64 v3.When.Field, .slice .ro 2 (v3.When.Ranges.map GRange.enc), encF v3.When.Low, encF v3.When.High, .slice .ro 6 (v3.When.Of.map GExpr.enc), .int .i64 v3.Rate.Num, .int .i64 v3.Rate.Per, .int .i64 v3.Rate.Burst, .int .i64 v3.Line]) ti_39 rfl rfl rfl rfl rfl rfl rfl rfl nofun rfl (by simp only [allOne, List.all_cons, List.all_nil, one_fl]; rfl) (Nat.le_of_ble_eq_true rfl) ?_
        refine .done rfl ?_
        refine ac_seq ?_
        refine ac_region rfl ?_
        refine rq (u := .slice .ro 11 (s2.map GRule.enc)) rfl rfl rfl (p_move rfl) rfl ?_
        refine rq (u := .int .i64 x1) rfl rfl rfl (p_move rfl) rfl ?_
        obtain ⟨v4, hv4, h⟩ := bnd_some h
        refine rq (u := .rptr [.bool v4.Allow, .int .i64 v4.When.Kind, .int .i64 v4.When.Field, .slice .ro 2 (v4.When.Ranges.map GRange.enc), encF v4.When.Low, encF v4.When.High, .slice .ro 6 (v4.When.Of.map GExpr.enc), .int .i64 v4.Rate.Num, .int .i64 v4.Rate.Per, .int .i64 v4.Rate.Burst, .int .i64 v4.Line]) rfl rfl rfl (p_ix GRule.enc_eq sl_22 hv4 rfl rfl rfl) rfl ?_
        refine rq (u := .agg (GRule.cells v4)) rfl rfl rfl (p_load_rptr ti_39 nofun rfl rfl (Nat.le_of_ble_eq_true rfl)) rfl ?_
        refine ralloc (cs := [.bool false, .int .i64 0, .int .i64 0, .slice .full 0 [], encF (some 0), encF (some 0), .slice .full 0 [], .int .i64 0, .int .i64 0, .int .i64 0, .int .i64 0]) zf_39 rfl rfl rfl rfl rfl rfl rfl nofun fun b2 => ?_
        refine rstore (j := 0) (us := [.bool v4.Allow, .int .i64 v4.When.Kind, .int .i64 v4.When.Field, .slice .ro 2 (v4.When.Ranges.map GRange.enc), encF v4.When.Low, encF v4.When.High, .slice .ro 6 (v4.When.Of.map GExpr.enc), .int .i64 v4.Rate.Num, .int .i64 v4.Rate.Per, .int .i64 v4.Rate.Burst, .int .i64 v4.Line]) ti_39 rfl rfl rfl rfl rfl rfl rfl rfl nofun rfl (by simp only [allOne, List.all_cons, List.all_nil, one_fl]; rfl) (Nat.le_of_ble_eq_true rfl) ?_
        refine .done rfl ?_
        refine ac_seq ?_
        refine ac_region rfl ?_
        refine rq (u := .func (.func eq_fn) eq_fs eq_cs) rfl rfl rfl (p_move rfl) rfl ?_
        refine rq (u := .agg (GRule.cells v3)) rfl rfl rfl (p_load_ptr ti_39 nofun rfl rfl (.tail _ (.head _)) (Nat.le_of_ble_eq_true rfl)) rfl ?_
        refine rq (u := .agg (GRule.cells v4)) rfl rfl rfl (p_load_ptr ti_39 nofun rfl rfl (.head _) (Nat.le_of_ble_eq_true rfl)) rfl ?_
        obtain ⟨v5, hv5, h⟩ := bnd_some h
        refine rq (u := .bool v5) rfl rfl rfl (p_callL eq_en (heq v3 v4 v5 hv5) rfl rfl (TVles.refl _) (perm_last (x := [_, _]))) rfl ?_
        refine rq (u := .bool (!v5)) rfl rfl rfl (p_not rfl rfl) rfl ?_
        refine .done rfl ?_
        refine ac_cond rfl rfl (fun hc6 => ?_) (fun hc6 => ?_)
        · replace h := cond_t hc6 h
          refine ac_seq ?_
          refine ac_region rfl ?_
          refine rq (u := .bool false) rfl rfl rfl (p_assign rfl) rfl ?_
          refine .done rfl ?_
          refine ac_ret ?_
          show Fin _ _ _ _ _ _ _
          exact fin_ret (Nat.le_of_ble_eq_true rfl) rfl ⟨by obtain rfl := Option.some.inj h; rfl, (.cons _ (.cons _ (List.Sublist.refl _)))⟩
        · replace h := cond_f hc6 h
          refine ac_skip ?_
          refine ac_region rfl ?_
          refine rq (u := .int .i64 (IntKind.wrap .i64 (x1 + 1))) rfl rfl rfl (p_add rfl rfl rfl) rfl ?_
          refine rq (u := .int .i64 (IntKind.wrap .i64 (x1 + 1))) rfl rfl rfl (p_move rfl) rfl ?_
          refine .done rfl ?_
          exact ⟨⟨m2, (IntKind.wrap .i64 (x1 + 1))⟩, h, Nat.lt_succ_self _, ⟨TVle.refl _, TVle.refl _, TVle.refl _, TVle.refl _, TVle.refl _, TVle.refl _, TVle.refl _, TVle.refl _, TVle.refl _, TVle.refl _, TVle.refl _, TVle.refl _, trivial⟩, (ResLe.drop (ResLe.drop (ResLe.refl _)))⟩
      · replace h := cond_f hc7 h
        refine ac_exit ?_
        refine ac_seq ?_
        refine ac_region rfl ?_
        refine rq (u := .bool true) rfl rfl rfl (p_assign rfl) rfl ?_
        refine .done rfl ?_
        refine ac_ret ?_
        show Fin _ _ _ _ _ _ _
        exact fin_ret (Nat.le_of_ble_eq_true rfl) rfl ⟨by obtain rfl := Option.some.inj h; rfl, (List.Sublist.refl _)⟩

set_option maxRecDepth 20000 in
set_option maxHeartbeats 4000000 in
theorem tree_Rules_1_fn : ∀ k : Nat, ∀ (x_0 : GRule) (y_1 : GRule) (r : Bool) (h : tree_Rules_1 k x_0 y_1 = some r), PFn Tryd.prog 26 [.agg (GRule.cells x_0), .agg (GRule.cells y_1)] (.bool r) := by
  intro k
  intro x_0 y_1 r h
  rw [tree_Rules_1] at h
  refine AFn.of Tryd.func26 rfl (Nat.le_of_ble_eq_true rfl) ?_
  refine ac_seq ?_
  refine ac_region rfl ?_
  refine rbox rfl rfl rfl rfl rfl fun b1 => ?_
  refine rbox rfl rfl rfl rfl rfl fun b2 => ?_
  refine rq (u := .bool false) rfl rfl rfl (p_assign rfl) rfl ?_
  refine .done rfl ?_
  refine ac_seq ?_
  refine ac_region rfl ?_
  refine rq (u := .ptr b1 0) rfl rfl rfl (p_field_ptr fl_39_0 rfl rfl) rfl ?_
  refine rq (u := .bool x_0.Allow) rfl rfl rfl (p_load_ptr ti_4 (fun _ => rfl) rfl rfl (.tail _ (.head _)) (Nat.le_of_ble_eq_true rfl)) rfl ?_
  refine rq (u := .ptr b2 0) rfl rfl rfl (p_field_ptr fl_39_0 rfl rfl) rfl ?_
  refine rq (u := .bool y_1.Allow) rfl rfl rfl (p_load_ptr ti_4 (fun _ => rfl) rfl rfl (.head _) (Nat.le_of_ble_eq_true rfl)) rfl ?_
  refine rq (u := .bool (x_0.Allow == y_1.Allow)) rfl rfl rfl (p_beql ub_4 rfl rfl rfl) rfl ?_
  refine rq (u := .bool (x_0.Allow == y_1.Allow)) rfl rfl rfl (p_move rfl) rfl ?_
  refine rcase 10 rfl (fun hc1 => ?_) (fun hc1 => ?_)
  · replace h := cond_t hc1 h
    refine rq (u := .ptr b1 7) rfl (guard_at rfl rfl rfl rfl rfl) rfl (p_field_ptr fl_39_2 rfl rfl) rfl ?_
    refine rq (u := .agg (GRate.cells x_0.Rate)) rfl (guard_at rfl rfl rfl rfl rfl) rfl (p_load_ptr ti_37 nofun rfl rfl (.tail _ (.head _)) (Nat.le_of_ble_eq_true rfl)) rfl ?_
    refine rq (u := .ptr b2 7) rfl (guard_at rfl rfl rfl rfl rfl) rfl (p_field_ptr fl_39_2 rfl rfl) rfl ?_
    refine rq (u := .agg (GRate.cells y_1.Rate)) rfl (guard_at rfl rfl rfl rfl rfl) rfl (p_load_ptr ti_37 nofun rfl rfl (.head _) (Nat.le_of_ble_eq_true rfl)) rfl ?_
    refine rq (u := .bool ((x_0.Rate.Num == y_1.Rate.Num) && ((x_0.Rate.Per == y_1.Rate.Per) && ((x_0.Rate.Burst == y_1.Rate.Burst) && true)))) rfl (guard_at rfl rfl rfl rfl rfl) rfl (p_aeq eu_37 eh_37 eg_37 (eqs_37) rfl rfl rfl) rfl ?_
    refine rq (u := .bool ((x_0.Rate.Num == y_1.Rate.Num) && ((x_0.Rate.Per == y_1.Rate.Per) && ((x_0.Rate.Burst == y_1.Rate.Burst) && true)))) rfl rfl rfl (p_pick rfl rfl) rfl ?_
    refine rq (u := .bool ((x_0.Rate.Num == y_1.Rate.Num) && ((x_0.Rate.Per == y_1.Rate.Per) && ((x_0.Rate.Burst == y_1.Rate.Burst) && true)))) rfl rfl rfl (p_move rfl) rfl ?_
    refine rcase 17 rfl (fun hc2 => ?_) (fun hc2 => ?_)
    · replace h := cond_t hc2 h
      refine rq (u := .ptr b1 1) rfl (guard_at rfl rfl rfl rfl rfl) rfl (p_field_ptr fl_39_1 rfl rfl) rfl ?_
      refine rq (u := .agg (GExpr.cells x_0.When)) rfl (guard_at rfl rfl rfl rfl rfl) rfl (p_load_ptr ti_33 nofun rfl rfl (.tail _ (.head _)) (Nat.le_of_ble_eq_true rfl)) rfl ?_
      refine rq (u := .ptr b2 1) rfl (guard_at rfl rfl rfl rfl rfl) rfl (p_field_ptr fl_39_1 rfl rfl) rfl ?_
      refine rq (u := .agg (GExpr.cells y_1.When)) rfl (guard_at rfl rfl rfl rfl rfl) rfl (p_load_ptr ti_33 nofun rfl rfl (.head _) (Nat.le_of_ble_eq_true rfl)) rfl ?_
      obtain ⟨v3, hv3, h⟩ := bnd_some h
      refine rq (u := .bool v3) rfl (guard_at rfl rfl rfl rfl rfl) rfl (p_pfnL en_17 (tree_Same_fn k x_0.When y_1.When v3 hv3) rfl rfl (TVles.refl _)) rfl ?_
      refine rq (u := .bool v3) rfl rfl rfl (p_pick rfl rfl) rfl ?_
      refine rq (u := .bool v3) rfl rfl rfl (p_assign rfl) rfl ?_
      refine .done rfl ?_
      refine ac_ret ?_
      show Fin _ _ _ _ _ _ _
      exact fin_ret (Nat.le_of_ble_eq_true rfl) rfl (by obtain rfl := Option.some.inj h; rfl)
    · replace h := cond_f hc2 h
      refine rskip rfl (guard_at rfl rfl rfl rfl rfl) rfl ?_
      refine rskip rfl (guard_at rfl rfl rfl rfl rfl) rfl ?_
      refine rskip rfl (guard_at rfl rfl rfl rfl rfl) rfl ?_
      refine rskip rfl (guard_at rfl rfl rfl rfl rfl) rfl ?_
      refine rskip rfl (guard_at rfl rfl rfl rfl rfl) rfl ?_
      refine rq (u := .bool false) rfl rfl rfl (p_pick rfl rfl) rfl ?_
      refine rq (u := .bool false) rfl rfl rfl (p_assign rfl) rfl ?_
      refine .done rfl ?_
      refine ac_ret ?_
      show Fin _ _ _ _ _ _ _
      exact fin_ret (Nat.le_of_ble_eq_true rfl) rfl (by obtain rfl := Option.some.inj h; rfl)
  · replace h := cond_f hc1 h
    refine rskip rfl (guard_at rfl rfl rfl rfl rfl) rfl ?_
    refine rskip rfl (guard_at rfl rfl rfl rfl rfl) rfl ?_
    refine rskip rfl (guard_at rfl rfl rfl rfl rfl) rfl ?_
    refine rskip rfl (guard_at rfl rfl rfl rfl rfl) rfl ?_
    refine rskip rfl (guard_at rfl rfl rfl rfl rfl) rfl ?_
    refine rq (u := .bool false) rfl rfl rfl (p_pick rfl rfl) rfl ?_
    refine rq (u := .bool false) rfl rfl rfl (p_move rfl) rfl ?_
    refine rskip rfl (guard_at rfl rfl rfl rfl rfl) rfl ?_
    refine rskip rfl (guard_at rfl rfl rfl rfl rfl) rfl ?_
    refine rskip rfl (guard_at rfl rfl rfl rfl rfl) rfl ?_
    refine rskip rfl (guard_at rfl rfl rfl rfl rfl) rfl ?_
    refine rskip rfl (guard_at rfl rfl rfl rfl rfl) rfl ?_
    refine rq (u := .bool false) rfl rfl rfl (p_pick rfl rfl) rfl ?_
    refine rq (u := .bool false) rfl rfl rfl (p_assign rfl) rfl ?_
    refine .done rfl ?_
    refine ac_ret ?_
    show Fin _ _ _ _ _ _ _
    exact fin_ret (Nat.le_of_ble_eq_true rfl) rfl (by obtain rfl := Option.some.inj h; rfl)
end Go.Proofs.YtdkiijhmmmfciaaDoor
