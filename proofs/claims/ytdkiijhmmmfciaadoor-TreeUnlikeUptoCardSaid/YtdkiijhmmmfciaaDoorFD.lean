/- Which expressions may be (whole), and which are the same. -/
import Derived.Test.YtdkiijhmmmfciaaDoorFC
set_option linter.unusedVariables false
set_option linter.unusedSimpArgs false
namespace Go.Proofs.YtdkiijhmmmfciaaDoor
open Go

theorem cond_some (b : Bool) : cond b (some true) (some false) = some b := by cases b <;> rfl
theorem kind_b (e : GExpr) (j : Int) : (e.Kind == j) = decide (e.Kind = j) := by rw [Bool.eq_iff_iff]; simp
theorem right_any (n : Nat) (l : List GExpr) : (!l.any fun x => (x.Kind == 0) || !rightB n x) = l.all fun x => !(x.Kind == 0) && rightB n x := by
  rw [Bool.eq_iff_iff]; simp
theorem tree_Right_eq : ∀ (n : Nat) (e : GExpr) (k : Nat), good n e → n + 40 ≤ k → tree_Right k e = some (rightB n e)
  | 0, e, k, h, _ => h.elim
  | n + 1, e, k, h, hk => by
    obtain ⟨k, rfl⟩ : ∃ j, k = j + 1 := ⟨k - 1, by omega⟩
    have hO := h.1
    have hx := h.2.2.2.2
    have hcon : slices_ContainsFunc_Expr k e.Of (tree_Right_1 (tree_Right k) k) = some (e.Of.any fun x => (x.Kind == 0) || !rightB n x) := by
      refine contains_expr (by omega) (by omega) fun x hm => ?_
      unfold tree_Right_1
      rw [tree_Right_eq n x k (hx x hm) (by omega)]
      cases (x.Kind == 0) <;> rfl
    rw [tree_Right, rightB]
    by_cases h1 : e.Kind = 1
    · rw [if_pos h1, h1]
      simp only [beq_self_eq_true, cond_true]
      rw [bnd_of (tree_atom_eq (by omega) h)]
    · rw [if_neg h1, kind_b, decide_eq_false h1]
      simp only [cond_false]
      by_cases h0 : e.Kind = 0
      · rw [if_pos h0, h0]
        simp only [beq_self_eq_true, cond_true]
        rw [bnd_of (bare_eq h)]
        have e2 : ((e.Of.length : Int) == 0) = decide (e.Of.length = 0) := by rw [Bool.eq_iff_iff]; simp
        rw [e2]
        cases bareB e <;> cases decide (e.Of.length = 0) <;> rfl
      · rw [if_neg h0, kind_b, decide_eq_false h0]
        simp only [cond_false]
        by_cases h2 : e.Kind = 2
        · rw [if_pos h2, h2]
          simp only [beq_self_eq_true, cond_true]
          rw [bnd_of (bare_eq h)]
          cases bareB e with
          | false => rfl
          | true =>
            simp only [Bool.not_true, cond_false, Bool.true_and]
            by_cases hz : e.Of.length = 0
            · rw [decide_eq_true (show min (e.Of.length : Int) 2 < 1 by omega), decide_eq_false (show ¬ e.Of.length = 1 by omega)]; rfl
            · rw [decide_eq_false (show ¬ min (e.Of.length : Int) 2 < 1 by omega)]
              simp only [cond_false]
              by_cases ho : e.Of.length = 1
              · rw [decide_eq_false (show ¬ 1 < min (e.Of.length : Int) 2 by omega), decide_eq_true ho]
                simp only [cond_false, Bool.true_and]
                rw [bnd_of hcon, right_any]
              · rw [decide_eq_true (show 1 < min (e.Of.length : Int) 2 by omega), decide_eq_false ho]; rfl
        · rw [if_neg h2, kind_b, decide_eq_false h2]
          simp only [cond_false]
          by_cases h3 : e.Kind = 3
          · rw [if_pos (Or.inl h3), h3]
            simp only [beq_self_eq_true, cond_true, show ((3 : Int) == 2) = false by decide, cond_false]
            rw [bnd_of (bare_eq h)]
            cases bareB e with
            | false => rfl
            | true =>
              simp only [Bool.not_true, cond_false, Bool.true_and]
              by_cases hz : e.Of.length < 2
              · rw [decide_eq_true (show (e.Of.length : Int) < 2 by omega), decide_eq_false (show ¬ 2 ≤ e.Of.length by omega)]; rfl
              · rw [decide_eq_false (show ¬ (e.Of.length : Int) < 2 by omega), decide_eq_true (show 2 ≤ e.Of.length by omega)]
                simp only [cond_false, Bool.true_and]
                rw [bnd_of hcon, right_any]
          · rw [kind_b, decide_eq_false h3]
            simp only [cond_false]
            by_cases h4 : e.Kind = 4
            · rw [if_pos (Or.inr h4), h4]
              simp only [beq_self_eq_true, cond_true, show ((4 : Int) == 2) = false by decide, cond_false]
              rw [bnd_of (bare_eq h)]
              cases bareB e with
              | false => rfl
              | true =>
                simp only [Bool.not_true, cond_false, Bool.true_and]
                by_cases hz : e.Of.length < 2
                · rw [decide_eq_true (show (e.Of.length : Int) < 2 by omega), decide_eq_false (show ¬ 2 ≤ e.Of.length by omega)]; rfl
                · rw [decide_eq_false (show ¬ (e.Of.length : Int) < 2 by omega), decide_eq_true (show 2 ≤ e.Of.length by omega)]
                  simp only [cond_false, Bool.true_and]
                  rw [bnd_of hcon, right_any]
            · rw [if_neg (by omega), kind_b, decide_eq_false h4, Bool.and_false]; rfl

theorem ref_Right_eq : ∀ (n : Nat) (e : GExpr) (k : Nat), good n e → n + 40 ≤ k → ref11_Right k e = some (rightB n e)
  | 0, e, k, h, _ => h.elim
  | n + 1, e, k, h, hk => by
    obtain ⟨k, rfl⟩ : ∃ j, k = j + 1 := ⟨k - 1, by omega⟩
    have hO := h.1
    have hx := h.2.2.2.2
    have hcon : ref11_Right_L0 (ref11_Right k) e (fun _ => some true) k 0 = some (e.Of.all fun x => !(x.Kind == 0) && rightB n x) := by
      rw [loop_all (F := fun m i => ref11_Right_L0 (ref11_Right k) e _ m i) (n := e.Of.length) (p := atB e.Of fun x => !(x.Kind == 0) && rightB n x) (K := some true) ?_ ?_ (by omega)]
      · rw [all_ix]
        cases e.Of.all fun x => !(x.Kind == 0) && rightB n x <;> rfl
      · intro m i hi
        rw [ref11_Right_L0, lt_dec hi]
        simp only [cond_true]
        rw [bnd_of (idx_of (List.getElem?_eq_getElem hi)), atB_at hi]
        cases hk0 : (e.Of[i].Kind == 0) with
        | true => rfl
        | false =>
          simp only [cond_false, Bool.not_false, Bool.true_and]
          rw [bnd_of (idx_of (List.getElem?_eq_getElem hi)), bnd_of (ref_Right_eq n _ k (hx _ (List.getElem_mem hi)) (by omega)), suc_w hi (by omega)]
          cases rightB n e.Of[i] <;> rfl
      · intro m
        rw [ref11_Right_L0, ge_dec]; rfl
    rw [ref11_Right, rightB]
    by_cases h1 : e.Kind = 1
    · rw [if_pos h1, h1]
      simp only [beq_self_eq_true, cond_true]
      rw [bnd_of (ref_atom_eq (by omega) h)]
    · rw [if_neg h1, kind_b, decide_eq_false h1]
      simp only [cond_false]
      have hbare : ∀ X : Option Bool, (cond (e.Field != 0) (some false) (cond (decide (0 < (e.Ranges.length : Int))) (some false) (bnd (ref11_plain k e.Low) fun v4 => cond (!v4) (some false) (bnd (ref11_plain k e.High) fun v6 => cond (!v6) (some false) X)))) = cond (bareB e) X (some false) := by
        intro X
        unfold bareB
        have e1 : (e.Field != 0) = !decide (e.Field = 0) := by rw [Bool.eq_iff_iff]; simp
        have e2 : decide ((0 : Int) < e.Ranges.length) = !decide (e.Ranges.length = 0) := by rw [← decide_not]; exact decide_eq_decide.2 (by omega)
        rw [e1, e2]
        cases decide (e.Field = 0) with
        | false => rfl
        | true =>
          cases decide (e.Ranges.length = 0) with
          | false => rfl
          | true =>
            simp only [Bool.not_true, cond_false, Bool.true_and]
            rw [bnd_of (plain_eq h.2.2.1)]
            cases zeroB' e.Low with
            | false => rfl
            | true =>
              simp only [Bool.not_true, cond_false, Bool.true_and]
              rw [bnd_of (plain_eq h.2.2.2.1)]
              cases zeroB' e.High <;> rfl
      rw [hbare]
      cases bareB e with
      | false => rfl
      | true =>
        simp only [cond_true, Bool.true_and]
        by_cases h0 : e.Kind = 0
        · rw [if_pos h0, h0]
          simp only [beq_self_eq_true, cond_true]
          have e2 : ((e.Of.length : Int) == 0) = decide (e.Of.length = 0) := by rw [Bool.eq_iff_iff]; simp
          rw [e2]
        · rw [if_neg h0, kind_b, decide_eq_false h0]
          simp only [cond_false]
          by_cases h2 : e.Kind = 2
          · rw [if_pos h2, h2]
            simp only [beq_self_eq_true, cond_true]
            have e2 : ((e.Of.length : Int) != 1) = !decide (e.Of.length = 1) := by rw [Bool.eq_iff_iff]; simp; omega
            rw [e2]
            cases decide (e.Of.length = 1) with
            | false => rfl
            | true =>
              simp only [Bool.not_true, cond_false, Bool.true_and]
              exact hcon
          · rw [if_neg h2, kind_b, decide_eq_false h2]
            simp only [cond_false]
            have e2 : decide ((e.Of.length : Int) < 2) = !decide (2 ≤ e.Of.length) := by rw [Bool.eq_iff_iff]; simp; omega
            by_cases h3 : e.Kind = 3
            · rw [if_pos (Or.inl h3), h3]
              simp only [beq_self_eq_true, cond_true]
              rw [e2]
              cases decide (2 ≤ e.Of.length) with
              | false => rfl
              | true =>
                simp only [Bool.not_true, cond_false, Bool.true_and]
                exact hcon
            · rw [kind_b, decide_eq_false h3]
              simp only [cond_false]
              by_cases h4 : e.Kind = 4
              · rw [if_pos (Or.inr h4), h4]
                simp only [beq_self_eq_true, cond_true]
                rw [e2]
                cases decide (2 ≤ e.Of.length) with
                | false => rfl
                | true =>
                  simp only [Bool.not_true, cond_false, Bool.true_and]
                  exact hcon
              · rw [if_neg (by omega), kind_b, decide_eq_false h4]; rfl

/-! ### The same -/
def rangesB (a b : List GRange) : Bool := decide (a.length = b.length) && (List.range a.length).all fun i => ((a[i]?).bind fun x => (b[i]?).map fun y => (x.Low == y.Low) && ((x.High == y.High) && true)).getD false
theorem ranges_prog {k : Nat} {a b : List GRange} (ha : a.length ≤ 8) (hk : 20 ≤ k) : span_Same k a b = some (rangesB a b) := by
  unfold span_Same slices_Equal_Range rangesB
  have e1 : ((a.length : Int) != (b.length : Int)) = !decide (a.length = b.length) := by rw [Bool.eq_iff_iff]; simp; omega
  rw [e1]
  by_cases hl : a.length = b.length
  · rw [decide_eq_true hl]
    simp only [Bool.not_true, cond_false, Bool.true_and]
    have h := loop_all (F := fun m i => slices_Equal_Range_L0 a b (fun _ => some true) m i) (n := a.length) (p := fun i => ((a[i]?).bind fun x => (b[i]?).map fun y => (x.Low == y.Low) && ((x.High == y.High) && true)).getD false) (K := some true) (fun m i hi => by
      rw [slices_Equal_Range_L0, lt_dec hi]
      simp only [cond_true]
      rw [bnd_of (idx_of (List.getElem?_eq_getElem hi)), bnd_of (idx_of (List.getElem?_eq_getElem (show i < b.length by omega))), suc_w hi (by omega), List.getElem?_eq_getElem hi, List.getElem?_eq_getElem (show i < b.length by omega)]
      simp only [Option.bind_some, Option.map_some, Option.getD_some]
      cases (a[i].Low == b[i].Low) && ((a[i].High == b[i].High) && true) <;> rfl) (fun m => by
      rw [slices_Equal_Range_L0, ge_dec]; rfl) (m := k) (by omega)
    rw [bnd_of (h.trans (cond_some _))]
  · rw [decide_eq_false hl]; rfl
theorem ranges_doc {k : Nat} {a b : List GRange} (ha : a.length ≤ 8) (hk : 20 ≤ k) : ref04_Same k a b = some (rangesB a b) := by
  unfold ref04_Same rangesB
  have e1 : ((a.length : Int) != (b.length : Int)) = !decide (a.length = b.length) := by rw [Bool.eq_iff_iff]; simp; omega
  rw [e1]
  by_cases hl : a.length = b.length
  · rw [decide_eq_true hl]
    simp only [Bool.not_true, cond_false, Bool.true_and]
    have h := loop_all (F := fun m i => ref04_Same_L0 a b (fun _ => some true) m i) (n := a.length) (p := fun i => ((a[i]?).bind fun x => (b[i]?).map fun y => (x.Low == y.Low) && ((x.High == y.High) && true)).getD false) (K := some true) (fun m i hi => by
      rw [ref04_Same_L0, lt_dec hi]
      simp only [cond_true]
      rw [bnd_of (idx_of (List.getElem?_eq_getElem hi)), bnd_of (idx_of (List.getElem?_eq_getElem (show i < b.length by omega))), suc_w hi (by omega), List.getElem?_eq_getElem hi, List.getElem?_eq_getElem (show i < b.length by omega)]
      simp only [Option.bind_some, Option.map_some, Option.getD_some]
      cases (a[i].Low == b[i].Low) && ((a[i].High == b[i].High) && true) <;> rfl) (fun m => by
      rw [ref04_Same_L0, ge_dec]; rfl) (m := k) (by omega)
    exact h.trans (by cases (List.range a.length).all _ <;> rfl)
  · rw [decide_eq_false hl]; rfl

def sameB : Nat → GExpr → GExpr → Bool
  | 0, _, _ => false
  | n + 1, a, b => decide (a.Kind = b.Kind) && decide (a.Field = b.Field) && rangesB a.Ranges b.Ranges && fsame (fl a.Low) (fl b.Low) && fsame (fl a.High) (fl b.High) && decide (a.Of.length = b.Of.length) &&
      (List.range a.Of.length).all fun i => ((a.Of[i]?).bind fun x => (b.Of[i]?).map fun y => sameB n x y).getD false
theorem fsame_prog {k : Nat} {x y : Fl} (hx : ∃ a, x = some a ∧ a < 18446744073709551616) (hy : ∃ a, y = some a ∧ a < 18446744073709551616) : real_Same k x y = some (fsame (fl x) (fl y)) := by
  obtain ⟨a, rfl, ha⟩ := hx
  obtain ⟨b, rfl, hb⟩ := hy
  rw [real_Same_eq]; rfl
theorem fsame_doc {k : Nat} {x y : Fl} (hx : ∃ a, x = some a ∧ a < 18446744073709551616) (hy : ∃ a, y = some a ∧ a < 18446744073709551616) : ref03_Same k x y = some (fsame (fl x) (fl y)) := by
  obtain ⟨a, rfl, ha⟩ := hx
  obtain ⟨b, rfl, hb⟩ := hy
  rw [ref03_Same_eq k ha hb]; rfl
theorem tree_Same_eq : ∀ (n : Nat) (a b : GExpr) (k : Nat), good n a → good n b → n + 40 ≤ k → tree_Same k a b = some (sameB n a b)
  | 0, a, b, k, h, _, _ => h.elim
  | n + 1, a, b, k, ha, hb, hk => by
    obtain ⟨k, rfl⟩ : ∃ j, k = j + 1 := ⟨k - 1, by omega⟩
    obtain ⟨ha1, ha2, ha3, ha4, ha5⟩ := ha
    obtain ⟨hb1, hb2, hb3, hb4, hb5⟩ := hb
    rw [tree_Same, sameB]
    have e1 : (a.Kind == b.Kind) = decide (a.Kind = b.Kind) := by rw [Bool.eq_iff_iff]; simp
    have e2 : (a.Field == b.Field) = decide (a.Field = b.Field) := by rw [Bool.eq_iff_iff]; simp
    rw [e1, e2]
    cases decide (a.Kind = b.Kind) with
    | false => rfl
    | true =>
      cases decide (a.Field = b.Field) with
      | false => rfl
      | true =>
        simp only [cond_true, Bool.true_and]
        rw [bnd_of (fsame_prog ha3 hb3)]
        cases fsame (fl a.Low) (fl b.Low) with
        | false => simp
        | true =>
          simp only [cond_true, Bool.and_true]
          rw [bnd_of (fsame_prog ha4 hb4)]
          cases fsame (fl a.High) (fl b.High) with
          | false => simp
          | true =>
            simp only [cond_true, Bool.and_true]
            rw [bnd_of (ranges_prog ha2 (by omega))]
            cases rangesB a.Ranges b.Ranges with
            | false => rfl
            | true =>
              simp only [cond_true, Bool.true_and]
              unfold slices_EqualFunc_Expr
              have e3 : ((a.Of.length : Int) != (b.Of.length : Int)) = !decide (a.Of.length = b.Of.length) := by rw [Bool.eq_iff_iff]; simp; omega
              rw [e3]
              by_cases hl : a.Of.length = b.Of.length
              · rw [decide_eq_true hl]
                simp only [Bool.not_true, cond_false, Bool.true_and]
                have h := loop_all (F := fun m i => slices_EqualFunc_Expr_L0 a.Of b.Of (tree_Same k) (fun _ => some true) m i) (n := a.Of.length) (p := fun i => ((a.Of[i]?).bind fun x => (b.Of[i]?).map fun y => sameB n x y).getD false) (K := some true) (fun m i hi => by
                  have hi2 : i < b.Of.length := by omega
                  rw [slices_EqualFunc_Expr_L0, lt_dec hi]
                  simp only [cond_true]
                  rw [bnd_of (idx_of (List.getElem?_eq_getElem hi)), bnd_of (idx_of (List.getElem?_eq_getElem hi2)), bnd_of (tree_Same_eq n _ _ k (ha5 _ (List.getElem_mem hi)) (hb5 _ (List.getElem_mem hi2)) (by omega)), suc_w hi (by omega), List.getElem?_eq_getElem hi, List.getElem?_eq_getElem hi2]
                  simp only [Option.bind_some, Option.map_some, Option.getD_some]
                  cases sameB n a.Of[i] b.Of[i] <;> rfl) (fun m => by
                  rw [slices_EqualFunc_Expr_L0, ge_dec]; rfl) (m := k) (by omega)
                rw [bnd_of (h.trans (cond_some _))]
              · rw [decide_eq_false hl]; rfl
theorem ref_Same_eq : ∀ (n : Nat) (a b : GExpr) (k : Nat), good n a → good n b → n + 40 ≤ k → ref11_Same k a b = some (sameB n a b)
  | 0, a, b, k, h, _, _ => h.elim
  | n + 1, a, b, k, ha, hb, hk => by
    obtain ⟨k, rfl⟩ : ∃ j, k = j + 1 := ⟨k - 1, by omega⟩
    obtain ⟨ha1, ha2, ha3, ha4, ha5⟩ := ha
    obtain ⟨hb1, hb2, hb3, hb4, hb5⟩ := hb
    rw [ref11_Same, sameB]
    have e1 : (a.Kind != b.Kind) = !decide (a.Kind = b.Kind) := by rw [Bool.eq_iff_iff]; simp
    have e2 : (a.Field != b.Field) = !decide (a.Field = b.Field) := by rw [Bool.eq_iff_iff]; simp
    rw [e1, e2]
    cases decide (a.Kind = b.Kind) with
    | false => rfl
    | true =>
      cases decide (a.Field = b.Field) with
      | false => rfl
      | true =>
        simp only [Bool.not_true, cond_false, Bool.true_and]
        rw [bnd_of (ranges_doc ha2 (by omega))]
        cases rangesB a.Ranges b.Ranges with
        | false => rfl
        | true =>
          simp only [Bool.not_true, cond_false, Bool.true_and]
          rw [bnd_of (fsame_doc ha3 hb3)]
          cases fsame (fl a.Low) (fl b.Low) with
          | false => rfl
          | true =>
            simp only [Bool.not_true, cond_false, Bool.true_and]
            rw [bnd_of (fsame_doc ha4 hb4)]
            cases fsame (fl a.High) (fl b.High) with
            | false => rfl
            | true =>
              simp only [Bool.not_true, cond_false, Bool.true_and]
              have e3 : ((a.Of.length : Int) != (b.Of.length : Int)) = !decide (a.Of.length = b.Of.length) := by rw [Bool.eq_iff_iff]; simp; omega
              rw [e3]
              by_cases hl : a.Of.length = b.Of.length
              · rw [decide_eq_true hl]
                simp only [Bool.not_true, cond_false, Bool.true_and]
                have h := loop_all (F := fun m i => ref11_Same_L0 (ref11_Same k) a b (fun _ => some true) m i) (n := a.Of.length) (p := fun i => ((a.Of[i]?).bind fun x => (b.Of[i]?).map fun y => sameB n x y).getD false) (K := some true) (fun m i hi => by
                  have hi2 : i < b.Of.length := by omega
                  rw [ref11_Same_L0, lt_dec hi]
                  simp only [cond_true]
                  rw [bnd_of (idx_of (List.getElem?_eq_getElem hi)), bnd_of (idx_of (List.getElem?_eq_getElem hi2)), bnd_of (ref_Same_eq n _ _ k (ha5 _ (List.getElem_mem hi)) (hb5 _ (List.getElem_mem hi2)) (by omega)), suc_w hi (by omega), List.getElem?_eq_getElem hi, List.getElem?_eq_getElem hi2]
                  simp only [Option.bind_some, Option.map_some, Option.getD_some]
                  cases sameB n a.Of[i] b.Of[i] <;> rfl) (fun m => by
                  rw [ref11_Same_L0, ge_dec]; rfl) (m := k) (by omega)
                exact h.trans (by cases (List.range a.Of.length).all _ <;> rfl)
              · rw [decide_eq_false hl]; rfl

/-! ### Policies -/
def rateB (a b : GRate) : Bool := (a.Num == b.Num) && ((a.Per == b.Per) && ((a.Burst == b.Burst) && true))
def rulesB (a b : List GRule) : Bool := decide (a.length = b.length) && (List.range a.length).all fun i => ((a[i]?).bind fun x => (b[i]?).map fun y => (x.Allow == y.Allow) && rateB x.Rate y.Rate && sameB 5 x.When y.When).getD false
theorem tree_Rules_eq {a b : List GRule} {k : Nat} (ha : a.length ≤ 6) (hga : ∀ x ∈ a, good 5 x.When) (hgb : ∀ x ∈ b, good 5 x.When) (hk : 50 ≤ k) : tree_Rules k a b = some (rulesB a b) := by
  unfold tree_Rules slices_EqualFunc_Rule rulesB
  have e1 : ((a.length : Int) != (b.length : Int)) = !decide (a.length = b.length) := by rw [Bool.eq_iff_iff]; simp; omega
  rw [e1]
  by_cases hl : a.length = b.length
  · rw [decide_eq_true hl]
    simp only [Bool.not_true, cond_false, Bool.true_and]
    have h := loop_all (F := fun m i => slices_EqualFunc_Rule_L0 a b (tree_Rules_1 k) (fun _ => some true) m i) (n := a.length) (p := fun i => ((a[i]?).bind fun x => (b[i]?).map fun y => (x.Allow == y.Allow) && rateB x.Rate y.Rate && sameB 5 x.When y.When).getD false) (K := some true) (fun m i hi => by
      have hi2 : i < b.length := by omega
      rw [slices_EqualFunc_Rule_L0, lt_dec hi]
      simp only [cond_true]
      have hr : tree_Rules_1 k a[i] b[i] = some ((a[i].Allow == b[i].Allow) && rateB a[i].Rate b[i].Rate && sameB 5 a[i].When b[i].When) := by
        unfold tree_Rules_1
        cases (a[i].Allow == b[i].Allow) with
        | false => rfl
        | true =>
          simp only [cond_true, Bool.true_and]
          show cond (rateB a[i].Rate b[i].Rate) _ _ = _
          cases rateB a[i].Rate b[i].Rate with
          | false => rfl
          | true =>
            simp only [cond_true, Bool.true_and]
            rw [bnd_of (tree_Same_eq 5 _ _ k (hga _ (List.getElem_mem hi)) (hgb _ (List.getElem_mem hi2)) (by omega))]
      rw [bnd_of (idx_of (List.getElem?_eq_getElem hi)), bnd_of (idx_of (List.getElem?_eq_getElem hi2)), bnd_of hr, suc_w hi (by omega), List.getElem?_eq_getElem hi, List.getElem?_eq_getElem hi2]
      simp only [Option.bind_some, Option.map_some, Option.getD_some]
      cases (a[i].Allow == b[i].Allow) && rateB a[i].Rate b[i].Rate && sameB 5 a[i].When b[i].When <;> rfl) (fun m => by
      rw [slices_EqualFunc_Rule_L0, ge_dec]; rfl) (m := k) (by omega)
    rw [bnd_of (h.trans (cond_some _))]
  · rw [decide_eq_false hl]; rfl
theorem ref_Rules_eq {a b : List GRule} {k : Nat} (ha : a.length ≤ 6) (hga : ∀ x ∈ a, good 5 x.When) (hgb : ∀ x ∈ b, good 5 x.When) (hk : 50 ≤ k) : ref11_Rules k a b = some (rulesB a b) := by
  unfold ref11_Rules rulesB
  have e1 : ((a.length : Int) != (b.length : Int)) = !decide (a.length = b.length) := by rw [Bool.eq_iff_iff]; simp; omega
  rw [e1]
  by_cases hl : a.length = b.length
  · rw [decide_eq_true hl]
    simp only [Bool.not_true, cond_false, Bool.true_and]
    have h := loop_all (F := fun m i => ref11_Rules_L0 k a b (fun _ => some true) m i) (n := a.length) (p := fun i => ((a[i]?).bind fun x => (b[i]?).map fun y => (x.Allow == y.Allow) && rateB x.Rate y.Rate && sameB 5 x.When y.When).getD false) (K := some true) (fun m i hi => by
      have hi2 : i < b.length := by omega
      have ix := idx_of (List.getElem?_eq_getElem hi)
      have iy := idx_of (List.getElem?_eq_getElem hi2)
      rw [ref11_Rules_L0, lt_dec hi]
      simp only [cond_true]
      rw [bnd_of ix, bnd_of iy, List.getElem?_eq_getElem hi, List.getElem?_eq_getElem hi2]
      simp only [Option.bind_some, Option.map_some, Option.getD_some]
      cases (a[i].Allow == b[i].Allow) with
      | false => rfl
      | true =>
        simp only [Bool.not_true, cond_false, Bool.true_and]
        rw [bnd_of ix, bnd_of iy]
        show cond (!(rateB a[i].Rate b[i].Rate)) _ _ = _
        cases rateB a[i].Rate b[i].Rate with
        | false => rfl
        | true =>
          simp only [Bool.not_true, cond_false, Bool.true_and]
          rw [bnd_of ix, bnd_of iy, bnd_of (ref_Same_eq 5 _ _ k (hga _ (List.getElem_mem hi)) (hgb _ (List.getElem_mem hi2)) (by omega)), suc_w hi (by omega)]
          cases sameB 5 a[i].When b[i].When <;> rfl) (fun m => by
      rw [ref11_Rules_L0, ge_dec]; rfl) (m := k) (by omega)
    exact h.trans (by cases (List.range a.length).all _ <;> rfl)
  · rw [decide_eq_false hl]; rfl
end Go.Proofs.YtdkiijhmmmfciaaDoor
