/- Which expressions may be, and which are the same: the program's way and the document's. -/
import Derived.Test.YtdkiijhmmmfciaaDoorFB
set_option linter.unusedVariables false
set_option linter.unusedSimpArgs false
namespace Go.Proofs.YtdkiijhmmmfciaaDoor
open Go

/-! ### Loops -/
theorem idx_of {α : Type} {l : List α} {i : Nat} {x : α} (h : l[i]? = some x) : idx l (i : Int) = some x := by
  unfold idx; rw [if_pos (by omega)]; simpa using h
theorem loop_ix {F : Nat → Int → Option Bool} {n : Nat} {p : Nat → Bool} {K : Option Bool} (h1 : ∀ m i, i < n → F (m + 1) (i : Int) = cond (p i) (F m ((i + 1 : Nat) : Int)) (some false)) (h2 : ∀ m, F (m + 1) (n : Int) = K) :
    ∀ (j i m : Nat), i + j = n → j < m → F m (i : Int) = cond ((List.range' i j).all p) K (some false)
  | 0, i, m, hij, hm => by
    obtain ⟨m, rfl⟩ : ∃ q, m = q + 1 := ⟨m - 1, by omega⟩
    obtain rfl : i = n := by omega
    rw [h2]; rfl
  | j + 1, i, m, hij, hm => by
    obtain ⟨m, rfl⟩ : ∃ q, m = q + 1 := ⟨m - 1, by omega⟩
    rw [h1 m i (by omega), loop_ix h1 h2 j (i + 1) m (by omega) (by omega), List.range'_succ, List.all_cons]
    cases p i <;> rfl
theorem loop_all {F : Nat → Int → Option Bool} {n : Nat} {p : Nat → Bool} {K : Option Bool} (h1 : ∀ m i, i < n → F (m + 1) (i : Int) = cond (p i) (F m ((i + 1 : Nat) : Int)) (some false)) (h2 : ∀ m, F (m + 1) (n : Int) = K) {m : Nat} (hm : n < m) :
    F m 0 = cond ((List.range n).all p) K (some false) := by
  have := loop_ix h1 h2 n 0 m (by omega) hm
  rw [List.range_eq_range']
  exact this
def atB {α : Type} (l : List α) (q : α → Bool) (i : Nat) : Bool := ((l[i]?).map q).getD false
theorem atB_at {α : Type} {l : List α} {q : α → Bool} {i : Nat} (h : i < l.length) : atB l q i = q l[i] := by
  unfold atB; rw [List.getElem?_eq_getElem h]; rfl
theorem all_ix {α : Type} (l : List α) (q : α → Bool) : (List.range l.length).all (atB l q) = l.all q := by
  rw [Bool.eq_iff_iff, List.all_eq_true, List.all_eq_true]
  constructor
  · intro h x hx
    obtain ⟨i, hi⟩ := List.mem_iff_getElem?.1 hx
    have := h i (List.mem_range.2 (List.getElem?_eq_some_iff.1 hi).1)
    simpa [atB, hi] using this
  · intro h i hi
    rw [List.mem_range] at hi
    rw [atB_at hi]
    exact h _ (List.getElem_mem hi)
theorem lt_dec {i n : Nat} (h : i < n) : decide ((i : Int) < (n : Int)) = true := decide_eq_true (by omega)
theorem ge_dec (n : Nat) : decide ((n : Int) < (n : Int)) = false := decide_eq_false (by omega)
theorem suc_w {i n : Nat} (h : i < n) (hn : n ≤ 1000) : IntKind.wrap .i64 ((i : Int) + 1) = ((i + 1 : Nat) : Int) := by
  rw [wr64 (by omega) (by omega)]; omega

/-! ### Expressions that are good: small ones, of floats that are words -/
def good : Nat → GExpr → Prop
  | 0, _ => False
  | n + 1, e => e.Of.length ≤ 6 ∧ e.Ranges.length ≤ 8 ∧ (∃ a, e.Low = some a ∧ a < 18446744073709551616) ∧ (∃ a, e.High = some a ∧ a < 18446744073709551616) ∧ ∀ x ∈ e.Of, good n x

def numB (n : Int) : Bool := decide (0 ≤ n) && decide (n ≤ 9007199254740992)
def fl (x : Fl) : Nat := x.getD 0
def zeroB' (x : Fl) : Bool := fsame (fl x) 0
def atomB (e : GExpr) : Bool :=
  decide (e.Of.length = 0) && decide (1 ≤ e.Field) && decide (e.Field ≤ 6) &&
    if e.Field = 6 then decide (e.Ranges.length = 0) && (ftext (fl e.Low)).2 && (ftext (fl e.High)).2
    else decide (0 < e.Ranges.length) && e.Ranges.all (fun r => numB r.Low && numB r.High) && zeroB' e.Low && zeroB' e.High
def bareB (e : GExpr) : Bool := decide (e.Field = 0) && decide (e.Ranges.length = 0) && zeroB' e.Low && zeroB' e.High
def rightB : Nat → GExpr → Bool
  | 0, _ => false
  | n + 1, e =>
    if e.Kind = 1 then atomB e
    else bareB e && (if e.Kind = 0 then decide (e.Of.length = 0) else if e.Kind = 2 then decide (e.Of.length = 1) && e.Of.all (fun x => !(x.Kind == 0) && rightB n x)
      else if e.Kind = 3 ∨ e.Kind = 4 then decide (2 ≤ e.Of.length) && e.Of.all (fun x => !(x.Kind == 0) && rightB n x) else false)

theorem num_eq (k : Nat) (n : Int) : ref11_num k n = some (numB n) := by
  unfold ref11_num numB
  cases decide (0 ≤ n) <;> rfl
theorem fine1_eq (k : Nat) (n : Int) : tree_fine_1 k n = some (!numB n) := by
  unfold tree_fine_1 numB
  by_cases h : n < 0
  · rw [decide_eq_true h, decide_eq_false (show ¬ 0 ≤ n by omega)]; rfl
  · rw [decide_eq_false h, decide_eq_true (show 0 ≤ n by omega)]
    simp only [cond_false, Bool.true_and]
    congr 1
    rw [← decide_not]
    exact decide_eq_decide.2 (by omega)
theorem contains_int {k : Nat} {l : List Int} {f : Int → Option Bool} {p : Int → Bool} (hl : l.length ≤ 100) (hk : l.length < k) (hf : ∀ x ∈ l, f x = some (p x)) : slices_ContainsFunc_int k l f = some (l.any p) := by
  unfold slices_ContainsFunc_int slices_IndexFunc_int
  have key : ∀ (j i m : Nat), i + j = l.length → j < m → ∃ v, slices_IndexFunc_int_L0 l f (fun _ => some (-1)) m (i : Int) = some v ∧ decide (0 ≤ v) = (l.drop i).any p := by
    intro j
    induction j with
    | zero =>
      intro i m hij hm
      obtain ⟨m, rfl⟩ : ∃ q, m = q + 1 := ⟨m - 1, by omega⟩
      obtain rfl : i = l.length := by omega
      refine ⟨-1, ?_, by simp⟩
      rw [slices_IndexFunc_int_L0, ge_dec]; rfl
    | succ j ih =>
      intro i m hij hm
      obtain ⟨m, rfl⟩ : ∃ q, m = q + 1 := ⟨m - 1, by omega⟩
      have hi : i < l.length := by omega
      rw [slices_IndexFunc_int_L0, lt_dec hi]
      simp only [cond_true]
      rw [bnd_of (idx_of (List.getElem?_eq_getElem hi)), bnd_of (hf _ (List.getElem_mem hi)), List.drop_eq_getElem_cons hi, List.any_cons]
      cases p l[i] with
      | true => exact ⟨i, rfl, by simp⟩
      | false =>
        simp only [cond_false, Bool.false_or]
        rw [suc_w hi (by omega)]
        exact ih (i + 1) m (by omega) (by omega)
  obtain ⟨v, h1, h2⟩ := key l.length 0 k (by omega) hk
  exact (bnd_of h1 _).trans (by rw [h2, List.drop_zero])
theorem contains_expr {k : Nat} {l : List GExpr} {f : GExpr → Option Bool} {p : GExpr → Bool} (hl : l.length ≤ 100) (hk : l.length < k) (hf : ∀ x ∈ l, f x = some (p x)) : slices_ContainsFunc_Expr k l f = some (l.any p) := by
  unfold slices_ContainsFunc_Expr slices_IndexFunc_Expr
  have key : ∀ (j i m : Nat), i + j = l.length → j < m → ∃ v, slices_IndexFunc_Expr_L0 l f (fun _ => some (-1)) m (i : Int) = some v ∧ decide (0 ≤ v) = (l.drop i).any p := by
    intro j
    induction j with
    | zero =>
      intro i m hij hm
      obtain ⟨m, rfl⟩ : ∃ q, m = q + 1 := ⟨m - 1, by omega⟩
      obtain rfl : i = l.length := by omega
      refine ⟨-1, ?_, by simp⟩
      rw [slices_IndexFunc_Expr_L0, ge_dec]; rfl
    | succ j ih =>
      intro i m hij hm
      obtain ⟨m, rfl⟩ : ∃ q, m = q + 1 := ⟨m - 1, by omega⟩
      have hi : i < l.length := by omega
      rw [slices_IndexFunc_Expr_L0, lt_dec hi]
      simp only [cond_true]
      rw [bnd_of (idx_of (List.getElem?_eq_getElem hi)), bnd_of (hf _ (List.getElem_mem hi)), List.drop_eq_getElem_cons hi, List.any_cons]
      cases p l[i] with
      | true => exact ⟨i, rfl, by simp⟩
      | false =>
        simp only [cond_false, Bool.false_or]
        rw [suc_w hi (by omega)]
        exact ih (i + 1) m (by omega) (by omega)
  obtain ⟨v, h1, h2⟩ := key l.length 0 k (by omega) hk
  exact (bnd_of h1 _).trans (by rw [h2, List.drop_zero])
theorem fine_eq {k : Nat} {l : List Int} (hl : l.length ≤ 100) (hk : l.length < k) : tree_fine k l = some (l.all numB) := by
  unfold tree_fine
  rw [bnd_of (contains_int hl hk (fun x _ => fine1_eq k x))]
  congr 1
  rw [Bool.eq_iff_iff]; simp

theorem plain_eq {k : Nat} {x : Fl} (h : ∃ a, x = some a ∧ a < 18446744073709551616) : ref11_plain k x = some (zeroB' x) := by
  obtain ⟨a, rfl, ha⟩ := h
  unfold ref11_plain
  rw [bnd_of (ref03_Same_eq k ha (by decide))]
  rfl
theorem zero_eq {k : Nat} {x : Fl} (h : ∃ a, x = some a ∧ a < 18446744073709551616) : real_Same k x (some 0) = some (zeroB' x) := by
  obtain ⟨a, rfl, ha⟩ := h
  rw [real_Same_eq]; rfl
theorem rtext_eq {k : Nat} {x : Fl} (h : ∃ a, x = some a ∧ a < 18446744073709551616) : real_Text k x = some (ftext (fl x)) := by
  obtain ⟨a, rfl, ha⟩ := h
  rw [real_Text_eq k ha]; rfl
theorem dtext_eq {k : Nat} {x : Fl} (hk : 22 ≤ k) (h : ∃ a, x = some a ∧ a < 18446744073709551616) : ref03_Text k x = some (ftext (fl x)) := by
  obtain ⟨a, rfl, ha⟩ := h
  obtain ⟨k, rfl⟩ : ∃ j, k = j + 2 := ⟨k - 2, by omega⟩
  rw [ref03_Text_eq (by omega) ha]; rfl

theorem bare_eq {n k : Nat} {e : GExpr} (h : good (n + 1) e) : tree_bare k e = some (bareB e) := by
  obtain ⟨h1, h2, h3, h4, _⟩ := h
  unfold tree_bare bareB
  have e1 : (e.Field == 0) = decide (e.Field = 0) := by rw [Bool.eq_iff_iff]; simp
  have e2 : ((e.Ranges.length : Int) == 0) = decide (e.Ranges.length = 0) := by rw [Bool.eq_iff_iff]; simp
  rw [e1, e2]
  cases decide (e.Field = 0) with
  | false => rfl
  | true =>
    cases decide (e.Ranges.length = 0) with
    | false => rfl
    | true =>
      simp only [cond_true, Bool.true_and]
      rw [bnd_of (zero_eq h3)]
      cases zeroB' e.Low with
      | false => rfl
      | true =>
        simp only [cond_true, Bool.true_and]
        rw [bnd_of (zero_eq h4)]

theorem tree_atom_eq {n k : Nat} {e : GExpr} (hk : 30 ≤ k) (h : good (n + 1) e) : tree_atom k e = some (atomB e) := by
  obtain ⟨h1, h2, h3, h4, _⟩ := h
  unfold tree_atom atomB
  by_cases hO : e.Of.length = 0
  · rw [decide_eq_false (by omega), decide_eq_true hO]
    simp only [cond_false, Bool.true_and]
    by_cases h6 : e.Field = 6
    · rw [h6]
      simp only [beq_self_eq_true, cond_true, if_true]
      rw [bnd_of (rtext_eq h3), bnd_of (rtext_eq h4)]
      have e2 : ((e.Ranges.length : Int) == 0) = decide (e.Ranges.length = 0) := by rw [Bool.eq_iff_iff]; simp
      rw [e2]
      cases (ftext (fl e.Low)).2 <;> cases (ftext (fl e.High)).2 <;> cases decide (e.Ranges.length = 0) <;> rfl
    · rw [show (e.Field == 6) = false by simpa using h6, if_neg h6]
      simp only [cond_false]
      by_cases hf1 : e.Field < 1
      · rw [decide_eq_true hf1, decide_eq_false (show ¬ 1 ≤ e.Field by omega)]; rfl
      · rw [decide_eq_false hf1, decide_eq_true (show 1 ≤ e.Field by omega)]
        by_cases hf5 : 5 < e.Field
        · rw [decide_eq_true hf5, decide_eq_false (show ¬ e.Field ≤ 6 by omega)]; rfl
        · rw [decide_eq_false hf5, decide_eq_true (show e.Field ≤ 6 by omega)]
          simp only [cond_false, Bool.true_and]
          by_cases hr : e.Ranges.length = 0
          · rw [show ((e.Ranges.length : Int) == 0) = true by simp [hr], decide_eq_false (show ¬ 0 < e.Ranges.length by omega)]; rfl
          · rw [show ((e.Ranges.length : Int) == 0) = false by simp; simpa using hr, decide_eq_true (show 0 < e.Ranges.length by omega)]
            simp only [cond_false, Bool.true_and]
            rw [loop_all (F := fun m i => tree_atom_L0 k e _ m i) (n := e.Ranges.length) (p := atB e.Ranges (fun r => numB r.Low && numB r.High)) (K := some (zeroB' e.Low && zeroB' e.High)) ?_ ?_ (by omega)]
            · rw [all_ix e.Ranges (fun r => numB r.Low && numB r.High)]
              cases e.Ranges.all (fun r => numB r.Low && numB r.High) <;> simp
            · intro m i hi
              rw [tree_atom_L0, lt_dec hi]
              simp only [cond_true]
              rw [bnd_of (idx_of (List.getElem?_eq_getElem hi)), bnd_of (fine_eq (by simp) (by simp; omega)), suc_w hi (by omega), atB_at hi]
              simp only [List.all_cons, List.all_nil, Bool.and_true]
              cases numB e.Ranges[i].Low && numB e.Ranges[i].High <;> rfl
            · intro m
              rw [tree_atom_L0, ge_dec]
              simp only [cond_false]
              rw [bnd_of (zero_eq h3)]
              cases zeroB' e.Low with
              | false => rfl
              | true =>
                simp only [cond_true, Bool.true_and]
                rw [bnd_of (zero_eq h4)]
  · rw [decide_eq_true (show (0 : Int) < e.Of.length by omega), decide_eq_false hO]; rfl
theorem ref_atom_eq {n k : Nat} {e : GExpr} (hk : 30 ≤ k) (h : good (n + 1) e) : ref11_atom k e = some (atomB e) := by
  obtain ⟨h1, h2, h3, h4, _⟩ := h
  unfold ref11_atom atomB
  by_cases hO : e.Of.length = 0
  · rw [decide_eq_false (show ¬ (0 : Int) < e.Of.length by omega), decide_eq_true hO]
    simp only [cond_false, Bool.true_and]
    by_cases hf1 : e.Field < 1
    · rw [decide_eq_true hf1, decide_eq_false (show ¬ 1 ≤ e.Field by omega)]; rfl
    · rw [decide_eq_false hf1, decide_eq_true (show 1 ≤ e.Field by omega)]
      by_cases hf6 : 6 < e.Field
      · rw [decide_eq_true hf6, decide_eq_false (show ¬ e.Field ≤ 6 by omega)]; rfl
      · rw [decide_eq_false hf6, decide_eq_true (show e.Field ≤ 6 by omega)]
        simp only [cond_false, Bool.true_and]
        by_cases h6 : e.Field = 6
        · rw [h6]
          simp only [beq_self_eq_true, cond_true, if_true]
          unfold ref11_bound
          rw [bnd_of (dtext_eq (by omega) h3)]
          have e2 : ((e.Ranges.length : Int) == 0) = decide (e.Ranges.length = 0) := by rw [Bool.eq_iff_iff]; simp
          rw [e2]
          cases decide (e.Ranges.length = 0) with
          | false => rfl
          | true =>
            simp only [cond_true, Bool.true_and, bnd, Option.bind_some]
            cases (ftext (fl e.Low)).2 with
            | false => rfl
            | true =>
              simp only [cond_true, Bool.true_and, dtext_eq (k := k) (by omega) h4, Option.bind_some]
        · rw [show (e.Field == 6) = false by simpa using h6, if_neg h6]
          simp only [cond_false]
          rw [loop_all (F := fun m i => ref11_atom_L0 k e _ m i) (n := e.Ranges.length) (p := atB e.Ranges (fun r => numB r.Low && numB r.High)) (K := some (decide (0 < e.Ranges.length) && (zeroB' e.Low && zeroB' e.High))) ?_ ?_ (by omega)]
          · rw [all_ix e.Ranges (fun r => numB r.Low && numB r.High)]
            cases e.Ranges.all (fun r => numB r.Low && numB r.High) <;> cases decide (0 < e.Ranges.length) <;> simp
          · intro m i hi
            rw [ref11_atom_L0, lt_dec hi]
            simp only [cond_true]
            rw [bnd_of (idx_of (List.getElem?_eq_getElem hi)), bnd_of (num_eq _ _), suc_w hi (by omega)]
            rw [bnd_of (idx_of (List.getElem?_eq_getElem hi)), bnd_of (num_eq _ _), atB_at hi]
            cases numB e.Ranges[i].Low <;> cases numB e.Ranges[i].High <;> rfl
          · intro m
            rw [ref11_atom_L0, ge_dec]
            simp only [cond_false]
            rw [show decide ((0 : Int) < (e.Ranges.length : Int)) = decide (0 < e.Ranges.length) from decide_eq_decide.2 (by omega)]
            cases decide (0 < e.Ranges.length) with
            | false => rfl
            | true =>
              simp only [cond_true, Bool.true_and]
              rw [bnd_of (plain_eq h3)]
              cases zeroB' e.Low with
              | false => rfl
              | true =>
                simp only [cond_true, Bool.true_and]
                rw [bnd_of (plain_eq h4)]
  · rw [decide_eq_true (show (0 : Int) < e.Of.length by omega), decide_eq_false hO]; rfl
end Go.Proofs.YtdkiijhmmmfciaaDoor
