/- Texts of expressions: the program's way and the document's. -/
import Derived.Test.YtdkiijhmmmfciaaDoorFD
set_option linter.unusedVariables false
set_option linter.unusedSimpArgs false
namespace Go.Proofs.YtdkiijhmmmfciaaDoor
open Go

theorem app_assoc (a b c : ByteArray) : a ++ b ++ c = a ++ (b ++ c) := by
  apply ByteArray.ext; simp only [ByteArray.data_append, Array.append_assoc]
theorem app_nil (a : ByteArray) : a ++ (⟨#[]⟩ : ByteArray) = a := by
  apply ByteArray.ext; rw [ByteArray.data_append]; simp
theorem sz_app (a b : ByteArray) : (a ++ b).size = a.size + b.size := ByteArray.size_append
theorem itoaB_pos (n : Int) : 1 ≤ (itoaB n).size := by
  show 1 ≤ (itoaB n).data.size
  unfold itoaB
  split
  · simp
  · have := digs_ne 19 n.toNat
    simpa using this
theorem wstr_eq {w s : ByteArray} (h1 : s.size ≠ 0) (h2 : w.size + s.size ≤ 140737488355328) : wstr w s = some (w ++ s) := by
  unfold wstr; rw [if_pos ⟨h1, h2⟩]
theorem number_eq {k : Nat} {w : ByteArray} {n : Int} (hn : numB n = true) (h : w.size ≤ 1099511627776) : tree_writer_number k w n = some (w ++ itoaB n) := by
  unfold numB at hn
  rw [Bool.and_eq_true, decide_eq_true_eq, decide_eq_true_eq] at hn
  have h1 := itoaB_pos n
  have h2 := itoaB_size n
  unfold tree_writer_number
  rw [bnd_of (guard_Put_eq k hn.1 hn.2)]
  simp only
  rw [bnd_of (wstr_eq (by omega) (by omega))]
theorem digits_eq {k : Nat} {n : Int} (hn : numB n = true) (hk : 20 ≤ k) : ref11_digits k n = some (itoaB n) := by
  unfold numB at hn
  rw [Bool.and_eq_true, decide_eq_true_eq, decide_eq_true_eq] at hn
  unfold ref11_digits
  rw [bnd_of (ref02_Put_eq hn.1 hn.2 hk)]

/-! ### Loops that build a text -/
def join (p : Nat → ByteArray) : Nat → Nat → ByteArray
  | _, 0 => ⟨#[]⟩
  | i, j + 1 => p i ++ join p (i + 1) j
theorem loop_acc {β : Type} {F : Nat → Int → ByteArray → Option β} {n S M : Nat} {p : Nat → ByteArray} {ok : Nat → Bool} {K : ByteArray → Option β} {Z : Option β}
    (h1 : ∀ m i acc, i < n → acc.size ≤ M → F (m + 1) (i : Int) acc = cond (ok i) (F m ((i + 1 : Nat) : Int) (acc ++ p i)) Z) (h2 : ∀ m acc, F (m + 1) (n : Int) acc = K acc) (hS : ∀ i, i < n → (p i).size ≤ S) :
    ∀ (j i m : Nat) (acc : ByteArray), i + j = n → j < m → acc.size + j * S ≤ M → F m (i : Int) acc = cond ((List.range' i j).all ok) (K (acc ++ join p i j)) Z
  | 0, i, m, acc, hij, hm, hsz => by
    obtain ⟨m, rfl⟩ : ∃ q, m = q + 1 := ⟨m - 1, by omega⟩
    obtain rfl : i = n := by omega
    rw [h2, join, app_nil]; rfl
  | j + 1, i, m, acc, hij, hm, hsz => by
    obtain ⟨m, rfl⟩ : ∃ q, m = q + 1 := ⟨m - 1, by omega⟩
    have hp := hS i (by omega)
    rw [Nat.succ_mul] at hsz
    rw [h1 m i acc (by omega) (by omega), loop_acc h1 h2 hS j (i + 1) m (acc ++ p i) (by omega) (by omega) (by rw [sz_app]; omega), List.range'_succ, List.all_cons, join, app_assoc]
    cases ok i <;> rfl
theorem join_size {p : Nat → ByteArray} {n S : Nat} (hS : ∀ i, i < n → (p i).size ≤ S) : ∀ (j i : Nat), i + j = n → (join p i j).size ≤ j * S
  | 0, i, _ => by rw [join]; exact Nat.le_of_eq (by simp; rfl)
  | j + 1, i, h => by
    have := hS i (by omega)
    have := join_size hS j (i + 1) (by omega)
    rw [join, sz_app, Nat.succ_mul]; omega

/-! ### An atom's text -/
def rtx (r : GRange) : ByteArray := itoaB r.Low ++ (if r.High = r.Low then ⟨#[]⟩ else ⟨#[45]⟩ ++ itoaB r.High)
def rpc (l : List GRange) (i : Nat) : ByteArray := ((l[i]?).map fun r => (if 0 < i then (⟨#[44]⟩ : ByteArray) else ⟨#[]⟩) ++ rtx r).getD ⟨#[]⟩
theorem rtx_size (r : GRange) : (rtx r).size ≤ 43 := by
  have h1 := itoaB_size r.Low
  have h2 := itoaB_size r.High
  unfold rtx
  rw [sz_app]
  split
  · show _ + 0 ≤ _; omega
  · rw [sz_app]; show _ + (1 + _) ≤ _; omega
theorem rpc_at {l : List GRange} {i : Nat} (h : i < l.length) : rpc l i = (if 0 < i then (⟨#[44]⟩ : ByteArray) else ⟨#[]⟩) ++ rtx l[i] := by
  unfold rpc; rw [List.getElem?_eq_getElem h]; rfl
theorem rpc_size {l : List GRange} {i : Nat} (h : i < l.length) : (rpc l i).size ≤ 44 := by
  rw [rpc_at h, sz_app]
  have := rtx_size l[i]
  split
  · show 1 + _ ≤ _; omega
  · show 0 + _ ≤ _; omega
def rngT (l : List GRange) : ByteArray := join (rpc l) 0 l.length
def nums (l : List GRange) : Bool := l.all fun r => numB r.Low && numB r.High
theorem rng_prog {k : Nat} {e : GExpr} {w : ByteArray} (hl : e.Ranges.length ≤ 8) (hn : nums e.Ranges = true) (hk : 20 ≤ k) (hw : w.size ≤ 1000000000000) :
    tree_writer_atom_L0 k e (fun x34 x35 => some x35) k 0 w = some (w ++ rngT e.Ranges) := by
  have hn' : ∀ i (h : i < e.Ranges.length), numB e.Ranges[i].Low = true ∧ numB e.Ranges[i].High = true := fun i h => by
    have := List.all_eq_true.1 hn _ (List.getElem_mem h)
    simpa using this
  have h := loop_acc (F := fun m i acc => tree_writer_atom_L0 k e (fun x34 x35 => some x35) m i acc) (n := e.Ranges.length) (S := 44) (M := 1000000001000) (p := rpc e.Ranges) (ok := fun _ => true) (K := fun x => some x) (Z := none) (fun m i acc hi hacc => by
    obtain ⟨n1, n2⟩ := hn' i hi
    have s1 := itoaB_size e.Ranges[i].Low
    have s2 := itoaB_size e.Ranges[i].High
    have c1 : (⟨#[44]⟩ : ByteArray).size = 1 := rfl
    have c2 : (⟨#[45]⟩ : ByteArray).size = 1 := rfl
    rw [tree_writer_atom_L0, lt_dec hi]
    simp only [cond_true]
    rw [bnd_of (idx_of (List.getElem?_eq_getElem hi)), rpc_at hi, suc_w hi (by omega)]
    have ne : (e.Ranges[i].High != e.Ranges[i].Low) = !decide (e.Ranges[i].High = e.Ranges[i].Low) := by rw [Bool.eq_iff_iff]; simp
    rw [ne]
    unfold rtx
    by_cases h0 : 0 < i
    · rw [decide_eq_true (show (0 : Int) < i by omega), if_pos h0]
      simp only [cond_true]
      rw [bnd_of (wstr_eq (by omega) (by omega)), bnd_of (number_eq n1 (by rw [sz_app]; omega))]
      by_cases hq : e.Ranges[i].High = e.Ranges[i].Low
      · rw [decide_eq_true hq, if_pos hq, app_nil]
        simp only [Bool.not_true, cond_false, app_assoc]
      · rw [decide_eq_false hq, if_neg hq]
        simp only [Bool.not_false, cond_true]
        rw [bnd_of (wstr_eq (by omega) (by rw [sz_app, sz_app]; omega)), bnd_of (number_eq n2 (by rw [sz_app, sz_app, sz_app]; omega))]
        simp only [app_assoc]
    · rw [decide_eq_false (show ¬ (0 : Int) < i by omega), if_neg h0]
      simp only [cond_false]
      rw [bnd_of (number_eq n1 (by omega)), nil_append]
      by_cases hq : e.Ranges[i].High = e.Ranges[i].Low
      · rw [decide_eq_true hq, if_pos hq, app_nil]
        simp only [Bool.not_true, cond_false]
      · rw [decide_eq_false hq, if_neg hq]
        simp only [Bool.not_false, cond_true]
        rw [bnd_of (wstr_eq (by omega) (by rw [sz_app]; omega)), bnd_of (number_eq n2 (by rw [sz_app, sz_app]; omega))]
        simp only [app_assoc]) (fun m acc => by rw [tree_writer_atom_L0, ge_dec]; rfl) (fun i hi => rpc_size hi) e.Ranges.length 0 k w (by omega) (by omega) (by omega)
  have hall : (List.range' 0 e.Ranges.length).all (fun _ => true) = true := by simp
  rw [hall] at h
  exact h
theorem rng_doc {k : Nat} {l : List GRange} (hl : l.length ≤ 8) (hn : nums l = true) (hk : 20 ≤ k) : ref11_ranges k l = some (rngT l) := by
  have hn' : ∀ i (h : i < l.length), numB l[i].Low = true ∧ numB l[i].High = true := fun i h => by
    have := List.all_eq_true.1 hn _ (List.getElem_mem h)
    simpa using this
  have h := loop_acc (F := fun m i acc => ref11_ranges_L0 k l (fun x27 x28 => some x27) m acc i) (n := l.length) (S := 44) (M := 1000) (p := rpc l) (ok := fun _ => true) (K := fun x => some x) (Z := none) (fun m i acc hi hacc => by
    obtain ⟨n1, n2⟩ := hn' i hi
    have s1 := itoaB_size l[i].Low
    have s2 := itoaB_size l[i].High
    have c1 : (⟨#[44]⟩ : ByteArray).size = 1 := rfl
    have c2 : (⟨#[45]⟩ : ByteArray).size = 1 := rfl
    have ix := idx_of (List.getElem?_eq_getElem hi)
    rw [ref11_ranges_L0, lt_dec hi]
    simp only [cond_true]
    rw [rpc_at hi, suc_w hi (by omega)]
    have ne : (l[i].High != l[i].Low) = !decide (l[i].High = l[i].Low) := by rw [Bool.eq_iff_iff]; simp
    unfold rtx
    by_cases h0 : 0 < i
    · rw [decide_eq_true (show (0 : Int) < i by omega), if_pos h0]
      simp only [cond_true]
      rw [chk_true (by omega), bnd_of ix, bnd_of (digits_eq n1 hk), chk_true (by rw [sz_app]; omega), bnd_of ix, bnd_of ix, ne]
      by_cases hq : l[i].High = l[i].Low
      · rw [decide_eq_true hq, if_pos hq, app_nil]
        simp only [Bool.not_true, cond_false, app_assoc]
      · rw [decide_eq_false hq, if_neg hq]
        simp only [Bool.not_false, cond_true]
        rw [chk_true (by rw [sz_app, sz_app]; omega), bnd_of ix, bnd_of (digits_eq n2 hk), chk_true (by rw [sz_app, sz_app, sz_app]; omega)]
        simp only [app_assoc]
    · rw [decide_eq_false (show ¬ (0 : Int) < i by omega), if_neg h0]
      simp only [cond_false]
      rw [bnd_of ix, bnd_of (digits_eq n1 hk), chk_true (by omega), bnd_of ix, bnd_of ix, ne, nil_append]
      by_cases hq : l[i].High = l[i].Low
      · rw [decide_eq_true hq, if_pos hq, app_nil]
        simp only [Bool.not_true, cond_false]
      · rw [decide_eq_false hq, if_neg hq]
        simp only [Bool.not_false, cond_true]
        rw [chk_true (by rw [sz_app]; omega), bnd_of ix, bnd_of (digits_eq n2 hk), chk_true (by rw [sz_app, sz_app]; omega)]
        simp only [app_assoc]) (fun m acc => by rw [ref11_ranges_L0, ge_dec]; rfl) (fun i hi => rpc_size hi) l.length 0 k ⟨#[]⟩ (by omega) (by omega) (by show 0 + _ ≤ _; omega)
  have hall : (List.range' 0 l.length).all (fun _ => true) = true := by simp
  rw [hall] at h
  unfold ref11_ranges
  refine Eq.trans h ?_
  simp only [cond_true, nil_append]
  rfl
theorem rngT_size {l : List GRange} (hl : l.length ≤ 8) : (rngT l).size ≤ 352 := by
  have := join_size (p := rpc l) (n := l.length) (S := 44) (fun i hi => rpc_size hi) l.length 0 (by omega)
  unfold rngT
  omega

def fieldT (f : Int) : ByteArray := if f = 1 then ⟨#[99, 108, 105, 101, 110, 116, 32]⟩ else if f = 2 then ⟨#[117, 110, 105, 116, 32]⟩ else if f = 3 then ⟨#[102, 117, 110, 99, 32]⟩ else if f = 4 then ⟨#[97, 100, 100, 114, 32]⟩ else ⟨#[118, 97, 108, 117, 101, 32]⟩
def atomT (e : GExpr) : ByteArray := if e.Field = 6 then ⟨#[114, 101, 97, 108, 32]⟩ ++ (ftext (fl e.Low)).1 ++ ⟨#[32, 116, 111, 32]⟩ ++ (ftext (fl e.High)).1 else fieldT e.Field ++ rngT e.Ranges
theorem ftext_size (a : Nat) : (ftext a).1.size ≤ 22 := by
  have c0 : (⟨#[]⟩ : ByteArray).size = 0 := rfl
  have c1 : (⟨#[45]⟩ : ByteArray).size = 1 := rfl
  have c2 : (⟨#[105, 110, 102]⟩ : ByteArray).size = 3 := rfl
  unfold ftext
  split
  · show (⟨#[]⟩ : ByteArray).size ≤ 22; omega
  · split
    · show ((if sgn a then (⟨#[45]⟩ : ByteArray) else ⟨#[]⟩) ++ ⟨#[105, 110, 102]⟩).size ≤ 22
      rw [sz_app]
      split <;> omega
    · split
      · show (⟨#[]⟩ : ByteArray).size ≤ 22; omega
      · split
        · rename_i n _
          split
          · show (⟨#[]⟩ : ByteArray).size ≤ 22; omega
          · show ((if sgn a then (⟨#[45]⟩ : ByteArray) else ⟨#[]⟩) ++ itoaB n).size ≤ 22
            have := itoaB_size n
            rw [sz_app]
            split <;> omega
        · show (⟨#[]⟩ : ByteArray).size ≤ 22; omega
theorem atomT_size {e : GExpr} (hl : e.Ranges.length ≤ 8) : (atomT e).size ≤ 360 ∧ 1 ≤ (atomT e).size := by
  have h1 := ftext_size (fl e.Low)
  have h2 := ftext_size (fl e.High)
  have h3 := rngT_size hl
  unfold atomT
  split
  · rw [sz_app, sz_app, sz_app]
    have c1 : (⟨#[114, 101, 97, 108, 32]⟩ : ByteArray).size = 5 := rfl
    have c2 : (⟨#[32, 116, 111, 32]⟩ : ByteArray).size = 4 := rfl
    omega
  · rw [sz_app]
    have : (fieldT e.Field).size ≤ 7 ∧ 1 ≤ (fieldT e.Field).size := by
      unfold fieldT
      repeat' split
      all_goals decide
    omega
theorem atom_fields {e : GExpr} (h : atomB e = true) : 1 ≤ e.Field ∧ e.Field ≤ 6 ∧ (e.Field ≠ 6 → nums e.Ranges = true) := by
  unfold atomB at h
  simp only [Bool.and_eq_true, decide_eq_true_eq] at h
  refine ⟨h.1.1.2, h.1.2, fun h6 => ?_⟩
  have h2 := h.2
  rw [if_neg h6] at h2
  simp only [Bool.and_eq_true] at h2
  exact h2.1.1.2
theorem field_cases {f : Int} (h1 : 1 ≤ f) (h2 : f ≤ 6) (h6 : f ≠ 6) : f = 1 ∨ f = 2 ∨ f = 3 ∨ f = 4 ∨ f = 5 := by omega
theorem atom_prog {n k : Nat} {e : GExpr} {w : ByteArray} (hg : good (n + 1) e) (ha : atomB e = true) (hk : 30 ≤ k) (hw : w.size ≤ 100000000000) : tree_writer_atom k w e = some (w ++ atomT e) := by
  obtain ⟨g1, g2, g3, g4, _⟩ := hg
  obtain ⟨f1, f2, f3⟩ := atom_fields ha
  unfold tree_writer_atom atomT
  by_cases h6 : e.Field = 6
  · have s1 := ftext_size (fl e.Low)
    have s2 := ftext_size (fl e.High)
    have c1 : (⟨#[114, 101, 97, 108, 32]⟩ : ByteArray).size = 5 := rfl
    have c2 : (⟨#[32, 116, 111, 32]⟩ : ByteArray).size = 4 := rfl
    rw [h6, if_pos rfl]
    simp only [beq_self_eq_true, cond_true]
    rw [bnd_of (rtext_eq g3), bnd_of (rtext_eq g4), chk_true (by omega), chk_true (by rw [sz_app]; omega), chk_true (by rw [sz_app, sz_app]; omega), bnd_of (wstr_eq (by rw [sz_app, sz_app, sz_app]; omega) (by rw [sz_app, sz_app, sz_app]; omega))]
  · rw [if_neg h6, show (e.Field == 6) = false by simpa using h6]
    simp only [cond_false]
    have hidx : idx ([(⟨#[]⟩ : ByteArray), (⟨#[99, 108, 105, 101, 110, 116, 32]⟩ : ByteArray), (⟨#[117, 110, 105, 116, 32]⟩ : ByteArray), (⟨#[102, 117, 110, 99, 32]⟩ : ByteArray), (⟨#[97, 100, 100, 114, 32]⟩ : ByteArray), (⟨#[118, 97, 108, 117, 101, 32]⟩ : ByteArray)] : List ByteArray) e.Field = some (fieldT e.Field) := by
      rcases field_cases f1 f2 h6 with h | h | h | h | h <;> rw [h] <;> rfl
    have hs : (fieldT e.Field).size ≤ 7 ∧ 1 ≤ (fieldT e.Field).size := by
      unfold fieldT
      repeat' split
      all_goals decide
    rw [bnd_of hidx, bnd_of (wstr_eq (by omega) (by omega)), rng_prog g2 (f3 h6) (by omega) (by rw [sz_app]; omega), app_assoc]
end Go.Proofs.YtdkiijhmmmfciaaDoor
