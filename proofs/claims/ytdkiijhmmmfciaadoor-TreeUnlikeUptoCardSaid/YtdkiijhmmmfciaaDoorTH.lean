/- Operations over tree values: literals, append, calls. -/
import Derived.Test.YtdkiijhmmmfciaaDoorTG
set_option linter.unusedVariables false
set_option linter.unusedSimpArgs false
namespace Go.Proofs.YtdkiijhmmmfciaaDoor
open Go

section
variable {P : Program} {o : Oper} {τ : Operand → TV} {s : Res} {n : Nat} {E : Env} {Q : AQ}

/-! ### Slice literals -/
theorem VLs_cells {C : Claims} {w : World} {a : Act} {k : Nat} : ∀ (xs : List Operand), (∀ x ∈ xs, V C w (τ x) (a.eval x)) → (∀ x ∈ xs, (τ x).known = true ∧ (∀ vs, τ x ≠ .tuple vs) ∧ (τ x).cells.length = k) → ∀ u ∈ xs.map a.eval, u.cells.size = k := by
  intro xs hx hk u hu
  obtain ⟨x, hm, rfl⟩ := List.mem_map.1 hu
  obtain ⟨h1, h2, h3⟩ := hk x hm
  have := VL_length (V_cells h1 h2 (hx x hm))
  rw [← h3, ← this]; simp
theorem foldl_set (cs new : List Value) : ∀ (off : Nat) (acc : Array Value), off + new.length ≤ acc.size → (new.zipIdx.foldl (fun (cs : Array Value) (p : Value × Nat) => cs.setIfInBounds (off + p.2) p.1) acc) = (splice acc.toList off new).toArray := by
  intro off acc h
  have key : ∀ (new : List Value) (k : Nat) (acc : Array Value), off + k + new.length ≤ acc.size → ((new.zipIdx k).foldl (fun (cs : Array Value) (p : Value × Nat) => cs.setIfInBounds (off + p.2) p.1) acc) = (splice acc.toList (off + k) new).toArray := by
    intro new
    induction new with
    | nil => intro k acc h; simp [splice]
    | cons v new ih =>
      intro k acc h
      simp only [List.length_cons] at h
      rw [List.zipIdx_cons, List.foldl_cons, ih (k + 1) _ (by simp; omega)]
      congr 1
      apply List.ext_getElem?
      intro i
      simp only [splice, Array.toList_setIfInBounds, List.length_cons]
      simp only [List.getElem?_append, List.length_append, List.length_take, List.length_set, Array.length_toList, List.getElem?_take, List.getElem?_drop, List.getElem?_set, List.getElem?_cons]
      have e1 : min (off + (k + 1)) acc.size = off + k + 1 := by omega
      have e2 : min (off + k) acc.size = off + k := by omega
      simp only [e1, e2]
      by_cases h1 : i < off + k
      · simp [h1, show i < off + k + 1 from by omega, show i < off + k + 1 + new.length from by omega, show i < off + k + (new.length + 1) from by omega, show i < off + (k + 1) from by omega, show ¬ off + k = i from by omega]
      · by_cases h2 : i = off + k
        · subst h2
          simp [show off + k < off + (k + 1) from by omega, show off + k < acc.size from by omega, show off + k < off + k + 1 + new.length from by omega]
        · by_cases h3 : i < off + k + (new.length + 1)
          · simp [h1, h3, show ¬ i < off + k + 1 from by omega, show i < off + k + 1 + new.length from by omega, show ¬ i - (off + k) = 0 from by omega]
            congr 1
          · have e3 : off + (k + 1) + new.length + (i - (off + k + 1 + new.length)) = i := by omega
            have e4 : off + k + (new.length + 1) + (i - (off + k + (new.length + 1))) = i := by omega
            simp [h1, h3, show ¬ i < off + k + 1 + new.length from by omega, e3, e4, show ¬ off + k = i from by omega]
  simpa using key new 0 acc (by simpa using h)
theorem fill_all {k : Nat} : ∀ (vs : List Value) (j : Nat) (acc : Array Value), (∀ v ∈ vs, v.cells.size = k) → acc.size = (j + vs.length) * k →
    Instr.fill (fun i => some (i * k, k)) acc ((vs.zipIdx j).map fun p => (p.2, p.1)) = some (acc.toList.take (j * k) ++ flat vs).toArray
  | [], j, acc, _, h => by
    simp only [List.length_nil, Nat.add_zero] at h
    have : acc.toList.take acc.size = acc.toList := by rw [← Array.length_toList, List.take_length]
    simp [Instr.fill, flat, ← h, this]
  | v :: vs, j, acc, hv, h => by
    have hvk := hv v (by simp)
    have hfit : j * k + v.cells.size ≤ acc.size := by
      have h2 := Nat.mul_le_mul_right k (show j + 1 ≤ j + (v :: vs).length from by simp)
      rw [Nat.succ_mul] at h2; rw [hvk, h]; omega
    simp only [List.zipIdx_cons, List.map_cons, Instr.fill]
    rw [if_neg (by simp only [Bool.or_eq_true, decide_eq_true_eq]; rintro (h1 | h1); exact h1 hvk; exact Nat.not_lt.2 hfit h1)]
    have hfold : (v.cells.zipIdx.foldl (fun cs (x : Value × Nat) => cs.setIfInBounds (j * k + x.2) x.1) acc) = (splice acc.toList (j * k) v.cells.toList).toArray := by
      rw [← Array.foldl_toList, Array.toList_zipIdx]
      exact foldl_set [] v.cells.toList (j * k) acc (by simpa using hfit)
    rw [hfold, fill_all vs (j + 1) _ (fun u hu => hv u (by simp [hu])) (by rw [List.size_toArray, splice_length (by simpa using hfit), Array.length_toList, h, List.length_cons]; congr 1; omega)]
    congr 1
    simp only [flat, List.flatMap_cons]
    have e : (j + 1) * k = (acc.toList.take (j * k) ++ v.cells.toList).length + 0 := by
      simp [hvk, Nat.succ_mul]; omega
    have e2 : splice acc.toList (j * k) v.cells.toList = (acc.toList.take (j * k) ++ v.cells.toList) ++ acc.toList.drop (j * k + v.cells.toList.length) := by simp [splice]
    rw [e, e2, take_add]
    simp

/-- All parts of a literal, in order. -/
def inOrder : Nat → List (Nat × Operand) → Bool
  | _, [] => true
  | j, (i, _) :: l => i == j && inOrder (j + 1) l
theorem inOrder_eq : ∀ (l : List (Nat × Operand)) (j : Nat), inOrder j l = true → l = ((l.map Prod.snd).zipIdx j).map fun p => (p.2, p.1)
  | [], _, _ => rfl
  | (i, x) :: l, j, h => by
    simp only [inOrder, Bool.and_eq_true, beq_iff_eq] at h
    obtain ⟨rfl, h⟩ := h
    simp only [List.map_cons, List.zipIdx_cons]
    rw [← inOrder_eq l _ h]

theorem p_buildSlice {T len : Nat} {parts : Array (Nat × Operand)} {k : Nat} (hT : slB P T k = true) (ho : o.op = .buildSlice T len parts) (hlen : parts.size = len) (hord : inOrder 0 parts.toList = true)
    (hz : ∃ e z, P.underlying T = some (.slice e) ∧ zeroB P e z ∧ z.cells.size = k) (hbig : len * k ≤ 16777216) (hk0 : 0 < k) (hk : ∀ x ∈ parts.toList.map Prod.snd, (τ x).known = true ∧ (∀ vs, τ x ≠ .tuple vs) ∧ (τ x).cells.length = k) :
    PureS P o τ s (.slice .full k ((parts.toList.map Prod.snd).map τ)) := PureS.of fun C w a hs hx => by
  obtain ⟨e, hTe, hsz⟩ := slB_at hT
  obtain ⟨e', z, hTe', hzz, hzk⟩ := hz
  obtain rfl : e = e' := by rw [hTe] at hTe'; injection hTe' with h; injection h
  rw [ho] at hx
  have hxs : ∀ x ∈ parts.toList.map Prod.snd, V C w (τ x) (a.eval x) := fun x hm => hx x (by simp only [Op.operands]; simpa using hm)
  have hvs := VLs_cells (a := a) (k := k) _ hxs hk
  have hV := VL_map (τ := τ) (a := a) _ hxs
  generalize hops : parts.toList.map Prod.snd = xs at *
  have hxl : xs.length = len := by rw [← hops, List.length_map, Array.length_toList, hlen]
  have hparts : parts.toList.map (fun (p : Nat × Operand) => (p.1, a.eval p.2)) = ((xs.map a.eval).zipIdx 0).map fun p => (p.2, p.1) := by
    rw [inOrder_eq _ 0 hord, hops]
    simp [List.map_map, List.zipIdx_map]
  have hp := Pushed.alloc w (.cells (flat (xs.map a.eval)).toArray e)
  have hfl : (flat (xs.map a.eval)).length = len * k := by
    have : ∀ (l : List Value), (∀ u ∈ l, u.cells.size = k) → (flat l).length = l.length * k := by
      intro l
      induction l with
      | nil => simp [flat]
      | cons v l ih =>
        intro h
        have h1 := h v (by simp)
        have h2 := ih fun u hu => h u (by simp [hu])
        simp only [flat] at h2
        simp only [flat, List.flatMap_cons, List.length_append, h2, List.length_cons, Nat.succ_mul, Array.length_toList, h1]
        omega
    rw [this _ hvs, List.length_map, hxl]
  refine ⟨.slice (some ⟨w.heap.size, 0, none⟩) len len, newC C w.heap.size (len * k), _, ?_, ?_, hp.sim hs, hp.ev _ hs.ok⟩
  · by_cases h0 : len = 0
    · have hx0 : xs = [] := List.eq_nil_of_length_eq_zero (by omega)
      have hp0 : parts = #[] := Array.size_eq_zero_iff.1 (by omega)
      subst hp0
      simp [execOp, ho, Instr.buildSlice, run_underlying hTe, hsz, h0, hx0, newRow, flat, Instr.fill, show Array.range 0 = #[] from rfl]
    · have h0' : ¬ len * k = 0 := by
        have := Nat.mul_pos (show 0 < len from by omega) hk0
        omega
      have hfill := fill_all (k := k) (xs.map a.eval) 0 ((Array.range (len * k)).map (z.cells[· % z.cells.size]!)) hvs (by simp [hxl])
      simp only [Nat.zero_mul, List.take_zero, List.nil_append] at hfill
      simp [execOp, ho, Instr.buildSlice, run_underlying hTe, hsz, h0, show ¬ k = 0 from by omega, show ¬ 16777216 < len * k from by omega, zeroB_run hzz, h0', hparts, hfill, newRow]
  · rw [V]
    have hk1 := (hp.ev (m := len * k) (fun _ => False) hs.ok).keep
    refine ⟨_, _, xs.map a.eval, by rw [List.length_map, hxl], by rw [List.length_map, hxl]; exact Nat.le_refl _, ?_, VL_keep hk1 _ _ hV, hvs, by rw [List.length_map, hxl]; exact rfl, fun hpos => ⟨_, rfl, hp.mem (by simp; rw [List.take_of_length_le (by omega)]) hfl⟩⟩
    rw [List.length_map, hxl]
    have := Nat.le_mul_of_pos_right len hk0; omega
end
end Go.Proofs.YtdkiijhmmmfciaaDoor
