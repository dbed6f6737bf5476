/- Operations over tree values: memory. -/
import Derived.Test.YtdkiijhmmmfciaaDoorTE
set_option linter.unusedVariables false
set_option linter.unusedSimpArgs false
namespace Go.Proofs.YtdkiijhmmmfciaaDoor
open Go

def TV.cells : TV → List TV
  | .agg cs => cs
  | t => [t]
def TV.known : TV → Bool
  | .any => false
  | _ => true
/-- One cell's worth: no struct, no tuple. -/
def TV.one : TV → Bool
  | .any => false
  | .agg _ => false
  | .tuple _ => false
  | _ => true

theorem V_one {C : Claims} {w : World} {t : TV} {v : Value} (h : t.one = true) (hv : V C w t v) : v.cells = #[v] ∧ v.oneCell' = true := by
  cases t <;> simp [TV.one] at h <;> rw [V] at hv
  case bool => subst hv; exact ⟨rfl, rfl⟩
  case mslice => rw [hv.1]; exact ⟨rfl, rfl⟩
  case nils => subst hv; exact ⟨rfl, rfl⟩
  case int => rw [hv.1]; exact ⟨rfl, rfl⟩
  case float => rw [hv.1]; exact ⟨rfl, rfl⟩
  case nan => obtain ⟨b, rfl, _⟩ := hv; exact ⟨rfl, rfl⟩
  case str => rw [hv.1]; exact ⟨rfl, rfl⟩
  case nilp => subst hv; exact ⟨rfl, rfl⟩
  case ptr => subst hv; exact ⟨rfl, rfl⟩
  case rptr => obtain ⟨a, vs, rfl, _⟩ := hv; exact ⟨rfl, rfl⟩
  case slice => obtain ⟨A, c, us, rfl, _⟩ := hv; exact ⟨rfl, rfl⟩
  case func => obtain ⟨fs, cs, rfl, _⟩ := hv; exact ⟨rfl, rfl⟩
  case nilf => subst hv; exact ⟨rfl, rfl⟩
  case iface => obtain ⟨u, rfl, _⟩ := hv; exact ⟨rfl, rfl⟩
  case nili => subst hv; exact ⟨rfl, rfl⟩
  case mapr => subst hv; exact ⟨rfl, rfl⟩
theorem V_cells {C : Claims} {w : World} {t : TV} {v : Value} (h : t.known = true) (ht : ∀ vs, t ≠ .tuple vs) (hv : V C w t v) : VL C w t.cells v.cells.toList := by
  by_cases h1 : t.one = true
  · have hc := (V_one h1 hv).1
    have : t.cells = [t] := by cases t <;> simp [TV.one] at h1 <;> rfl
    rw [this, hc, VL]
    exact ⟨v, [], rfl, hv, by rw [VL]⟩
  · cases t <;> simp [TV.one] at h1
    case any => cases h
    case agg cs =>
      rw [V] at hv
      obtain ⟨vs, rfl, hV⟩ := hv
      exact hV
    case tuple vs => exact absurd rfl (ht vs)

theorem Addr.add_add' (a : Addr) (m j : Nat) : (a.add m).add j = a.add (m + j) := by
  unfold Addr.add
  by_cases hm : m = 0
  · subst hm; simp
  · by_cases hj : j = 0
    · subst hj; simp [hm]
    · simp [hm, hj, Nat.add_assoc]
theorem Mem.drop {C : Claims} {w : World} {a : Addr} {vs : List Value} (h : Mem C w a vs) (n : Nat) : Mem C w (a.add n) (vs.drop n) := fun j u hj => by
  rw [List.getElem?_drop] at hj
  rw [Addr.add_add']
  exact h _ _ hj
theorem Mem.take {C : Claims} {w : World} {a : Addr} {vs : List Value} (h : Mem C w a vs) (n : Nat) : Mem C w a (vs.take n) := fun j u hj => by
  rw [List.getElem?_take] at hj
  split at hj
  · exact h _ _ hj
  · cases hj

theorem drop_add {α : Type} (l m : List α) (n : Nat) : (l ++ m).drop (l.length + n) = m.drop n := by
  rw [List.drop_append, List.drop_eq_nil_of_le (by omega)]; simp
theorem take_add {α : Type} (l m : List α) (n : Nat) : (l ++ m).take (l.length + n) = l ++ m.take n := by
  rw [List.take_append, List.take_of_length_le (by omega)]; simp
theorem flat_get : ∀ {us : List Value} {k : Nat}, (∀ u ∈ us, u.cells.size = k) → ∀ (i : Nat) (v : Value), us[i]? = some v → ((flat us).drop (i * k)).take k = v.cells.toList
  | [], k, _, i, v, h => by simp at h
  | u :: us, k, hk, i, v, h => by
    have hu : u.cells.toList.length = k := by simpa using hk u (by simp)
    have ih := flat_get (us := us) (k := k) fun x hx => hk x (by simp [hx])
    cases i with
    | zero =>
      simp at h; subst h
      simp only [Nat.zero_mul, List.drop_zero, flat, List.flatMap_cons]
      rw [List.take_left' hu]
    | succ i =>
      simp at h
      rw [← ih i v h]
      simp only [flat, List.flatMap_cons]
      rw [show (i + 1) * k = u.cells.toList.length + i * k from by rw [hu, Nat.succ_mul]; omega, drop_add]

section
variable {P : Program} {o : Oper} {τ : Operand → TV} {s : Res}

/-- A struct's field: where it begins, is it a struct, how many cells. -/
def fldB (P : Program) (S : TypeId) (f off : Nat) (ag : Bool) (sz : Nat) : Bool :=
  match P.underlying S with
  | some (.struct fs) => (match fs[f]? with | some fl => fl.offset == off && tiB P fl.type ag sz && sz != 0 | none => false)
  | _ => false
theorem fldB_at {S : TypeId} {f off : Nat} {ag : Bool} {sz : Nat} (h : fldB P S f off ag sz = true) : ∃ fs fl, P.underlying S = some (.struct fs) ∧ fs[f]? = some fl ∧ fl.offset = off ∧ tiB P fl.type ag sz = true ∧ sz ≠ 0 := by
  unfold fldB at h
  split at h
  · rename_i fs hu
    split at h
    · rename_i fl hf
      simp only [Bool.and_eq_true, beq_iff_eq, bne_iff_ne] at h
      exact ⟨fs, fl, hu, hf, h.1.1, h.1.2, h.2⟩
    · cases h
  · cases h
theorem run_fieldAt {S : TypeId} {f off : Nat} {ag : Bool} {sz : Nat} (h : fldB P S f off ag sz = true) (a : Addr) (w : World) : (Instr.fieldAt S (.pointer (some a)) f).run P w = .ok (.pointer (some (a.add off))) w := by
  obtain ⟨fs, fl, h1, h2, h3, h4, h5⟩ := fldB_at h
  simp [Instr.fieldAt, run_underlying h1, h2, Instr.sureAddr, fieldPlace, tiB_size h4, h5, h3]

theorem p_field_ptr {S : TypeId} {x : Operand} {f off sz b i : Nat} {ag : Bool} (hf : fldB P S f off ag sz = true) (ho : o.op = .fieldAddr S x f) (h1 : τ x = .ptr b i) : PureS P o τ s (.ptr b (i + off)) := PureS.val fun C w a hs hx => by
  rw [ho] at hx
  have hx1 := hx x (by simp [Op.operands])
  rw [h1, V] at hx1
  refine ⟨.pointer (some ((⟨b, i, none⟩ : Addr).add off)), by simp [execOp, ho, hx1, run_fieldAt hf], ?_⟩
  rw [V]
  unfold Addr.add
  split <;> simp_all
theorem p_field_rptr {S : TypeId} {x : Operand} {f off sz : Nat} {ag : Bool} {cs : List TV} (hf : fldB P S f off ag sz = true) (ho : o.op = .fieldAddr S x f) (h1 : τ x = .rptr cs) : PureS P o τ s (.rptr (cs.drop off)) := PureS.val fun C w a hs hx => by
  rw [ho] at hx
  have hx1 := hx x (by simp [Op.operands])
  rw [h1, V] at hx1
  obtain ⟨ad, vs, he, hV, hM⟩ := hx1
  refine ⟨.pointer (some (ad.add off)), by simp [execOp, ho, he, run_fieldAt hf], ?_⟩
  rw [V]
  exact ⟨ad.add off, vs.drop off, rfl, VL_drop hV off, hM.drop off⟩

/-- What a variable of a type holds, of its cells. -/
def varTV (ag : Bool) (cs : List TV) : TV := if ag then .agg cs else cs.headD .any
theorem V_valOf {C : Claims} {w : World} {ag : Bool} {cs : List TV} {vs : List Value} (h : VL C w cs vs) (h1 : ag = false → cs.length = 1) : V C w (varTV ag cs) (valOf ag vs) := by
  cases ag with
  | true => simp only [varTV, valOf, if_true]; rw [V]; exact ⟨vs.toArray, rfl, by simpa using h⟩
  | false =>
    match cs, h1 rfl with
    | [c], _ =>
      rw [VL] at h
      obtain ⟨v, vs', rfl, hV, _⟩ := h
      simpa [varTV, valOf] using hV
theorem p_load_rptr {T : TypeId} {x : Operand} {sz : Nat} {ag : Bool} {cs : List TV} (hT : tiB P T ag sz = true) (h0 : ag = false → sz = 1) (ho : o.op = .load T x) (h1 : τ x = .rptr cs) (hl : sz ≤ cs.length) : PureS P o τ s (varTV ag (cs.take sz)) := PureS.val fun C w a hs hx => by
  rw [ho] at hx
  have hx1 := hx x (by simp [Op.operands])
  rw [h1, V] at hx1
  obtain ⟨ad, vs, he, hV, hM⟩ := hx1
  have hlen := VL_length hV
  have hlt : (vs.take sz).length = sz := by rw [List.length_take]; omega
  have hT' : tiB P T ag (vs.take sz).length = true := by rw [hlt]; exact hT
  refine ⟨valOf ag (vs.take sz), ?_, V_valOf (VL_take hV sz) fun e => by rw [List.length_take, h0 e]; have := h0 e; omega⟩
  have := run_loadVar_at hT' (fun e => by rw [hlt, h0 e]) (a := ad) (w := w) fun j u hj => (hM.take sz j u hj).1
  simp [execOp, ho, he, Instr.loadAt, Instr.sureAddr, this]
theorem box_cell {C : Claims} {w : World} {b : Nat} {cs : List TV} (hs : Sim C s w) (hb : (b, RS.box cs) ∈ s) : ∃ vs : List Value, VL C w cs vs ∧ ∀ j u, vs[j]? = some u → w.cell? ⟨b, j, none⟩ = some u := by
  obtain ⟨vs, t, h1, h2, _⟩ := hs.at_ b _ hb
  exact ⟨vs.toList, h2, fun j u hj => by rw [Array.getElem?_toList] at hj; simp [World.cell?, h1, hj]⟩
theorem p_load_ptr {T : TypeId} {x : Operand} {sz b i : Nat} {ag : Bool} {cs : List TV} (hT : tiB P T ag sz = true) (h0 : ag = false → sz = 1) (ho : o.op = .load T x) (h1 : τ x = .ptr b i) (hb : (b, RS.box cs) ∈ s) (hl : i + sz ≤ cs.length) : PureS P o τ s (varTV ag ((cs.drop i).take sz)) := PureS.val fun C w a hs hx => by
  rw [ho] at hx
  have hx1 := hx x (by simp [Op.operands])
  rw [h1, V] at hx1
  obtain ⟨vs, hV, hM⟩ := box_cell hs hb
  have hlen := VL_length hV
  have hlt : ((vs.drop i).take sz).length = sz := by rw [List.length_take, List.length_drop]; omega
  have hT' : tiB P T ag ((vs.drop i).take sz).length = true := by rw [hlt]; exact hT
  refine ⟨valOf ag ((vs.drop i).take sz), ?_, V_valOf (VL_take (VL_drop hV i) sz) fun e => by rw [List.length_take, List.length_drop, h0 e]; have := h0 e; omega⟩
  have := run_loadVar_at hT' (fun e => by rw [hlt, h0 e]) (a := ⟨b, i, none⟩) (w := w) fun j u hj => by
    rw [List.getElem?_take] at hj
    split at hj
    · rw [List.getElem?_drop] at hj
      have := hM _ _ hj
      have e : (⟨b, i, none⟩ : Addr).add j = ⟨b, i + j, none⟩ := by unfold Addr.add; split <;> simp_all
      rw [e]; exact this
    · cases hj
  simp [execOp, ho, hx1, Instr.loadAt, Instr.sureAddr, this]

/-- A slice type: its element's cells. -/
def slB (P : Program) (T : TypeId) (k : Nat) : Bool := match P.underlying T with | some (.slice e) => (match P.info? e with | some i => i.size == k | none => false) | _ => false
theorem slB_at {T : TypeId} {k : Nat} (h : slB P T k = true) : ∃ e, P.underlying T = some (.slice e) ∧ ∀ w, (sizeOf e).run P w = .ok k w := by
  unfold slB at h
  split at h
  · rename_i e hu
    split at h
    · rename_i i hi
      simp only [beq_iff_eq] at h
      exact ⟨e, hu, fun w => by simp [sizeOf, typeInfo, hi, h]⟩
    · cases h
  · cases h
theorem p_indexAddr {T : TypeId} {x y : Operand} {ow : Own} {k : Nat} {kk : IntKind} {i : Int} {xs : List TV} {u : TV} (hT : slB P T k = true) (ho : o.op = .indexAddr T x y) (h1 : τ x = .slice ow k xs) (h2 : τ y = .int kk i) (h0 : 0 ≤ i) (hu : xs[i.toNat]? = some u)
    (hk : u.known = true) (ht : ∀ vs, u ≠ .tuple vs) : PureS P o τ s (.rptr u.cells) := PureS.val fun C w a hs hx => by
  obtain ⟨e, hT, hsz⟩ := slB_at hT
  rw [ho] at hx
  have hx1 := hx x (by simp [Op.operands])
  have hx2 := hx y (by simp [Op.operands])
  rw [h1, V] at hx1
  rw [h2, V] at hx2
  obtain ⟨A, c, us, he, hc, hb, hV, hsize, _, hmem⟩ := hx1
  have hl := VL_length hV
  obtain ⟨v, hv, hVu⟩ := VL_get hV _ _ hu
  have hlt : i.toNat < us.length := (List.getElem?_eq_some_iff.1 hv).1
  obtain ⟨ad, rfl, hM⟩ := hmem (by omega)
  refine ⟨.pointer (some (ad.add (i.toNat * k))), ?_, ?_⟩
  · simp [execOp, ho, Instr.indexAt, asIntOf, hx2.1, he, run_underlying hT, h0, show i < (us.length : Int) from by omega, hsz]
  · rw [V]
    refine ⟨_, v.cells.toList, rfl, V_cells hk ht hVu, ?_⟩
    rw [← flat_get hsize _ _ hv]
    exact (hM.drop _).take _
theorem p_slice {T : TypeId} {x : Operand} {l h : Option Operand} {ow : Own} {k : Nat} {i j : Int} {xs : List TV} (hT : slB P T k = true) (ho : o.op = .slice T x l h none) (h1 : τ x = .slice ow k xs)
    (hl : (l = none ∧ i = 0) ∨ ∃ y kk, l = some y ∧ τ y = .int kk i) (hh : (h = none ∧ j = xs.length) ∨ ∃ y kk, h = some y ∧ τ y = .int kk j) (h0 : 0 ≤ i) (hij : i ≤ j) (hj : j ≤ xs.length) :
    PureS P o τ s (.slice .ro k ((xs.take j.toNat).drop i.toNat)) := PureS.val fun C w a hs hx => by
  obtain ⟨e, hT, hsz⟩ := slB_at hT
  rw [ho] at hx
  have hx1 := hx x (by simp [Op.operands])
  rw [h1, V] at hx1
  obtain ⟨A, c, us, he, hc, hb, hV, hsize, _, hmem⟩ := hx1
  have hlen := VL_length hV
  obtain ⟨i, rfl⟩ := Int.eq_ofNat_of_zero_le h0
  obtain ⟨j, rfl⟩ := Int.eq_ofNat_of_zero_le (Int.le_trans h0 hij)
  have hij' : i ≤ j := by omega
  have hj' : j ≤ us.length := by omega
  have hjc : j ≤ c := by omega
  have hlow : ∀ y kk, l = some y → τ y = .int kk i → a.eval y = .int kk i := fun y kk e hy => by
    have := hx y (by simp [Op.operands, e])
    rw [hy, V] at this; exact this.1
  have hhigh : ∀ y kk, h = some y → τ y = .int kk j → a.eval y = .int kk j := fun y kk e hy => by
    have := hx y (by simp [Op.operands, e])
    rw [hy, V] at this; exact this.1
  refine ⟨.slice (if c = i then A else A.map (·.add (i * k))) (j - i) (c - i), ?_, ?_⟩
  · rcases hl with ⟨rfl, hi⟩ | ⟨y, kk, rfl, hy⟩ <;> rcases hh with ⟨rfl, hjj⟩ | ⟨y', kk', rfl, hy'⟩
    · obtain rfl : i = 0 := by omega
      obtain rfl : j = us.length := by omega
      simp [execOp, ho, Instr.sliceAt, Instr.slice, Instr.sliceBounds, run_underlying hT, he, hsz]
    · obtain rfl : i = 0 := by omega
      simp [execOp, ho, Instr.sliceAt, Instr.slice, Instr.sliceBounds, Instr.sliceBound, asIntOf, run_underlying hT, he, hhigh _ _ rfl hy', hjc, hsz]
    · obtain rfl : j = us.length := by omega
      simp [execOp, ho, Instr.sliceAt, Instr.slice, Instr.sliceBounds, Instr.sliceBound, asIntOf, run_underlying hT, he, hlow _ _ rfl hy, hij', hsz]
    · simp [execOp, ho, Instr.sliceAt, Instr.slice, Instr.sliceBounds, Instr.sliceBound, asIntOf, run_underlying hT, he, hlow _ _ rfl hy, hhigh _ _ rfl hy', hij', hjc, hsz]
  · rw [V]
    have hul : ((us.take j).drop i).length = j - i := by rw [List.length_drop, List.length_take]; omega
    refine ⟨_, _, (us.take j).drop i, by rw [hul], by rw [hul]; omega, by rw [hul]; omega, by simpa using VL_drop (VL_take hV j) i, fun u hu => hsize u (List.mem_of_mem_take (List.mem_of_mem_drop hu)), trivial, fun hp => ?_⟩
    rw [hul] at hp
    obtain ⟨ad, rfl, hM⟩ := hmem (by omega)
    rw [if_neg (show ¬ c = i from by omega)]
    refine ⟨ad.add (i * k), rfl, ?_⟩
    have hfl : ∀ (zs : List Value), (∀ u ∈ zs, u.cells.size = k) → ∀ m, flat (zs.drop m) = (flat zs).drop (m * k) := by
      intro zs
      induction zs with
      | nil => intro _ m; simp [flat]
      | cons z zs ih =>
        intro hz m
        cases m with
        | zero => simp
        | succ m =>
          have hzl : z.cells.toList.length = k := by simpa using hz z (by simp)
          rw [List.drop_succ_cons, ih (fun u hu => hz u (by simp [hu]))]
          simp only [flat, List.flatMap_cons]
          rw [show (m + 1) * k = z.cells.toList.length + m * k from by rw [hzl, Nat.succ_mul]; omega, drop_add]
    have hft : ∀ (zs : List Value), (∀ u ∈ zs, u.cells.size = k) → ∀ m, flat (zs.take m) = (flat zs).take (m * k) := by
      intro zs
      induction zs with
      | nil => intro _ m; simp [flat]
      | cons z zs ih =>
        intro hz m
        cases m with
        | zero => simp [flat]
        | succ m =>
          have hzl : z.cells.toList.length = k := by simpa using hz z (by simp)
          have := ih (fun u hu => hz u (by simp [hu])) m
          simp only [flat] at this
          rw [List.take_succ_cons]
          simp only [flat, List.flatMap_cons]
          rw [this, show (m + 1) * k = z.cells.toList.length + m * k from by rw [hzl, Nat.succ_mul]; omega, take_add]
    rw [hfl _ (fun u hu => hsize u (List.mem_of_mem_take hu)), hft _ hsize]
    exact (hM.take _).drop _

/-- A struct's field out of a struct value. -/
theorem p_field {T : TypeId} {x : Operand} {f off sz : Nat} {ag : Bool} {cs : List TV} (hf : fldB P T f off ag sz = true) (h0 : ag = false → sz = 1) (ho : o.op = .field T x f) (h1 : τ x = .agg cs) (hl : off + sz ≤ cs.length) : PureS P o τ s (varTV ag ((cs.drop off).take sz)) := PureS.val fun C w a hs hx => by
  obtain ⟨fs, fl, e1, e2, e3, e4, e5⟩ := fldB_at hf
  rw [ho] at hx
  have hx1 := hx x (by simp [Op.operands])
  rw [h1, V] at hx1
  obtain ⟨vs, he, hV⟩ := hx1
  have hlen := VL_length hV
  rw [Array.length_toList] at hlen
  refine ⟨valOf ag ((vs.toList.drop off).take sz), ?_, V_valOf (VL_take (VL_drop hV off) sz) fun e => by rw [List.length_take, List.length_drop, h0 e]; have := h0 e; omega⟩
  cases ag with
  | true =>
    simp [execOp, ho, he, Instr.field, run_underlying e1, e2, part, asAgg, tiB_agg e4, tiB_size e4, valOf, e3]
    apply Array.ext'
    simp [List.take_drop]
  | false =>
    have hlt : off < vs.size := by have := h0 rfl; omega
    simp [execOp, ho, he, Instr.field, run_underlying e1, e2, part, asAgg, tiB_agg e4, valOf, e3, hlt, h0 rfl]
    simp [List.head?_take, List.head?_drop, hlt]
end
end Go.Proofs.YtdkiijhmmmfciaaDoor
