/- Operations over tree values: what makes or turns memory: variables, literals, append. -/
import Derived.Test.YtdkiijhmmmfciaaDoorTF
import Derived.Lib.AppendStr
import Derived.Laws.CopyRow
import Derived.Laws.Tables
import Derived.Lib.ConvBytes
set_option linter.unusedVariables false
set_option linter.unusedSimpArgs false
namespace Go.Proofs.YtdkiijhmmmfciaaDoor
open Go

/-- New claims: the first cells of a block. -/
def newC (C : Claims) (b m : Nat) : Claims := fun b' o => C b' o ∨ (b' = b ∧ o < m)
/-- A world that is another one with one block more. -/
structure Pushed (w W : World) (obj : Obj) : Prop where
  heap : W.heap = w.heap.push obj
  os : W.os = w.os
  tape : W.tape = w.tape
  output : W.output = w.output
theorem Pushed.old {w W : World} {obj : Obj} (h : Pushed w W obj) {b : Nat} (hb : b < w.heap.size) : W.heap[b]? = w.heap[b]? := by
  rw [h.heap, Array.getElem?_push, if_neg (by omega)]
theorem Pushed.new {w W : World} {obj : Obj} (h : Pushed w W obj) : W.heap[w.heap.size]? = some obj := by
  rw [h.heap, Array.getElem?_push, if_pos rfl]
theorem Pushed.cell {w W : World} {obj : Obj} (h : Pushed w W obj) {b o : Nat} (hb : b < w.heap.size) : W.cell? ⟨b, o, none⟩ = w.cell? ⟨b, o, none⟩ := by
  simp only [World.cell?, h.old hb]
theorem Pushed.ev {w W : World} {obj : Obj} (h : Pushed w W obj) {C : Claims} {m : Nat} (D : Nat → Prop) (ok : ∀ b o, C b o → b < w.heap.size) : Ev D C w (newC C w.heap.size m) W where
  os := h.os
  tape := h.tape
  output := h.output
  size := by rw [h.heap]; simp
  same := fun b hb _ => h.old hb
  csame := fun b hb _ o hc => hc.elim id fun ⟨e, _⟩ => by omega
  keep := fun b o hc => ⟨.inl hc, h.cell (ok b o hc)⟩
theorem Pushed.ok {w W : World} {obj : Obj} (h : Pushed w W obj) {C : Claims} {m : Nat} (ok : ∀ b o, C b o → b < w.heap.size) : ∀ b o, newC C w.heap.size m b o → b < W.heap.size := fun b o hc => by
  rw [h.heap, Array.size_push]
  rcases hc with hc | ⟨rfl, _⟩
  · have := ok b o hc; omega
  · omega
theorem Pushed.sim {w W : World} {obj : Obj} (h : Pushed w W obj) {C : Claims} {m : Nat} {s : Res} (hs : Sim C s w) : Sim (newC C w.heap.size m) s W where
  ok := h.ok hs.ok
  tabs := hs.tabs.keep (h.ev (fun _ => False) hs.ok).keep
  nodup := hs.nodup
  at_ := fun b r hm => (hs.at_ b r hm).ev (h.ev (fun _ => False) hs.ok) id
theorem Pushed.sim_cons {w W : World} {obj : Obj} (h : Pushed w W obj) {C : Claims} {m : Nat} {s : Res} (hs : Sim C s w) {r : RS} (hr : Sim1 (newC C w.heap.size m) W w.heap.size r) : Sim (newC C w.heap.size m) ((w.heap.size, r) :: s) W := by
  have h1 := h.sim (m := m) hs
  refine ⟨h1.ok, h1.tabs, ?_, ?_⟩
  · rw [List.map_cons, List.nodup_cons]
    refine ⟨fun hm => ?_, hs.nodup⟩
    obtain ⟨⟨b, r'⟩, hb, e⟩ := List.mem_map.1 hm
    have := (hs.at_ b r' hb).lt
    simp only at e
    omega
  · intro b r' hm
    rcases List.mem_cons.1 hm with e | hm
    · injection e with e1 e2; subst e1; subst e2; exact hr
    · exact h1.at_ b r' hm
theorem Pushed.alloc (w : World) (obj : Obj) : Pushed w (w.alloc obj) obj := ⟨rfl, rfl, rfl, rfl⟩
theorem Pushed.drew (w : World) (obj : Obj) : Pushed w (w.drew.alloc obj) obj := ⟨rfl, rfl, rfl, rfl⟩

theorem newC_zero (C : Claims) (b : Nat) : newC C b 0 = C := by
  funext b' o; simp [newC]

/-- The cells of a new block, all claimed. -/
theorem Pushed.mem {w W : World} {cs : Array Value} {t : TypeId} {fr : Nat × Nat} (h : Pushed w W (.cells cs t fr)) {C : Claims} {m : Nat} {vs : List Value} (hv : vs = cs.toList.take m) (hm : vs.length = m) : Mem (newC C w.heap.size m) W ⟨w.heap.size, 0, none⟩ vs := fun j u hj => by
  have e : (⟨w.heap.size, 0, none⟩ : Addr).add j = ⟨w.heap.size, j, none⟩ := by unfold Addr.add; split <;> simp_all
  have hjm : j < m := by have := (List.getElem?_eq_some_iff.1 hj).1; omega
  rw [e]
  refine ⟨?_, .inr ⟨rfl, hjm⟩⟩
  rw [hv, List.getElem?_take, if_pos hjm, Array.getElem?_toList] at hj
  simp [World.cell?, h.new, hj]

section
variable {P : Program} {o : Oper} {τ : Operand → TV} {s : Res} {n : Nat} {E : Env} {Q : AQ}

/-! ### Variables -/
theorem AStep.of {K : Env → Res → Prop} (h : ∀ (C : Claims) (w : World) (tm : Array Value), Sim C s w → VE C w n E tm → (∀ x ∈ o.op.operands, V C w (opTV E x) ((⟨tm, []⟩ : Act).eval x)) →
    ∃ v C' w' u s', (execOp (⟨tm, []⟩ : Act).eval o).run P w = .ok (.value v) w' ∧ V C' w' u v ∧ K (putE E o.dst u) s' ∧ Sim C' s' w' ∧ Ev (dom s) C w C' w' ∧ ∀ b, dom s' b → dom s b ∨ w.heap.size ≤ b) : AStep P n o E s Q K := by
  intro C w tm hs hE hx
  obtain ⟨v, C', w', u, s', h1, h2, h3, h4, h5, h6⟩ := h C w tm hs hE hx
  unfold Oper.wp
  rw [h1, Oper.upon_value]
  exact ⟨C', _, s', h3, h4, (hE.keep h5.keep).put (a := ⟨tm, []⟩) o.dst h2, by rw [put_tmps], h5, h6⟩
theorem a_box {T : TypeId} {x : Operand} (ho : o.op = .box T x) (hk : (opTV E x).known = true) (ht : ∀ vs, opTV E x ≠ .tuple vs) :
    AStep P n o E s Q fun E' s' => ∃ b, E' = putE E o.dst (.ptr b 0) ∧ s' = (b, .box (opTV E x).cells) :: s := AStep.of fun C w tm hs hE hx => by
  rw [ho] at hx
  have hx1 := hx x (by simp [Op.operands])
  have hp := Pushed.alloc w (.cells ((⟨tm, []⟩ : Act).eval x).cells T)
  have hC := newC_zero C w.heap.size
  have hsim := hp.sim_cons (m := 0) hs (r := .box (opTV E x).cells) ⟨_, T, hp.new, VL_keep (hp.ev (m := 0) (fun _ => False) hs.ok).keep _ _ (V_cells hk ht hx1), fun o' hc => by rw [hC] at hc; have := hs.ok _ _ hc; omega⟩
  have hev := hp.ev (m := 0) (dom s) hs.ok
  rw [hC] at hsim hev
  exact ⟨.pointer (some ⟨w.heap.size, 0, none⟩), C, w.alloc (.cells ((⟨tm, []⟩ : Act).eval x).cells T), .ptr w.heap.size 0, _, by simp [execOp, ho, Instr.box, newVar, newRow], by rw [V], ⟨_, rfl, rfl⟩, hsim, hev, fun b ⟨r, hb⟩ => by
    rcases List.mem_cons.1 hb with e | hb
    · injection e with e; exact .inr (by omega)
    · exact .inl ⟨r, hb⟩⟩
/-- The zero value of a type. -/
def zeroB (P : Program) (T : TypeId) (z : Value) : Prop := (P.info? T).map (·.zero) = some (some z)
theorem zeroB_run {T : TypeId} {z : Value} (h : zeroB P T z) (w : World) : (zeroValue T).run P w = .ok z w := by
  unfold zeroB at h
  cases hi : P.info? T with
  | none => rw [hi] at h; cases h
  | some i => rw [hi] at h; simp at h; simp [zeroValue, typeInfo, hi, h]
theorem a_alloc {T : TypeId} {z : Value} (hz : zeroB P T z) (hc : constOk z = true) (hk : (constTV z).known = true) (ht : ∀ vs, constTV z ≠ .tuple vs) (ho : o.op = .alloc T) :
    AStep P n o E s Q fun E' s' => ∃ b, E' = putE E o.dst (.ptr b 0) ∧ s' = (b, .box (constTV z).cells) :: s := AStep.of fun C w tm hs hE hx => by
  have hx1 : V C w (constTV z) z := V_const hc
  have hp := Pushed.alloc w (.cells z.cells T)
  have hC := newC_zero C w.heap.size
  have hsim := hp.sim_cons (m := 0) hs (r := .box (constTV z).cells) ⟨_, T, hp.new, VL_keep (hp.ev (m := 0) (fun _ => False) hs.ok).keep _ _ (V_cells hk ht hx1), fun o' hc => by rw [hC] at hc; have := hs.ok _ _ hc; omega⟩
  have hev := hp.ev (m := 0) (dom s) hs.ok
  rw [hC] at hsim hev
  exact ⟨.pointer (some ⟨w.heap.size, 0, none⟩), C, w.alloc (.cells z.cells T), .ptr w.heap.size 0, _, by simp [execOp, ho, Instr.alloc, zeroB_run hz, newVar, newRow], by rw [V], ⟨_, rfl, rfl⟩, hsim, hev, fun b ⟨r, hb⟩ => by
    rcases List.mem_cons.1 hb with e | hb
    · injection e with e; exact .inr (by omega)
    · exact .inl ⟨r, hb⟩⟩
theorem alloc_S {T : TypeId} {z : Value} (hz : zeroB P T z) (hc : constOk z = true) (hk : (constTV z).known = true) (ht : ∀ vs, constTV z ≠ .tuple vs) (ho : o.op = .alloc T) : AllocS P o s (constTV z).cells := fun C w a hs Q => by
  have hx1 : V C w (constTV z) z := V_const hc
  have hp := Pushed.alloc w (.cells z.cells T)
  have hC := newC_zero C w.heap.size
  have hsim := hp.sim_cons (m := 0) hs (r := .box (constTV z).cells) ⟨_, T, hp.new, VL_keep (hp.ev (m := 0) (fun _ => False) hs.ok).keep _ _ (V_cells hk ht hx1), fun o' hc => by rw [hC] at hc; have := hs.ok _ _ hc; omega⟩
  have hev := hp.ev (m := 0) (dom s) hs.ok
  rw [hC] at hsim hev
  have hrun : (execOp a.eval o).run P w = .ok (.value (.pointer (some ⟨w.heap.size, 0, none⟩))) (w.alloc (.cells z.cells T)) := by simp [execOp, ho, Instr.alloc, zeroB_run hz, newVar, newRow]
  unfold Oper.wp
  rw [hrun, Oper.upon_value]
  exact ⟨C, w.heap.size, rfl, hsim, hev, Nat.le_refl _⟩


/-- A piece written into a list. -/
def splice {α : Type} (cs : List α) (i : Nat) (us : List α) : List α := cs.take i ++ us ++ cs.drop (i + us.length)
theorem splice_length {α : Type} {cs us : List α} {i : Nat} (h : i + us.length ≤ cs.length) : (splice cs i us).length = cs.length := by
  simp [splice]; omega
theorem VL_splice {C : Claims} {w : World} {cs us : List TV} {vs xs : List Value} {i : Nat} (h : VL C w cs vs) (h' : VL C w us xs) : VL C w (splice cs i us) (splice vs i xs) := by
  have e := VL_length h'
  simp only [splice, e]
  exact VL_append (VL_append (VL_take h i) h') (VL_drop h _)

theorem one_cells {v : Value} : ∀ (vs : List Value), v.cells.toList = vs → (∀ u ∈ vs, u.oneCell' = true) → v.cells.toList.all (·.oneCell') = true := fun vs e h => by rw [e]; simpa using h
/-- All cells of a list lie one by one. -/
def allOne (cs : List TV) : Bool := cs.all TV.one
theorem VL_allOne {C : Claims} {w : World} : ∀ {cs : List TV} {vs : List Value}, allOne cs = true → VL C w cs vs → ∀ u ∈ vs, u.oneCell' = true
  | [], vs, _, h => by rw [VL] at h; subst h; simp
  | c :: cs, vs, ho, h => by
    rw [VL] at h
    obtain ⟨v, vs', rfl, h1, h2⟩ := h
    simp only [allOne, List.all_cons, Bool.and_eq_true] at ho
    intro u hu
    rcases List.mem_cons.1 hu with rfl | hu
    · exact (V_one ho.1 h1).2
    · exact VL_allOne (cs := cs) ho.2 h2 u hu

theorem run_storeVar_box {T : TypeId} {b t : Nat} {i : Nat} {w : World} {cur : Array Value} {v : Value} (hw : w.heap[b]? = some (.cells cur t (0, 0))) (hsz : ∀ w, (sizeOf T).run P w = .ok v.cells.size w) (hone : ∀ u ∈ v.cells.toList, u.oneCell' = true) (hl : i + v.cells.size ≤ cur.size) :
    (storeVar T ⟨b, i, none⟩ v).run P w = .ok () (w.setRow b (splice cur.toList i v.cells.toList).toArray) := by
  have h := run_storeCells_at P b i t v.cells.toList 0 cur w hw (by simpa using hl) hone
  simp only [Nat.add_zero] at h
  have e : (storeVar T ⟨b, i, none⟩ v).run P w = (storeCells ⟨b, i, none⟩ v.cells.toList).run P w := by
    simp [storeVar, hsz]
  rw [e, h]
  simp [splice]

theorem setRow_ev {C : Claims} {s : Res} {w : World} {b : Nat} {cur new : Array Value} {t : TypeId} {fr : Nat × Nat} (hw : w.heap[b]? = some (.cells cur t fr)) (hd : dom s b) (hk : ∀ o, C b o → new[o]? = cur[o]?) : Ev (dom s) C w C (w.setRow b new) where
  os := rfl
  tape := rfl
  output := rfl
  size := by simp
  same := fun b' _ hn => setRow_other w b b' _ (fun e => hn (e ▸ hd))
  csame := fun _ _ _ _ h => h
  keep := fun b' o' hc => by
    refine ⟨hc, ?_⟩
    by_cases e : b' = b
    · subst e
      simp only [World.cell?, setRow_heap w b' cur new t fr hw, hw]
      simpa using hk o' hc
    · simp only [World.cell?, setRow_other w b b' _ e]

theorem set_get {s : Res} {j : Nat} {b : Nat} {r r' : RS} (hj : s[j]? = some (b, r)) : (s.set j (b, r')).map Prod.fst = s.map Prod.fst := by
  rw [List.map_set]
  apply List.ext_getElem?
  intro i
  rw [List.getElem?_set]
  split
  · rename_i h; subst h
    rw [List.getElem?_map, hj]
    split
    · rfl
    · rename_i h; have := (List.getElem?_eq_some_iff.1 hj).1; simp at h; omega
  · rfl

/-- One resource turned, the rest as it was. -/
theorem Sim.turn {C C' : Claims} {s : Res} {w w' : World} {j b : Nat} {r r' : RS} (hs : Sim C s w) (hj : s[j]? = some (b, r)) (hok : ∀ b o, C' b o → b < w'.heap.size) (he : Ev (fun b' => b' = b) C w C' w') (hr : Sim1 C' w' b r') : Sim C' (s.set j (b, r')) w' where
  ok := hok
  tabs := hs.tabs.keep he.keep
  nodup := by rw [set_get hj]; exact hs.nodup
  at_ := fun b' q hm => by
    obtain ⟨i, hi⟩ := List.mem_iff_getElem?.1 hm
    rw [List.getElem?_set] at hi
    split at hi
    · split at hi
      · injection hi with hi; injection hi with h1 h2; subst h1; subst h2; exact hr
      · cases hi
    · rename_i hne
      have hm' : (b', q) ∈ s := List.mem_of_getElem? hi
      by_cases e : b' = b
      · subst e
        exfalso
        have hn := hs.nodup
        have h1 : (s.map Prod.fst)[j]? = some b' := by rw [List.getElem?_map, hj]; rfl
        have h2 : (s.map Prod.fst)[i]? = some b' := by rw [List.getElem?_map, hi]; rfl
        have hl1 := (List.getElem?_eq_some_iff.1 h1).1
        exact hne ((List.getElem?_inj hl1 hn).1 (h1.trans h2.symm))
      · exact (hs.at_ b' q hm').ev he e
theorem dom_set {s : Res} {j b : Nat} {r r' : RS} (hj : s[j]? = some (b, r)) : ∀ b', dom (s.set j (b, r')) b' → dom s b' := fun b' ⟨q, hm⟩ => by
  have h1 : b' ∈ (s.set j (b, r')).map Prod.fst := List.mem_map.2 ⟨_, hm, rfl⟩
  rw [set_get hj] at h1
  obtain ⟨⟨b2, q2⟩, h2, rfl⟩ := List.mem_map.1 h1
  exact ⟨q2, h2⟩

theorem a_store {T : TypeId} {x y : Operand} {b i j : Nat} {cs : List TV} {ag : Bool} {sz : Nat} (hT : tiB P T ag sz = true) (ho : o.op = .store T x y) (h1 : opTV E x = .ptr b i) (hj : s[j]? = some (b, .box cs))
    (hk : (opTV E y).known = true) (ht : ∀ vs, opTV E y ≠ .tuple vs) (hsz : (opTV E y).cells.length = sz) (hone : allOne (opTV E y).cells = true) (hl : i + sz ≤ cs.length) (hd : o.dst = none) :
    AStep P n o E s Q fun E' s' => E' = E ∧ s' = s.set j (b, .box (splice cs i (opTV E y).cells)) := by
  intro C w tm hs hE hx
  rw [ho] at hx
  have hx1 := hx x (by simp [Op.operands])
  have hx2 := hx y (by simp [Op.operands])
  rw [h1, V] at hx1
  have hmem := List.mem_of_getElem? hj
  obtain ⟨cur, t, hb, hV, hno⟩ := hs.at_ b _ hmem
  have hVy := V_cells hk ht hx2
  have hly := VL_length hVy
  have hlc := VL_length hV
  rw [Array.length_toList] at hlc hly
  have hst := run_storeVar_box (P := P) (T := T) (i := i) (v := (⟨tm, []⟩ : Act).eval y) hb (fun w => by rw [tiB_size hT, hly, hsz]) (VL_allOne hone hVy) (by rw [hly, hsz]; omega)
  have hrun : (execOp (⟨tm, []⟩ : Act).eval o).run P w = .ok .skip (w.setRow b (splice cur.toList i ((⟨tm, []⟩ : Act).eval y).cells.toList).toArray) := by
    simp [execOp, ho, hx1, Instr.storeAt, Instr.sureAddr, hst]
  unfold Oper.wp
  rw [hrun, Oper.upon_skip, hd]
  have hev := setRow_ev (C := C) (s := s) (new := (splice cur.toList i ((⟨tm, []⟩ : Act).eval y).cells.toList).toArray) hb ⟨_, hmem⟩ fun o' hc => absurd hc (hno o')
  have hev1 := setRow_ev (C := C) (s := [(b, .box [])]) (new := (splice cur.toList i ((⟨tm, []⟩ : Act).eval y).cells.toList).toArray) hb ⟨_, List.mem_singleton.2 rfl⟩ fun o' hc => absurd hc (hno o')
  refine ⟨C, E, _, ⟨rfl, rfl⟩, hs.turn hj (fun b o h => by simpa using hs.ok b o h) (hev1.mono fun b' ⟨r, hr⟩ => .inl (by simp at hr; exact hr.1)) ?_, hE.keep hev.keep, rfl, hev, fun b' hb' => .inl (dom_set hj b' hb')⟩
  exact ⟨_, t, setRow_heap w b cur _ t _ hb, by simpa using VL_splice (VL_keep hev.keep _ _ hV) (VL_keep hev.keep _ _ hVy), hno⟩
end
end Go.Proofs.YtdkiijhmmmfciaaDoor
