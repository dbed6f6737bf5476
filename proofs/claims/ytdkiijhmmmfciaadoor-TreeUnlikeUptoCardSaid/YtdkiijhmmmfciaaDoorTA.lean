/- Tree values: what a Go value says as data, and how it lies in memory; the resources of a call; what a call may change. -/
import Derived.Orders
import Derived.Tactics
import Derived.Laws.World
import Derived.Laws.FloatBits
import Derived.DataShut
import Derived.Below
set_option linter.unusedVariables false
set_option linter.unusedSimpArgs false
namespace Go.Proofs.YtdkiijhmmmfciaaDoor
open Go

/-- Whose a slice's spare room is: nobody's that is known; there is none; a row's of the call's own. -/
inductive Own where
  | ro
  | full
  | row (b cap : Nat)

/-- Data: slices by what they hold; 'any' where nothing is known. -/
inductive TV where
  | any
  | bool (b : Bool)
  | int (k : IntKind) (n : Int)
  | float (k : FloatKind) (bits : Nat)
  | nan (k : FloatKind)
  | str (s : ByteArray)
  | nilp
  | ptr (b off : Nat)
  | rptr (cs : List TV)
  | slice (o : Own) (k : Nat) (xs : List TV)
  | func (fn : Fn) (first captured : List TV)
  | nilf
  | iface (t : TypeId) (v : TV)
  | nili
  | mapr (b : Nat)
  | agg (cs : List TV)
  | tuple (vs : List TV)
  | mslice (b n cap : Nat)
  | nils

def IntKind.fits (k : IntKind) (n : Int) : Prop := k.min ≤ n ∧ n ≤ k.max

abbrev Claims := Nat → Nat → Prop

/-- These cells stand from an address on, and are claimed: nobody writes them any more. -/
def Mem (C : Claims) (w : World) (a : Addr) (vs : List Value) : Prop :=
  ∀ j u, vs[j]? = some u → w.cell? (a.add j) = some u ∧ C (a.add j).block (a.add j).off

def OwnOk : Own → Option Addr → Nat → Nat → Prop
  | .ro, _, _, _ => True
  | .full, _, n, c => c = n
  | .row b cap, A, _, c => A = some ⟨b, 0, none⟩ ∧ c = cap

def flat (us : List Value) : List Value := us.flatMap fun u => u.cells.toList

mutual
def V (C : Claims) (w : World) : TV → Value → Prop
  | .any, _ => True
  | .bool b, v => v = .bool b
  | .int k n, v => v = .int k n ∧ IntKind.fits k n
  | .float k b, v => v = .float k b ∧ b < 2 ^ k.format.width
  | .nan k, v => ∃ b, v = .float k b ∧ b < 2 ^ k.format.width ∧ (k.decode b).isNaN = true
  | .str s, v => v = .string s ∧ s.size ≤ 9223372036854775807
  | .nilp, v => v = .pointer none
  | .ptr b o, v => v = .pointer (some ⟨b, o, none⟩)
  | .rptr cs, v => ∃ a vs, v = .pointer (some a) ∧ VL C w cs vs ∧ Mem C w a vs
  | .slice o k xs, v => ∃ A c us, v = .slice A us.length c ∧ us.length ≤ c ∧ us.length ≤ 281474976710656 ∧ VL C w xs us ∧ (∀ u ∈ us, u.cells.size = k) ∧ OwnOk o A us.length c ∧
      (0 < us.length → ∃ a, A = some a ∧ Mem C w a (flat us))
  | .func fn f c, v => ∃ fs cs, v = .func fn fs cs ∧ VL C w f fs.toList ∧ VL C w c cs.toList
  | .nilf, v => v = .nilFunc
  | .iface t x, v => ∃ u, v = .iface t u ∧ V C w x u
  | .nili, v => v = .nilIface
  | .mapr b, v => v = .map (some b)
  | .agg cs, v => ∃ vs, v = .agg vs ∧ VL C w cs vs.toList
  | .tuple ts, v => ∃ vs, v = .tuple vs ∧ VL C w ts vs.toList
  | .mslice b n cap, v => v = .slice (some ⟨b, 0, none⟩) n cap ∧ n ≤ cap ∧ n ≤ 281474976710656
  | .nils, v => v = .slice none 0 0
def VL (C : Claims) (w : World) : List TV → List Value → Prop
  | [], vs => vs = []
  | t :: ts, vs => ∃ v vs', vs = v :: vs' ∧ V C w t v ∧ VL C w ts vs'
end

theorem VL_length {C : Claims} {w : World} : ∀ {ts : List TV} {vs : List Value}, VL C w ts vs → vs.length = ts.length
  | [], _, h => by rw [VL] at h; simp [h]
  | _ :: ts, _, h => by rw [VL] at h; obtain ⟨v, vs', rfl, _, h⟩ := h; simp [VL_length h]

theorem VL_get {C : Claims} {w : World} : ∀ {ts : List TV} {vs : List Value}, VL C w ts vs → ∀ (i : Nat) (t : TV), ts[i]? = some t → ∃ v, vs[i]? = some v ∧ V C w t v
  | [], _, _, i, t, ht => by simp at ht
  | x :: ts, _, h, i, t, ht => by
    rw [VL] at h
    obtain ⟨v, vs', rfl, h1, h⟩ := h
    cases i with
    | zero => simp at ht; subst ht; exact ⟨v, by simp, h1⟩
    | succ i => simp at ht; simpa using VL_get h i t ht

theorem VL_of {C : Claims} {w : World} : ∀ {ts : List TV} {vs : List Value}, vs.length = ts.length → (∀ (i : Nat) (t : TV) (v : Value), ts[i]? = some t → vs[i]? = some v → V C w t v) → VL C w ts vs
  | [], vs, hl, _ => by rw [VL]; exact List.eq_nil_of_length_eq_zero hl
  | t :: ts, [], hl, _ => by simp at hl
  | t :: ts, v :: vs, hl, h => by
    rw [VL]
    exact ⟨v, vs, rfl, h 0 t v rfl rfl, VL_of (by simpa using hl) fun i t' v' h1 h2 => h (i + 1) t' v' (by simpa using h1) (by simpa using h2)⟩

theorem VL_getD {C : Claims} {w : World} {ts : List TV} {vs : List Value} (h : VL C w ts vs) (i : Nat) : V C w (ts.getD i .any) (vs.getD i undef) := by
  rw [List.getD_eq_getElem?_getD, List.getD_eq_getElem?_getD]
  cases ht : ts[i]? with
  | none => simp only [Option.getD_none]; rw [V]; trivial
  | some t =>
    obtain ⟨v, hv, hV⟩ := VL_get h i t ht
    simpa [hv] using hV

theorem VL_set {C : Claims} {w : World} {ts : List TV} {vs : List Value} (h : VL C w ts vs) (i : Nat) {t : TV} {v : Value} (hv : V C w t v) : VL C w (ts.set i t) (vs.set i v) := by
  refine VL_of (by simp [VL_length h]) fun j t' v' h1 h2 => ?_
  rw [List.getElem?_set] at h1 h2
  by_cases hij : i = j
  · rw [if_pos hij] at h1 h2
    split at h1
    · split at h2
      · injection h1 with h1; injection h2 with h2; subst h1; subst h2; exact hv
      · cases h2
    · cases h1
  · rw [if_neg hij] at h1 h2
    obtain ⟨u, hu, hV⟩ := VL_get h j t' h1
    rw [hu] at h2; injection h2 with h2; subst h2; exact hV

theorem VL_append {C : Claims} {w : World} : ∀ {ts ts' : List TV} {vs vs' : List Value}, VL C w ts vs → VL C w ts' vs' → VL C w (ts ++ ts') (vs ++ vs')
  | [], _, _, _, h, h' => by rw [VL] at h; subst h; simpa using h'
  | t :: ts, _, _, _, h, h' => by
    rw [VL] at h
    obtain ⟨v, vs1, rfl, h1, h⟩ := h
    rw [List.cons_append, List.cons_append, VL]
    exact ⟨v, _, rfl, h1, VL_append h h'⟩

theorem VL_take {C : Claims} {w : World} {ts : List TV} {vs : List Value} (h : VL C w ts vs) (n : Nat) : VL C w (ts.take n) (vs.take n) := by
  refine VL_of (by simp [VL_length h]) fun i t v h1 h2 => ?_
  rw [List.getElem?_take] at h1 h2
  split at h1
  · rename_i hi
    rw [if_pos hi] at h2
    obtain ⟨u, hu, hV⟩ := VL_get h i t h1
    rw [hu] at h2; injection h2 with h2; subst h2; exact hV
  · cases h1

theorem VL_drop {C : Claims} {w : World} {ts : List TV} {vs : List Value} (h : VL C w ts vs) (n : Nat) : VL C w (ts.drop n) (vs.drop n) := by
  refine VL_of (by simp [VL_length h]) fun i t v h1 h2 => ?_
  rw [List.getElem?_drop] at h1 h2
  obtain ⟨u, hu, hV⟩ := VL_get h _ t h1
  rw [hu] at h2; injection h2 with h2; subst h2; exact hV

theorem VL_any (C : Claims) (w : World) : ∀ vs : List Value, VL C w (List.replicate vs.length .any) vs
  | [] => by simp [VL]
  | v :: vs => by rw [List.length_cons, List.replicate_succ, VL]; exact ⟨v, vs, rfl, by rw [V]; trivial, VL_any C w vs⟩

/-- The memory goes on: what is claimed stays. -/
def Keep (C : Claims) (w : World) (C' : Claims) (w' : World) : Prop :=
  ∀ b o, C b o → C' b o ∧ w'.cell? ⟨b, o, none⟩ = w.cell? ⟨b, o, none⟩

theorem cell_spot {w : World} {a : Addr} {u : Value} (h : w.cell? a = some u) : a = ⟨a.block, a.off, none⟩ := by
  obtain ⟨b, o, s⟩ := a
  cases s with
  | none => rfl
  | some s => unfold World.cell? at h; split at h <;> simp at h

theorem Mem.keep {C C' : Claims} {w w' : World} (k : Keep C w C' w') {a : Addr} {vs : List Value} (h : Mem C w a vs) : Mem C' w' a vs := fun j u hj => by
  obtain ⟨h1, h2⟩ := h j u hj
  obtain ⟨k1, k2⟩ := k _ _ h2
  refine ⟨?_, k1⟩
  rw [cell_spot h1, k2, ← cell_spot h1]
  exact h1

mutual
theorem V_keep {C C' : Claims} {w w' : World} (k : Keep C w C' w') : ∀ (t : TV) (v : Value), V C w t v → V C' w' t v
  | .any, v, h => by rw [V]; trivial
  | .bool b, v, h => by rw [V] at h ⊢; exact h
  | .int _ n, v, h => by rw [V] at h ⊢; exact h
  | .float _ b, v, h => by rw [V] at h ⊢; exact h
  | .nan _, v, h => by rw [V] at h ⊢; exact h
  | .str s, v, h => by rw [V] at h ⊢; exact h
  | .nilp, v, h => by rw [V] at h ⊢; exact h
  | .ptr b o, v, h => by rw [V] at h ⊢; exact h
  | .rptr cs, v, h => by
    rw [V] at h ⊢
    obtain ⟨a, vs, rfl, h1, h2⟩ := h
    exact ⟨a, vs, rfl, VL_keep k cs vs h1, h2.keep k⟩
  | .slice o n xs, v, h => by
    rw [V] at h ⊢
    obtain ⟨A, c, us, rfl, h1, h2, h3, h4, h5, h6⟩ := h
    exact ⟨A, c, us, rfl, h1, h2, VL_keep k xs us h3, h4, h5, fun hp => by obtain ⟨a, ha, hm⟩ := h6 hp; exact ⟨a, ha, hm.keep k⟩⟩
  | .func fn f c, v, h => by
    rw [V] at h ⊢
    obtain ⟨fs, cs, rfl, h1, h2⟩ := h
    exact ⟨fs, cs, rfl, VL_keep k f _ h1, VL_keep k c _ h2⟩
  | .nilf, v, h => by rw [V] at h ⊢; exact h
  | .iface t x, v, h => by
    rw [V] at h ⊢
    obtain ⟨u, rfl, h1⟩ := h
    exact ⟨u, rfl, V_keep k x u h1⟩
  | .nili, v, h => by rw [V] at h ⊢; exact h
  | .mapr b, v, h => by rw [V] at h ⊢; exact h
  | .agg cs, v, h => by
    rw [V] at h ⊢
    obtain ⟨vs, rfl, h1⟩ := h
    exact ⟨vs, rfl, VL_keep k cs _ h1⟩
  | .tuple ts, v, h => by
    rw [V] at h ⊢
    obtain ⟨vs, rfl, h1⟩ := h
    exact ⟨vs, rfl, VL_keep k ts _ h1⟩
  | .mslice b n cap, v, h => by rw [V] at h ⊢; exact h
  | .nils, v, h => by rw [V] at h ⊢; exact h
theorem VL_keep {C C' : Claims} {w w' : World} (k : Keep C w C' w') : ∀ (ts : List TV) (vs : List Value), VL C w ts vs → VL C' w' ts vs
  | [], vs, h => by rw [VL] at h ⊢; exact h
  | t :: ts, vs, h => by
    rw [VL] at h ⊢
    obtain ⟨v, vs', rfl, h1, h2⟩ := h
    exact ⟨v, vs', rfl, V_keep k t v h1, VL_keep k ts vs' h2⟩
end

/-- A resource of the call's own: a variable (its cells); a row that may grow (its element's type, cells of an element, how many elements are claimed); a map. -/
inductive RS where
  | box (cs : List TV)
  | row (t : TypeId) (k n cap : Nat)
  | map (es : List (TV × TV))
  | raw (T : TypeId) (vs : Array Value)

abbrev Res := List (Nat × RS)

def dom (s : Res) (b : Nat) : Prop := ∃ r, (b, r) ∈ s

def Sim1 (C : Claims) (w : World) (b : Nat) : RS → Prop
  | .box cs => ∃ vs t, w.heap[b]? = some (.cells vs t (0, 0)) ∧ VL C w cs vs.toList ∧ ∀ o, ¬ C b o
  | .row t k n cap => ∃ vs, w.heap[b]? = some (.cells vs t (0, 0)) ∧ n ≤ cap ∧ vs.size = cap * k ∧ ∀ o, C b o → o < n * k
  | .map es => ∃ (ms : Array MapEntry) (clock : Nat), w.heap[b]? = some (.map ms clock) ∧ VL C w (es.map Prod.fst) (ms.toList.map (·.key)) ∧ VL C w (es.map Prod.snd) (ms.toList.map (·.val)) ∧ ∀ o, ¬ C b o
  | .raw T vs => w.heap[b]? = some (.cells vs T (0, 0)) ∧ ∀ o, ¬ C b o

/-- Tables that stand from the start. -/
def tabs : List (Nat × List Value) := [(1, [.int .u64 1, .int .u64 10, .int .u64 100, .int .u64 1000, .int .u64 10000, .int .u64 100000, .int .u64 1000000, .int .u64 10000000, .int .u64 100000000, .int .u64 1000000000, .int .u64 10000000000, .int .u64 100000000000, .int .u64 1000000000000, .int .u64 10000000000000, .int .u64 100000000000000, .int .u64 1000000000000000, .int .u64 10000000000000000, .int .u64 100000000000000000, .int .u64 1000000000000000000, .int .u64 10000000000000000000])]
def Tabs (C : Claims) (w : World) : Prop := ∀ p ∈ tabs, ∀ o, C p.1 o ∧ w.cell? ⟨p.1, o, none⟩ = p.2[o]?
theorem Tabs.keep {C C' : Claims} {w w' : World} (k : Keep C w C' w') (h : Tabs C w) : Tabs C' w' := fun p hp o => ⟨(k _ _ (h p hp o).1).1, ((k _ _ (h p hp o).1).2).trans (h p hp o).2⟩
structure Sim (C : Claims) (s : Res) (w : World) : Prop where
  ok : ∀ b o, C b o → b < w.heap.size
  tabs : Tabs C w
  nodup : (s.map Prod.fst).Nodup
  at_ : ∀ b r, (b, r) ∈ s → Sim1 C w b r

theorem Sim1.lt {C : Claims} {w : World} {b : Nat} {r : RS} (h : Sim1 C w b r) : b < w.heap.size := by
  cases r with
  | box cs => obtain ⟨vs, t, h, _⟩ := h; exact (Array.getElem?_eq_some_iff.1 h).1
  | row t k n cap => obtain ⟨vs, h, _⟩ := h; exact (Array.getElem?_eq_some_iff.1 h).1
  | map es => obtain ⟨ms, cl, h, _⟩ := h; exact (Array.getElem?_eq_some_iff.1 h).1
  | raw T vs => exact (Array.getElem?_eq_some_iff.1 h.1).1

/-- What happened since: only what D holds (and what is new) may have turned. -/
structure Ev (D : Nat → Prop) (C : Claims) (w : World) (C' : Claims) (w' : World) : Prop where
  os : w'.os = w.os
  tape : w'.tape = w.tape
  output : w'.output = w.output
  size : w.heap.size ≤ w'.heap.size
  same : ∀ b, b < w.heap.size → ¬ D b → w'.heap[b]? = w.heap[b]?
  csame : ∀ b, b < w.heap.size → ¬ D b → ∀ o, C' b o → C b o
  keep : Keep C w C' w'

theorem Keep.refl (C : Claims) (w : World) : Keep C w C w := fun _ _ h => ⟨h, rfl⟩
theorem Keep.trans {C C1 C2 : Claims} {w w1 w2 : World} (h : Keep C w C1 w1) (k : Keep C1 w1 C2 w2) : Keep C w C2 w2 := fun b o hc => by
  obtain ⟨h1, h2⟩ := h b o hc
  obtain ⟨k1, k2⟩ := k b o h1
  exact ⟨k1, k2.trans h2⟩
theorem Ev.refl (D : Nat → Prop) (C : Claims) (w : World) : Ev D C w C w := ⟨rfl, rfl, rfl, Nat.le_refl _, fun _ _ _ => rfl, fun _ _ _ _ h => h, Keep.refl C w⟩
theorem Ev.trans {D D1 : Nat → Prop} {C C1 C2 : Claims} {w w1 w2 : World} (h : Ev D C w C1 w1) (k : Ev D1 C1 w1 C2 w2) (hD : ∀ b, D1 b → D b ∨ w.heap.size ≤ b) : Ev D C w C2 w2 where
  os := k.os.trans h.os
  tape := k.tape.trans h.tape
  output := k.output.trans h.output
  size := Nat.le_trans h.size k.size
  same := fun b hb hn => by
    have h1 : ¬ D1 b := fun hd => by rcases hD b hd with h | h; exact hn h; omega
    exact (k.same b (Nat.lt_of_lt_of_le hb h.size) h1).trans (h.same b hb hn)
  csame := fun b hb hn o hc => by
    have h1 : ¬ D1 b := fun hd => by rcases hD b hd with h | h; exact hn h; omega
    exact h.csame b hb hn o (k.csame b (Nat.lt_of_lt_of_le hb h.size) h1 o hc)
  keep := h.keep.trans k.keep
theorem Ev.mono {D D1 : Nat → Prop} {C C1 : Claims} {w w1 : World} (h : Ev D C w C1 w1) (hD : ∀ b, D b → D1 b ∨ w.heap.size ≤ b) : Ev D1 C w C1 w1 where
  os := h.os
  tape := h.tape
  output := h.output
  size := h.size
  same := fun b hb hn => h.same b hb fun hd => by rcases hD b hd with h | h; exact hn h; omega
  csame := fun b hb hn => h.csame b hb fun hd => by rcases hD b hd with h | h; exact hn h; omega
  keep := h.keep

theorem dom_nil (b : Nat) : ¬ dom [] b := fun ⟨_, h⟩ => by simp at h

/-- A resource that D doesn't hold goes on as it was. -/
theorem Sim1.ev {D : Nat → Prop} {C C' : Claims} {w w' : World} {b : Nat} {r : RS} (h : Sim1 C w b r) (e : Ev D C w C' w') (hD : ¬ D b) : Sim1 C' w' b r := by
  have hlt := h.lt
  cases r with
  | box cs => obtain ⟨vs, t, h1, h2, h3⟩ := h; exact ⟨vs, t, (e.same b hlt hD).trans h1, VL_keep e.keep _ _ h2, fun o hc => h3 o (e.csame b hlt hD o hc)⟩
  | row t k n cap => obtain ⟨vs, h1, h2, h3, h4⟩ := h; exact ⟨vs, (e.same b hlt hD).trans h1, h2, h3, fun o hc => h4 o (e.csame b hlt hD o hc)⟩
  | map es => obtain ⟨ms, cl, h1, h2, h3, h4⟩ := h; exact ⟨ms, cl, (e.same b hlt hD).trans h1, VL_keep e.keep _ _ h2, VL_keep e.keep _ _ h3, fun o hc => h4 o (e.csame b hlt hD o hc)⟩
  | raw T vs => exact ⟨(e.same b hlt hD).trans h.1, fun o hc => h.2 o (e.csame b hlt hD o hc)⟩

theorem Sim.drop {C : Claims} {s s' : Res} {w : World} (h : Sim C s w) (hs : s'.Sublist s) : Sim C s' w :=
  ⟨h.ok, h.tabs, h.nodup.sublist (hs.map _), fun b r hm => h.at_ b r (hs.subset hm)⟩
theorem Sim.perm {C : Claims} {s s' : Res} {w : World} (h : Sim C s w) (hs : s'.Perm s) : Sim C s' w :=
  ⟨h.ok, h.tabs, (hs.map Prod.fst).nodup_iff.2 h.nodup, fun b r hm => h.at_ b r (hs.subset hm)⟩
theorem Sim.uniq {C : Claims} {s : Res} {w : World} (h : Sim C s w) {b : Nat} {r r' : RS} (h1 : (b, r) ∈ s) (h2 : (b, r') ∈ s) : r = r' := by
  have hn := h.nodup
  clear h
  induction s with
  | nil => simp at h1
  | cons p s ih =>
    simp only [List.map_cons, List.nodup_cons, List.mem_map, Prod.exists, exists_and_right, exists_eq_right, not_exists] at hn
    rcases List.mem_cons.1 h1 with e1 | m1 <;> rcases List.mem_cons.1 h2 with e2 | m2
    · rw [← e1] at e2; injection e2 with _ e; exact e.symm
    · rw [← e1] at hn; exact absurd m2 (hn.1 r')
    · rw [← e2] at hn; exact absurd m1 (hn.1 r)
    · exact ih m1 m2 hn.2

end Go.Proofs.YtdkiijhmmmfciaaDoor
