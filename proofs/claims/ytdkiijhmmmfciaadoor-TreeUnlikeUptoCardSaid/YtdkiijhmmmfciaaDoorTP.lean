/- Slices whose elements may be written: they lie in a variable of the call's own. -/
import Derived.Test.YtdkiijhmmmfciaaDoorTO
set_option linter.unusedVariables false
set_option linter.unusedSimpArgs false
namespace Go.Proofs.YtdkiijhmmmfciaaDoor
open Go

/-- How elements lie: what an element is as a value, and as cells. -/
structure Enc {α : Type} (f : α → TV) (g : α → List TV) (k : Nat) : Prop where
  len : ∀ a, (g a).length = k
  cells : ∀ a, (f a).cells = g a
  val : ∀ (C : Claims) (w : World) (a : α) (cs : List Value), VL C w (g a) cs → ∃ u, V C w (f a) u ∧ u.cells.toList = cs
theorem EncS {α : Type} {f : α → TV} {g : α → List TV} {k : Nat} (hg : ∀ a, f a = .agg (g a)) (hk : ∀ a, (g a).length = k) : Enc f g k :=
  ⟨hk, fun a => by rw [hg]; rfl, fun C w a cs h => ⟨.agg cs.toArray, by rw [hg, V]; exact ⟨cs.toArray, rfl, by simpa using h⟩, by simp [Value.cells]⟩⟩
theorem Enc1 {α : Type} {f : α → TV} (h : ∀ a, (f a).one = true) : Enc f (fun a => [f a]) 1 :=
  ⟨fun _ => rfl, fun a => (by have := h a; cases hf : f a <;> rw [hf] at this <;> first | rfl | cases this), fun C w a cs hv => by
    rw [VL] at hv
    obtain ⟨v, vs, rfl, h1, h2⟩ := hv
    rw [VL] at h2
    subst h2
    exact ⟨v, h1, by rw [(V_one (h a) h1).1]⟩⟩
theorem Enc.list {α : Type} {f : α → TV} {g : α → List TV} {k : Nat} (e : Enc f g k) {C : Claims} {w : World} : ∀ (xs : List α) (cs : List Value), VL C w (xs.flatMap g) cs → ∃ us, VL C w (xs.map f) us ∧ flat us = cs ∧ (∀ u ∈ us, u.cells.size = k) ∧ us.length = xs.length
  | [], cs, h => by rw [List.flatMap_nil, VL] at h; subst h; exact ⟨[], by simp [VL], rfl, by simp, rfl⟩
  | a :: xs, cs, h => by
    rw [List.flatMap_cons] at h
    have h1 := VL_take h (g a).length
    have h2 := VL_drop h (g a).length
    rw [List.take_left] at h1
    rw [List.drop_left] at h2
    obtain ⟨u, hu, hc⟩ := e.val C w a _ h1
    obtain ⟨us, i1, i2, i3, i4⟩ := e.list xs _ h2
    have hlen : u.cells.size = k := by rw [← Array.length_toList, hc, VL_length h1, e.len]
    refine ⟨u :: us, by rw [List.map_cons, VL]; exact ⟨u, us, rfl, hu, i1⟩, ?_, ?_, by simp [i4]⟩
    · have : flat (u :: us) = u.cells.toList ++ flat us := by simp [flat]
      rw [this, hc, i2, List.take_append_drop]
    · intro u' hm
      rcases List.mem_cons.1 hm with rfl | hm
      · exact hlen
      · exact i3 u' hm

/-- A slice of the call's own that may be written: nil, or in a row of its own. -/
def MO {α : Type} (k : Nat) (g : α → List TV) (xs : List α) (u : TV) (r : Res) : Prop :=
  (xs = [] ∧ u = .slice .full 0 [] ∧ r = []) ∨ ∃ b cap sp, u = .mslice b xs.length cap ∧ r = [(b, .box (xs.flatMap g ++ sp))] ∧ xs.length ≤ cap ∧ sp.length = (cap - xs.length) * k
theorem MO.pos {α : Type} {k : Nat} {g : α → List TV} {xs : List α} {u : TV} {r : Res} (h : MO k g xs u r) {i : Int} {v : α} (hi : idx xs i = some v) :
    ∃ b cap sp, u = .mslice b xs.length cap ∧ r = [(b, .box (xs.flatMap g ++ sp))] ∧ xs.length ≤ cap ∧ sp.length = (cap - xs.length) * k := by
  rcases h with ⟨rfl, _, _⟩ | h
  · obtain ⟨_, h⟩ := idx_some hi; simp at h
  · exact h

theorem flatMap_len {α β : Type} {g : α → List β} {k : Nat} (hk : ∀ a, (g a).length = k) (xs : List α) : (xs.flatMap g).length = xs.length * k := by
  induction xs with
  | nil => simp
  | cons a xs ih => rw [List.flatMap_cons, List.length_append, ih, hk, List.length_cons, Nat.succ_mul, Nat.add_comm]
theorem flatMap_at {α β : Type} {g : α → List β} {k : Nat} (hk : ∀ a, (g a).length = k) : ∀ (xs : List α) (sp : List β) (j : Nat) (v : α), xs[j]? = some v → ∃ l m, xs.flatMap g ++ sp = l ++ g v ++ m ∧ l.length = j * k ∧ ∀ v', (xs.set j v').flatMap g ++ sp = l ++ g v' ++ m
  | [], sp, j, v, h => by simp at h
  | a :: xs, sp, 0, v, h => by
    simp at h; subst h
    exact ⟨[], xs.flatMap g ++ sp, by simp, by simp, fun v' => by simp⟩
  | a :: xs, sp, j + 1, v, h => by
    obtain ⟨l, m, h1, h2, h3⟩ := flatMap_at hk xs sp j v (by simpa using h)
    refine ⟨g a ++ l, m, ?_, by simp [hk, h2, Nat.succ_mul, Nat.add_comm], fun v' => ?_⟩
    · rw [List.flatMap_cons, List.append_assoc, h1]; simp
    · rw [List.set_cons_succ, List.flatMap_cons, List.append_assoc, h3]; simp

section
variable {P : Program} {n : Nat} {E : Env} {s : Res} {Q : AQ} {o : Oper} {τ : Operand → TV}
theorem p_lenM {T : TypeId} {x : Operand} {α : Type} {k : Nat} {g : α → List TV} {xs : List α} {u : TV} {r : Res} (h : MO k g xs u r) (hT : isSlice P T = true) (ho : o.op = .call { callee := .builtin .len, args := #[x], argTypes := #[T] }) (h1 : τ x = u) : PureS P o τ s (.int .i64 xs.length) := by
  rcases h with ⟨rfl, rfl, _⟩ | ⟨b, cap, sp, rfl, _, hle, _⟩
  · exact p_len hT ho h1
  · refine PureS.val fun C w a hs hx => ?_
    obtain ⟨e, hT⟩ := isSlice_at hT
    rw [ho] at hx
    have hx1 := hx x (by simp [Op.operands, Call.operands])
    rw [h1, V] at hx1
    obtain ⟨he, _, hb⟩ := hx1
    refine ⟨.int .i64 xs.length, ?_, V_int ((fits_iff _ _).2 ⟨by simp only [lo]; omega, by simp only [hi]; omega⟩)⟩
    simp [execOp, ho, resolve, invoke, builtin, Builtin.len_, he, run_underlying hT, goInt]
theorem p_idxM {T : TypeId} {x y : Operand} {b m cap k : Nat} {kk : IntKind} {i : Int} (h0 : 0 ≤ i) (hlt : i < m) (hT : slB P T k = true) (ho : o.op = .indexAddr T x y) (h1 : τ x = .mslice b m cap) (h2 : τ y = .int kk i) : PureS P o τ s (.ptr b (i.toNat * k)) := PureS.val fun C w a hs hx => by
  obtain ⟨e, hT, hsz⟩ := slB_at hT
  rw [ho] at hx
  have hx1 := hx x (by simp [Op.operands])
  have hx2 := hx y (by simp [Op.operands])
  rw [h1, V] at hx1
  rw [h2, V] at hx2
  obtain ⟨he, _, _⟩ := hx1
  refine ⟨.pointer (some ⟨b, i.toNat * k, none⟩), ?_, by rw [V]⟩
  have e1 : (⟨b, 0, none⟩ : Addr).add (i.toNat * k) = ⟨b, i.toNat * k, none⟩ := by unfold Addr.add; split <;> simp_all
  simp [execOp, ho, Instr.indexAt, asIntOf, hx2.1, he, run_underlying hT, h0, hlt, hsz, e1]
theorem p_loadM {T : TypeId} {x : Operand} {α : Type} {g : α → List TV} {k : Nat} {xs : List α} {sp : List TV} {v : α} {b j off sz : Nat} {ag : Bool} (hk : ∀ a, (g a).length = k) (hj : xs[j]? = some v) (hT : tiB P T ag sz = true) (h0 : ag = false → sz = 1) (hoff : off + sz ≤ k)
    (ho : o.op = .load T x) (h1 : τ x = .ptr b (j * k + off)) (hb : (b, RS.box (xs.flatMap g ++ sp)) ∈ s) : PureS P o τ s (varTV ag (((g v).drop off).take sz)) := by
  obtain ⟨l, m, e1, e2, _⟩ := flatMap_at hk xs sp j v hj
  rw [e1] at hb
  refine (p_load_ptr hT h0 ho h1 hb (by rw [List.length_append, List.length_append, e2, hk]; omega)).eq ?_
  congr 1
  rw [List.append_assoc, ← e2, ← List.drop_drop, List.drop_left]
  rw [List.drop_append_of_le_length (by rw [hk]; omega), List.take_append_of_le_length (by rw [List.length_drop, hk]; omega)]
theorem a_storeM {T : TypeId} {x y : Operand} {α : Type} {g : α → List TV} {k : Nat} {xs : List α} {sp : List TV} {v v' : α} {b j off i sz : Nat} {ag : Bool} (hk : ∀ a, (g a).length = k) (hj : xs[j]? = some v) (hT : tiB P T ag sz = true) (hoff : off + sz ≤ k) (ho : o.op = .store T x y) (h1 : opTV E x = .ptr b (j * k + off)) (hb : s[i]? = some (b, .box (xs.flatMap g ++ sp)))
    (hkn : (opTV E y).known = true) (ht : ∀ vs, opTV E y ≠ .tuple vs) (hsz : (opTV E y).cells.length = sz) (hone : allOne (opTV E y).cells = true) (hv : g v' = splice (g v) off (opTV E y).cells) (hd : o.dst = none) :
    AStep P n o E s Q fun E' s' => E' = E ∧ s' = s.set i (b, .box ((xs.set j v').flatMap g ++ sp)) := by
  obtain ⟨l, m, e1, e2, e3⟩ := flatMap_at hk xs sp j v hj
  have := a_store (n := n) (Q := Q) hT ho h1 hb hkn ht hsz hone (by rw [e1, List.length_append, List.length_append, e2, hk]; omega) hd
  have e4 : splice (xs.flatMap g ++ sp) (j * k + off) (opTV E y).cells = (xs.set j v').flatMap g ++ sp := by
    rw [e3, e1, hv]
    simp only [splice]
    have hl : l.length = j * k := e2
    have ho' : off + (opTV E y).cells.length ≤ (g v).length := by rw [hsz, hk]; exact hoff
    rw [List.append_assoc l, List.take_append, List.drop_append, hl]
    rw [show j * k + off - j * k = off from by omega, show j * k + off + (opTV E y).cells.length - j * k = off + (opTV E y).cells.length from by omega]
    rw [List.take_of_length_le (by omega), List.drop_of_length_le (by omega)]
    rw [List.take_append_of_le_length (by omega), List.drop_append_of_le_length (by omega)]
    simp
  rw [e4] at this
  exact this

theorem VL_flat {C : Claims} {w : World} {α : Type} {f : α → TV} {g : α → List TV} {k : Nat} (e : Enc f g k) (hf : flatE f) : ∀ (xs : List α) (us : List Value), VL C w (xs.map f) us → VL C w (xs.flatMap g) (flat us)
  | [], us, h => by rw [List.map_nil, VL] at h; subst h; simp [flat, VL]
  | a :: xs, us, h => by
    rw [List.map_cons, VL] at h
    obtain ⟨v, vs, rfl, h1, h2⟩ := h
    have hc := V_cells (hf a).2.1 (hf a).2.2 h1
    rw [e.cells] at hc
    rw [List.flatMap_cons]
    have : flat (v :: vs) = v.cells.toList ++ flat vs := by simp [flat]
    rw [this]
    exact VL_append hc (VL_flat e hf xs vs h2)
theorem VL_one {C : Claims} {w : World} {α : Type} {f : α → TV} (hf : flatE f) : ∀ (xs : List α) (us : List Value), VL C w (xs.map f) us → ∀ u ∈ flat us, u.oneCell' = true
  | [], us, h => by rw [List.map_nil, VL] at h; subst h; simp [flat]
  | a :: xs, us, h => by
    rw [List.map_cons, VL] at h
    obtain ⟨v, vs, rfl, h1, h2⟩ := h
    intro u hu
    have : flat (v :: vs) = v.cells.toList ++ flat vs := by simp [flat]
    rw [this, List.mem_append] at hu
    rcases hu with hu | hu
    · exact VL_allOne (hf a).1 (V_cells (hf a).2.1 (hf a).2.2 h1) u hu
    · exact VL_one hf xs vs h2 u hu
/-- A new block with these elements and spare room. -/
theorem fresh_MO {C : Claims} {w W : World} {α : Type} {g : α → List TV} {k : Nat} {ys : List α} {olds : List Value} {cells : Array Value} {e : TypeId} {pre post : Res} (hk : ∀ a, (g a).length = k) (hs : Sim C (pre ++ post) w) (hp : Pushed w W (.cells cells e)) (hV : VL C w (ys.flatMap g) olds) {cap : Nat} (hpre : cells.toList.take olds.length = olds) (hle : ys.length ≤ cap) (hsz : cells.size = cap * k) :
    ∃ r', MO k g ys (.mslice w.heap.size ys.length cap) r' ∧ Sim C (pre ++ r' ++ post) W ∧ ∀ b, dom (pre ++ r' ++ post) b → dom (pre ++ post) b ∨ w.heap.size ≤ b := by
  have hol : olds.length = ys.length * k := by rw [VL_length hV, flatMap_len hk]
  have hmul : ys.length * k ≤ cap * k := Nat.mul_le_mul_right _ hle
  have hC := newC_zero C w.heap.size
  have hev := hp.ev (C := C) (m := 0) (fun _ => False) hs.ok
  rw [hC] at hev
  refine ⟨_, .inr ⟨w.heap.size, cap, List.replicate (cells.size - olds.length) .any, rfl, rfl, hle, ?_⟩, ?_, ?_⟩
  · rw [List.length_replicate, hsz, hol, Nat.sub_mul]
  · have h1 := hp.sim_cons (m := 0) hs (r := .box (ys.flatMap g ++ List.replicate (cells.size - olds.length) .any)) ⟨cells, e, hp.new, by
      rw [hC]
      have e1 : cells.toList = olds ++ cells.toList.drop olds.length := by
        have := (List.take_append_drop olds.length cells.toList).symm
        rwa [hpre] at this
      rw [e1]
      refine VL_append (VL_keep hev.keep _ _ hV) ?_
      have := VL_any C W (cells.toList.drop olds.length)
      rwa [List.length_drop, Array.length_toList] at this, fun o hc => by rw [hC] at hc; have := hs.ok _ _ hc; omega⟩
    rw [hC] at h1
    refine h1.perm ?_
    simp only [List.append_assoc, List.cons_append, List.nil_append]
    exact List.perm_middle
  · rintro b ⟨q, hm⟩
    simp only [List.append_assoc, List.cons_append, List.nil_append, List.mem_append, List.mem_cons] at hm
    rcases hm with hm | hm | hm
    · exact .inl ⟨q, by simp [hm]⟩
    · injection hm with hm; exact .inr (by omega)
    · exact .inl ⟨q, by simp [hm]⟩

/-- append(x, y...), x one that may be written. -/
theorem a_appM {T e k bytes : Nat} {x y : Operand} {pre r post : Res} {oy : Own} {ky : Nat} {α : Type} {f : α → TV} {g : α → List TV} {xs ys zs : List α} {u : TV} (en : Enc f g k) (hz : app bytes xs ys = some zs) (hf : flatE f) (hT : appB P T e k bytes = true) (ho : o.op = .call { callee := .builtin .append, args := #[x, y], argTypes := #[T, T] })
    (h1 : opTV E x = u) (h2 : opTV E y = .slice oy ky (ys.map f)) (hky : ys = [] ∨ ky = k) (hMO : MO k g xs u r) (F : Res → Res) (hF : ∀ r, F r = pre ++ r ++ post) (hs' : s = F r) :
    AStep P n o E s Q fun E' s' => ∃ u' r', MO k g zs u' r' ∧ E' = putE E o.dst u' ∧ s' = F r' := AStep.of fun C w tm hs hE hx => by
  obtain ⟨hb, rfl⟩ := app_some hz
  rw [hF] at hs'
  subst hs'
  rw [ho] at hx
  have hx1 := hx x (by simp [Op.operands, Call.operands])
  have hx2 := hx y (by simp [Op.operands, Call.operands])
  rw [h1] at hx1
  rw [h2, V] at hx2
  obtain ⟨A', c', us, hv', _, _, hV', hsz', _, hmem'⟩ := hx2
  have hly : us.length = ys.length := by have := VL_length hV'; simpa using this
  have hsz2 : ∀ u ∈ us, u.cells.size = k := by
    rcases hky with rfl | rfl
    · have : us = [] := List.eq_nil_of_length_eq_zero (by simpa using hly)
      subst this; simp
    · exact hsz'
  have hone := VL_one hf ys us hV'
  have hVy := VL_flat en hf ys us hV'
  have hflu := flat_length us hsz2
  obtain ⟨i, z, hTe, hi, hik, hib, hzz, hzk, hk0, hb0⟩ := appB_at hT
  have h63 : xs.length + ys.length ≤ 140737488355328 := Nat.le_trans (Nat.le_mul_of_pos_right _ hb0) hb
  rcases Nat.eq_zero_or_pos us.length with h0 | hpos
  · have hu0 : us = [] := List.eq_nil_of_length_eq_zero h0
    have hy0 : ys = [] := List.eq_nil_of_length_eq_zero (by omega)
    subst hu0; subst hy0
    refine ⟨(⟨tm, []⟩ : Act).eval x, C, w, u, _, ?_, hx1, ⟨u, r, by rw [List.append_nil]; exact hMO, rfl, rfl⟩, by rw [hF]; exact hs, Ev.refl _ _ _, fun b h => .inl (by rw [hF] at h; exact h)⟩
    have hv : ∃ A n c, (⟨tm, []⟩ : Act).eval x = .slice A n c ∧ n ≤ c := by
      rcases hMO with ⟨_, rfl, _⟩ | ⟨b, cap, sp, rfl, _, hle, _⟩
      · rw [V] at hx1; obtain ⟨A, c, os, e1, e2, _⟩ := hx1; exact ⟨A, _, c, e1, e2⟩
      · rw [V] at hx1; exact ⟨_, _, cap, hx1.1, hle⟩
    obtain ⟨A, m, c, hv, hmc⟩ := hv
    cases A <;> cases A' <;> simp [execOp, ho, resolve, invoke, builtin, hv, hv', Builtin.append_, run_underlying hTe, sizeOf, typeInfo, hi, Builtin.lenOf, hmc, Builtin.firstCells, loadCells, loadCellsFrom, storeCells]
  · obtain ⟨a', rfl, hM'⟩ := hmem' hpos
    have hnews : ∀ j u, (flat us)[j]? = some u → w.cell? (a'.add j) = some u := fun j u hj => (hM' j u hj).1
    have hfin : ∀ (olds : List Value) (v : Value) (W : World) (cap : Nat) (zc : Array Value), VL C w (xs.flatMap g) olds → Pushed w W (.cells (olds.toArray ++ (flat us).toArray ++ zc) e) → xs.length + us.length ≤ cap → zc.size = (cap - (xs.length + us.length)) * k → xs.length + us.length ≤ 281474976710656 →
        v = .slice (some ⟨w.heap.size, 0, none⟩) (xs.length + us.length) cap → ∃ u' r', MO k g (xs ++ ys) u' r' ∧ V C W u' v ∧ Sim C (F r') W ∧ Ev (dom (pre ++ r ++ post)) C w C W ∧ ∀ b, dom (F r') b → dom (pre ++ r ++ post) b ∨ w.heap.size ≤ b := fun olds v W cap zc hVo hp hcap hzc hbig hv => by
      have hs0 : Sim C (pre ++ post) w := hs.drop (by
        rw [List.append_assoc]
        exact List.Sublist.append (List.Sublist.refl _) (List.sublist_append_right _ _))
      have hVn : VL C w ((xs ++ ys).flatMap g) (olds ++ flat us) := by rw [List.flatMap_append]; exact VL_append hVo hVy
      have hol : olds.length = xs.length * k := by rw [VL_length hVo, flatMap_len en.len]
      obtain ⟨r', m1, m2, m3⟩ := fresh_MO (cap := cap) en.len hs0 hp hVn (by
        simp only [Array.toList_append]
        rw [List.take_left' rfl]) (by rw [List.length_append, ← hly]; exact hcap) (by
        simp [hol, hflu, hzc, ← Nat.add_mul]; congr 1; omega)
      refine ⟨_, r', m1, ?_, by rw [hF]; exact m2, ?_, ?_⟩
      · rw [V, List.length_append, ← hly]; exact ⟨hv, hcap, hbig⟩
      · have := hp.ev (C := C) (m := 0) (dom (pre ++ r ++ post)) hs.ok
        rwa [newC_zero] at this
      · intro b hb'
        rw [hF] at hb'
        rcases m3 b hb' with ⟨q, hm⟩ | h
        · refine .inl ⟨q, ?_⟩
          rcases List.mem_append.1 hm with hm | hm <;> simp [hm]
        · exact .inr h
    have hb2 : (xs.length + us.length) * i.bytes ≤ 140737488355328 := by rw [hib, hly]; exact hb
    rcases hMO with ⟨rfl, rfl, rfl⟩ | ⟨b, cap, sp, rfl, rfl, hle, hsp⟩
    · rw [V] at hx1
      obtain ⟨A, c, os, hv, hc, hbo, hV, hsz, hok, hmem⟩ := hx1
      have hos : os = [] := by rw [VL] at hV; exact hV
      subst hos
      obtain ⟨v', w', hrun, hwent⟩ := app_run (P := P) (ty := o.type) (xs := []) hT hs (.inl ⟨rfl, rfl⟩) hv hc hV (by simp) hok hmem (A' := some a') (c' := c') hsz2 hmem' (by simpa [hib] using hb2) hone
      have hrun2 : (execOp (⟨tm, []⟩ : Act).eval o).run P w = .ok (.value v') w' := by
        rw [← hv'] at hrun
        simp [execOp, ho, resolve, invoke, builtin, hrun]
      cases hwent with
      | same hm => omega
      | room hv2 hg hroom hcur =>
        rw [hv] at hv2; injection hv2 with _ _ h3
        have : c = 0 := hok
        simp at hroom; omega
      | @grow cap zc hcap hzc hm =>
        obtain ⟨u', r', g1, g2, g3, g4, g5⟩ := hfin [] _ _ cap zc (by simp [VL]) (Pushed.drew w _) (by simpa using hcap) (by simpa using hzc) (by simp at h63 ⊢; omega) rfl
        exact ⟨_, C, _, u', _, hrun2, by simpa [flat] using g2, ⟨u', r', g1, rfl, rfl⟩, by simpa [flat] using g3, by simpa [flat] using g4, g5⟩
    · rw [V] at hx1
      obtain ⟨hv, _, hbig⟩ := hx1
      have hmem : (b, RS.box (xs.flatMap g ++ sp)) ∈ pre ++ [(b, RS.box (xs.flatMap g ++ sp))] ++ post := by simp
      obtain ⟨vs, ty, hheap, hVL, hno⟩ := hs.at_ _ _ hmem
      have hvl : vs.size = cap * k := by
        have := VL_length hVL
        rw [Array.length_toList, List.length_append, flatMap_len en.len, hsp, ← Nat.add_mul] at this
        rw [this]; congr 1; omega
      have hV1 := VL_take hVL (xs.flatMap g).length
      rw [List.take_left] at hV1
      have hol := VL_length hV1
      have holds : ∀ j u, (vs.toList.take (xs.flatMap g).length)[j]? = some u → w.cell? ((⟨b, 0, none⟩ : Addr).add j) = some u := fun j u hj => by
        have e1 : (⟨b, 0, none⟩ : Addr).add j = ⟨b, j, none⟩ := by unfold Addr.add; split <;> simp_all
        rw [e1]
        rw [List.getElem?_take] at hj
        split at hj
        · simp only [World.cell?, hheap]; simpa using hj
        · cases hj
      by_cases hroom : xs.length + us.length ≤ cap
      · have hmul : (xs.length + us.length) * k ≤ cap * k := Nat.mul_le_mul_right _ hroom
        rw [Nat.add_mul] at hmul
        have hfc := run_firstCells_some (P := P) w i.size us.length a' us.length c' (flat us) (by rw [hik]; exact hflu) hnews
        rw [hik] at hfc
        have hst := run_storeCells_at P b (xs.length * k) ty (flat us) 0 vs w hheap (by simp; omega) hone
        simp only [Nat.add_zero] at hst
        have hrun : (execOp (⟨tm, []⟩ : Act).eval o).run P w = .ok (.value (.slice (some ⟨b, 0, none⟩) (xs.length + us.length) cap)) (w.setRow b (splice vs.toList (xs.length * k) (flat us)).toArray) := by
          have e1 : (⟨b, 0, none⟩ : Addr).add (xs.length * k) = ⟨b, xs.length * k, none⟩ := by unfold Addr.add; split <;> simp_all
          simp [execOp, ho, resolve, invoke, builtin, hv, hv', Builtin.append_, run_underlying hTe, sizeOf, typeInfo, hi, Builtin.lenOf, hroom, hik, hfc, e1, hst, splice]
        have hd : dom (pre ++ [(b, RS.box (xs.flatMap g ++ sp))] ++ post) b := ⟨_, hmem⟩
        have hev := setRow_ev (C := C) (s := pre ++ [(b, RS.box (xs.flatMap g ++ sp))] ++ post) (new := (splice vs.toList (xs.length * k) (flat us)).toArray) hheap hd fun o' hc => absurd hc (hno o')
        have hev1 := setRow_ev (C := C) (s := [(b, .box [])]) (new := (splice vs.toList (xs.length * k) (flat us)).toArray) hheap ⟨_, List.mem_singleton.2 rfl⟩ fun o' hc => absurd hc (hno o')
        have hj : (pre ++ [(b, RS.box (xs.flatMap g ++ sp))] ++ post)[pre.length]? = some (b, RS.box (xs.flatMap g ++ sp)) := by simp
        have hcs : splice (xs.flatMap g ++ sp) (xs.length * k) (ys.flatMap g) = (xs ++ ys).flatMap g ++ sp.drop (ys.length * k) := by
          simp only [splice]
          have hl : (xs.flatMap g).length = xs.length * k := flatMap_len en.len xs
          rw [← hl, List.take_left, ← List.drop_drop, List.drop_left, flatMap_len en.len ys, List.flatMap_append]
        have ht := hs.turn hj (r' := .box ((xs ++ ys).flatMap g ++ sp.drop (ys.length * k))) (C' := C) (w' := w.setRow b (splice vs.toList (xs.length * k) (flat us)).toArray) (fun b' o' h => Nat.lt_of_lt_of_le (hs.ok b' o' h) hev.size) (hev1.mono fun b' ⟨q, hq⟩ => .inl (by simp at hq; exact hq.1))
          ⟨_, ty, setRow_heap w b vs _ ty _ hheap, by rw [← hcs]; simpa using VL_splice (VL_keep hev.keep _ _ hVL) (VL_keep hev.keep _ _ hVy), hno⟩
        have e2 : (pre ++ [(b, RS.box (xs.flatMap g ++ sp))] ++ post).set pre.length (b, .box ((xs ++ ys).flatMap g ++ sp.drop (ys.length * k))) = pre ++ [(b, .box ((xs ++ ys).flatMap g ++ sp.drop (ys.length * k)))] ++ post := by simp
        rw [e2] at ht
        refine ⟨_, C, _, .mslice b (xs ++ ys).length cap, _, hrun, ?_, ⟨_, [(b, .box ((xs ++ ys).flatMap g ++ sp.drop (ys.length * k)))], .inr ⟨b, cap, _, rfl, rfl, by rw [List.length_append, ← hly]; exact hroom, ?_⟩, rfl, rfl⟩, by rw [hF]; exact ht, hev, ?_⟩
        · rw [V, List.length_append, ← hly]; exact ⟨rfl, hroom, by omega⟩
        · rw [List.length_drop, hsp, ← Nat.sub_mul, List.length_append]; congr 1; omega
        · rintro b' ⟨q, hm⟩
          rw [hF] at hm
          simp only [List.append_assoc, List.cons_append, List.nil_append, List.mem_append, List.mem_cons] at hm
          rcases hm with hm | hm | hm
          · exact .inl ⟨q, by simp [hm]⟩
          · injection hm with hm; subst hm; exact .inl hd
          · exact .inl ⟨q, by simp [hm]⟩
      · have hlt : cap < xs.length + us.length := by omega
        have hr := run_append_grow (P := P) w T o.type e i z hTe hi hzz ⟨b, 0, none⟩ xs.length cap (vs.toList.take (xs.flatMap g).length) (by rw [hol, flatMap_len en.len, hik]) holds a' us.length c' (flat us) (by rw [hik]; exact hflu) hnews hlt (by omega) (growslice_fits hlt hb2)
        have hrun : (execOp (⟨tm, []⟩ : Act).eval o).run P w = .ok (.value (.slice (some ⟨w.heap.size, 0, none⟩) (xs.length + us.length) (grownCap w (xs.length + us.length) cap e)))
            (w.drew.alloc (.cells ((vs.toList.take (xs.flatMap g).length).toArray ++ (flat us).toArray ++ Builtin.zeroCells z.cells (grownCap w (xs.length + us.length) cap e - (xs.length + us.length))) e)) := by
          rw [← hv, ← hv'] at hr
          simp only [execOp, ho, resolve, invoke, builtin]
          simp [hr]
        obtain ⟨u', r', g1, g2, g3, g4, g5⟩ := hfin _ _ _ (grownCap w (xs.length + us.length) cap e) (Builtin.zeroCells z.cells (grownCap w (xs.length + us.length) cap e - (xs.length + us.length))) hV1 (Pushed.drew w _) (grownCap_ge _ _ _ _) (by simp [size_zeroCells, hzk]) (by omega) rfl
        exact ⟨_, C, _, u', _, hrun, g2, ⟨u', r', g1, rfl, rfl⟩, g3, g4, g5⟩

/-- The slice is written no more: all may know what it holds. -/
theorem ghost_freeze {t : Nat} {α : Type} {f : α → TV} {g : α → List TV} {k : Nat} {xs : List α} {u : TV} {r : Res} (e : Enc f g k) (h : MO k g xs u r) (ht : t < n) (hl : look E t = u) (F : Res → Res) (pre post : Res) (hF : ∀ r, F r = pre ++ r ++ post) (hs : s = F r) :
    Ghost n E s ((t, .slice .ro k (xs.map f)) :: E) (F []) := by
  intro C w tm hsim hE
  rcases h with ⟨rfl, rfl, rfl⟩ | ⟨b, cap, sp, rfl, rfl, hle, hsp⟩
  · subst hs
    refine ⟨C, hsim, ?_, Ev.refl _ _ _, fun _ h => h⟩
    exact EnvLe.put (by rw [hl]; exact TVle.nilro) C w tm hE
  · rw [hF] at hs
    subst hs
    have hmem : (b, RS.box (xs.flatMap g ++ sp)) ∈ pre ++ [(b, RS.box (xs.flatMap g ++ sp))] ++ post := by simp
    obtain ⟨vs, ty, hheap, hVL, hno⟩ := hsim.at_ _ _ hmem
    have hblt : b < w.heap.size := (Array.getElem?_eq_some_iff.1 hheap).1
    have hkeep : Keep C w (newC C b (xs.length * k)) w := fun b o h => ⟨.inl h, rfl⟩
    have hev : ∀ D : Nat → Prop, D b → Ev D C w (newC C b (xs.length * k)) w := fun D hD => ⟨rfl, rfl, rfl, Nat.le_refl _, fun _ _ _ => rfl, fun b' _ hn o hc => hc.elim id fun ⟨e1, _⟩ => absurd (e1 ▸ hD) hn, hkeep⟩
    have hV1 := VL_take hVL (xs.flatMap g).length
    rw [List.take_left] at hV1
    obtain ⟨us, i1, i2, i3, i4⟩ := e.list xs _ hV1
    have hfl : (flat us).length = xs.length * k := by rw [i2, VL_length hV1, flatMap_len e.len]
    refine ⟨newC C b (xs.length * k), ?_, ?_, hev _ ⟨_, hmem⟩, ?_⟩
    · rw [hF, List.append_nil]
      have hs0 : Sim C (pre ++ post) w := hsim.drop (by
        rw [List.append_assoc]
        exact List.Sublist.append (List.Sublist.refl _) (List.sublist_append_right _ _))
      refine ⟨fun b' o hc => hc.elim (hsim.ok b' o) fun ⟨e1, _⟩ => e1 ▸ hblt, hsim.tabs.keep hkeep, hs0.nodup, fun b' r' hm => (hs0.at_ b' r' hm).ev (hev (fun x => x = b) rfl) ?_⟩
      rintro rfl
      have hnd := hsim.nodup
      simp only [List.map_append, List.map_cons, List.map_nil, List.append_assoc, List.cons_append, List.nil_append] at hnd
      have := List.perm_middle.nodup_iff.1 hnd
      rw [List.nodup_cons] at this
      exact this.1 (by rw [← List.map_append]; exact List.mem_map.2 ⟨_, hm, rfl⟩)
    · have hv := hE.at_ t ht
      rw [hl, V] at hv
      obtain ⟨hv, _, hb⟩ := hv
      have hE' := hE.keep hkeep
      refine ⟨hE'.size, fun t' ht' => ?_⟩
      rw [look_cons]
      split
      · rename_i et
        subst et
        rw [V]
        refine ⟨_, cap, us, by rw [hv, i4], by omega, by omega, VL_keep hkeep _ _ i1, i3, trivial, fun hp => ⟨_, rfl, fun j u hj => ?_⟩⟩
        have e1 : (⟨b, 0, none⟩ : Addr).add j = ⟨b, j, none⟩ := by unfold Addr.add; split <;> simp_all
        rw [e1]
        have hjl : j < xs.length * k := by rw [← hfl]; exact (List.getElem?_eq_some_iff.1 hj).1
        refine ⟨?_, .inr ⟨rfl, hjl⟩⟩
        rw [i2, flatMap_len e.len, List.getElem?_take, if_pos hjl] at hj
        simp only [World.cell?, hheap]
        simpa using hj
      · exact hE'.at_ t' ht'
    · rintro b' ⟨r', hm⟩
      rw [hF] at hm
      simp only [List.append_assoc, List.nil_append, List.mem_append] at hm
      rcases hm with hm | hm
      · exact ⟨r', by simp [hm]⟩
      · exact ⟨r', by simp [hm]⟩
end
end Go.Proofs.YtdkiijhmmmfciaaDoor
