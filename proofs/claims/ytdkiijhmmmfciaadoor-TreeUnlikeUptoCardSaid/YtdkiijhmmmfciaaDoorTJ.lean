/- Operations over tree values: append, as an operation; struct literals; conversions; calls. -/
import Derived.Test.YtdkiijhmmmfciaaDoorTI
set_option linter.unusedVariables false
set_option linter.unusedSimpArgs false
namespace Go.Proofs.YtdkiijhmmmfciaaDoor
open Go

section
variable {P : Program} {o : Oper} {τ : Operand → TV} {s : Res} {n : Nat} {E : Env} {Q : AQ}

theorem app_run {C : Claims} {w : World} {pre r post : Res} {ow : Own} {T e k bytes : Nat} {xs : List TV} {v : Value} {ty : TypeId} (hT : appB P T e k bytes = true) (hs : Sim C (pre ++ r ++ post) w) (hown : Owned e k ow xs.length r)
    {A : Option Addr} {c : Nat} {os us : List Value} (hv : v = .slice A os.length c) (hc : os.length ≤ c) (hV : VL C w xs os) (hsz : ∀ u ∈ os, u.cells.size = k) (hok : OwnOk ow A os.length c) (hmem : 0 < os.length → ∃ a, A = some a ∧ Mem C w a (flat os))
    {A' : Option Addr} {c' : Nat} (hszy : ∀ u ∈ us, u.cells.size = k) (hmemy : 0 < us.length → ∃ a, A' = some a ∧ Mem C w a (flat us)) (hb : (os.length + us.length) * bytes ≤ 140737488355328) (hone : ∀ u ∈ flat us, u.oneCell' = true) :
    ∃ v' w', (Builtin.append_ #[T, T] ty #[v, .slice A' us.length c']).run P w = .ok v' w' ∧ Went1 w e k v (flat os) (flat us) os.length us.length v' w' := by
  obtain ⟨i, z, hTe, hi, hik, hib, hz, hzk, hk0, hb0⟩ := appB_at hT
  subst hik
  have hflo := flat_length os hsz
  have hflu := flat_length us hszy
  have h63 : os.length + us.length ≤ 140737488355328 := Nat.le_trans (Nat.le_mul_of_pos_right _ hb0) hb
  rw [← hib] at hb
  subst hv
  rcases Nat.eq_zero_or_pos us.length with h0 | hpos
  · have hu0 : us = [] := List.eq_nil_of_length_eq_zero h0
    subst hu0
    refine ⟨_, w, ?_, .same rfl⟩
    cases A <;> cases A' <;> simp [Builtin.append_, run_underlying hTe, sizeOf, typeInfo, hi, Builtin.lenOf, hc, Builtin.firstCells, loadCells, loadCellsFrom, storeCells]
  · obtain ⟨a', rfl, hM'⟩ := hmemy hpos
    have hnews : ∀ j u, (flat us)[j]? = some u → w.cell? (a'.add j) = some u := fun j u hj => (hM' j u hj).1
    have grow : ∀ a, A = some a → c < os.length + us.length → (∀ j u, (flat os)[j]? = some u → w.cell? (a.add j) = some u) → ∃ v' w', (Builtin.append_ #[T, T] ty #[.slice A os.length c, .slice (some a') us.length c']).run P w = .ok v' w' ∧ Went1 w e i.size (.slice A os.length c) (flat os) (flat us) os.length us.length v' w' := by
      intro a ha hlt holds
      subst ha
      have hr := run_append_grow (P := P) w T ty e i z hTe hi hz a os.length c (flat os) hflo holds a' us.length c' (flat us) hflu hnews hlt (by omega) (growslice_fits hlt hb)
      exact ⟨_, _, hr, .grow (grownCap_ge _ _ _ _) (by simp [size_zeroCells, hzk]) hpos⟩
    rcases hown with ⟨rfl, rfl⟩ | ⟨b, cap', rfl, rfl⟩
    · have hcn : c = os.length := hok
      subst hcn
      cases hA : A with
      | none =>
        have hn0 : os.length = 0 := Nat.eq_zero_of_not_pos fun h => by obtain ⟨a, ha, _⟩ := hmem h; rw [hA] at ha; cases ha
        have ho0 : os = [] := List.eq_nil_of_length_eq_zero hn0
        subst ho0
        have hr := run_append_nil (P := P) w T ty e i z hTe hi hz a' us.length c' (flat us) hflu hnews hpos (by simp at h63; omega) (by simp at hb; omega)
        refine ⟨_, _, hr, ?_⟩
        have := Went1.grow (w := w) (e := e) (k := i.size) (v := .slice none 0 0) (olds := []) (news := flat us) (n := 0) (m := us.length) (cap := grownCap w us.length 0 e) (zs := Builtin.zeroCells z.cells (grownCap w us.length 0 e - us.length)) (by simpa using grownCap_ge _ _ _ _) (by simp [size_zeroCells, hzk]) hpos
        simpa [flat] using this
      | some a =>
        subst hA
        refine grow a rfl (by omega) fun j u hj => ?_
        rcases Nat.eq_zero_or_pos os.length with h0 | h1
        · rw [List.eq_nil_of_length_eq_zero h0] at hj; simp [flat] at hj
        · obtain ⟨a2, ha2, hM⟩ := hmem h1
          injection ha2 with ha2; subst ha2
          exact (hM j u hj).1
    · obtain ⟨rfl, rfl⟩ := hok
      obtain ⟨cur, hg, _, hcur, _⟩ := hs.at_ b _ (List.mem_append.2 (.inl (List.mem_append.2 (.inr (List.mem_singleton.2 rfl)))))
      by_cases hroom : os.length + us.length ≤ c
      · have hfit : os.length * i.size + (flat us).length ≤ cur.size := by rw [hflu, hcur, ← Nat.add_mul]; exact Nat.mul_le_mul_right _ hroom
        have hr := run_append_room (P := P) w T ty e i hTe hi b os.length c cur hg a' us.length c' (flat us) hflu hnews hone hroom hfit
        exact ⟨_, _, hr, .room rfl hg hroom hcur⟩
      · refine grow _ rfl (by omega) fun j u hj => ?_
        rcases Nat.eq_zero_or_pos os.length with h0 | h1
        · rw [List.eq_nil_of_length_eq_zero h0] at hj; simp [flat] at hj
        · obtain ⟨a2, ha2, hM⟩ := hmem h1
          injection ha2 with ha2; subst ha2
          exact (hM j u hj).1

/-- append(x, y...), x one that may grow. -/
theorem a_append {T e k bytes : Nat} {x y : Operand} {pre r post : Res} {ow oy : Own} {kx ky : Nat} {xs ys : List TV} (hT : appB P T e k bytes = true) (ho : o.op = .call { callee := .builtin .append, args := #[x, y], argTypes := #[T, T] })
    (h1 : opTV E x = .slice ow kx xs) (h2 : opTV E y = .slice oy ky ys) (hkx : xs = [] ∨ kx = k) (hky : ys = [] ∨ ky = k) (hone : ∀ y ∈ ys, allOne y.cells = true ∧ y.known = true ∧ ∀ vs, y ≠ .tuple vs) (hown : Owned e k ow xs.length r) (hs' : s = pre ++ r ++ post) (hb : (xs.length + ys.length) * bytes ≤ 140737488355328) :
    AStep P n o E s Q fun E' s' => ∃ ow' r', Owned e k ow' (xs.length + ys.length) r' ∧ E' = putE E o.dst (.slice ow' k (xs ++ ys)) ∧ s' = pre ++ r' ++ post := AStep.of fun C w tm hs hE hx => by
  subst hs'
  rw [ho] at hx
  have hx1 := hx x (by simp [Op.operands, Call.operands])
  have hx2 := hx y (by simp [Op.operands, Call.operands])
  rw [h1, V] at hx1
  rw [h2, V] at hx2
  obtain ⟨A, c, os, hv, hc, hbo, hV, hsz, hok, hmem⟩ := hx1
  obtain ⟨A', c', us, hv', _, _, hV', hsz', _, hmem'⟩ := hx2
  have hlx := VL_length hV
  have hly := VL_length hV'
  have hsz1 : ∀ u ∈ os, u.cells.size = k := by
    rcases hkx with rfl | rfl
    · have : os = [] := List.eq_nil_of_length_eq_zero (by simpa using hlx)
      subst this; simp
    · exact hsz
  have hsz2 : ∀ u ∈ us, u.cells.size = k := by
    rcases hky with rfl | rfl
    · have : us = [] := List.eq_nil_of_length_eq_zero (by simpa using hly)
      subst this; simp
    · exact hsz'
  obtain ⟨i, z, hTe, hi, hik, hib, hz, hzk, hk0, hb0⟩ := appB_at hT
  have hb' : (os.length + us.length) * bytes ≤ 140737488355328 := by rw [hlx, hly]; exact hb
  have h63 : os.length + us.length ≤ 140737488355328 := Nat.le_trans (Nat.le_mul_of_pos_right _ hb0) hb'
  have hone' : ∀ u ∈ flat us, u.oneCell' = true := by
    have : ∀ (ts : List TV) (us : List Value), VL C w ts us → (∀ y ∈ ts, allOne y.cells = true ∧ y.known = true ∧ ∀ vs, y ≠ .tuple vs) → ∀ u ∈ flat us, u.oneCell' = true := by
      intro ts
      induction ts with
      | nil => intro us h _; rw [VL] at h; subst h; simp [flat]
      | cons t ts ih =>
        intro us h ho
        rw [VL] at h
        obtain ⟨v1, us', rfl, h1, h2⟩ := h
        obtain ⟨o1, o2, o3⟩ := ho t (by simp)
        intro u hu
        simp only [flat, List.flatMap_cons, List.mem_append] at hu
        rcases hu with hu | hu
        · exact VL_allOne o1 (V_cells o2 o3 h1) u hu
        · exact ih us' h2 (fun y hy => ho y (by simp [hy])) u hu
    exact this ys us hV' hone
  obtain ⟨v', w', hrun, hwent⟩ := app_run (P := P) (ty := o.type) hT hs hown hv hc hV hsz1 hok hmem (A' := A') (c' := c') hsz2 hmem' hb' hone'
  obtain ⟨C', ow', r', g1, _, g2, g3, g4, g5⟩ := append_core hs hown hk0 hv hc hV hsz1 hok hmem hV' hsz2 (by omega) hone' hwent
  refine ⟨v', C', w', _, _, ?_, g2, ⟨ow', r', g1, rfl, rfl⟩, g3, g4, g5⟩
  rw [← hv'] at hrun
  simp [execOp, ho, resolve, invoke, builtin, hrun]
/-- append(x, y...), x without spare room: what comes is not grown any more. -/
theorem p_append {T e k bytes : Nat} {x y : Operand} {oy : Own} {kx ky : Nat} {xs ys : List TV} (hT : appB P T e k bytes = true) (ho : o.op = .call { callee := .builtin .append, args := #[x, y], argTypes := #[T, T] })
    (h1 : τ x = .slice .full kx xs) (h2 : τ y = .slice oy ky ys) (hkx : xs = [] ∨ kx = k) (hky : ys = [] ∨ ky = k) (hone : ∀ y ∈ ys, allOne y.cells = true ∧ y.known = true ∧ ∀ vs, y ≠ .tuple vs) (hb : (xs.length + ys.length) * bytes ≤ 140737488355328) :
    PureS P o τ s (.slice .ro k (xs ++ ys)) := PureS.of fun C w a hs hx => by
  rw [ho] at hx
  have hx1 := hx x (by simp [Op.operands, Call.operands])
  have hx2 := hx y (by simp [Op.operands, Call.operands])
  rw [h1, V] at hx1
  rw [h2, V] at hx2
  obtain ⟨A, c, os, hv, hc, hbo, hV, hsz, hok, hmem⟩ := hx1
  obtain ⟨A', c', us, hv', _, _, hV', hsz', _, hmem'⟩ := hx2
  have hlx := VL_length hV
  have hly := VL_length hV'
  have hsz1 : ∀ u ∈ os, u.cells.size = k := by
    rcases hkx with rfl | rfl
    · have : os = [] := List.eq_nil_of_length_eq_zero (by simpa using hlx)
      subst this; simp
    · exact hsz
  have hsz2 : ∀ u ∈ us, u.cells.size = k := by
    rcases hky with rfl | rfl
    · have : us = [] := List.eq_nil_of_length_eq_zero (by simpa using hly)
      subst this; simp
    · exact hsz'
  obtain ⟨i, z, hTe, hi, hik, hib, hz, hzk, hk0, hb0⟩ := appB_at hT
  have hb' : (os.length + us.length) * bytes ≤ 140737488355328 := by rw [hlx, hly]; exact hb
  have h63 : os.length + us.length ≤ 140737488355328 := Nat.le_trans (Nat.le_mul_of_pos_right _ hb0) hb'
  have hone' : ∀ u ∈ flat us, u.oneCell' = true := by
    have : ∀ (ts : List TV) (us : List Value), VL C w ts us → (∀ y ∈ ts, allOne y.cells = true ∧ y.known = true ∧ ∀ vs, y ≠ .tuple vs) → ∀ u ∈ flat us, u.oneCell' = true := by
      intro ts
      induction ts with
      | nil => intro us h _; rw [VL] at h; subst h; simp [flat]
      | cons t ts ih =>
        intro us h ho
        rw [VL] at h
        obtain ⟨v1, us', rfl, h1, h2⟩ := h
        obtain ⟨o1, o2, o3⟩ := ho t (by simp)
        intro u hu
        simp only [flat, List.flatMap_cons, List.mem_append] at hu
        rcases hu with hu | hu
        · exact VL_allOne o1 (V_cells o2 o3 h1) u hu
        · exact ih us' h2 (fun y hy => ho y (by simp [hy])) u hu
    exact this ys us hV' hone
  have hown : Owned e k .full xs.length [] := .inl ⟨rfl, rfl⟩
  have hs1 : Sim C ([] ++ [] ++ s) w := hs
  obtain ⟨v', w', hrun, hwent⟩ := app_run (P := P) (ty := o.type) (pre := []) (post := s) hT hs1 hown hv hc hV hsz1 hok hmem (A' := A') (c' := c') hsz2 hmem' hb' hone'
  obtain ⟨C', ow', r', g1, _, g2, g3, g4, g5⟩ := append_core hs1 hown hk0 hv hc hV hsz1 hok hmem hV' hsz2 (by omega) hone' hwent
  refine ⟨v', C', w', ?_, ?_, g3.drop (by simp), g4.mono fun b hb => .inl (by simpa [dom] using hb)⟩
  · rw [← hv'] at hrun
    simp [execOp, ho, resolve, invoke, builtin, hrun]
  · rw [V] at g2 ⊢
    obtain ⟨A2, c2, us2, e1, e2, e3, e4, e5, _, e6⟩ := g2
    exact ⟨A2, c2, us2, e1, e2, e3, e4, e5, trivial, e6⟩

/-! ### Calls -/
def enterB (P : Program) (g : FuncId) : Bool := match P.funcs[g]? with | some fn => fn.name != "runtime.NumGoroutine" && fn.body.isSome | none => false
theorem enterB_run {g : FuncId} (h : enterB P g = true) (args : Array Value) (w : World) : (callFunc g args).run P w = .ok (.enter g args) w := by
  unfold enterB at h
  split at h
  · rename_i fn hf
    simp only [Bool.and_eq_true, bne_iff_ne] at h
    cases hb : fn.body with
    | none => rw [hb] at h; simp at h
    | some c => simp [callFunc, hf, h.1, hb]
  · cases h
theorem call_exec {f : Operand} {args : Array Operand} {ats : Array TypeId} {g : FuncId} {fs cs : List TV} (hg : enterB P g = true) (ho : o.op = .call { callee := .value f, args := args, argTypes := ats }) (h1 : τ f = .func (.func g) fs cs)
    {C : Claims} {w : World} {a : Act} (hx : ∀ x ∈ o.op.operands, V C w (τ x) (a.eval x)) : ∃ vs : Array Value, (execOp a.eval o).run P w = .ok (.enter g vs) w ∧ VL C w (fs ++ args.toList.map τ ++ cs) vs.toList := by
  rw [ho] at hx
  have hf := hx f (by simp [Op.operands, Call.operands])
  rw [h1, V] at hf
  obtain ⟨vf, vc, he, hVf, hVc⟩ := hf
  have hVa := VL_map (τ := τ) (a := a) (C := C) (w := w) args.toList fun x hm => hx x (by simp only [Op.operands, Call.operands]; exact Array.mem_append.2 (.inr (Array.mem_toList_iff.1 hm)))
  refine ⟨vf ++ args.map a.eval ++ vc, by simp [execOp, ho, resolve, Deferred.ofValue, he, invoke, enterB_run hg], ?_⟩
  simpa using VL_append (VL_append hVf hVa) hVc

/-- A call that only computes, and leaves what it is lent as it was. -/
theorem p_call {f : Operand} {args : Array Operand} {ats : Array TypeId} {g : FuncId} {fs cs : List TV} {u : TV} {s0 fr : Res} (hg : enterB P g = true) (ho : o.op = .call { callee := .value f, args := args, argTypes := ats }) (h1 : τ f = .func (.func g) fs cs)
    (hc : AFn P g (fs ++ args.toList.map τ ++ cs) s0 fun r s' => r = .ret u ∧ s' = s0) (hp : s.Perm (s0 ++ fr)) : PureS P o τ s u := by
  intro C w a hs hx Q
  obtain ⟨vs, hr, hV⟩ := call_exec hg ho h1 hx
  unfold Oper.wp
  rw [hr, Oper.upon_enter]
  refine (AFn.frame (fr := fr) hc C w vs (hs.perm hp.symm) hV).mono ?_
  rintro e w' ⟨r, C', s', h1, ⟨s1, rfl, rfl, rfl⟩, h3, h4, h5⟩
  cases e <;> first | exact h1.elim | skip
  rename_i v
  exact ⟨C', v, rfl, h1, h3.perm hp, h4.mono fun b ⟨q, hq⟩ => .inl ⟨q, hp.symm.subset hq⟩⟩
/-- A pure function. -/
theorem p_pfn {f : Operand} {args : Array Operand} {ats : Array TypeId} {g : FuncId} {fs cs : List TV} {u : TV} (hg : enterB P g = true) (ho : o.op = .call { callee := .value f, args := args, argTypes := ats }) (h1 : τ f = .func (.func g) fs cs)
    (hc : PFn P g (fs ++ args.toList.map τ ++ cs) u) : PureS P o τ s u := p_call (s0 := []) (fr := s) hg ho h1 (hc.at []) (List.Perm.refl _)

/-- Any call. -/
theorem a_call {f : Operand} {args : Array Operand} {ats : Array TypeId} {g : FuncId} {fs cs : List TV} {s0 fr : Res} {R : ARes → Res → Prop} (hg : enterB P g = true) (ho : o.op = .call { callee := .value f, args := args, argTypes := ats }) (h1 : opTV E f = .func (.func g) fs cs)
    (hc : AFn P g (fs ++ args.toList.map (opTV E) ++ cs) s0 R) (hp : s.Perm (s0 ++ fr)) (hpanic : ∀ v s1, R (.panic v) s1 → Q (.panic v) E (s1 ++ fr)) :
    AStep P n o E s Q fun E' s' => ∃ u s1, R (.ret u) s1 ∧ E' = putE E o.dst u ∧ s' = s1 ++ fr := by
  intro C w tm hs hE hx
  obtain ⟨vs, hr, hV⟩ := call_exec (τ := opTV E) hg ho h1 hx
  unfold Oper.wp
  rw [hr, Oper.upon_enter]
  refine (AFn.frame (fr := fr) hc C w vs (hs.perm hp.symm) hV).mono ?_
  rintro e w' ⟨r, C', s', h1, ⟨s1, rfl, hR⟩, h3, h4, h5⟩
  have hd : ∀ b, dom (s0 ++ fr) b → dom s b := fun b ⟨q, hq⟩ => ⟨q, hp.symm.subset hq⟩
  have h4' : Ev (dom s) C w C' w' := h4.mono fun b hb => .inl (hd b hb)
  have h5' : ∀ b, dom (s1 ++ fr) b → dom s b ∨ w.heap.size ≤ b := fun b hb => (h5 b hb).imp (hd b) id
  cases e with
  | returned v =>
    cases r with
    | ret u => exact ⟨C', _, _, ⟨u, s1, hR, rfl, rfl⟩, h3, (hE.keep h4.keep).put (a := ⟨tm, []⟩) o.dst h1, by rw [put_tmps], h4', h5'⟩
    | panic v => exact h1.elim
  | panicked ch =>
    cases r with
    | ret u => exact h1.elim
    | panic v => exact ⟨.panic v, C', E, _, h1, hpanic v s1 hR, h3, hE.keep h4.keep, rfl, h4', h5'⟩
  | outgrown => exact h1.elim
end
end Go.Proofs.YtdkiijhmmmfciaaDoor
