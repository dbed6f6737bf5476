/- Rules for printed walks: slices that callees grow; least and greatest; bytes as strings. -/
import Derived.Test.YtdkiijhmmmfciaaDoorTN
import Derived.Laws.BytesArg
import Derived.Laws.Externs
set_option linter.unusedVariables false
set_option linter.unusedSimpArgs false
namespace Go.Proofs.YtdkiijhmmmfciaaDoor
open Go

/-- What a function hands back that grew a slice. -/
def GR (e k len : Nat) (f : Own → TV) (y : ARes) (s' : Res) : Prop := ∃ ow re, Owned e k ow len re ∧ y = .ret (f ow) ∧ s' = re
theorem AFn.shedG {P : Program} {g : FuncId} {args : List TV} {s : Res} {e k len : Nat} {f : Own → TV} (hs : ∀ ow re, Owned e k ow len re → ∀ s' : Res, re.Sublist s' → True)
    (h : AFn P g args s fun y s' => ∃ ow re, Owned e k ow len re ∧ y = .ret (f ow) ∧ re.Sublist s') : AFn P g args s (GR e k len f) := by
  intro C w vs hsim hA
  refine (h C w vs hsim hA).mono ?_
  rintro en w' ⟨r', C', s', e1, ⟨ow, re, h1, h2, h3⟩, h4, h5, h6⟩
  exact ⟨r', C', re, e1, ⟨ow, re, h1, h2, rfl⟩, h4.drop h3, h5, fun b ⟨r, hb⟩ => h6 b ⟨r, h3.subset hb⟩⟩
section
variable {P : Program} {n : Nat} {E : Env} {s : Res} {Q : AQ} {o : Oper} {τ : Operand → TV}
theorem perm_pull (p r q : Res) : (p ++ r ++ q).Perm (r ++ (p ++ q)) := by
  rw [List.append_assoc]
  exact List.perm_append_comm_assoc p r q
theorem a_callG {fo : Operand} {args : Array Operand} {ats : Array TypeId} {g : FuncId} {fs cs args' : List TV} {re0 : Res} {e k len : Nat} {f : Own → TV} (hg : enterB P g = true) (hc : AFn P g args' re0 (GR e k len f)) (ho : o.op = .call { callee := .value fo, args := args, argTypes := ats }) (h1 : opTV E fo = .func (.func g) fs cs)
    (hle : TVles (fs ++ args.toList.map (opTV E) ++ cs) args') (F : Res → Res) (pre post : Res) (hF : ∀ r, F r = pre ++ r ++ post) (hs : s = F re0) :
    AStep P n o E s Q fun E' s' => ∃ ow re, Owned e k ow len re ∧ E' = putE E o.dst (f ow) ∧ s' = F re := by
  have hp : s.Perm (re0 ++ (pre ++ post)) := by rw [hs, hF]; exact perm_pull _ _ _
  intro C w tm hsim hE hx
  obtain ⟨vs, hr, hV⟩ := call_exec (τ := opTV E) hg ho h1 hx
  unfold Oper.wp
  rw [hr, Oper.upon_enter]
  refine (AFn.frame (fr := pre ++ post) (hc.le hle) C w vs (hsim.perm hp.symm) hV).mono ?_
  rintro en w' ⟨r', C', s', e1, ⟨s1, rfl, ow, re, h1, rfl, rfl⟩, h3, h4, h5⟩
  have hd : ∀ b, dom (re0 ++ (pre ++ post)) b → dom s b := fun b ⟨r, m⟩ => ⟨r, hp.mem_iff.2 m⟩
  have hp2 : (s1 ++ (pre ++ post)).Perm (F s1) := by rw [hF]; exact (perm_pull _ _ _).symm
  cases en with
  | returned v =>
    refine ⟨C', putE E o.dst (f ow), F s1, ⟨ow, s1, h1, rfl, rfl⟩, h3.perm hp2.symm, ?_, put_tmps, h4.mono fun b hb => .inl (hd b hb), fun b ⟨r, hb⟩ => ?_⟩
    · exact (hE.keep h4.keep).put (a := ⟨tm, []⟩) o.dst e1
    · exact (h5 b ⟨r, hp2.mem_iff.2 hb⟩).imp (hd b) id
  | _ => exact e1.elim

/-! ### Least and greatest -/
theorem p_min {T1 T2 : TypeId} {x y : Operand} {k : IntKind} {m n : Int} (ho : o.op = .call { callee := .builtin .min, args := #[x, y], argTypes := #[T1, T2] }) (h1 : τ x = .int k m) (h2 : τ y = .int k n) : PureS P o τ s (.int k (min m n)) := PureS.val fun C w a hs hx => by
  rw [ho] at hx
  have hx1 := hx x (by simp [Op.operands, Call.operands])
  have hx2 := hx y (by simp [Op.operands, Call.operands])
  rw [h1, V] at hx1; rw [h2, V] at hx2
  refine ⟨.int k (min m n), ?_, ?_⟩
  · simp [execOp, ho, resolve, invoke, builtin, Builtin.min_, Builtin.min2, hx1.1, hx2.1]
    rw [Int.min_def]; split <;> split <;> omega
  · rw [V]; exact ⟨rfl, by rcases Int.le_total m n with h | h; rw [Int.min_eq_left h]; exact hx1.2; rw [Int.min_eq_right h]; exact hx2.2⟩
theorem p_max {T1 T2 : TypeId} {x y : Operand} {k : IntKind} {m n : Int} (ho : o.op = .call { callee := .builtin .max, args := #[x, y], argTypes := #[T1, T2] }) (h1 : τ x = .int k m) (h2 : τ y = .int k n) : PureS P o τ s (.int k (max m n)) := PureS.val fun C w a hs hx => by
  rw [ho] at hx
  have hx1 := hx x (by simp [Op.operands, Call.operands])
  have hx2 := hx y (by simp [Op.operands, Call.operands])
  rw [h1, V] at hx1; rw [h2, V] at hx2
  refine ⟨.int k (max m n), ?_, ?_⟩
  · simp [execOp, ho, resolve, invoke, builtin, Builtin.max_, Builtin.max2, hx1.1, hx2.1]
    rw [Int.max_def]; split <;> split <;> omega
  · rw [V]; exact ⟨rfl, by rcases Int.le_total m n with h | h; rw [Int.max_eq_right h]; exact hx2.2; rw [Int.max_eq_left h]; exact hx1.2⟩
/-! ### Functions without a body -/
structure ExtIs (P : Program) (g : FuncId) (e : Array Value → Sem Value) : Prop where
  is : ∃ fn, P.funcs[g]? = some fn ∧ (fn.name == "runtime.NumGoroutine") = false ∧ fn.body.isNone = true ∧ Extern.findNext fn = none ∧ Extern.find fn = some e
theorem ext_run {f x : Operand} {ats : Array TypeId} {g : FuncId} {e : Array Value → Sem Value} {C : Claims} {w : World} {a : Act} {v r : Value} (hg : ExtIs P g e) (ho : o.op = .call { callee := .value f, args := #[x], argTypes := ats }) (h1 : τ f = .func (.func g) [] []) (hx : ∀ z ∈ o.op.operands, V C w (τ z) (a.eval z)) (hv : a.eval x = v)
    (hr : (e #[v]).run P w = .ok r w) : (execOp a.eval o).run P w = .ok (.value r) w := by
  obtain ⟨fn, e1, e2, e3, e4, e5⟩ := hg.is
  rw [ho] at hx
  have hf := hx f (by simp [Op.operands, Call.operands])
  rw [h1, V] at hf
  obtain ⟨vf, vc, he, hVf, hVc⟩ := hf
  have hf0 : vf = #[] := by rw [VL] at hVf; simpa using hVf
  have hc0 : vc = #[] := by rw [VL] at hVc; simpa using hVc
  subst hf0; subst hc0
  have := run_callFunc_extern (P := P) e1 e2 e3 e4 e5 #[v] w
  rw [hr] at this
  simp [execOp, ho, resolve, Deferred.ofValue, invoke, he, hv, this]
theorem p_frombits {f x : Operand} {ats : Array TypeId} {g : FuncId} {m : Int} (hg : ExtIs P g Extern.MathFloatBits.float64frombits) (ho : o.op = .call { callee := .value f, args := #[x], argTypes := ats }) (h1 : τ f = .func (.func g) [] []) (h2 : τ x = .int .u64 m) : PureS P o τ s (encF (some m.toNat)) := PureS.val fun C w a hs hx => by
  have hx2 := hx x (by rw [ho]; simp [Op.operands, Call.operands])
  rw [h2, V] at hx2
  refine ⟨.float .f64 m.toNat, ext_run (C := C) hg ho h1 hx hx2.1 (by show Sem.run P (pure (Value.float FloatKind.f64 m.toNat)) w = _; simp), ?_⟩
  rw [encF, V]
  refine ⟨rfl, ?_⟩
  have := (fits_iff _ _).1 hx2.2
  simp only [lo, hi] at this
  show m.toNat < 2 ^ 64
  omega

theorem p_andNot {T T' : TypeId} {x y : Operand} {k : IntKind} {m n : Int} (ho : o.op = .binOp .andNot T x y T') (h1 : τ x = .int k m) (h2 : τ y = .int k n) : PureS P o τ s (.int k (bitsOf .andNot k m n)) :=
  p_int ho h1 h2 (fun w => by simp [binOp, Op.intBits, bitsOf]) fun _ _ _ _ => V_int (fits_wrap _ _)
/-- A float's bits, where they are known. -/
def Fl.bits (a : Fl) : Option Int := a.map fun b => (b : Int)
theorem p_bits {f x : Operand} {ats : Array TypeId} {g : FuncId} {a : Fl} {m : Int} (hm : Fl.bits a = some m) (hg : ExtIs P g Extern.MathFloatBits.float64bits) (ho : o.op = .call { callee := .value f, args := #[x], argTypes := ats }) (h1 : τ f = .func (.func g) [] []) (h2 : τ x = encF a) : PureS P o τ s (.int .u64 m) := PureS.val fun C w act hs hx => by
  have hx2 := hx x (by rw [ho]; simp [Op.operands, Call.operands])
  rw [h2] at hx2
  obtain ⟨b, e1, hl, k1⟩ := V_encF hx2
  rcases k1 with rfl | ⟨rfl, _⟩
  · unfold Fl.bits at hm
    injection hm with hm
    subst hm
    refine ⟨.int .u64 b, ext_run (C := C) hg ho h1 hx e1 (by show Sem.run P (pure (Value.int IntKind.u64 b)) w = _; simp), V_int ((fits_iff _ _).2 ?_)⟩
    have : b < 2 ^ 64 := hl
    simp only [lo, hi]
    omega
  · cases hm

/-! ### Strings by their bytes -/
def sidx (m : ByteArray) (i : Int) : Option Int := if 0 ≤ i ∧ i < m.size then some (byteAt m i) else none
theorem p_sidx {T : TypeId} {x y : Operand} {m : ByteArray} {k : IntKind} {i v : Int} (h : sidx m i = some v) (hT : isStr P T = true) (ho : o.op = .index T x y) (h1 : τ x = .str m) (h2 : τ y = .int k i) : PureS P o τ s (.int .u8 v) := by
  unfold sidx at h; split at h
  · rename_i hc; injection h with h; subst h; exact p_index hT ho h1 h2 hc.1 hc.2
  · cases h
def scut (m : ByteArray) (i j : Int) : Option ByteArray := if 0 ≤ i ∧ i ≤ j ∧ j ≤ m.size then some (m.extract i.toNat j.toNat) else none
theorem p_scutO {T : TypeId} {x : Operand} {l h : Option Operand} {m v : ByteArray} {i j : Int} (hc : scut m i j = some v) (hT : isStr P T = true) (ho : o.op = .slice T x l h none) (h1 : τ x = .str m)
    (hl : (l = none ∧ i = 0) ∨ ∃ y k, l = some y ∧ τ y = .int k i) (hh : (h = none ∧ j = m.size) ∨ ∃ y k, h = some y ∧ τ y = .int k j) : PureS P o τ s (.str v) := by
  unfold scut at hc; split at hc
  · rename_i hcc; injection hc with hc; subst hc; exact p_scut hT ho h1 hl hh hcc.1 hcc.2.1 hcc.2.2
  · cases hc
/-! ### Bytes as a string -/
def cbsB (P : Program) (S T : TypeId) : Bool := (match P.underlying S with | some (.slice e) => (match P.underlying e with | some (.int .u8) => true | _ => false) | _ => false) && isStr P T
theorem VL_ints {C : Claims} {w : World} {k : IntKind} : ∀ {l : List Int} {us : List Value}, VL C w (l.map (TV.int k)) us → us = l.map (Value.int k) ∧ flat us = us
  | [], us, h => by rw [List.map_nil, VL] at h; subst h; exact ⟨rfl, rfl⟩
  | n :: l, us, h => by
    rw [List.map_cons, VL] at h
    obtain ⟨v, vs, rfl, h1, h2⟩ := h
    rw [V] at h1
    obtain ⟨e1, e2⟩ := VL_ints h2
    rw [h1.1, e1]
    refine ⟨rfl, ?_⟩
    rw [← e1]
    show (Value.int k n).cells.toList ++ flat vs = _
    rw [e2]; rfl
theorem p_cbs {S T : TypeId} {x : Operand} {ow : Own} {k : Nat} {l : List Int} (hT : cbsB P S T = true) (ho : o.op = .convert S T x) (h1 : τ x = .slice ow k (l.map (TV.int .u8))) : PureS P o τ s (.str (bytesOf l)) := PureS.val fun C w a hs hx => by
  rw [ho] at hx
  have hx1 := hx x (by simp [Op.operands])
  rw [h1, V] at hx1
  obtain ⟨A, c, us, e1, hc, hb, hV, hsz, _, hM⟩ := hx1
  unfold cbsB at hT
  simp only [Bool.and_eq_true] at hT
  obtain ⟨hS, hT⟩ := hT
  have hd := isStr_at hT
  split at hS
  · rename_i e hu
    split at hS
    · rename_i he
      obtain ⟨eu, ef⟩ := VL_ints hV
      rw [ef] at hM
      have hlen : us.length = l.length := by rw [eu, List.length_map]
      have hres : (convert S T (.slice A us.length c)).run P w = .ok (.string (bytesOf l)) w := by
        cases hA : A with
        | none =>
          have h0 : us.length = 0 := by
            rcases Nat.eq_zero_or_pos us.length with h | h
            · exact h
            · obtain ⟨a', ha, _⟩ := hM h; rw [hA] at ha; cases ha
          have hl0 : l = [] := List.eq_nil_of_length_eq_zero (by omega)
          rw [run_convert_bytes_nil w S e hu he _ _ T hd, hl0]; rfl
        | some ad =>
          have hl : (loadCells ad us.length).run P w = .ok us.toArray w := run_loadCells_list w ad us fun j v hj => by
            have hpos : 0 < us.length := by have := (List.getElem?_eq_some_iff.1 hj).1; omega
            obtain ⟨a', ha, hm⟩ := hM hpos
            rw [hA] at ha; injection ha with ha; subst ha
            exact (hm j v hj).1
          rw [run_convert_bytes_string w S T e (some ad) us.length c hu he hd]
          rw [eu] at hl
          rw [run_bytesToString w ad us.length c l (by rw [← hlen] at *; simpa [eu] using hl), foldl_push_bytes]
          simp [bytesOf, ByteArray.empty, ByteArray.emptyWithCapacity]
          rfl
      exact ⟨.string (bytesOf l), by simp [execOp, ho, e1, hres], by
        rw [V]
        refine ⟨rfl, ?_⟩
        have : (bytesOf l).size = l.length := by simp [bytesOf, ByteArray.size]
        rw [this, ← hlen]; omega⟩
    · cases hS
  · cases hS
end
end Go.Proofs.YtdkiijhmmmfciaaDoor
