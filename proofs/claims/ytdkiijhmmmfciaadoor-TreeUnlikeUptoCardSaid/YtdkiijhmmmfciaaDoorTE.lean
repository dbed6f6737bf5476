/- Operations over tree values: those that only compute with what lies in the temporaries. -/
import Derived.Test.YtdkiijhmmmfciaaDoorTD
set_option linter.unusedVariables false
set_option linter.unusedSimpArgs false
namespace Go.Proofs.YtdkiijhmmmfciaaDoor
open Go

theorem fits_wrap (k : IntKind) (n : Int) : IntKind.fits k (k.wrap n) := by
  rw [fits_iff]
  cases k <;> simp [lo, hi, IntKind.wrap, IntKind.bits, IntKind.signed] <;> (try split) <;> omega
theorem wrap_fits {k : IntKind} {n : Int} (h : IntKind.fits k n) : k.wrap n = n := by
  rw [fits_iff] at h
  cases k <;> simp [lo, hi] at h <;> simp [IntKind.wrap, IntKind.bits, IntKind.signed] <;> (try split) <;> omega
theorem wrap_in {n : Int} (h0 : -9223372036854775808 ≤ n) (h1 : n ≤ 9223372036854775807) : IntKind.i64.wrap n = n := wrap_fits ((fits_iff _ _).2 ⟨h0, h1⟩)

section
variable {P : Program} {o : Oper} {τ : Operand → TV} {s : Res}

theorem PureS.of {u : TV} (h : ∀ (C : Claims) (w : World) (a : Act), Sim C s w → (∀ x ∈ o.op.operands, V C w (τ x) (a.eval x)) →
    ∃ v C' w', (execOp a.eval o).run P w = .ok (.value v) w' ∧ V C' w' u v ∧ Sim C' s w' ∧ Ev (dom s) C w C' w') : PureS P o τ s u := by
  intro C w a hs hx Q
  obtain ⟨v, C', w', h1, h2, h3, h4⟩ := h C w a hs hx
  unfold Oper.wp
  rw [h1, Oper.upon_value]
  exact ⟨C', v, rfl, h2, h3, h4⟩
theorem PureS.val {u : TV} (h : ∀ (C : Claims) (w : World) (a : Act), Sim C s w → (∀ x ∈ o.op.operands, V C w (τ x) (a.eval x)) →
    ∃ v, (execOp a.eval o).run P w = .ok (.value v) w ∧ V C w u v) : PureS P o τ s u :=
  PureS.of fun C w a hs hx => by
    obtain ⟨v, h1, h2⟩ := h C w a hs hx
    exact ⟨v, C, w, h1, h2, hs, Ev.refl _ _ _⟩

theorem p_move {x : Operand} (ho : o.op = .move x) : PureS P o τ s (τ x) := PureS.val fun C w a hs hx => by
  rw [ho] at hx
  exact ⟨a.eval x, by simp [execOp, ho], hx x (by simp [Op.operands])⟩
theorem p_assign {x : Operand} (ho : o.op = .assign x) : PureS P o τ s (τ x) := PureS.val fun C w a hs hx => by
  rw [ho] at hx
  exact ⟨a.eval x, by simp [execOp, ho], hx x (by simp [Op.operands])⟩
theorem p_pick {c x y : Operand} {t : Bool} (ho : o.op = .pick c x y) (hc : τ c = .bool t) : PureS P o τ s (if t then τ x else τ y) := PureS.val fun C w a hs hx => by
  rw [ho] at hx
  have h1 := hx c (by simp [Op.operands])
  rw [hc, V] at h1
  refine ⟨if t then a.eval x else a.eval y, by simp [execOp, ho, h1, asBool], ?_⟩
  cases t
  · exact hx y (by simp [Op.operands])
  · exact hx x (by simp [Op.operands])

section
variable {T T' : TypeId} {x y : Operand} {k : IntKind} {m n : Int}
theorem bin_run {C : Claims} {w : World} {a : Act} {op : BinOp} (ho : o.op = .binOp op T x y T') {vx vy : Value} (h1 : a.eval x = vx) (h2 : a.eval y = vy) {r : Value} {w' : World}
    (hg : (eqGuard op T x y vx vy).run P w = .ok () w) (hr : (binOp op T vx vy).run P w = .ok r w') : (execOp a.eval o).run P w = .ok (.value r) w' := by
  simp only [execOp, ho, h1, h2]
  simp [hg, hr]
theorem guard_int {op : BinOp} {a b : Int} {k k' : IntKind} {w : World} : (eqGuard op T x y (.int k a) (.int k' b)).run P w = .ok () w := by
  unfold eqGuard; split <;> simp
theorem ops_bin {C : Claims} {w : World} {a : Act} {op : BinOp} (ho : o.op = .binOp op T x y T') (hx : ∀ z ∈ o.op.operands, V C w (τ z) (a.eval z)) : V C w (τ x) (a.eval x) ∧ V C w (τ y) (a.eval y) := by
  rw [ho] at hx
  exact ⟨hx x (by simp [Op.operands]), hx y (by simp [Op.operands])⟩

theorem p_int {op : BinOp} {r : Value} {u : TV} (ho : o.op = .binOp op T x y T') (h1 : τ x = .int k m) (h2 : τ y = .int k n) (hr : ∀ w, (binOp op T (.int k m) (.int k n)).run P w = .ok r w) (hu : IntKind.fits k m → IntKind.fits k n → ∀ C w, V C w u r) : PureS P o τ s u := PureS.val fun C w a hs hx => by
  obtain ⟨hx1, hx2⟩ := ops_bin ho hx
  rw [h1, V] at hx1
  rw [h2, V] at hx2
  exact ⟨r, bin_run (C := C) ho hx1.1 hx2.1 guard_int (hr w), hu hx1.2 hx2.2 C w⟩
theorem V_int {C : Claims} {w : World} {k : IntKind} {n : Int} (h : IntKind.fits k n) : V C w (.int k n) (.int k n) := by rw [V]; exact ⟨rfl, h⟩
theorem V_bool {C : Claims} {w : World} {b : Bool} : V C w (.bool b) (.bool b) := by rw [V]
theorem p_add (ho : o.op = .binOp .add T x y T') (h1 : τ x = .int k m) (h2 : τ y = .int k n) : PureS P o τ s (.int k (k.wrap (m + n))) :=
  p_int ho h1 h2 (fun w => by simp [binOp, Op.intArith]) fun _ _ _ _ => V_int (fits_wrap _ _)
theorem p_sub (ho : o.op = .binOp .sub T x y T') (h1 : τ x = .int k m) (h2 : τ y = .int k n) : PureS P o τ s (.int k (k.wrap (m - n))) :=
  p_int ho h1 h2 (fun w => by simp [binOp, Op.intArith]) fun _ _ _ _ => V_int (fits_wrap _ _)
theorem p_mul (ho : o.op = .binOp .mul T x y T') (h1 : τ x = .int k m) (h2 : τ y = .int k n) : PureS P o τ s (.int k (k.wrap (m * n))) :=
  p_int ho h1 h2 (fun w => by simp [binOp, Op.intArith]) fun _ _ _ _ => V_int (fits_wrap _ _)
theorem p_eql (ho : o.op = .binOp .eql T x y T') (h1 : τ x = .int k m) (h2 : τ y = .int k n) : PureS P o τ s (.bool (m == n)) :=
  p_int ho h1 h2 (fun w => by simp [binOp, Op.intCmp]) fun _ _ _ _ => V_bool
theorem p_neq (ho : o.op = .binOp .neq T x y T') (h1 : τ x = .int k m) (h2 : τ y = .int k n) : PureS P o τ s (.bool (m != n)) :=
  p_int ho h1 h2 (fun w => by simp [binOp, Op.intCmp]) fun _ _ _ _ => V_bool
theorem p_lss (ho : o.op = .binOp .lss T x y T') (h1 : τ x = .int k m) (h2 : τ y = .int k n) : PureS P o τ s (.bool (decide (m < n))) :=
  p_int ho h1 h2 (fun w => by simp [binOp, Op.intCmp]) fun _ _ _ _ => V_bool
theorem p_leq (ho : o.op = .binOp .leq T x y T') (h1 : τ x = .int k m) (h2 : τ y = .int k n) : PureS P o τ s (.bool (decide (m ≤ n))) :=
  p_int ho h1 h2 (fun w => by simp [binOp, Op.intCmp]) fun _ _ _ _ => V_bool
theorem p_gtr (ho : o.op = .binOp .gtr T x y T') (h1 : τ x = .int k m) (h2 : τ y = .int k n) : PureS P o τ s (.bool (decide (n < m))) :=
  p_int ho h1 h2 (fun w => by simp [binOp, Op.intCmp]) fun _ _ _ _ => V_bool
theorem p_geq (ho : o.op = .binOp .geq T x y T') (h1 : τ x = .int k m) (h2 : τ y = .int k n) : PureS P o τ s (.bool (decide (n ≤ m))) :=
  p_int ho h1 h2 (fun w => by simp [binOp, Op.intCmp]) fun _ _ _ _ => V_bool
theorem p_quo (ho : o.op = .binOp .quo T x y T') (h1 : τ x = .int k m) (h2 : τ y = .int k n) (hn : n ≠ 0) : PureS P o τ s (.int k (k.wrap (m.tdiv n))) :=
  p_int ho h1 h2 (fun w => by simp [binOp, Op.intDiv, hn]) fun _ _ _ _ => V_int (fits_wrap _ _)
theorem fits_tmod {k : IntKind} {m n : Int} (h : IntKind.fits k m) : IntKind.fits k (m.tmod n) := by
  rw [fits_iff] at h ⊢
  have h1 : (m.tmod n).natAbs ≤ m.natAbs := by rw [Int.natAbs_tmod]; exact Nat.mod_le _ _
  have h2 : 0 ≤ m → 0 ≤ m.tmod n := fun h => Int.tmod_nonneg n h
  have h3 : m ≤ 0 → m.tmod n ≤ 0 := fun h => by
    have := Int.tmod_nonneg n (a := -m) (by omega)
    rw [Int.neg_tmod] at this; omega
  cases k <;> simp [lo, hi] at h ⊢ <;> omega
theorem p_rem (ho : o.op = .binOp .rem T x y T') (h1 : τ x = .int k m) (h2 : τ y = .int k n) (hn : n ≠ 0) : PureS P o τ s (.int k (m.tmod n)) :=
  p_int ho h1 h2 (fun w => by simp [binOp, Op.intDiv, hn]) fun hm _ _ _ => V_int (fits_tmod hm)
def bitsOf (op : BinOp) (k : IntKind) (m n : Int) : Int := match op with
  | .and => k.wrap ((BitVec.ofInt k.bits m &&& BitVec.ofInt k.bits n).toNat)
  | .or => k.wrap ((BitVec.ofInt k.bits m ||| BitVec.ofInt k.bits n).toNat)
  | .xor => k.wrap ((BitVec.ofInt k.bits m ^^^ BitVec.ofInt k.bits n).toNat)
  | _ => k.wrap ((BitVec.ofInt k.bits m &&& ~~~ BitVec.ofInt k.bits n).toNat)
theorem p_and (ho : o.op = .binOp .and T x y T') (h1 : τ x = .int k m) (h2 : τ y = .int k n) : PureS P o τ s (.int k (bitsOf .and k m n)) :=
  p_int ho h1 h2 (fun w => by simp [binOp, Op.intBits]; rfl) fun _ _ _ _ => V_int (fits_wrap _ _)
theorem p_or (ho : o.op = .binOp .or T x y T') (h1 : τ x = .int k m) (h2 : τ y = .int k n) : PureS P o τ s (.int k (bitsOf .or k m n)) :=
  p_int ho h1 h2 (fun w => by simp [binOp, Op.intBits]; rfl) fun _ _ _ _ => V_int (fits_wrap _ _)
theorem p_xor (ho : o.op = .binOp .xor T x y T') (h1 : τ x = .int k m) (h2 : τ y = .int k n) : PureS P o τ s (.int k (bitsOf .xor k m n)) :=
  p_int ho h1 h2 (fun w => by simp [binOp, Op.intBits]; rfl) fun _ _ _ _ => V_int (fits_wrap _ _)
theorem p_shift {op : BinOp} {r : Value} {u : TV} {k' : IntKind} (ho : o.op = .binOp op T x y T') (h1 : τ x = .int k m) (h2 : τ y = .int k' n) (hr : ∀ w, (binOp op T (.int k m) (.int k' n)).run P w = .ok r w) (hu : IntKind.fits k m → IntKind.fits k' n → ∀ C w, V C w u r) : PureS P o τ s u := PureS.val fun C w a hs hx => by
  obtain ⟨hx1, hx2⟩ := ops_bin ho hx
  rw [h1, V] at hx1
  rw [h2, V] at hx2
  exact ⟨r, bin_run (C := C) ho hx1.1 hx2.1 guard_int (hr w), hu hx1.2 hx2.2 C w⟩
theorem p_shl {k' : IntKind} (ho : o.op = .binOp .shl T x y T') (h1 : τ x = .int k m) (h2 : τ y = .int k' n) (hn : ¬ n < 0) : PureS P o τ s (.int k (k.wrap (m * 2 ^ (min n.toNat k.bits)))) :=
  p_shift ho h1 h2 (fun w => by simp [binOp, Op.shift, hn]) fun _ _ _ _ => V_int (fits_wrap _ _)
theorem fits_shr {k : IntKind} {m : Int} (n : Nat) (h : IntKind.fits k m) : IntKind.fits k (m.fdiv (2 ^ n)) := by
  rw [fits_iff] at h ⊢
  have hp : (1 : Int) ≤ 2 ^ n := by
    have : (0 : Int) < 2 ^ n := Int.pow_pos (by decide)
    omega
  have e : m.fdiv (2 ^ n) = m / (2 ^ n) := Int.fdiv_eq_ediv_of_nonneg _ (by omega)
  rw [e]
  generalize (2 : Int) ^ n = p at *
  have hhi : 0 ≤ m → m / p ≤ m := fun hm => Int.ediv_le_self _ hm
  have hnn : 0 ≤ m → 0 ≤ m / p := fun hm => Int.ediv_nonneg hm (by omega)
  have hlo : m < 0 → m ≤ m / p := fun hm => by
    rw [Int.le_ediv_iff_mul_le (by omega)]
    have := Int.mul_le_mul_of_nonpos_left (show m ≤ 0 from by omega) hp
    omega
  have hneg : m < 0 → m / p < 0 := fun hm => Int.ediv_neg_of_neg_of_pos hm (by omega)
  cases k <;> simp [lo, hi] at h ⊢ <;> rcases Int.lt_or_le m 0 with hm | hm <;> first | (have := hlo hm; have := hneg hm; omega) | (have := hhi hm; have := hnn hm; omega)
theorem p_shr {k' : IntKind} (ho : o.op = .binOp .shr T x y T') (h1 : τ x = .int k m) (h2 : τ y = .int k' n) (hn : ¬ n < 0) : PureS P o τ s (.int k (m.fdiv (2 ^ (min n.toNat k.bits)))) :=
  p_shift ho h1 h2 (fun w => by simp [binOp, Op.shift, hn]) fun hm _ _ _ => V_int (fits_shr _ hm)
end

section
variable {T T' : TypeId} {x y : Operand} {m n : ByteArray}
theorem guard_str {op : BinOp} {w : World} : (eqGuard op T x y (.string m) (.string n)).run P w = .ok () w := by
  unfold eqGuard; split <;> simp
theorem p_str {op : BinOp} {r : Value} {u : TV} (ho : o.op = .binOp op T x y T') (h1 : τ x = .str m) (h2 : τ y = .str n) (hr : ∀ w, (binOp op T (.string m) (.string n)).run P w = .ok r w) (hu : ∀ C w, V C w u r) : PureS P o τ s u := PureS.val fun C w a hs hx => by
  obtain ⟨hx1, hx2⟩ := ops_bin ho hx
  rw [h1, V] at hx1
  rw [h2, V] at hx2
  exact ⟨r, bin_run (C := C) ho hx1.1 hx2.1 guard_str (hr w), hu C w⟩
theorem p_sadd (ho : o.op = .binOp .add T x y T') (h1 : τ x = .str m) (h2 : τ y = .str n) (hl : m.size + n.size ≤ 9223372036854775807) : PureS P o τ s (.str (m ++ n)) :=
  p_str ho h1 h2 (r := .string (m ++ n)) (fun w => by
    have hk : IntKind.i64.max = 9223372036854775807 := rfl
    simp [binOp, Op.stringOp, hk, show ¬ ((m.size : Int) + (n.size : Int) > 9223372036854775807) from by omega]) fun _ _ => by rw [V]; exact ⟨rfl, by rw [ByteArray.size_append]; exact hl⟩
theorem p_seql (ho : o.op = .binOp .eql T x y T') (h1 : τ x = .str m) (h2 : τ y = .str n) : PureS P o τ s (.bool (m.toList == n.toList)) :=
  p_str ho h1 h2 (fun w => by simp [binOp, Op.stringOp]) fun _ _ => V_bool
theorem p_sneq (ho : o.op = .binOp .neq T x y T') (h1 : τ x = .str m) (h2 : τ y = .str n) : PureS P o τ s (.bool (!(m.toList == n.toList))) :=
  p_str ho h1 h2 (fun w => by simp [binOp, Op.stringOp]) fun _ _ => V_bool
end

section
variable {T T' : TypeId} {x y : Operand} {m n : Bool}
theorem eqIn_bool (hu : P.underlying T = some .bool) (d : Nat) (w : World) : (Op.equalIn (d + 1) T (.bool m) (.bool n)).run P w = .ok (m == n) w := by
  simp [Op.equalIn, run_underlying hu]
theorem p_beql (hu : P.underlying T = some .bool) (ho : o.op = .binOp .eql T x y T') (h1 : τ x = .bool m) (h2 : τ y = .bool n) : PureS P o τ s (.bool (m == n)) := PureS.val fun C w a hs hx => by
  obtain ⟨hx1, hx2⟩ := ops_bin ho hx
  rw [h1, V] at hx1
  rw [h2, V] at hx2
  exact ⟨.bool (m == n), bin_run (C := C) ho hx1 hx2 (by unfold eqGuard; split <;> simp) (by simp only [binOp, Op.equal, Op.maxDepth]; rw [Sem.run_bind, eqIn_bool hu 9999]; simp), V_bool⟩
theorem p_bneq (hu : P.underlying T = some .bool) (ho : o.op = .binOp .neq T x y T') (h1 : τ x = .bool m) (h2 : τ y = .bool n) : PureS P o τ s (.bool (!(m == n))) := PureS.val fun C w a hs hx => by
  obtain ⟨hx1, hx2⟩ := ops_bin ho hx
  rw [h1, V] at hx1
  rw [h2, V] at hx2
  exact ⟨.bool (!(m == n)), bin_run (C := C) ho hx1 hx2 (by unfold eqGuard; split <;> simp) (by simp only [binOp, Op.equal, Op.maxDepth]; rw [Sem.run_bind, eqIn_bool hu 9999]; simp), V_bool⟩
theorem p_not (ho : o.op = .unOp .not T x) (h1 : τ x = .bool m) : PureS P o τ s (.bool (!m)) := PureS.val fun C w a hs hx => by
  rw [ho] at hx
  have hx1 := hx x (by simp [Op.operands])
  rw [h1, V] at hx1
  exact ⟨.bool (!m), by simp [execOp, ho, hx1, Op.unary], V_bool⟩
theorem p_neg {k : IntKind} {i : Int} (ho : o.op = .unOp .neg T x) (h1 : τ x = .int k i) : PureS P o τ s (.int k (k.wrap (0 - i))) := PureS.val fun C w a hs hx => by
  rw [ho] at hx
  have hx1 := hx x (by simp [Op.operands])
  rw [h1, V] at hx1
  exact ⟨.int k (k.wrap (0 - i)), by simp [execOp, ho, hx1.1, Op.unary, Op.intArith], V_int (fits_wrap _ _)⟩
end

/-! ### Tuples, functions, interfaces -/
theorem p_extract {t : Operand} {i : Nat} {vs : List TV} {u : TV} (ho : o.op = .extract t i) (h1 : τ t = .tuple vs) (hu : vs[i]? = some u) : PureS P o τ s u := PureS.val fun C w a hs hx => by
  rw [ho] at hx
  have hx1 := hx t (by simp [Op.operands])
  rw [h1, V] at hx1
  obtain ⟨us, he, hV⟩ := hx1
  obtain ⟨v, hv, hVu⟩ := VL_get hV i u hu
  rw [Array.getElem?_toList] at hv
  exact ⟨v, by simp [execOp, ho, he, Instr.extract, hv], hVu⟩
theorem VL_map {C : Claims} {w : World} {a : Act} : ∀ (xs : List Operand), (∀ x ∈ xs, V C w (τ x) (a.eval x)) → VL C w (xs.map τ) (xs.map a.eval)
  | [], _ => by simp [VL]
  | x :: xs, h => by
    rw [List.map_cons, List.map_cons, VL]
    exact ⟨_, _, rfl, h x (by simp), VL_map xs fun y hy => h y (by simp [hy])⟩
theorem p_makeFunc {fn : Fn} {f c : Array Operand} (ho : o.op = .makeFunc fn f c) : PureS P o τ s (.func fn (f.toList.map τ) (c.toList.map τ)) := PureS.val fun C w a hs hx => by
  rw [ho] at hx
  simp only [Op.operands, Array.mem_append] at hx
  refine ⟨.func fn (f.map a.eval) (c.map a.eval), by simp [execOp, ho, Instr.makeFunc], ?_⟩
  rw [V]
  exact ⟨_, _, rfl, by simpa using VL_map f.toList fun x hx' => hx x (.inl (Array.mem_toList_iff.1 hx')), by simpa using VL_map c.toList fun x hx' => hx x (.inr (Array.mem_toList_iff.1 hx'))⟩
def notIface (P : Program) (t : TypeId) : Bool := match P.underlying t with | some (.interface _) => false | some _ => true | none => false
theorem p_makeIface {T : TypeId} {x : Operand} (hT : notIface P T = true) (ho : o.op = .makeInterface T x) : PureS P o τ s (.iface T (τ x)) := PureS.val fun C w a hs hx => by
  rw [ho] at hx
  have hx1 := hx x (by simp [Op.operands])
  refine ⟨.iface T (a.eval x), ?_, by rw [V]; exact ⟨_, rfl, hx1⟩⟩
  unfold notIface at hT
  cases hu : P.underlying T with
  | none => rw [hu] at hT; cases hT
  | some d => cases d <;> simp_all [execOp, Instr.makeInterface, run_underlying hu]
theorem p_nilCheck_func {x : Operand} {fn : FuncId} {f c : List TV} (ho : o.op = .nilCheck x) (h1 : τ x = .func (.func fn) f c) : PureS P o τ s (.func (.func fn) f c) := PureS.val fun C w a hs hx => by
  rw [ho] at hx
  have hx1 := hx x (by simp [Op.operands])
  rw [h1] at hx1
  have hx2 := hx1
  rw [V] at hx1
  obtain ⟨fs, cs, he, _⟩ := hx1
  exact ⟨a.eval x, by simp [execOp, ho, he], hx2⟩
theorem p_nilCheck_ptr {x : Operand} {b off : Nat} (ho : o.op = .nilCheck x) (h1 : τ x = .ptr b off) : PureS P o τ s (.ptr b off) := PureS.val fun C w a hs hx => by
  rw [ho] at hx
  have hx1 := hx x (by simp [Op.operands])
  rw [h1] at hx1
  have hx2 := hx1
  rw [V] at hx1
  exact ⟨a.eval x, by simp [execOp, ho, hx1], hx2⟩

/-! ### Lengths, bytes of strings -/
def isSlice (P : Program) (t : TypeId) : Bool := match P.underlying t with | some (.slice _) => true | _ => false
def isStr (P : Program) (t : TypeId) : Bool := match P.underlying t with | some .string => true | _ => false
theorem isSlice_at {P : Program} {t : TypeId} (h : isSlice P t = true) : ∃ e, P.underlying t = some (.slice e) := by
  unfold isSlice at h; split at h
  · exact ⟨_, by assumption⟩
  · cases h
theorem isStr_at {P : Program} {t : TypeId} (h : isStr P t = true) : P.underlying t = some .string := by
  unfold isStr at h; split at h
  · assumption
  · cases h
theorem p_len {T : TypeId} {x : Operand} {ow : Own} {k : Nat} {xs : List TV} (hT : isSlice P T = true) (ho : o.op = .call { callee := .builtin .len, args := #[x], argTypes := #[T] }) (h1 : τ x = .slice ow k xs) : PureS P o τ s (.int .i64 xs.length) := PureS.val fun C w a hs hx => by
  obtain ⟨e, hT⟩ := isSlice_at hT
  rw [ho] at hx
  have hx1 := hx x (by simp [Op.operands, Call.operands])
  rw [h1, V] at hx1
  obtain ⟨A, c, us, he, hc, hb, hV, _⟩ := hx1
  have hl := VL_length hV
  refine ⟨.int .i64 us.length, by simp [execOp, ho, resolve, invoke, builtin, Builtin.len_, run_underlying hT, he, goInt], ?_⟩
  rw [hl]
  exact V_int ((fits_iff _ _).2 (by simp [lo, hi]; omega))
theorem p_slen {T : TypeId} {x : Operand} {m : ByteArray} (hT : isStr P T = true) (ho : o.op = .call { callee := .builtin .len, args := #[x], argTypes := #[T] }) (h1 : τ x = .str m) : PureS P o τ s (.int .i64 m.size) := PureS.val fun C w a hs hx => by
  have hT := isStr_at hT
  rw [ho] at hx
  have hx1 := hx x (by simp [Op.operands, Call.operands])
  rw [h1, V] at hx1
  exact ⟨.int .i64 m.size, by simp [execOp, ho, resolve, invoke, builtin, Builtin.len_, run_underlying hT, hx1.1, goInt], V_int ((fits_iff _ _).2 (by simp [lo, hi]; omega))⟩
/-- The byte at a place. -/
def byteAt (m : ByteArray) (i : Int) : Int := (m.data.toList.getD i.toNat 0).toNat
theorem p_index {T : TypeId} {x y : Operand} {m : ByteArray} {k : IntKind} {i : Int} (hT : isStr P T = true) (ho : o.op = .index T x y) (h1 : τ x = .str m) (h2 : τ y = .int k i) (h0 : 0 ≤ i) (hlt : i < m.size) : PureS P o τ s (.int .u8 (byteAt m i)) := PureS.val fun C w a hs hx => by
  have hT := isStr_at hT
  rw [ho] at hx
  have hx1 := hx x (by simp [Op.operands])
  have hx2 := hx y (by simp [Op.operands])
  rw [h1, V] at hx1
  rw [h2, V] at hx2
  have hn : i.toNat < m.size := by omega
  have hb : m[i.toNat]? = some m[i.toNat] := by simp [hn]
  have he : byteAt m i = (m[i.toNat]).toNat := by
    unfold byteAt
    rw [List.getD_eq_getElem?_getD, List.getElem?_eq_getElem (by simpa using hn)]
    rfl
  refine ⟨.int .u8 (m[i.toNat]).toNat, by simp [execOp, ho, Instr.index, asIntOf, run_underlying hT, hx1.1, hx2.1, h0, hb], ?_⟩
  rw [he]
  exact V_int ((fits_iff _ _).2 (by have := (m[i.toNat]).toNat_lt; simp [lo, hi]; omega))
theorem p_scut {T : TypeId} {x : Operand} {l h : Option Operand} {m : ByteArray} {i j : Int} (hT : isStr P T = true) (ho : o.op = .slice T x l h none) (h1 : τ x = .str m)
    (hl : (l = none ∧ i = 0) ∨ ∃ y k, l = some y ∧ τ y = .int k i) (hh : (h = none ∧ j = m.size) ∨ ∃ y k, h = some y ∧ τ y = .int k j) (h0 : 0 ≤ i) (hij : i ≤ j) (hj : j ≤ m.size) : PureS P o τ s (.str (m.extract i.toNat j.toNat)) := PureS.val fun C w a hs hx => by
  have hT := isStr_at hT
  rw [ho] at hx
  have hx1 := hx x (by simp [Op.operands])
  rw [h1, V] at hx1
  obtain ⟨i, rfl⟩ := Int.eq_ofNat_of_zero_le h0
  obtain ⟨j, rfl⟩ := Int.eq_ofNat_of_zero_le (Int.le_trans h0 hij)
  have hij' : i ≤ j := by omega
  have hj' : j ≤ m.size := by omega
  refine ⟨.string (m.extract i j), ?_, by rw [V]; exact ⟨rfl, by rw [ByteArray.size_extract]; simp; omega⟩⟩
  have hlow : ∀ y k, l = some y → τ y = .int k i → a.eval y = .int k i := fun y k e hy => by
    have := hx y (by simp [Op.operands, e])
    rw [hy, V] at this; exact this.1
  have hhigh : ∀ y k, h = some y → τ y = .int k j → a.eval y = .int k j := fun y k e hy => by
    have := hx y (by simp [Op.operands, e])
    rw [hy, V] at this; exact this.1
  rcases hl with ⟨rfl, hi⟩ | ⟨y, k, rfl, hy⟩ <;> rcases hh with ⟨rfl, hjj⟩ | ⟨y', k', rfl, hy'⟩
  · obtain rfl : i = 0 := by omega
    obtain rfl : j = m.size := by omega
    simp [execOp, ho, Instr.sliceAt, Instr.slice, Instr.sliceBounds, run_underlying hT, hx1.1]
  · obtain rfl : i = 0 := by omega
    simp [execOp, ho, Instr.sliceAt, Instr.slice, Instr.sliceBounds, Instr.sliceBound, asIntOf, run_underlying hT, hx1.1, hhigh _ _ rfl hy', hj']
  · obtain rfl : j = m.size := by omega
    simp [execOp, ho, Instr.sliceAt, Instr.slice, Instr.sliceBounds, Instr.sliceBound, asIntOf, run_underlying hT, hx1.1, hlow _ _ rfl hy, hij']
  · simp [execOp, ho, Instr.sliceAt, Instr.slice, Instr.sliceBounds, Instr.sliceBound, asIntOf, run_underlying hT, hx1.1, hlow _ _ rfl hy, hhigh _ _ rfl hy', hij', hj']
end
end Go.Proofs.YtdkiijhmmmfciaaDoor
