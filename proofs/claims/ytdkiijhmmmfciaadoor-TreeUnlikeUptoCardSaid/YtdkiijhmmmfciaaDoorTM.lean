/- Rules for printed walks: floats, literals of structs, conversions. -/
import Derived.Test.YtdkiijhmmmfciaaDoorTL
set_option linter.unusedVariables false
set_option linter.unusedSimpArgs false
namespace Go.Proofs.YtdkiijhmmmfciaaDoor
open Go

/-! ### Floats -/
def Fl.ord (a b : Fl) : Option Ordering := match a, b with
  | some x, some y => Ieee.double.order x y
  | _, _ => none
def Fl.eq (a b : Fl) : Bool := Fl.ord a b == some .eq
def Fl.ne (a b : Fl) : Bool := Fl.ord a b != some .eq
def Fl.lt (a b : Fl) : Bool := Fl.ord a b == some .lt
def Fl.le (a b : Fl) : Bool := Fl.ord a b == some .lt || Fl.ord a b == some .eq
def Fl.gt (a b : Fl) : Bool := Fl.ord a b == some .gt
def Fl.ge (a b : Fl) : Bool := Fl.ord a b == some .gt || Fl.ord a b == some .eq
def Fl.op (g : Nat → Nat → Option Nat) (a b : Fl) : Fl := match a, b with
  | some x, some y => g x y
  | _, _ => none
def Fl.add (a b : Fl) : Fl := Fl.op Ieee.double.add a b
def Fl.sub (a b : Fl) : Fl := Fl.op Ieee.double.sub a b
def Fl.mul (a b : Fl) : Fl := Fl.op Ieee.double.mul a b
def Fl.div (a b : Fl) : Fl := Fl.op Ieee.double.div a b
def Fl.neg (a : Fl) : Fl := a.map fun x => x ^^^ 9223372036854775808
def Fl.ofInt (n : Int) : Fl := some (FloatKind.f64.nearest n)
/-- A float made whole, where that is told. -/
def Fl.toInt (k : IntKind) (a : Fl) : Option Int := match a with
  | some x => match (Ieee.double.read x).toInt .zero with
    | some n => if lo k ≤ n ∧ n ≤ hi k then some n else none
    | none => none
  | none => none

theorem V_encF {C : Claims} {w : World} {a : Fl} {v : Value} (h : V C w (encF a) v) : ∃ b, v = .float .f64 b ∧ b < 2 ^ FloatKind.f64.format.width ∧ (a = some b ∨ (a = none ∧ (Ieee.double.read b).isNaN = true)) := by
  cases a with
  | some b => rw [encF, V] at h; exact ⟨b, h.1, h.2, .inl rfl⟩
  | none => rw [encF, V] at h; obtain ⟨b, h1, h2, h3⟩ := h; exact ⟨b, h1, h2, .inr ⟨rfl, h3⟩⟩
theorem ord_nan {f : Ieee.Format} {x y : Nat} (h : (f.read x).isNaN = true ∨ (f.read y).isNaN = true) : f.order x y = none := by
  unfold Ieee.Format.order
  rcases h with h | h <;> cases hx : f.read x <;> cases hy : f.read y <;> simp_all [Ieee.Datum.isNaN, Ieee.Datum.order]
theorem sum_nan {x y : Ieee.Datum} (h : x.isNaN = true ∨ y.isNaN = true) : x.sum y = none := by
  rcases h with h | h <;> cases x <;> cases y <;> simp_all [Ieee.Datum.isNaN, Ieee.Datum.sum]
theorem opp_nan {x : Ieee.Datum} : x.opposite.isNaN = x.isNaN := by cases x <;> rfl
theorem add_nan {f : Ieee.Format} {x y : Nat} (h : (f.read x).isNaN = true ∨ (f.read y).isNaN = true) : f.add x y = none := by
  unfold Ieee.Format.add; rw [sum_nan h]; rfl
theorem sub_nan {f : Ieee.Format} {x y : Nat} (h : (f.read x).isNaN = true ∨ (f.read y).isNaN = true) : f.sub x y = none := by
  unfold Ieee.Format.sub; rw [sum_nan (by rw [opp_nan]; exact h)]; rfl
theorem mul_nan {f : Ieee.Format} {x y : Nat} (h : (f.read x).isNaN = true ∨ (f.read y).isNaN = true) : f.mul x y = none := by
  unfold Ieee.Format.mul
  rcases h with h | h <;> cases hx : f.read x <;> cases hy : f.read y <;> simp_all [Ieee.Datum.isNaN, Ieee.Datum.product]
theorem div_nan {f : Ieee.Format} {x y : Nat} (h : (f.read x).isNaN = true ∨ (f.read y).isNaN = true) : f.div x y = none := by
  unfold Ieee.Format.div
  rcases h with h | h <;> cases hx : f.read x <;> cases hy : f.read y <;> simp_all [Ieee.Datum.isNaN, Ieee.Datum.quotient]

section
variable {P : Program} {n : Nat} {E : Env} {s : Res} {Q : AQ} {o : Oper} {τ : Operand → TV}
variable {T T' : TypeId} {x y : Operand} {a b : Fl}
theorem guard_float {op : BinOp} {x1 x2 : Nat} {k k' : FloatKind} {w : World} : (eqGuard op T x y (.float k x1) (.float k' x2)).run P w = .ok () w := by
  unfold eqGuard; split <;> simp
theorem ord_of {x1 x2 : Nat} (h1 : a = some x1 ∨ (a = none ∧ (Ieee.double.read x1).isNaN = true)) (h2 : b = some x2 ∨ (b = none ∧ (Ieee.double.read x2).isNaN = true)) : FloatKind.f64.format.order x1 x2 = Fl.ord a b := by
  show Ieee.double.order x1 x2 = _
  rcases h1 with rfl | ⟨rfl, h1⟩
  · rcases h2 with rfl | ⟨rfl, h2⟩
    · rfl
    · rw [ord_nan (.inr h2)]; rfl
  · rw [ord_nan (.inl h1)]; rcases h2 with rfl | ⟨rfl, h2⟩ <;> rfl
theorem p_fcmp {op : BinOp} {r : Option Ordering → Bool} (hr : ∀ x1 x2 w, (binOp op T (.float .f64 x1) (.float .f64 x2)).run P w = .ok (.bool (r (FloatKind.f64.format.order x1 x2))) w) (ho : o.op = .binOp op T x y T') (h1 : τ x = encF a) (h2 : τ y = encF b) : PureS P o τ s (.bool (r (Fl.ord a b))) := PureS.val fun C w act hs hx => by
  obtain ⟨hx1, hx2⟩ := ops_bin ho hx
  rw [h1] at hx1; rw [h2] at hx2
  obtain ⟨x1, e1, _, k1⟩ := V_encF hx1
  obtain ⟨x2, e2, _, k2⟩ := V_encF hx2
  exact ⟨_, bin_run (C := C) ho e1 e2 guard_float (hr x1 x2 w), by rw [V, ord_of k1 k2]⟩
theorem p_feq (ho : o.op = .binOp .eql T x y T') (h1 : τ x = encF a) (h2 : τ y = encF b) : PureS P o τ s (.bool (Fl.eq a b)) :=
  p_fcmp (r := fun c => c == some .eq) (fun _ _ _ => by simp [binOp, Op.floatCmp]) ho h1 h2
theorem p_fne (ho : o.op = .binOp .neq T x y T') (h1 : τ x = encF a) (h2 : τ y = encF b) : PureS P o τ s (.bool (Fl.ne a b)) :=
  p_fcmp (r := fun c => c != some .eq) (fun _ _ _ => by simp [binOp, Op.floatCmp]) ho h1 h2
theorem p_flt (ho : o.op = .binOp .lss T x y T') (h1 : τ x = encF a) (h2 : τ y = encF b) : PureS P o τ s (.bool (Fl.lt a b)) :=
  p_fcmp (r := fun c => c == some .lt) (fun _ _ _ => by simp [binOp, Op.floatCmp]) ho h1 h2
theorem p_fle (ho : o.op = .binOp .leq T x y T') (h1 : τ x = encF a) (h2 : τ y = encF b) : PureS P o τ s (.bool (Fl.le a b)) :=
  p_fcmp (r := fun c => c == some .lt || c == some .eq) (fun _ _ _ => by simp [binOp, Op.floatCmp]) ho h1 h2
theorem p_fgt (ho : o.op = .binOp .gtr T x y T') (h1 : τ x = encF a) (h2 : τ y = encF b) : PureS P o τ s (.bool (Fl.gt a b)) :=
  p_fcmp (r := fun c => c == some .gt) (fun _ _ _ => by simp [binOp, Op.floatCmp]) ho h1 h2
theorem p_fge (ho : o.op = .binOp .geq T x y T') (h1 : τ x = encF a) (h2 : τ y = encF b) : PureS P o τ s (.bool (Fl.ge a b)) :=
  p_fcmp (r := fun c => c == some .gt || c == some .eq) (fun _ _ _ => by simp [binOp, Op.floatCmp]) ho h1 h2

theorem nan_cut (t : Nat) (x y : Nat) : (Ieee.double.read (Question.cut (.nanBits .f64 x y) t)).isNaN = true ∧ Question.cut (.nanBits .f64 x y) t < 2 ^ FloatKind.f64.format.width := by
  have h2 : t / 2 % (2 ^ 52 - 1) < 2 ^ 52 - 1 := Nat.mod_lt _ (by decide)
  have h3 : t % 2 < 2 := Nat.mod_lt _ (by decide)
  have e : Question.cut (.nanBits .f64 x y) t = (t % 2) * 2 ^ 63 + 0x7ff0000000000000 + 1 + (t / 2) % (2 ^ 52 - 1) := rfl
  rw [e]
  generalize t / 2 % (2 ^ 52 - 1) = q at h2
  generalize t % 2 = r at h3
  constructor
  · have hs : Ieee.double.signWeight = 2 ^ 63 := by decide
    have hb : Ieee.double.binade = 2 ^ 52 := by decide
    have hi' : Ieee.double.infRung = 0x7ff0000000000000 := by decide
    have hm : (r * 2 ^ 63 + 0x7ff0000000000000 + 1 + q) % 2 ^ 63 = 0x7ff0000000000000 + 1 + q := by omega
    unfold Ieee.Format.read
    simp only [hs, hb, hi', hm]
    rw [if_neg (by omega), if_neg (by omega), if_neg (by omega)]
    rfl
  · show _ < 2 ^ 64
    omega
theorem Ev.drew {D : Nat → Prop} {C : Claims} {w : World} : Ev D C w C w.drew := ⟨rfl, rfl, rfl, Nat.le_refl _, fun _ _ _ => rfl, fun _ _ _ _ h => h, fun _ _ h => ⟨h, rfl⟩⟩
theorem Sim.drew {C : Claims} {s : Res} {w : World} (h : Sim C s w) : Sim C s w.drew := ⟨h.ok, h.tabs.keep (fun _ _ h => ⟨h, rfl⟩), h.nodup, fun b r hm => (h.at_ b r hm).ev (D := fun _ => False) Ev.drew (fun h => h)⟩
theorem p_farith {op : BinOp} {g : Nat → Nat → Option Nat} (hg : ∀ x1 x2, (Ieee.double.read x1).isNaN = true ∨ (Ieee.double.read x2).isNaN = true → g x1 x2 = none) (hlt : ∀ x1 x2 r, g x1 x2 = some r → r < 2 ^ FloatKind.f64.format.width)
    (hr : ∀ x1 x2 w, (binOp op T (.float .f64 x1) (.float .f64 x2)).run P w = match g x1 x2 with | some r => .ok (.float .f64 r) w | none => .ok (.float .f64 (Question.cut (.nanBits .f64 x1 x2) (w.tape w.drawn (.nanBits .f64 x1 x2)))) w.drew)
    (ho : o.op = .binOp op T x y T') (h1 : τ x = encF a) (h2 : τ y = encF b) : PureS P o τ s (encF (Fl.op g a b)) := PureS.of fun C w act hs hx => by
  obtain ⟨hx1, hx2⟩ := ops_bin ho hx
  rw [h1] at hx1; rw [h2] at hx2
  obtain ⟨x1, e1, _, k1⟩ := V_encF hx1
  obtain ⟨x2, e2, _, k2⟩ := V_encF hx2
  have hop : Fl.op g a b = g x1 x2 := by
    rcases k1 with rfl | ⟨rfl, k1⟩
    · rcases k2 with rfl | ⟨rfl, k2⟩
      · rfl
      · rw [hg _ _ (.inr k2)]; rfl
    · rw [hg _ _ (.inl k1)]; rcases k2 with rfl | ⟨rfl, k2⟩ <;> rfl
  rw [hop]
  have hrun := hr x1 x2 w
  cases hgx : g x1 x2 with
  | some r =>
    rw [hgx] at hrun
    exact ⟨_, C, w, bin_run (C := C) ho e1 e2 guard_float hrun, by rw [encF, V]; exact ⟨rfl, hlt _ _ _ hgx⟩, hs, Ev.refl _ _ _⟩
  | none =>
    rw [hgx] at hrun
    refine ⟨.float .f64 (Question.cut (.nanBits .f64 x1 x2) (w.tape w.drawn (.nanBits .f64 x1 x2))), C, w.drew, ?_, ?_, hs.drew, Ev.drew⟩
    · simp only [execOp, ho, e1, e2]
      simp [guard_float, hrun]
    · rw [encF, V]
      obtain ⟨q1, q2⟩ := nan_cut (w.tape w.drawn (.nanBits .f64 x1 x2)) x1 x2
      exact ⟨_, rfl, q2, q1⟩
theorem arith_run {op : BinOp} {g : Nat → Nat → Option Nat} {x1 x2 : Nat} {w : World} (h : (binOp op T (.float .f64 x1) (.float .f64 x2)) = (do match g x1 x2 with | some r => pure (.float .f64 r) | none => pure (.float .f64 (← choose (.nanBits .f64 x1 x2))))) :
    (binOp op T (.float .f64 x1) (.float .f64 x2)).run P w = match g x1 x2 with | some r => .ok (.float .f64 r) w | none => .ok (.float .f64 (Question.cut (.nanBits .f64 x1 x2) (w.tape w.drawn (.nanBits .f64 x1 x2)))) w.drew := by
  rw [h]
  cases g x1 x2 <;> simp [Question.forced]
theorem p_fadd (ho : o.op = .binOp .add T x y T') (h1 : τ x = encF a) (h2 : τ y = encF b) : PureS P o τ s (encF (Fl.add a b)) :=
  p_farith (fun _ _ h => add_nan h) (fun _ _ _ h => Ieee.Format.add_lt _ h) (fun _ _ _ => arith_run (by simp [binOp, Op.floatArith]; rfl)) ho h1 h2
theorem p_fsub (ho : o.op = .binOp .sub T x y T') (h1 : τ x = encF a) (h2 : τ y = encF b) : PureS P o τ s (encF (Fl.sub a b)) :=
  p_farith (fun _ _ h => sub_nan h) (fun _ _ _ h => Ieee.Format.sub_lt _ h) (fun _ _ _ => arith_run (by simp [binOp, Op.floatArith]; rfl)) ho h1 h2
theorem p_fmul (ho : o.op = .binOp .mul T x y T') (h1 : τ x = encF a) (h2 : τ y = encF b) : PureS P o τ s (encF (Fl.mul a b)) :=
  p_farith (fun _ _ h => mul_nan h) (fun _ _ _ h => Ieee.Format.mul_lt _ h) (fun _ _ _ => arith_run (by simp [binOp, Op.floatArith]; rfl)) ho h1 h2
theorem p_fdiv (ho : o.op = .binOp .quo T x y T') (h1 : τ x = encF a) (h2 : τ y = encF b) : PureS P o τ s (encF (Fl.div a b)) :=
  p_farith (fun _ _ h => div_nan h) (fun _ _ _ h => Ieee.Format.div_lt _ h) (fun _ _ _ => arith_run (by simp [binOp, Op.floatArith]; rfl)) ho h1 h2
theorem neg_eq (b : Nat) (h : b < 2 ^ 64) : b ^^^ 9223372036854775808 = if b < 2 ^ 63 then b + 2 ^ 63 else b - 2 ^ 63 := by
  have e : (9223372036854775808 : Nat) = 2 ^ 63 := by decide
  rw [e]
  apply Nat.eq_of_testBit_eq
  intro i
  rw [Nat.testBit_xor, Nat.testBit_two_pow]
  split
  · rename_i hb
    rw [Nat.add_comm b, ]
    by_cases hi : i = 63
    · subst hi
      rw [Nat.testBit_two_pow_add_eq]
      simp [Nat.testBit_lt_two_pow hb]
    · by_cases hlt : i < 63
      · rw [Nat.testBit_two_pow_add_gt hlt]; simp [show ¬ 63 = i from fun h => hi h.symm]
      · rw [Nat.testBit_lt_two_pow (show b < 2 ^ i from Nat.lt_of_lt_of_le hb (Nat.pow_le_pow_right (by decide) (by omega)))]
        rw [Nat.testBit_lt_two_pow (show 2 ^ 63 + b < 2 ^ i from Nat.lt_of_lt_of_le (show 2 ^ 63 + b < 2 ^ 64 by omega) (Nat.pow_le_pow_right (by decide) (by omega)))]
        simp [show ¬ 63 = i from fun h => hi h.symm]
  · rename_i hb
    obtain ⟨c, rfl⟩ : ∃ c, b = 2 ^ 63 + c := ⟨b - 2 ^ 63, by omega⟩
    rw [show 2 ^ 63 + c - 2 ^ 63 = c from by omega]
    have hc : c < 2 ^ 63 := by omega
    by_cases hi : i = 63
    · subst hi
      rw [Nat.testBit_two_pow_add_eq]
      simp [Nat.testBit_lt_two_pow hc]
    · by_cases hlt : i < 63
      · rw [Nat.testBit_two_pow_add_gt hlt]; simp [show ¬ 63 = i from fun h => hi h.symm]
      · rw [Nat.testBit_lt_two_pow (show c < 2 ^ i from Nat.lt_of_lt_of_le hc (Nat.pow_le_pow_right (by decide) (by omega)))]
        rw [Nat.testBit_lt_two_pow (show 2 ^ 63 + c < 2 ^ i from Nat.lt_of_lt_of_le (show 2 ^ 63 + c < 2 ^ 64 by omega) (Nat.pow_le_pow_right (by decide) (by omega)))]
        simp [show ¬ 63 = i from fun h => hi h.symm]
theorem neg_nan {b : Nat} (hb : b < 2 ^ 64) (h : (Ieee.double.read b).isNaN = true) : (Ieee.double.read (b ^^^ 9223372036854775808)).isNaN = true := by
  have hs : Ieee.double.signWeight = 2 ^ 63 := by decide
  have key : ∀ c : Nat, (Ieee.double.read c).isNaN = decide (¬ c % 2 ^ 63 < Ieee.double.binade ∧ ¬ c % 2 ^ 63 < Ieee.double.infRung ∧ ¬ c % 2 ^ 63 = Ieee.double.infRung) := fun c => by
    unfold Ieee.Format.read
    simp only [hs]
    split
    · simp [Ieee.Datum.isNaN, *]
    · split
      · simp [Ieee.Datum.isNaN, *]
      · split <;> simp [Ieee.Datum.isNaN, *]
  rw [key] at h ⊢
  have : (b ^^^ 9223372036854775808) % 2 ^ 63 = b % 2 ^ 63 := by rw [neg_eq b hb]; split <;> omega
  rw [this]; exact h
theorem p_fneg (ho : o.op = .unOp .neg T x) (h1 : τ x = encF a) : PureS P o τ s (encF (Fl.neg a)) := PureS.val fun C w act hs hx => by
  rw [ho] at hx
  have hx1 := hx x (by simp [Op.operands])
  rw [h1] at hx1
  obtain ⟨x1, e1, hl, k1⟩ := V_encF hx1
  have hn : Op.negFloat .f64 x1 = x1 ^^^ 9223372036854775808 := rfl
  have hl' : x1 ^^^ 9223372036854775808 < 2 ^ FloatKind.f64.format.width := by
    have : FloatKind.f64.format.width = 64 := by decide
    rw [this] at hl ⊢
    rw [neg_eq _ hl]; split <;> omega
  refine ⟨.float .f64 (x1 ^^^ 9223372036854775808), by simp [execOp, ho, e1, Op.unary, hn], ?_⟩
  rcases k1 with rfl | ⟨rfl, k1⟩
  · show V C w (encF (some _)) _
    rw [encF, V]; exact ⟨rfl, hl'⟩
  · show V C w (encF none) _
    rw [encF, V]; exact ⟨_, rfl, hl', neg_nan (show x1 < 2 ^ 64 from hl) k1⟩

/-! ### Conversions -/
def cvB (P : Program) (S T : TypeId) (f : TypeDesc → TypeDesc → Bool) : Bool := match P.underlying S, P.underlying T with
  | some a, some b => f a b
  | _, _ => false
def isIk (P : Program) (T : TypeId) (k : IntKind) : Bool := match P.underlying T with | some (.int k') => decide (k' = k) | _ => false
def isF64 (P : Program) (T : TypeId) : Bool := match P.underlying T with | some (.float .f64) => true | _ => false
theorem isIk_at {T : TypeId} {k : IntKind} (h : isIk P T k = true) : P.underlying T = some (.int k) := by
  unfold isIk at h; split at h
  · simp only [decide_eq_true_eq] at h; subst h; assumption
  · cases h
theorem isF64_at {T : TypeId} (h : isF64 P T = true) : P.underlying T = some (.float .f64) := by
  unfold isF64 at h; split at h
  · assumption
  · cases h
theorem p_cii {k k' : IntKind} {m : Int} (hS : isIk P T k = true) (hT : isIk P T' k' = true) (ho : o.op = .convert T T' x) (h1 : τ x = .int k m) : PureS P o τ s (.int k' (k'.wrap m)) := PureS.val fun C w act hs hx => by
  rw [ho] at hx
  have hx1 := hx x (by simp [Op.operands])
  rw [h1, V] at hx1
  exact ⟨.int k' (k'.wrap m), by simp [execOp, ho, hx1.1, convert, run_underlying (isIk_at hS), run_underlying (isIk_at hT), Conv.intToInt], V_int (fits_wrap _ _)⟩
theorem p_cif {k : IntKind} {m : Int} (hS : isIk P T k = true) (hT : isF64 P T' = true) (ho : o.op = .convert T T' x) (h1 : τ x = .int k m) : PureS P o τ s (encF (Fl.ofInt m)) := PureS.val fun C w act hs hx => by
  rw [ho] at hx
  have hx1 := hx x (by simp [Op.operands])
  rw [h1, V] at hx1
  refine ⟨.float .f64 (FloatKind.f64.nearest m), by simp [execOp, ho, hx1.1, convert, run_underlying (isIk_at hS), run_underlying (isF64_at hT), Conv.intToFloat], ?_⟩
  rw [Fl.ofInt, encF, V]
  exact ⟨rfl, Ieee.Format.write_lt FloatKind.f64.format (.number (decide (m < 0)) m.natAbs 0)⟩
theorem p_cfi {k' : IntKind} {m : Int} (hm : Fl.toInt k' a = some m) (hS : isF64 P T = true) (hT : isIk P T' k' = true) (ho : o.op = .convert T T' x) (h1 : τ x = encF a) : PureS P o τ s (.int k' m) := PureS.val fun C w act hs hx => by
  rw [ho] at hx
  have hx1 := hx x (by simp [Op.operands])
  rw [h1] at hx1
  obtain ⟨x1, e1, hl, k1⟩ := V_encF hx1
  unfold Fl.toInt at hm
  rcases k1 with rfl | ⟨rfl, k1⟩
  · simp only at hm
    split at hm
    · rename_i n hn
      split at hm
      · rename_i hfit
        injection hm with hm; subst hm
        have hf : IntKind.fits k' n := (fits_iff _ _).2 hfit
        refine ⟨.int k' n, ?_, V_int hf⟩
        have hd : (FloatKind.f64.decode x1).toInt .zero = some n := hn
        simp [execOp, ho, e1, convert, run_underlying (isF64_at hS), run_underlying (isIk_at hT), Conv.floatToInt, hd]
        intro h; exact absurd (h hf.1) (Int.not_lt.2 hf.2)
      · cases hm
    · cases hm
  · cases hm

/-! ### Struct literals -/
def notTup : TV → Bool
  | .tuple _ => false
  | _ => true
def fillT (pl : List (Nat × Nat)) : List TV → List (Nat × TV) → Option (List TV)
  | cs, [] => some cs
  | cs, (i, u) :: r => match pl[i]? with
    | none => none
    | some (off, sz) => if u.known && notTup u && Nat.beq u.cells.length sz && Nat.ble (off + sz) cs.length then fillT pl (splice cs off u.cells) r else none
def buildB (P : Program) (T : TypeId) (pl : List (Nat × Nat)) : Bool := match P.underlying T with
  | some (.struct fs) => fs.toList.map (fun f => (f.offset, (P.info? f.type).map (·.size))) == pl.map fun p => (p.1, some p.2)
  | _ => false
theorem fillT_cons {pl : List (Nat × Nat)} {cs : List TV} {i : Nat} {u : TV} {r : List (Nat × TV)} {us : List TV} (h : fillT pl cs ((i, u) :: r) = some us) :
    ∃ off sz, pl[i]? = some (off, sz) ∧ u.known = true ∧ (∀ vs, u ≠ .tuple vs) ∧ u.cells.length = sz ∧ off + sz ≤ cs.length ∧ fillT pl (splice cs off u.cells) r = some us := by
  rw [fillT] at h
  split at h
  · cases h
  · rename_i off sz hp
    split at h
    · rename_i hc
      simp only [Bool.and_eq_true] at hc
      obtain ⟨⟨⟨c1, c2⟩, c3⟩, c4⟩ := hc
      exact ⟨off, sz, hp, c1, (fun vs e => by rw [e] at c2; cases c2), Nat.eq_of_beq_eq_true c3, Nat.le_of_ble_eq_true c4, h⟩
    · cases h
theorem fill_T {C : Claims} {w : World} {a : Act} {pl : List (Nat × Nat)} : ∀ (parts : List (Nat × Operand)) (cs : List TV) (acc : Array Value) (us : List TV), VL C w cs acc.toList → (∀ p ∈ parts, V C w (τ p.2) (a.eval p.2)) →
    fillT pl cs (parts.map fun p => (p.1, τ p.2)) = some us → ∃ vs, Instr.fill (pl[·]?) acc (parts.map fun p => (p.1, a.eval p.2)) = some vs ∧ VL C w us vs.toList
  | [], cs, acc, us, hV, _, h => by
    rw [List.map_nil, fillT] at h
    injection h with h; subst h
    exact ⟨acc, by simp [Instr.fill], hV⟩
  | (i, x) :: parts, cs, acc, us, hV, hx, h => by
    rw [List.map_cons] at h
    have hx1 := hx (i, x) (by simp)
    obtain ⟨off, sz, hp, c1, hnt, c3, hle, h⟩ := fillT_cons h
    have hVc := V_cells c1 hnt hx1
    have hlen : (a.eval x).cells.size = sz := by have := VL_length hVc; rw [Array.length_toList] at this; rw [this]; exact c3
    have hacc : acc.size = cs.length := by have := VL_length hV; rwa [Array.length_toList] at this
    obtain ⟨vs, h1, h2⟩ := fill_T parts (splice cs off (τ x).cells) (splice acc.toList off (a.eval x).cells.toList).toArray us (by simpa using VL_splice hV hVc) (fun p hp => hx p (by simp [hp])) h
    refine ⟨vs, ?_, h2⟩
    simp only [List.map_cons, Instr.fill]
    rw [show (pl[i]?) = some (off, sz) from hp]
    simp only
    rw [if_neg (by simp only [Bool.or_eq_true, decide_eq_true_eq]; rintro (h | h); exact h hlen; omega)]
    rw [← h1]
    congr 1
    have hf := foldl_set [] (a.eval x).cells.toList off acc (by rw [Array.length_toList]; omega)
    rw [← Array.toList_zipIdx, Array.foldl_toList] at hf
    rw [← hf]
theorem p_build {z : Value} {parts : Array (Nat × Operand)} {pl : List (Nat × Nat)} {cs zs : List TV} (hz : zeroB P T z) (hc : constOk z = true) (hzs : (constTV z).cells = zs) (hk : (constTV z).known = true) (ht : ∀ vs, constTV z ≠ .tuple vs) (hT : buildB P T pl = true)
    (ho : o.op = .build T parts) (hf : fillT pl zs (parts.toList.map fun p => (p.1, τ p.2)) = some cs) : PureS P o τ s (.agg cs) := PureS.val fun C w act hs hx => by
  rw [ho] at hx
  subst hzs
  have hzV : VL C w (constTV z).cells z.cells.toList := V_cells hk ht (V_const hc)
  obtain ⟨vs, h1, h2⟩ := fill_T parts.toList _ z.cells cs hzV (fun p hp => hx p.2 (by simp [Op.operands]; exact ⟨p.1, by simpa using hp⟩)) hf
  refine ⟨.agg vs, ?_, by rw [V]; exact ⟨vs, rfl, h2⟩⟩
  unfold buildB at hT
  split at hT
  · rename_i fs hu
    simp only [beq_iff_eq] at hT
    have hplaces : (fs.mapM fun f => (Prod.mk f.offset <$> sizeOf f.type : Sem (Nat × Nat))).run P w = .ok pl.toArray w := by
      obtain ⟨l, rfl⟩ : ∃ l : List Field, fs = l.toArray := ⟨fs.toList, by simp⟩
      simp only [List.mapM_toArray]
      have : ∀ (l : List Field) (pl : List (Nat × Nat)), l.map (fun f => (f.offset, (P.info? f.type).map (·.size))) = pl.map (fun p => (p.1, some p.2)) → (l.mapM fun f => (Prod.mk f.offset <$> sizeOf f.type : Sem (Nat × Nat))).run P w = .ok pl w := by
        intro l
        induction l with
        | nil => intro pl h; cases pl with
          | nil => simp
          | cons => simp at h
        | cons f l ih =>
          intro pl h
          cases pl with
          | nil => simp at h
          | cons p pl =>
            simp only [List.map_cons, List.cons.injEq, Prod.mk.injEq] at h
            obtain ⟨⟨e1, e2⟩, e3⟩ := h
            cases hi : P.info? f.type with
            | none => rw [hi] at e2; cases e2
            | some i =>
              rw [hi] at e2
              simp at e2
              have hs1 : (sizeOf f.type).run P w = .ok i.size w := by simp [sizeOf, typeInfo, hi]
              simp [List.mapM_cons, hs1, ih pl e3, e1, e2]
      simp [this l pl (by simpa using hT)]
    simp [execOp, ho, Instr.build, zeroB_run hz, run_underlying hu, hplaces, h1]
  · cases hT
end
end Go.Proofs.YtdkiijhmmmfciaaDoor
