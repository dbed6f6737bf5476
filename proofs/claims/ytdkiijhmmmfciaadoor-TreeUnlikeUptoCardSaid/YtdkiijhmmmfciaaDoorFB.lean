/- Floats' texts, and when two floats are the same: the program's way and the document's. -/
import Derived.Test.YtdkiijhmmmfciaaDoorFA
import Derived.Test.YtdkiijhmmmfciaaDoorG0
set_option linter.unusedVariables false
set_option linter.unusedSimpArgs false
namespace Go.Proofs.YtdkiijhmmmfciaaDoor
open Go

theorem wr64 {n : Int} (h1 : -9223372036854775808 ≤ n) (h2 : n ≤ 9223372036854775807) : IntKind.wrap .i64 n = n := by
  simp [IntKind.wrap, IntKind.bits, IntKind.signed]; omega
theorem cond_eq {α : Type} (c : Bool) (a b : α) : cond c a b = if c then a else b := by cases c <;> rfl

theorem rung_lt (a : Nat) : rung a < 9223372036854775808 := Nat.mod_lt _ (by decide)
theorem rung_rung (a : Nat) : rung (rung a) = rung a := Nat.mod_eq_of_lt (rung_lt a)
theorem sgn_rung (a : Nat) : sgn (rung a) = false := by
  unfold sgn; rw [Nat.div_eq_of_lt (rung_lt a)]; rfl
theorem sgn_false {a : Nat} (h : a < 18446744073709551616) (hs : sgn a = false) : a = rung a := by
  unfold sgn at hs
  unfold rung
  have : a / 9223372036854775808 % 2 ≠ 1 := by simpa using hs
  omega
theorem sgn_true {a : Nat} (h : a < 18446744073709551616) (hs : sgn a = true) : a = 9223372036854775808 + rung a := by
  unfold sgn at hs
  unfold rung
  have : a / 9223372036854775808 % 2 = 1 := by simpa using hs
  omega
theorem nan_rung (a : Nat) : isNan (rung a) = isNan a := by unfold isNan; rw [rung_rung]
theorem vr_zero : vr 0 = 0 := by decide
theorem ival_pos {y : Nat} (h : y < 9223372036854775808) : ival y = vr y := by
  have h1 : rung y = y := Nat.mod_eq_of_lt h
  have h2 : sgn y = false := by unfold sgn; rw [Nat.div_eq_of_lt h]; rfl
  unfold ival; rw [h1, h2]; rfl
theorem ival_zero : ival 0 = 0 := by decide
theorem vr_lt_iff (r s : Nat) : (vr r : Int) < vr s ↔ r < s := by
  constructor
  · intro h
    rcases Nat.lt_or_ge r s with h1 | h1
    · exact h1
    · have := vr_le h1; omega
  · intro h; have := vr_mono h; omega

/-! ### The sign -/
theorem minus_eq {a : Nat} (k : Nat) (h : a < 18446744073709551616) (hn : isNan a = false) : ref03_Minus k (some a) = some (sgn a) := by
  unfold ref03_Minus
  have h0 : isNan 0 = false := by decide
  rw [fl_lt hn h0, fl_eq hn h0, ival_zero]
  by_cases hz : rung a = 0
  · have hiv : ival a = 0 := by unfold ival; rw [hz, vr_zero]; split <;> rfl
    rw [hiv]
    cases hs : sgn a with
    | true =>
      have := sgn_true h hs
      rw [hz] at this
      subst this
      decide
    | false =>
      have := sgn_false h hs
      rw [hz] at this
      subst this
      decide
  · have hv : 0 < vr (rung a) := by
      have := vr_mono (show 0 < rung a by omega)
      rw [vr_zero] at this
      exact this
    cases hs : sgn a with
    | true =>
      have : ival a < 0 := by unfold ival; rw [hs]; simp only [if_true]; omega
      rw [decide_eq_true this]; rfl
    | false =>
      have h1 : ¬ ival a < 0 := by unfold ival; rw [hs]; simp only [Bool.false_eq_true, if_false]; omega
      have h2 : ¬ ival a = 0 := by unfold ival; rw [hs]; simp only [Bool.false_eq_true, if_false]; omega
      rw [decide_eq_false h1, decide_eq_false h2]; rfl

/-- The same floats? -/
def fsame (a b : Nat) : Bool := if isNan a || isNan b then isNan a && isNan b else decide (a = b)
theorem bits_some (a : Nat) : Fl.bits (some a) = some (a : Int) := rfl
theorem real_Same_eq (k a b : Nat) : real_Same k (some a) (some b) = some (fsame a b) := by
  unfold real_Same math_IsNaN fsame
  simp only [fl_ne_self, bnd, Option.bind_some, bits_some]
  cases isNan a <;> cases isNan b <;> simp
  rw [Bool.eq_iff_iff]; simp
  omega
theorem ref03_Same_eq (k : Nat) {a b : Nat} (ha : a < 18446744073709551616) (hb : b < 18446744073709551616) : ref03_Same k (some a) (some b) = some (fsame a b) := by
  unfold ref03_Same fsame
  simp only [fl_ne_self]
  cases hna : isNan a with
  | true => cases isNan b <;> rfl
  | false =>
    cases hnb : isNan b with
    | true => rfl
    | false =>
      simp only [cond_false, Bool.or_self, Bool.false_eq_true, if_false]
      rw [fl_eq hna hnb]
      by_cases he : ival a = ival b
      · rw [decide_eq_true he]
        simp only [cond_true]
        rw [minus_eq k ha hna, minus_eq k hb hnb]
        simp only [bnd, Option.bind_some]
        congr 1
        rw [Bool.eq_iff_iff]
        simp only [beq_iff_eq, decide_eq_true_eq]
        constructor
        · intro hs
          unfold ival at he
          rw [hs] at he
          cases hsb : sgn b with
          | true =>
            rw [hsb] at he hs
            simp only [if_true] at he
            have h1 := sgn_true ha hs
            have h2 := sgn_true hb hsb
            have : rung a = rung b := vr_inj (by omega)
            omega
          | false =>
            rw [hsb] at he hs
            simp only [Bool.false_eq_true, if_false] at he
            have h1 := sgn_false ha hs
            have h2 := sgn_false hb hsb
            have : rung a = rung b := vr_inj (by omega)
            omega
        · intro h; rw [h]
      · rw [decide_eq_false he]
        simp only [cond_false]
        congr 1
        symm
        apply decide_eq_false
        intro h; exact he (by rw [h])

/-! ### Digits -/
theorem byte_eq (u : Nat) (hu : u ≤ 9223372036854775807) : bytesOf [IntKind.wrap .u8 (IntKind.wrap .i64 (48 + Int.tmod (u : Int) 10))] = ⟨#[UInt8.ofNat (48 + u % 10)]⟩ := by
  have h1 : Int.tmod (u : Int) 10 = ((u % 10 : Nat) : Int) := by
    rw [Int.tmod_eq_emod_of_nonneg (by omega)]; omega
  rw [h1, wr64 (by omega) (by omega)]
  have h2 : IntKind.wrap .u8 (48 + ((u % 10 : Nat) : Int)) = ((48 + u % 10 : Nat) : Int) := by
    simp [IntKind.wrap, IntKind.bits, IntKind.signed]; omega
  rw [h2]
  unfold bytesOf
  simp only [List.map_cons, List.map_nil, Int.toNat_natCast]
theorem digs_ne (f u : Nat) : (digs (f + 1) u).length ≥ 1 := by
  rw [digs]; split <;> simp
theorem ba_append (x y : List UInt8) : (⟨x.toArray⟩ : ByteArray) ++ ⟨y.toArray⟩ = ⟨(x ++ y).toArray⟩ := by
  apply ByteArray.ext
  rw [ByteArray.data_append]
  simp
theorem Put_loop : ∀ (f u m : Nat) (acc : List UInt8), u < 10 ^ (f + 1) → u ≤ 9007199254740992 → f < m → acc.length + f ≤ 1000 → ref02_Put_L0 m (u : Int) ⟨acc.toArray⟩ = some (⟨(digs (f + 1) u ++ acc).toArray⟩, true)
  | f, u, m, acc, hu, hb, hm, ha => by
    obtain ⟨m, rfl⟩ : ∃ j, m = j + 1 := ⟨m - 1, by omega⟩
    rw [ref02_Put_L0, byte_eq u (by omega)]
    have hsz : (⟨#[UInt8.ofNat (48 + u % 10)]⟩ : ByteArray).size + (⟨acc.toArray⟩ : ByteArray).size ≤ 9223372036854775807 := by
      show 1 + acc.toArray.size ≤ _
      simp; omega
    rw [decide_eq_true hsz]
    have hdiv : IntKind.wrap .i64 (Int.tdiv (u : Int) 10) = ((u / 10 : Nat) : Int) := by
      have : Int.tdiv (u : Int) 10 = ((u / 10 : Nat) : Int) := by
        rw [Int.tdiv_eq_ediv_of_nonneg (by omega)]; omega
      rw [this, wr64 (by omega) (by omega)]
    rw [hdiv, show (⟨#[UInt8.ofNat (48 + u % 10)]⟩ : ByteArray) = ⟨[UInt8.ofNat (48 + u % 10)].toArray⟩ from rfl, ba_append]
    unfold chk
    simp only [cond_true]
    by_cases h10 : u < 10
    · rw [show (((u / 10 : Nat) : Int) == 0) = true by simp; omega]
      simp only [cond_true]
      rw [digs, if_pos h10, show u % 10 = u by omega]
    · rw [show (((u / 10 : Nat) : Int) == 0) = false by simp; omega]
      simp only [cond_false]
      cases f with
      | zero => simp at hu; omega
      | succ f =>
        rw [Put_loop f (u / 10) m _ ((Nat.div_lt_iff_lt_mul (by decide)).2 (by rw [← Nat.pow_succ]; exact hu)) (by omega) (by omega) (by simp; omega)]
        rw [digs.eq_def (f + 1 + 1)]
        simp only
        rw [if_neg h10]
        simp
theorem ref02_Put_eq {n : Int} {k : Nat} (h0 : 0 ≤ n) (h1 : n ≤ 9007199254740992) (hk : 20 ≤ k) : ref02_Put k n = some (itoaB n, true) := by
  unfold ref02_Put ref02_most
  rw [decide_eq_false (by omega)]
  simp only [cond_false, bnd, Option.bind_some]
  rw [decide_eq_false (by omega)]
  simp only [cond_false]
  obtain ⟨u, rfl⟩ := Int.eq_ofNat_of_zero_le h0
  have := Put_loop 19 u k [] (by have : (10 : Nat) ^ (19 + 1) = 100000000000000000000 := by decide
                                 omega) (by omega) (by omega) (by simp)
  rw [List.append_nil] at this
  refine Eq.trans this ?_
  unfold itoaB
  rw [if_neg (by omega)]
  simp
theorem guard_Put_eq {n : Int} (k : Nat) (h0 : 0 ≤ n) (h1 : n ≤ 9007199254740992) : guard_Put k n = some (itoaB n, true) := by
  unfold guard_Put
  rw [decide_eq_false (by omega), decide_eq_false (by omega)]
  rfl

/-! ### A float's text -/
theorem abs_eq (k : Nat) {a : Nat} (h : a < 18446744073709551616) : math_Abs k (some a) = some (some (rung a)) := by
  unfold math_Abs
  rw [bnd_of (bits_some a)]
  congr 2
  unfold bitsOf
  simp only
  have h1 : (BitVec.ofInt (IntKind.bits .u64) (a : Int) &&& ~~~ BitVec.ofInt (IntKind.bits .u64) 9223372036854775808).toNat = a % 9223372036854775808 := by
    rw [BitVec.toNat_and]
    have e1 : (BitVec.ofInt (IntKind.bits .u64) (a : Int)).toNat = a := by
      rw [BitVec.toNat_ofInt]
      show (((a : Int) % (18446744073709551616 : Int))).toNat = a
      omega
    have e2 : (~~~ BitVec.ofInt (IntKind.bits .u64) 9223372036854775808).toNat = 2 ^ 63 - 1 := by decide
    rw [e1, e2, Nat.and_two_pow_sub_one_eq_mod]
  rw [h1]
  unfold rung
  have h2 : IntKind.wrap .u64 ((a % 9223372036854775808 : Nat) : Int) = ((a % 9223372036854775808 : Nat) : Int) := by
    simp [IntKind.wrap, IntKind.bits, IntKind.signed]; omega
  rw [h2, Int.toNat_natCast]
theorem signbit_eq (k : Nat) {a : Nat} (h : a < 18446744073709551616) : math_Signbit k (some a) = some (sgn a) := by
  unfold math_Signbit
  rw [bnd_of (bits_some a)]
  congr 1
  rw [Bool.eq_iff_iff]
  simp [IntKind.wrap, IntKind.bits, IntKind.signed, sgn]
  omega

/-! ### Made whole -/
theorem cut_small (m drop : Nat) : ∃ c, Ieee.Toward.zero.cut false m drop = c ∧ c * 2 ^ drop ≤ m ∨ Ieee.Toward.zero.cut false m drop = 0 := by
  unfold Ieee.Toward.cut
  simp only [Bool.toNat_false, Nat.add_zero]
  rw [Nat.shiftLeft_eq, Nat.one_mul]
  by_cases h : drop ≤ m.log2 + 2
  · rw [Nat.min_eq_left h]
    exact ⟨_, .inl ⟨rfl, Nat.div_mul_le_self m _⟩⟩
  · rw [Nat.min_eq_right (by omega)]
    refine ⟨0, .inr ?_⟩
    apply Nat.div_eq_of_lt
    by_cases hm : m = 0
    · subst hm; exact Nat.two_pow_pos _
    · have h1 : m < 2 ^ (m.log2 + 1) := ((Nat.log2_eq_iff hm).1 rfl).2
      have h2 : 2 ^ (m.log2 + 1) ≤ 2 ^ (m.log2 + 2) := Nat.pow_le_pow_right (by decide) (by omega)
      omega
set_option exponentiation.threshold 3000 in
theorem whole_eq {y : Nat} (h : y < 9218868437227405312) : ∃ c, (Ieee.double.read y).integral .zero = .number false c 0 ∧ c * 2 ^ 1074 ≤ vr y := by
  have hr : rung y = y := Nat.mod_eq_of_lt (by omega)
  have hs : sgn y = false := by unfold sgn; rw [Nat.div_eq_of_lt (by omega)]; rfl
  obtain ⟨m, p, e, hv⟩ := read_fin (b := y) (by rw [hr]; exact h)
  rw [e, hs]
  rw [hr] at hv
  simp only [Ieee.Datum.integral]
  refine ⟨_, rfl, ?_⟩
  rw [Nat.shiftLeft_eq, ← hv]
  by_cases hp : p ≤ 1074
  · rw [show (-1074 + (p : Int)).toNat = 0 by omega, show (-(-1074 + (p : Int))).toNat = 1074 - p by omega, Nat.pow_zero, Nat.mul_one]
    obtain ⟨c, h1 | h1⟩ := cut_small m (1074 - p)
    · rw [h1.1, show (2 : Nat) ^ 1074 = 2 ^ (1074 - p) * 2 ^ p by rw [← Nat.pow_add]; congr 1; omega, ← Nat.mul_assoc]
      exact Nat.mul_le_mul_right _ h1.2
    · rw [h1]; simp
  · rw [show (-1074 + (p : Int)).toNat = p - 1074 by omega, show (-(-1074 + (p : Int))).toNat = 0 by omega]
    obtain ⟨c, h1 | h1⟩ := cut_small (m * 2 ^ (p - 1074)) 0
    · rw [h1.1]
      rw [Nat.pow_zero, Nat.mul_one] at h1
      have := Nat.mul_le_mul_right (2 ^ 1074) h1.2
      rwa [Nat.mul_assoc, ← Nat.pow_add, show p - 1074 + 1074 = p by omega] at this
    · rw [h1]; simp
set_option exponentiation.threshold 3000 in
theorem vr_top : vr 4845873199050653696 = 9007199254740992 * 2 ^ 1074 := by
  rw [vr, if_neg (by decide), show 4845873199050653696 % 4503599627370496 = 0 from rfl, show 4845873199050653696 / 4503599627370496 - 1 = 1074 + 1 from rfl, Nat.pow_succ]
set_option exponentiation.threshold 3000 in
/-- A number between 0 and 2^53, made whole. -/
theorem whole_of {y : Nat} (h : y ≤ 4845873199050653696) : ∃ c : Nat, c ≤ 9007199254740992 ∧ Fl.toInt .i64 (some y) = some (c : Int) ∧ Fl.trunc (some y) = some (Fl.ofInt (c : Int)) := by
  obtain ⟨c, h1, h2⟩ := whole_eq (y := y) (by omega)
  have hc : c ≤ 9007199254740992 := by
    have h3 := vr_le h
    rw [vr_top] at h3
    exact Nat.le_of_mul_le_mul_right (Nat.le_trans h2 h3) (Nat.two_pow_pos _)
  refine ⟨c, hc, ?_, ?_⟩
  · unfold Fl.toInt
    simp only [Ieee.Datum.toInt, h1]
    have : Ieee.signed false c 0 = (c : Int) := by simp [Ieee.signed]
    rw [this, if_pos ⟨by simp only [lo]; omega, by simp only [hi]; omega⟩]
  · unfold Fl.trunc
    have hn : (Ieee.double.read y).isNaN = false := by
      cases hd : Ieee.double.read y with
      | nan s t => rw [hd] at h1; simp [Ieee.Datum.integral] at h1
      | _ => rfl
    simp only [hn, Bool.false_eq_true, if_false, h1]
    rfl

/-- The text of a float. -/
def ftext (a : Nat) : ByteArray × Bool :=
  if isNan a then (⟨#[]⟩, false)
  else if rung a = 9218868437227405312 then ((if sgn a then ⟨#[45]⟩ else ⟨#[]⟩) ++ ⟨#[105, 110, 102]⟩, true)
  else if 4845873199050653696 < rung a then (⟨#[]⟩, false)
  else match Fl.toInt .i64 (some (rung a)) with
    | some n => if Fl.ne (some (rung a)) (Fl.ofInt n) then (⟨#[]⟩, false) else ((if sgn a then ⟨#[45]⟩ else ⟨#[]⟩) ++ itoaB n, true)
    | none => (⟨#[]⟩, false)
theorem nil_append (s : ByteArray) : (⟨#[]⟩ : ByteArray) ++ s = s := by
  apply ByteArray.ext; rw [ByteArray.data_append]; simp
theorem chk_true {β : Type} {c : Prop} [Decidable c] (h : c) (x : Option β) : chk (decide c) x = x := by
  rw [decide_eq_true h]; rfl
theorem gt_rung {y z : Nat} (hy : y < 9223372036854775808) (hz : z < 9223372036854775808) (hn : isNan y = false) (hm : isNan z = false) : Fl.gt (some y) (some z) = decide (z < y) := by
  rw [fl_gt hn hm, ival_pos hy, ival_pos hz]
  exact decide_eq_decide.2 (vr_lt_iff z y)
theorem real_Text_eq (k : Nat) {a : Nat} (h : a < 18446744073709551616) : real_Text k (some a) = some (ftext a) := by
  unfold real_Text
  have hrl := rung_lt a
  rw [bnd_of (abs_eq k h)]
  have hinf : math_IsInf k (some (rung a)) 1 = some (decide (rung a = 9218868437227405312)) := by
    unfold math_IsInf
    simp only [show ((1 : Int) == 0) = false by decide, show decide ((1 : Int) < 0) = false by decide, cond_false]
    congr 1
    cases hn : isNan a with
    | true =>
      unfold Fl.gt Fl.ord
      simp only [order_nan (.inl (by rw [nan_rung]; exact hn))]
      have : ¬ rung a = 9218868437227405312 := by
        have := of_decide_eq_true hn; omega
      rw [decide_eq_false this]; rfl
    | false =>
      have := nan_le hn
      rw [gt_rung hrl (by decide) (by rw [nan_rung]; exact hn) (by decide)]
      apply decide_eq_decide.2
      omega
  rw [bnd_of hinf]
  unfold ftext
  cases hn : isNan a with
  | true =>
    have : ¬ rung a = 9218868437227405312 := by
      have := of_decide_eq_true hn; omega
    rw [decide_eq_false this]
    simp only [Bool.not_false, cond_true, math_IsNaN, fl_ne_self, hn, bnd, Option.bind_some, if_true]
  | false =>
    have hle := nan_le hn
    simp only [Bool.false_eq_true, if_false]
    by_cases hi : rung a = 9218868437227405312
    · rw [decide_eq_true hi, if_pos hi]
      simp only [Bool.not_true, cond_false]
      rw [bnd_of (signbit_eq k h)]
      cases sgn a with
      | true => rfl
      | false => simp only [cond_false, Bool.false_eq_true, if_false, nil_append]
    · rw [decide_eq_false hi, if_neg hi]
      simp only [Bool.not_false, cond_true, math_IsNaN, fl_ne_self, hn, bnd, Option.bind_some, cond_false]
      rw [gt_rung hrl (by decide) (by rw [nan_rung]; exact hn) (by decide)]
      by_cases hb : 4845873199050653696 < rung a
      · rw [decide_eq_true hb, if_pos hb]; rfl
      · rw [decide_eq_false hb, if_neg hb]
        simp only [cond_false]
        obtain ⟨c, hc, h1, h2⟩ := whole_of (y := rung a) (by omega)
        unfold math_Trunc
        rw [h2, h1]
        simp only [bnd, Option.bind_some]
        cases Fl.ne (some (rung a)) (Fl.ofInt (c : Int)) with
        | true => rfl
        | false =>
          simp only [cond_false, Bool.false_eq_true, if_false, guard_Put_eq k (n := (c : Int)) (by omega) (by omega), Option.bind_some, signbit_eq k h]
          cases sgn a with
          | true =>
            simp only [cond_true, if_true]
            have := itoaB_size (c : Int)
            rw [chk_true (by show 1 + (itoaB (c : Int)).size ≤ _; omega)]
          | false => simp only [cond_false, Bool.false_eq_true, if_false, nil_append]
theorem ftext_pos {y : Nat} (hy : y < 9223372036854775808) : rung y = y ∧ sgn y = false := by
  refine ⟨Nat.mod_eq_of_lt hy, ?_⟩
  unfold sgn; rw [Nat.div_eq_of_lt hy]; rfl
theorem inf_half : Fl.eq (Fl.div (some 9218868437227405312) (some 4611686018427387904)) (some 9218868437227405312) = true := by decide
theorem ref_pos {k y : Nat} (hk : 20 ≤ k) (hy : y < 9223372036854775808) (hn : isNan y = false) (h0 : 0 < y) : ref03_Text (k + 1) (some y) = some (ftext y) := by
  obtain ⟨hr, hs⟩ := ftext_pos hy
  have hle := nan_le hn
  rw [hr] at hle
  have hz : isNan 0 = false := by decide
  have hv0 : 0 < vr y := by have := vr_mono h0; rw [vr_zero] at this; exact this
  have e1 : Fl.eq (some y) (some 0) = false := by
    rw [fl_eq hn hz, ival_zero, ival_pos hy]; apply decide_eq_false; omega
  have e2 : Fl.gt (some y) (some 0) = true := by
    rw [gt_rung hy (by decide) hn hz]; exact decide_eq_true h0
  rw [ref03_Text]
  simp only [fl_ne_self, hn, e1, e2, cond_false, cond_true]
  rw [bnd_of (minus_eq k (by omega) hn), hs]
  simp only [cond_false]
  unfold ftext
  rw [hn, hr, hs]
  simp only [Bool.false_eq_true, if_false]
  by_cases hi : y = 9218868437227405312
  · subst hi
    rw [inf_half]
    simp only [cond_true, if_true, nil_append]
  · rw [half_ne h0 (by omega), if_neg hi, gt_rung hy (by decide) hn (by decide)]
    simp only [cond_false]
    by_cases hb : 4845873199050653696 < y
    · rw [decide_eq_true hb, if_pos hb]; rfl
    · rw [decide_eq_false hb, if_neg hb]
      simp only [cond_false]
      obtain ⟨c, hc, h1, h2⟩ := whole_of (y := y) (by omega)
      rw [h1]
      simp only [bnd, Option.bind_some]
      cases Fl.ne (some y) (Fl.ofInt (c : Int)) with
      | true => rfl
      | false =>
        simp only [cond_false, Bool.false_eq_true, if_false, ref02_Put_eq (n := (c : Int)) (k := k) (by omega) (by omega) hk, Option.bind_some, nil_append]
theorem zero_whole : Fl.toInt .i64 (some 0) = some 0 := by decide
theorem zero_ne : Fl.ne (some 0) (Fl.ofInt 0) = false := by decide
theorem neg_true {a : Nat} (h : a < 18446744073709551616) (hs : sgn a = true) : Fl.neg (some a) = some (rung a) := by
  unfold Fl.neg
  simp only [Option.map_some]
  congr 1
  have h1 := sgn_true h hs
  have h2 := rung_lt a
  generalize rung a = r at h1 h2
  subst h1
  have e : (9223372036854775808 + r) = 2 ^ 63 * 1 + r := by rfl
  rw [e, Nat.two_pow_add_eq_or_of_lt (show r < 2 ^ 63 by omega)]
  apply Nat.eq_of_testBit_eq
  intro i
  rw [Nat.testBit_xor, Nat.testBit_or, show (9223372036854775808 : Nat) = 2 ^ 63 from rfl, Nat.mul_one, Nat.testBit_two_pow]
  by_cases hi : 63 = i
  · subst hi
    have : r.testBit 63 = false := Nat.testBit_lt_two_pow h2
    rw [this]; rfl
  · simp [hi]
theorem ref03_Text_eq {k a : Nat} (hk : 20 ≤ k) (h : a < 18446744073709551616) : ref03_Text (k + 2) (some a) = some (ftext a) := by
  have hz : isNan 0 = false := by decide
  cases hn : isNan a with
  | true =>
    rw [ref03_Text]
    simp only [fl_ne_self, hn, cond_true]
    unfold ftext
    rw [hn]; rfl
  | false =>
    cases hs : sgn a with
    | false =>
      have ha := sgn_false h hs
      have hlt := rung_lt a
      rcases Nat.eq_zero_or_pos a with h0 | h0
      · subst h0
        rw [ref03_Text]
        have e1 : Fl.eq (some 0) (some 0) = true := by decide
        have e2 : Fl.gt (some 0) (some 0) = false := by decide
        have e3 : Fl.gt (some 0) (some 4845873199050653696) = false := by decide
        simp only [fl_ne_self, hn, e1, e2, e3, cond_true, cond_false]
        rw [bnd_of (minus_eq (k + 1) h hn), hs]
        simp only [cond_false]
        rw [bnd_of (minus_eq (k + 1) h hn), hs]
        simp only [cond_false]
        rw [bnd_of zero_whole, zero_ne]
        simp only [cond_false]
        rw [bnd_of zero_whole, bnd_of (ref02_Put_eq (n := 0) (k := k + 1) (by omega) (by omega) (by omega))]
        decide
      · exact ref_pos (k := k + 1) (by omega) (by omega) hn h0
    | true =>
      have ha := sgn_true h hs
      have hlt := rung_lt a
      rcases Nat.eq_zero_or_pos (rung a) with h0 | h0
      · rw [h0] at ha
        subst ha
        rw [ref03_Text]
        have e1 : Fl.eq (some (9223372036854775808 + 0)) (some 0) = true := by decide
        simp only [fl_ne_self, hn, e1, cond_true, cond_false]
        rw [bnd_of (minus_eq (k + 1) h hn), hs]
        simp only [cond_true]
        decide
      · rw [ref03_Text]
        have hv0 : 0 < vr (rung a) := by have := vr_mono h0; rw [vr_zero] at this; exact this
        have e1 : Fl.eq (some a) (some 0) = false := by
          rw [fl_eq hn hz, ival_zero]; apply decide_eq_false
          unfold ival; rw [hs]; simp only [if_true]; omega
        simp only [fl_ne_self, hn, e1, cond_true, cond_false]
        rw [bnd_of (minus_eq (k + 1) h hn), hs]
        simp only [cond_true]
        rw [neg_true h hs, bnd_of (ref_pos hk hlt (by rw [nan_rung]; exact hn) h0)]
        unfold ftext
        rw [nan_rung, hn, rung_rung, sgn_rung, hs]
        simp only [Bool.false_eq_true, if_false, if_true, nil_append]
        by_cases hi : rung a = 9218868437227405312
        · rw [if_pos hi, if_pos hi]; rfl
        · rw [if_neg hi, if_neg hi]
          by_cases hb : 4845873199050653696 < rung a
          · rw [if_pos hb, if_pos hb]; rfl
          · rw [if_neg hb, if_neg hb]
            obtain ⟨c, hc, h1, h2⟩ := whole_of (y := rung a) (by omega)
            rw [h1]
            simp only
            by_cases hne : Fl.ne (some (rung a)) (Fl.ofInt (c : Int)) = true
            · simp only [hne, if_true, Bool.not_false, cond_true]
            · simp only [hne, Bool.false_eq_true, if_false, Bool.not_true, cond_false]
              have := itoaB_size (c : Int)
              rw [chk_true (by show 1 + (itoaB (c : Int)).size ≤ _; omega)]
end Go.Proofs.YtdkiijhmmmfciaaDoor
