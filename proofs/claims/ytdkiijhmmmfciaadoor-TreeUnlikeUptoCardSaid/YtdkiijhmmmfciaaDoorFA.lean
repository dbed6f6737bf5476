/- Floats by their words: the order of two; half of one. -/
import Derived.Test.YtdkiijhmmmfciaaDoorTQ
set_option linter.unusedVariables false
set_option linter.unusedSimpArgs false
namespace Go.Proofs.YtdkiijhmmmfciaaDoor
open Go

/-- A rung's magnitude, in the least ones. -/
def vr (r : Nat) : Nat := if r < 4503599627370496 then r else (4503599627370496 + r % 4503599627370496) * 2 ^ (r / 4503599627370496 - 1)
def rung (b : Nat) : Nat := b % 9223372036854775808
def sgn (b : Nat) : Bool := b / 9223372036854775808 % 2 == 1
def ival (b : Nat) : Int := if sgn b then -(vr (rung b) : Int) else (vr (rung b) : Int)
def isNan (b : Nat) : Bool := decide (9218868437227405312 < rung b)

theorem vr_mono {r s : Nat} (h : r < s) : vr r < vr s := by
  unfold vr
  by_cases hs : s < 4503599627370496
  · rw [if_pos (by omega), if_pos hs]; exact h
  · rw [if_neg hs]
    by_cases hr : r < 4503599627370496
    · rw [if_pos hr]
      have : 1 ≤ 2 ^ (s / 4503599627370496 - 1) := Nat.one_le_two_pow
      have := Nat.mul_le_mul (Nat.le_refl (4503599627370496 + s % 4503599627370496)) this
      omega
    · rw [if_neg hr]
      by_cases hq : r / 4503599627370496 = s / 4503599627370496
      · rw [hq]
        have : r % 4503599627370496 < s % 4503599627370496 := by omega
        exact Nat.mul_lt_mul_of_pos_right (by omega) (Nat.two_pow_pos _)
      · have h1 : r / 4503599627370496 - 1 + 1 ≤ s / 4503599627370496 - 1 := by omega
        have h2 : 2 ^ (r / 4503599627370496 - 1 + 1) ≤ 2 ^ (s / 4503599627370496 - 1) := Nat.pow_le_pow_right (by decide) h1
        rw [Nat.pow_succ] at h2
        have h3 : (4503599627370496 + r % 4503599627370496) * 2 ^ (r / 4503599627370496 - 1) < (2 * 4503599627370496) * 2 ^ (r / 4503599627370496 - 1) := Nat.mul_lt_mul_of_pos_right (by omega) (Nat.two_pow_pos _)
        have h4 : 4503599627370496 * 2 ^ (s / 4503599627370496 - 1) ≤ (4503599627370496 + s % 4503599627370496) * 2 ^ (s / 4503599627370496 - 1) := Nat.mul_le_mul_right _ (by omega)
        omega
theorem vr_le {r s : Nat} (h : r ≤ s) : vr r ≤ vr s := by
  rcases Nat.lt_or_eq_of_le h with h | h
  · exact Nat.le_of_lt (vr_mono h)
  · rw [h]; exact Nat.le_refl _
theorem vr_inj {r s : Nat} (h : vr r = vr s) : r = s := by
  rcases Nat.lt_trichotomy r s with h1 | h1 | h1
  · have := vr_mono h1; omega
  · exact h1
  · have := vr_mono h1; omega

theorem read_eq (b : Nat) : Ieee.double.read b = (if rung b < 4503599627370496 then .number (sgn b) (rung b) (-1074) else if rung b < 9218868437227405312 then .number (sgn b) (4503599627370496 + rung b % 4503599627370496) (-1074 + (rung b / 4503599627370496 - 1 : Nat)) else if rung b = 9218868437227405312 then .infinity (sgn b) else .nan (sgn b) (rung b - 9218868437227405312)) := by
  unfold Ieee.Format.read
  have e1 : Ieee.double.signWeight = 9223372036854775808 := by decide
  have e2 : Ieee.double.binade = 4503599627370496 := by decide
  have e3 : Ieee.double.infRung = 9218868437227405312 := by decide
  have e4 : Ieee.double.leastPlace = -1074 := by decide
  simp only [e1, e2, e3, e4]
  rfl
theorem read_fin {b : Nat} (h : rung b < 9218868437227405312) : ∃ m p : Nat, Ieee.double.read b = .number (sgn b) m (-1074 + (p : Int)) ∧ m * 2 ^ p = vr (rung b) := by
  rw [read_eq]
  by_cases h1 : rung b < 4503599627370496
  · rw [if_pos h1]
    exact ⟨rung b, 0, by simp, by simp [vr, h1]⟩
  · rw [if_neg h1, if_pos h]
    exact ⟨_, _, rfl, by simp [vr, h1]⟩
theorem read_inf {b : Nat} (h : rung b = 9218868437227405312) : Ieee.double.read b = .infinity (sgn b) := by
  rw [read_eq, if_neg (by omega), if_neg (by omega), if_pos h]
theorem read_nan {b : Nat} (h : 9218868437227405312 < rung b) : ∃ t, Ieee.double.read b = .nan (sgn b) t := by
  rw [read_eq, if_neg (by omega), if_neg (by omega), if_neg (by omega)]
  exact ⟨_, rfl⟩

theorem cmp_scale (x y : Int) (c : Nat) (hc : 0 < c) : compare (x * c) (y * c) = compare x y := by
  show compareOfLessAndEq _ _ = compareOfLessAndEq _ _
  unfold compareOfLessAndEq
  have hc' : (0 : Int) < c := by omega
  have h1 : (x * c < y * c) ↔ x < y := by
    constructor
    · intro h; exact Int.lt_of_mul_lt_mul_right h (by omega)
    · intro h; exact Int.mul_lt_mul_of_pos_right h hc'
  have h2 : (x * c = y * c) ↔ x = y := by
    constructor
    · intro h; exact Int.eq_of_mul_eq_mul_right (by omega) h
    · intro h; rw [h]
  simp only [h1, h2]
theorem signed_eq (s : Bool) (m k : Nat) : Ieee.signed s m k = (if s then -(m : Int) else m) * (2 ^ k : Nat) := by
  unfold Ieee.signed
  rw [Nat.shiftLeft_eq]
  cases s <;> simp [Int.neg_mul]
theorem cmp_lt {x y : Int} (h : x < y) : compare x y = .lt := by
  show compareOfLessAndEq _ _ = _
  unfold compareOfLessAndEq; rw [if_pos h]
theorem cmp_gt {x y : Int} (h : y < x) : compare x y = .gt := by
  show compareOfLessAndEq _ _ = _
  unfold compareOfLessAndEq; rw [if_neg (by omega), if_neg (by omega)]
theorem cmp_eq (x : Int) : compare x x = .eq := by
  show compareOfLessAndEq _ _ = _
  unfold compareOfLessAndEq; rw [if_neg (by omega), if_pos rfl]

theorem order_eq {a b : Nat} (ha : rung a ≤ 9218868437227405312) (hb : rung b ≤ 9218868437227405312) : Ieee.double.order a b = some (compare (ival a) (ival b)) := by
  unfold Ieee.Format.order
  rcases Nat.lt_or_eq_of_le ha with ha | ha <;> rcases Nat.lt_or_eq_of_le hb with hb | hb
  · obtain ⟨m, p, e1, v1⟩ := read_fin ha
    obtain ⟨n, q, e2, v2⟩ := read_fin hb
    rw [e1, e2]
    simp only [Ieee.Datum.order]
    congr 1
    rw [signed_eq, signed_eq]
    have hmin : min (-1074 + (p : Int)) (-1074 + (q : Int)) = -1074 + (min p q : Nat) := by omega
    rw [hmin, show (-1074 + (p : Int) - (-1074 + ((min p q : Nat) : Int))).toNat = p - min p q by omega, show (-1074 + (q : Int) - (-1074 + ((min p q : Nat) : Int))).toNat = q - min p q by omega]
    rw [← cmp_scale _ _ (2 ^ min p q) (Nat.two_pow_pos _)]
    have hp : (2 ^ (p - min p q) : Nat) * 2 ^ min p q = 2 ^ p := by rw [← Nat.pow_add]; congr 1; omega
    have hq : (2 ^ (q - min p q) : Nat) * 2 ^ min p q = 2 ^ q := by rw [← Nat.pow_add]; congr 1; omega
    have e3 : ∀ (s : Bool) (m p k : Nat), (2 ^ (p - k) : Nat) * 2 ^ k = 2 ^ p → (if s then -(m : Int) else m) * ((2 ^ (p - k) : Nat) : Int) * ((2 ^ k : Nat) : Int) = if s then -((m * 2 ^ p : Nat) : Int) else ((m * 2 ^ p : Nat) : Int) := by
      intro s m p k h
      rw [Int.mul_assoc, ← Int.natCast_mul, h]
      cases s
      · simp only [Bool.false_eq_true, if_false]; rw [Int.natCast_mul]
      · simp only [if_true]; rw [Int.neg_mul, Int.natCast_mul]
    rw [e3 _ _ _ _ hp, e3 _ _ _ _ hq, v1, v2]
    rfl
  · obtain ⟨m, p, e1, v1⟩ := read_fin ha
    rw [e1, read_inf hb]
    have hv := vr_mono ha
    simp only [Ieee.Datum.order]
    congr 1
    unfold ival
    rw [hb]
    cases sgn b with
    | true => simp only [if_true]; exact (cmp_gt (by split <;> omega)).symm
    | false => simp only [Bool.false_eq_true, if_false]; exact (cmp_lt (by split <;> omega)).symm
  · obtain ⟨m, p, e1, v1⟩ := read_fin hb
    rw [e1, read_inf ha]
    have hv := vr_mono hb
    simp only [Ieee.Datum.order]
    congr 1
    unfold ival
    rw [ha]
    cases sgn a with
    | true => simp only [if_true]; exact (cmp_lt (by split <;> omega)).symm
    | false => simp only [Bool.false_eq_true, if_false]; exact (cmp_gt (by split <;> omega)).symm
  · rw [read_inf ha, read_inf hb]
    simp only [Ieee.Datum.order]
    congr 1
    unfold ival
    rw [ha, hb]
    have h0 : 0 < vr 9218868437227405312 := by
      have := vr_mono (show 0 < 9218868437227405312 by decide)
      omega
    generalize vr 9218868437227405312 = V at h0 ⊢
    cases sgn a <;> cases sgn b <;> simp only [if_true, Bool.false_eq_true, if_false]
    · rw [cmp_eq]; rfl
    · rw [cmp_gt (by omega)]; rfl
    · rw [cmp_lt (by omega)]; rfl
    · rw [cmp_eq]; rfl
theorem order_nan {a b : Nat} (h : isNan a = true ∨ isNan b = true) : Ieee.double.order a b = none := by
  unfold Ieee.Format.order
  rcases h with h | h
  · obtain ⟨t, e⟩ := read_nan (of_decide_eq_true h)
    rw [e]; rfl
  · obtain ⟨t, e⟩ := read_nan (of_decide_eq_true h)
    rw [e]
    cases Ieee.double.read a <;> rfl

/-! ### Comparisons -/
theorem nan_le {b : Nat} (h : isNan b = false) : rung b ≤ 9218868437227405312 := by
  have := of_decide_eq_false h
  omega
theorem fl_lt {a b : Nat} (ha : isNan a = false) (hb : isNan b = false) : Fl.lt (some a) (some b) = decide (ival a < ival b) := by
  unfold Fl.lt Fl.ord
  simp only [order_eq (nan_le ha) (nan_le hb)]
  rcases Int.lt_trichotomy (ival a) (ival b) with h | h | h
  · rw [cmp_lt h, decide_eq_true h]; rfl
  · rw [h, cmp_eq, decide_eq_false (by omega)]; rfl
  · rw [cmp_gt h, decide_eq_false (by omega)]; rfl
theorem fl_gt {a b : Nat} (ha : isNan a = false) (hb : isNan b = false) : Fl.gt (some a) (some b) = decide (ival b < ival a) := by
  unfold Fl.gt Fl.ord
  simp only [order_eq (nan_le ha) (nan_le hb)]
  rcases Int.lt_trichotomy (ival a) (ival b) with h | h | h
  · rw [cmp_lt h, decide_eq_false (by omega)]; rfl
  · rw [h, cmp_eq, decide_eq_false (by omega)]; rfl
  · rw [cmp_gt h, decide_eq_true h]; rfl
theorem fl_eq {a b : Nat} (ha : isNan a = false) (hb : isNan b = false) : Fl.eq (some a) (some b) = decide (ival a = ival b) := by
  unfold Fl.eq Fl.ord
  simp only [order_eq (nan_le ha) (nan_le hb)]
  rcases Int.lt_trichotomy (ival a) (ival b) with h | h | h
  · rw [cmp_lt h, decide_eq_false (by omega)]; rfl
  · rw [h, cmp_eq, decide_eq_true rfl]; rfl
  · rw [cmp_gt h, decide_eq_false (by omega)]; rfl
theorem fl_ne (a b : Fl) : Fl.ne a b = !Fl.eq a b := rfl
theorem fl_ne_self (a : Nat) : Fl.ne (some a) (some a) = isNan a := by
  cases h : isNan a with
  | true => unfold Fl.ne Fl.ord; simp only [order_nan (.inl h)]; rfl
  | false => rw [fl_ne, fl_eq h h]; simp

/-! ### Half of one -/
theorem cut_zero (n : Nat) : Ieee.Toward.even.cut false n 0 = n := by
  unfold Ieee.Toward.cut
  simp [Nat.mod_one]
theorem half_core {m L : Nat} (i : Int) (h1 : 2 ^ L ≤ m) (h2 : m < 2 ^ (L + 1)) (hL : L ≤ 52) :
    ((Ieee.Datum.number false m i).quotient 54 (.number false 4503599627370496 (-51))).map Ieee.double.write = some (Ieee.double.nearest false (m * 2 ^ (55 - L)) (i - 56 + L)) := by
  have hm0 : m ≠ 0 := by have := Nat.two_pow_pos L; omega
  have hlog : m.log2 = L := (Nat.log2_eq_iff hm0).2 ⟨h1, h2⟩
  have hB : (4503599627370496 : Nat).log2 = 52 := by decide
  have hB2 : (4503599627370496 : Nat) = 2 ^ 52 := by decide
  have e1 : m <<< (54 + 52 - L) = m * 2 ^ (54 - L) * 4503599627370496 := by
    rw [Nat.shiftLeft_eq, hB2, Nat.mul_assoc, ← Nat.pow_add]
    congr 2; omega
  simp only [Ieee.Datum.quotient, hlog, hB, e1]
  rw [if_neg (by decide), Nat.mul_div_cancel _ (by decide), Nat.mul_mod_left]
  simp only [Option.map_some, bne_self_eq_false, Bool.toNat_false, Nat.add_zero, Bool.xor_self, Ieee.Format.write]
  congr 2
  · rw [Nat.mul_left_comm, show (2 : Nat) * 2 ^ (54 - L) = 2 ^ (55 - L) from by rw [Nat.mul_comm, ← Nat.pow_succ]; congr 1; omega]
  · omega
theorem nearest_core {m L : Nat} (i : Int) (hi : -1074 ≤ i) (h1 : 2 ^ L ≤ m) (h2 : m < 2 ^ (L + 1)) (hL : L ≤ 52) (last : Int) (hlast : last = max (i - 53 + L) (-1074)) :
    Ieee.double.nearest false (m * 2 ^ (55 - L)) (i - 56 + L) = min ((last + 1074).toNat * 4503599627370496 + Ieee.Toward.even.cut false (m * 2 ^ (55 - L)) (last - (i - 56 + L)).toNat) 9218868437227405312 := by
  have hm0 : m ≠ 0 := by have := Nat.two_pow_pos L; omega
  have hmag : m * 2 ^ (55 - L) ≠ 0 := Nat.mul_ne_zero hm0 (Nat.ne_of_gt (Nat.two_pow_pos _))
  have hlog : (m * 2 ^ (55 - L)).log2 = 55 := by
    refine (Nat.log2_eq_iff hmag).2 ⟨?_, ?_⟩
    · have := Nat.mul_le_mul_right (2 ^ (55 - L)) h1
      rwa [← Nat.pow_add, show L + (55 - L) = 55 by omega] at this
    · have := Nat.mul_lt_mul_of_pos_right h2 (Nat.two_pow_pos (55 - L))
      rwa [← Nat.pow_add, show L + 1 + (55 - L) = 55 + 1 by omega] at this
  have e2 : Ieee.double.binade = 4503599627370496 := by decide
  have e3 : Ieee.double.infRung = 9218868437227405312 := by decide
  have e4 : Ieee.double.leastPlace = -1074 := by decide
  have e5 : (Ieee.double.fractionBits : Int) = 52 := by decide
  unfold Ieee.Format.nearest Ieee.Format.word
  rw [if_neg hmag]
  simp only [hlog, e2, e3, e4, e5, Bool.false_eq_true, if_false]
  have e6 : max (i - 56 + (L : Int) + ((55 : Nat) : Int) - 52) (-1074) = last := by rw [hlast]; congr 1; omega
  rw [e6]
  have e7 : (i - 56 + (L : Int) - last).toNat = 0 := by omega
  rw [e7, Nat.shiftLeft_zero, show last - -1074 = last + 1074 by omega]
theorem half_ne {r : Nat} (h0 : 0 < r) (h : r < 9218868437227405312) : Fl.eq (Fl.div (some r) (some 4611686018427387904)) (some r) = false := by
  have hr : rung r = r := Nat.mod_eq_of_lt (by omega)
  have hs : sgn r = false := by unfold sgn; rw [Nat.div_eq_of_lt (by omega)]; rfl
  have h2 : Ieee.double.read 4611686018427387904 = .number false 4503599627370496 (-51) := by decide
  have main : ∃ w, Ieee.double.div r 4611686018427387904 = some w ∧ w < 9218868437227405312 ∧ w ≠ r := by
    unfold Ieee.Format.div
    rw [h2, show Ieee.double.fractionBits + 2 = 54 by decide, read_eq, hr, hs]
    by_cases hA : r < 9007199254740992
    · -- the least place
      have e : (if r < 4503599627370496 then Ieee.Datum.number false r (-1074) else if r < 9218868437227405312 then .number false (4503599627370496 + r % 4503599627370496) (-1074 + (r / 4503599627370496 - 1 : Nat)) else if r = 9218868437227405312 then .infinity false else .nan false (r - 9218868437227405312)) = .number false r (-1074) := by
        by_cases hb : r < 4503599627370496
        · rw [if_pos hb]
        · rw [if_neg hb, if_pos h, show 4503599627370496 + r % 4503599627370496 = r by omega, show r / 4503599627370496 - 1 = 0 by omega]; rfl
      rw [e]
      have hne : r ≠ 0 := by omega
      have hl1 : 2 ^ r.log2 ≤ r := ((Nat.log2_eq_iff hne).1 rfl).1
      have hl2 : r < 2 ^ (r.log2 + 1) := ((Nat.log2_eq_iff hne).1 rfl).2
      have hL : r.log2 ≤ 52 := by
        have : r.log2 < 53 := (Nat.log2_lt hne).2 (by have : (2:Nat) ^ 53 = 9007199254740992 := by decide
                                                      omega)
        omega
      generalize r.log2 = L at hl1 hl2 hL
      rw [half_core (-1074) hl1 hl2 hL, nearest_core (-1074) (by omega) hl1 hl2 hL (-1074) (by omega)]
      rw [show ((-1074 : Int) + 1074).toNat = 0 by rfl, Nat.zero_mul, Nat.zero_add, show ((-1074 : Int) - (-1074 - 56 + (L : Int))).toNat = 56 - L by omega]
      have hcut : Ieee.Toward.even.cut false (r * 2 ^ (55 - L)) (56 - L) ≠ r ∧ Ieee.Toward.even.cut false (r * 2 ^ (55 - L)) (56 - L) ≤ r := by
        unfold Ieee.Toward.cut
        have hg : (1 : Nat) <<< min (56 - L) ((r * 2 ^ (55 - L)).log2 + 2) = 2 * 2 ^ (55 - L) := by
          have hlog : (r * 2 ^ (55 - L)).log2 = 55 := by
            refine (Nat.log2_eq_iff (Nat.mul_ne_zero hne (Nat.ne_of_gt (Nat.two_pow_pos _)))).2 ⟨?_, ?_⟩
            · have := Nat.mul_le_mul_right (2 ^ (55 - L)) hl1
              rwa [← Nat.pow_add, show L + (55 - L) = 55 by omega] at this
            · have := Nat.mul_lt_mul_of_pos_right hl2 (Nat.two_pow_pos (55 - L))
              rwa [← Nat.pow_add, show L + 1 + (55 - L) = 55 + 1 by omega] at this
          rw [hlog, Nat.shiftLeft_eq, Nat.one_mul, show min (56 - L) (55 + 2) = (55 - L) + 1 by omega, Nat.pow_succ, Nat.mul_comm]
        simp only [hg]
        have hc : 0 < 2 ^ (55 - L) := Nat.two_pow_pos _
        generalize 2 ^ (55 - L) = c at hc ⊢
        have hd : r * c / (2 * c) = r / 2 := by rw [Nat.mul_comm r c, Nat.mul_comm 2 c, Nat.mul_div_mul_left _ _ hc]
        have hmd : r * c % (2 * c) = (r % 2) * c := by rw [Nat.mul_comm r c, Nat.mul_comm 2 c, Nat.mul_mod_mul_left, Nat.mul_comm]
        rw [hd, hmd]
        rcases Nat.mod_two_eq_zero_or_one r with hz | hz
        · rw [hz]
          have h5 : decide (2 * c < 2 * (0 * c)) = false := decide_eq_false (by omega)
          have h6 : (2 * c == 2 * (0 * c)) = false := by
            rw [beq_eq_false_iff_ne]; omega
          simp only [h5, h6, Bool.false_or, Bool.false_and, Bool.toNat_false]
          omega
        · rw [hz]
          have : ¬ (2 * c < 2 * (1 * c)) := by omega
          have h3 : (2 * c = 2 * (1 * c)) := by omega
          simp only [this, decide_false, Bool.false_or]
          cases hq : (r / 2 % 2 == 1) with
          | true =>
            have : r / 2 % 2 = 1 := by simpa using hq
            simp
            omega
          | false => simp; omega
      refine ⟨_, rfl, ?_, ?_⟩
      · have := Nat.min_le_left (Ieee.Toward.even.cut false (r * 2 ^ (55 - L)) (56 - L)) 9218868437227405312
        have := hcut.2
        omega
      · have := hcut.1; have := hcut.2
        rw [Nat.min_eq_left (by omega)]
        exact hcut.1
    · rw [if_neg (by omega), if_pos h]
      have hl1 : 2 ^ 52 ≤ 4503599627370496 + r % 4503599627370496 := by omega
      have hl2 : 4503599627370496 + r % 4503599627370496 < 2 ^ (52 + 1) := by omega
      rw [half_core _ hl1 hl2 (Nat.le_refl _), nearest_core _ (by omega) hl1 hl2 (Nat.le_refl _) (-1074 + ((r / 4503599627370496 - 2 : Nat) : Int)) (by omega)]
      rw [show ((-1074 : Int) + ((r / 4503599627370496 - 2 : Nat) : Int) - (-1074 + ((r / 4503599627370496 - 1 : Nat) : Int) - 56 + ((52 : Nat) : Int))).toNat = 3 by omega, show ((-1074 : Int) + ((r / 4503599627370496 - 2 : Nat) : Int) + 1074).toNat = r / 4503599627370496 - 2 by omega]
      have hcut : Ieee.Toward.even.cut false ((4503599627370496 + r % 4503599627370496) * 2 ^ (55 - 52)) 3 = 4503599627370496 + r % 4503599627370496 := by
        unfold Ieee.Toward.cut
        have hg : (1 : Nat) <<< min 3 (((4503599627370496 + r % 4503599627370496) * 2 ^ (55 - 52)).log2 + 2) = 8 := by
          have hlog : ((4503599627370496 + r % 4503599627370496) * 2 ^ (55 - 52)).log2 = 55 := by
            refine (Nat.log2_eq_iff (by omega)).2 ⟨?_, ?_⟩ <;> omega
          rw [hlog]; rfl
        simp only [hg]
        rw [show (4503599627370496 + r % 4503599627370496) * 2 ^ (55 - 52) = (4503599627370496 + r % 4503599627370496) * 8 by rfl, Nat.mul_div_cancel _ (by decide), Nat.mul_mod_left]
        simp
      rw [hcut]
      refine ⟨_, rfl, ?_, ?_⟩
      · omega
      · omega
  obtain ⟨w, hw, hwI, hne⟩ := main
  show Fl.eq (Ieee.double.div r 4611686018427387904) (some r) = false
  rw [hw]
  have hrw : rung w = w := Nat.mod_eq_of_lt (by omega)
  have hsw : sgn w = false := by unfold sgn; rw [Nat.div_eq_of_lt (by omega)]; rfl
  rw [fl_eq (decide_eq_false (by rw [hrw]; omega)) (decide_eq_false (by rw [hr]; omega))]
  apply decide_eq_false
  unfold ival
  rw [hs, hsw, hr, hrw]
  intro h
  simp only [Bool.false_eq_true, if_false] at h
  exact hne (vr_inj (by omega))
end Go.Proofs.YtdkiijhmmmfciaaDoor
