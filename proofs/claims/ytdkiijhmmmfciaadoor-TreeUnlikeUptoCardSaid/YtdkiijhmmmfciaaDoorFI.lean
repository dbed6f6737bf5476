/- What a text says: two policies of one text are the same. -/
import Derived.Test.YtdkiijhmmmfciaaDoorFH
set_option linter.unusedVariables false
set_option linter.unusedSimpArgs false
namespace Go.Proofs.YtdkiijhmmmfciaaDoor
open Go

def L (b : ByteArray) : List UInt8 := b.data.toList
theorem L_app (a b : ByteArray) : L (a ++ b) = L a ++ L b := by unfold L; rw [ByteArray.data_append]; simp
theorem L_mk (l : List UInt8) : L ⟨l.toArray⟩ = l := by simp [L]
theorem L_inj {a b : ByteArray} (h : L a = L b) : a = b := by
  unfold L at h
  exact ByteArray.ext (Array.toList_inj.1 h)

/-! ### Heads -/
def hd (p : UInt8 → Bool) : List UInt8 → Bool
  | [] => true
  | c :: _ => p c
def isD (c : UInt8) : Bool := decide (48 ≤ c.toNat) && decide (c.toNat ≤ 57)
def NP (sep r : List UInt8) : Prop := ∀ u, r ≠ sep ++ u
theorem NP_of {c : UInt8} {s r : List UInt8} (h : hd (fun d => !(d == c)) r = true) : NP (c :: s) r := fun u e => by
  subst e; simp [hd] at h
theorem hd_mono {p q : UInt8 → Bool} (hpq : ∀ c, p c = true → q c = true) : ∀ {r : List UInt8}, hd p r = true → hd q r = true
  | [], _ => rfl
  | c :: _, h => hpq c h

/-! ### Lists of items -/
def jt {α : Type} (sep : List UInt8) (g : α → List UInt8) (l : List α) : List UInt8 := l.flatMap fun x => sep ++ g x
def jn {α : Type} (sep : List UInt8) (g : α → List UInt8) : List α → List UInt8
  | [] => []
  | x :: l => g x ++ jt sep g l
theorem jt_cons {α : Type} {sep : List UInt8} {g : α → List UInt8} {x : α} {l : List α} : jt sep g (x :: l) = sep ++ (g x ++ jt sep g l) := by
  unfold jt; rw [List.flatMap_cons, List.append_assoc]
theorem jt_G {α : Type} {sep : List UInt8} {g : α → List UInt8} {G : List UInt8 → Prop} (hG : ∀ r, G (sep ++ r)) (l : List α) {r : List UInt8} (hr : G r) : G (jt sep g l ++ r) := by
  cases l with
  | nil => exact hr
  | cons x l => rw [jt_cons, List.append_assoc]; exact hG _
theorem jt_uniq {α : Type} {sep : List UInt8} {g g' : α → List UInt8} {R : α → α → Prop} {G : List UInt8 → Prop} (hG : ∀ r, G (sep ++ r)) {r r' : List UInt8} (hr : G r) (hr' : G r') (nr : NP sep r) (nr' : NP sep r') :
    ∀ {l l' : List α}, (∀ x ∈ l, ∀ y ∈ l', ∀ s s', G s → G s' → g x ++ s = g' y ++ s' → R x y ∧ s = s') → jt sep g l ++ r = jt sep g' l' ++ r' → (l.length = l'.length ∧ ∀ (i : Nat) x y, l[i]? = some x → l'[i]? = some y → R x y) ∧ r = r'
  | [], [], _, h => ⟨⟨rfl, fun i x y hx => by simp at hx⟩, h⟩
  | [], y :: l', _, h => by
    rw [jt_cons, List.append_assoc] at h
    exact (nr _ h).elim
  | x :: l, [], _, h => by
    rw [jt_cons, List.append_assoc] at h
    exact (nr' _ h.symm).elim
  | x :: l, y :: l', hi, h => by
    rw [jt_cons, jt_cons, List.append_assoc, List.append_assoc, List.append_assoc, List.append_assoc] at h
    obtain ⟨h1, h2⟩ := hi x (by simp) y (by simp) _ _ (jt_G hG l hr) (jt_G hG l' hr') (List.append_cancel_left h)
    obtain ⟨⟨h3, h4⟩, h5⟩ := jt_uniq hG hr hr' nr nr' (fun a ha b hb => hi a (by simp [ha]) b (by simp [hb])) h2
    refine ⟨⟨by simp [h3], fun i a b ha hb => ?_⟩, h5⟩
    cases i with
    | zero => simp at ha hb; subst ha; subst hb; exact h1
    | succ i => simp at ha hb; exact h4 i a b ha hb
theorem jn_uniq {α : Type} {sep : List UInt8} {g g' : α → List UInt8} {R : α → α → Prop} {G : List UInt8 → Prop} (hG : ∀ r, G (sep ++ r)) {r r' : List UInt8} (hr : G r) (hr' : G r') (nr : NP sep r) (nr' : NP sep r') {l l' : List α} (h0 : 0 < l.length) (h0' : 0 < l'.length)
    (hi : ∀ x ∈ l, ∀ y ∈ l', ∀ s s', G s → G s' → g x ++ s = g' y ++ s' → R x y ∧ s = s') (h : jn sep g l ++ r = jn sep g' l' ++ r') : (l.length = l'.length ∧ ∀ (i : Nat) x y, l[i]? = some x → l'[i]? = some y → R x y) ∧ r = r' := by
  cases l with
  | nil => simp at h0
  | cons x l =>
    cases l' with
    | nil => simp at h0'
    | cons y l' =>
      refine jt_uniq hG hr hr' nr nr' hi ?_
      have e : ∀ {g : α → List UInt8} {x : α} {l : List α} {r : List UInt8}, jt sep g (x :: l) ++ r = sep ++ (jn sep g (x :: l) ++ r) := fun {g x l r} => by rw [jt_cons, List.append_assoc]; rfl
      rw [e, e, h]
theorem list_eq {α : Type} {l l' : List α} (h : l.length = l'.length ∧ ∀ (i : Nat) x y, l[i]? = some x → l'[i]? = some y → x = y) : l = l' := by
  apply List.ext_getElem h.1
  intro i h1 h2
  exact h.2 i _ _ (List.getElem?_eq_getElem h1) (List.getElem?_eq_getElem h2)
theorem join_tail {α : Type} {p : Nat → ByteArray} {l : List α} {q : α → List UInt8} (hp : ∀ (i : Nat) (h : i < l.length), 0 < i → L (p i) = q l[i]) : ∀ (j i : Nat), i + j = l.length → 0 < i → L (join p i j) = (l.drop i).flatMap q
  | 0, i, h, _ => by
    rw [join, List.drop_of_length_le (by omega)]; rfl
  | j + 1, i, h, h0 => by
    have e := List.drop_eq_getElem_cons (l := l) (i := i) (by omega)
    rw [join, L_app, hp i (by omega) h0, join_tail hp j (i + 1) (by omega) (by omega), e, List.flatMap_cons]
theorem join_jn {α : Type} {p : Nat → ByteArray} {l : List α} {S : ByteArray} {f : α → ByteArray} (hp : ∀ (i : Nat) (h : i < l.length), p i = (if 0 < i then S else ⟨#[]⟩) ++ f l[i]) : L (join p 0 l.length) = jn (L S) (fun x => L (f x)) l := by
  cases l with
  | nil => rfl
  | cons x l =>
    rw [List.length_cons, join, hp 0 (by simp)]
    simp only [Nat.lt_irrefl, if_false, nil_append, L_app, List.getElem_cons_zero, Nat.zero_add]
    rw [join_tail (l := x :: l) (q := fun x => L S ++ L (f x)) (fun i h h0 => by rw [hp i h, if_pos h0, L_app]) l.length 1 (by simp; omega) (by omega)]
    rfl

/-! ### Numbers -/
theorem d_isD {u : Nat} (h : u < 10) : isD (UInt8.ofNat (48 + u)) = true ∧ (UInt8.ofNat (48 + u)).toNat = 48 + u := by
  have : (UInt8.ofNat (48 + u)).toNat = 48 + u := by simp; omega
  refine ⟨?_, this⟩
  unfold isD; rw [this]; simp; omega
theorem digs_all : ∀ f u, (digs f u).all isD = true
  | 0, u => rfl
  | f + 1, u => by
    rw [digs]
    split
    · rename_i h; rw [List.all_cons, (d_isD h).1]; rfl
    · rw [List.all_append, digs_all f, List.all_cons, (d_isD (Nat.mod_lt u (by omega : 0 < 10))).1]; rfl
def numOf (l : List UInt8) : Nat := l.foldl (fun a c => a * 10 + (c.toNat - 48)) 0
theorem numOf_digs : ∀ f u, u < 10 ^ f → numOf (digs f u) = u
  | 0, u, h => by
    simp at h; subst h; rfl
  | f + 1, u, h => by
    rw [digs]
    split
    · rename_i h; show 0 * 10 + _ = _; rw [(d_isD h).2]; omega
    · have := numOf_digs f (u / 10) (by rw [Nat.pow_succ] at h; omega)
      unfold numOf at this ⊢
      rw [List.foldl_append, this]
      show u / 10 * 10 + _ = _
      rw [(d_isD (Nat.mod_lt u (by omega : 0 < 10))).2]; omega
theorem span_eq {p : UInt8 → Bool} : ∀ {x y r s : List UInt8}, x.all p = true → y.all p = true → hd (fun c => !p c) r = true → hd (fun c => !p c) s = true → x ++ r = y ++ s → x = y ∧ r = s
  | [], [], r, s, _, _, _, _, h => ⟨rfl, h⟩
  | [], c :: y, r, s, _, hy, hr, _, h => by
    simp at h; subst h; simp [hd] at hr; simp [hr] at hy
  | c :: x, [], r, s, hx, _, _, hs, h => by
    simp at h; subst h; simp [hd] at hs; simp [hs] at hx
  | c :: x, d :: y, r, s, hx, hy, hr, hs, h => by
    simp only [List.cons_append, List.cons.injEq] at h
    simp only [List.all_cons, Bool.and_eq_true] at hx hy
    obtain ⟨h1, h2⟩ := span_eq hx.2 hy.2 hr hs h.2
    exact ⟨by rw [h.1, h1], h2⟩
theorem num_big {n : Int} (h : numB n = true) : 0 ≤ n ∧ n.toNat < 10 ^ 20 := by
  unfold numB at h
  simp only [Bool.and_eq_true, decide_eq_true_eq] at h
  have : (10 : Nat) ^ 20 = 100000000000000000000 := by decide
  omega
theorem itoa_L {n : Int} (h : numB n = true) : L (itoaB n) = digs 20 n.toNat := by
  unfold itoaB
  rw [if_neg (by have := (num_big h).1; omega), L_mk]
theorem digs_head (u : Nat) : ∃ c t, digs 20 u = c :: t ∧ isD c = true := by
  cases h : digs 20 u with
  | nil => have := digs_ne 19 u; rw [h] at this; simp at this
  | cons c t => exact ⟨c, t, rfl, by have := digs_all 20 u; rw [h] at this; simp at this; exact this.1⟩
theorem digs_uniq {u v : Nat} (hu : u < 10 ^ 20) (hv : v < 10 ^ 20) {r s : List UInt8} (hr : hd (fun c => !isD c) r = true) (hs : hd (fun c => !isD c) s = true) (h : digs 20 u ++ r = digs 20 v ++ s) : u = v ∧ r = s := by
  obtain ⟨h1, h2⟩ := span_eq (digs_all 20 u) (digs_all 20 v) hr hs h
  refine ⟨?_, h2⟩
  have := congrArg numOf h1
  rwa [numOf_digs 20 u hu, numOf_digs 20 v hv] at this
theorem itoa_uniq {m n : Int} (hm : numB m = true) (hn : numB n = true) {r s : List UInt8} (hr : hd (fun c => !isD c) r = true) (hs : hd (fun c => !isD c) s = true) (h : L (itoaB m) ++ r = L (itoaB n) ++ s) : m = n ∧ r = s := by
  rw [itoa_L hm, itoa_L hn] at h
  obtain ⟨h1, h2⟩ := digs_uniq (num_big hm).2 (num_big hn).2 hr hs h
  have := (num_big hm).1; have := (num_big hn).1
  exact ⟨by omega, h2⟩

/-! ### Ranges -/
def dash (c : UInt8) : Bool := !isD c && !(c == 45)
theorem L45 : L (⟨#[45]⟩ : ByteArray) = [45] := rfl
theorem L_nil : L (⟨#[]⟩ : ByteArray) = [] := rfl
theorem rtx_uniq {x y : GRange} (hx : numB x.Low = true ∧ numB x.High = true) (hy : numB y.Low = true ∧ numB y.High = true) {r s : List UInt8} (hr : hd dash r = true) (hs : hd dash s = true) (h : L (rtx x) ++ r = L (rtx y) ++ s) : x = y ∧ r = s := by
  have nd : ∀ {r : List UInt8}, hd dash r = true → hd (fun c => !isD c) r = true := fun h => hd_mono (fun c hc => by unfold dash at hc; simp at hc; simp [hc.1]) h
  have n45 : ∀ {r t : List UInt8}, hd dash r = true → r ≠ 45 :: t := fun h e => by subst e; simp [hd, dash] at h
  have ht : ∀ {z : GRange} {r : List UInt8}, hd dash r = true → hd (fun c => !isD c) (L (if z.High = z.Low then (⟨#[]⟩ : ByteArray) else ⟨#[45]⟩ ++ itoaB z.High) ++ r) = true := fun {z r} h => by
    split
    · rw [L_nil]; exact nd h
    · rw [L_app, L45]; rfl
  unfold rtx at h
  rw [L_app, L_app, List.append_assoc, List.append_assoc] at h
  obtain ⟨h1, h2⟩ := itoa_uniq hx.1 hy.1 (ht hr) (ht hs) h
  have hxy : x.High = y.High → x = y := fun e => by cases x; cases y; simp at h1 e; simp [h1, e]
  by_cases ex : x.High = x.Low <;> by_cases ey : y.High = y.Low
  · rw [if_pos ex, if_pos ey] at h2
    exact ⟨hxy (by omega), h2⟩
  · rw [if_pos ex, if_neg ey, L_app, L45] at h2
    exact (n45 hr h2).elim
  · rw [if_neg ex, if_pos ey, L_app, L45] at h2
    exact (n45 hs h2.symm).elim
  · rw [if_neg ex, if_neg ey, L_app, L_app, L45, List.append_assoc, List.append_assoc] at h2
    obtain ⟨h3, h4⟩ := itoa_uniq hx.2 hy.2 (nd hr) (nd hs) (List.append_cancel_left h2)
    exact ⟨hxy h3, h4⟩
theorem rngT_L (l : List GRange) : L (rngT l) = jn [44] (fun x => L (rtx x)) l := by
  unfold rngT
  rw [join_jn (S := ⟨#[44]⟩) (f := rtx) (fun i h => rpc_at h)]
  rfl

/-! ### What may follow -/
def g0 (c : UInt8) : Bool := c == 32 || c == 41 || c == 59
theorem g0_nd {c : UInt8} (h : g0 c = true) : (!isD c) = true ∧ dash c = true ∧ (!(c == 44)) = true := by
  unfold g0 at h
  simp only [Bool.or_eq_true, beq_iff_eq] at h
  rcases h with (rfl | rfl) | rfl <;> decide
theorem rng_uniq {l l' : List GRange} (h1 : nums l = true) (h2 : nums l' = true) (n1 : 0 < l.length) (n2 : 0 < l'.length) {r s : List UInt8} (hr : hd g0 r = true) (hs : hd g0 s = true) (h : L (rngT l) ++ r = L (rngT l') ++ s) : l = l' ∧ r = s := by
  rw [rngT_L, rngT_L] at h
  unfold nums at h1 h2
  rw [List.all_eq_true] at h1 h2
  obtain ⟨h3, h4⟩ := jn_uniq (R := Eq) (G := fun r => hd dash r = true) (fun r => rfl) (hd_mono (fun c hc => (g0_nd hc).2.1) hr) (hd_mono (fun c hc => (g0_nd hc).2.1) hs)
    (NP_of (hd_mono (fun c hc => (g0_nd hc).2.2) hr)) (NP_of (hd_mono (fun c hc => (g0_nd hc).2.2) hs)) n1 n2
    (fun x hx y hy s s' gs gs' e => rtx_uniq (by simpa using h1 x hx) (by simpa using h2 y hy) gs gs' e) h
  exact ⟨list_eq h3, h4⟩

/-! ### Floats -/
theorem ne_uniq {x y : Nat} {X : Fl} (hx : x < 9223372036854775808) (hy : y < 9223372036854775808) (nx : isNan x = false) (ny : isNan y = false) (h1 : Fl.ne (some x) X = false) (h2 : Fl.ne (some y) X = false) : x = y := by
  rw [fl_ne] at h1 h2
  cases X with
  | none => unfold Fl.eq Fl.ord at h1; simp at h1
  | some z =>
    cases hz : isNan z with
    | true => unfold Fl.eq Fl.ord at h1; simp only [order_nan (.inr hz)] at h1; simp at h1
    | false =>
      rw [fl_eq nx hz] at h1
      rw [fl_eq ny hz] at h2
      simp at h1 h2
      have : ival x = ival y := by omega
      rw [ival_pos hx, ival_pos hy] at this
      exact vr_inj (by omega)
theorem ftext_form {a : Nat} (h : (ftext a).2 = true) : isNan a = false ∧ ∃ body, L (ftext a).1 = (if sgn a then [45] else []) ++ body ∧
    ((rung a = 9218868437227405312 ∧ body = [105, 110, 102]) ∨ (∃ n : Nat, n < 10 ^ 20 ∧ body = digs 20 n ∧ Fl.ne (some (rung a)) (Fl.ofInt n) = false)) := by
  unfold ftext at h ⊢
  cases hn : isNan a with
  | true => rw [hn] at h; simp at h
  | false =>
    refine ⟨rfl, ?_⟩
    rw [hn] at h
    simp only [Bool.false_eq_true, if_false] at h ⊢
    have hs : L (if sgn a = true then (⟨#[45]⟩ : ByteArray) else ⟨#[]⟩) = if sgn a = true then [45] else [] := by split <;> rfl
    by_cases hi : rung a = 9218868437227405312
    · rw [if_pos hi]
      exact ⟨[105, 110, 102], by rw [L_app, hs]; rfl, .inl ⟨hi, rfl⟩⟩
    · rw [if_neg hi] at h ⊢
      by_cases hb : 4845873199050653696 < rung a
      · rw [if_pos hb] at h; simp at h
      · rw [if_neg hb] at h ⊢
        obtain ⟨c, hc, hc2, _⟩ := whole_of (y := rung a) (by omega)
        rw [hc2] at h ⊢
        simp only at h ⊢
        by_cases hne : Fl.ne (some (rung a)) (Fl.ofInt (c : Int)) = true
        · rw [if_pos hne] at h; simp at h
        · rw [if_neg hne]
          have hnum : numB (c : Int) = true := by unfold numB; simp; omega
          have hten : (10 : Nat) ^ 20 = 100000000000000000000 := by decide
          have hlt : c < 10 ^ 20 := by omega
          exact ⟨digs 20 c, by rw [L_app, hs, itoa_L hnum]; rfl, .inr ⟨c, hlt, rfl, by simpa using hne⟩⟩
theorem ftext_uniq {a b : Nat} (ha : a < 18446744073709551616) (hb : b < 18446744073709551616) (h1 : (ftext a).2 = true) (h2 : (ftext b).2 = true) {r s : List UInt8} (hr : hd (fun c => !isD c) r = true) (hs : hd (fun c => !isD c) s = true)
    (h : L (ftext a).1 ++ r = L (ftext b).1 ++ s) : a = b ∧ r = s := by
  obtain ⟨na, x, ex, cx⟩ := ftext_form h1
  obtain ⟨nb, y, ey, cy⟩ := ftext_form h2
  rw [ex, ey, List.append_assoc, List.append_assoc] at h
  have hx : ∃ c t, x = c :: t ∧ c ≠ 45 := by
    rcases cx with ⟨_, rfl⟩ | ⟨n, _, rfl, _⟩
    · exact ⟨_, _, rfl, by decide⟩
    · obtain ⟨c, t, e, hc⟩ := digs_head n
      exact ⟨c, t, e, fun e => by subst e; simp [isD] at hc⟩
  have hy : ∃ c t, y = c :: t ∧ c ≠ 45 := by
    rcases cy with ⟨_, rfl⟩ | ⟨n, _, rfl, _⟩
    · exact ⟨_, _, rfl, by decide⟩
    · obtain ⟨c, t, e, hc⟩ := digs_head n
      exact ⟨c, t, e, fun e => by subst e; simp [isD] at hc⟩
  have hsg : sgn a = sgn b ∧ x ++ r = y ++ s := by
    obtain ⟨c, t, e1, hc⟩ := hx
    obtain ⟨d, u, e2, hd⟩ := hy
    cases sa : sgn a <;> cases sb : sgn b <;> rw [sa, sb] at h <;> simp at h
    · exact ⟨rfl, h⟩
    · rw [e1] at h; simp at h; exact (hc h.1).elim
    · rw [e2] at h; simp at h; exact (hd h.1.symm).elim
    · exact ⟨rfl, h⟩
  obtain ⟨hsg, h⟩ := hsg
  have hru : rung a = rung b ∧ r = s := by
    rcases cx with ⟨ix, rfl⟩ | ⟨n, hn, rfl, kn⟩ <;> rcases cy with ⟨iy, rfl⟩ | ⟨m, hm, rfl, km⟩
    · exact ⟨by rw [ix, iy], List.append_cancel_left h⟩
    · obtain ⟨c, t, e, hc⟩ := digs_head m
      rw [e] at h; simp at h; rw [← h.1] at hc; simp [isD] at hc
    · obtain ⟨c, t, e, hc⟩ := digs_head n
      rw [e] at h; simp at h; rw [h.1] at hc; simp [isD] at hc
    · obtain ⟨e, h'⟩ := digs_uniq hn hm hr hs h
      subst e
      exact ⟨ne_uniq (rung_lt a) (rung_lt b) (by rw [nan_rung]; exact na) (by rw [nan_rung]; exact nb) kn km, h'⟩
  refine ⟨?_, hru.2⟩
  cases sb : sgn b
  · rw [sgn_false hb sb, sgn_false ha (hsg.trans sb), hru.1]
  · rw [sgn_true hb sb, sgn_true ha (hsg.trans sb), hru.1]
end Go.Proofs.YtdkiijhmmmfciaaDoor
