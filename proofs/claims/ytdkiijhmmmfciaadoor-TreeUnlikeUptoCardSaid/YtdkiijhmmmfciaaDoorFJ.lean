/- Expressions, rules and policies: one text, one policy. -/
import Derived.Test.YtdkiijhmmmfciaaDoorFI
set_option linter.unusedVariables false
set_option linter.unusedSimpArgs false
namespace Go.Proofs.YtdkiijhmmmfciaaDoor
open Go

/-! ### Atoms -/
theorem GExpr.eq_of {a b : GExpr} (h1 : a.Kind = b.Kind) (h2 : a.Field = b.Field) (h3 : a.Ranges = b.Ranges) (h4 : a.Low = b.Low) (h5 : a.High = b.High) (h6 : a.Of = b.Of) : a = b := by
  cases a; cases b
  simp only at h1 h2 h3 h4 h5 h6
  subst h1; subst h2; subst h3; subst h4; subst h5; subst h6; rfl
theorem zero_of {x : Fl} (hx : ∃ a, x = some a ∧ a < 18446744073709551616) (h : zeroB' x = true) : x = some 0 := by
  obtain ⟨a, rfl, _⟩ := hx
  unfold zeroB' fsame at h
  rw [show fl (some a) = a from rfl, show isNan 0 = false from rfl] at h
  cases hn : isNan a <;> rw [hn] at h <;> simp at h
  rw [h]
theorem bare_of {n : Nat} {e : GExpr} (hg : good (n + 1) e) (h : bareB e = true) : e.Field = 0 ∧ e.Ranges = [] ∧ e.Low = some 0 ∧ e.High = some 0 := by
  unfold bareB at h
  simp only [Bool.and_eq_true, decide_eq_true_eq] at h
  obtain ⟨⟨⟨h1, h2⟩, h3⟩, h4⟩ := h
  exact ⟨h1, List.length_eq_zero_iff.1 h2, zero_of hg.2.2.1 h3, zero_of hg.2.2.2.1 h4⟩
def preL (f : Int) : List UInt8 :=
  if f = 1 then [99, 108, 105, 101, 110, 116, 32] else if f = 2 then [117, 110, 105, 116, 32] else if f = 3 then [102, 117, 110, 99, 32] else if f = 4 then [97, 100, 100, 114, 32] else if f = 5 then [118, 97, 108, 117, 101, 32] else [114, 101, 97, 108, 32]
def bodyL (e : GExpr) : List UInt8 := if e.Field = 6 then L (ftext (fl e.Low)).1 ++ ([32, 116, 111, 32] ++ L (ftext (fl e.High)).1) else L (rngT e.Ranges)
theorem six {f : Int} (h1 : 1 ≤ f) (h2 : f ≤ 6) : f = 1 ∨ f = 2 ∨ f = 3 ∨ f = 4 ∨ f = 5 ∨ f = 6 := by omega
theorem L_lit {a : Array UInt8} : L ⟨a⟩ = a.toList := rfl
theorem atom_L {e : GExpr} (h1 : 1 ≤ e.Field) (h2 : e.Field ≤ 6) : L (atomT e) = preL e.Field ++ bodyL e := by
  unfold atomT fieldT preL bodyL
  rcases six h1 h2 with h | h | h | h | h | h <;> rw [h] <;> simp [L_app, L_lit]
theorem pre_uniq {f g : Int} (f1 : 1 ≤ f) (f2 : f ≤ 6) (g1 : 1 ≤ g) (g2 : g ≤ 6) {r s : List UInt8} (h : preL f ++ r = preL g ++ s) : f = g ∧ r = s := by
  rcases six f1 f2 with rfl | rfl | rfl | rfl | rfl | rfl <;> rcases six g1 g2 with rfl | rfl | rfl | rfl | rfl | rfl <;> simp [preL] at h ⊢ <;> exact h
theorem pre_head {f : Int} (f1 : 1 ≤ f) (f2 : f ≤ 6) : ∃ c t, preL f = c :: t ∧ c ≠ 110 ∧ c ≠ 40 := by
  rcases six f1 f2 with rfl | rfl | rfl | rfl | rfl | rfl <;> exact ⟨_, _, rfl, by decide, by decide⟩
theorem atom_of {e : GExpr} (h : atomB e = true) : e.Of = [] ∧ 1 ≤ e.Field ∧ e.Field ≤ 6 ∧ (e.Field = 6 → e.Ranges = [] ∧ (ftext (fl e.Low)).2 = true ∧ (ftext (fl e.High)).2 = true) ∧ (e.Field ≠ 6 → 0 < e.Ranges.length ∧ nums e.Ranges = true ∧ zeroB' e.Low = true ∧ zeroB' e.High = true) := by
  unfold atomB at h
  simp only [Bool.and_eq_true, decide_eq_true_eq] at h
  obtain ⟨⟨⟨h1, h2⟩, h3⟩, h4⟩ := h
  refine ⟨List.length_eq_zero_iff.1 h1, h2, h3, fun h6 => ?_, fun h6 => ?_⟩
  · rw [if_pos h6] at h4
    simp only [Bool.and_eq_true, decide_eq_true_eq] at h4
    exact ⟨List.length_eq_zero_iff.1 h4.1.1, h4.1.2, h4.2⟩
  · rw [if_neg h6] at h4
    simp only [Bool.and_eq_true, decide_eq_true_eq] at h4
    exact ⟨h4.1.1.1, h4.1.1.2, h4.1.2, h4.2⟩
theorem atom_uniq {n m : Nat} {a b : GExpr} (ga : good (n + 1) a) (gb : good (m + 1) b) (ha : atomB a = true) (hb : atomB b = true) (hk : a.Kind = b.Kind) {r s : List UInt8} (hr : hd g0 r = true) (hs : hd g0 s = true) (h : L (atomT a) ++ r = L (atomT b) ++ s) : a = b ∧ r = s := by
  obtain ⟨oa, a1, a2, a6, a5⟩ := atom_of ha
  obtain ⟨ob, b1, b2, b6, b5⟩ := atom_of hb
  rw [atom_L a1 a2, atom_L b1 b2, List.append_assoc, List.append_assoc] at h
  obtain ⟨hf, h⟩ := pre_uniq a1 a2 b1 b2 h
  have nd : ∀ {r : List UInt8}, hd g0 r = true → hd (fun c => !isD c) r = true := fun h => hd_mono (fun c hc => (g0_nd hc).1) h
  unfold bodyL at h
  by_cases h6 : a.Field = 6
  · rw [if_pos h6, if_pos (hf ▸ h6), List.append_assoc, List.append_assoc, List.append_assoc, List.append_assoc] at h
    obtain ⟨ra, la, ua⟩ := a6 h6
    obtain ⟨rb, lb, ub⟩ := b6 (hf ▸ h6)
    obtain ⟨x, ex, hx⟩ := ga.2.2.1
    obtain ⟨y, ey, hy⟩ := ga.2.2.2.1
    obtain ⟨z, ez, hz⟩ := gb.2.2.1
    obtain ⟨w, ew, hw⟩ := gb.2.2.2.1
    rw [ex, ez, ey, ew] at h
    rw [ex] at la
    rw [ez] at lb
    rw [ey] at ua
    rw [ew] at ub
    obtain ⟨e1, h⟩ := ftext_uniq (a := x) (b := z) hx hz la lb rfl rfl h
    obtain ⟨e2, h⟩ := ftext_uniq (a := y) (b := w) hy hw ua ub (nd hr) (nd hs) (List.append_cancel_left h)
    exact ⟨GExpr.eq_of hk hf (by rw [ra, rb]) (by rw [ex, ez, e1]) (by rw [ey, ew, e2]) (by rw [oa, ob]), h⟩
  · rw [if_neg h6, if_neg (hf ▸ h6)] at h
    obtain ⟨na, ma, la, ua⟩ := a5 h6
    obtain ⟨nb, mb, lb, ub⟩ := b5 (hf ▸ h6)
    obtain ⟨e1, h⟩ := rng_uniq ma mb na nb hr hs h
    exact ⟨GExpr.eq_of hk hf e1 ((zero_of ga.2.2.1 la).trans (zero_of gb.2.2.1 lb).symm) ((zero_of ga.2.2.2.1 ua).trans (zero_of gb.2.2.2.1 ub).symm) (by rw [oa, ob]), h⟩

/-! ### Factors, terms, expressions -/
def fT (p : Nat) (x : GExpr) : List UInt8 := L (brk (decide (x.Kind = 3) || decide (x.Kind = 4)) (tx p x))
def tT (p : Nat) (x : GExpr) : List UInt8 := L (brk (decide (x.Kind = 4)) (tx p x))
def eT (p : Nat) (x : GExpr) : List UInt8 := L (tx p x)
def AND : List UInt8 := [32, 97, 110, 100, 32]
def OR : List UInt8 := [32, 111, 114, 32]
theorem tT_and (p : Nat) (x : GExpr) (h : x.Kind = 3) : tT (p + 1) x = jn AND (fT p) x.Of := by
  unfold tT
  rw [decide_eq_false (by omega), tx, if_neg (by omega), if_neg (by omega), h]
  show L (join (opc 3 x.Of (tx p)) 0 x.Of.length) = _
  rw [join_jn (S := signT 3) (f := fun y => brk (bk 3 y) (tx p y)) (fun i hi => opc_at hi)]
  have : (fun y => L (brk (bk 3 y) (tx p y))) = fT p := by
    funext y; unfold fT bk; rw [show decide ((3 : Int) = 3) = true from rfl, Bool.and_true, Bool.or_comm]
  rw [this]; rfl
theorem tT_one (p : Nat) (x : GExpr) (h : x.Kind ≠ 3) : tT p x = fT p x := by
  unfold tT fT; rw [decide_eq_false h, Bool.false_or]
theorem eT_or (p : Nat) (x : GExpr) (h : x.Kind = 4) : eT (p + 1) x = jn OR (tT p) x.Of := by
  unfold eT
  rw [tx, if_neg (by omega), if_neg (by omega), h, join_jn (S := signT 4) (f := fun y => brk (bk 4 y) (tx p y)) (fun i hi => opc_at hi)]
  have : (fun y => L (brk (bk 4 y) (tx p y))) = tT p := by
    funext y; unfold tT bk; rw [show decide ((4 : Int) = 3) = false from rfl, Bool.and_false, Bool.or_false]
  rw [this]; rfl
theorem eT_one (p : Nat) (x : GExpr) (h : x.Kind ≠ 4) : eT p x = tT p x := by
  unfold tT eT; rw [decide_eq_false h]; rfl
structure W (n p : Nat) (x : GExpr) : Prop where
  g : good n x
  r : rightB p x = true
  k : x.Kind ≠ 0
theorem good_mono : ∀ {n : Nat} {e : GExpr}, good n e → good (n + 1) e
  | 0, e, h => h.elim
  | n + 1, e, h => ⟨h.1, h.2.1, h.2.2.1, h.2.2.2.1, fun x hx => good_mono (h.2.2.2.2 x hx)⟩
theorem W.mono {n p : Nat} {x : GExpr} (h : W n p x) : W (n + 1) p x := ⟨good_mono h.g, h.r, h.k⟩
theorem W.form {n p : Nat} {x : GExpr} (h : W n p x) : ∃ n' p', n = n' + 1 ∧ p = p' + 1 ∧ ((x.Kind = 1 ∧ atomB x = true) ∨ (x.Kind ≠ 1 ∧ bareB x = true ∧ ((x.Kind = 2 ∧ x.Of.length = 1) ∨ (x.Kind = 3 ∧ 2 ≤ x.Of.length) ∨ (x.Kind = 4 ∧ 2 ≤ x.Of.length)) ∧ ∀ y ∈ x.Of, W n' p' y)) := by
  obtain ⟨g, r, k⟩ := h
  cases n with
  | zero => exact g.elim
  | succ n =>
    cases p with
    | zero => simp [rightB] at r
    | succ p =>
      refine ⟨n, p, rfl, rfl, ?_⟩
      by_cases h1 : x.Kind = 1
      · rw [rightB, if_pos h1] at r
        exact .inl ⟨h1, r⟩
      · obtain ⟨k2, k3⟩ := right_kinds r k h1
        rw [rightB, if_neg h1] at r
        simp only [Bool.and_eq_true] at r
        exact .inr ⟨h1, r.1, k2, fun y hy => ⟨g.2.2.2.2 y hy, (k3 y hy).2, (k3 y hy).1⟩⟩
theorem jn_one {α : Type} {sep : List UInt8} {g : α → List UInt8} {x : α} : jn sep g [x] = g x := by
  simp [jn, jt]
theorem bare_same {n m p q : Nat} {a b : GExpr} (wa : W n p a) (wb : W m q b) (hk : a.Kind = b.Kind) (h1 : a.Kind ≠ 1) (ho : a.Of = b.Of) : a = b := by
  obtain ⟨n, p, rfl, rfl, h | h⟩ := wa.form
  · exact (h1 h.1).elim
  · obtain ⟨m, q, rfl, rfl, h' | h'⟩ := wb.form
    · exact (h1 (hk.trans h'.1)).elim
    · obtain ⟨a1, a2, a3, a4⟩ := bare_of wa.g h.2.1
      obtain ⟨b1, b2, b3, b4⟩ := bare_of wb.g h'.2.1
      exact GExpr.eq_of hk (by rw [a1, b1]) (by rw [a2, b2]) (by rw [a3, b3]) (by rw [a4, b4]) ho
/-- From items to lists of items. -/
theorem step {κ : Int} (hκ : κ = 3 ∨ κ = 4) {sep : List UInt8} {g up : Nat → GExpr → List UInt8} (hup : ∀ p x, x.Kind = κ → up (p + 1) x = jn sep (g p) x.Of) (hone : ∀ p x, x.Kind ≠ κ → up p x = g p x)
    {G : List UInt8 → Prop} (hG : ∀ r, G (sep ++ r)) {n m p q : Nat} {a b : GExpr} {r s : List UInt8} (wa : W n p a) (wb : W m q b)
    (hF : a.Kind ≠ κ → ∀ b q m r s, W m q b → G r → G s → g p a ++ r = g q b ++ s → a = b ∧ r = s)
    (hC : ∀ n' p', n = n' + 1 → p = p' + 1 → a.Kind = κ → ∀ x ∈ a.Of, ∀ b q m r s, W n' p' x → W m q b → G r → G s → g p' x ++ r = g q b ++ s → x = b ∧ r = s)
    (hr : G r) (hs : G s) (nr : NP sep r) (ns : NP sep s) (h : up p a ++ r = up q b ++ s) : a = b ∧ r = s := by
  by_cases ka : a.Kind = κ
  · obtain ⟨n, p, rfl, rfl, fa | ⟨a1, _, ak, aw⟩⟩ := wa.form
    · omega
    have la : 2 ≤ a.Of.length := by omega
    rw [hup _ _ ka] at h
    by_cases kb : b.Kind = κ
    · obtain ⟨m, q, rfl, rfl, fb | ⟨b1, _, bk, bw⟩⟩ := wb.form
      · omega
      have lb : 2 ≤ b.Of.length := by omega
      rw [hup _ _ kb] at h
      obtain ⟨h1, h2⟩ := jn_uniq (R := Eq) hG hr hs nr ns (by omega) (by omega) (fun x hx y hy s s' gs gs' e => hC n p rfl rfl ka x hx y q m s s' (aw x hx) (bw y hy) gs gs' e) h
      exact ⟨bare_same wa wb (ka.trans kb.symm) (by omega) (list_eq h1), h2⟩
    · rw [hone _ _ kb, ← jn_one (sep := sep) (g := g q) (x := b)] at h
      obtain ⟨h1, h2⟩ := jn_uniq (R := Eq) hG hr hs nr ns (by omega) (by simp) (fun x hx y hy s s' gs gs' e => by
        simp only [List.mem_cons, List.not_mem_nil, or_false] at hy
        subst hy
        exact hC n p rfl rfl ka x hx y q m s s' (aw x hx) wb gs gs' e) h
      simp only [List.length_cons, List.length_nil] at h1
      omega
  · rw [hone _ _ ka] at h
    by_cases kb : b.Kind = κ
    · obtain ⟨m, q, rfl, rfl, fb | ⟨b1, _, bk, bw⟩⟩ := wb.form
      · omega
      have lb : 2 ≤ b.Of.length := by omega
      rw [hup _ _ kb, ← jn_one (sep := sep) (g := g p) (x := a)] at h
      obtain ⟨h1, h2⟩ := jn_uniq (R := Eq) hG hr hs nr ns (by simp) (by omega) (fun x hx y hy s s' gs gs' e => by
        simp only [List.mem_cons, List.not_mem_nil, or_false] at hx
        subst hx
        exact hF ka y q m s s' (bw y hy) gs gs' e) h
      simp only [List.length_cons, List.length_nil] at h1
      omega
    · rw [hone _ _ kb] at h
      exact hF ka b q m r s wb hr hs h

def FU (n : Nat) : Prop := ∀ (a b : GExpr) (p q m : Nat) (r s : List UInt8), W n p a → W m q b → hd g0 r = true → hd g0 s = true → fT p a ++ r = fT q b ++ s → a = b ∧ r = s
def G1 (r : List UInt8) : Prop := hd g0 r = true ∧ NP AND r
def OU (n : Nat) : Prop := ∀ (a b : GExpr) (p q m : Nat) (r s : List UInt8), W n p a → W m q b → G1 r → G1 s → NP OR r → NP OR s → eT p a ++ r = eT q b ++ s → a = b ∧ r = s
theorem brk_true (s : ByteArray) : L (brk true s) = 40 :: (L s ++ [41]) := by
  unfold brk; rw [if_pos rfl, L_app, L_app]; rfl
theorem brk_false (s : ByteArray) : L (brk false s) = L s := rfl
theorem fT_one {p : Nat} {x : GExpr} (h : x.Kind = 1) : fT (p + 1) x = L (atomT x) := by
  unfold fT; rw [h, tx, if_pos h]; rfl
theorem fT_not {p : Nat} {x y : GExpr} (h : x.Kind = 2) (ho : x.Of = [y]) : fT (p + 1) x = 110 :: 111 :: 116 :: 32 :: fT p y := by
  unfold fT; rw [h, tx, if_neg (by omega), if_pos h, ho]
  show L ((⟨#[110, 111, 116, 32]⟩ : ByteArray) ++ _) = _
  rw [L_app]; rfl
theorem fT_brk {p : Nat} {x : GExpr} (h : x.Kind = 3 ∨ x.Kind = 4) : fT p x = 40 :: (eT p x ++ [41]) := by
  unfold fT eT
  rw [show (decide (x.Kind = 3) || decide (x.Kind = 4)) = true by rcases h with h | h <;> simp [h], brk_true]
theorem fT_head {n p : Nat} {x : GExpr} (w : W n p x) : (x.Kind = 1 ∧ ∃ c t, fT p x = c :: t ∧ c ≠ 110 ∧ c ≠ 40) ∨ (x.Kind = 2 ∧ ∃ t, fT p x = 110 :: t) ∨ ((x.Kind = 3 ∨ x.Kind = 4) ∧ ∃ t, fT p x = 40 :: t) := by
  obtain ⟨n, p, rfl, rfl, f | ⟨h1, _, hk, hw⟩⟩ := w.form
  · obtain ⟨_, f1, f2, _⟩ := atom_of f.2
    obtain ⟨c, t, e, h1, h2⟩ := pre_head f1 f2
    exact .inl ⟨f.1, c, t ++ bodyL x, by rw [fT_one f.1, atom_L f1 f2, e]; rfl, h1, h2⟩
  · rcases hk with ⟨k, hl⟩ | ⟨k, hl⟩ | ⟨k, hl⟩
    · obtain ⟨y, hy⟩ := List.length_eq_one_iff.1 hl
      exact .inr (.inl ⟨k, _, fT_not k hy⟩)
    · exact .inr (.inr ⟨.inl k, _, fT_brk (.inl k)⟩)
    · exact .inr (.inr ⟨.inr k, _, fT_brk (.inr k)⟩)
theorem F12 {n : Nat} (ih : FU n) {a : GExpr} {p : Nat} (wa : W (n + 1) p a) (hk : a.Kind = 1 ∨ a.Kind = 2) (b : GExpr) (q m : Nat) (r s : List UInt8) (wb : W m q b) (hr : hd g0 r = true) (hs : hd g0 s = true) (h : fT p a ++ r = fT q b ++ s) : a = b ∧ r = s := by
  rcases fT_head wa with ⟨ka, c, t, ea, c1, c2⟩ | ⟨ka, t, ea⟩ | ⟨ka, t, ea⟩
  · rcases fT_head wb with ⟨kb, d, u, eb, d1, d2⟩ | ⟨kb, u, eb⟩ | ⟨kb, u, eb⟩
    · obtain ⟨n', p', e1, rfl, fa | fa⟩ := wa.form
      · obtain ⟨m', q', rfl, rfl, fb | fb⟩ := wb.form
        · rw [fT_one ka, fT_one kb] at h
          exact atom_uniq wa.g wb.g fa.2 fb.2 (ka.trans kb.symm) hr hs h
        · exact (fb.1 kb).elim
      · exact (fa.1 ka).elim
    · rw [ea, eb] at h; simp at h; exact (c1 h.1).elim
    · rw [ea, eb] at h; simp at h; exact (c2 h.1).elim
  · rcases fT_head wb with ⟨kb, d, u, eb, d1, d2⟩ | ⟨kb, u, eb⟩ | ⟨kb, u, eb⟩
    · rw [ea, eb] at h; simp at h; exact (d1 h.1.symm).elim
    · obtain ⟨n', p', e1, rfl, fa | ⟨a1, _, ak, aw⟩⟩ := wa.form
      · omega
      · obtain ⟨m', q', rfl, rfl, fb | ⟨b1, _, bk, bw⟩⟩ := wb.form
        · omega
        · obtain ⟨x, hx⟩ := List.length_eq_one_iff.1 (show a.Of.length = 1 by omega)
          obtain ⟨y, hy⟩ := List.length_eq_one_iff.1 (show b.Of.length = 1 by omega)
          rw [fT_not ka hx, fT_not kb hy] at h
          simp only [List.cons_append, List.cons.injEq, true_and] at h
          obtain rfl : n = n' := by omega
          obtain ⟨e2, h⟩ := ih x y p' q' m' r s (aw x (by simp [hx])) (bw y (by simp [hy])) hr hs h
          exact ⟨bare_same wa wb (ka.trans kb.symm) (by omega) (by rw [hx, hy, e2]), h⟩
    · rw [ea, eb] at h; simp at h
  · omega
theorem NP_41 {sep r : List UInt8} (h : ∃ t, sep = 32 :: t) : NP sep (41 :: r) := fun u e => by
  obtain ⟨t, rfl⟩ := h; simp at e
theorem uniq : ∀ n, FU n ∧ OU n
  | 0 => ⟨fun a b p q m r s wa => wa.g.elim, fun a b p q m r s wa => wa.g.elim⟩
  | n + 1 => by
    obtain ⟨fu, ou⟩ := uniq n
    have AC : ∀ (a b : GExpr) (p q m : Nat) (r s : List UInt8), W n p a → W m q b → G1 r → G1 s → tT p a ++ r = tT q b ++ s → a = b ∧ r = s := fun a b p q m r s wa wb hr hs h =>
      step (κ := 3) (.inl rfl) (sep := AND) (g := fT) (up := tT) tT_and tT_one (G := fun r => hd g0 r = true) (fun r => rfl) wa wb
        (fun _ b q m r s wb hr hs h => fu a b p q m r s wa wb hr hs h)
        (fun n' p' en ep _ x hx b q m r s wx wb hr hs h => fu x b p' q m r s (by rw [en]; exact wx.mono) wb hr hs h) hr.1 hs.1 hr.2 hs.2 h
    have AA : ∀ (a b : GExpr) (p q m : Nat) (r s : List UInt8), a.Kind ≠ 4 → W (n + 1) p a → W m q b → G1 r → G1 s → tT p a ++ r = tT q b ++ s → a = b ∧ r = s := fun a b p q m r s h4 wa wb hr hs h =>
      step (κ := 3) (.inl rfl) (sep := AND) (g := fT) (up := tT) tT_and tT_one (G := fun r => hd g0 r = true) (fun r => rfl) wa wb
        (fun h3 b q m r s wb hr hs h => F12 fu wa (by rcases fT_head wa with k | k | k <;> omega) b q m r s wb hr hs h)
        (fun n' p' en ep _ x hx b q m r s wx wb hr hs h => fu x b p' q m r s (by rw [show n = n' by omega]; exact wx) wb hr hs h) hr.1 hs.1 hr.2 hs.2 h
    have O : OU (n + 1) := fun a b p q m r s wa wb hr hs nr ns h =>
      step (κ := 4) (.inr rfl) (sep := OR) (g := tT) (up := eT) eT_or eT_one (G := G1) (fun r => ⟨rfl, fun u e => by simp [OR, AND] at e⟩) wa wb
        (fun h4 b q m r s wb hr hs h => AA a b p q m r s h4 wa wb hr hs h)
        (fun n' p' en ep _ x hx b q m r s wx wb hr hs h => AC x b p' q m r s (by rw [show n = n' by omega]; exact wx) wb hr hs h) hr hs nr ns h
    refine ⟨fun a b p q m r s wa wb hr hs h => ?_, O⟩
    rcases fT_head wa with ⟨ka, _⟩ | ⟨ka, _⟩ | ⟨ka, t, ea⟩
    · exact F12 fu wa (.inl ka) b q m r s wb hr hs h
    · exact F12 fu wa (.inr ka) b q m r s wb hr hs h
    · rcases fT_head wb with ⟨kb, d, u, eb, d1, d2⟩ | ⟨kb, u, eb⟩ | ⟨kb, u, eb⟩
      · rw [ea, eb] at h; simp at h; exact (d2 h.1.symm).elim
      · rw [ea, eb] at h; simp at h
      · rw [fT_brk ka, fT_brk kb, List.cons_append, List.cons_append, List.append_assoc, List.append_assoc] at h
        have g41 : ∀ r : List UInt8, G1 ([41] ++ r) := fun r => ⟨rfl, NP_41 ⟨_, rfl⟩⟩
        obtain ⟨e1, h⟩ := O a b p q m _ _ wa wb (g41 r) (g41 s) (NP_41 ⟨_, rfl⟩) (NP_41 ⟨_, rfl⟩) (List.cons.inj h).2
        exact ⟨e1, List.append_cancel_left h⟩
end Go.Proofs.YtdkiijhmmmfciaaDoor
