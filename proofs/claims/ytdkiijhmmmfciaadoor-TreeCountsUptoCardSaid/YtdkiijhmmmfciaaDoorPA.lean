/- The plain law of TreeCounts: the functions that the code computes answer true. -/
import Derived.Test.YtdkiijhmmmfciaaDoorG0
import Derived.KernelRfl
set_option linter.unusedVariables false
set_option linter.unusedSimpArgs false
namespace Go.Proofs.YtdkiijhmmmfciaaDoor
open Go

theorem wr64 {n : Int} (h1 : -9223372036854775808 ≤ n) (h2 : n ≤ 9223372036854775807) : IntKind.wrap .i64 n = n := by
  simp [IntKind.wrap, IntKind.bits, IntKind.signed]; omega
theorem idx_mid {α : Type} (pre : List α) (x : α) (suf : List α) : idx (pre ++ x :: suf) (pre.length : Int) = some x := by
  unfold idx; simp
set_option maxRecDepth 100000 in
theorem awake_ok : law11_awake 30 = some true := by kernel_rfl

/-- So deep, and of so many, at most. -/
def smallP : Nat → GExpr → Prop
  | 0, _ => False
  | n + 1, e => e.Of.length ≤ 6 ∧ ∀ x ∈ e.Of, smallP n x

theorem Small_loop (self : GExpr → Int → Option Bool) (e : GExpr) (d : Int) (kont : Int → Option Bool) (P : GExpr → Prop) (h6 : e.Of.length ≤ 6) :
    ∀ (suf pre : List GExpr) (m : Nat), e.Of = pre ++ suf → suf.length < m → (∀ x ∈ suf, ∃ b, self x (IntKind.wrap .i64 (d - 1)) = some b ∧ (b = true → P x)) →
      ref11_Small_L0 self e d kont m pre.length = some false ∨ ((∀ x ∈ suf, P x) ∧ ref11_Small_L0 self e d kont m pre.length = kont e.Of.length)
  | [], pre, m, he, hm, _ => by
    obtain ⟨m, rfl⟩ : ∃ j, m = j + 1 := ⟨m - 1, by omega⟩
    refine .inr ⟨by simp, ?_⟩
    rw [List.append_nil] at he
    rw [ref11_Small_L0, he]
    simp
  | x :: suf, pre, m, he, hm, hs => by
    obtain ⟨m, rfl⟩ : ∃ j, m = j + 1 := ⟨m - 1, by omega⟩
    obtain ⟨b, hb, hP⟩ := hs x (by simp)
    have hlen : e.Of.length = pre.length + (suf.length + 1) := by rw [he]; simp
    rw [ref11_Small_L0, show decide ((pre.length : Int) < (e.Of.length : Int)) = true from decide_eq_true (by omega)]
    simp only [cond_true]
    rw [bnd_of (show idx e.Of (pre.length : Int) = some x by rw [he]; exact idx_mid pre x suf), bnd_of hb]
    cases b with
    | false => exact .inl rfl
    | true =>
      simp only [Bool.not_true, cond_false]
      rw [wr64 (by omega) (by omega)]
      have := Small_loop self e d kont P h6 suf (pre ++ [x]) m (by rw [he]; simp) (by simp at hm; omega) (fun y hy => hs y (by simp [hy]))
      rw [show (((pre ++ [x]).length : Nat) : Int) = (pre.length : Int) + 1 by simp] at this
      rcases this with h | ⟨h1, h2⟩
      · exact .inl h
      · refine .inr ⟨fun y hy => ?_, h2⟩
        rcases List.mem_cons.1 hy with rfl | hy
        · exact hP rfl
        · exact h1 y hy

theorem Small_ok : ∀ (n : Nat) (e : GExpr) (d : Int) (k : Nat), d + 1 = n → n ≤ 100 → n + 9 ≤ k → ∃ b, ref11_Small k e d = some b ∧ (b = true → smallP n e)
  | 0, e, d, k, hd, _, hk => by
    obtain ⟨k, rfl⟩ : ∃ j, k = j + 1 := ⟨k - 1, by omega⟩
    refine ⟨false, ?_, nofun⟩
    rw [ref11_Small, show decide (d < 0) = true from decide_eq_true (by omega)]
    rfl
  | n + 1, e, d, k, hd, hn, hk => by
    obtain ⟨k, rfl⟩ : ∃ j, k = j + 1 := ⟨k - 1, by omega⟩
    rw [ref11_Small, show decide (d < 0) = false from decide_eq_false (by omega)]
    simp only [cond_false]
    by_cases h6 : (6 : Int) < e.Of.length
    · exact ⟨false, by simp [h6], nofun⟩
    · by_cases h8 : (8 : Int) < e.Ranges.length
      · exact ⟨false, by simp [h6, h8], nofun⟩
      · simp only [h6, h8, decide_false, cond_false]
        have := Small_loop (ref11_Small k) e d (fun _ => some true) (smallP n) (by omega) e.Of [] k rfl (by omega) (fun x _ => by rw [wr64 (by omega) (by omega)]; exact Small_ok n x (d - 1) k (by omega) (by omega) (by omega))
        simp only [List.length_nil] at this
        rcases this with h | ⟨h1, h2⟩
        · exact ⟨false, h, nofun⟩
        · exact ⟨true, h2, fun _ => ⟨by omega, h1⟩⟩

/-! ### Atoms -/
def pw : Nat → Int
  | 0 => 1
  | n + 1 => 6 * pw n + 1
theorem pw_pos : ∀ n, 1 ≤ pw n
  | 0 => by simp [pw]
  | n + 1 => by have := pw_pos n; simp only [pw]; omega

theorem Atoms_loop (self : GExpr → Option Int) (v : List GExpr) (kont : Int → Int → Option Int) (f : GExpr → Int) (B : Int) (hv : v.length ≤ 6) (hB0 : 0 ≤ B) (hB : B ≤ 1000000000000) :
    ∀ (suf pre : List GExpr) (m : Nat) (acc : Int), v = pre ++ suf → suf.length < m → (∀ x ∈ suf, self x = some (f x) ∧ 0 ≤ f x ∧ f x ≤ B) → 0 ≤ acc → acc ≤ pre.length * B →
      tree_Atoms_L0 self v kont m acc pre.length = kont (suf.foldl (fun a x => a + f x) acc) v.length
  | [], pre, m, acc, he, hm, _, _, _ => by
    obtain ⟨m, rfl⟩ : ∃ j, m = j + 1 := ⟨m - 1, by omega⟩
    rw [List.append_nil] at he
    rw [tree_Atoms_L0, he]
    simp
  | x :: suf, pre, m, acc, he, hm, hs, h0, hacc => by
    obtain ⟨m, rfl⟩ : ∃ j, m = j + 1 := ⟨m - 1, by omega⟩
    obtain ⟨hx, h1, h2⟩ := hs x (by simp)
    have hlen : v.length = pre.length + (suf.length + 1) := by rw [he]; simp
    have hacc2 : acc ≤ 6 * B := Int.le_trans hacc (Int.mul_le_mul_of_nonneg_right (by omega) hB0)
    rw [tree_Atoms_L0, show decide ((pre.length : Int) < (v.length : Int)) = true from decide_eq_true (by omega)]
    simp only [cond_true]
    rw [bnd_of (show idx v (pre.length : Int) = some x by rw [he]; exact idx_mid pre x suf), bnd_of hx]
    rw [wr64 (n := acc + f x) (by omega) (by omega), wr64 (n := (pre.length : Int) + 1) (by omega) (by omega)]
    have := Atoms_loop self v kont f B hv hB0 hB suf (pre ++ [x]) m (acc + f x) (by rw [he]; simp) (by simp at hm; omega) (fun y hy => hs y (by simp [hy])) (by omega) (by
      rw [List.length_append, Int.natCast_add, Int.add_mul]; simp; omega)
    rw [show (((pre ++ [x]).length : Nat) : Int) = (pre.length : Int) + 1 by simp] at this
    exact this
theorem foldl_bound (f : GExpr → Int) (B : Int) : ∀ (l : List GExpr) (acc : Int), (∀ x ∈ l, 0 ≤ f x ∧ f x ≤ B) → 0 ≤ acc → 0 ≤ l.foldl (fun a x => a + f x) acc ∧ l.foldl (fun a x => a + f x) acc ≤ acc + l.length * B
  | [], acc, _, h => by simpa using h
  | x :: l, acc, hs, h => by
    obtain ⟨h1, h2⟩ := hs x (by simp)
    have := foldl_bound f B l (acc + f x) (fun y hy => hs y (by simp [hy])) (by omega)
    rw [List.foldl_cons, List.length_cons, Int.natCast_add, Int.add_mul]
    simp only [Int.natCast_one, Int.one_mul]
    omega

theorem pw_mono : ∀ {n m : Nat}, n ≤ m → pw n ≤ pw m := fun {n m} h => by
  induction m with
  | zero => obtain rfl : n = 0 := by omega
            exact Int.le_refl _
  | succ m ih =>
    by_cases e : n = m + 1
    · rw [e]; exact Int.le_refl _
    · have := ih (by omega); have := pw_pos m; simp only [pw]; omega
theorem pw8 : pw 8 ≤ 1000000000000 := by decide

theorem inner_cases (k : Nat) (e : GExpr) : tree_inner k e = some e.Of ∨ tree_inner k e = some [] := by
  unfold tree_inner
  cases (e.Kind == 2) <;> cases (e.Kind == 3) <;> cases (e.Kind == 4) <;> simp
theorem inner_k (k k' : Nat) (e : GExpr) : tree_inner k e = tree_inner k' e := rfl

theorem Atoms_ok : ∀ (n : Nat), n ≤ 8 → ∃ f : GExpr → Int, ∀ e, smallP n e → 0 ≤ f e ∧ f e ≤ pw n ∧ ∀ k, n + 9 ≤ k → tree_Atoms k e = some (f e)
  | 0, _ => ⟨fun _ => 0, fun e h => h.elim⟩
  | n + 1, hn => by
    obtain ⟨f, hf⟩ := Atoms_ok n (by omega)
    refine ⟨fun e => if e.Kind == 1 then 1 else (match tree_inner 0 e with | some l => l.foldl (fun a x => a + f x) 0 | none => 0), fun e he => ?_⟩
    obtain ⟨h6, hx⟩ := he
    have hp := pw_pos n
    have hin : ∃ l, tree_inner 0 e = some l ∧ l.length ≤ 6 ∧ ∀ x ∈ l, smallP n x := by
      rcases inner_cases 0 e with h | h
      · exact ⟨_, h, h6, hx⟩
      · exact ⟨_, h, by simp, by simp⟩
    obtain ⟨l, hl, hl6, hls⟩ := hin
    have hb := foldl_bound f (pw n) l 0 (fun x hx => ⟨(hf x (hls x hx)).1, (hf x (hls x hx)).2.1⟩) (Int.le_refl _)
    have hmul : (l.length : Int) * pw n ≤ 6 * pw n := Int.mul_le_mul_of_nonneg_right (by omega) (by omega)
    have hk : ∀ k, n + 1 + 9 ≤ k → tree_Atoms k e = some (if e.Kind == 1 then 1 else l.foldl (fun a x => a + f x) 0) := fun k hk => by
      obtain ⟨k, rfl⟩ : ∃ j, k = j + 1 := ⟨k - 1, by omega⟩
      rw [tree_Atoms]
      cases e.Kind == 1 with
      | true => rfl
      | false =>
        simp only [cond_false]
        rw [bnd_of ((inner_k k 0 e).trans hl)]
        have := Atoms_loop (tree_Atoms k) l (fun x8 x9 => some x8) f (pw n) hl6 (by omega) (Int.le_trans (pw_mono (by omega)) pw8) l [] k 0 rfl (by omega) (fun x hx => ⟨(hf x (hls x hx)).2.2 k (by omega), (hf x (hls x hx)).1, (hf x (hls x hx)).2.1⟩) (Int.le_refl _) (by simp)
        simp only [List.length_nil] at this
        simpa using this
    simp only [hl]
    refine ⟨?_, ?_, hk⟩
    · split <;> omega
    · simp only [pw]; split <;> omega

/-! ### Depth -/
theorem Deep_loop (self : GExpr → Option Int) (v : List GExpr) (kont : Int → Int → Option Int) (f : GExpr → Int) (hv : v.length ≤ 6) :
    ∀ (suf pre : List GExpr) (m : Nat) (acc : Int), v = pre ++ suf → suf.length < m → (∀ x ∈ suf, self x = some (f x) ∧ 0 ≤ f x ∧ f x ≤ 1000) →
      tree_Deep_L0 self v kont m acc pre.length = kont (suf.foldl (fun a x => max a (f x + 1)) acc) v.length
  | [], pre, m, acc, he, hm, _ => by
    obtain ⟨m, rfl⟩ : ∃ j, m = j + 1 := ⟨m - 1, by omega⟩
    rw [List.append_nil] at he
    rw [tree_Deep_L0, he]
    simp
  | x :: suf, pre, m, acc, he, hm, hs => by
    obtain ⟨m, rfl⟩ : ∃ j, m = j + 1 := ⟨m - 1, by omega⟩
    obtain ⟨hx, h1, h2⟩ := hs x (by simp)
    have hlen : v.length = pre.length + (suf.length + 1) := by rw [he]; simp
    rw [tree_Deep_L0, show decide ((pre.length : Int) < (v.length : Int)) = true from decide_eq_true (by omega)]
    simp only [cond_true]
    rw [bnd_of (show idx v (pre.length : Int) = some x by rw [he]; exact idx_mid pre x suf), bnd_of hx]
    rw [wr64 (n := f x + 1) (by omega) (by omega), wr64 (n := (pre.length : Int) + 1) (by omega) (by omega)]
    have := Deep_loop self v kont f hv suf (pre ++ [x]) m (max acc (f x + 1)) (by rw [he]; simp) (by simp at hm; omega) (fun y hy => hs y (by simp [hy]))
    rw [show (((pre ++ [x]).length : Nat) : Int) = (pre.length : Int) + 1 by simp] at this
    exact this
theorem foldmax_bound (f : GExpr → Int) (B : Int) : ∀ (l : List GExpr) (acc : Int), (∀ x ∈ l, 0 ≤ f x ∧ f x ≤ B) → 0 ≤ acc → acc ≤ B + 1 → 0 ≤ l.foldl (fun a x => max a (f x + 1)) acc ∧ l.foldl (fun a x => max a (f x + 1)) acc ≤ B + 1
  | [], acc, _, h, h' => ⟨h, h'⟩
  | x :: l, acc, hs, h, h' => by
    obtain ⟨h1, h2⟩ := hs x (by simp)
    exact foldmax_bound f B l (max acc (f x + 1)) (fun y hy => hs y (by simp [hy])) (by omega) (by omega)
theorem foldmax_succ (f : GExpr → Int) : ∀ (l : List GExpr) (acc : Int), l.foldl (fun a x => max a (f x + 1)) (acc + 1) = l.foldl (fun a x => max a (f x)) acc + 1
  | [], acc => rfl
  | x :: l, acc => by
    rw [List.foldl_cons, List.foldl_cons, show max (acc + 1) (f x + 1) = max acc (f x) + 1 by omega]
    exact foldmax_succ f l _
def deep0 (e : GExpr) : Int := if e.Kind == 2 then 1 else if e.Kind == 3 then 1 else if e.Kind == 4 then 1 else 0
theorem Deep_step (k : Nat) (e : GExpr) (l : List GExpr) (hl : tree_inner 0 e = some l) : tree_Deep (k + 1) e = tree_Deep_L0 (tree_Deep k) l (fun x9 x10 => some x9) k (deep0 e) 0 := by
  rw [tree_Deep, deep0]
  cases e.Kind == 2 <;> cases e.Kind == 3 <;> cases e.Kind == 4 <;> simp only [cond_true, cond_false] <;> rw [bnd_of ((inner_k k 0 e).trans hl)] <;> rfl
theorem deep0_le (e : GExpr) : 0 ≤ deep0 e ∧ deep0 e ≤ 1 := by
  unfold deep0; split <;> (try split) <;> (try split) <;> omega
theorem Deep_ok : ∀ (n : Nat), n ≤ 8 → ∃ f : GExpr → Int, ∀ e, smallP n e → 0 ≤ f e ∧ f e ≤ n ∧ ∀ k, n + 9 ≤ k → tree_Deep k e = some (f e)
  | 0, _ => ⟨fun _ => 0, fun e h => h.elim⟩
  | n + 1, hn => by
    obtain ⟨f, hf⟩ := Deep_ok n (by omega)
    refine ⟨fun e => match tree_inner 0 e with | some l => l.foldl (fun a x => max a (f x + 1)) (deep0 e) | none => 0, fun e he => ?_⟩
    obtain ⟨h6, hx⟩ := he
    have hin : ∃ l, tree_inner 0 e = some l ∧ l.length ≤ 6 ∧ ∀ x ∈ l, smallP n x := by
      rcases inner_cases 0 e with h | h
      · exact ⟨_, h, h6, hx⟩
      · exact ⟨_, h, by simp, by simp⟩
    obtain ⟨l, hl, hl6, hls⟩ := hin
    have hd := deep0_le e
    have hb := foldmax_bound f n l (deep0 e) (fun x hx => ⟨(hf x (hls x hx)).1, (hf x (hls x hx)).2.1⟩) hd.1 (by omega)
    simp only [hl]
    refine ⟨hb.1, by omega, fun k hk => ?_⟩
    obtain ⟨k, rfl⟩ : ∃ j, k = j + 1 := ⟨k - 1, by omega⟩
    rw [Deep_step k e l hl]
    exact Deep_loop (tree_Deep k) l _ f hl6 l [] k (deep0 e) rfl (by omega) (fun x hx => ⟨(hf x (hls x hx)).2.2 k (by omega), (hf x (hls x hx)).1, by have := (hf x (hls x hx)).2.1; omega⟩)

/-! ### The law -/
set_option maxRecDepth 20000 in
theorem Law_loop (l : List GExpr) (kont : Int → Int → Int → Option Bool) (f g : GExpr → Int) (h6 : l.length ≤ 6) (hf : ∀ e, smallP 5 e → 0 ≤ f e ∧ f e ≤ pw 5 ∧ ∀ k, 14 ≤ k → tree_Atoms k e = some (f e)) (hg : ∀ e, smallP 5 e → 0 ≤ g e ∧ g e ≤ 5 ∧ ∀ k, 14 ≤ k → tree_Deep k e = some (g e)) :
    ∀ (suf pre : List GExpr) (m : Nat) (a b : Int), l = pre ++ suf → suf.length < m → 0 ≤ a → a ≤ pre.length * pw 5 →
      law11_TreeCounts_L0 30 l kont m a b pre.length = some true ∨ ((∀ x ∈ suf, smallP 5 x) ∧ law11_TreeCounts_L0 30 l kont m a b pre.length = kont (suf.foldl (fun a x => a + f x) a) (suf.foldl (fun a x => max a (g x)) b) l.length)
  | [], pre, m, a, b, he, hm, _, _ => by
    obtain ⟨m, rfl⟩ : ∃ j, m = j + 1 := ⟨m - 1, by omega⟩
    rw [List.append_nil] at he
    refine .inr ⟨by simp, ?_⟩
    rw [law11_TreeCounts_L0, he]
    simp
  | x :: suf, pre, m, a, b, he, hm, h0, ha => by
    obtain ⟨m, rfl⟩ : ∃ j, m = j + 1 := ⟨m - 1, by omega⟩
    have hlen : l.length = pre.length + (suf.length + 1) := by rw [he]; simp
    have hix : idx l (pre.length : Int) = some x := by rw [he]; exact idx_mid pre x suf
    obtain ⟨s, hs, hsP⟩ := Small_ok 5 x 4 30 (by omega) (by omega) (by omega)
    rw [law11_TreeCounts_L0, show decide ((pre.length : Int) < (l.length : Int)) = true from decide_eq_true (by omega)]
    simp only [cond_true]
    rw [bnd_of hix, bnd_of hs]
    cases s with
    | false =>
      simp only [Bool.not_false, cond_true]
      rw [bnd_of awake_ok]
      exact .inl rfl
    | true =>
      simp only [Bool.not_true, cond_false]
      have hx := hsP rfl
      obtain ⟨f1, f2, f3⟩ := hf x hx
      obtain ⟨g1, g2, g3⟩ := hg x hx
      have hpw : pw 5 ≤ 1000000000000 := by decide
      have hpp := pw_pos 5
      have ha2 : a ≤ 6 * pw 5 := Int.le_trans ha (Int.mul_le_mul_of_nonneg_right (by omega) (by omega))
      rw [bnd_of hix, bnd_of (f3 30 (by omega)), bnd_of hix, bnd_of (g3 30 (by omega))]
      rw [wr64 (n := a + f x) (by omega) (by omega), wr64 (n := (pre.length : Int) + 1) (by omega) (by omega)]
      have := Law_loop l kont f g h6 hf hg suf (pre ++ [x]) m (a + f x) (max b (g x)) (by rw [he]; simp) (by simp at hm; omega) (by omega) (by
        rw [List.length_append, Int.natCast_add, Int.add_mul]; simp; omega)
      rw [show (((pre ++ [x]).length : Nat) : Int) = (pre.length : Int) + 1 by simp] at this
      rcases this with h | ⟨h1, h2⟩
      · exact .inl h
      · refine .inr ⟨fun y hy => ?_, h2⟩
        rcases List.mem_cons.1 hy with rfl | hy
        · exact hx
        · exact h1 y hy

theorem kind_of (kind : Int) (h0 : 0 ≤ kind) (h1 : kind ≤ 255) : IntKind.wrap .i64 (2 + (IntKind.wrap .i64 (Int.tmod kind 3))) = 2 ∨ IntKind.wrap .i64 (2 + (IntKind.wrap .i64 (Int.tmod kind 3))) = 3 ∨ IntKind.wrap .i64 (2 + (IntKind.wrap .i64 (Int.tmod kind 3))) = 4 := by
  have h2 : Int.tmod kind 3 = kind % 3 := Int.tmod_eq_emod_of_nonneg h0
  rw [h2, wr64 (n := kind % 3) (by omega) (by omega), wr64 (by omega) (by omega)]
  omega

set_option maxRecDepth 20000 in
theorem TreeCounts_true (l : List GExpr) (kind : Int) (h0 : 0 ≤ kind) (h1 : kind ≤ 255) : law11_TreeCounts 30 l kind = some true := by
  unfold law11_TreeCounts
  by_cases hz : (l.length : Int) = 0
  · rw [show ((l.length : Int) == 0) = true from by simpa using hz]
    simp only [cond_true]
    rw [bnd_of awake_ok]
  · rw [show ((l.length : Int) == 0) = false from by simpa using hz]
    simp only [cond_false]
    by_cases h6 : (6 : Int) < l.length
    · rw [decide_eq_true h6]
      simp only [cond_true]
      rw [bnd_of awake_ok]
    · rw [decide_eq_false h6]
      simp only [cond_false]
      obtain ⟨f, hf⟩ := Atoms_ok 5 (by omega)
      obtain ⟨g, hg⟩ := Deep_ok 5 (by omega)
      have hl6 : l.length ≤ 6 := by omega
      have hpw : pw 5 ≤ 1000000000000 := by decide
      have hpp := pw_pos 5
      have key := fun kont => Law_loop l kont f g hl6 (fun e he => hf e he) (fun e he => hg e he) l [] 30 0 0 rfl (by omega) (Int.le_refl _) (by simp)
      refine (key _).elim (fun h => h) fun ⟨hs, h2⟩ => ?_
      refine Eq.trans h2 ?_
      show bnd (law11_awake 30) _ = _
      rw [bnd_of awake_ok]
      simp only [cond_true]
      have hk := kind_of kind h0 h1
      generalize IntKind.wrap .i64 (2 + (IntKind.wrap .i64 (Int.tmod kind 3))) = K at hk ⊢
      have hne : ((K == 1) : Bool) = false := by rcases hk with rfl | rfl | rfl <;> rfl
      have hin : tree_inner 0 (GExpr.mk K 0 [] (some 0) (some 0) l) = some l := by
        rcases hk with rfl | rfl | rfl <;> rfl
      have hat : tree_Atoms 30 (GExpr.mk K 0 [] (some 0) (some 0) l) = some (l.foldl (fun a x => a + f x) 0) := by
        show tree_Atoms (29 + 1) _ = _
        rw [tree_Atoms]
        simp only [hne, cond_false]
        rw [bnd_of ((inner_k 29 0 _).trans hin)]
        exact Atoms_loop (tree_Atoms 29) l _ f (pw 5) hl6 (by omega) hpw l [] 29 0 rfl (by omega) (fun x hx => ⟨(hf x (hs x hx)).2.2 29 (by omega), (hf x (hs x hx)).1, (hf x (hs x hx)).2.1⟩) (Int.le_refl _) (by simp)
      have hde : tree_Deep 30 (GExpr.mk K 0 [] (some 0) (some 0) l) = some (l.foldl (fun a x => max a (g x)) 0 + 1) := by
        rw [show (30 : Nat) = 29 + 1 from rfl, Deep_step 29 _ l hin]
        have h3 : deep0 (GExpr.mk K 0 [] (some 0) (some 0) l) = 0 + 1 := by rcases hk with rfl | rfl | rfl <;> rfl
        rw [h3, ← foldmax_succ]
        exact Deep_loop (tree_Deep 29) l _ g hl6 l [] 29 (0 + 1) rfl (by omega) (fun x hx => ⟨(hg x (hs x hx)).2.2 29 (by omega), (hg x (hs x hx)).1, by have := (hg x (hs x hx)).2.1; omega⟩)
      rw [bnd_of hat]
      simp only [beq_self_eq_true, cond_true]
      rw [bnd_of hde]
      have hbd : ∀ (m : List GExpr) (acc : Int), (∀ x ∈ m, smallP 5 x) → 0 ≤ acc → acc ≤ 5 → 0 ≤ m.foldl (fun a x => max a (g x)) acc ∧ m.foldl (fun a x => max a (g x)) acc ≤ 5 := by
        intro m
        induction m with
        | nil => intro acc _ h h'; exact ⟨h, h'⟩
        | cons x m ih =>
          intro acc hm h h'
          have := hg x (hm x (by simp))
          exact ih (max acc (g x)) (fun y hy => hm y (by simp [hy])) (by omega) (by omega)
      have hb := hbd l 0 hs (Int.le_refl _) (by omega)
      rw [wr64 (by omega) (by omega)]
      simp
end Go.Proofs.YtdkiijhmmmfciaaDoor
