/- The law TreeUnlike: the functions that the code computes answer true. -/
import Derived.Test.YtdkiijhmmmfciaaDoorFJ
set_option linter.unusedVariables false
set_option linter.unusedSimpArgs false
namespace Go.Proofs.YtdkiijhmmmfciaaDoor
open Go

/-! ### Sameness -/
def pw2 {α : Type} (q : α → α → Bool) (l l' : List α) : Bool := (List.range l.length).all fun i => ((l[i]?).bind fun x => (l'[i]?).map fun y => q x y).getD false
theorem pw2_at {α : Type} {q : α → α → Bool} {l l' : List α} (h : pw2 q l l' = true) (i : Nat) (x y : α) (hx : l[i]? = some x) (hy : l'[i]? = some y) : q x y = true := by
  unfold pw2 at h
  rw [List.all_eq_true] at h
  have := h i (List.mem_range.2 (List.getElem?_eq_some_iff.1 hx).1)
  rw [hx, hy] at this
  exact this
theorem pw2_mk {α : Type} {q : α → α → Bool} {l l' : List α} (hl : l.length = l'.length) (h : ∀ (i : Nat) x y, l[i]? = some x → l'[i]? = some y → q x y = true) : pw2 q l l' = true := by
  unfold pw2
  rw [List.all_eq_true]
  intro i hi
  rw [List.mem_range] at hi
  rw [List.getElem?_eq_getElem hi, List.getElem?_eq_getElem (show i < l'.length by omega)]
  exact h i _ _ (List.getElem?_eq_getElem hi) (List.getElem?_eq_getElem (by omega))
theorem pw2_refl {α : Type} {q : α → α → Bool} {l : List α} (h : ∀ x ∈ l, q x x = true) : pw2 q l l = true :=
  pw2_mk rfl fun i x y hx hy => by
    rw [hx] at hy
    injection hy with hy
    subst hy
    exact h x (List.mem_of_getElem? hx)
theorem ranges_same {a b : List GRange} (h : rangesB a b = true) : a = b := by
  unfold rangesB at h
  simp only [Bool.and_eq_true, decide_eq_true_eq] at h
  refine list_eq ⟨h.1, fun i x y hx hy => ?_⟩
  have := pw2_at (q := fun (x y : GRange) => (x.Low == y.Low) && ((x.High == y.High) && true)) h.2 i x y hx hy
  simp only [Bool.and_eq_true, beq_iff_eq, and_true] at this
  cases x; cases y; simp_all
theorem ranges_refl (a : List GRange) : rangesB a a = true := by
  unfold rangesB
  rw [decide_eq_true rfl, Bool.true_and]
  exact pw2_refl (q := fun (x y : GRange) => (x.Low == y.Low) && ((x.High == y.High) && true)) fun x _ => by simp
theorem fsame_refl (a : Nat) : fsame a a = true := by
  unfold fsame; cases isNan a <;> simp
theorem sameB_refl : ∀ n e, good n e → sameB n e e = true
  | 0, e, h => h.elim
  | n + 1, e, h => by
    rw [sameB, decide_eq_true rfl, decide_eq_true rfl, ranges_refl, fsame_refl, fsame_refl, decide_eq_true rfl]
    simp only [Bool.true_and]
    exact pw2_refl (q := sameB n) fun x hx => sameB_refl n x (h.2.2.2.2 x hx)
theorem zero_nan {x : Fl} (hx : ∃ a, x = some a ∧ a < 18446744073709551616) (h : zeroB' x = true) : isNan (fl x) = false := by
  rw [zero_of hx h]; rfl
theorem right_nan {n : Nat} {e : GExpr} (hg : good (n + 1) e) (h : rightB (n + 1) e = true) : isNan (fl e.Low) = false ∧ isNan (fl e.High) = false := by
  rw [rightB] at h
  by_cases h1 : e.Kind = 1
  · rw [if_pos h1] at h
    obtain ⟨_, _, _, h6, h5⟩ := atom_of h
    by_cases k : e.Field = 6
    · exact ⟨(ftext_form (h6 k).2.1).1, (ftext_form (h6 k).2.2).1⟩
    · exact ⟨zero_nan hg.2.2.1 (h5 k).2.2.1, zero_nan hg.2.2.2.1 (h5 k).2.2.2⟩
  · rw [if_neg h1] at h
    simp only [Bool.and_eq_true] at h
    obtain ⟨_, _, e3, e4⟩ := bare_of hg h.1
    rw [e3, e4]; exact ⟨rfl, rfl⟩
theorem right_of {n : Nat} {e : GExpr} (hg : good (n + 1) e) (h : rightB (n + 1) e = true) : e.Of = [] ∨ ∀ x ∈ e.Of, rightB n x = true := by
  by_cases h0 : e.Kind = 0
  · rw [rightB, if_neg (by omega), if_pos h0] at h
    simp only [Bool.and_eq_true, decide_eq_true_eq] at h
    exact .inl (List.length_eq_zero_iff.1 h.2)
  · by_cases h1 : e.Kind = 1
    · rw [rightB, if_pos h1] at h
      exact .inl (atom_of h).1
    · exact .inr fun x hx => ((right_kinds h h0 h1).2 x hx).2
theorem fl_same {x y : Fl} (hx : ∃ a, x = some a ∧ a < 18446744073709551616) (hy : ∃ a, y = some a ∧ a < 18446744073709551616) (n : isNan (fl x) = false) (h : fsame (fl x) (fl y) = true) : x = y := by
  obtain ⟨a, rfl, _⟩ := hx
  obtain ⟨b, rfl, _⟩ := hy
  unfold fsame at h
  rw [n] at h
  cases hb : isNan (fl (some b)) <;> rw [hb] at h <;> simp at h
  exact congrArg some h
theorem same_eq : ∀ n a b, good n a → good n b → rightB n a = true → sameB n a b = true → a = b
  | 0, a, b, h, _, _, _ => h.elim
  | n + 1, a, b, ga, gb, ra, h => by
    rw [sameB] at h
    simp only [Bool.and_eq_true, decide_eq_true_eq] at h
    obtain ⟨⟨⟨⟨⟨⟨h1, h2⟩, h3⟩, h4⟩, h5⟩, h6⟩, h7⟩ := h
    obtain ⟨n1, n2⟩ := right_nan ga ra
    refine GExpr.eq_of h1 h2 (ranges_same h3) (fl_same ga.2.2.1 gb.2.2.1 n1 h4) (fl_same ga.2.2.2.1 gb.2.2.2.1 n2 h5) ?_
    rcases right_of ga ra with h0 | hr
    · rw [h0] at h6 ⊢
      exact (List.length_eq_zero_iff.1 h6.symm).symm
    · exact list_eq ⟨h6, fun i x y hx hy => same_eq n x y (ga.2.2.2.2 x (List.mem_of_getElem? hx)) (gb.2.2.2.2 y (List.mem_of_getElem? hy)) (hr x (List.mem_of_getElem? hx)) (pw2_at (q := sameB n) h7 i x y hx hy)⟩

/-! ### Rules -/
theorem rule_of {r : GRule} (h : ruleB r = true) : rightB 5 r.When = true ∧ numB r.Rate.Num = true ∧ numB r.Rate.Per = true ∧ numB r.Rate.Burst = true ∧ (r.Rate.Per = 0 → r.Rate.Num = 0 ∧ r.Rate.Burst = 0) := by
  unfold ruleB at h
  simp only [Bool.and_eq_true, Bool.or_eq_true, Bool.not_eq_true', decide_eq_false_iff_not, beq_iff_eq] at h
  refine ⟨h.1, h.2.1, h.2.2.1, h.2.2.2.1, fun h0 => ?_⟩
  rcases h.2.2.2.2 with k | k
  · exact (k h0).elim
  · exact ⟨k.1, k.2.2.1⟩
theorem rate_L (r : GRule) : L (rateT r) = if r.Rate.Per = 0 then [] else [32, 114, 97, 116, 101, 32] ++ (L (itoaB r.Rate.Num) ++ ([32, 112, 101, 114, 32] ++ (L (itoaB r.Rate.Per) ++ ([32, 98, 117, 114, 115, 116, 32] ++ L (itoaB r.Rate.Burst))))) := by
  unfold rateT
  split
  · rfl
  · simp only [L_app]; rfl
theorem when_L (r : GRule) : L (whenT r) = if r.When.Kind = 0 then [] else [32, 119, 104, 101, 110, 32] ++ eT 5 r.When := by
  unfold whenT
  split
  · rfl
  · simp only [L_app]; rfl
theorem rate_uniq {x y : GRule} (hx : ruleB x = true) (hy : ruleB y = true) {r s : List UInt8} (h : L (rateT x) ++ (59 :: 10 :: r) = L (rateT y) ++ (59 :: 10 :: s)) : x.Rate = y.Rate ∧ r = s := by
  obtain ⟨_, x1, x2, x3, x0⟩ := rule_of hx
  obtain ⟨_, y1, y2, y3, y0⟩ := rule_of hy
  have re : x.Rate.Num = y.Rate.Num → x.Rate.Per = y.Rate.Per → x.Rate.Burst = y.Rate.Burst → x.Rate = y.Rate := fun h1 h2 h3 => by
    cases hx : x.Rate; cases hy : y.Rate
    rw [hx, hy] at h1 h2 h3; simp only at h1 h2 h3; rw [h1, h2, h3]
  rw [rate_L, rate_L] at h
  by_cases px : x.Rate.Per = 0 <;> by_cases py : y.Rate.Per = 0
  · rw [if_pos px, if_pos py] at h
    simp only [List.nil_append, List.cons.injEq, true_and] at h
    obtain ⟨a1, a2⟩ := x0 px
    obtain ⟨b1, b2⟩ := y0 py
    exact ⟨re (by omega) (by omega) (by omega), h⟩
  · rw [if_pos px, if_neg py] at h; simp at h
  · rw [if_neg px, if_pos py] at h; simp at h
  · rw [if_neg px, if_neg py] at h
    simp only [List.append_assoc] at h
    obtain ⟨e1, h⟩ := itoa_uniq x1 y1 rfl rfl (List.append_cancel_left h)
    obtain ⟨e2, h⟩ := itoa_uniq x2 y2 rfl rfl (List.append_cancel_left h)
    obtain ⟨e3, h⟩ := itoa_uniq x3 y3 rfl rfl (List.append_cancel_left h)
    simp only [List.cons.injEq, true_and] at h
    exact ⟨re e1 e2 e3, h⟩
theorem rate_head (x : GRule) (r : List UInt8) : (∃ t, L (rateT x) ++ (59 :: 10 :: r) = 59 :: t) ∨ ∃ t, L (rateT x) ++ (59 :: 10 :: r) = 32 :: 114 :: t := by
  rw [rate_L]
  split
  · exact .inl ⟨_, rfl⟩
  · exact .inr ⟨_, rfl⟩
theorem rate_rest (x : GRule) (r : List UInt8) : G1 (L (rateT x) ++ (59 :: 10 :: r)) ∧ NP OR (L (rateT x) ++ (59 :: 10 :: r)) := by
  rcases rate_head x r with ⟨t, e⟩ | ⟨t, e⟩ <;> rw [e]
  · exact ⟨⟨rfl, fun u e => by simp [AND] at e⟩, fun u e => by simp [OR] at e⟩
  · exact ⟨⟨rfl, fun u e => by simp [AND] at e⟩, fun u e => by simp [OR] at e⟩
theorem when_zero {e : GExpr} (hg : good 5 e) (h : rightB 5 e = true) (h0 : e.Kind = 0) : e = ⟨0, 0, [], some 0, some 0, []⟩ := by
  rw [rightB, if_neg (by omega), if_pos h0] at h
  simp only [Bool.and_eq_true, decide_eq_true_eq] at h
  obtain ⟨h1, h2, h3, h4⟩ := bare_of hg h.1
  exact GExpr.eq_of h0 h1 h2 h3 h4 (List.length_eq_zero_iff.1 h.2)
def likeR (x y : GRule) : Prop := x.Allow = y.Allow ∧ x.When = y.When ∧ x.Rate = y.Rate
theorem rule_uniq {x y : GRule} (gx : good 5 x.When) (gy : good 5 y.When) (hx : ruleB x = true) (hy : ruleB y = true) {r s : List UInt8} (h : L (ruleT x) ++ r = L (ruleT y) ++ s) : likeR x y ∧ r = s := by
  obtain ⟨rx, _⟩ := rule_of hx
  obtain ⟨ry, _⟩ := rule_of hy
  have e0 : L (⟨#[59, 10]⟩ : ByteArray) = [59, 10] := rfl
  unfold ruleT headT at h
  simp only [L_app, e0, List.append_assoc] at h
  have hA : x.Allow = y.Allow ∧ L (whenT x) ++ (L (rateT x) ++ (59 :: 10 :: r)) = L (whenT y) ++ (L (rateT y) ++ (59 :: 10 :: s)) := by
    cases ax : x.Allow <;> cases ay : y.Allow <;> rw [ax, ay] at h <;> simp [L_lit] at h
    · exact ⟨rfl, h⟩
    · exact ⟨rfl, h⟩
  obtain ⟨hA, h⟩ := hA
  rw [when_L, when_L] at h
  by_cases kx : x.When.Kind = 0 <;> by_cases ky : y.When.Kind = 0
  · rw [if_pos kx, if_pos ky] at h
    obtain ⟨hR, h⟩ := rate_uniq hx hy h
    exact ⟨⟨hA, (when_zero gx rx kx).trans (when_zero gy ry ky).symm, hR⟩, h⟩
  · rw [if_pos kx, if_neg ky] at h
    rcases rate_head x r with ⟨t, e⟩ | ⟨t, e⟩ <;> rw [List.nil_append, e] at h <;> simp at h
  · rw [if_neg kx, if_pos ky] at h
    rcases rate_head y s with ⟨t, e⟩ | ⟨t, e⟩ <;> rw [List.nil_append, e] at h <;> simp at h
  · rw [if_neg kx, if_neg ky, List.append_assoc, List.append_assoc] at h
    obtain ⟨hW, h⟩ := (uniq 5).2 x.When y.When 5 5 5 _ _ ⟨gx, rx, kx⟩ ⟨gy, ry, ky⟩ (rate_rest x r).1 (rate_rest y s).1 (rate_rest x r).2 (rate_rest y s).2 (List.append_cancel_left h)
    obtain ⟨hR, h⟩ := rate_uniq hx hy h
    exact ⟨⟨hA, hW, hR⟩, h⟩
theorem rule_ne (x : GRule) : L (ruleT x) ≠ [] := by
  unfold ruleT headT
  rw [L_app]
  split <;> simp [L_lit]
theorem rules_uniq : ∀ {l l' : List GRule}, (∀ x ∈ l, good 5 x.When ∧ ruleB x = true) → (∀ x ∈ l', good 5 x.When ∧ ruleB x = true) → l.flatMap (fun x => L (ruleT x)) = l'.flatMap (fun x => L (ruleT x)) → l.length = l'.length ∧ ∀ (i : Nat) x y, l[i]? = some x → l'[i]? = some y → likeR x y
  | [], [], _, _, _ => ⟨rfl, fun i x y hx => by simp at hx⟩
  | [], y :: l', _, _, h => by
    rw [List.flatMap_nil, List.flatMap_cons] at h
    exact (rule_ne y (List.append_eq_nil_iff.1 h.symm).1).elim
  | x :: l, [], _, _, h => by
    rw [List.flatMap_nil, List.flatMap_cons] at h
    exact (rule_ne x (List.append_eq_nil_iff.1 h).1).elim
  | x :: l, y :: l', hx, hy, h => by
    rw [List.flatMap_cons, List.flatMap_cons] at h
    obtain ⟨h1, h2⟩ := rule_uniq (hx x (by simp)).1 (hy y (by simp)).1 (hx x (by simp)).2 (hy y (by simp)).2 h
    obtain ⟨h3, h4⟩ := rules_uniq (fun z hz => hx z (by simp [hz])) (fun z hz => hy z (by simp [hz])) h2
    refine ⟨by simp [h3], fun i a b ha hb => ?_⟩
    cases i with
    | zero => simp at ha hb; subst ha; subst hb; exact h1
    | succ i => simp at ha hb; exact h4 i a b ha hb
theorem join_all {α : Type} {p : Nat → ByteArray} {l : List α} {q : α → List UInt8} (hp : ∀ (i : Nat) (h : i < l.length), L (p i) = q l[i]) : ∀ (j i : Nat), i + j = l.length → L (join p i j) = (l.drop i).flatMap q
  | 0, i, h => by
    rw [join, List.drop_of_length_le (by omega)]; rfl
  | j + 1, i, h => by
    have e := List.drop_eq_getElem_cons (l := l) (i := i) (by omega)
    rw [join, L_app, hp i (by omega), join_all hp j (i + 1) (by omega), e, List.flatMap_cons]
theorem pol_L (l : List GRule) : L (join (rulT l) 0 l.length) = l.flatMap fun x => L (ruleT x) := by
  rw [join_all (l := l) (q := fun x => L (ruleT x)) (fun i h => by rw [(rulT_at h).1]) l.length 0 (by omega)]
  rfl
theorem rules_iff {a b : List GRule} (ga : ∀ x ∈ a, good 5 x.When ∧ ruleB x = true) (gb : ∀ x ∈ b, good 5 x.When ∧ ruleB x = true) : L (join (rulT a) 0 a.length) = L (join (rulT b) 0 b.length) ↔ rulesB a b = true := by
  rw [pol_L, pol_L]
  constructor
  · intro h
    obtain ⟨h1, h2⟩ := rules_uniq ga gb h
    unfold rulesB
    rw [decide_eq_true h1, Bool.true_and]
    refine pw2_mk (q := fun (x y : GRule) => (x.Allow == y.Allow) && rateB x.Rate y.Rate && sameB 5 x.When y.When) h1 fun i x y hx hy => ?_
    obtain ⟨e1, e2, e3⟩ := h2 i x y hx hy
    rw [e1, e2, e3, sameB_refl 5 _ (gb y (List.mem_of_getElem? hy)).1]
    simp [rateB]
  · intro h
    unfold rulesB at h
    simp only [Bool.and_eq_true, decide_eq_true_eq] at h
    have : a.map ruleT = b.map ruleT := list_eq ⟨by simpa using h.1, fun i u v hu hv => by
      rw [List.getElem?_map, Option.map_eq_some_iff] at hu hv
      obtain ⟨x, hx, rfl⟩ := hu
      obtain ⟨y, hy, rfl⟩ := hv
      have := pw2_at (q := fun (x y : GRule) => (x.Allow == y.Allow) && rateB x.Rate y.Rate && sameB 5 x.When y.When) h.2 i x y hx hy
      simp only [Bool.and_eq_true, beq_iff_eq, rateB, and_true] at this
      obtain ⟨⟨e1, e2, e3, e4⟩, e5⟩ := this
      have gx := ga x (List.mem_of_getElem? hx)
      have e6 := same_eq 5 _ _ gx.1 (gb y (List.mem_of_getElem? hy)).1 (rule_of gx.2).1 e5
      unfold ruleT headT whenT rateT
      rw [e1, e2, e3, e4, e6]⟩
    have e : ∀ l : List GRule, l.flatMap (fun x => L (ruleT x)) = (l.map ruleT).flatMap L := fun l => by rw [List.flatMap_map]
    rw [e, e, this]
theorem TreeUnlike_true (a b : List GRule) (ha : ∀ x ∈ a, GRule.Ok x) (hb : ∀ x ∈ b, GRule.Ok x) : law11_TreeUnlike 100 a b = some true := by
  obtain ⟨c, hc, ga⟩ := Few_good (k := 100) (by omega) ha
  obtain ⟨d, hd, gb⟩ := Few_good (k := 100) (by omega) hb
  unfold law11_TreeUnlike
  rw [bnd_of hc]
  cases c with
  | false => simp only [Bool.not_false, cond_true]; rw [bnd_of awake_100]
  | true =>
    simp only [Bool.not_true, cond_false]
    rw [bnd_of hd]
    cases d with
    | false => simp only [Bool.not_false, cond_true]; rw [bnd_of awake_100]
    | true =>
      obtain ⟨la, ga⟩ := ga rfl
      obtain ⟨lb, gb⟩ := gb rfl
      simp only [Bool.not_true, cond_false]
      rw [bnd_of ((Text_prog la ga (by omega)).trans (show polT a = some (if (List.range' 0 a.length).all (okB a) then (join (rulT a) 0 a.length, true) else (⟨#[]⟩, false)) by unfold polT; cases (List.range' 0 a.length).all (okB a) <;> rfl)),
        bnd_of ((Text_prog lb gb (by omega)).trans (show polT b = some (if (List.range' 0 b.length).all (okB b) then (join (rulT b) 0 b.length, true) else (⟨#[]⟩, false)) by unfold polT; cases (List.range' 0 b.length).all (okB b) <;> rfl)), bnd_of awake_100]
      simp only [cond_true]
      have ok : ∀ {l : List GRule}, (List.range' 0 l.length).all (okB l) = true → ∀ x ∈ l, ruleB x = true := fun {l} h x hx => by
        obtain ⟨i, hi⟩ := List.mem_iff_getElem?.1 hx
        obtain ⟨hl, he⟩ := List.getElem?_eq_some_iff.1 hi
        have := List.all_eq_true.1 h i (by rw [← List.range_eq_range']; exact List.mem_range.2 hl)
        rw [(rulT_at hl).2, he] at this
        exact this
      cases oa : (List.range' 0 a.length).all (okB a) with
      | false => rfl
      | true =>
        cases ob : (List.range' 0 b.length).all (okB b) with
        | false => rfl
        | true =>
          simp only [if_true, Bool.not_true, cond_false]
          rw [bnd_of (ref_Rules_eq la ga gb (by omega))]
          have := rules_iff (fun x hx => ⟨ga x hx, ok oa x hx⟩) (fun x hx => ⟨gb x hx, ok ob x hx⟩)
          have e : ((join (rulT a) 0 a.length).toList == (join (rulT b) 0 b.length).toList) = rulesB a b := by
            rw [Bool.eq_iff_iff, ← this, beq_iff_eq]
            constructor
            · intro h; rw [ByteArray.toList_eq, ByteArray.toList_eq] at h; exact h
            · intro h; rw [L_inj h]
          rw [e]; simp
end Go.Proofs.YtdkiijhmmmfciaaDoor
