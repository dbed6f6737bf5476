/- Arguments that are few and small; what a policy's text is. -/
import Derived.Test.YtdkiijhmmmfciaaDoorFG
import Derived.Test.YtdkiijhmmmfciaaDoorRD
set_option linter.unusedVariables false
set_option linter.unusedSimpArgs false
namespace Go.Proofs.YtdkiijhmmmfciaaDoor
open Go

set_option maxRecDepth 100000 in
theorem awake_100 : law11_awake 100 = some true := by kernel_rfl

theorem Small_good : ∀ (n : Nat) (e : GExpr) (d : Int) (k : Nat), GExpr.Ok e → d + 1 = n → n ≤ 100 → n + 9 ≤ k → ∃ b, ref11_Small k e d = some b ∧ (b = true → good n e)
  | 0, e, d, k, _, hd, _, hk => by
    obtain ⟨k, rfl⟩ : ∃ j, k = j + 1 := ⟨k - 1, by omega⟩
    refine ⟨false, ?_, nofun⟩
    rw [ref11_Small, show decide (d < 0) = true from decide_eq_true (by omega)]
    rfl
  | n + 1, e, d, k, ho, hd, hn, hk => by
    obtain ⟨k, rfl⟩ : ∃ j, k = j + 1 := ⟨k - 1, by omega⟩
    obtain ⟨q0, q1, l2, q2, q3, q4, l5, q5⟩ := ho
    rw [ref11_Small, show decide (d < 0) = false from decide_eq_false (by omega)]
    simp only [cond_false]
    by_cases h6 : (6 : Int) < e.Of.length
    · exact ⟨false, by simp [h6], nofun⟩
    · by_cases h8 : (8 : Int) < e.Ranges.length
      · exact ⟨false, by simp [h6, h8], nofun⟩
      · simp only [h6, h8, decide_false, cond_false]
        have hx : ∀ x ∈ e.Of, ∃ b, ref11_Small k x (d - 1) = some b ∧ (b = true → good n x) := fun x hx => Small_good n x (d - 1) k (q5 x hx) (by omega) (by omega) (by omega)
        have h := loop_ix (F := fun m i => ref11_Small_L0 (ref11_Small k) e d (fun _ => some true) m i) (n := e.Of.length) (p := atB e.Of fun x => (ref11_Small k x (d - 1)).getD false) (K := some true) (fun m i hi => by
          rw [ref11_Small_L0, lt_dec hi]
          simp only [cond_true]
          obtain ⟨b, hb, _⟩ := hx _ (List.getElem_mem hi)
          rw [bnd_of (idx_of (List.getElem?_eq_getElem hi)), wr64 (n := d - 1) (by omega) (by omega), bnd_of hb, suc_w hi (by omega), atB_at hi, hb]
          cases b <;> rfl) (fun m => by rw [ref11_Small_L0, ge_dec]; rfl) e.Of.length 0 k (by omega) (by omega)
        rw [← List.range_eq_range', all_ix] at h
        refine ⟨e.Of.all fun x => (ref11_Small k x (d - 1)).getD false, ?_, fun hall => ⟨by omega, by omega, ?_, ?_, fun x hm => ?_⟩⟩
        · refine h.trans ?_
          cases e.Of.all fun x => (ref11_Small k x (d - 1)).getD false <;> rfl
        · exact q3
        · exact q4
        · obtain ⟨b, hb, hg⟩ := hx x hm
          have := List.all_eq_true.1 hall x hm
          rw [hb] at this
          exact hg this
theorem Few_good {k : Nat} {l : List GRule} (hk : 30 ≤ k) (ho : ∀ x ∈ l, GRule.Ok x) : ∃ b, ref11_Few k l 6 = some b ∧ (b = true → l.length ≤ 6 ∧ ∀ x ∈ l, good 5 x.When) := by
  unfold ref11_Few
  by_cases h6 : (6 : Int) < l.length
  · exact ⟨false, by simp [h6], nofun⟩
  · simp only [h6, decide_false, cond_false]
    have hx : ∀ x ∈ l, ∃ b, ref11_Small k x.When 4 = some b ∧ (b = true → good 5 x.When) := fun x hx => by
      obtain ⟨_, q1, _, _⟩ := ho x hx
      exact Small_good 5 x.When 4 k q1 (by omega) (by omega) (by omega)
    have h := loop_ix (F := fun m i => ref11_Few_L0 k l (fun _ => some true) m i) (n := l.length) (p := atB l fun x => (ref11_Small k x.When 4).getD false) (K := some true) (fun m i hi => by
      rw [ref11_Few_L0, lt_dec hi]
      simp only [cond_true]
      obtain ⟨b, hb, _⟩ := hx _ (List.getElem_mem hi)
      rw [bnd_of (idx_of (List.getElem?_eq_getElem hi)), bnd_of hb, suc_w hi (by omega), atB_at hi, hb]
      cases b <;> rfl) (fun m => by rw [ref11_Few_L0, ge_dec]; rfl) l.length 0 k (by omega) (by omega)
    rw [← List.range_eq_range', all_ix] at h
    refine ⟨l.all fun x => (ref11_Small k x.When 4).getD false, ?_, fun hall => ⟨by omega, fun x hm => ?_⟩⟩
    · refine h.trans ?_
      cases l.all fun x => (ref11_Small k x.When 4).getD false <;> rfl
    · obtain ⟨b, hb, hg⟩ := hx x hm
      have := List.all_eq_true.1 hall x hm
      rw [hb] at this
      exact hg this
theorem polT_some {l : List GRule} : ∃ p, polT l = some p := by
  unfold polT
  cases (List.range' 0 l.length).all (okB l)
  · exact ⟨_, rfl⟩
  · exact ⟨_, rfl⟩
end Go.Proofs.YtdkiijhmmmfciaaDoor
