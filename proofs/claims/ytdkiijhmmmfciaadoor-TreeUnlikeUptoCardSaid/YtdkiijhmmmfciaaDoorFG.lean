/- Texts of rules and policies; the law TreeTexts. -/
import Derived.Test.YtdkiijhmmmfciaaDoorFF
import Derived.KernelRfl
set_option linter.unusedVariables false
set_option linter.unusedSimpArgs false
namespace Go.Proofs.YtdkiijhmmmfciaaDoor
open Go

theorem chk_simp {β : Type} {c : Prop} [Decidable c] (x : Option β) (h : c) : chk (decide c) x = x := chk_true h x
theorem bnd_simp {α β : Type} (v : α) (f : α → Option β) : bnd (some v) f = f v := rfl
def ruleB (r : GRule) : Bool := rightB 5 r.When && (numB r.Rate.Num && (numB r.Rate.Per && (numB r.Rate.Burst && (!decide (r.Rate.Per = 0) || ((r.Rate.Num == 0) && ((r.Rate.Per == 0) && ((r.Rate.Burst == 0) && true)))))))
def rateT (r : GRule) : ByteArray := if r.Rate.Per = 0 then ⟨#[]⟩ else (⟨#[32, 114, 97, 116, 101, 32]⟩ : ByteArray) ++ (itoaB r.Rate.Num ++ ((⟨#[32, 112, 101, 114, 32]⟩ : ByteArray) ++ (itoaB r.Rate.Per ++ ((⟨#[32, 98, 117, 114, 115, 116, 32]⟩ : ByteArray) ++ itoaB r.Rate.Burst))))
def whenT (r : GRule) : ByteArray := if r.When.Kind = 0 then ⟨#[]⟩ else (⟨#[32, 119, 104, 101, 110, 32]⟩ : ByteArray) ++ tx 5 r.When
def headT (r : GRule) : ByteArray := if r.Allow then ⟨#[97, 108, 108, 111, 119]⟩ else ⟨#[100, 101, 110, 121]⟩
def ruleT (r : GRule) : ByteArray := headT r ++ (whenT r ++ (rateT r ++ ⟨#[59, 10]⟩))

theorem c_rate : (⟨#[32, 114, 97, 116, 101, 32]⟩ : ByteArray).size = 6 := rfl
theorem c_per : (⟨#[32, 112, 101, 114, 32]⟩ : ByteArray).size = 5 := rfl
theorem c_burst : (⟨#[32, 98, 117, 114, 115, 116, 32]⟩ : ByteArray).size = 7 := rfl
theorem c_end : (⟨#[59, 10]⟩ : ByteArray).size = 2 := rfl
theorem c_when : (⟨#[32, 119, 104, 101, 110, 32]⟩ : ByteArray).size = 6 := rfl
theorem c_allow : (⟨#[97, 108, 108, 111, 119]⟩ : ByteArray).size = 5 := rfl
theorem c_deny : (⟨#[100, 101, 110, 121]⟩ : ByteArray).size = 4 := rfl
theorem c_nil : (⟨#[]⟩ : ByteArray).size = 0 := rfl

theorem tsz5 : tsz 5 = 3751842 - 0 ∨ tsz 5 ≤ 10000000 := .inr (by decide)
theorem ruleT_size {r : GRule} (h : good 5 r.When) : (ruleT r).size ≤ 10000200 := by
  have h1 := tx_size 5 r.When h
  have h2 := tsz_le 5 (by decide)
  have s1 := itoaB_size r.Rate.Num
  have s2 := itoaB_size r.Rate.Per
  have s3 := itoaB_size r.Rate.Burst
  have a1 : (headT r).size ≤ 5 := by unfold headT; split <;> decide
  have a2 : (whenT r).size ≤ 10000006 := by
    unfold whenT; split
    · rw [c_nil]; omega
    · rw [sz_app, c_when]; omega
  have a3 : (rateT r).size ≤ 81 := by
    unfold rateT; split
    · rw [c_nil]; omega
    · simp only [sz_app, c_rate, c_per, c_burst]; omega
  unfold ruleT
  simp only [sz_app, c_end]
  omega

theorem numB_pos {n : Int} (h : numB n = true) : 0 ≤ n := by
  unfold numB at h
  simp only [Bool.and_eq_true, decide_eq_true_eq] at h
  exact h.1
theorem rate_prog {k : Nat} {r : GRule} {b : ByteArray} (h1 : numB r.Rate.Num = true) (h2 : numB r.Rate.Per = true) (h3 : numB r.Rate.Burst = true) (hb : b.size ≤ 100000000000) :
    (cond (decide (0 < r.Rate.Per))
      (bnd (wstr b (⟨#[32, 114, 97, 116, 101, 32]⟩ : ByteArray)) fun v13 =>
      bnd (tree_writer_number k v13 r.Rate.Num) fun v15 =>
      bnd (wstr v15 (⟨#[32, 112, 101, 114, 32]⟩ : ByteArray)) fun v17 =>
      bnd (tree_writer_number k v17 r.Rate.Per) fun v19 =>
      bnd (wstr v19 (⟨#[32, 98, 117, 114, 115, 116, 32]⟩ : ByteArray)) fun v21 =>
      bnd (tree_writer_number k v21 r.Rate.Burst) fun v23 =>
      bnd (wstr v23 (⟨#[59, 10]⟩ : ByteArray)) fun v25 =>
      some (true, v25))
      (bnd (wstr b (⟨#[59, 10]⟩ : ByteArray)) fun v27 =>
      some (true, v27))) = some (true, b ++ (rateT r ++ ⟨#[59, 10]⟩)) := by
  have s1 := itoaB_size r.Rate.Num
  have s2 := itoaB_size r.Rate.Per
  have s3 := itoaB_size r.Rate.Burst
  have hp := numB_pos h2
  have q1 := c_rate; have q2 := c_per; have q3 := c_burst; have q4 := c_end
  unfold rateT
  by_cases hz : r.Rate.Per = 0
  · rw [if_pos hz, decide_eq_false (show ¬ 0 < r.Rate.Per by omega)]
    simp only [cond_false]
    rw [bnd_of (wstr_eq (by omega) (by omega)), nil_append]
  · rw [if_neg hz, decide_eq_true (show 0 < r.Rate.Per by omega)]
    simp only [cond_true]
    rw [bnd_of (wstr_eq (by omega) (by omega)), bnd_of (number_eq h1 (by simp only [sz_app]; omega)), bnd_of (wstr_eq (by omega) (by simp only [sz_app]; omega)), bnd_of (number_eq h2 (by simp only [sz_app]; omega)),
      bnd_of (wstr_eq (by omega) (by simp only [sz_app]; omega)), bnd_of (number_eq h3 (by simp only [sz_app]; omega)), bnd_of (wstr_eq (by omega) (by simp only [sz_app]; omega))]
    simp only [app_assoc]
theorem tail_prog {k : Nat} {r : GRule} {v : ByteArray} (hg : good 5 r.When) (hr : rightB 5 r.When = true) (h1 : numB r.Rate.Num = true) (h2 : numB r.Rate.Per = true) (h3 : numB r.Rate.Burst = true) (hk : 70 ≤ k) (hb : v.size ≤ 9000000000) :
    (cond (r.When.Kind != 0)
      (bnd (wstr v (⟨#[32, 119, 104, 101, 110, 32]⟩ : ByteArray)) fun v9 =>
      bnd (tree_writer_expr k v9 r.When) fun v11 =>
      cond (decide (0 < r.Rate.Per))
        (bnd (wstr v11 (⟨#[32, 114, 97, 116, 101, 32]⟩ : ByteArray)) fun v13 =>
        bnd (tree_writer_number k v13 r.Rate.Num) fun v15 =>
        bnd (wstr v15 (⟨#[32, 112, 101, 114, 32]⟩ : ByteArray)) fun v17 =>
        bnd (tree_writer_number k v17 r.Rate.Per) fun v19 =>
        bnd (wstr v19 (⟨#[32, 98, 117, 114, 115, 116, 32]⟩ : ByteArray)) fun v21 =>
        bnd (tree_writer_number k v21 r.Rate.Burst) fun v23 =>
        bnd (wstr v23 (⟨#[59, 10]⟩ : ByteArray)) fun v25 =>
        some (true, v25))
        (bnd (wstr v11 (⟨#[59, 10]⟩ : ByteArray)) fun v27 =>
        some (true, v27)))
      (cond (decide (0 < r.Rate.Per))
        (bnd (wstr v (⟨#[32, 114, 97, 116, 101, 32]⟩ : ByteArray)) fun v13 =>
        bnd (tree_writer_number k v13 r.Rate.Num) fun v15 =>
        bnd (wstr v15 (⟨#[32, 112, 101, 114, 32]⟩ : ByteArray)) fun v17 =>
        bnd (tree_writer_number k v17 r.Rate.Per) fun v19 =>
        bnd (wstr v19 (⟨#[32, 98, 117, 114, 115, 116, 32]⟩ : ByteArray)) fun v21 =>
        bnd (tree_writer_number k v21 r.Rate.Burst) fun v23 =>
        bnd (wstr v23 (⟨#[59, 10]⟩ : ByteArray)) fun v25 =>
        some (true, v25))
        (bnd (wstr v (⟨#[59, 10]⟩ : ByteArray)) fun v27 =>
        some (true, v27)))) = some (true, v ++ (whenT r ++ (rateT r ++ ⟨#[59, 10]⟩))) := by
  have q5 := c_when
  have hs := tx_size 5 r.When hg
  have ht := tsz_le 5 (by decide)
  unfold whenT
  have e0 : (r.When.Kind != 0) = !decide (r.When.Kind = 0) := by rw [Bool.eq_iff_iff]; simp
  rw [e0]
  by_cases h0 : r.When.Kind = 0
  · rw [decide_eq_true h0, if_pos h0]
    simp only [Bool.not_true, cond_false]
    rw [rate_prog h1 h2 h3 (by omega), nil_append]
  · rw [decide_eq_false h0, if_neg h0]
    simp only [Bool.not_false, cond_true]
    rw [bnd_of (wstr_eq (by omega) (by omega)), bnd_of (expr_prog 5 r.When k _ hg hr h0 (by omega) (by omega) (by simp only [sz_app]; omega)), rate_prog h1 h2 h3 (by simp only [sz_app]; omega)]
    simp only [app_assoc]
theorem rule_prog {k : Nat} {r : GRule} {w : ByteArray} (hg : good 5 r.When) (hk : 70 ≤ k) (hb : w.size ≤ 8000000000) : tree_writer_rule k w r = some (if ruleB r then (true, w ++ ruleT r) else (false, w)) := by
  have q6 := c_allow; have q7 := c_deny
  unfold tree_writer_rule ruleB
  rw [bnd_of (tree_Right_eq 5 r.When k hg (by omega))]
  cases hR : rightB 5 r.When with
  | false => rfl
  | true =>
    simp only [Bool.not_true, cond_false, Bool.true_and]
    rw [bnd_of (fine_eq (by simp) (by simp; omega))]
    simp only [List.all_cons, List.all_nil]
    cases h1 : numB r.Rate.Num with
    | false => rfl
    | true =>
      cases h2 : numB r.Rate.Per with
      | false => rfl
      | true =>
        cases h3 : numB r.Rate.Burst with
        | false => rfl
        | true =>
          simp only [Bool.and_self, Bool.not_true, cond_false, Bool.true_and]
          have eP : (r.Rate.Per == 0) = decide (r.Rate.Per = 0) := by rw [Bool.eq_iff_iff]; simp
          by_cases hz : r.Rate.Per = 0
          · rw [eP, decide_eq_true hz]
            simp only [cond_true, Bool.not_true, Bool.false_or, Bool.true_and]
            cases hq : ((r.Rate.Num == 0) && ((r.Rate.Burst == 0) && true)) with
            | false => rfl
            | true =>
              simp only [Bool.not_true, cond_false, if_true]
              cases hA : r.Allow with
              | true =>
                simp only [cond_true]
                rw [bnd_of (wstr_eq (by omega) (by omega)), tail_prog hg hR h1 h2 h3 hk (by simp only [sz_app]; omega)]
                simp only [ruleT, headT, hA, if_true, app_assoc]
              | false =>
                simp only [cond_false]
                rw [bnd_of (wstr_eq (by omega) (by omega)), tail_prog hg hR h1 h2 h3 hk (by simp only [sz_app]; omega)]
                simp only [ruleT, headT, hA, Bool.false_eq_true, if_false, app_assoc]
          · rw [eP, decide_eq_false hz]
            simp only [cond_false, Bool.not_false, Bool.true_or, if_true]
            cases hA : r.Allow with
            | true =>
              simp only [cond_true]
              rw [bnd_of (wstr_eq (by omega) (by omega)), tail_prog hg hR h1 h2 h3 hk (by simp only [sz_app]; omega)]
              simp only [ruleT, headT, hA, if_true, app_assoc]
            | false =>
              simp only [cond_false]
              rw [bnd_of (wstr_eq (by omega) (by omega)), tail_prog hg hR h1 h2 h3 hk (by simp only [sz_app]; omega)]
              simp only [ruleT, headT, hA, Bool.false_eq_true, if_false, app_assoc]
/-! ### Policies -/
def okB (l : List GRule) (i : Nat) : Bool := ((l[i]?).map ruleB).getD false
def rulT (l : List GRule) (i : Nat) : ByteArray := ((l[i]?).map ruleT).getD ⟨#[]⟩
def polT (l : List GRule) : Option (ByteArray × Bool) := cond ((List.range' 0 l.length).all (okB l)) (some (join (rulT l) 0 l.length, true)) (some (⟨#[]⟩, false))
theorem rulT_at {l : List GRule} {i : Nat} (h : i < l.length) : rulT l i = ruleT l[i] ∧ okB l i = ruleB l[i] := by
  unfold rulT okB; rw [List.getElem?_eq_getElem h]; exact ⟨rfl, rfl⟩
theorem rulT_size {l : List GRule} (hg : ∀ x ∈ l, good 5 x.When) {i : Nat} (h : i < l.length) : (rulT l i).size ≤ 10000200 := by
  rw [(rulT_at h).1]; exact ruleT_size (hg _ (List.getElem_mem h))
theorem Text_prog {k : Nat} {l : List GRule} (hl : l.length ≤ 6) (hg : ∀ x ∈ l, good 5 x.When) (hk : 70 ≤ k) : tree_Text k l = polT l := by
  unfold tree_Text polT
  have h := loop_acc (F := fun m i acc => tree_Text_L0 k l (fun x11 x12 => some (x12, true)) m i acc) (n := l.length) (S := 10000200) (M := 70000000) (p := rulT l) (ok := okB l) (K := fun x => some (x, true)) (Z := some (⟨#[]⟩, false)) (fun m i acc hi hacc => by
    rw [tree_Text_L0, lt_dec hi]
    simp only [cond_true]
    rw [bnd_of (idx_of (List.getElem?_eq_getElem hi)), bnd_of (rule_prog (hg _ (List.getElem_mem hi)) hk (by omega)), suc_w hi (by omega), (rulT_at hi).1, (rulT_at hi).2]
    cases ruleB l[i] <;> rfl) (fun m acc => by rw [tree_Text_L0, ge_dec]; rfl) (fun i hi => rulT_size hg hi) l.length 0 k ByteArray.empty (by omega) (by omega) (by show 0 + _ ≤ _; omega)
  refine Eq.trans h ?_
  have e : (ByteArray.empty : ByteArray) = ⟨#[]⟩ := rfl
  rw [e, nil_append]
end Go.Proofs.YtdkiijhmmmfciaaDoor
