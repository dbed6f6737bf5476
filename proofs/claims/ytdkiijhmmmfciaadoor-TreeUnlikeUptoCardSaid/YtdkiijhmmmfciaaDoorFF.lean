/- Texts of expressions, rules and policies. -/
import Derived.Test.YtdkiijhmmmfciaaDoorFE
set_option linter.unusedVariables false
set_option linter.unusedSimpArgs false
namespace Go.Proofs.YtdkiijhmmmfciaaDoor
open Go

theorem idx_zero {α : Type} {l : List α} (h : 0 < l.length) : idx l 0 = some l[0] := idx_of (i := 0) (List.getElem?_eq_getElem h)
def brk (b : Bool) (s : ByteArray) : ByteArray := if b then (⟨#[40]⟩ : ByteArray) ++ s ++ ⟨#[41]⟩ else s
def signT (kd : Int) : ByteArray := if kd = 3 then ⟨#[32, 97, 110, 100, 32]⟩ else ⟨#[32, 111, 114, 32]⟩
def bk (kd : Int) (x : GExpr) : Bool := decide (x.Kind = 4) || (decide (x.Kind = 3) && decide (kd = 3))
def opc (kd : Int) (l : List GExpr) (f : GExpr → ByteArray) (i : Nat) : ByteArray := ((l[i]?).map fun x => (if 0 < i then signT kd else ⟨#[]⟩) ++ brk (bk kd x) (f x)).getD ⟨#[]⟩
def tx : Nat → GExpr → ByteArray
  | 0, _ => ⟨#[]⟩
  | n + 1, e => if e.Kind = 1 then atomT e else if e.Kind = 2 then (⟨#[110, 111, 116, 32]⟩ : ByteArray) ++ ((e.Of[0]?).map fun x => brk (decide (x.Kind = 3) || decide (x.Kind = 4)) (tx n x)).getD ⟨#[]⟩
      else join (opc e.Kind e.Of (tx n)) 0 e.Of.length
def tsz : Nat → Nat
  | 0 => 0
  | n + 1 => 360 + 6 * (tsz n + 7)
theorem opc_at {kd : Int} {l : List GExpr} {f : GExpr → ByteArray} {i : Nat} (h : i < l.length) : opc kd l f i = (if 0 < i then signT kd else ⟨#[]⟩) ++ brk (bk kd l[i]) (f l[i]) := by
  unfold opc; rw [List.getElem?_eq_getElem h]; rfl
theorem brk_size (b : Bool) (s : ByteArray) : (brk b s).size ≤ s.size + 2 := by
  have c1 : (⟨#[40]⟩ : ByteArray).size = 1 := rfl
  have c2 : (⟨#[41]⟩ : ByteArray).size = 1 := rfl
  unfold brk
  split
  · rw [sz_app, sz_app]; omega
  · omega
theorem opc_size {kd : Int} {l : List GExpr} {f : GExpr → ByteArray} {i S : Nat} (h : i < l.length) (hf : ∀ x ∈ l, (f x).size ≤ S) : (opc kd l f i).size ≤ S + 7 := by
  rw [opc_at h, sz_app]
  have h1 := brk_size (bk kd l[i]) (f l[i])
  have h2 := hf _ (List.getElem_mem h)
  have c0 : (⟨#[]⟩ : ByteArray).size = 0 := rfl
  have h3 : (signT kd).size ≤ 5 := by unfold signT; split <;> decide
  split <;> omega
theorem tx_size : ∀ (n : Nat) (e : GExpr), good n e → (tx n e).size ≤ tsz n
  | 0, e, h => h.elim
  | n + 1, e, h => by
    have hO := h.1
    have hx := h.2.2.2.2
    have hf : ∀ x ∈ e.Of, (tx n x).size ≤ tsz n := fun x hm => tx_size n x (hx x hm)
    rw [tx, tsz]
    split
    · have := (atomT_size h.2.1).1; omega
    · split
      · rw [sz_app]
        have c1 : (⟨#[110, 111, 116, 32]⟩ : ByteArray).size = 4 := rfl
        cases ho : e.Of[0]? with
        | none => show _ + (⟨#[]⟩ : ByteArray).size ≤ _; have c0 : (⟨#[]⟩ : ByteArray).size = 0 := rfl; omega
        | some x =>
          have h1 := hf x (List.mem_of_getElem? ho)
          have h2 := brk_size (decide (x.Kind = 3) || decide (x.Kind = 4)) (tx n x)
          simp only [Option.map_some, Option.getD_some]
          omega
      · have h1 := join_size (p := opc e.Kind e.Of (tx n)) (n := e.Of.length) (S := tsz n + 7) (fun i hi => opc_size hi hf) e.Of.length 0 (by omega)
        have h2 : e.Of.length * (tsz n + 7) ≤ 6 * (tsz n + 7) := Nat.mul_le_mul_right _ hO
        omega

theorem right_kinds {n : Nat} {e : GExpr} (h : rightB (n + 1) e = true) (h0 : e.Kind ≠ 0) (h1 : e.Kind ≠ 1) :
    ((e.Kind = 2 ∧ e.Of.length = 1) ∨ (e.Kind = 3 ∧ 2 ≤ e.Of.length) ∨ (e.Kind = 4 ∧ 2 ≤ e.Of.length)) ∧ ∀ x ∈ e.Of, x.Kind ≠ 0 ∧ rightB n x = true := by
  rw [rightB, if_neg h1, Bool.and_eq_true, if_neg h0] at h
  have h2 := h.2
  by_cases k2 : e.Kind = 2
  · rw [if_pos k2, Bool.and_eq_true, decide_eq_true_eq, List.all_eq_true] at h2
    exact ⟨.inl ⟨k2, h2.1⟩, fun x hx => by simpa using h2.2 x hx⟩
  · rw [if_neg k2] at h2
    by_cases k3 : e.Kind = 3 ∨ e.Kind = 4
    · rw [if_pos k3, Bool.and_eq_true, decide_eq_true_eq, List.all_eq_true] at h2
      exact ⟨.inr (k3.imp (fun h => ⟨h, h2.1⟩) (fun h => ⟨h, h2.1⟩)), fun x hx => by simpa using h2.2 x hx⟩
    · rw [if_neg k3] at h2; cases h2

/-! ### The program's way -/
def rankB (e : GExpr) : Int := if e.Kind = 4 then 2 else if e.Kind = 3 then 1 else 0
theorem rank_eq (k : Nat) (e : GExpr) : tree_rank k e = some (rankB e) := by
  unfold tree_rank rankB
  rw [kind_b, kind_b]
  by_cases h4 : e.Kind = 4
  · rw [decide_eq_true h4, if_pos h4]; rfl
  · rw [decide_eq_false h4, if_neg h4]
    by_cases h3 : e.Kind = 3
    · rw [decide_eq_true h3, if_pos h3]; rfl
    · rw [decide_eq_false h3, if_neg h3]; rfl
theorem under_eq {self : ByteArray → GExpr → Option ByteArray} {k : Nat} {w t : ByteArray} {x : GExpr} {loose : Int} (hs : ∀ v : ByteArray, v.size ≤ w.size + 1 → self v x = some (v ++ t)) (hw : w.size ≤ 100000000000) (ht : t.size ≤ 100000000000) :
    tree_writer_under self k w x loose = some (w ++ brk (decide (loose ≤ rankB x)) t) := by
  unfold tree_writer_under brk
  have c1 : (⟨#[40]⟩ : ByteArray).size = 1 := rfl
  have c2 : (⟨#[41]⟩ : ByteArray).size = 1 := rfl
  rw [bnd_of (rank_eq k x)]
  by_cases h : rankB x < loose
  · rw [decide_eq_true h, decide_eq_false (show ¬ loose ≤ rankB x by omega)]
    simp only [cond_true, Bool.false_eq_true, if_false]
    rw [bnd_of (hs w (by omega))]
  · rw [decide_eq_false h, decide_eq_true (show loose ≤ rankB x by omega)]
    simp only [cond_false, if_true]
    rw [bnd_of (wstr_eq (by omega) (by omega)), bnd_of (hs _ (by rw [sz_app]; omega)), bnd_of (wstr_eq (by omega) (by rw [sz_app, sz_app]; omega))]
    simp only [app_assoc]
theorem bk_rank3 {e x : GExpr} (h : e.Kind = 3) : decide (rankB e ≤ rankB x) = bk e.Kind x := by
  unfold bk rankB
  rw [h]
  by_cases h4 : x.Kind = 4
  · rw [h4]; rfl
  · by_cases h3 : x.Kind = 3
    · rw [h3]; rfl
    · rw [if_neg h4, if_neg h3, decide_eq_false h4, decide_eq_false h3]; rfl
theorem bk_rank4 {e x : GExpr} (h : e.Kind = 4) : decide (rankB e ≤ rankB x) = bk e.Kind x := by
  unfold bk rankB
  rw [h]
  by_cases h4 : x.Kind = 4
  · rw [h4]; rfl
  · by_cases h3 : x.Kind = 3
    · rw [h3]; rfl
    · rw [if_neg h4, if_neg h3, decide_eq_false h4, decide_eq_false h3]; rfl
theorem not_rank (x : GExpr) : decide ((1 : Int) ≤ rankB x) = (decide (x.Kind = 3) || decide (x.Kind = 4)) := by
  unfold rankB
  by_cases h4 : x.Kind = 4
  · rw [h4]; rfl
  · by_cases h3 : x.Kind = 3
    · rw [h3]; rfl
    · rw [if_neg h4, if_neg h3, decide_eq_false h4, decide_eq_false h3]; rfl
theorem tsz_le : ∀ n, n ≤ 5 → tsz n ≤ 10000000 := by decide

theorem expr_prog : ∀ (n : Nat) (e : GExpr) (k : Nat) (w : ByteArray), good n e → rightB n e = true → e.Kind ≠ 0 → n ≤ 5 → n + 60 ≤ k → w.size ≤ 10000000000 + (5 - n) * 100000000 → tree_writer_expr k w e = some (w ++ tx n e)
  | 0, e, k, w, h, _, _, _, _, _ => h.elim
  | n + 1, e, k, w, h, hr, h0, hn, hk, hw => by
    obtain ⟨k, rfl⟩ : ∃ j, k = j + 1 := ⟨k - 1, by omega⟩
    have hO := h.1
    have hx := h.2.2.2.2
    have hts := tsz_le n (by omega)
    have hf : ∀ x ∈ e.Of, (tx n x).size ≤ tsz n := fun x hm => tx_size n x (hx x hm)
    rw [tree_writer_expr, tx]
    by_cases h1 : e.Kind = 1
    · rw [if_pos h1, h1]
      simp only [beq_self_eq_true, cond_true]
      rw [bnd_of (atom_prog h (by rw [rightB, if_pos h1] at hr; exact hr) (by omega) (by omega))]
    · rw [if_neg h1, kind_b, decide_eq_false h1]
      simp only [cond_false]
      obtain ⟨hc, hch⟩ := right_kinds hr h0 h1
      have hself : ∀ x ∈ e.Of, ∀ v : ByteArray, v.size ≤ 10000000000 + (5 - n) * 100000000 → tree_writer_expr k v x = some (v ++ tx n x) := fun x hm v hv => expr_prog n x k v (hx x hm) (hch x hm).2 (hch x hm).1 (by omega) (by omega) hv
      by_cases h2 : e.Kind = 2
      · rw [if_pos h2, h2]
        simp only [beq_self_eq_true, cond_true]
        have hl : e.Of.length = 1 := by
          rcases hc with hc | hc | hc
          · exact hc.2
          · omega
          · omega
        have c1 : (⟨#[110, 111, 116, 32]⟩ : ByteArray).size = 4 := rfl
        have hi : 0 < e.Of.length := by omega
        have hm := List.getElem_mem hi
        have hs := hf _ hm
        rw [bnd_of (wstr_eq (by omega) (by omega)), bnd_of (idx_zero hi), bnd_of (under_eq (t := tx n e.Of[0]) (fun v hv => hself _ hm v (by rw [sz_app] at hv; omega)) (by rw [sz_app]; omega) (by omega)), not_rank, List.getElem?_eq_getElem hi]
        simp only [Option.map_some, Option.getD_some, app_assoc]
      · rw [if_neg h2, kind_b, decide_eq_false h2]
        simp only [cond_false]
        rw [bnd_of (rank_eq k e)]
        have hidx : idx ([(⟨#[]⟩ : ByteArray), (⟨#[32, 97, 110, 100, 32]⟩ : ByteArray), (⟨#[32, 111, 114, 32]⟩ : ByteArray)] : List ByteArray) (rankB e) = some (signT e.Kind) := by
          unfold rankB signT
          rcases hc with hc | hc | hc
          · omega
          · rw [hc.1]; rfl
          · rw [hc.1]; rfl
        rw [bnd_of hidx]
        have hss : (signT e.Kind).size ≤ 5 ∧ 1 ≤ (signT e.Kind).size := by unfold signT; split <;> decide
        have hbk : ∀ x, decide (rankB e ≤ rankB x) = bk e.Kind x := fun x => by
          rcases hc with hc | hc | hc
          · omega
          · exact bk_rank3 hc.1
          · exact bk_rank4 hc.1
        have hl := loop_acc (F := fun m i acc => tree_writer_expr_L0 k (tree_writer_expr k) e (signT e.Kind) (fun x25 x26 => some x26) m i acc) (n := e.Of.length) (S := tsz n + 7) (M := w.size + 6 * (tsz n + 7)) (p := opc e.Kind e.Of (tx n)) (ok := fun _ => true) (K := fun x => some x) (Z := none) (fun m i acc hi hacc => by
          have hm := List.getElem_mem hi
          have hs := hf _ hm
          rw [tree_writer_expr_L0, lt_dec hi]
          simp only [cond_true]
          rw [bnd_of (idx_of (List.getElem?_eq_getElem hi)), opc_at hi, suc_w hi (by omega)]
          by_cases hz : 0 < i
          · rw [decide_eq_true (show (0 : Int) < i by omega), if_pos hz]
            simp only [cond_true]
            rw [bnd_of (wstr_eq (by omega) (by omega)), bnd_of (rank_eq k e), bnd_of (under_eq (t := tx n e.Of[i]) (fun v hv => hself _ hm v (by rw [sz_app] at hv; omega)) (by rw [sz_app]; omega) (by omega)), hbk]
            simp only [app_assoc]
          · rw [decide_eq_false (show ¬ (0 : Int) < i by omega), if_neg hz]
            simp only [cond_false]
            rw [bnd_of (rank_eq k e), bnd_of (under_eq (t := tx n e.Of[i]) (fun v hv => hself _ hm v (by omega)) (by omega) (by omega)), hbk, nil_append]) (fun m acc => by rw [tree_writer_expr_L0, ge_dec]; rfl) (fun i hi => opc_size hi hf) e.Of.length 0 k w (by omega) (by omega) (by
            have h2 : e.Of.length * (tsz n + 7) ≤ 6 * (tsz n + 7) := Nat.mul_le_mul_right _ hO
            omega)
        have hall : (List.range' 0 e.Of.length).all (fun _ => true) = true := by simp
        rw [hall] at hl
        exact hl

/-! ### The document's way -/
theorem bracket_eq {k : Nat} {s : ByteArray} {b : Bool} (hs : s.size ≤ 1000000000) : ref11_bracket k s b = some (brk b s) := by
  have c1 : (⟨#[40]⟩ : ByteArray).size = 1 := rfl
  have c2 : (⟨#[41]⟩ : ByteArray).size = 1 := rfl
  unfold ref11_bracket brk
  cases b with
  | false => rfl
  | true =>
    simp only [cond_true, if_true]
    rw [chk_true (by omega), chk_true (by rw [sz_app]; omega)]
theorem expr_doc : ∀ (n : Nat) (e : GExpr) (k : Nat), good n e → rightB n e = true → e.Kind ≠ 0 → n ≤ 5 → n + 60 ≤ k → ref11_text k e = some (tx n e)
  | 0, e, k, h, _, _, _, _ => h.elim
  | n + 1, e, k, h, hr, h0, hn, hk => by
    obtain ⟨k, rfl⟩ : ∃ j, k = j + 1 := ⟨k - 1, by omega⟩
    have hO := h.1
    have hx := h.2.2.2.2
    have hts := tsz_le n (by omega)
    have hf : ∀ x ∈ e.Of, (tx n x).size ≤ tsz n := fun x hm => tx_size n x (hx x hm)
    rw [ref11_text, tx]
    by_cases h1 : e.Kind = 1
    · rw [if_pos h1, h1]
      simp only [beq_self_eq_true, cond_true]
      have ha : atomB e = true := by rw [rightB, if_pos h1] at hr; exact hr
      obtain ⟨f1, f2, f3⟩ := atom_fields ha
      unfold atomT
      by_cases h6 : e.Field = 6
      · have s1 := ftext_size (fl e.Low)
        have s2 := ftext_size (fl e.High)
        have c1 : (⟨#[114, 101, 97, 108, 32]⟩ : ByteArray).size = 5 := rfl
        have c2 : (⟨#[32, 116, 111, 32]⟩ : ByteArray).size = 4 := rfl
        rw [h6, if_pos rfl]
        simp only [beq_self_eq_true, cond_true]
        rw [bnd_of (dtext_eq (by omega) h.2.2.1), bnd_of (dtext_eq (by omega) h.2.2.2.1), chk_true (by omega), chk_true (by rw [sz_app]; omega), chk_true (by rw [sz_app, sz_app]; omega)]
      · rw [if_neg h6, show (e.Field == 6) = false by simpa using h6]
        simp only [cond_false]
        have hidx : ∃ v, idx ([(⟨#[]⟩ : ByteArray), (⟨#[99, 108, 105, 101, 110, 116]⟩ : ByteArray), (⟨#[117, 110, 105, 116]⟩ : ByteArray), (⟨#[102, 117, 110, 99]⟩ : ByteArray), (⟨#[97, 100, 100, 114]⟩ : ByteArray), (⟨#[118, 97, 108, 117, 101]⟩ : ByteArray)]) e.Field = some v ∧ v ++ (⟨#[32]⟩ : ByteArray) = fieldT e.Field ∧ v.size ≤ 6 := by
          rcases field_cases f1 f2 h6 with h | h | h | h | h <;> rw [h] <;> exact ⟨_, rfl, by decide, by decide⟩
        obtain ⟨v, hv1, hv2, hv3⟩ := hidx
        have c1 : (⟨#[32]⟩ : ByteArray).size = 1 := rfl
        have hrs := rngT_size h.2.1
        rw [bnd_of hv1, chk_true (by omega), bnd_of (rng_doc h.2.1 (f3 h6) (by omega)), chk_true (by rw [sz_app]; omega), hv2]
    · rw [if_neg h1, kind_b, decide_eq_false h1]
      simp only [cond_false]
      obtain ⟨hc, hch⟩ := right_kinds hr h0 h1
      have hself : ∀ x ∈ e.Of, ref11_text k x = some (tx n x) := fun x hm => expr_doc n x k (hx x hm) (hch x hm).2 (hch x hm).1 (by omega) (by omega)
      by_cases h2 : e.Kind = 2
      · rw [if_pos h2, h2]
        simp only [beq_self_eq_true, cond_true]
        have hl : e.Of.length = 1 := by
          rcases hc with hc | hc | hc
          · exact hc.2
          · omega
          · omega
        have c1 : (⟨#[110, 111, 116, 32]⟩ : ByteArray).size = 4 := rfl
        have hi : 0 < e.Of.length := by omega
        have hm := List.getElem_mem hi
        have hs := hf _ hm
        rw [bnd_of (idx_zero hi), bnd_of (hself _ hm), List.getElem?_eq_getElem hi]
        simp only [Option.map_some, Option.getD_some]
        rw [kind_b, kind_b]
        cases decide (e.Of[0].Kind = 3) with
        | true =>
          have hb := brk_size true (tx n e.Of[0])
          simp only [cond_true, Bool.true_or]
          rw [bnd_of (bracket_eq (by omega)), chk_true (by omega)]
        | false =>
          simp only [cond_false, Bool.false_or]
          have hb := brk_size (decide (e.Of[0].Kind = 4)) (tx n e.Of[0])
          rw [bnd_of (bracket_eq (by omega)), chk_true (by omega)]
      · rw [if_neg h2, kind_b, decide_eq_false h2]
        simp only [cond_false]
        have hss : (signT e.Kind).size ≤ 5 := by unfold signT; split <;> decide
        have hl := loop_acc (F := fun m i acc => ref11_text_L0 k (ref11_text k) e (fun x75 x76 => some x75) m acc i) (n := e.Of.length) (S := tsz n + 7) (M := 6 * (tsz n + 7)) (p := opc e.Kind e.Of (tx n)) (ok := fun _ => true) (K := fun x => some x) (Z := none) (fun m i acc hi hacc => by
          have hm := List.getElem_mem hi
          have hs := hf _ hm
          have cA : (⟨#[32, 97, 110, 100, 32]⟩ : ByteArray).size = 5 := rfl
          have cO : (⟨#[32, 111, 114, 32]⟩ : ByteArray).size = 4 := rfl
          have b1 := brk_size true (tx n e.Of[i])
          have b2 := brk_size false (tx n e.Of[i])
          have bt : ∀ b, ref11_bracket k (tx n e.Of[i]) b = some (brk b (tx n e.Of[i])) := fun b => bracket_eq (by omega)
          rw [ref11_text_L0, lt_dec hi]
          simp only [cond_true]
          rw [bnd_of (idx_of (List.getElem?_eq_getElem hi)), opc_at hi, suc_w hi (by omega)]
          unfold bk signT
          have e3 : (e.Kind == 3) = decide (e.Kind = 3) := kind_b e 3
          have x3 : (e.Of[i].Kind == 3) = decide (e.Of[i].Kind = 3) := kind_b _ 3
          have x4 : (e.Of[i].Kind == 4) = decide (e.Of[i].Kind = 4) := kind_b _ 4
          rw [e3, x3, x4]
          by_cases hz : 0 < i
          · rw [decide_eq_true (show (0 : Int) < i by omega), if_pos hz]
            simp only [cond_true]
            by_cases k3 : e.Kind = 3
            · rw [decide_eq_true k3, if_pos k3]
              simp only [cond_true]
              rw [chk_true (by omega), bnd_of (hself _ hm)]
              cases decide (e.Of[i].Kind = 4) with
              | true =>
                simp only [cond_true, Bool.true_or]
                rw [bnd_of (bt _), chk_true (by rw [sz_app]; omega)]
                simp only [app_assoc]
              | false =>
                simp only [cond_false, Bool.false_or]
                cases decide (e.Of[i].Kind = 3) with
                | true =>
                  simp only [cond_true, Bool.true_and]
                  rw [bnd_of (bt _), chk_true (by rw [sz_app]; omega)]
                  simp only [app_assoc]
                | false =>
                  simp only [cond_false, Bool.false_and]
                  rw [bnd_of (bt _), chk_true (by rw [sz_app]; omega)]
                  simp only [app_assoc]
            · rw [decide_eq_false k3, if_neg k3]
              simp only [cond_false]
              rw [chk_true (by omega), bnd_of (hself _ hm)]
              cases decide (e.Of[i].Kind = 4) with
              | true =>
                simp only [cond_true, Bool.true_or]
                rw [bnd_of (bt _), chk_true (by rw [sz_app]; omega)]
                simp only [app_assoc]
              | false =>
                simp only [cond_false, Bool.false_or]
                cases decide (e.Of[i].Kind = 3) with
                | true =>
                  simp only [cond_true, Bool.and_false]
                  rw [bnd_of (bt _), chk_true (by rw [sz_app]; omega)]
                  simp only [app_assoc]
                | false =>
                  simp only [cond_false, Bool.and_false]
                  rw [bnd_of (bt _), chk_true (by rw [sz_app]; omega)]
                  simp only [app_assoc]
          · rw [decide_eq_false (show ¬ (0 : Int) < i by omega), if_neg hz]
            simp only [cond_false]
            rw [bnd_of (hself _ hm), nil_append]
            cases decide (e.Of[i].Kind = 4) with
            | true =>
              simp only [cond_true, Bool.true_or]
              rw [bnd_of (bt _), chk_true (by omega)]
            | false =>
              simp only [cond_false, Bool.false_or]
              cases decide (e.Of[i].Kind = 3) with
              | true =>
                simp only [cond_true, Bool.true_and]
                cases decide (e.Kind = 3) <;> rw [bnd_of (bt _), chk_true (by omega)]
              | false =>
                simp only [cond_false, Bool.false_and]
                rw [bnd_of (bt _), chk_true (by omega)]) (fun m acc => by rw [ref11_text_L0, ge_dec]; rfl) (fun i hi => opc_size hi hf) e.Of.length 0 k ⟨#[]⟩ (by omega) (by omega) (by
            have h2 : e.Of.length * (tsz n + 7) ≤ 6 * (tsz n + 7) := Nat.mul_le_mul_right _ hO
            have c0 : (⟨#[]⟩ : ByteArray).size = 0 := rfl
            omega)
        have hall : (List.range' 0 e.Of.length).all (fun _ => true) = true := by simp
        rw [hall] at hl
        refine Eq.trans hl ?_
        simp only [cond_true, nil_append]
end Go.Proofs.YtdkiijhmmmfciaaDoor
