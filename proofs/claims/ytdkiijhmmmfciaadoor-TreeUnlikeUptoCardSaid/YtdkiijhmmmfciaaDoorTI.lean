/- Operations over tree values: append. -/
import Derived.Test.YtdkiijhmmmfciaaDoorTH
set_option linter.unusedVariables false
set_option linter.unusedSimpArgs false
namespace Go.Proofs.YtdkiijhmmmfciaaDoor
open Go

/-- Who may grow a slice of so many elements: there is no spare room, or a row of the call's own. -/
def Owned (e k : Nat) (ow : Own) (n : Nat) (r : Res) : Prop := (ow = .full ∧ r = []) ∨ ∃ b cap, ow = .row b cap ∧ r = [(b, .row e k n cap)]

def appB (P : Program) (T e k bytes : Nat) : Bool :=
  (match P.underlying T with | some (.slice e') => e' == e | _ => false) &&
  (match P.info? e with | some i => i.size == k && i.bytes == bytes && (match i.zero with | some z => z.cells.size == k | none => false) | none => false) && decide (0 < k) && decide (0 < bytes)
theorem appB_at {P : Program} {T e k bytes : Nat} (h : appB P T e k bytes = true) : ∃ i z, P.underlying T = some (.slice e) ∧ P.info? e = some i ∧ i.size = k ∧ i.bytes = bytes ∧ i.zero = some z ∧ z.cells.size = k ∧ 0 < k ∧ 0 < bytes := by
  unfold appB at h
  simp only [Bool.and_eq_true, decide_eq_true_eq] at h
  obtain ⟨⟨⟨h1, h2⟩, h3⟩, h4⟩ := h
  split at h1
  · rename_i e' hu
    simp only [beq_iff_eq] at h1
    subst h1
    split at h2
    · rename_i i hi
      simp only [Bool.and_eq_true, beq_iff_eq] at h2
      obtain ⟨⟨h5, h6⟩, h7⟩ := h2
      split at h7
      · rename_i z hz
        exact ⟨i, z, hu, hi, h5, h6, hz, by simpa using h7, h3, h4⟩
      · cases h7
    · cases h2
  · cases h1

theorem flat_length {k : Nat} : ∀ (l : List Value), (∀ u ∈ l, u.cells.size = k) → (flat l).length = l.length * k
  | [], _ => by simp [flat]
  | v :: l, h => by
    have h1 := h v (by simp)
    have h2 := flat_length (k := k) l fun u hu => h u (by simp [hu])
    simp only [flat] at h2
    simp only [flat, List.flatMap_cons, List.length_append, h2, List.length_cons, Nat.succ_mul, Array.length_toList, h1]
    omega
theorem flat_append (l m : List Value) : flat (l ++ m) = flat l ++ flat m := by simp [flat]

/-- What an append comes to. -/
inductive Went1 (w : World) (e k : Nat) (v : Value) (olds news : List Value) (n m : Nat) : Value → World → Prop
  | same : m = 0 → Went1 w e k v olds news n m v w
  | room {g cap : Nat} {cur : Array Value} : v = .slice (some ⟨g, 0, none⟩) n cap → w.heap[g]? = some (.cells cur e (0, 0)) → n + m ≤ cap → cur.size = cap * k →
      Went1 w e k v olds news n m (.slice (some ⟨g, 0, none⟩) (n + m) cap) (w.setRow g (cur.toList.take (n * k) ++ news ++ cur.toList.drop (n * k + news.length)).toArray)
  | grow {cap : Nat} {zs : Array Value} : n + m ≤ cap → zs.size = (cap - (n + m)) * k → 0 < m →
      Went1 w e k v olds news n m (.slice (some ⟨w.heap.size, 0, none⟩) (n + m) cap) (w.drew.alloc (.cells (olds.toArray ++ news.toArray ++ zs) e))

section
variable {P : Program} {o : Oper} {τ : Operand → TV} {s : Res} {n : Nat} {E : Env} {Q : AQ}

theorem append_core {C : Claims} {w w' : World} {pre r post : Res} {ow : Own} {e k : Nat} {xs ys : List TV} {v v' : Value} {us : List Value} (hs : Sim C (pre ++ r ++ post) w) (hown : Owned e k ow xs.length r) (hk0 : 0 < k)
    {A : Option Addr} {c : Nat} {os : List Value} (hv : v = .slice A os.length c) (hc : os.length ≤ c) (hV : VL C w xs os) (hsz : ∀ u ∈ os, u.cells.size = k) (hok : OwnOk ow A os.length c) (hmem : 0 < os.length → ∃ a, A = some a ∧ Mem C w a (flat os))
    (hVy : VL C w ys us) (hszy : ∀ u ∈ us, u.cells.size = k) (hb : os.length + us.length ≤ 281474976710656) (hone : ∀ u ∈ flat us, u.oneCell' = true)
    (h : Went1 w e k v (flat os) (flat us) os.length us.length v' w') :
    ∃ C' ow' r', Owned e k ow' (xs.length + ys.length) r' ∧ (us ≠ [] → ow' ≠ .full) ∧ V C' w' (.slice ow' k (xs ++ ys)) v' ∧ Sim C' (pre ++ r' ++ post) w' ∧ Ev (dom (pre ++ r ++ post)) C w C' w' ∧ ∀ b, dom (pre ++ r' ++ post) b → dom (pre ++ r ++ post) b ∨ w.heap.size ≤ b := by
  have hlx := VL_length hV
  have hly := VL_length hVy
  have hflo := flat_length os hsz
  have hflu := flat_length us hszy
  have hszz : ∀ u ∈ os ++ us, u.cells.size = k := fun u hu => (List.mem_append.1 hu).elim (hsz u) (hszy u)
  cases h with
  | same hm =>
    have hu0 : us = [] := List.eq_nil_of_length_eq_zero hm
    subst hu0
    have hy0 : ys = [] := List.eq_nil_of_length_eq_zero (by simpa using hly.symm)
    subst hy0
    refine ⟨C, ow, r, by simpa using hown, fun h => absurd rfl h, ?_, hs, Ev.refl _ _ _, fun _ h => .inl h⟩
    rw [List.append_nil, V]
    exact ⟨A, c, os, hv, hc, by simpa using hb, hV, hsz, hok, hmem⟩
  | @room g cap cur hv2 hg hroom hcur =>
    rw [hv] at hv2
    injection hv2 with h1 _ h3
    subst h1 h3
    have hmemr : ∀ b0 r0, (b0, r0) ∈ r → (b0, r0) ∈ pre ++ r ++ post := fun b0 r0 hm => List.mem_append.2 (.inl (List.mem_append.2 (.inr hm)))
    rcases hown with ⟨rfl, rfl⟩ | ⟨b, cap', rfl, rfl⟩
    · -- there is no spare room: nothing comes
      have hcn : c = os.length := hok
      have hm0 : us.length = 0 := by omega
      have hu0 : us = [] := List.eq_nil_of_length_eq_zero hm0
      subst hu0
      have hy0 : ys = [] := List.eq_nil_of_length_eq_zero (by simpa using hly.symm)
      subst hy0
      have hw : w.setRow g (cur.toList.take (os.length * k) ++ flat [] ++ cur.toList.drop (os.length * k + (flat []).length)).toArray = w := by
        have e1 : (cur.toList.take (os.length * k) ++ flat [] ++ cur.toList.drop (os.length * k + (flat []).length)).toArray = cur := by simp [flat]
        rw [e1]
        unfold World.setRow
        have : ∀ h' : Array Obj, (∀ i, h'[i]? = w.heap[i]?) → ({ w with heap := h' } : World) = w := fun h' e => by rw [Array.ext_getElem? e]
        refine this _ fun i => ?_
        rw [Array.getElem?_modify]
        split
        · rename_i hi; subst hi; rw [hg]; rfl
        · rfl
      rw [hw]
      refine ⟨C, .full, [], .inl ⟨rfl, rfl⟩, fun h => absurd rfl h, ?_, hs, Ev.refl _ _ _, fun _ h => .inl h⟩
      rw [List.append_nil, V]
      exact ⟨_, c, os, by simp, hc, by simpa using hb, hV, hsz, hcn, hmem⟩
    · obtain ⟨hA, rfl⟩ := hok
      injection hA with hA
      injection hA with hA
      subst hA
      obtain ⟨vs, hvs, hncap, hvsz, hcl⟩ := hs.at_ g _ (hmemr g _ (List.mem_singleton.2 rfl))
      rw [hg] at hvs
      injection hvs with hvs
      injection hvs with hvs
      subst hvs
      have hfit : os.length * k + (flat us).length ≤ cur.size := by rw [hflu, hcur, ← Nat.add_mul]; exact Nat.mul_le_mul_right _ hroom
      have hdom : dom (pre ++ [(g, RS.row e k xs.length c)] ++ post) g := ⟨_, hmemr g _ (List.mem_singleton.2 rfl)⟩
      -- the cells as they stand behind it
      have hnew : ∀ o', o' < os.length * k → (cur.toList.take (os.length * k) ++ flat us ++ cur.toList.drop (os.length * k + (flat us).length)).toArray[o']? = cur[o']? := fun o' ho' => by
        have hl : (cur.toList.take (os.length * k)).length = os.length * k := by simp; omega
        simp only [List.getElem?_toArray]
        rw [List.append_assoc, List.getElem?_append_left (by omega), List.getElem?_take, if_pos ho', Array.getElem?_toList]
      have hev := setRow_ev (C := C) (s := pre ++ [(g, RS.row e k xs.length c)] ++ post) (new := (cur.toList.take (os.length * k) ++ flat us ++ cur.toList.drop (os.length * k + (flat us).length)).toArray) hg hdom fun o' hc' => hnew o' (by have := hcl o' hc'; rw [← hlx] at this; exact this)
      generalize hw' : w.setRow g (cur.toList.take (os.length * k) ++ flat us ++ cur.toList.drop (os.length * k + (flat us).length)).toArray = w1 at *
      have hheap : w1.heap[g]? = some (.cells (cur.toList.take (os.length * k) ++ flat us ++ cur.toList.drop (os.length * k + (flat us).length)).toArray e (0, 0)) := by rw [← hw']; exact setRow_heap w g cur _ e _ hg
      have hglt : g < w1.heap.size := (Array.getElem?_eq_some_iff.1 hheap).1
      have hev2 : Ev (dom (pre ++ [(g, RS.row e k xs.length c)] ++ post)) C w (newC C g ((os.length + us.length) * k)) w1 :=
        ⟨hev.os, hev.tape, hev.output, hev.size, hev.same, fun b hb' hn o' hc' => hc'.elim id fun ⟨e1, _⟩ => absurd (e1 ▸ hdom) hn, fun b o' hc' => ⟨.inl hc', (hev.keep b o' hc').2⟩⟩
      have hevg : Ev (fun b' => b' = g) C w (newC C g ((os.length + us.length) * k)) w1 := by
        refine ⟨hev.os, hev.tape, hev.output, hev.size, fun b hb' hn => ?_, fun b hb' hn o' hc' => hc'.elim id fun ⟨e1, _⟩ => absurd e1 hn, fun b o' hc' => ⟨.inl hc', (hev.keep b o' hc').2⟩⟩
        rw [← hw']; exact setRow_other w g b _ hn
      refine ⟨newC C g ((os.length + us.length) * k), .row g c, [(g, .row e k (xs.length + ys.length) c)], .inr ⟨g, c, rfl, rfl⟩, fun _ => nofun, ?_, ?_, hev2, ?_⟩
      · rw [V]
        refine ⟨_, c, os ++ us, by simp, by simp; omega, by simpa using hb, VL_append (VL_keep hev2.keep _ _ hV) (VL_keep hev2.keep _ _ hVy), hszz, ⟨rfl, rfl⟩, fun hp => ⟨_, rfl, fun j u hj => ?_⟩⟩
        have e1 : (⟨g, 0, none⟩ : Addr).add j = ⟨g, j, none⟩ := by unfold Addr.add; split <;> simp_all
        rw [e1]
        have hjl : j < (os.length + us.length) * k := by
          have := (List.getElem?_eq_some_iff.1 hj).1
          rwa [flat_length _ hszz, List.length_append] at this
        refine ⟨?_, .inr ⟨rfl, hjl⟩⟩
        have hcell : w1.cell? ⟨g, j, none⟩ = (cur.toList.take (os.length * k) ++ flat us ++ cur.toList.drop (os.length * k + (flat us).length))[j]? := by simp only [World.cell?, hheap]; simp
        rw [hcell]
        rw [flat_append] at hj
        have hl : (cur.toList.take (os.length * k)).length = os.length * k := by simp; omega
        by_cases hjo : j < os.length * k
        · have h0 : 0 < os.length := Nat.pos_of_ne_zero fun h0 => by rw [h0] at hjo; simp at hjo
          obtain ⟨a, ha, hM⟩ := hmem h0
          injection ha with ha
          subst ha
          rw [List.getElem?_append_left (by omega)] at hj
          have hM1 := (hM j u hj).1
          rw [e1] at hM1
          have : w.cell? ⟨g, j, none⟩ = cur[j]? := by simp only [World.cell?, hg]; simp
          rw [List.append_assoc, List.getElem?_append_left (by omega), List.getElem?_take, if_pos hjo, Array.getElem?_toList, ← this]
          exact hM1
        · rw [List.getElem?_append_right (by omega), hflo] at hj
          rw [List.append_assoc, List.getElem?_append_right (by omega), hl, List.getElem?_append_left (List.getElem?_eq_some_iff.1 hj).1]
          exact hj
      · have hj : (pre ++ [(g, RS.row e k xs.length c)] ++ post)[pre.length]? = some (g, RS.row e k xs.length c) := by simp
        have ht := hs.turn hj (r' := .row e k (xs.length + ys.length) c) (C' := newC C g ((os.length + us.length) * k)) (w' := w1) (fun b o' hc' => by
          rcases hc' with hc' | ⟨rfl, _⟩
          · exact Nat.lt_of_lt_of_le (hs.ok b o' hc') hev.size
          · exact hglt) hevg ⟨_, hheap, by omega, by simp; omega, fun o' hc' => by
            rcases hc' with hc' | ⟨_, h⟩
            · have := hcl o' hc'
              rw [Nat.add_mul]; omega
            · rw [← hlx, ← hly]; exact h⟩
        have e2 : (pre ++ [(g, RS.row e k xs.length c)] ++ post).set pre.length (g, .row e k (xs.length + ys.length) c) = pre ++ [(g, .row e k (xs.length + ys.length) c)] ++ post := by simp
        rw [e2] at ht
        exact ht
      · rintro b ⟨q, hm⟩
        simp only [List.append_assoc, List.cons_append, List.nil_append, List.mem_append, List.mem_cons] at hm
        rcases hm with hm | hm | hm
        · exact .inl ⟨q, by simp [hm]⟩
        · injection hm with hm; subst hm; exact .inl hdom
        · exact .inl ⟨q, by simp [hm]⟩
  | @grow cap zs hcap hzs hm =>
    have hp := Pushed.drew w (.cells ((flat os).toArray ++ (flat us).toArray ++ zs) e)
    have hev := hp.ev (C := C) (m := (os.length + us.length) * k) (dom (pre ++ r ++ post)) hs.ok
    have hs0 : Sim C (pre ++ post) w := hs.drop (by
      rw [List.append_assoc]
      exact List.Sublist.append (List.Sublist.refl _) (List.sublist_append_right _ _))
    have hsim := hp.sim_cons (m := (os.length + us.length) * k) hs0 (r := .row e k (xs.length + ys.length) cap) ⟨_, hp.new, by omega, by
      simp [hflo, hflu, hzs, ← Nat.add_mul]; congr 1; omega, fun o' hc' => by
      rcases hc' with hc' | ⟨_, h⟩
      · have := hs.ok _ _ hc'; omega
      · rw [← hlx, ← hly]; exact h⟩
    refine ⟨newC C w.heap.size ((os.length + us.length) * k), .row w.heap.size cap, [(w.heap.size, .row e k (xs.length + ys.length) cap)], .inr ⟨_, _, rfl, rfl⟩, fun _ => nofun, ?_, hsim.perm ?_, hev, ?_⟩
    · rw [V]
      refine ⟨_, cap, os ++ us, by simp, by simpa using hcap, by simpa using hb, VL_append (VL_keep hev.keep _ _ hV) (VL_keep hev.keep _ _ hVy), hszz, ⟨rfl, rfl⟩, fun _ => ⟨_, rfl, hp.mem ?_ ?_⟩⟩
      · rw [flat_append]
        have : (flat os ++ flat us).length = (os.length + us.length) * k := by rw [List.length_append, hflo, hflu, Nat.add_mul]
        simp only [Array.toList_append]
        rw [List.take_left' this]
      · rw [flat_length _ hszz, List.length_append]
    · simp only [List.append_assoc, List.cons_append, List.nil_append]
      exact List.perm_middle
    · rintro b ⟨q, hm⟩
      simp only [List.append_assoc, List.cons_append, List.nil_append, List.mem_append, List.mem_cons] at hm
      rcases hm with hm | hm | hm
      · exact .inl ⟨q, by simp [hm]⟩
      · injection hm with hm; exact .inr (by omega)
      · exact .inl ⟨q, by simp [hm]⟩
end
end Go.Proofs.YtdkiijhmmmfciaaDoor
