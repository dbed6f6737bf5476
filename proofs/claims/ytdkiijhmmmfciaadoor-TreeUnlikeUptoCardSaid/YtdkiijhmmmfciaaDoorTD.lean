/- Functions and calls over tree values. -/
import Derived.Test.YtdkiijhmmmfciaaDoorTC
import Derived.Laws.Cells
import Derived.ChangeKeysEq
set_option linter.unusedVariables false
set_option linter.unusedSimpArgs false
namespace Go.Proofs.YtdkiijhmmmfciaaDoor
open Go

/-- A type: is it a struct or an array; how many cells. -/
def tiB (P : Program) (t : TypeId) (ag : Bool) (sz : Nat) : Bool :=
  (match P.underlying t with
   | some (.struct _) => ag
   | some (.array _ _) => ag
   | some _ => !ag
   | none => false) && (match P.info? t with | some i => i.size == sz | none => false)
theorem tiB_agg {P : Program} {t : TypeId} {ag : Bool} {sz : Nat} (h : tiB P t ag sz = true) (w : World) : (isAgg t).run P w = .ok ag w := by
  unfold tiB at h
  simp only [Bool.and_eq_true] at h
  have h1 := h.1
  cases hu : P.underlying t with
  | none => rw [hu] at h1; cases h1
  | some d =>
    rw [hu] at h1
    cases d <;> cases ag <;> simp_all [isAgg, run_underlying hu]
theorem tiB_size {P : Program} {t : TypeId} {ag : Bool} {sz : Nat} (h : tiB P t ag sz = true) (w : World) : (sizeOf t).run P w = .ok sz w := by
  unfold tiB at h
  simp only [Bool.and_eq_true] at h
  have h2 := h.2
  cases hi : P.info? t with
  | none => rw [hi] at h2; cases h2
  | some i => rw [hi] at h2; simp only [beq_iff_eq] at h2; simp [sizeOf, typeInfo, hi, h2]

/-- What stands in a type's variable at an address. -/
def valOf (ag : Bool) (vs : List Value) : Value := if ag then .agg vs.toArray else vs.headD undef
theorem run_loadVar_at {P : Program} {t : TypeId} {ag : Bool} {w : World} {a : Addr} {vs : List Value} (h : tiB P t ag vs.length = true) (h1 : ag = false → vs.length = 1) (hc : ∀ j u, vs[j]? = some u → w.cell? (a.add j) = some u) :
    (loadVar t a).run P w = .ok (valOf ag vs) w := by
  cases ag with
  | true => simp [loadVar, tiB_agg h, tiB_size h, run_loadCells_list w a vs hc, valOf]
  | false =>
    match vs, h1 rfl with
    | [v], _ =>
      have := hc 0 v rfl
      simp only [Addr.add, if_true] at this
      simp [loadVar, tiB_agg h, this, valOf]

theorem AX_ret {C : Claims} {w : World} {x : AExit} (h : AX C w .ret x) : x = .ret := by cases x <;> simp_all [AX]
theorem AX_normal {C : Claims} {w : World} {x : AExit} (h : AX C w .normal x) : x = .normal := by cases x <;> simp_all [AX]

/-- What a result slot holds. -/
def slotTV (P : Program) (n : Nat) (E : Env) (s : Res) : ResultVar → TV → Prop
  | .tmp t, v => t < n ∧ v = look E t
  | .cell a t, v => ∃ b cs ag, a < n ∧ look E a = .ptr b 0 ∧ (b, .box cs) ∈ s ∧ tiB P t ag cs.length = true ∧ (if ag then v = .agg cs else cs = [v])
/-- What a function hands back. -/
def resTV (P : Program) (n : Nat) (E : Env) (s : Res) : List ResultVar → TV → Prop
  | [r], v => slotTV P n E s r v
  | rs, v => ∃ ts, v = .tuple ts ∧ rs.length = ts.length ∧ ∀ (i : Nat) (r : ResultVar) (t : TV), rs[i]? = some r → ts[i]? = some t → slotTV P n E s r t
def bodyQ (P : Program) (n : Nat) (rs : List ResultVar) (R : ARes → Res → Prop) : AQ
  | .normal, E, s => ∃ v, resTV P n E s rs v ∧ R (.ret v) s
  | .ret, E, s => ∃ v, resTV P n E s rs v ∧ R (.ret v) s
  | .panic v, _, s => R (.panic v) s
  | _, _, _ => False

def slotSem (tmps : Array Value) : ResultVar → Sem Value
  | .tmp t => pure (tmps.getD t undef)
  | .cell a t => do loadVar t (← asAddr (tmps.getD a undef))
theorem run_slot {P : Program} {C : Claims} {w : World} {n : Nat} {E : Env} {s : Res} {tm : Array Value} (hs : Sim C s w) (hE : VE C w n E tm) {r : ResultVar} {t : TV} (h : slotTV P n E s r t) :
    ∃ v, (slotSem tm r).run P w = .ok v w ∧ V C w t v := by
  cases r with
  | tmp i =>
    simp only [slotTV] at h
    obtain ⟨hi, rfl⟩ := h
    exact ⟨tm.getD i undef, rfl, hE.at_ i hi⟩
  | cell a t' =>
    obtain ⟨b, cs, ag, h0, h1, h2, h3, h4⟩ := h
    obtain ⟨vs, et, hb, hv, _⟩ := hs.at_ b _ h2
    have hp' := hE.at_ a h0
    rw [h1, V] at hp'
    have hlen := VL_length hv
    have hcell : ∀ j u, vs.toList[j]? = some u → w.cell? ((⟨b, 0, none⟩ : Addr).add j) = some u := fun j u hj => by
      rw [Array.getElem?_toList] at hj
      have : (⟨b, 0, none⟩ : Addr).add j = ⟨b, j, none⟩ := by unfold Addr.add; split <;> simp_all
      rw [this]; simp [World.cell?, hb, hj]
    rw [← hlen] at h3
    have h1' : ag = false → vs.toList.length = 1 := fun e => by subst e; simp only [Bool.false_eq_true, if_false] at h4; rw [hlen, h4]; rfl
    refine ⟨valOf ag vs.toList, by simp [slotSem, hp', asAddr, run_loadVar_at h3 h1' hcell], ?_⟩
    cases ag with
    | true =>
      simp only [if_true] at h4
      subst h4
      rw [V]
      exact ⟨vs, by simp [valOf], hv⟩
    | false =>
      simp only [Bool.false_eq_true, if_false] at h4
      subst h4
      rw [VL] at hv
      obtain ⟨v, vs', he, hV, _⟩ := hv
      simpa [valOf, he] using hV

theorem run_slots {P : Program} {C : Claims} {w : World} {n : Nat} {E : Env} {s : Res} {tm : Array Value} (hs : Sim C s w) (hE : VE C w n E tm) :
    ∀ (rs : List ResultVar) (ts : List TV), rs.length = ts.length → (∀ (i : Nat) (r : ResultVar) (t : TV), rs[i]? = some r → ts[i]? = some t → slotTV P n E s r t) →
      ∃ vs, (rs.mapM (slotSem tm)).run P w = .ok vs w ∧ VL C w ts vs ∧ vs.length = rs.length
  | [], [], _, _ => ⟨[], by simp, by rw [VL], rfl⟩
  | r :: rs, t :: ts, hl, h => by
    obtain ⟨v, h1, h2⟩ := run_slot hs hE (h 0 r t rfl rfl)
    obtain ⟨vs, h3, h4, h5⟩ := run_slots hs hE rs ts (by simpa using hl) fun i r t hr ht => h (i + 1) r t (by simpa using hr) (by simpa using ht)
    exact ⟨v :: vs, by simp [List.mapM_cons, h1, h3], by rw [VL]; exact ⟨v, vs, rfl, h2, h4⟩, by simp [h5]⟩

theorem run_results {P : Program} {fn : Func} {C : Claims} {w : World} {n : Nat} {E : Env} {s : Res} {tm : Array Value} (hs : Sim C s w) (hE : VE C w n E tm) {t : TV} (h : resTV P n E s fn.results.toList t) :
    ∃ v, (results fn tm).run P w = .ok v w ∧ V C w t v := by
  have hsem : results fn tm = (do let vs ← fn.results.mapM (slotSem tm); pure (if h : vs.size = 1 then vs[0] else .tuple vs)) := rfl
  obtain ⟨rs, hrs⟩ : ∃ rs : List ResultVar, fn.results = rs.toArray := ⟨fn.results.toList, by simp⟩
  rw [hsem, hrs]
  rw [hrs] at h
  simp only [List.mapM_toArray]
  match rs, h with
  | [r], h =>
    obtain ⟨v, h1, h2⟩ := run_slot hs hE h
    exact ⟨v, by simp [h1], h2⟩
  | [], h =>
    obtain ⟨ts, rfl, hl, _⟩ := h
    obtain rfl : ts = [] := List.eq_nil_of_length_eq_zero hl.symm
    exact ⟨.tuple #[], by simp, by rw [V]; exact ⟨#[], rfl, by simp [VL]⟩⟩
  | r1 :: r2 :: rs, h =>
    obtain ⟨ts, rfl, hl, hh⟩ := h
    obtain ⟨vs, h3, h4, h5⟩ := run_slots hs hE _ ts hl hh
    refine ⟨.tuple vs.toArray, ?_, by rw [V]; exact ⟨_, rfl, by simpa using h4⟩⟩
    have : vs.length ≠ 1 := by rw [h5]; simp
    have h3' : (List.toArray <$> (r1 :: r2 :: rs).mapM (slotSem tm)).run P w = .ok vs.toArray w := by
      rw [map_eq_pure_bind, Sem.run_bind, h3]; simp
    rw [Sem.run_bind, h3']
    simp [this]

def argsE : Nat → List TV → Env
  | _, [] => []
  | i, t :: ts => (i, t) :: argsE (i + 1) ts
theorem look_args : ∀ (ts : List TV) (i j : Nat), i ≤ j → look (argsE i ts) j = ts.getD (j - i) .any
  | [], i, j, _ => by simp [argsE, look]
  | t :: ts, i, j, h => by
    rw [argsE, look_cons]
    by_cases e : j = i
    · subst e; simp
    · rw [if_neg e, look_args ts (i + 1) j (by omega), show j - i = (j - (i + 1)) + 1 from by omega]; simp

theorem AFn.of_code {P : Program} {f : FuncId} {fn : Func} {c : Code} {args : List TV} {s : Res} {R : ARes → Res → Prop} (hf : P.funcs[f]? = some fn) (hb : fn.body = some c) (hn : args.length ≤ fn.ntmps)
    (h : ACode P fn.ntmps c (argsE 0 args) s (bodyQ P fn.ntmps fn.results.toList R)) : AFn P f args s R := by
  intro C w vs hs hA
  have hlen := VL_length hA
  rw [Array.length_toList] at hlen
  refine calls_of_wp hf hb (Code.wp_mono ?_ (h C w (vs ++ Array.replicate (fn.ntmps - vs.size) undef) hs ?_))
  · rintro e ⟨tm', df⟩ w' ⟨x, C', E', s', h1, h2, h3, h4, h5, h6, h7⟩
    subst h5
    cases e <;> cases x <;> first | exact h1.elim | skip
    case normal.normal =>
      obtain ⟨t, ht, hR⟩ := h2
      obtain ⟨v, hr, hV⟩ := run_results h3 h4 ht
      exact ⟨rfl, v, hr, .ret t, C', s', hV, hR, h3, h6, h7⟩
    case ret.ret =>
      obtain ⟨t, ht, hR⟩ := h2
      obtain ⟨v, hr, hV⟩ := run_results h3 h4 ht
      exact ⟨rfl, v, hr, .ret t, C', s', hV, hR, h3, h6, h7⟩
    case panic.panic ch v => exact ⟨rfl, .panic v, C', s', h1, h2, h3, h6, h7⟩
    all_goals exact h2.elim
  · refine ⟨by simp; omega, fun t ht => ?_⟩
    rw [look_args _ _ _ (Nat.zero_le _), Nat.sub_zero]
    have := VL_getD hA t
    by_cases htv : t < vs.size
    · simpa [Array.getD_eq_getD_getElem?, List.getD_eq_getElem?_getD, Array.getElem?_append, htv] using this
    · rw [List.getD_eq_getElem?_getD, List.getElem?_eq_none (by omega), Option.getD_none, V]; trivial

theorem AFn.mono {P : Program} {f : FuncId} {args : List TV} {s : Res} {R R' : ARes → Res → Prop} (h : AFn P f args s R) (hR : ∀ r s, R r s → R' r s) : AFn P f args s R' :=
  fun C w vs hs hA => (h C w vs hs hA).mono fun e w' ⟨r, C', s', h1, h2, h3⟩ => ⟨r, C', s', h1, hR _ _ h2, h3⟩

/-- What is beside goes on as it was. -/
theorem AFn.frame {P : Program} {f : FuncId} {args : List TV} {s fr : Res} {R : ARes → Res → Prop} (h : AFn P f args s R) : AFn P f args (s ++ fr) fun r s' => ∃ s1, s' = s1 ++ fr ∧ R r s1 := by
  intro C w vs hs hA
  have hs1 : Sim C s w := hs.drop (List.sublist_append_left s fr)
  refine (h C w vs hs1 hA).mono ?_
  rintro e w' ⟨r, C', s', h1, h2, h3, h4, h5⟩
  have hdis : ∀ b, dom s b → ¬ dom fr b := by
    rintro b ⟨r1, m1⟩ ⟨r2, m2⟩
    have hn := hs.nodup
    rw [List.map_append, List.nodup_append] at hn
    exact hn.2.2 b (List.mem_map.2 ⟨_, m1, rfl⟩) b (List.mem_map.2 ⟨_, m2, rfl⟩) rfl
  have hfr : ∀ b r2, (b, r2) ∈ fr → Sim1 C w b r2 := fun b r2 m => hs.at_ b r2 (List.mem_append.2 (.inr m))
  refine ⟨r, C', s' ++ fr, h1, ⟨s', rfl, h2⟩, ⟨h3.ok, h3.tabs, ?_, ?_⟩, h4.mono fun b ⟨r', hb⟩ => .inl ⟨r', List.mem_append.2 (.inl hb)⟩, ?_⟩
  · rw [List.map_append, List.nodup_append]
    refine ⟨h3.nodup, (hs.drop (List.sublist_append_right s fr)).nodup, fun b hb b' hb' e => ?_⟩
    subst e
    obtain ⟨⟨b1, r1⟩, m1, e1⟩ := List.mem_map.1 hb
    obtain ⟨⟨b2, r2⟩, m2, e2⟩ := List.mem_map.1 hb'
    have e3 : b1 = b := e1
    have e4 : b2 = b := e2
    subst e3
    subst e4
    rcases h5 _ ⟨r1, m1⟩ with h | h
    · exact hdis _ h ⟨r2, m2⟩
    · have := (hfr _ r2 m2).lt; omega
  · intro b r' m
    rcases List.mem_append.1 m with m | m
    · exact h3.at_ b r' m
    · exact (hfr b r' m).ev h4 fun hd => hdis b hd ⟨r', m⟩
  · rintro b ⟨r', m⟩
    rcases List.mem_append.1 m with m | m
    · rcases h5 b ⟨r', m⟩ with ⟨r2, h⟩ | h
      · exact .inl ⟨r2, List.mem_append.2 (.inl h)⟩
      · exact .inr h
    · exact .inl ⟨r', List.mem_append.2 (.inr m)⟩

theorem AFn.perm {P : Program} {f : FuncId} {args : List TV} {s s1 : Res} {R : ARes → Res → Prop} (h : AFn P f args s R) (hp : s1.Perm s) : AFn P f args s1 R := by
  intro C w vs hs hA
  refine (h C w vs (hs.perm hp.symm) hA).mono ?_
  rintro e w' ⟨r, C', s', h1, h2, h3, h4, h5⟩
  have hd : ∀ b, dom s b → dom s1 b := fun b ⟨r, m⟩ => ⟨r, hp.mem_iff.2 m⟩
  exact ⟨r, C', s', h1, h2, h3, h4.mono fun b hb => .inl (hd b hb), fun b hb => (h5 b hb).imp (hd b) id⟩

/-- A pure function needs nothing. -/
theorem PFn.at {P : Program} {f : FuncId} {args : List TV} {r : TV} (h : PFn P f args r) (s : Res) : AFn P f args s fun x s' => x = .ret r ∧ s' = s := by
  have h1 := AFn.frame (fr := s) h
  intro C w vs hs hA
  refine (h1 C w vs hs hA).mono ?_
  rintro e w' ⟨r', C', s', e1, ⟨s1, rfl, rfl⟩, h3, h4, h5⟩
  exact ⟨.ret r, C', s, e1, ⟨rfl, rfl⟩, h3.drop (List.sublist_append_right _ _), h4, fun b hb => .inl hb⟩

end Go.Proofs.YtdkiijhmmmfciaaDoor
