/- Regions over tree values: in the order of the text, or in whatever order. -/
import Derived.Test.YtdkiijhmmmfciaaDoorTB
set_option linter.unusedVariables false
set_option linter.unusedSimpArgs false
namespace Go.Proofs.YtdkiijhmmmfciaaDoor
open Go

/-- An operation that only computes (it may make memory that nobody writes any more): its value. -/
def PureS (P : Program) (o : Oper) (τ : Operand → TV) (s : Res) (u : TV) : Prop :=
  ∀ (C : Claims) (w : World) (a : Act), Sim C s w → (∀ x ∈ o.op.operands, V C w (τ x) (a.eval x)) →
    ∀ Q, o.wp P a w (fun act w' => ∃ C' v, act = a.put o.dst v ∧ V C' w' u v ∧ Sim C' s w' ∧ Ev (dom s) C w C' w') Q

/-- A turn of what is claimed and known; nothing happens. -/
def Ghost (n : Nat) (E : Env) (s : Res) (E' : Env) (s' : Res) : Prop :=
  ∀ (C : Claims) (w : World) (tm : Array Value), Sim C s w → VE C w n E tm → ∃ C', Sim C' s' w ∧ VE C' w n E' tm ∧ Ev (dom s) C w C' w ∧ ∀ b, dom s' b → dom s b

/-- Any operation. -/
def AStep (P : Program) (n : Nat) (o : Oper) (E : Env) (s : Res) (Q : AQ) (K : Env → Res → Prop) : Prop :=
  ∀ (C : Claims) (w : World) (tm : Array Value), Sim C s w → VE C w n E tm → (∀ x ∈ o.op.operands, V C w (opTV E x) ((⟨tm, []⟩ : Act).eval x)) →
    o.wp P ⟨tm, []⟩ w (Went s C w n K) (Post n Q s C w)

theorem V_undef {C : Claims} {w : World} : V C w (.tuple []) undef := by rw [V]; exact ⟨#[], rfl, by simp [VL]⟩

def guardIs (ops : Array Oper) (o : Oper) (E : Env) (b : Bool) : Prop :=
  match o.guard with
  | none => b = true
  | some (j, want) => ∃ oj d, ops[j]? = some oj ∧ oj.dst = some d ∧ ((∃ c, look E d = .bool c ∧ b = (c == want)) ∨ (look E d = .tuple [] ∧ b = false))

/-- A new variable. -/
def AllocS (P : Program) (o : Oper) (s : Res) (cs : List TV) : Prop :=
  ∀ (C : Claims) (w : World) (a : Act), Sim C s w → ∀ Q, o.wp P a w (fun act w' => ∃ C' b, act = a.put o.dst (.pointer (some ⟨b, 0, none⟩)) ∧ Sim C' ((b, .box cs) :: s) w' ∧ Ev (dom s) C w C' w' ∧ w.heap.size ≤ b) Q
/-- i stands behind j by the edges. -/
def behind (ops : Array Oper) : Nat → Nat → Nat → Bool
  | 0, _, _ => false
  | n + 1, i, j => match ops[i]? with
    | some o => o.after.toList.any fun e => Region.binds .any e && (e.on == j || behind ops n e.on j)
    | none => false
/-- From i on each operation stands behind all that are before it. -/
def tailOk (ops : Array Oper) (i : Nat) : Bool := (List.range ops.size).all fun k => decide (k < i) || (List.range k).all fun j => behind ops ops.size k j

inductive AReg (P : Program) (n : Nat) (ops : Array Oper) : Bool → AQ → Nat → Env → Res → Prop
  | done {draw : Bool} {Q : AQ} {i : Nat} {E : Env} {s : Res} : i = ops.size → Q .normal E s → AReg P n ops draw Q i E s
  | pure {draw : Bool} {Q : AQ} {i : Nat} {E : Env} {s : Res} (o : Oper) (u : TV) : ops[i]? = some o → guardIs ops o E true → PureS P o (opTV E) s u → AReg P n ops draw Q (i + 1) (putE E o.dst u) s → AReg P n ops draw Q i E s
  | skip {draw : Bool} {Q : AQ} {i : Nat} {E : Env} {s : Res} (o : Oper) : ops[i]? = some o → guardIs ops o E false → AReg P n ops draw Q (i + 1) (putE E o.dst (.tuple [])) s → AReg P n ops draw Q i E s
  | weak {draw : Bool} {Q : AQ} {i : Nat} {E E' : Env} {s : Res} : (∀ t, look E t = look E' t) → AReg P n ops draw Q i E' s → AReg P n ops draw Q i E s
  | ghost {draw : Bool} {Q : AQ} {i : Nat} {E E' : Env} {s s' : Res} : draw = false → Ghost n E s E' s' → AReg P n ops draw Q i E' s' → AReg P n ops draw Q i E s
  | tail {draw : Bool} {Q : AQ} {i : Nat} {E : Env} {s : Res} : draw = true → i ≤ ops.size → tailOk ops i = true → AReg P n ops false Q i E s → AReg P n ops draw Q i E s
  | fresh {draw : Bool} {Q : AQ} {i : Nat} {E : Env} {s : Res} (o : Oper) (d : Tmp) (cs : List TV) : draw = true → ops[i]? = some o → o.dst = some d → o.guard = none → AllocS P o s cs → tailOk ops (i + 1) = true → (∀ b, AReg P n ops false Q (i + 1) ((d, .ptr b 0) :: E) ((b, .box cs) :: s)) → AReg P n ops draw Q i E s
  | act {draw : Bool} {Q : AQ} {i : Nat} {E : Env} {s : Res} (o : Oper) (K : Env → Res → Prop) : draw = false → ops[i]? = some o → guardIs ops o E true → AStep P n o E s Q K → (∀ E' s', K E' s' → AReg P n ops draw Q (i + 1) E' s') → AReg P n ops draw Q i E s

theorem put_tmps {a : Act} {d : Option Tmp} {v : Value} : (a.put d v).defers = a.defers := by cases d <;> rfl
theorem yielded_of {C : Claims} {w : World} {ops : Array Oper} {tm : Array Value} {j : Nat} {oj : Oper} {d : Tmp} {c : Bool} (h1 : ops[j]? = some oj) (h2 : oj.dst = some d) (hd : d < tm.size) (h3 : V C w (.bool c) (tm.getD d undef)) : yielded ops tm j = some c := by
  rw [V] at h3
  have : tm[d]? = some (.bool c) := by rw [← h3]; simp [hd]
  simp [yielded, h1, h2, this]
theorem wanted_of {C : Claims} {w : World} {n : Nat} {ops : Array Oper} {o : Oper} {E : Env} {tm : Array Value} {b : Bool} (hsz : tm.size = n) (hE : ∀ t, t ∈ o.looksAt ops → t < n → V C w (look E t) (tm.getD t undef)) (hok : ∀ (j : Nat) (oj : Oper) (d : Tmp), ops[j]? = some oj → oj.dst = some d → d < n) (h : guardIs ops o E b) : Region.wanted o (yielded ops tm) = b := by
  unfold guardIs at h
  unfold Region.wanted
  split at h
  · rename_i hg; simp [hg, h]
  · rename_i j want hg
    obtain ⟨oj, d, h1, h2, ⟨c, h3, rfl⟩ | ⟨h3, rfl⟩⟩ := h
    · have hd := hok j oj d h1 h2
      have hV := hE d (by simp [Oper.looksAt, hg, h1, h2]) hd
      rw [h3] at hV
      rw [hg]
      have hy := yielded_of (tm := tm) h1 h2 (by rw [hsz]; exact hd) hV
      simp only [hy]
      cases c <;> cases want <;> rfl
    · have hd := hok j oj d h1 h2
      have hV := hE d (by simp [Oper.looksAt, hg, h1, h2]) hd
      rw [h3, V] at hV
      obtain ⟨vs, hv, hl⟩ := hV
      rw [hg]
      have hy : yielded ops tm j = none := by
        have : tm[d]? = some (.tuple vs) := by rw [← hv]; simp [hsz, hd]
        simp [yielded, h1, h2, this]
      simp only [hy]
      cases want <;> rfl

def opsOk (n : Nat) (ops : Array Oper) : Bool := ops.toList.all fun o => o.op.operands.toList.all (opndOk n) && match o.dst with | some d => Nat.blt d n | none => true
theorem opsOk_at {n : Nat} {ops : Array Oper} (h : opsOk n ops = true) {i : Nat} {o : Oper} (ho : ops[i]? = some o) : ∀ x ∈ o.op.operands, opndOk n x = true := by
  unfold opsOk at h
  rw [List.all_eq_true] at h
  have h1 := h o (by rw [← Array.getElem?_toList] at ho; exact List.mem_of_getElem? ho)
  rw [Bool.and_eq_true, List.all_eq_true] at h1
  exact fun x hx => h1.1 x (Array.mem_toList_iff.2 hx)
theorem opsOk_dst {n : Nat} {ops : Array Oper} (h : opsOk n ops = true) (j : Nat) (oj : Oper) (d : Tmp) (ho : ops[j]? = some oj) (hd : oj.dst = some d) : d < n := by
  unfold opsOk at h
  rw [List.all_eq_true] at h
  have h1 := h oj (by rw [← Array.getElem?_toList] at ho; exact List.mem_of_getElem? ho)
  rw [Bool.and_eq_true, hd] at h1
  simpa using h1.2

theorem AReg.seq {P : Program} {n : Nat} {ops : Array Oper} {Q : AQ} (hok : opsOk n ops = true) {i : Nat} {E : Env} {s : Res} {draw : Bool} (hdr : draw = false) (h : AReg P n ops draw Q i E s) :
    ∀ (C : Claims) (w : World) (tm : Array Value) (s0 : Res) (C0 : Claims) (w0 : World), Sim C s w → VE C w n E tm → Ev (dom s0) C0 w0 C w → (∀ b, dom s b → dom s0 b ∨ w0.heap.size ≤ b) →
      wpOps P ops (Post n Q s0 C0 w0) (List.range' i (ops.size - i)) ⟨tm, []⟩ w := by
  induction h with
  | @done _ Q i E s hi hq =>
    intro C w tm s0 C0 w0 hs hE he hf
    subst hi
    rw [Nat.sub_self]
    exact ⟨.normal, C, _, _, trivial, hq, hs, hE, rfl, he, hf⟩
  | @pure _ Q i E s o u ho hg hp _ ih =>
    intro C w tm s0 C0 w0 hs hE he hf
    have hlt : i < ops.size := (Array.getElem?_eq_some_iff.1 ho).1
    rw [show ops.size - i = (ops.size - (i + 1)) + 1 from by omega, List.range'_succ, wpOps]
    simp only [ho]
    rw [if_pos (wanted_of hE.size (fun t _ ht => hE.at_ t ht) (opsOk_dst hok) hg)]
    refine .inl (Oper.wp_mono ?_ (hp C w ⟨tm, []⟩ hs (fun x hx => V_op hE x (opsOk_at hok ho x hx)) _))
    rintro act w' ⟨C', v, rfl, hv, hs', he'⟩
    have hE' := (hE.keep he'.keep).put (a := ⟨tm, []⟩) o.dst hv
    have := ih hdr C' w' ((⟨tm, []⟩ : Act).put o.dst v).tmps s0 C0 w0 hs' hE' (he.trans he' hf) hf
    have ha : (⟨((⟨tm, []⟩ : Act).put o.dst v).tmps, []⟩ : Act) = (⟨tm, []⟩ : Act).put o.dst v := by cases o.dst <;> rfl
    rwa [ha] at this
  | @skip _ Q i E s o ho hg _ ih =>
    intro C w tm s0 C0 w0 hs hE he hf
    have hlt : i < ops.size := (Array.getElem?_eq_some_iff.1 ho).1
    rw [show ops.size - i = (ops.size - (i + 1)) + 1 from by omega, List.range'_succ, wpOps]
    simp only [ho]
    rw [if_neg (by rw [wanted_of hE.size (fun t _ ht => hE.at_ t ht) (opsOk_dst hok) hg]; simp)]
    have hE' := hE.put (a := ⟨tm, []⟩) o.dst (u := .tuple []) (v := undef) V_undef
    have := ih hdr C w ((⟨tm, []⟩ : Act).put o.dst undef).tmps s0 C0 w0 hs hE' he hf
    have ha : (⟨((⟨tm, []⟩ : Act).put o.dst undef).tmps, []⟩ : Act) = (⟨tm, []⟩ : Act).put o.dst undef := by cases o.dst <;> rfl
    rwa [ha] at this
  | weak hl _ ih =>
    intro C w tm s0 C0 w0 hs hE he hf
    exact ih hdr C w tm s0 C0 w0 hs ⟨hE.size, fun t ht => by rw [← hl]; exact hE.at_ t ht⟩ he hf
  | tail ht => rw [hdr] at ht; cases ht
  | fresh _ _ _ ht => rw [hdr] at ht; cases ht
  | ghost _ hg _ ih =>
    intro C w tm s0 C0 w0 hs hE he hf
    obtain ⟨C', h1, h2, h3, h4⟩ := hg C w tm hs hE
    exact ih hdr C' w tm s0 C0 w0 h1 h2 (he.trans h3 hf) (fun b hb => hf b (h4 b hb))
  | @act _ Q i E s o K _ ho hg hp _ ih =>
    intro C w tm s0 C0 w0 hs hE he hf
    have hlt : i < ops.size := (Array.getElem?_eq_some_iff.1 ho).1
    rw [show ops.size - i = (ops.size - (i + 1)) + 1 from by omega, List.range'_succ, wpOps]
    simp only [ho]
    rw [if_pos (wanted_of hE.size (fun t _ ht => hE.at_ t ht) (opsOk_dst hok) hg)]
    have h1 := hp C w tm hs hE (fun x hx => V_op hE x (opsOk_at hok ho x hx))
    refine .inl ?_
    have h2 : o.wp P ⟨tm, []⟩ w (wpOps P ops (Post n Q s0 C0 w0) (List.range' (i + 1) (ops.size - (i + 1)))) (Post n Q s C w) := by
      refine Oper.wp_mono ?_ h1
      rintro ⟨tm', df⟩ w' ⟨C', E', s', hk, hs', hE', hd, he', hf'⟩
      subst hd
      exact ih E' s' hk hdr C' w' tm' s0 C0 w0 hs' hE' (he.trans he' hf) (fresh_trans hf he.size hf')
    unfold Oper.wp at h2 ⊢
    generalize (execOp _ o).run P w = r at h2 ⊢
    cases r with
    | ok n w' =>
      cases n <;> simp only [Oper.upon] at h2 ⊢ <;> try exact h2
      refine Calls.mono h2 fun e w2 hh => ?_
      cases e with
      | returned v => exact hh
      | panicked ch => exact Post.trans he hf hh
      | outgrown =>
        obtain ⟨a0, w3, hq⟩ := hh
        exact ⟨a0, w3, Post.trans he hf hq⟩
    | halt x w' => cases x <;> simp only [Oper.upon] at h2 ⊢ <;> first | exact h2 | exact Post.trans he hf h2

theorem ac_region {P : Program} {n : Nat} {id : Nat} {ops : Array Oper} {E : Env} {s : Res} {Q : AQ} (hok : opsOk n ops = true) (h : AReg P n ops false Q 0 E s) : ACode P n (.region id ops false) E s Q := fun C w tm hs hE => by
  refine wp_region ?_
  rw [List.range_eq_range']
  exact h.seq hok rfl C w tm s C w hs hE (Ev.refl _ _ _) (fun _ h => .inl h)

/-! ### A region that draws its order: all of its operations only compute -/
def hasDst (ops : Array Oper) (j : Nat) (t : Tmp) : Bool := match ops[j]? with | some o => o.dst == some t | none => false
/-- No place is written twice; what an operation looks at is written before it, or behind it, by the edges. -/
def regOk (ops : Array Oper) : Bool :=
  (List.range ops.size).all fun i => (List.range ops.size).all fun j =>
    (i == j || match (ops[i]?).bind (·.dst) with | some d => !hasDst ops j d | none => true) &&
    match ops[i]? with
    | some o => (o.looksAt ops).all fun t => !hasDst ops j t || (if j < i then behind ops ops.size i j else decide (i < j) && behind ops ops.size j i)
    | none => true

/-- Where the operations that may come in whatever order end. -/
def RunEnd (P : Program) (n : Nat) (ops : Array Oper) (Q : AQ) (L : Nat) (E : Env) (s : Res) : Prop :=
  (tailOk ops L = true ∧ AReg P n ops false Q L E s) ∨ ∃ (o : Oper) (d : Tmp) (cs : List TV), ops[L]? = some o ∧ o.dst = some d ∧ o.guard = none ∧ AllocS P o s cs ∧ tailOk ops (L + 1) = true ∧ ∀ b, AReg P n ops false Q (L + 1) ((d, .ptr b 0) :: E) ((b, .box cs) :: s)
theorem AReg.run {P : Program} {n : Nat} {ops : Array Oper} {Q : AQ} {i : Nat} {E : Env} {s : Res} {draw : Bool} (hdr : draw = true) (h : AReg P n ops draw Q i E s) :
    ∃ (Es : Nat → Env) (L : Nat), i ≤ L ∧ L ≤ ops.size ∧ (∀ t, look (Es i) t = look E t) ∧ RunEnd P n ops Q L (Es L) s ∧ (∀ (j : Nat) (o : Oper), i ≤ j → j < L → ops[j]? = some o → (guardIs ops o (Es j) true ∧ ∃ u, PureS P o (opTV (Es j)) s u ∧ ∀ t, look (Es (j + 1)) t = look (putE (Es j) o.dst u) t) ∨ (guardIs ops o (Es j) false ∧ ∀ t, look (Es (j + 1)) t = look (putE (Es j) o.dst (.tuple [])) t)) := by
  induction h with
  | @done _ Q i E s hi hq => exact ⟨fun _ => E, i, Nat.le_refl _, Nat.le_of_eq hi, fun _ => rfl, .inl ⟨by unfold tailOk; rw [List.all_eq_true]; intro k hk; rw [List.mem_range] at hk; simp [show k < i by omega], .done hi hq⟩, fun j o h1 h2 => by omega⟩
  | @tail _ Q i E s hd hle ht hr _ => exact ⟨fun _ => E, i, Nat.le_refl _, hle, fun _ => rfl, .inl ⟨ht, hr⟩, fun j o h1 h2 => by omega⟩
  | @fresh _ Q i E s o d cs hd ho h1 h2 h3 h4 hr _ => exact ⟨fun _ => E, i, Nat.le_refl _, Nat.le_of_lt (Array.getElem?_eq_some_iff.1 ho).1, fun _ => rfl, .inr ⟨o, d, cs, ho, h1, h2, h3, h4, hr⟩, fun j o h1 h2 => by omega⟩
  | @pure _ Q i E s o u ho hg hp _ ih =>
    obtain ⟨Es, L, hL, hLs, h1, h2, h3⟩ := ih hdr
    refine ⟨fun j => if j = i then E else Es j, L, by omega, hLs, by simp, by simpa [show L ≠ i from by omega] using h2, fun j o' hj hjL ho' => ?_⟩
    by_cases hji : j = i
    · subst hji
      rw [ho] at ho'; injection ho' with ho'; subst ho'
      exact .inl ⟨by simpa using hg, u, by simpa using hp, fun t => by simp [h1]⟩
    · have := h3 j o' (by omega) hjL ho'
      simpa [hji, show j + 1 ≠ i from by omega] using this
  | @skip _ Q i E s o ho hg _ ih =>
    obtain ⟨Es, L, hL, hLs, h1, h2, h3⟩ := ih hdr
    refine ⟨fun j => if j = i then E else Es j, L, by omega, hLs, by simp, by simpa [show L ≠ i from by omega] using h2, fun j o' hj hjL ho' => ?_⟩
    by_cases hji : j = i
    · subst hji
      rw [ho] at ho'; injection ho' with ho'; subst ho'
      exact .inr ⟨by simpa using hg, fun t => by simp [h1]⟩
    · have := h3 j o' (by omega) hjL ho'
      simpa [hji, show j + 1 ≠ i from by omega] using this
  | weak hl _ ih =>
    obtain ⟨Es, L, hL, hLs, h1, h2, h3⟩ := ih hdr
    exact ⟨Es, L, hL, hLs, fun t => (h1 t).trans (hl t).symm, h2, h3⟩
  | act o K hd' => rw [hdr] at hd'; cases hd'
  | ghost hd' => rw [hdr] at hd'; cases hd'

theorem putE_get {E : Env} {d : Option Tmp} {u : TV} {t : Nat} (h : d ≠ some t) : look (putE E d u) t = look E t := by
  cases d with
  | none => rfl
  | some d => simp only [putE]; rw [look_cons, if_neg (fun e => h (by rw [e]))]

/-- Each tmp as it stands when the listed operations are over. -/
structure Held (n : Nat) (ops : Array Oper) (Es : Nat → Env) (listed : Array Bool) (C : Claims) (w : World) (a : Act) : Prop where
  size : a.tmps.size = n
  defers : a.defers = []
  done : ∀ (j : Nat) (o : Oper) (t : Tmp), listed.getD j false = true → ops[j]? = some o → o.dst = some t → t < n → V C w (look (Es (j + 1)) t) (a.tmps.getD t undef)
  rest : ∀ (t : Tmp), (∀ (j : Nat) (o : Oper), listed.getD j false = true → ops[j]? = some o → o.dst ≠ some t) → t < n → V C w (look (Es 0) t) (a.tmps.getD t undef)
  down : ∀ (j : Nat) (o : Oper) (e : Edge), listed.getD j false = true → ops[j]? = some o → e ∈ o.after.toList → Region.binds .any e = true → listed.getD e.on false = true
  lsize : listed.size = ops.size

theorem behind_listed {ops : Array Oper} {listed : Array Bool} (down : ∀ (j : Nat) (o : Oper) (e : Edge), listed.getD j false = true → ops[j]? = some o → e ∈ o.after.toList → Region.binds .any e = true → listed.getD e.on false = true) :
    ∀ (n i j : Nat), behind ops n i j = true → (∀ (o : Oper) (e : Edge), ops[i]? = some o → e ∈ o.after.toList → Region.binds .any e = true → listed.getD e.on false = true) → listed.getD j false = true
  | 0, i, j, h, _ => by simp [behind] at h
  | n + 1, i, j, h, hi => by
    simp only [behind] at h
    split at h
    · rename_i o ho
      rw [List.any_eq_true] at h
      obtain ⟨e, he, hb⟩ := h
      simp only [Bool.and_eq_true, Bool.or_eq_true, beq_iff_eq] at hb
      have h1 := hi o e ho he hb.1
      rcases hb.2 with h2 | h2
      · exact h2 ▸ h1
      · exact behind_listed down n e.on j h2 fun o' e' ho' he' hb' => down e.on o' e' h1 ho' he' hb'
    · cases h

theorem regOk_dst {ops : Array Oper} (h : regOk ops = true) {i j : Nat} {oi oj : Oper} {t : Tmp} (hi : ops[i]? = some oi) (hj : ops[j]? = some oj) (di : oi.dst = some t) (dj : oj.dst = some t) : i = j := by
  unfold regOk at h
  rw [List.all_eq_true] at h
  have h1 := h i (List.mem_range.2 (Array.getElem?_eq_some_iff.1 hi).1)
  rw [List.all_eq_true] at h1
  have h2 := h1 j (List.mem_range.2 (Array.getElem?_eq_some_iff.1 hj).1)
  simp only [hi, Option.bind_some, di, Bool.and_eq_true, Bool.or_eq_true, beq_iff_eq] at h2
  rcases h2.1 with h3 | h3
  · exact h3
  · simp [hasDst, hj, dj] at h3
theorem regOk_look {ops : Array Oper} (h : regOk ops = true) {i j : Nat} {oi oj : Oper} {t : Tmp} (hi : ops[i]? = some oi) (hj : ops[j]? = some oj) (ht : t ∈ oi.looksAt ops) (dj : oj.dst = some t) :
    (j < i ∧ behind ops ops.size i j = true) ∨ (i < j ∧ behind ops ops.size j i = true) := by
  unfold regOk at h
  rw [List.all_eq_true] at h
  have h1 := h i (List.mem_range.2 (Array.getElem?_eq_some_iff.1 hi).1)
  rw [List.all_eq_true] at h1
  have h2 := h1 j (List.mem_range.2 (Array.getElem?_eq_some_iff.1 hj).1)
  simp only [hi, Option.bind_some, Bool.and_eq_true] at h2
  have h3 := h2.2
  rw [List.all_eq_true] at h3
  have h4 := h3 t ht
  simp only [hasDst, hj, dj, beq_self_eq_true, Bool.not_true, Bool.false_or] at h4
  split at h4
  · exact .inl ⟨by assumption, h4⟩
  · simp only [Bool.and_eq_true, decide_eq_true_eq] at h4; exact .inr h4

theorem set_listed {listed : Array Bool} {i j : Nat} (h : (listed.setIfInBounds i true).getD j false = true) : j = i ∨ listed.getD j false = true := by
  by_cases hij : i = j
  · exact .inl hij.symm
  · rw [getD_set_ne false hij] at h; exact .inr h

/-- An operation's edges lead to earlier ones. -/
def edgesDown (ops : Array Oper) : Bool := (List.range ops.size).all fun i => match ops[i]? with
  | some o => o.after.toList.all fun e => decide (e.on < i)
  | none => true
theorem all_listed {ops : Array Oper} {listed : Array Bool} (hdn : edgesDown ops = true) (hl : listed.size = ops.size) (hr : Region.ready .any ops listed = []) : ∀ j, j < ops.size → listed.getD j false = true := by
  intro j
  induction j using Nat.strongRecOn with
  | _ j ih =>
    intro hj
    cases hd : listed.getD j false with
    | true => rfl
    | false =>
      exfalso
      have hm : j ∈ Region.ready .any ops listed := by
        refine mem_ready.2 ⟨by simp [show j < listed.size by omega] at hd ⊢; exact hd, ops[j], Array.getElem?_eq_getElem hj, fun e he hb => ?_⟩
        have h1 : e.on < j := by
          unfold edgesDown at hdn
          rw [List.all_eq_true] at hdn
          have h2 := hdn j (List.mem_range.2 hj)
          simp only [Array.getElem?_eq_getElem hj] at h2
          rw [List.all_eq_true] at h2
          simpa using h2 e (Array.mem_toList_iff.2 he)
        exact ih e.on h1 (by omega)
      rw [hr] at hm; simp at hm

section
variable {P : Program} {ops : Array Oper} {s : Res} {Es : Nat → Env}
variable {L : Nat} {X : Nat → Prop} (hrun : ∀ (j : Nat) (o : Oper), 0 ≤ j → j < L → ops[j]? = some o → (guardIs ops o (Es j) true ∧ ∃ u, (¬ X j → PureS P o (opTV (Es j)) s u) ∧ ∀ t, look (Es (j + 1)) t = look (putE (Es j) o.dst u) t) ∨ (guardIs ops o (Es j) false ∧ ∀ t, look (Es (j + 1)) t = look (putE (Es j) o.dst (.tuple [])) t))
include hrun
/-- A place that none of the operations from m to n writes. -/
theorem Es_same {t : Tmp} (hLs : L ≤ ops.size) (m n : Nat) (hmn : m ≤ n) (hn : n ≤ L) (h : ∀ (j : Nat) (o : Oper), m ≤ j → j < n → ops[j]? = some o → o.dst ≠ some t) : look (Es n) t = look (Es m) t := by
  induction n with
  | zero => obtain rfl : m = 0 := by omega
            rfl
  | succ n ih =>
    by_cases hm : m = n + 1
    · rw [hm]
    · have ho : ops[n]? = some ops[n] := Array.getElem?_eq_getElem (by omega)
      have hd := h n _ (by omega) (by omega) ho
      rw [← ih (by omega) (by omega) fun j o h1 h2 => h j o h1 (by omega)]
      rcases hrun n _ (Nat.zero_le _) (by omega) ho with ⟨_, u, _, he⟩ | ⟨_, he⟩ <;> rw [he, putE_get hd]

/-- What an operation looks at stands as the text's order has it. -/
theorem Held.look_ {nt : Nat} (hLs : L ≤ ops.size) (hreg : regOk ops = true) {listed : Array Bool} {C : Claims} {w : World} {a : Act} (hh : Held nt ops Es listed C w a) {i : Nat} {o : Oper} (hiL : i < L) (ho : ops[i]? = some o) (hi : listed.getD i false = false)
    (hready : ∀ e ∈ o.after.toList, Region.binds .any e = true → listed.getD e.on false = true) {t : Tmp} (ht : t ∈ o.looksAt ops) (htn : t < nt) : V C w (look (Es i) t) (a.tmps.getD t undef) := by
  have hlt : i < ops.size := (Array.getElem?_eq_some_iff.1 ho).1
  by_cases hex : ∃ (j : Nat) (oj : Oper), ops[j]? = some oj ∧ oj.dst = some t
  · obtain ⟨j, oj, hj, dj⟩ := hex
    have hjlt : j < ops.size := (Array.getElem?_eq_some_iff.1 hj).1
    rcases regOk_look hreg ho hj ht dj with ⟨hji, hb⟩ | ⟨hij, hb⟩
    · have hl := behind_listed hh.down _ i j hb fun o' e ho' he hbd => by rw [ho] at ho'; injection ho' with ho'; subst ho'; exact hready e he hbd
      have hs := Es_same hrun (t := t) hLs (j + 1) i (by omega) (by omega) fun k ok h1 h2 hk hd => by
        have := regOk_dst hreg hj hk dj hd; omega
      rw [hs]
      exact hh.done j oj t hl hj dj htn
    · have hl : listed.getD j false = false := by
        cases h : listed.getD j false with
        | false => rfl
        | true =>
          have := behind_listed hh.down _ j i hb fun o' e ho' he hbd => hh.down j o' e h ho' he hbd
          rw [hi] at this; cases this
      have hs := Es_same hrun (t := t) hLs 0 i (by omega) (by omega) fun k ok h1 h2 hk hd => by
        have := regOk_dst hreg hj hk dj hd; omega
      rw [hs]
      refine hh.rest t (fun k ok hk hok hd => ?_) htn
      have := regOk_dst hreg hj hok dj hd
      subst this
      rw [hl] at hk; cases hk
  · have hs := Es_same hrun (t := t) hLs 0 i (by omega) (by omega) fun k ok h1 h2 hk hd => hex ⟨k, ok, hk, hd⟩
    rw [hs]
    exact hh.rest t (fun k ok _ hok hd => hex ⟨k, ok, hok, hd⟩) htn

end

theorem PureS.frame {P : Program} {o : Oper} {τ : Operand → TV} {s : Res} {u : TV} {x : Nat × RS} (h : PureS P o τ s u) : PureS P o τ (x :: s) u := by
  intro C w a hs hx Q
  have hs0 : Sim C s w := hs.drop (List.sublist_cons_self _ _)
  refine Oper.wp_mono ?_ (h C w a hs0 hx Q)
  rintro act w' ⟨C', v, h1, h2, h3, h4⟩
  refine ⟨C', v, h1, h2, ⟨h3.ok, h3.tabs, ?_, fun b r hm => ?_⟩, h4.mono fun b ⟨r, hb⟩ => .inl ⟨r, List.mem_cons_of_mem _ hb⟩⟩
  · exact hs.nodup
  · rcases List.mem_cons.1 hm with e | hm
    · subst e
      refine (hs.at_ _ _ (List.mem_cons_self ..)).ev h4 fun ⟨r', hb⟩ => ?_
      have := hs.nodup
      rw [List.map_cons, List.nodup_cons] at this
      exact this.1 (List.mem_map.2 ⟨_, hb, rfl⟩)
    · exact h3.at_ b r hm
theorem oper_monoQ {P : Program} {o : Oper} {a : Act} {w : World} {K : Act → World → Prop} {Q Q' : Exit → Act → World → Prop} (h : ∀ e a w, Q e a w → Q' e a w) (hh : o.wp P a w K Q) : o.wp P a w K Q' := by
  unfold Oper.wp at *
  generalize (execOp a.eval o).run P w = r at *
  cases r with
  | ok n w' =>
    cases n <;> simp only [Oper.upon] at hh ⊢ <;> try exact hh
    refine Calls.mono hh fun e w2 he => ?_
    cases e with
    | returned v => exact he
    | panicked ch => exact h _ _ _ he
    | outgrown => obtain ⟨a0, w3, hq⟩ := he; exact ⟨a0, w3, h _ _ _ hq⟩
  | halt x w' => cases x <;> simp only [Oper.upon] at hh ⊢ <;> first | exact hh | exact h _ _ _ hh
theorem wpAny_monoQ {P : Program} {ops : Array Oper} {Q Q' : Exit → Act → World → Prop} (h : ∀ e a w, Q e a w → Q' e a w) : ∀ (fuel : Nat) (listed : Array Bool) (a : Act) (w : World), wpAny P .any ops Q fuel listed a w → wpAny P .any ops Q' fuel listed a w
  | 0, _, _, _, hh => ⟨hh.1, h _ _ _ hh.2⟩
  | fuel + 1, listed, a, w, hh => by
    refine ⟨fun hr => h _ _ _ (hh.1 hr), fun i hi => ?_⟩
    have h1 := wpOp_mono (fun a w => wpAny_monoQ h fuel (listed.setIfInBounds i true) a w) (hh.2 i hi)
    unfold wpOp at h1 ⊢
    split
    · rename_i ho; simpa only [ho] using h1
    · rename_i o ho
      simp only [ho] at h1
      split
      · rename_i hw
        simp only [hw, if_true] at h1
        rcases h1 with h1 | ⟨h1, a0, w3, hq⟩
        · exact .inl (oper_monoQ h h1)
        · exact .inr ⟨h1, a0, w3, h _ _ _ hq⟩
      · rename_i hw
        simp only [hw] at h1
        exact h1

section
variable {P : Program} {ops : Array Oper} {s : Res} {Es : Nat → Env}
theorem getD_put_ne {a : Act} {d : Option Tmp} {v : Value} {t : Tmp} (h : d ≠ some t) : (a.put d v).tmps.getD t undef = a.tmps.getD t undef := by
  cases d with
  | none => rfl
  | some d =>
    have hne : d ≠ t := fun e => h (by rw [e])
    simp [Act.put, Array.getD_eq_getD_getElem?, Array.getElem?_setIfInBounds_ne hne]
theorem getD_put_eq {a : Act} {v : Value} {t : Tmp} (h : t < a.tmps.size) : (a.put (some t) v).tmps.getD t undef = v := by
  simp [Act.put, Array.getD_eq_getD_getElem?, h]

/-- The operation i is over: u stands in its place. -/
theorem Held.put {nt : Nat} (hreg : regOk ops = true) {listed : Array Bool} {C C' : Claims} {w w' : World} {a : Act} (hh : Held nt ops Es listed C w a) {i : Nat} {o : Oper} (ho : ops[i]? = some o) (hi : listed.getD i false = false)
    (hready : ∀ e ∈ o.after.toList, Region.binds .any e = true → listed.getD e.on false = true) {u : TV} {v : Value} (he : ∀ t, look (Es (i + 1)) t = look (putE (Es i) o.dst u) t) (hv : V C' w' u v) (hk : Keep C w C' w') :
    Held nt ops Es (listed.setIfInBounds i true) C' w' (a.put o.dst v) := by
  have hlt : i < ops.size := (Array.getElem?_eq_some_iff.1 ho).1
  have hl := hh.lsize
  refine ⟨?_, by rw [put_tmps]; exact hh.defers, ?_, ?_, ?_, by simp [hl]⟩
  · cases o.dst <;> simp [Act.put, hh.size]
  · intro j oj t hlj hj dj htn
    rcases set_listed hlj with rfl | hlj
    · rw [ho] at hj; injection hj with hj; subst hj
      rw [he, dj]
      simp only [putE]
      rw [look_cons, if_pos rfl, getD_put_eq (by rw [hh.size]; exact htn)]
      exact hv
    · have hne : j ≠ i := fun e => by rw [e, hi] at hlj; cases hlj
      have hd : o.dst ≠ some t := fun hd => hne (regOk_dst hreg hj ho dj hd)
      rw [getD_put_ne hd]
      exact V_keep hk _ _ (hh.done j oj t hlj hj dj htn)
  · intro t hn htn
    have hd : o.dst ≠ some t := hn i o (by simp [hl, hlt]) ho
    rw [getD_put_ne hd]
    exact V_keep hk _ _ (hh.rest t (fun j oj hlj hj => hn j oj (getD_set_true hlj) hj) htn)
  · intro j oj e hlj hj hej hb
    rcases set_listed hlj with rfl | hlj
    · rw [ho] at hj; injection hj with hj; subst hj; exact getD_set_true (hready e hej hb)
    · exact getD_set_true (hh.down j oj e hlj hj hej hb)

section
variable {L : Nat} {X : Nat → Prop} (hrun : ∀ (j : Nat) (o : Oper), 0 ≤ j → j < L → ops[j]? = some o → (guardIs ops o (Es j) true ∧ ∃ u, (¬ X j → PureS P o (opTV (Es j)) s u) ∧ ∀ t, look (Es (j + 1)) t = look (putE (Es j) o.dst u) t) ∨ (guardIs ops o (Es j) false ∧ ∀ t, look (Es (j + 1)) t = look (putE (Es j) o.dst (.tuple [])) t))
include hrun
theorem Es_end {nt : Nat} (hLs : L ≤ ops.size) (hreg : regOk ops = true) {listed : Array Bool} {C : Claims} {w : World} {a : Act} (hh : Held nt ops Es listed C w a) (hall : ∀ j, j < L → listed.getD j false = true) (hno : ∀ j, L ≤ j → listed.getD j false = false) : VE C w nt (Es L) a.tmps := by
  refine ⟨hh.size, fun t ht => ?_⟩
  by_cases hex : ∃ (j : Nat) (oj : Oper), j < L ∧ ops[j]? = some oj ∧ oj.dst = some t
  · obtain ⟨j, oj, hjL, hj, dj⟩ := hex
    have hs := Es_same hrun (t := t) hLs (j + 1) L (by omega) (Nat.le_refl _) fun k ok h1 h2 hk hd => by
      have := regOk_dst hreg hj hk dj hd; omega
    rw [hs]
    exact hh.done j oj t (hall j hjL) hj dj ht
  · have hs := Es_same hrun (t := t) hLs 0 L (by omega) (Nat.le_refl _) fun k ok h1 h2 hk hd => hex ⟨k, ok, h2, hk, hd⟩
    rw [hs]
    refine hh.rest t (fun j ok hlj hok hd => ?_) ht
    by_cases hjL : j < L
    · exact hex ⟨j, ok, hjL, hok, hd⟩
    · rw [hno j (by omega)] at hlj; cases hlj
end

theorem tail_at {ops : Array Oper} {i k j : Nat} (h : tailOk ops i = true) (hk : k < ops.size) (hik : i ≤ k) (hj : j < k) : behind ops ops.size k j = true := by
  unfold tailOk at h
  rw [List.all_eq_true] at h
  have h1 := h k (List.mem_range.2 hk)
  rw [Bool.or_eq_true, decide_eq_true_eq, List.all_eq_true] at h1
  rcases h1 with h1 | h1
  · omega
  · exact h1 j (List.mem_range.2 hj)
/-- What is ready stands behind what is listed alone. -/
theorem ready_tail {ops : Array Oper} {i k : Nat} {listed : Array Bool} (hl : listed.size = ops.size) (ht : tailOk ops i = true) (hik : i ≤ k) (hlist : ∀ j, listed.getD j false = decide (j < k)) (down : ∀ (j : Nat) (o : Oper) (e : Edge), listed.getD j false = true → ops[j]? = some o → e ∈ o.after.toList → Region.binds .any e = true → listed.getD e.on false = true)
    {x : Nat} (hx : x ∈ Region.ready .any ops listed) : x = k := by
  obtain ⟨h0, o, ho, hready⟩ := mem_ready.1 hx
  have hlt : x < ops.size := (Array.getElem?_eq_some_iff.1 ho).1
  have h0' : listed.getD x false = false := by simp [show x < listed.size by omega] at h0 ⊢; exact h0
  have hkx : k ≤ x := by
    rw [hlist] at h0'
    have := of_decide_eq_false h0'
    omega
  rcases Nat.lt_or_ge k x with h | h
  · have hb := tail_at ht hlt (by omega) h
    have := behind_listed down _ x k hb fun o' e ho' he hbd => by rw [ho] at ho'; injection ho' with ho'; subst ho'; exact hready e (Array.mem_toList_iff.1 he) hbd
    rw [hlist] at this
    have := of_decide_eq_true this
    omega
  · omega
theorem listed_step {ops : Array Oper} {k : Nat} {listed : Array Bool} (hl : listed.size = ops.size) (hk : k < ops.size) (hlist : ∀ j, listed.getD j false = decide (j < k)) : ∀ j, (listed.setIfInBounds k true).getD j false = decide (j < k + 1) := fun j => by
  by_cases h : j = k
  · subst h; simp [show j < listed.size by omega]
  · rw [getD_set_ne false (Ne.symm h), hlist]
    congr 1
    exact propext ⟨fun h => by omega, fun h => by omega⟩

theorem AReg.tailWp {P : Program} {n : Nat} {ops : Array Oper} {Q : AQ} (hok : opsOk n ops = true) (hdn : edgesDown ops = true) {i0 : Nat} (ht : tailOk ops i0 = true) {i : Nat} {E : Env} {s : Res} {draw : Bool} (hdr : draw = false) (h : AReg P n ops draw Q i E s) :
    i0 ≤ i → ∀ (fuel : Nat) (listed : Array Bool) (C : Claims) (w : World) (tm : Array Value) (s0 : Res) (C0 : Claims) (w0 : World), Sim C s w → VE C w n E tm → Ev (dom s0) C0 w0 C w → (∀ b, dom s b → dom s0 b ∨ w0.heap.size ≤ b) →
      listed.size = ops.size → (∀ j, listed.getD j false = decide (j < i)) → ops.size ≤ i + fuel → wpAny P .any ops (Post n Q s0 C0 w0) fuel listed ⟨tm, []⟩ w := by
  have downOf : ∀ (k : Nat) (listed : Array Bool), (∀ j, listed.getD j false = decide (j < k)) → ∀ (j : Nat) (o : Oper) (e : Edge), listed.getD j false = true → ops[j]? = some o → e ∈ o.after.toList → Region.binds .any e = true → listed.getD e.on false = true := by
    intro k listed hlist j o e hj ho he hb
    rw [hlist] at hj ⊢
    have h1 := of_decide_eq_true hj
    have h2 : e.on < j := by
      unfold edgesDown at hdn
      rw [List.all_eq_true] at hdn
      have h2 := hdn j (List.mem_range.2 (Array.getElem?_eq_some_iff.1 ho).1)
      simp only [ho] at h2
      rw [List.all_eq_true] at h2
      simpa using h2 e he
    exact decide_eq_true (by omega)
  have nodone : ∀ (k fuel : Nat) (listed : Array Bool) (a : Act) (w : World) (QQ : Exit → Act → World → Prop), i0 ≤ k → k < ops.size → listed.size = ops.size → (∀ j, listed.getD j false = decide (j < k)) → ops.size ≤ k + fuel →
      (∀ fuel', ops.size ≤ k + 1 + fuel' → wpOp P ops QQ k (wpAny P .any ops QQ fuel' (listed.setIfInBounds k true)) a w) → wpAny P .any ops QQ fuel listed a w := by
    intro k fuel listed a w QQ hk hks hl hlist hf hstep
    cases fuel with
    | zero => omega
    | succ fuel =>
      refine ⟨fun hr => ?_, fun x hx => ?_⟩
      · have := all_listed hdn hl hr k hks
        rw [hlist] at this
        have := of_decide_eq_true this
        omega
      · obtain rfl := ready_tail hl ht hk hlist (downOf _ _ hlist) hx
        exact hstep fuel (by omega)
  induction h with
  | @done _ Q i E s hi hq =>
    intro h0 fuel listed C w tm s0 C0 w0 hs hE he hf hl hlist hfu
    subst hi
    have hP : Post n Q s0 C0 w0 .normal ⟨tm, []⟩ w := ⟨.normal, C, _, _, trivial, hq, hs, hE, rfl, he, hf⟩
    have hno : Region.ready .any ops listed = [] := List.eq_nil_iff_forall_not_mem.2 fun x hx => by
      obtain ⟨h1, o, ho, _⟩ := mem_ready.1 hx
      have hlt : x < ops.size := (Array.getElem?_eq_some_iff.1 ho).1
      have := hlist x
      simp [show x < listed.size by omega] at h1 this
      rw [h1] at this
      have := of_decide_eq_false this.symm
      omega
    cases fuel with
    | zero => exact ⟨hno, hP⟩
    | succ fuel => exact ⟨fun _ => hP, fun x hx => by rw [hno] at hx; simp at hx⟩
  | @pure _ Q i E s o u ho hg hp _ ih =>
    intro h0 fuel listed C w tm s0 C0 w0 hs hE he hf hl hlist hfu
    have hlt : i < ops.size := (Array.getElem?_eq_some_iff.1 ho).1
    refine nodone i fuel listed _ w _ h0 hlt hl hlist hfu fun fuel' hfu' => ?_
    unfold wpOp
    simp only [ho]
    rw [if_pos (wanted_of hE.size (fun t _ ht => hE.at_ t ht) (opsOk_dst hok) hg)]
    refine .inl (Oper.wp_mono ?_ (hp C w ⟨tm, []⟩ hs (fun x hx => V_op hE x (opsOk_at hok ho x hx)) _))
    rintro act w' ⟨C', v, rfl, hv, hs', he'⟩
    have hE' := (hE.keep he'.keep).put (a := ⟨tm, []⟩) o.dst hv
    have := ih hdr (by omega) fuel' (listed.setIfInBounds i true) C' w' ((⟨tm, []⟩ : Act).put o.dst v).tmps s0 C0 w0 hs' hE' (he.trans he' hf) hf (by simp [hl]) (listed_step hl hlt hlist) hfu'
    have ha : (⟨((⟨tm, []⟩ : Act).put o.dst v).tmps, []⟩ : Act) = (⟨tm, []⟩ : Act).put o.dst v := by cases o.dst <;> rfl
    rwa [ha] at this
  | @skip _ Q i E s o ho hg _ ih =>
    intro h0 fuel listed C w tm s0 C0 w0 hs hE he hf hl hlist hfu
    have hlt : i < ops.size := (Array.getElem?_eq_some_iff.1 ho).1
    refine nodone i fuel listed _ w _ h0 hlt hl hlist hfu fun fuel' hfu' => ?_
    unfold wpOp
    simp only [ho]
    rw [if_neg (by rw [wanted_of hE.size (fun t _ ht => hE.at_ t ht) (opsOk_dst hok) hg]; simp)]
    have hE' := hE.put (a := ⟨tm, []⟩) o.dst (u := .tuple []) (v := undef) V_undef
    have := ih hdr (by omega) fuel' (listed.setIfInBounds i true) C w ((⟨tm, []⟩ : Act).put o.dst undef).tmps s0 C0 w0 hs hE' he hf (by simp [hl]) (listed_step hl hlt hlist) hfu'
    have ha : (⟨((⟨tm, []⟩ : Act).put o.dst undef).tmps, []⟩ : Act) = (⟨tm, []⟩ : Act).put o.dst undef := by cases o.dst <;> rfl
    rwa [ha] at this
  | weak hl _ ih =>
    intro h0 fuel listed C w tm s0 C0 w0 hs hE
    exact ih hdr h0 fuel listed C w tm s0 C0 w0 hs ⟨hE.size, fun t ht => by rw [← hl]; exact hE.at_ t ht⟩
  | tail hd => rw [hdr] at hd; cases hd
  | fresh _ _ _ hd => rw [hdr] at hd; cases hd
  | ghost _ hg _ ih =>
    intro h0 fuel listed C w tm s0 C0 w0 hs hE he hf
    obtain ⟨C', h1, h2, h3, h4⟩ := hg C w tm hs hE
    exact ih hdr h0 fuel listed C' w tm s0 C0 w0 h1 h2 (he.trans h3 hf) (fun b hb => hf b (h4 b hb))
  | @act _ Q i E s o K _ ho hg hp _ ih =>
    intro h0 fuel listed C w tm s0 C0 w0 hs hE he hf hl hlist hfu
    have hlt : i < ops.size := (Array.getElem?_eq_some_iff.1 ho).1
    refine nodone i fuel listed _ w _ h0 hlt hl hlist hfu fun fuel' hfu' => ?_
    unfold wpOp
    simp only [ho]
    rw [if_pos (wanted_of hE.size (fun t _ ht => hE.at_ t ht) (opsOk_dst hok) hg)]
    have h1 := hp C w tm hs hE (fun x hx => V_op hE x (opsOk_at hok ho x hx))
    refine .inl ?_
    have h2 : o.wp P ⟨tm, []⟩ w (wpAny P .any ops (Post n Q s0 C0 w0) fuel' (listed.setIfInBounds i true)) (Post n Q s C w) := by
      refine Oper.wp_mono ?_ h1
      rintro ⟨tm', df⟩ w' ⟨C', E', s', hk, hs', hE', hd, he', hf'⟩
      subst hd
      exact ih E' s' hk hdr (by omega) fuel' _ C' w' tm' s0 C0 w0 hs' hE' (he.trans he' hf) (fresh_trans hf he.size hf') (by simp [hl]) (listed_step hl hlt hlist) hfu'
    unfold Oper.wp at h2 ⊢
    generalize (execOp _ o).run P w = r at h2 ⊢
    cases r with
    | ok n w' =>
      cases n <;> simp only [Oper.upon] at h2 ⊢ <;> try exact h2
      refine Calls.mono h2 fun e w2 hh => ?_
      cases e with
      | returned v => exact hh
      | panicked ch => exact Post.trans he hf hh
      | outgrown =>
        obtain ⟨a0, w3, hq⟩ := hh
        exact ⟨a0, w3, Post.trans he hf hq⟩
    | halt x w' => cases x <;> simp only [Oper.upon] at h2 ⊢ <;> first | exact h2 | exact Post.trans he hf h2

section
variable {L : Nat} {X : Nat → Prop} (hrun : ∀ (j : Nat) (o : Oper), 0 ≤ j → j < L → ops[j]? = some o → (guardIs ops o (Es j) true ∧ ∃ u, (¬ X j → PureS P o (opTV (Es j)) s u) ∧ ∀ t, look (Es (j + 1)) t = look (putE (Es j) o.dst u) t) ∨ (guardIs ops o (Es j) false ∧ ∀ t, look (Es (j + 1)) t = look (putE (Es j) o.dst (.tuple [])) t))
include hrun
theorem Held.wp {nt : Nat} (hLs : L ≤ ops.size) (ht : tailOk ops L = true) (hreg : regOk ops = true) (hdn : edgesDown ops = true) (hok : opsOk nt ops = true) {Q : AQ} (hq : AReg P nt ops false Q L (Es L) s) (C0 : Claims) (w0 : World) :
    ∀ (fuel : Nat) (listed : Array Bool) (todo : List Nat) (C : Claims) (w : World) (a : Act), Held nt ops Es listed C w a → Sim C s w → Ev (dom s) C0 w0 C w →
      (∀ j, j < L → listed.getD j false = true ∨ j ∈ todo) → (∀ j, L ≤ j → listed.getD j false = false) → (∀ j, X j → listed.getD j false = true) → todo.length + (ops.size - L) ≤ fuel → wpAny P .any ops (Post nt Q s C0 w0) fuel listed a w := by
  have fin : ∀ (fuel : Nat) (listed : Array Bool) (C : Claims) (w : World) (a : Act), Held nt ops Es listed C w a → Sim C s w → Ev (dom s) C0 w0 C w → (∀ j, j < L → listed.getD j false = true) → (∀ j, L ≤ j → listed.getD j false = false) → ops.size - L ≤ fuel → wpAny P .any ops (Post nt Q s C0 w0) fuel listed a w := by
    intro fuel listed C w a hh hs he hall hno hf
    obtain ⟨tm, df⟩ := a
    have hd := hh.defers
    simp only at hd
    subst hd
    refine AReg.tailWp hok hdn ht rfl hq (Nat.le_refl _) fuel listed C w tm s C0 w0 hs (Es_end hrun hLs hreg hh hall hno) he (fun _ h => .inl h) hh.lsize (fun j => ?_) (by omega)
    by_cases hj : j < L
    · rw [hall j hj]; simp [hj]
    · rw [hno j (by omega)]; simp [hj]
  intro fuel
  induction fuel with
  | zero =>
    intro listed todo C w a hh hs he htodo hno hX hlen
    refine fin 0 listed C w a hh hs he (fun j hj => ?_) hno (by omega)
    rcases htodo j hj with h | h
    · exact h
    · rw [List.eq_nil_of_length_eq_zero (l := todo) (by omega)] at h; simp at h
  | succ fuel ih =>
    intro listed todo C w a hh hs he htodo hno hX hlen
    by_cases hall : ∀ j, j < L → listed.getD j false = true
    · exact fin _ listed C w a hh hs he hall hno (by omega)
    refine ⟨fun hr => absurd (fun j hj => all_listed hdn hh.lsize hr j (by omega)) hall, fun i hi => ?_⟩
    obtain ⟨h0, o, ho, hready⟩ := mem_ready.1 hi
    have hlt : i < ops.size := (Array.getElem?_eq_some_iff.1 ho).1
    have hl := hh.lsize
    have h0' : listed.getD i false = false := by simp [show i < listed.size by omega] at h0 ⊢; exact h0
    have hready' : ∀ e ∈ o.after.toList, Region.binds .any e = true → listed.getD e.on false = true := fun e he => hready e (Array.mem_toList_iff.1 he)
    have hiL : i < L := by
      rcases Nat.lt_or_ge i L with h | h
      · exact h
      · exact absurd (fun j hj => behind_listed hh.down _ i j (tail_at ht hlt h (by omega)) fun o' e ho' he hbd => by rw [ho] at ho'; injection ho' with ho'; subst ho'; exact hready' e he hbd) hall
    have htodo' : ∀ j, j < L → (listed.setIfInBounds i true).getD j false = true ∨ j ∈ todo.erase i := fun j hj => by
      by_cases hji : j = i
      · subst hji; left; simp [show j < listed.size by omega]
      · rcases htodo j hj with h | h
        · exact .inl (getD_set_true h)
        · exact .inr ((List.mem_erase_of_ne hji).2 h)
    have hno' : ∀ j, L ≤ j → (listed.setIfInBounds i true).getD j false = false := fun j hj => by
      rw [getD_set_ne false (by omega)]; exact hno j hj
    have hmem : i ∈ todo := by
      rcases htodo i hiL with h | h
      · rw [h0'] at h; cases h
      · exact h
    have hlen' : (todo.erase i).length + (ops.size - L) ≤ fuel := by
      have := List.length_pos_of_mem hmem
      rw [List.length_erase_of_mem hmem]; omega
    have hguard : ∀ b, guardIs ops o (Es i) b → Region.wanted o (yielded ops a.tmps) = b := fun b hg =>
      wanted_of hh.size (fun t ht htn => Held.look_ hrun hLs hreg hh hiL ho h0' hready' ht htn) (opsOk_dst hok) hg
    unfold wpOp
    simp only [ho]
    rcases hrun i o (Nat.zero_le _) hiL ho with ⟨hg, u, hp, hE⟩ | ⟨hg, hE⟩
    · rw [if_pos (hguard true hg)]
      refine .inl (Oper.wp_mono ?_ (hp (fun hx => by have := hX i hx; rw [h0'] at this; cases this) C w a hs (fun x hx => ?_) _))
      · rintro act w' ⟨C', v, rfl, hv, hs', he'⟩
        exact ih _ (todo.erase i) C' w' _ (Held.put hreg hh ho h0' hready' hE hv he'.keep) hs' (he.trans he' fun _ h => .inl h) htodo' hno' (fun j hj => getD_set_true (hX j hj)) hlen'
      · have hxo := opsOk_at hok ho x hx
        cases x with
        | tmp t =>
          have htn : t < nt := by simpa [opndOk] using hxo
          have hlook : t ∈ o.looksAt ops := by
            simp only [Oper.looksAt, List.mem_append, List.mem_filterMap]
            exact .inl ⟨.tmp t, Array.mem_toList_iff.2 hx, rfl⟩
          exact Held.look_ hrun hLs hreg hh hiL ho h0' hready' hlook htn
        | const v => exact V_const hxo
        | global g => simp [opTV, Act.eval, V]
        | func f => simp only [opTV, Act.eval]; rw [V]; exact ⟨#[], #[], rfl, by simp [VL], by simp [VL]⟩
    · rw [if_neg (by rw [hguard false hg]; simp)]
      exact ih _ (todo.erase i) C w _ (Held.put hreg hh ho h0' hready' hE V_undef (Keep.refl C w)) hs he htodo' hno' (fun j hj => getD_set_true (hX j hj)) hlen'
end

section
variable {L : Nat} (hrun : ∀ (j : Nat) (o : Oper), 0 ≤ j → j < L → ops[j]? = some o → (guardIs ops o (Es j) true ∧ ∃ u, (¬ False → PureS P o (opTV (Es j)) s u) ∧ ∀ t, look (Es (j + 1)) t = look (putE (Es j) o.dst u) t) ∨ (guardIs ops o (Es j) false ∧ ∀ t, look (Es (j + 1)) t = look (putE (Es j) o.dst (.tuple [])) t))
include hrun
/-- As wp, with a new variable that is made at whatever time: its place is L. -/
theorem Held.wpA {nt : Nat} {oa : Oper} {d : Tmp} {cs : List TV} (hoa : ops[L]? = some oa) (hda : oa.dst = some d) (hga : oa.guard = none) (hal : AllocS P oa s cs) (hLs : L < ops.size) (ht : tailOk ops (L + 1) = true) (hreg : regOk ops = true) (hdn : edgesDown ops = true) (hok : opsOk nt ops = true) {Q : AQ}
    (hq : ∀ b, AReg P nt ops false Q (L + 1) ((d, .ptr b 0) :: Es L) ((b, .box cs) :: s)) (C0 : Claims) (w0 : World) :
    ∀ (fuel : Nat) (listed : Array Bool) (todo : List Nat) (C : Claims) (w : World) (a : Act), Held nt ops Es listed C w a → Sim C s w → Ev (dom s) C0 w0 C w →
      (∀ j, j < L → listed.getD j false = true ∨ j ∈ todo) → (∀ j, L ≤ j → listed.getD j false = false) → todo.length + (ops.size - L) ≤ fuel → wpAny P .any ops (Post nt Q s C0 w0) fuel listed a w := by
  intro fuel
  induction fuel with
  | zero => intro listed todo C w a hh hs he htodo hno hlen; omega
  | succ fuel ih =>
    intro listed todo C w a hh hs he htodo hno hlen
    refine ⟨fun hr => (by have := all_listed hdn hh.lsize hr L hLs; rw [hno L (Nat.le_refl _)] at this; cases this), fun i hi => ?_⟩
    obtain ⟨h0, o, ho, hready⟩ := mem_ready.1 hi
    have hlt : i < ops.size := (Array.getElem?_eq_some_iff.1 ho).1
    have hl := hh.lsize
    have h0' : listed.getD i false = false := by simp [show i < listed.size by omega] at h0 ⊢; exact h0
    have hready' : ∀ e ∈ o.after.toList, Region.binds .any e = true → listed.getD e.on false = true := fun e he => hready e (Array.mem_toList_iff.1 he)
    have hiL : i ≤ L := by
      rcases Nat.lt_or_ge L i with h | h
      · have := behind_listed hh.down _ i L (tail_at ht hlt (by omega) (by omega)) fun o' e ho' he hbd => by rw [ho] at ho'; injection ho' with ho'; subst ho'; exact hready' e he hbd
        rw [hno L (Nat.le_refl _)] at this; cases this
      · exact h
    rcases Nat.lt_or_eq_of_le hiL with hiL | hiL
    · have htodo' : ∀ j, j < L → (listed.setIfInBounds i true).getD j false = true ∨ j ∈ todo.erase i := fun j hj => by
        by_cases hji : j = i
        · subst hji; left; simp [show j < listed.size by omega]
        · rcases htodo j hj with h | h
          · exact .inl (getD_set_true h)
          · exact .inr ((List.mem_erase_of_ne hji).2 h)
      have hno' : ∀ j, L ≤ j → (listed.setIfInBounds i true).getD j false = false := fun j hj => by
        rw [getD_set_ne false (by omega)]; exact hno j hj
      have hmem : i ∈ todo := by
        rcases htodo i hiL with h | h
        · rw [h0'] at h; cases h
        · exact h
      have hlen' : (todo.erase i).length + (ops.size - L) ≤ fuel := by
        have := List.length_pos_of_mem hmem
        rw [List.length_erase_of_mem hmem]; omega
      have hguard : ∀ b, guardIs ops o (Es i) b → Region.wanted o (yielded ops a.tmps) = b := fun b hg =>
        wanted_of hh.size (fun t ht htn => Held.look_ (X := fun _ => False) hrun (Nat.le_of_lt hLs) hreg hh hiL ho h0' hready' ht htn) (opsOk_dst hok) hg
      unfold wpOp
      simp only [ho]
      rcases hrun i o (Nat.zero_le _) hiL ho with ⟨hg, u, hp, hE⟩ | ⟨hg, hE⟩
      · rw [if_pos (hguard true hg)]
        refine .inl (Oper.wp_mono ?_ (hp id C w a hs (fun x hx => ?_) _))
        · rintro act w' ⟨C', v, rfl, hv, hs', he'⟩
          exact ih _ (todo.erase i) C' w' _ (Held.put hreg hh ho h0' hready' hE hv he'.keep) hs' (he.trans he' fun _ h => .inl h) htodo' hno' hlen'
        · have hxo := opsOk_at hok ho x hx
          cases x with
          | tmp t =>
            have htn : t < nt := by simpa [opndOk] using hxo
            have hlook : t ∈ o.looksAt ops := by
              simp only [Oper.looksAt, List.mem_append, List.mem_filterMap]
              exact .inl ⟨.tmp t, Array.mem_toList_iff.2 hx, rfl⟩
            exact Held.look_ (X := fun _ => False) hrun (Nat.le_of_lt hLs) hreg hh hiL ho h0' hready' hlook htn
          | const v => exact V_const hxo
          | global g => simp [opTV, Act.eval, V]
          | func f => simp only [opTV, Act.eval]; rw [V]; exact ⟨#[], #[], rfl, by simp [VL], by simp [VL]⟩
      · rw [if_neg (by rw [hguard false hg]; simp)]
        exact ih _ (todo.erase i) C w _ (Held.put hreg hh ho h0' hready' hE V_undef (Keep.refl C w)) hs he htodo' hno' hlen'
    · subst hiL
      rw [hoa] at ho
      injection ho with ho
      subst ho
      unfold wpOp
      simp only [hoa]
      rw [if_pos (by simp [Region.wanted, hga])]
      refine .inl (Oper.wp_mono ?_ (hal C w a hs _))
      rintro act w' ⟨C', b, rfl, hs', he', hb⟩
      have hfresh : ∀ b', dom ((b, RS.box cs) :: s) b' → dom s b' ∨ w.heap.size ≤ b' := fun b' ⟨r, hm⟩ => by
        rcases List.mem_cons.1 hm with e | hm
        · injection e with e _; exact .inr (by omega)
        · exact .inl ⟨r, hm⟩
      let Es' : Nat → Env := fun j => if j ≤ i then Es j else (d, .ptr b 0) :: Es i
      have hE' : ∀ t, look (Es' (i + 1)) t = look (putE (Es' i) oa.dst (.ptr b 0)) t := fun t => by simp [Es', hda, putE, show ¬ (i + 1 ≤ i) by omega]
      have hh1 : Held nt ops Es' listed C w a := ⟨hh.size, hh.defers, fun j o t hlj hj dj htn => by
        have hji : j < i := by
          rcases Nat.lt_or_ge j i with h | h
          · exact h
          · rw [hno j h] at hlj; cases hlj
        simpa [Es', show j + 1 ≤ i by omega] using hh.done j o t hlj hj dj htn, fun t hn htn => by simpa [Es'] using hh.rest t hn htn, hh.down, hh.lsize⟩
      have hh2 := Held.put hreg hh1 hoa h0' hready' hE' (u := .ptr b 0) (v := .pointer (some ⟨b, 0, none⟩)) (C' := C') (w' := w') (by rw [V]) he'.keep
      refine wpAny_monoQ (fun e a w2 hp => Post.trans (he.trans he' fun _ h => .inl h) (fresh_trans (fun _ h => .inl h) he.size hfresh) hp) _ _ _ _ ?_
      refine Held.wp (Es := Es') (L := i + 1) (X := fun j => j = i) (fun j o h0 hj hoj => ?_) (by omega) ht hreg hdn hok ?_ C' w' fuel _ todo C' w' _ hh2 hs' (Ev.refl _ _ _) (fun j hj => ?_) (fun j hj => ?_) (fun j hj => ?_) (by omega)
      · rcases Nat.lt_or_eq_of_le (Nat.le_of_lt_succ hj) with hji | hji
        · have e1 : Es' j = Es j := by simp [Es', show j ≤ i by omega]
          have e2 : Es' (j + 1) = Es (j + 1) := by simp [Es', show j + 1 ≤ i by omega]
          rw [e1, e2]
          rcases hrun j o h0 hji hoj with ⟨hg, u, hp, hE⟩ | ⟨hg, hE⟩
          · exact .inl ⟨hg, u, fun _ => (hp id).frame, hE⟩
          · exact .inr ⟨hg, hE⟩
        · subst hji
          rw [hoa] at hoj
          injection hoj with hoj
          subst hoj
          exact .inl ⟨by simp [guardIs, hga], .ptr b 0, fun h => absurd rfl h, hE'⟩
      · have : Es' (i + 1) = (d, .ptr b 0) :: Es i := by simp [Es', show ¬ (i + 1 ≤ i) by omega]
        rw [this]
        exact hq b
      · rcases Nat.lt_or_eq_of_le (Nat.le_of_lt_succ hj) with hji | hji
        · rcases htodo j hji with h | h
          · exact .inl (getD_set_true h)
          · exact .inr h
        · subst hji; left; simp [show j < listed.size by omega]
      · rw [getD_set_ne false (by omega)]; exact hno j (by omega)
      · subst hj; simp [show j < listed.size by omega]
end

end

theorem ac_region_draw {P : Program} {nt : Nat} {id : Nat} {ops : Array Oper} {E : Env} {s : Res} {Q : AQ} (hm : P.follows .mixedOrders = true) (hok : opsOk nt ops = true) (hreg : regOk ops = true) (hdn : edgesDown ops = true)
    (h : AReg P nt ops true Q 0 E s) : ACode P nt (.region id ops true) E s Q := fun C w tm hs hE => by
  obtain ⟨Es, L, _, hLs, h0, hq, hrun⟩ := h.run rfl
  refine wp_region_any hm ?_
  have hs1 : Sim C s { w with drawn := w.drawn + 1 } := ⟨hs.ok, hs.tabs.keep (fun _ _ h => ⟨h, rfl⟩), hs.nodup, fun b r hm => by have := hs.at_ b r hm; cases r <;> exact (this.ev (D := fun _ => False) (w' := { w with drawn := w.drawn + 1 }) ⟨rfl, rfl, rfl, Nat.le_refl _, fun _ _ _ => rfl, fun _ _ _ _ h => h, fun _ _ h => ⟨h, rfl⟩⟩ (fun h => h))⟩
  have he : Ev (dom s) C w C { w with drawn := w.drawn + 1 } := ⟨rfl, rfl, rfl, Nat.le_refl _, fun _ _ _ => rfl, fun _ _ _ _ h => h, fun _ _ h => ⟨h, rfl⟩⟩
  have hE1 := hE.keep he.keep
  have hno : ∀ j, (Array.replicate ops.size false).getD j false = false := fun j => by
    rw [Array.getD_eq_getD_getElem?, Array.getElem?_replicate]; split <;> rfl
  have hheld : Held nt ops Es (Array.replicate ops.size false) C { w with drawn := w.drawn + 1 } ⟨tm, []⟩ := by
    refine ⟨hE.size, rfl, ?_, ?_, ?_, by simp⟩
    · intro j o t hl; rw [hno] at hl; cases hl
    · intro t _ ht; rw [h0]; exact hE1.at_ t ht
    · intro j o e hl; rw [hno] at hl; cases hl
  rcases hq with ⟨hT, hq⟩ | ⟨oa, d, cs, g1, g2, g3, g4, hT, hq⟩
  · exact Held.wp (X := fun _ => False) (fun j o h1 h2 h3 => (hrun j o h1 h2 h3).imp (fun ⟨g, u, p, e⟩ => ⟨g, u, fun _ => p, e⟩) (fun h => h)) hLs hT hreg hdn hok hq C w ops.size _ (List.range L) C _ ⟨tm, []⟩ hheld hs1 he (fun j hj => .inr (List.mem_range.2 hj)) (fun j _ => hno j) (fun j h => h.elim) (by simp; omega)
  · exact Held.wpA (fun j o h1 h2 h3 => (hrun j o h1 h2 h3).imp (fun ⟨g, u, p, e⟩ => ⟨g, u, fun _ => p, e⟩) (fun h => h)) g1 g2 g3 g4 (Array.getElem?_eq_some_iff.1 g1).1 hT hreg hdn hok hq C w ops.size _ (List.range L) C _ ⟨tm, []⟩ hheld hs1 he (fun j hj => .inr (List.mem_range.2 hj)) (fun j _ => hno j) (by simp; omega)

end Go.Proofs.YtdkiijhmmmfciaaDoor
