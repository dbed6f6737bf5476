/- From a row's reading to tree values, and back: what the arguments say as data; what stays as it was. -/
import Derived.Test.YtdkiijhmmmfciaaDoorTQ
import Derived.Test.YtdkiijhmmmfciaaDoorRows
import Derived.WalkKit
import Derived.ProofKit
import Derived.OpenShut
import Derived.WideKeyArgs
import Derived.ChangeSame
import Derived.Lib.LaidTab
import Derived.Stop.LaidErr
set_option linter.unusedVariables false
set_option linter.unusedSimpArgs false
namespace Go.Proofs.YtdkiijhmmmfciaaDoor
open Go Go.ChangeShapes Go.WideShapes Go.ChangeAt Go.RowKit

/-- All that there is: nobody writes it. -/
def allC (W : World) : Claims := fun b _ => b < W.heap.size
theorem allC_sim (W : World) (ht : Tabs (allC W) W) : Sim (allC W) [] W := ⟨fun b o h => h, ht, by simp, fun b r hm => by simp at hm⟩

/-! ### Bulk -/
theorem bulk_pos {H : Type} (d : DataW H) : 1 ≤ Rows.uptoBulk d := by
  cases d with
  | lit l => cases l <;> simp [Rows.uptoBulk]
  | _ => simp [Rows.uptoBulk]
theorem bulk_mem {H : Type} {d : DataW H} : ∀ {l : List (DataW H)}, d ∈ l → Rows.uptoBulk d ≤ Rows.uptoBulkAll l
  | x :: r, h => by
    simp only [Rows.uptoBulkAll]
    rcases List.mem_cons.1 h with rfl | h
    · omega
    · have := bulk_mem h; omega
theorem bulk_len {H : Type} : ∀ l : List (DataW H), l.length ≤ Rows.uptoBulkAll l
  | [] => by simp
  | x :: r => by have := bulk_pos x; have := bulk_len r; simp only [Rows.uptoBulkAll, List.length_cons]; omega

/-- What cells of a type say: a, told as g a. -/
def ReadsN {H : Type} (enc : TypeId × Value → H) (P : Program) (W : World) (n : Nat) (t : TypeId) {α : Type} (Q : α → Prop) (g : α → List TV) : Prop :=
  ∀ (cs : List Value) (d : DataW H) (ps : List MemPlace), DataW.trod enc P W 0 (fun _ => true) true n t cs = some (d, ps) → Rows.uptoBulk d ≤ 1048576 → ∃ a, Q a ∧ VL (allC W) W (g a) cs
def wfI (k : IntKind) (a : Int) : Prop := IntKind.fits k a
def wfB (_ : Bool) : Prop := True
def wfF (x : Fl) : Prop := ∃ b, x = some b ∧ b < 18446744073709551616
def wfS (s : ByteArray) : Prop := s.size ≤ 1048576
def wfL {α : Type} (Q : α → Prop) (l : List α) : Prop := l.length ≤ 1048576 ∧ ∀ x ∈ l, Q x

section
variable {H : Type} {enc : TypeId × Value → H} {P : Program} {W : World} {n : Nat} {t : TypeId}

theorem rd_int {k : IntKind} (ht : P.underlying t = some (.int k)) : ReadsN enc P W n t (wfI k) fun a : Int => [.int k a] := by
  intro cs d ps h hbk
  obtain ⟨m, rfl, _, hwf⟩ := DataW.trod_int ht h
  exact ⟨m, (Lit.wf_int_iff _ _).1 hwf, by rw [VL]; exact ⟨_, [], rfl, V_int ((Lit.wf_int_iff _ _).1 hwf), by rw [VL]⟩⟩
theorem rd_bool (ht : P.underlying t = some .bool) : ReadsN enc P W n t wfB fun a : Bool => [.bool a] := by
  intro cs d ps h hbk
  obtain ⟨b, rfl, _⟩ := DataW.trod_bool ht h
  exact ⟨b, trivial, by rw [VL]; exact ⟨_, [], rfl, V_bool, by rw [VL]⟩⟩
theorem rd_float (ht : P.underlying t = some (.float .f64)) : ReadsN enc P W n t wfF fun a : Fl => [encF a] := by
  intro cs d ps h hbk
  cases n with
  | zero => simp [DataW.trod] at h
  | succ n =>
    unfold DataW.trod at h
    rw [ht] at h
    split at h
    all_goals try simp_all
    rename_i m _
    obtain ⟨⟨hk1, hwf⟩, _⟩ := h
    subst_vars
    refine ⟨some m, ⟨m, rfl, of_decide_eq_true hwf⟩, ?_⟩
    rw [VL]
    refine ⟨_, [], rfl, ?_, by rw [VL]⟩
    show V _ _ (.float .f64 m) _
    rw [V]
    exact ⟨rfl, of_decide_eq_true hwf⟩
theorem rd_str (ht : P.underlying t = some .string) : ReadsN enc P W n t wfS fun a : ByteArray => [.str a] := by
  intro cs d ps h hbk
  obtain ⟨s, rfl, hd, hc⟩ := DataW.trod_string ht h
  refine ⟨s, by
    injection hd with hd _
    subst hd
    simp only [Rows.uptoBulk] at hbk
    unfold wfS
    have : s.data.toList.length = s.size := rfl
    omega, ?_⟩
  rw [VL]
  refine ⟨_, [], rfl, ?_, by rw [VL]⟩
  rw [V]
  exact ⟨rfl, by unfold maxLen at hc; omega⟩

theorem mapM_at {α β : Type} {f : α → Option β} : ∀ {l : List α} {r : List β}, l.mapM f = some r → r.length = l.length ∧ ∀ (i : Nat) (x : α), l[i]? = some x → ∃ y, r[i]? = some y ∧ f x = some y
  | [], r, h => by
    simp at h; subst h; exact ⟨rfl, by simp⟩
  | x :: l, r, h => by
    rw [List.mapM_cons] at h
    cases hx : f x with
    | none => simp [hx] at h
    | some y =>
      cases hl : l.mapM f with
      | none => simp [hx, hl] at h
      | some ys =>
        simp [hx, hl] at h
        subst h
        obtain ⟨h1, h2⟩ := mapM_at hl
        refine ⟨by simp [h1], fun i z hz => ?_⟩
        cases i with
        | zero => simp at hz; subst hz; exact ⟨y, by simp, hx⟩
        | succ i => simp at hz; simpa using h2 i z hz

theorem cells_at {a : Addr} {k : Nat} {cs : List Value} (h : W.cells? 0 a k = some cs) : cs.length = k ∧ ∀ j, j < k → W.cell? (a.add j) = cs[j]? := by
  unfold World.cells? at h
  rw [if_pos (Nat.zero_le _)] at h
  obtain ⟨h1, h2⟩ := mapM_at h
  rw [List.length_range] at h1
  refine ⟨h1, fun j hj => ?_⟩
  obtain ⟨y, hy1, hy2⟩ := h2 j j (by simp [hj])
  rw [hy1, hy2]

theorem rd_list {α : Type} {Q : α → Prop} {f : α → TV} {g : α → List TV} {k : Nat} (en : Enc f g k) {e : TypeId} (he : ReadsN enc P W n e Q g) (hk : P.cellsOf e = k) (a : Addr) :
    ∀ (m s : Nat), (∀ i, i < m → ∃ x, (W.cells? 0 (a.add ((s + i) * P.cellsOf e)) (P.cellsOf e)).bind (DataW.trod enc P W 0 (fun _ => true) true n e) = some x ∧ Rows.uptoBulk x.1 ≤ 1048576) →
      ∃ (l : List α) (us : List Value), l.length = m ∧ (∀ x ∈ l, Q x) ∧ us.length = m ∧ VL (allC W) W (l.map f) us ∧ (∀ u ∈ us, u.cells.size = k) ∧ ∀ j u, (flat us)[j]? = some u → W.cell? (a.add (s * k + j)) = some u
  | 0, s, h => ⟨[], [], rfl, by simp, rfl, by simp [VL], by simp, by simp [flat]⟩
  | m + 1, s, h => by
    obtain ⟨x, hx, hbx⟩ := h 0 (by omega)
    rw [Nat.add_zero] at hx
    obtain ⟨cs, hc, hd⟩ := Option.bind_eq_some_iff.1 hx
    obtain ⟨l, us, hl0, hQ, h1, h2, h3, h4⟩ := rd_list en he hk a m (s + 1) fun i hi => by
      have := h (i + 1) (by omega)
      rwa [show s + (i + 1) = s + 1 + i by omega] at this
    obtain ⟨b, hQb, hb⟩ := he cs x.1 x.2 hd hbx
    obtain ⟨u, hu, huc⟩ := en.val _ _ b cs hb
    obtain ⟨hcl, hca⟩ := cells_at hc
    rw [hk] at hcl hca
    refine ⟨b :: l, u :: us, by simp [hl0], fun y hy => (List.mem_cons.1 hy).elim (fun e => e ▸ hQb) (hQ y), by simp [h1], by rw [List.map_cons, VL]; exact ⟨u, us, rfl, hu, h2⟩, fun u' hm => ?_, fun j v hj => ?_⟩
    · rcases List.mem_cons.1 hm with rfl | hm
      · rw [← Array.length_toList, huc, hcl]
      · exact h3 u' hm
    · have e1 : flat (u :: us) = cs ++ flat us := by simp [flat, huc]
      rw [e1] at hj
      by_cases hjk : j < k
      · rw [List.getElem?_append_left (by omega)] at hj
        have := hca j hjk
        rw [hj, Addr.add_add'] at this
        exact this
      · rw [List.getElem?_append_right (by omega)] at hj
        have := h4 (j - k) v (by rw [← hcl]; exact hj)
        rw [← this]
        congr 2
        rw [Nat.add_mul]; omega

theorem rd_slice {α : Type} {Q : α → Prop} {f : α → TV} {g : α → List TV} {k : Nat} {e : TypeId} (en : Enc f g k) (ht : P.underlying t = some (.slice e)) (hk : P.cellsOf e = k) (he : ∀ m, m < n → ReadsN enc P W m e Q g) : ReadsN enc P W n t (wfL Q) fun l : List α => [.slice .ro k (l.map f)] := by
  intro cs d ps h hbk
  rcases DataW.trod_slice ht h with ⟨rfl, _⟩ | ⟨a, len, cap, elems, rest, n', rfl, rfl, hx, _, hlc, hcm, hel, hat, _⟩
  · refine ⟨[], ⟨by simp, by simp⟩, ?_⟩
    rw [VL]
    refine ⟨_, [], rfl, ?_, by rw [VL]⟩
    rw [V]
    exact ⟨none, 0, [], rfl, Nat.le_refl _, by simp, by simp [VL], by simp, trivial, by simp⟩
  · injection hx with hd _
    subst hd
    simp only [Rows.uptoBulk] at hbk
    have hlen := bulk_len (elems.map (·.1))
    rw [List.length_map] at hlen
    obtain ⟨l, us, hl0, hQ, h1, h2, h3, h4⟩ := rd_list en (he n' (by omega)) hk a len 0 fun i hi => by
      rw [Nat.zero_add, hat i hi]
      have := bulk_mem (List.mem_map.2 ⟨elems[i]'(by omega), List.getElem_mem _, rfl⟩ : (elems[i]'(by omega)).1 ∈ elems.map (·.1))
      exact ⟨elems[i]'(by omega), List.getElem?_eq_getElem (by omega), by omega⟩
    refine ⟨l, ⟨by omega, hQ⟩, ?_⟩
    rw [VL]
    refine ⟨_, [], rfl, ?_, by rw [VL]⟩
    rw [V]
    refine ⟨some a, cap, us, by rw [h1], by omega, by omega, h2, h3, trivial, fun hp => ⟨a, rfl, fun j u hj => ?_⟩⟩
    have := h4 j u hj
    rw [Nat.zero_mul, Nat.zero_add] at this
    refine ⟨this, ?_⟩
    show (a.add j).block < W.heap.size
    unfold World.cell? at this
    split at this
    · rename_i c t' fr hh
      exact (Array.getElem?_eq_some_iff.1 hh).1
    · cases this

/-! ### Structs -/
def fldsOf (P : Program) (t : TypeId) : List (TypeId × Nat) := match P.underlying t with | some (.struct fs) => fs.toList.map fun f => (f.type, f.offset) | _ => []
def isStructB (P : Program) (t : TypeId) : Bool := match P.underlying t with | some (.struct _) => true | _ => false
theorem rd_fields {cs : List Value} {d : DataW H} {ps : List MemPlace} (hs : isStructB P t = true) (h : DataW.trod enc P W 0 (fun _ => true) true n t cs = some (d, ps)) (hbk : Rows.uptoBulk d ≤ 1048576) :
    cs.length = P.cellsOf t ∧ ∃ m, n = m + 1 ∧ ∀ p ∈ fldsOf P t, ∃ y, DataW.trod enc P W 0 (fun _ => true) true m p.1 ((cs.drop p.2).take (P.cellsOf p.1)) = some y ∧ Rows.uptoBulk y.1 ≤ 1048576 := by
  unfold isStructB at hs
  split at hs
  · rename_i fs hu
    obtain ⟨xs, m, rfl, hx, hc, hl, hat⟩ := DataW.trod_struct hu h
    injection hx with hd _
    subst hd
    simp only [Rows.uptoBulk] at hbk
    refine ⟨hc, m, rfl, fun p hp => ?_⟩
    unfold fldsOf at hp
    rw [hu] at hp
    simp only [List.mem_map] at hp
    obtain ⟨f, hf, rfl⟩ := hp
    obtain ⟨i, hi⟩ := List.mem_iff_getElem?.1 hf
    rw [Array.getElem?_toList] at hi
    have := hat i f hi
    have hil := (Array.getElem?_eq_some_iff.1 hi).1
    rw [List.getElem?_eq_getElem (by omega)] at this
    have h2 := bulk_mem (List.mem_map.2 ⟨xs[i]'(by omega), List.getElem_mem _, rfl⟩ : (xs[i]'(by omega)).1 ∈ xs.map (·.1))
    exact ⟨_, this, by omega⟩
  · cases hs
theorem VL_pc {C : Claims} {w : World} {g1 rest : List TV} {cs : List Value} {o k : Nat} (h1 : VL C w g1 ((cs.drop o).take k)) (h2 : VL C w rest (cs.drop (o + k))) : VL C w (g1 ++ rest) (cs.drop o) := by
  have := VL_append h1 h2
  rwa [← List.drop_drop, List.take_append_drop] at this
theorem VL_end {C : Claims} {w : World} {cs : List Value} {m : Nat} (h : cs.length = m) : VL C w [] (cs.drop m) := by
  rw [VL, ← h, List.drop_length]

/-! ### Arguments -/
theorem one_slice {e : TypeId} {r : Reach} {b : Nat} {v : Value} (ht : P.underlying t = some (.slice e)) (h : Value.okWide P W r b t v) : v.cells.toList = [v] := by
  cases v <;> simp [Value.okWide, Cell.okWide, Cell.ok, ht] at h <;> rfl
theorem one_int {k : IntKind} {r : Reach} {b : Nat} {v : Value} (ht : P.underlying t = some (.int k)) (h : Value.okWide P W r b t v) : v.cells.toList = [v] := by
  cases v <;> simp [Value.okWide, Cell.okWide, Cell.ok, ht] at h <;> rfl
theorem one_bool {r : Reach} {b : Nat} {v : Value} (ht : P.underlying t = some .bool) (h : Value.okWide P W r b t v) : v.cells.toList = [v] := by
  cases v <;> simp [Value.okWide, Cell.okWide, Cell.ok, ht] at h <;> rfl
theorem one_str {r : Reach} {b : Nat} {v : Value} (ht : P.underlying t = some .string) (h : Value.okWide P W r b t v) : v.cells.toList = [v] := by
  cases v <;> simp [Value.okWide, Cell.okWide, Cell.ok, ht] at h <;> rfl
theorem arg_one {α : Type} {Q : α → Prop} {f : α → TV} {v : Value} {d : DataW H} {ps : List MemPlace} (h1 : v.cells.toList = [v]) (hr : ∀ n, ReadsN enc P W n t Q fun a : α => [f a]) (h : DataW.Trod enc P W 0 (fun _ => true) true t v d ps) (hbk : Rows.uptoBulk d ≤ 1048576) : ∃ a, Q a ∧ V (allC W) W (f a) v := by
  obtain ⟨n, hn⟩ := h
  rw [h1] at hn
  obtain ⟨a, hQ, ha⟩ := hr n _ _ _ hn hbk
  rw [VL] at ha
  obtain ⟨u, us, e, hu, _⟩ := ha
  injection e with e _
  subst e
  exact ⟨a, hQ, hu⟩
theorem arg_struct {α : Type} {Q : α → Prop} {f : α → TV} {g : α → List TV} {r : Reach} {b : Nat} {v : Value} {d : DataW H} {ps : List MemPlace} (hs : isStructB P t = true) (hf : ∀ a, f a = .agg (g a)) (hok : Value.okWide P W r b t v) (hr : ∀ n, ReadsN enc P W n t Q g) (h : DataW.Trod enc P W 0 (fun _ => true) true t v d ps) (hbk : Rows.uptoBulk d ≤ 1048576) : ∃ a, Q a ∧ V (allC W) W (f a) v := by
  obtain ⟨n, hn⟩ := h
  unfold isStructB at hs
  split at hs
  · rename_i fs hu
    unfold Value.okWide at hok
    rw [hu] at hok
    obtain ⟨cs, rfl, _⟩ := hok
    obtain ⟨a, hQ, ha⟩ := hr n _ _ _ hn hbk
    exact ⟨a, hQ, by rw [hf, V]; exact ⟨cs, rfl, ha⟩⟩
  · cases hs

/-! ### The library's tables -/
theorem tab_met {W : World} {P : Program} {name : String} {k : IntKind} {zs : List Int} {g : Nat} (hg : P.globalNamed name = some g) (h : Lib.TabIs P W name k zs) :
    ∀ o, allC W g o ∧ W.cell? ⟨g, o, none⟩ = (zs.map (Value.int k))[o]? := by
  intro o
  have h' := h
  unfold Lib.TabIs at h
  refine ⟨?_, ?_⟩
  · show g < W.heap.size
    unfold World.var? at h
    rw [hg] at h
    simp only [Option.bind_some] at h
    cases hb : W.heap[g]? with
    | none => simp [hb] at h
    | some _ => exact (Array.getElem?_eq_some_iff.1 hb).1
  · rw [World.var?_cell hg h o]; simp

/-! ### What stays -/
theorem args_stay (hl : laidOutB P = true) {W' : World} (hsame : ∀ b, b < W.heap.size → W'.heap[b]? = W.heap[b]?) {sp' : Nat → Bool} :
    ∀ {ts : List TypeId} {vs : List Value} {ds : List (DataW H)} {ps : List MemPlace}, (ts.all fun t => P.readableRec t && decide (t < P.types.size)) = true → DataW.TrodAll enc P W 0 (fun _ => true) true ts vs ds ps → (∀ p ∈ ps, p.block < W.heap.size) → (∀ p ∈ ps, sp' p.block = true) → DataW.TrodAll enc P W' 0 sp' true ts vs ds ps
  | [], _, _, _, _, h, _, _ => by
    obtain ⟨rfl, rfl, rfl⟩ := trodAll_nil h
    exact trodAll_mk0
  | t :: ts, _, _, _, hr, h, hlt, hsp => by
    obtain ⟨v, vs', d, ds', p, q, rfl, rfl, rfl, h1, h2⟩ := trodAll_cons h
    simp only [List.all_cons, Bool.and_eq_true, decide_eq_true_eq] at hr
    refine trodAll_cons_mk ?_ (args_stay hl hsame (by simpa using hr.2) h2 (fun x hx => hlt x (by simp [hx])) (fun x hx => hsp x (by simp [hx])))
    refine Go.WideElems.Trod_stays hl hr.1.1 hr.1.2 h1 (fun x hx => ?_) (fun x hx => hsp x (by simp [hx]))
    have hb := hlt x (by simp [hx])
    cases x with
    | cell b o =>
      show W'.cell? ⟨b, o, none⟩ = W.cell? ⟨b, o, none⟩
      simp only [World.cell?, hsame b hb]
    | map b => exact hsame b hb
theorem kept_of_same {W' : World} (ho : W'.os = W.os) (hout : W'.output = W.output) (hsame : ∀ b, b < W.heap.size → W'.heap[b]? = W.heap[b]?) (may : MemPlace → Prop) : W.keptBut W' may := by
  refine ⟨ho, hout, fun i hi => ?_⟩
  rw [hsame i hi]
  cases h : W.heap[i]? with
  | none => simp
  | some o => cases o <;> simp

/-- What a law's walk gives is what its row asks. -/
theorem law_post {f : Func} {s : ChangeSpec} {apart fresh handsOn again : Bool} {W' : World} {args : Array Value} {v : Value} {ds gs : List (DataW H)} {before : List MemPlace} {rt : TypeId} (hl : laidOutB P = true) (hr : (f.params.toList.all fun t => P.readableRec t && decide (t < P.types.size)) = true)
    (hW : DataW.Whole enc P f.params.toList s.vars apart W args.toList ds gs before) (hv : s.vars = []) (hrt : f.resultTypes = #[rt]) (hb : P.underlying rt = some .bool) (hval : v = .bool true) (hs : s.fn H (ds ++ gs) = { results := [.lit (.bool true)], args := ds })
    (ho : W'.os = W.os) (hout : W'.output = W.output) (hsame : ∀ b, b < W.heap.size → W'.heap[b]? = W.heap[b]?) (hrl : (v.resultList f.resultTypes.size) = [v]) (hok : Value.okWide P W' .any 0 rt v) :
    s.post enc P f apart fresh handsOn again W args v W' := by
  have hW0 := hW
  obtain ⟨p, q, hA, hV, rfl, hz, hn⟩ := hW
  rw [hv] at hV
  obtain ⟨rfl, rfl⟩ := trodVars_none hV
  rw [List.append_nil] at *
  have hlt : ∀ x ∈ p, x.block < W.heap.size := hA.lt
  have hres : ∀ (b : Nat) (sp : Nat → Bool) (hd : Bool), DataW.TrodAll enc P W' b sp hd f.resultTypes.toList (v.resultList f.resultTypes.size) (s.fn H ds).results [] := fun b sp hd => by
    rw [hrl, hs, hrt, hval]
    exact trodAll_cons_mk (p := []) (p' := []) (shut_bool hb true) trodAll_mk0
  have hargs : ∀ sp : Nat → Bool, (∀ x ∈ p, sp x.block = true) → DataW.TrodAll enc P W' 0 sp true f.params.toList args.toList (s.fn H ds).args p := fun sp hsp => by
    rw [hs]
    exact args_stay hl hsame hr hA hlt hsp
  have hold : ∀ x ∈ p, (fun b => decide (b < W.heap.size)) x.block = true := fun x hx => by simpa using hlt x hx
  have hpa : ∀ b off, MemPlace.cell b off ∈ p → W'.frozen? ⟨b, off, none⟩ = false := fun b off hm => by
    have h1 := hz b off hm
    have hb' := hlt _ hm
    unfold World.frozen? at h1 ⊢
    rw [hsame b hb']
    exact h1
  refine ⟨ds, [], p, [], p, [], by simpa using hW0, ?_, ?_, ?_, kept_of_same ho hout hsame _, fun _ => ⟨?_, .lit (.bool true) :: ds, [], p, ⟨p, [], ?_, ?_, by simp, hpa, hn⟩, fun x hx _ => hx⟩⟩
  · rw [List.append_nil]; exact hres _ _ _
  · rw [List.append_nil]; exact hargs (fun b => decide (b < W.heap.size)) hold
  · rw [List.append_nil, hs, hv]; exact rfl
  · intro j t' r hj hr'
    rw [hrt] at hj
    rw [hrl] at hr'
    cases j with
    | zero => simp at hj hr'; subst hj; subst hr'; exact hok
    | succ j => simp at hj
  · rw [hrl, hrt]
    have h1 : DataW.TrodAll enc P W' 0 (fun _ => true) true [rt] [v] [.lit (.bool true)] [] := by
      rw [hval]; exact trodAll_cons_mk (p := []) (p' := []) (shut_bool hb true) trodAll_mk0
    have h2 := args_stay hl hsame hr hA hlt (sp' := fun _ => true) (fun _ _ => rfl)
    exact trodAll_append h2 h1
  · rw [hv]; exact rfl
end
end Go.Proofs.YtdkiijhmmmfciaaDoor
