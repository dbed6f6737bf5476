/- Rules for printed walks: rounds that turn resources, jumps, equality of structs, slices by what they are of. -/
import Derived.Test.YtdkiijhmmmfciaaDoorTM
import Derived.ScopeJumps
import Derived.Laws.StructEq
set_option linter.unusedVariables false
set_option linter.unusedSimpArgs false
namespace Go.Proofs.YtdkiijhmmmfciaaDoor
open Go

/-! ### Knowing less of the resources -/
def ResLe (s s' : Res) : Prop := (∀ (C : Claims) (w : World), Sim C s w → Sim C s' w) ∧ ∀ b, dom s' b → dom s b
theorem ResLe.refl (s : Res) : ResLe s s := ⟨fun _ _ h => h, fun _ h => h⟩
theorem ResLe.cons {s s' : Res} {b : Nat} {r r' : RS} (h1 : ∀ C w, Sim1 C w b r → Sim1 C w b r') (h : ResLe s s') (hm : s'.map Prod.fst = s.map Prod.fst) : ResLe ((b, r) :: s) ((b, r') :: s') := by
  refine ⟨fun C w hs => ?_, ?_⟩
  · have hs1 := h.1 C w (hs.drop (List.sublist_cons_self _ _))
    refine ⟨hs.ok, hs.tabs, ?_, ?_⟩
    · have := hs.nodup
      simpa [hm] using this
    · intro b' r1 hmem
      rcases List.mem_cons.1 hmem with e | hmem
      · injection e with e1 e2
        subst e1; subst e2
        exact h1 C w (hs.at_ _ _ (by simp))
      · exact hs1.at_ _ _ hmem
  · rintro b' ⟨r1, hmem⟩
    rcases List.mem_cons.1 hmem with e | hmem
    · injection e with e1 e2; subst e1; exact ⟨r, by simp⟩
    · obtain ⟨r2, h2⟩ := h.2 b' ⟨r1, hmem⟩
      exact ⟨r2, by simp [h2]⟩
theorem Sim1.le {C : Claims} {w : World} {b : Nat} {cs cs' : List TV} (h : TVles cs cs') (hs : Sim1 C w b (.box cs)) : Sim1 C w b (.box cs') := by
  obtain ⟨vs, t, h1, h2, h3⟩ := hs
  exact ⟨vs, t, h1, h.at h2, h3⟩
theorem ResLe.box {s s' : Res} {b : Nat} {cs cs' : List TV} (hc : TVles cs cs') (h : ResLe s s') (hm : s'.map Prod.fst = s.map Prod.fst) : ResLe ((b, .box cs) :: s) ((b, .box cs') :: s') := ResLe.cons (fun _ _ => Sim1.le hc) h hm
theorem ResLe.sub {s s' : Res} (h : s'.Sublist s) : ResLe s s' := ⟨fun _ _ hs => hs.drop h, fun b ⟨r, hm⟩ => ⟨r, h.subset hm⟩⟩
theorem ResLe.trans {s1 s2 s3 : Res} (h : ResLe s1 s2) (k : ResLe s2 s3) : ResLe s1 s3 := ⟨fun C w hs => k.1 C w (h.1 C w hs), fun b hb => h.2 b (k.2 b hb)⟩
theorem ResLe.drop {s s' : Res} {x : Nat × RS} (h : ResLe s s') : ResLe (x :: s) s' := (ResLe.sub (List.sublist_cons_self x s)).trans h
section
variable {P : Program} {n : Nat} {E : Env} {s : Res} {Q : AQ}
theorem ac_resle {c : Code} {s' : Res} (hle : ResLe s s') (h : ACode P n c E s' Q) : ACode P n c E s Q := fun C w tm hs hE => by
  refine Code.wp_mono ?_ (h C w tm (hle.1 C w hs) hE)
  rintro e a w' ⟨x, C', E', s1, h1, h2, h3, h4, h5, h6, h7⟩
  exact ⟨x, C', E', s1, h1, h2, h3, h4, h5, h6.mono fun b hb => .inl (hle.2 b hb), fun b hb => (h7 b hb).imp (hle.2 b) id⟩
theorem ac_turns {c : Code} {σ : Type} (canon : σ → Env) (res : σ → Res) (m : σ → Nat) (inv : σ → Prop) (x0 : σ) (h0 : inv x0) (hE : SubLe E (canon x0)) (hs : ResLe s (res x0))
    (round : ∀ x, inv x → ACode P n c (canon x) (res x) (fun e E' s' => match e with | .normal => ∃ y, inv y ∧ m y < m x ∧ SubLe E' (canon y) ∧ ResLe s' (res y) | e => Q e E' s')) : ACode P n (.loop c) E s Q := by
  refine ac_loop (fun E s k => ∃ x, inv x ∧ k = m x ∧ SubLe E (canon x) ∧ ResLe s (res x)) (m x0) ⟨x0, h0, rfl, hE, hs⟩ ?_
  rintro E s k ⟨x, hx, rfl, hsub, hres⟩
  refine ac_resle hres (ac_weak hsub.le ((round x hx).mono ?_))
  intro e E' s' h
  cases e with
  | normal => obtain ⟨y, h1, h2, h3, h4⟩ := h; exact ⟨m y, h2, y, h1, rfl, h3, h4⟩
  | _ => exact h

/-- A scope in which the code jumps back to one label. -/
theorem ac_scope {c rest : Code} {σ : Type} (l : Nat) (hf : findLabel c l = some rest) (canon : σ → Env) (res : σ → Res) (m : σ → Nat) (inv : σ → Prop)
    (first : ACode P n c E s (fun e E' s' => match e with | .goto l' => l' = l ∧ ∃ y, inv y ∧ SubLe E' (canon y) ∧ ResLe s' (res y) | e => Q e E' s'))
    (round : ∀ x, inv x → ACode P n rest (canon x) (res x) (fun e E' s' => match e with | .goto l' => l' = l ∧ ∃ y, inv y ∧ m y < m x ∧ SubLe E' (canon y) ∧ ResLe s' (res y) | e => Q e E' s')) : ACode P n (.scope c) E s Q := fun C w tm hs hE => by
  intro b k cs
  have hg : gotoIn l (.inScope c :: k) = some (.code rest :: .inScope c :: k) := by simp [gotoIn, hf]
  have key : ∀ j x C w tm, m x = j → inv x → Sim C (res x) w → VE C w n (canon x) tm → ∃ e a' w', Post n Q (res x) C w e a' w' ∧ Arrives P (lone (b.at ⟨tm, []⟩ (.code rest :: .inScope c :: k)) cs w) b k cs e a' w' := by
    intro j
    induction j using Nat.strongRecOn with
    | _ j ih =>
      intro x C w tm hj hx hs hE
      obtain ⟨e, a1, w1, hp, harr⟩ := round x hx C w tm hs hE b (.inScope c :: k) cs
      obtain ⟨z, C', E', s', h1, h2, h3, h4, h5, h6, h7⟩ := hp
      obtain ⟨tm', df⟩ := a1
      subst h5
      cases e <;> cases z <;> first | exact h1.elim | skip
      case normal.normal => exact ⟨.normal, _, _, ⟨.normal, C', E', s', trivial, h2, h3, h4, rfl, h6, h7⟩, Steps.trans harr (.one step_inScope)⟩
      case exit.exit id id' => exact ⟨.exit id, _, _, ⟨.exit id', C', E', s', h1, h2, h3, h4, rfl, h6, h7⟩, fun k' hk => harr k' (by simp [exitTo, hk])⟩
      case goto.goto l1 l2 =>
        obtain rfl : l1 = l2 := h1
        obtain ⟨rfl, y, hy, hlt, hsub, hres⟩ := h2
        obtain ⟨e2, a2, w2, hp2, harr2⟩ := ih (m y) (by omega) y C' w1 tm' rfl hy (hres.1 _ _ h3) (hsub.le C' w1 tm' h4)
        refine ⟨e2, a2, w2, ?_, .of_steps (harr _ hg) harr2⟩
        obtain ⟨z2, C2, E2, s2, g1, g2, g3, g4, g5, g6, g7⟩ := hp2
        exact Post.trans h6 h7 ⟨z2, C2, E2, s2, g1, g2, g3, g4, g5, g6.mono fun b hb => .inl (hres.2 b hb), fun b hb => (g7 b hb).imp (hres.2 b) id⟩
      case ret.ret => exact ⟨_, _, _, ⟨.ret, C', E', s', h1, h2, h3, h4, rfl, h6, h7⟩, harr⟩
      case panic.panic => exact ⟨_, _, _, ⟨_, C', E', s', h1, h2, h3, h4, rfl, h6, h7⟩, harr⟩
  obtain ⟨e, a1, w1, hp, harr⟩ := first C w tm hs hE b (.inScope c :: k) cs
  obtain ⟨z, C', E', s', h1, h2, h3, h4, h5, h6, h7⟩ := hp
  obtain ⟨tm', df⟩ := a1
  subst h5
  cases e <;> cases z <;> first | exact h1.elim | skip
  case normal.normal => exact ⟨.normal, _, _, ⟨.normal, C', E', s', trivial, h2, h3, h4, rfl, h6, h7⟩, .head step_scope (Steps.trans harr (.one step_inScope))⟩
  case exit.exit id id' => exact ⟨.exit id, _, _, ⟨.exit id', C', E', s', h1, h2, h3, h4, rfl, h6, h7⟩, fun k' hk => .head step_scope (harr k' (by simp [exitTo, hk]))⟩
  case goto.goto l1 l2 =>
    obtain rfl : l1 = l2 := h1
    obtain ⟨rfl, y, hy, hsub, hres⟩ := h2
    obtain ⟨e2, a2, w2, hp2, harr2⟩ := key (m y) y C' w1 tm' rfl hy (hres.1 _ _ h3) (hsub.le C' w1 tm' h4)
    refine ⟨e2, a2, w2, ?_, .of_steps (.head step_scope (harr _ hg)) harr2⟩
    obtain ⟨z2, C2, E2, s2, g1, g2, g3, g4, g5, g6, g7⟩ := hp2
    exact Post.trans h6 h7 ⟨z2, C2, E2, s2, g1, g2, g3, g4, g5, g6.mono fun b hb => .inl (hres.2 b hb), fun b hb => (g7 b hb).imp (hres.2 b) id⟩
  case ret.ret => exact ⟨_, _, _, ⟨.ret, C', E', s', h1, h2, h3, h4, rfl, h6, h7⟩, .of_steps (.one step_scope) harr⟩
  case panic.panic => exact ⟨_, _, _, ⟨_, C', E', s', h1, h2, h3, h4, rfl, h6, h7⟩, .of_steps (.one step_scope) harr⟩

variable {o : Oper} {τ : Operand → TV}
/-! ### Structs of plain fields, side by side -/
inductive EqC (P : Program) : TypeId → TV → TV → Bool → Prop
  | int {T : TypeId} {k k' : IntKind} {m n : Int} : P.underlying T = some (.int k') → EqC P T (.int k m) (.int k n) (m == n)
  | bool {T : TypeId} {a b : Bool} : P.underlying T = some .bool → EqC P T (.bool a) (.bool b) (a == b)
  | str {T : TypeId} {a b : ByteArray} : P.underlying T = some .string → EqC P T (.str a) (.str b) (a.toList == b.toList)
inductive EqCs (P : Program) : List Field → Nat → List TV → List TV → Bool → Prop
  | nil {i : Nat} : EqCs P [] i [] [] true
  | cons {f : Field} {fs : List Field} {i : Nat} {a b : TV} {as bs : List TV} {x y : Bool} : f.name ≠ "_" → f.offset = i → EqC P f.type a b x → EqCs P fs (i + 1) as bs y → EqCs P (f :: fs) i (a :: as) (b :: bs) (x && y)
theorem EqC.run {T : TypeId} {a b : TV} {x : Bool} (h : EqC P T a b x) {C : Claims} {w w' : World} {v u : Value} (ha : V C w a v) (hb : V C w b u) (d : Nat) : (Op.equalIn (d + 1) T v u).run P w' = .ok x w' ∧ (isAgg T).run P w' = .ok false w' := by
  cases h with
  | int hT => rw [V] at ha hb; rw [ha.1, hb.1]; exact ⟨run_equalIn_int w' d T _ _ _ _ hT, by simp [isAgg, run_underlying hT]⟩
  | bool hT => rw [V] at ha hb; rw [ha, hb]; exact ⟨run_equalIn_bool' w' d T _ _ hT, by simp [isAgg, run_underlying hT]⟩
  | str hT => rw [V] at ha hb; rw [ha.1, hb.1]; exact ⟨run_equalIn_string w' d T _ _ hT, by simp [isAgg, run_underlying hT]⟩
theorem EqCs.run {fs : List Field} {i : Nat} {as bs : List TV} {r : Bool} (h : EqCs P fs i as bs r) {C : Claims} {w : World} (d : Nat) : ∀ {xs ys : Array Value}, VL C w as (xs.toList.drop i) → VL C w bs (ys.toList.drop i) → ∀ w', (Op.eqFields (d + 1) xs ys fs).run P w' = .ok r w' := by
  induction h with
  | nil => intro xs ys _ _ w'; simp [Op.eqFields]
  | @cons f fs i a b as bs x y h1 h2 h3 _ ih =>
    intro xs ys hx hy w'
    rw [VL] at hx hy
    obtain ⟨v, vs, e1, hv, hx⟩ := hx
    obtain ⟨u, us, e2, hu, hy⟩ := hy
    have g1 : xs[i]? = some v := by
      have : (xs.toList.drop i)[0]? = some v := by rw [e1]; rfl
      simpa using this
    have g2 : ys[i]? = some u := by
      have : (ys.toList.drop i)[0]? = some u := by rw [e2]; rfl
      simpa using this
    have hx' : xs.toList.drop (i + 1) = vs := by rw [← List.drop_drop, e1]; rfl
    have hy' : ys.toList.drop (i + 1) = us := by rw [← List.drop_drop, e2]; rfl
    have hr := ih (xs := xs) (ys := ys) (by rw [hx']; exact hx) (by rw [hy']; exact hy) w'
    obtain ⟨r1, r2⟩ := h3.run hv hu (w' := w') d
    simp only [Op.eqFields, h1, ne_eq, not_false_eq_true, if_true]
    simp only [part, h2, Sem.run_bind, r2, Result.andThen_ok, g1, g2, Bool.false_eq_true, if_false, Sem.run_pure, r1]
    cases x
    · simp
    · simpa using hr
theorem p_aeq {T T' : TypeId} {x y : Operand} {as bs : List TV} {r : Bool} (hu : P.underlying T = some (.struct (P.fieldsOf T))) (hp : P.stoodInHeld T = false) (hm : P.eqGuardType P.depth T = false) (he : EqCs P (P.fieldsOf T).toList 0 as bs r)
    (ho : o.op = .binOp .eql T x y T') (h1 : τ x = .agg as) (h2 : τ y = .agg bs) : PureS P o τ s (.bool r) := PureS.val fun C w a hs hx => by
  obtain ⟨hx1, hx2⟩ := ops_bin ho hx
  rw [h1, V] at hx1; rw [h2, V] at hx2
  obtain ⟨xs, e1, v1⟩ := hx1
  obtain ⟨ys, e2, v2⟩ := hx2
  refine ⟨.bool r, bin_run (C := C) ho e1 e2 (run_eqGuard_agg w _ T x y xs ys hm) ?_, by rw [V]⟩
  rw [run_eql_struct, run_equalIn_agg w 9999 T xs ys hu hp, he.run (C := C) (w := w) 9998 (by simpa using v1) (by simpa using v2) w]
  rfl
theorem p_ane {T T' : TypeId} {x y : Operand} {as bs : List TV} {r : Bool} (hu : P.underlying T = some (.struct (P.fieldsOf T))) (hp : P.stoodInHeld T = false) (hm : P.eqGuardType P.depth T = false) (he : EqCs P (P.fieldsOf T).toList 0 as bs r)
    (ho : o.op = .binOp .neq T x y T') (h1 : τ x = .agg as) (h2 : τ y = .agg bs) : PureS P o τ s (.bool (!r)) := PureS.val fun C w a hs hx => by
  obtain ⟨hx1, hx2⟩ := ops_bin ho hx
  rw [h1, V] at hx1; rw [h2, V] at hx2
  obtain ⟨xs, e1, v1⟩ := hx1
  obtain ⟨ys, e2, v2⟩ := hx2
  refine ⟨.bool (!r), bin_run (C := C) ho e1 e2 (run_eqGuard_agg w _ T x y xs ys hm) ?_, by rw [V]⟩
  rw [run_neq_struct, run_equalIn_agg w 9999 T xs ys hu hp, he.run (C := C) (w := w) 9998 (by simpa using v1) (by simpa using v2) w]
  rfl

/-! ### Bytes and strings -/
def bytesOf (l : List Int) : ByteArray := ⟨(l.map fun n => UInt8.ofNat n.toNat).toArray⟩
/-! ### Slices by what they are of -/
/-- A part of a list, by its ends. -/
def cut {α : Type} (l : List α) (i j : Int) : Option (List α) := if 0 ≤ i ∧ i ≤ j ∧ j ≤ l.length then some ((l.take j.toNat).drop i.toNat) else none
theorem cut_some {α : Type} {l m : List α} {i j : Int} (h : cut l i j = some m) : 0 ≤ i ∧ i ≤ j ∧ j ≤ l.length ∧ m = (l.take j.toNat).drop i.toNat := by
  unfold cut at h; split at h
  · rename_i hc; injection h with h; exact ⟨hc.1, hc.2.1, hc.2.2, h.symm⟩
  · cases h
theorem p_cut {T : TypeId} {x : Operand} {l h : Option Operand} {ow : Own} {k : Nat} {i j : Int} {α : Type} {f : α → TV} {xs m : List α} (hc : cut xs i j = some m) (hT : slB P T k = true) (ho : o.op = .slice T x l h none) (h1 : τ x = .slice ow k (xs.map f))
    (hl : (l = none ∧ i = 0) ∨ ∃ y kk, l = some y ∧ τ y = .int kk i) (hh : (h = none ∧ j = xs.length) ∨ ∃ y kk, h = some y ∧ τ y = .int kk j) : PureS P o τ s (.slice .ro k (m.map f)) := by
  obtain ⟨h0, hij, hj, rfl⟩ := cut_some hc
  have := p_slice (s := s) (i := i) (j := j) hT ho h1 hl (hh.imp_left fun h => by simpa using h) h0 hij (by simpa using hj)
  rw [← List.map_take, ← List.map_drop] at this
  exact this

/-- What an append comes to, where it is not too long. -/
def app {α : Type} (bytes : Nat) (xs ys : List α) : Option (List α) := if (xs.length + ys.length) * bytes ≤ 140737488355328 then some (xs ++ ys) else none
theorem app_some {α : Type} {bytes : Nat} {xs ys zs : List α} (h : app bytes xs ys = some zs) : (xs.length + ys.length) * bytes ≤ 140737488355328 ∧ zs = xs ++ ys := by
  unfold app at h; split at h
  · injection h with h; exact ⟨by assumption, h.symm⟩
  · cases h
/-- The elements' cells lie one by one. -/
def flatE {α : Type} (f : α → TV) : Prop := ∀ a, allOne (f a).cells = true ∧ (f a).known = true ∧ ∀ vs, f a ≠ .tuple vs
theorem p_app {T e k bytes : Nat} {x y : Operand} {oy : Own} {kx ky : Nat} {α : Type} {f : α → TV} {xs ys zs : List α} (hz : app bytes xs ys = some zs) (hf : flatE f) (hT : appB P T e k bytes = true) (ho : o.op = .call { callee := .builtin .append, args := #[x, y], argTypes := #[T, T] })
    (h1 : τ x = .slice .full kx (xs.map f)) (h2 : τ y = .slice oy ky (ys.map f)) (hkx : xs = [] ∨ kx = k) (hky : ys = [] ∨ ky = k) : PureS P o τ s (.slice .ro k (zs.map f)) := by
  obtain ⟨hb, rfl⟩ := app_some hz
  have := p_append (s := s) hT ho h1 h2 (hkx.imp_left fun h => by simp [h]) (hky.imp_left fun h => by simp [h]) (fun y hy => by obtain ⟨a, _, rfl⟩ := List.mem_map.1 hy; exact hf a) (by simpa using hb)
  rw [← List.map_append] at this
  exact this
theorem a_app {T e k bytes : Nat} {x y : Operand} {pre r post : Res} {ow oy : Own} {kx ky : Nat} {α : Type} {f : α → TV} {xs ys zs : List α} (hz : app bytes xs ys = some zs) (hf : flatE f) (hT : appB P T e k bytes = true) (ho : o.op = .call { callee := .builtin .append, args := #[x, y], argTypes := #[T, T] })
    (h1 : opTV E x = .slice ow kx (xs.map f)) (h2 : opTV E y = .slice oy ky (ys.map f)) (hkx : xs = [] ∨ kx = k) (hky : ys = [] ∨ ky = k) (hown : Owned e k ow xs.length r) (F : Res → Res) (hF : ∀ r, F r = pre ++ r ++ post) (hs' : s = F r) :
    AStep P n o E s Q fun E' s' => ∃ ow' r', Owned e k ow' zs.length r' ∧ E' = putE E o.dst (.slice ow' k (zs.map f)) ∧ s' = F r' := by
  obtain ⟨hb, rfl⟩ := app_some hz
  rw [hF] at hs'
  simp only [hF]
  have := a_append (n := n) (Q := Q) hT ho h1 h2 (hkx.imp_left fun h => by simp [h]) (hky.imp_left fun h => by simp [h]) (fun y hy => by obtain ⟨a, _, rfl⟩ := List.mem_map.1 hy; exact hf a) (by simpa using hown) hs' (by simpa using hb)
  simpa [List.map_append] using this
theorem p_bslice {T len : Nat} {parts : Array (Nat × Operand)} {k : Nat} {α : Type} {f : α → TV} {xs : List α} (hf : ∀ a, (f a).known = true ∧ (∀ vs, f a ≠ .tuple vs) ∧ (f a).cells.length = k) (hT : slB P T k = true) (hz : ∃ e z, P.underlying T = some (.slice e) ∧ zeroB P e z ∧ z.cells.size = k) (hk0 : Nat.blt 0 k = true)
    (ho : o.op = .buildSlice T len parts) (hlen : parts.size = len) (hord : inOrder 0 parts.toList = true) (hbig : Nat.ble (len * k) 16777216 = true) (hxs : (parts.toList.map Prod.snd).map τ = xs.map f) : PureS P o τ s (.slice .full k (xs.map f)) := by
  rw [← hxs]
  refine p_buildSlice hT ho hlen hord hz (Nat.le_of_ble_eq_true hbig) (by simpa using hk0) fun x hx => ?_
  have : τ x ∈ xs.map f := by rw [← hxs]; exact List.mem_map_of_mem hx
  obtain ⟨a, _, e⟩ := List.mem_map.1 this
  rw [← e]; exact hf a
theorem p_bsliceS {T len : Nat} {parts : Array (Nat × Operand)} {k : Nat} {α : Type} {f : α → TV} {g : α → List TV} {xs : List α} (hg : ∀ a, f a = .agg (g a)) (hk : ∀ a, (g a).length = k) (hT : slB P T k = true) (hz : ∃ e z, P.underlying T = some (.slice e) ∧ zeroB P e z ∧ z.cells.size = k) (hk0 : Nat.blt 0 k = true)
    (ho : o.op = .buildSlice T len parts) (hlen : parts.size = len) (hord : inOrder 0 parts.toList = true) (hbig : Nat.ble (len * k) 16777216 = true) (hxs : (parts.toList.map Prod.snd).map τ = xs.map fun a => .agg (g a)) : PureS P o τ s (.slice .full k (xs.map f)) := by
  have e : f = fun a => .agg (g a) := funext hg
  rw [e]
  exact p_bslice (fun a => ⟨rfl, nofun, hk a⟩) hT hz hk0 ho hlen hord hbig hxs
theorem flatS {α : Type} {f : α → TV} {g : α → List TV} (hg : ∀ a, f a = .agg (g a)) (h : ∀ a, allOne (g a) = true) : flatE f := fun a => by rw [hg]; exact ⟨h a, rfl, nofun⟩
theorem flat1 {α : Type} {f : α → TV} (h : ∀ a, (f a).one = true) : flatE f := fun a => by
  have := h a
  cases hf : f a <;> rw [hf] at this <;> first | exact ⟨rfl, rfl, nofun⟩ | cases this
end
theorem rl {P : Program} {n : Nat} {E : Env} {s : Res} {Q : AQ} {ops : Array Oper} {draw : Bool} {i : Nat} {o : Oper} {d : Tmp} {u0 u : TV} (ho : ops[i]? = some o) (hg : guardIs ops o E true) (hd : o.dst = some d) (hp : PureS P o (opTV E) s u0) (he : TVle u0 u) (k : AReg P n ops draw Q (i + 1) ((d, u) :: E) s) : AReg P n ops draw Q i E s :=
  rp ho hg hd (hp.le he) k
theorem ra {P : Program} {n : Nat} {E : Env} {s : Res} {Q : AQ} {ops : Array Oper} {i : Nat} {o : Oper} {K : Env → Res → Prop} (ho : ops[i]? = some o) (hg : guardIs ops o E true) (hp : AStep P n o E s Q K) (k : ∀ E' s', K E' s' → AReg P n ops false Q (i + 1) E' s') : AReg P n ops false Q i E s := .act o K rfl ho hg hp k
end Go.Proofs.YtdkiijhmmmfciaaDoor
