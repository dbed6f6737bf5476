/- Rules in the form in which they are used. -/
import Derived.Test.YtdkiijhmmmfciaaDoorTJ
set_option linter.unusedVariables false
set_option linter.unusedSimpArgs false
namespace Go.Proofs.YtdkiijhmmmfciaaDoor
open Go

/-- What a smaller environment says holds in the greater one. -/
def Sub (E : Env) : Env → Prop
  | [] => True
  | (t, u) :: r => look E t = u ∧ Sub E r
theorem Sub.look {E : Env} : ∀ {E' : Env}, Sub E E' → ∀ t, Go.Proofs.YtdkiijhmmmfciaaDoor.look E' t = .any ∨ Go.Proofs.YtdkiijhmmmfciaaDoor.look E' t = Go.Proofs.YtdkiijhmmmfciaaDoor.look E t
  | [], _, t => .inl rfl
  | (k, u) :: r, h, t => by
    rw [look_cons]
    by_cases e : t = k
    · rw [if_pos e, e]; exact .inr h.1.symm
    · rw [if_neg e]; exact h.2.look t
theorem Sub.le {n : Nat} {E E' : Env} (h : Sub E E') : EnvLe n E E' := fun C w tm he => ⟨he.size, fun t ht => by
  rcases h.look t with e | e
  · rw [e, V]; trivial
  · rw [e]; exact he.at_ t ht⟩

section
variable {P : Program} {n : Nat} {E : Env} {s : Res} {Q : AQ}

theorem ac_while {c : Code} {σ : Type} (canon : σ → Env) (res : σ → Res) (m : σ → Nat) (inv : σ → Prop) (x0 : σ) (h0 : inv x0) (hE : Sub E (canon x0)) (hs : s = res x0)
    (round : ∀ x, inv x → ACode P n c (canon x) (res x) (fun e E' s' => match e with | .normal => ∃ y, inv y ∧ m y < m x ∧ Sub E' (canon y) ∧ s' = res y | e => Q e E' s')) : ACode P n (.loop c) E s Q := by
  refine ac_loop (fun E s k => ∃ x, inv x ∧ k = m x ∧ Sub E (canon x) ∧ s = res x) (m x0) ⟨x0, h0, rfl, hE, hs⟩ ?_
  rintro E s k ⟨x, hx, rfl, hsub, rfl⟩
  refine ac_weak hsub.le ((round x hx).mono ?_)
  intro e E' s' h
  cases e with
  | normal => obtain ⟨y, h1, h2, h3, h4⟩ := h; exact ⟨m y, h2, y, h1, rfl, h3, h4⟩
  | _ => exact h

theorem PureS.eq {o : Oper} {τ : Operand → TV} {u u' : TV} (h : PureS P o τ s u) (e : u = u') : PureS P o τ s u' := e ▸ h

variable {ops : Array Oper} {draw : Bool} {i : Nat} {o : Oper} {d : Tmp}
theorem guard_at {j : Nat} {want c b : Bool} {oj : Oper} {d' : Tmp} (h1 : o.guard = some (j, want)) (h2 : ops[j]? = some oj) (h3 : oj.dst = some d') (h4 : look E d' = .bool c) (h5 : b = (c == want)) : guardIs ops o E b := by
  unfold guardIs
  rw [h1]
  exact ⟨oj, d', h2, h3, .inl ⟨c, h4, h5⟩⟩
theorem guard_un {j : Nat} {want : Bool} {oj : Oper} {d' : Tmp} (h1 : o.guard = some (j, want)) (h2 : ops[j]? = some oj) (h3 : oj.dst = some d') (h4 : look E d' = .tuple []) : guardIs ops o E false := by
  unfold guardIs
  rw [h1]
  exact ⟨oj, d', h2, h3, .inr ⟨h4, rfl⟩⟩
/-- A test that guards what follows: both ways. -/
theorem rcase (t : Nat) {b : Bool} (h : look E t = .bool b) (ht : b = true → AReg P n ops draw Q i ((t, .bool true) :: E) s) (hf : b = false → AReg P n ops draw Q i ((t, .bool false) :: E) s) : AReg P n ops draw Q i E s := by
  have key : ∀ c, b = c → ∀ t', look E t' = look ((t, .bool c) :: E) t' := fun c e t' => by
    rw [look_cons]
    by_cases ht : t' = t
    · rw [if_pos ht, ht, h, e]
    · rw [if_neg ht]
  cases b with
  | true => exact .weak (key true rfl) (ht rfl)
  | false => exact .weak (key false rfl) (hf rfl)
theorem rp {u : TV} (ho : ops[i]? = some o) (hg : guardIs ops o E true) (hd : o.dst = some d) (hp : PureS P o (opTV E) s u) (k : AReg P n ops draw Q (i + 1) ((d, u) :: E) s) : AReg P n ops draw Q i E s :=
  .pure o u ho hg hp (by rw [hd]; exact k)
theorem rp0 {u : TV} (ho : ops[i]? = some o) (hg : guardIs ops o E true) (hd : o.dst = none) (hp : PureS P o (opTV E) s u) (k : AReg P n ops draw Q (i + 1) E s) : AReg P n ops draw Q i E s :=
  .pure o u ho hg hp (by rw [hd]; exact k)
theorem rskip (ho : ops[i]? = some o) (hg : guardIs ops o E false) (hd : o.dst = some d) (k : AReg P n ops draw Q (i + 1) ((d, .tuple []) :: E) s) : AReg P n ops draw Q i E s :=
  .skip o ho hg (by rw [hd]; exact k)
/-- A variable of a struct. -/
theorem rbox {T : TypeId} {x : Operand} {cs : List TV} (ho : ops[i]? = some o) (hg : guardIs ops o E true) (hd : o.dst = some d) (hop : o.op = .box T x) (hx : opTV E x = .agg cs) (k : ∀ b, AReg P n ops false Q (i + 1) ((d, .ptr b 0) :: E) ((b, .box cs) :: s)) : AReg P n ops false Q i E s :=
  .act o _ rfl ho hg (a_box hop (by rw [hx]; rfl) (by rw [hx]; simp)) (by
    rintro E' s' ⟨b, rfl, rfl⟩
    rw [hd, hx]
    exact k b)
/-- A variable of one cell. -/
theorem rbox1 {T : TypeId} {x : Operand} {u : TV} (ho : ops[i]? = some o) (hg : guardIs ops o E true) (hd : o.dst = some d) (hop : o.op = .box T x) (hx : opTV E x = u) (h1 : u.one = true) (k : ∀ b, AReg P n ops false Q (i + 1) ((d, .ptr b 0) :: E) ((b, .box [u]) :: s)) : AReg P n ops false Q i E s :=
  .act o _ rfl ho hg (a_box hop (by rw [hx]; cases u <;> first | rfl | cases h1) (by rw [hx]; rintro vs rfl; cases h1)) (by
    rintro E' s' ⟨b, rfl, rfl⟩
    rw [hd, hx]
    have : u.cells = [u] := by cases u <;> first | rfl | cases h1
    rw [this]
    exact k b)
theorem ralloc {T : TypeId} {z : Value} {cs : List TV} (hz : zeroB P T z) (hc : constOk z = true) (ho : ops[i]? = some o) (hg : guardIs ops o E true) (hd : o.dst = some d) (hop : o.op = .alloc T) (hx : (constTV z).cells = cs) (hk : (constTV z).known = true) (ht : ∀ vs, constTV z ≠ .tuple vs)
    (k : ∀ b, AReg P n ops false Q (i + 1) ((d, .ptr b 0) :: E) ((b, .box cs) :: s)) : AReg P n ops false Q i E s :=
  .act o _ rfl ho hg (a_alloc hz hc hk ht hop) (by
    rintro E' s' ⟨b, rfl, rfl⟩
    rw [hd, hx]
    exact k b)
theorem rallocD {T : TypeId} {z : Value} {cs : List TV} (hz : zeroB P T z) (hc : constOk z = true) (ho : ops[i]? = some o) (hgd : o.guard = none) (hd : o.dst = some d) (hop : o.op = .alloc T) (hx : (constTV z).cells = cs) (hk : (constTV z).known = true) (ht : ∀ vs, constTV z ≠ .tuple vs) (htl : tailOk ops (i + 1) = true)
    (k : ∀ b, AReg P n ops false Q (i + 1) ((d, .ptr b 0) :: E) ((b, .box cs) :: s)) : AReg P n ops true Q i E s := by
  subst hx
  exact .fresh o d _ rfl ho hd hgd (alloc_S hz hc hk ht hop) htl k
theorem rstore {T : TypeId} {x y : Operand} {b f j : Nat} {cs us : List TV} {ag : Bool} {sz : Nat} (hT : tiB P T ag sz = true) (ho : ops[i]? = some o) (hg : guardIs ops o E true) (hd : o.dst = none) (hop : o.op = .store T x y) (h1 : opTV E x = .ptr b f) (hj : s[j]? = some (b, .box cs))
    (hy : (opTV E y).cells = us) (hk : (opTV E y).known = true) (ht : ∀ vs, opTV E y ≠ .tuple vs) (hsz : us.length = sz) (hone : allOne us = true) (hl : f + sz ≤ cs.length) (k : AReg P n ops false Q (i + 1) E (s.set j (b, .box (splice cs f us)))) : AReg P n ops false Q i E s :=
  .act o _ rfl ho hg (a_store hT hop h1 hj hk ht (by rw [hy]; exact hsz) (by rw [hy]; exact hone) hl hd) (by
    rintro E' s' ⟨rfl, rfl⟩
    rw [hy]
    exact k)

theorem body_ret {R : ARes → Res → Prop} {t : Nat} {u : TV} (ht : t < n) (hu : look E t = u) (hR : R (.ret u) s) : bodyQ P n [.tmp t] R .ret E s := ⟨u, ⟨ht, hu.symm⟩, hR⟩
theorem body_ret2 {R : ARes → Res → Prop} {t t' : Nat} {u u' : TV} (ht : t < n) (ht' : t' < n) (hu : look E t = u) (hu' : look E t' = u') (hR : R (.ret (.tuple [u, u'])) s) : bodyQ P n [.tmp t, .tmp t'] R .ret E s :=
  ⟨.tuple [u, u'], ⟨[u, u'], rfl, rfl, fun i r x hr hx => by
    match i, hr, hx with
    | 0, hr, hx => cases hr; cases hx; exact ⟨ht, hu.symm⟩
    | 1, hr, hx => cases hr; cases hx; exact ⟨ht', hu'.symm⟩⟩, hR⟩
theorem body_ret0 {R : ARes → Res → Prop} (hR : R (.ret (.tuple [])) s) : bodyQ P n [] R .ret E s := ⟨.tuple [], ⟨[], rfl, rfl, fun i r x hr => by simp at hr⟩, hR⟩
theorem body_end0 {R : ARes → Res → Prop} (hR : R (.ret (.tuple [])) s) : bodyQ P n [] R .normal E s := ⟨.tuple [], ⟨[], rfl, rfl, fun i r x hr => by simp at hr⟩, hR⟩
theorem ret_bool {b c : Bool} (h : b = c) : ARes.ret (.bool b) = .ret (.bool c) := by rw [h]
theorem ret_int {k : IntKind} {b c : Int} (h : b = c) : ARes.ret (.int k b) = .ret (.int k c) := by rw [h]

/-- A slice is never too long, nor is a string. -/
theorem ac_bound {c : Code} (t : Nat) (ht : t < n) {ow : Own} {k : Nat} {xs : List TV} (h : look E t = .slice ow k xs) (hh : xs.length ≤ 281474976710656 → ACode P n c E s Q) : ACode P n c E s Q := fun C w tm hs hE => by
  have := hE.at_ t ht
  rw [h, V] at this
  obtain ⟨A, cc, us, _, _, hb, hV, _⟩ := this
  exact hh (by rw [← VL_length hV]; exact hb) C w tm hs hE
theorem ac_sbound {c : Code} (t : Nat) (ht : t < n) {m : ByteArray} (h : look E t = .str m) (hh : m.size ≤ 9223372036854775807 → ACode P n c E s Q) : ACode P n c E s Q := fun C w tm hs hE => by
  have := hE.at_ t ht
  rw [h, V] at this
  exact hh this.2 C w tm hs hE
theorem ac_ibound {c : Code} (t : Nat) (ht : t < n) {k : IntKind} {m : Int} (h : look E t = .int k m) (hh : lo k ≤ m → m ≤ hi k → ACode P n c E s Q) : ACode P n c E s Q := fun C w tm hs hE => by
  have := hE.at_ t ht
  rw [h, V, fits_iff] at this
  exact hh this.2.1 this.2.2 C w tm hs hE

section
variable {τ : Operand → TV}
theorem p_idx {T : TypeId} {x y : Operand} {ow : Own} {k : Nat} {kk : IntKind} {i : Int} {α : Type} {f : α → TV} {g : α → List TV} {l : List α} (hf : ∀ a, f a = .agg (g a)) (d : α) (hT : slB P T k = true) (ho : o.op = .indexAddr T x y) (h1 : τ x = .slice ow k (l.map f)) (h2 : τ y = .int kk i) (h0 : 0 ≤ i) (hlt : i < l.length) :
    PureS P o τ s (.rptr (g (l.getD i.toNat d))) := by
  have h : (l.map f)[i.toNat]? = some (f (l.getD i.toNat d)) := by
    rw [List.getElem?_map, List.getD_eq_getElem?_getD, List.getElem?_eq_getElem (show i.toNat < l.length by omega)]; rfl
  have := p_indexAddr (s := s) hT ho h1 h2 h0 h (by rw [hf]; rfl) (by rw [hf]; simp)
  rw [hf] at this
  exact this
theorem p_idx1 {T : TypeId} {x y : Operand} {ow : Own} {k : Nat} {kk : IntKind} {i : Int} {α : Type} {f : α → TV} {l : List α} (hf : ∀ a, (f a).one = true) (d : α) (hT : slB P T k = true) (ho : o.op = .indexAddr T x y) (h1 : τ x = .slice ow k (l.map f)) (h2 : τ y = .int kk i) (h0 : 0 ≤ i) (hlt : i < l.length) :
    PureS P o τ s (.rptr [f (l.getD i.toNat d)]) := by
  have h : (l.map f)[i.toNat]? = some (f (l.getD i.toNat d)) := by
    rw [List.getElem?_map, List.getD_eq_getElem?_getD, List.getElem?_eq_getElem (show i.toNat < l.length by omega)]; rfl
  have h1' := hf (l.getD i.toNat d)
  have := p_indexAddr (s := s) hT ho h1 h2 h0 h (by cases hh : f (l.getD i.toNat d) <;> first | rfl | (rw [hh] at h1'; cases h1')) (by rintro vs hh; rw [hh] at h1'; cases h1')
  have e : (f (l.getD i.toNat d)).cells = [f (l.getD i.toNat d)] := by
    cases hh : f (l.getD i.toNat d) <;> first | rfl | (rw [hh] at h1'; cases h1')
  rw [e] at this
  exact this
theorem p_add' {T T' : TypeId} {x y : Operand} {m n : Int} (ho : o.op = .binOp .add T x y T') (h1 : τ x = .int .i64 m) (h2 : τ y = .int .i64 n) (h3 : -9223372036854775808 ≤ m + n) (h4 : m + n ≤ 9223372036854775807) : PureS P o τ s (.int .i64 (m + n)) := by
  have := p_add (P := P) (s := s) ho h1 h2
  rwa [wrap_in h3 h4] at this
theorem p_sub' {T T' : TypeId} {x y : Operand} {m n : Int} (ho : o.op = .binOp .sub T x y T') (h1 : τ x = .int .i64 m) (h2 : τ y = .int .i64 n) (h3 : -9223372036854775808 ≤ m - n) (h4 : m - n ≤ 9223372036854775807) : PureS P o τ s (.int .i64 (m - n)) := by
  have := p_sub (P := P) (s := s) ho h1 h2
  rwa [wrap_in h3 h4] at this
end
end
end Go.Proofs.YtdkiijhmmmfciaaDoor
