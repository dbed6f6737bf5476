/- Rules for printed walks. -/
import Derived.Test.YtdkiijhmmmfciaaDoorTK
set_option linter.unusedVariables false
set_option linter.unusedSimpArgs false
namespace Go.Proofs.YtdkiijhmmmfciaaDoor
open Go

/-! ### What printed functions are made of -/
def bnd {α β : Type} (o : Option α) (f : α → Option β) : Option β := o.bind f
theorem bnd_some {α β : Type} {o : Option α} {f : α → Option β} {r : β} (h : bnd o f = some r) : ∃ v, o = some v ∧ f v = some r := Option.bind_eq_some_iff.1 h
theorem bnd_of {α β : Type} {o : Option α} {v : α} (h : o = some v) (f : α → Option β) : bnd o f = f v := by rw [h]; rfl
theorem cond_t {α : Type} {c : Bool} {a b r : α} (hc : c = true) (h : cond c a b = r) : a = r := by subst hc; exact h
theorem cond_f {α : Type} {c : Bool} {a b r : α} (hc : c = false) (h : cond c a b = r) : b = r := by subst hc; exact h
def idx {α : Type} (l : List α) (i : Int) : Option α := if 0 ≤ i then l[i.toNat]? else none
theorem idx_some {α : Type} {l : List α} {i : Int} {v : α} (h : idx l i = some v) : 0 ≤ i ∧ l[i.toNat]? = some v := by
  unfold idx at h; split at h
  · exact ⟨by assumption, h⟩
  · cases h
/-- A check that must hold. -/
def chk {β : Type} (c : Bool) (k : Option β) : Option β := cond c k none
theorem chk_some {β : Type} {c : Bool} {k : Option β} {r : β} (h : chk c k = some r) : c = true ∧ k = some r := by
  cases c with
  | true => exact ⟨rfl, h⟩
  | false => cases h

/-! ### Floats: a number that is none, or bits -/
abbrev Fl := Option Nat
def encF : Fl → TV
  | none => .nan .f64
  | some b => .float .f64 b
theorem one_fl (x : Fl) : (encF x).one = true := by cases x <;> rfl
def encSl {α : Type} (k : Nat) (f : α → TV) (l : List α) : TV := .slice .ro k (l.map f)
theorem encSl_one {α : Type} {k : Nat} {f : α → TV} (l : List α) : (encSl k f l).one = true := rfl

/-! ### Knowing less -/
def TVle (a b : TV) : Prop := ∀ (C : Claims) (w : World) (v : Value), V C w a v → V C w b v
theorem TVle.refl (a : TV) : TVle a a := fun _ _ _ h => h
theorem TVle.any (a : TV) : TVle a .any := fun _ _ _ _ => by rw [V]; trivial
theorem TVle.ro {ow : Own} {k : Nat} {xs : List TV} : TVle (.slice ow k xs) (.slice .ro k xs) := fun C w v h => by
  rw [V] at h ⊢
  obtain ⟨A, c, us, h1, h2, h3, h4, h5, h6, h7⟩ := h
  exact ⟨A, c, us, h1, h2, h3, h4, h5, trivial, h7⟩
theorem TVle.nil {ow : Own} {k k' : Nat} : TVle (.slice ow k []) (.slice ow k' []) := fun C w v h => by
  rw [V] at h ⊢
  obtain ⟨A, c, us, h1, h2, h3, h4, h5, h6, h7⟩ := h
  rw [VL] at h4
  exact ⟨A, c, us, h1, h2, h3, by rw [VL]; exact h4, by subst h4; simp, h6, h7⟩
theorem TVle.nilro {ow : Own} {k k' : Nat} : TVle (.slice ow k []) (.slice .ro k' []) := fun C w v h => TVle.ro C w v (TVle.nil C w v h)
def TVles : List TV → List TV → Prop
  | [], [] => True
  | a :: as, b :: bs => TVle a b ∧ TVles as bs
  | _, _ => False
theorem TVles.at {C : Claims} {w : World} : ∀ {as bs : List TV}, TVles as bs → ∀ {vs : List Value}, VL C w as vs → VL C w bs vs
  | [], [], _, _, h => h
  | a :: as, b :: bs, hl, vs, h => by
    rw [VL] at h ⊢
    obtain ⟨v, vs', rfl, h1, h2⟩ := h
    exact ⟨v, vs', rfl, hl.1 C w v h1, hl.2.at h2⟩
  | [], _ :: _, hl, _, _ => hl.elim
  | _ :: _, [], hl, _, _ => hl.elim
theorem TVles.refl : ∀ as : List TV, TVles as as
  | [] => trivial
  | a :: as => ⟨TVle.refl a, TVles.refl as⟩
theorem TVle.agg {as bs : List TV} (h : TVles as bs) : TVle (.agg as) (.agg bs) := fun C w v hv => by
  rw [V] at hv ⊢
  obtain ⟨vs, h1, h2⟩ := hv
  exact ⟨vs, h1, h.at h2⟩
theorem TVle.tuple {as bs : List TV} (h : TVles as bs) : TVle (.tuple as) (.tuple bs) := fun C w v hv => by
  rw [V] at hv ⊢
  obtain ⟨vs, h1, h2⟩ := hv
  exact ⟨vs, h1, h.at h2⟩
theorem AFn.le {P : Program} {f : FuncId} {args args' : List TV} {s : Res} {R : ARes → Res → Prop} (h : AFn P f args s R) (hle : TVles args' args) : AFn P f args' s R :=
  fun C w vs hs hA => h C w vs hs (hle.at hA)

section
variable {P : Program} {n : Nat} {E : Env} {s : Res} {Q : AQ}
theorem PureS.le {o : Oper} {τ : Operand → TV} {u u' : TV} (h : PureS P o τ s u) (e : TVle u u') : PureS P o τ s u' := by
  intro C w a hs hx Q
  refine Oper.wp_mono ?_ (h C w a hs hx Q)
  rintro act w' ⟨C', v, h1, h2, h3⟩
  exact ⟨C', v, h1, e C' w' v h2, h3⟩
theorem EnvLe.put {t : Nat} {u : TV} (h : TVle (look E t) u) : EnvLe n E ((t, u) :: E) := fun C w tm he => ⟨he.size, fun t' ht => by
  rw [look_cons]
  split
  · rename_i e; subst e; exact h C w _ (he.at_ _ ht)
  · exact he.at_ t' ht⟩
theorem ac_le {c : Code} (t : Nat) {u : TV} (h : TVle (look E t) u) (k : ACode P n c ((t, u) :: E) s Q) : ACode P n c E s Q := ac_weak (EnvLe.put h) k
/-- Less is known, of some. -/
def SubLe (E : Env) : Env → Prop
  | [] => True
  | (t, u) :: r => TVle (look E t) u ∧ SubLe E r
theorem SubLe.le {E E' : Env} (h : SubLe E E') : EnvLe n E E' := fun C w tm he => ⟨he.size, fun t ht => by
  induction E' with
  | nil => rw [look, V]; trivial
  | cons p r ih =>
    obtain ⟨t', u⟩ := p
    rw [look_cons]
    split
    · rename_i e; subst e; exact h.1 C w _ (he.at_ _ ht)
    · exact ih h.2⟩
theorem ac_rounds {c : Code} {σ : Type} (canon : σ → Env) (res : σ → Res) (m : σ → Nat) (inv : σ → Prop) (x0 : σ) (h0 : inv x0) (hE : SubLe E (canon x0)) (hs : s = res x0)
    (round : ∀ x, inv x → ACode P n c (canon x) (res x) (fun e E' s' => match e with | .normal => ∃ y, inv y ∧ m y < m x ∧ SubLe E' (canon y) ∧ s' = res y | e => Q e E' s')) : ACode P n (.loop c) E s Q := by
  refine ac_loop (fun E s k => ∃ x, inv x ∧ k = m x ∧ SubLe E (canon x) ∧ s = res x) (m x0) ⟨x0, h0, rfl, hE, hs⟩ ?_
  rintro E s k ⟨x, hx, rfl, hsub, rfl⟩
  refine ac_weak hsub.le ((round x hx).mono ?_)
  intro e E' s' h
  cases e with
  | normal => obtain ⟨y, h1, h2, h3, h4⟩ := h; exact ⟨m y, h2, y, h1, rfl, h3, h4⟩
  | _ => exact h
theorem ac_condT {c : Operand} {x y : Code} (ho : opndOk n c = true) (hc : opTV E c = .bool true) (hx : ACode P n x E s Q) : ACode P n (.cond c x y) E s Q := ac_cond ho hc (fun _ => hx) nofun
theorem ac_condF {c : Operand} {x y : Code} (ho : opndOk n c = true) (hc : opTV E c = .bool false) (hy : ACode P n y E s Q) : ACode P n (.cond c x y) E s Q := ac_cond ho hc nofun (fun _ => hy)
theorem perm_erase {α : Type} {x : α} : ∀ (s : List α) (i : Nat), s[i]? = some x → s.Perm (x :: s.eraseIdx i)
  | [], i, h => by simp at h
  | y :: s, 0, h => by simp at h; subst h; exact List.Perm.refl _
  | y :: s, i + 1, h => by
    rw [List.eraseIdx_cons_succ]
    exact ((perm_erase s i (by simpa using h)).cons y).trans (List.Perm.swap _ _ _)
theorem pk {s r fr : Res} {x : Nat × RS} (i : Nat) (h : s[i]? = some x) (k : (s.eraseIdx i).Perm (r ++ fr)) : s.Perm (x :: r ++ fr) := (perm_erase s i h).trans (k.cons x)

section
variable {o : Oper} {τ : Operand → TV}
theorem p_ix {T : TypeId} {x y : Operand} {ow : Own} {k : Nat} {kk : IntKind} {i : Int} {α : Type} {f : α → TV} {g : α → List TV} {l : List α} {v : α} (hf : ∀ a, f a = .agg (g a)) (hT : slB P T k = true) (hi : idx l i = some v) (ho : o.op = .indexAddr T x y) (h1 : τ x = .slice ow k (l.map f)) (h2 : τ y = .int kk i) :
    PureS P o τ s (.rptr (g v)) := by
  obtain ⟨h0, hv⟩ := idx_some hi
  have h : (l.map f)[i.toNat]? = some (f v) := by rw [List.getElem?_map, hv]; rfl
  have := p_indexAddr (s := s) hT ho h1 h2 h0 h (by rw [hf]; rfl) (by rw [hf]; simp)
  rw [hf] at this
  exact this
theorem p_ix1 {T : TypeId} {x y : Operand} {ow : Own} {k : Nat} {kk : IntKind} {i : Int} {α : Type} {f : α → TV} {l : List α} {v : α} (hf : ∀ a, (f a).one = true) (hT : slB P T k = true) (hi : idx l i = some v) (ho : o.op = .indexAddr T x y) (h1 : τ x = .slice ow k (l.map f)) (h2 : τ y = .int kk i) :
    PureS P o τ s (.rptr [f v]) := by
  obtain ⟨h0, hv⟩ := idx_some hi
  have h : (l.map f)[i.toNat]? = some (f v) := by rw [List.getElem?_map, hv]; rfl
  have h1' := hf v
  have := p_indexAddr (s := s) hT ho h1 h2 h0 h (by cases hh : f v <;> first | rfl | (rw [hh] at h1'; cases h1')) (by rintro vs hh; rw [hh] at h1'; cases h1')
  have e : (f v).cells = [f v] := by
    cases hh : f v <;> first | rfl | (rw [hh] at h1'; cases h1')
  rw [e] at this
  exact this
theorem p_lenm {T : TypeId} {x : Operand} {ow : Own} {k : Nat} {α : Type} {f : α → TV} {l : List α} (hT : isSlice P T = true) (ho : o.op = .call { callee := .builtin .len, args := #[x], argTypes := #[T] }) (h1 : τ x = .slice ow k (l.map f)) : PureS P o τ s (.int .i64 l.length) :=
  (p_len hT ho h1).eq (by rw [List.length_map])
theorem p_callL {f : Operand} {args : Array Operand} {ats : Array TypeId} {g : FuncId} {fs cs args' : List TV} {u : TV} {s0 fr : Res} (hg : enterB P g = true) (hc : AFn P g args' s0 fun r s' => r = .ret u ∧ s' = s0) (ho : o.op = .call { callee := .value f, args := args, argTypes := ats }) (h1 : τ f = .func (.func g) fs cs)
    (hle : TVles (fs ++ args.toList.map τ ++ cs) args') (hp : s.Perm (s0 ++ fr)) : PureS P o τ s u := p_call hg ho h1 (hc.le hle) hp
theorem p_pfnL {f : Operand} {args : Array Operand} {ats : Array TypeId} {g : FuncId} {fs cs args' : List TV} {u : TV} (hg : enterB P g = true) (hc : PFn P g args' u) (ho : o.op = .call { callee := .value f, args := args, argTypes := ats }) (h1 : τ f = .func (.func g) fs cs)
    (hle : TVles (fs ++ args.toList.map τ ++ cs) args') : PureS P o τ s u := p_pfn hg ho h1 (hc.le hle)
end
theorem rq {ops : Array Oper} {draw : Bool} {i : Nat} {o : Oper} {d : Tmp} {u0 u : TV} (ho : ops[i]? = some o) (hg : guardIs ops o E true) (hd : o.dst = some d) (hp : PureS P o (opTV E) s u0) (he : u0 = u) (k : AReg P n ops draw Q (i + 1) ((d, u) :: E) s) : AReg P n ops draw Q i E s :=
  rp ho hg hd (he ▸ hp) k
theorem rq0 {ops : Array Oper} {draw : Bool} {i : Nat} {o : Oper} {u0 : TV} (ho : ops[i]? = some o) (hg : guardIs ops o E true) (hd : o.dst = none) (hp : PureS P o (opTV E) s u0) (k : AReg P n ops draw Q (i + 1) E s) : AReg P n ops draw Q i E s :=
  rp0 ho hg hd hp k
theorem perm_end (s : Res) : s.Perm (s ++ []) := by rw [List.append_nil]
theorem perm_last {x s : Res} : (x ++ s).Perm (s ++ x) := List.perm_append_comm
theorem body_slot {n : Nat} {E : Env} {s : Res} {P : Program} {R : ARes → Res → Prop} {x : ResultVar} {u : TV} (h : slotTV P n E s x u) (hR : R (.ret u) s) : bodyQ P n [x] R .ret E s := ⟨u, h, hR⟩
theorem body_slots2 {n : Nat} {E : Env} {s : Res} {P : Program} {R : ARes → Res → Prop} {x y : ResultVar} {u u' : TV} (h : slotTV P n E s x u) (h' : slotTV P n E s y u') (hR : R (.ret (.tuple [u, u'])) s) : bodyQ P n [x, y] R .ret E s :=
  ⟨.tuple [u, u'], ⟨[u, u'], rfl, rfl, fun i r x hr hx => by
    match i, hr, hx with
    | 0, hr, hx => cases hr; cases hx; exact h
    | 1, hr, hx => cases hr; cases hx; exact h'⟩, hR⟩
/-- The end of a body. -/
structure Fin (P : Program) (n : Nat) (rs : List ResultVar) (R : ARes → Res → Prop) (e : AExit) (E : Env) (s : Res) : Prop where
  out : bodyQ P n rs R e E s
theorem AFn.of {P : Program} {f : FuncId} {fn : Func} {c : Code} {args : List TV} {s : Res} {R : ARes → Res → Prop} (hf : P.funcs[f]? = some fn) (hb : fn.body = some c) (hn : args.length ≤ fn.ntmps)
    (h : ACode P fn.ntmps c (argsE 0 args) s (Fin P fn.ntmps fn.results.toList R)) : AFn P f args s R := AFn.of_code hf hb hn (h.mono fun _ _ _ h => h.out)
section
variable {n : Nat} {E : Env} {s : Res} {P : Program} {R : ARes → Res → Prop}
theorem fin_ret {t : Nat} {u : TV} (ht : t < n) (hu : look E t = u) (hR : R (.ret u) s) : Fin P n [.tmp t] R .ret E s := ⟨body_ret ht hu hR⟩
theorem fin_ret2 {t t' : Nat} {u u' : TV} (ht : t < n) (ht' : t' < n) (hu : look E t = u) (hu' : look E t' = u') (hR : R (.ret (.tuple [u, u'])) s) : Fin P n [.tmp t, .tmp t'] R .ret E s := ⟨body_ret2 ht ht' hu hu' hR⟩
theorem fin_ret0 (hR : R (.ret (.tuple [])) s) : Fin P n [] R .ret E s := ⟨body_ret0 hR⟩
theorem fin_end0 (hR : R (.ret (.tuple [])) s) : Fin P n [] R .normal E s := ⟨body_end0 hR⟩
theorem fin_slot {x : ResultVar} {u : TV} (h : slotTV P n E s x u) (hR : R (.ret u) s) : Fin P n [x] R .ret E s := ⟨body_slot h hR⟩
theorem fin_slots2 {x y : ResultVar} {u u' : TV} (h : slotTV P n E s x u) (h' : slotTV P n E s y u') (hR : R (.ret (.tuple [u, u'])) s) : Fin P n [x, y] R .ret E s := ⟨body_slots2 h h' hR⟩
theorem fin_slots3 {x0 x1 x2 : ResultVar} {u0 u1 u2 : TV} (h0 : slotTV P n E s x0 u0) (h1 : slotTV P n E s x1 u1) (h2 : slotTV P n E s x2 u2) (hR : R (.ret (.tuple [u0, u1, u2])) s) : Fin P n [x0, x1, x2] R .ret E s := ⟨
  ⟨.tuple [u0, u1, u2], ⟨[u0, u1, u2], rfl, rfl, fun i r x hr hx => by
    match i, hr, hx with
    | 0, hr, hx => cases hr; cases hx; exact h0
    | 1, hr, hx => cases hr; cases hx; exact h1
    | 2, hr, hx => cases hr; cases hx; exact h2⟩, hR⟩⟩
theorem fin_slots4 {x0 x1 x2 x3 : ResultVar} {u0 u1 u2 u3 : TV} (h0 : slotTV P n E s x0 u0) (h1 : slotTV P n E s x1 u1) (h2 : slotTV P n E s x2 u2) (h3 : slotTV P n E s x3 u3) (hR : R (.ret (.tuple [u0, u1, u2, u3])) s) : Fin P n [x0, x1, x2, x3] R .ret E s := ⟨
  ⟨.tuple [u0, u1, u2, u3], ⟨[u0, u1, u2, u3], rfl, rfl, fun i r x hr hx => by
    match i, hr, hx with
    | 0, hr, hx => cases hr; cases hx; exact h0
    | 1, hr, hx => cases hr; cases hx; exact h1
    | 2, hr, hx => cases hr; cases hx; exact h2
    | 3, hr, hx => cases hr; cases hx; exact h3⟩, hR⟩⟩
end
/-- What the call made for itself is left behind. -/
theorem AFn.shed {P : Program} {f : FuncId} {args : List TV} {s : Res} {R : ARes → Prop} (h : AFn P f args s fun y s' => R y ∧ s.Sublist s') : AFn P f args s fun y s' => R y ∧ s' = s := by
  intro C w vs hs hA
  refine (h C w vs hs hA).mono ?_
  rintro e w' ⟨r', C', s', e1, ⟨h1, h2⟩, h3, h4, h5⟩
  exact ⟨r', C', s, e1, ⟨h1, rfl⟩, h3.drop h2, h4, fun b hb => .inl hb⟩
end
end Go.Proofs.YtdkiijhmmmfciaaDoor
