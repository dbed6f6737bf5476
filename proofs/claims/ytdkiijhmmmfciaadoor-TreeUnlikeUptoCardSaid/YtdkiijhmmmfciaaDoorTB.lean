/- Code over tree values: what a piece of code comes to, and the rules by which that is shown. -/
import Derived.Test.YtdkiijhmmmfciaaDoorTA
set_option linter.unusedVariables false
set_option linter.unusedSimpArgs false
namespace Go.Proofs.YtdkiijhmmmfciaaDoor
open Go

inductive AExit where
  | normal
  | exit (id : Nat)
  | goto (l : Nat)
  | ret
  | panic (v : TV)

def AX (C : Claims) (w : World) : Exit → AExit → Prop
  | .normal, .normal => True
  | .exit i, .exit j => i = j
  | .goto l, .goto m => l = m
  | .ret, .ret => True
  | .panic chain, .panic t => ∃ v, chain = [{ v, recovered := false }] ∧ V C w t v
  | _, _ => False

/-- What is known of the temporaries. -/
abbrev Env := List (Nat × TV)
def look : Env → Nat → TV
  | [], _ => .any
  | (k, u) :: E, t => cond (Nat.beq t k) u (look E t)
def putE (E : Env) (d : Option Tmp) (u : TV) : Env := match d with | some d => (d, u) :: E | none => E
theorem look_cons (k : Nat) (u : TV) (E : Env) (t : Nat) : look ((k, u) :: E) t = if t = k then u else look E t := by
  rw [look]
  by_cases h : t = k
  · subst h; simp
  · have : Nat.beq t k = false := by rw [← Bool.not_eq_true]; exact fun h' => h (Nat.eq_of_beq_eq_true h')
    simp [this, h]
structure VE (C : Claims) (w : World) (n : Nat) (E : Env) (tm : Array Value) : Prop where
  size : tm.size = n
  at_ : ∀ t, t < n → V C w (look E t) (tm.getD t undef)
theorem VE.keep {C C' : Claims} {w w' : World} {n : Nat} {E : Env} {tm : Array Value} (h : VE C w n E tm) (k : Keep C w C' w') : VE C' w' n E tm := ⟨h.size, fun t ht => V_keep k _ _ (h.at_ t ht)⟩
theorem VE.put {C : Claims} {w : World} {n : Nat} {E : Env} {a : Act} (h : VE C w n E a.tmps) (d : Option Tmp) {u : TV} {v : Value} (hv : V C w u v) : VE C w n (putE E d u) (a.put d v).tmps := by
  cases d with
  | none => exact h
  | some d =>
    refine ⟨by simp [Act.put, h.size], fun t ht => ?_⟩
    simp only [putE, Act.put]
    rw [look_cons]
    by_cases e : t = d
    · subst e
      rw [if_pos rfl]
      simpa [Array.getD_eq_getD_getElem?, h.size, ht] using hv
    · rw [if_neg e]
      have := h.at_ t ht
      simpa [Array.getD_eq_getD_getElem?, Array.getElem?_setIfInBounds_ne (Ne.symm e)] using this
/-- Less is known. -/
def EnvLe (n : Nat) (E E' : Env) : Prop := ∀ (C : Claims) (w : World) (tm : Array Value), VE C w n E tm → VE C w n E' tm

abbrev AQ := AExit → Env → Res → Prop

/-- What stands behind a step from (s, C, w). -/
def Went (s : Res) (C : Claims) (w : World) (n : Nat) (K : Env → Res → Prop) (act : Act) (w' : World) : Prop :=
  ∃ C' E' s', K E' s' ∧ Sim C' s' w' ∧ VE C' w' n E' act.tmps ∧ act.defers = [] ∧ Ev (dom s) C w C' w' ∧ ∀ b, dom s' b → dom s b ∨ w.heap.size ≤ b
def Post (n : Nat) (Q : AQ) (s : Res) (C : Claims) (w : World) (e : Exit) (act : Act) (w' : World) : Prop :=
  ∃ x C' E' s', AX C' w' e x ∧ Q x E' s' ∧ Sim C' s' w' ∧ VE C' w' n E' act.tmps ∧ act.defers = [] ∧ Ev (dom s) C w C' w' ∧ ∀ b, dom s' b → dom s b ∨ w.heap.size ≤ b

def ACode (P : Program) (n : Nat) (c : Code) (E : Env) (s : Res) (Q : AQ) : Prop :=
  ∀ (C : Claims) (w : World) (tm : Array Value), Sim C s w → VE C w n E tm → c.wp P (Post n Q s C w) ⟨tm, []⟩ w

theorem fresh_trans {s s1 s2 : Res} {w w1 : World} (h : ∀ b, dom s1 b → dom s b ∨ w.heap.size ≤ b) (hw : w.heap.size ≤ w1.heap.size) (k : ∀ b, dom s2 b → dom s1 b ∨ w1.heap.size ≤ b) :
    ∀ b, dom s2 b → dom s b ∨ w.heap.size ≤ b := fun b hb => by
  rcases k b hb with h1 | h1
  · exact h b h1
  · exact .inr (Nat.le_trans hw h1)

theorem Post.trans {n : Nat} {Q : AQ} {s s1 : Res} {C C1 : Claims} {w w1 w2 : World} {e : Exit} {a : Act} (he : Ev (dom s) C w C1 w1) (hf : ∀ b, dom s1 b → dom s b ∨ w.heap.size ≤ b)
    (h : Post n Q s1 C1 w1 e a w2) : Post n Q s C w e a w2 := by
  obtain ⟨x, C', E', s', h1, h2, h3, h4, h5, h6, h7⟩ := h
  exact ⟨x, C', E', s', h1, h2, h3, h4, h5, he.trans h6 hf, fresh_trans hf he.size h7⟩
theorem Post.mono {n : Nat} {Q Q' : AQ} {s : Res} {C : Claims} {w w2 : World} {e : Exit} {a : Act} (hQ : ∀ x E s, Q x E s → Q' x E s) (h : Post n Q s C w e a w2) : Post n Q' s C w e a w2 := by
  obtain ⟨x, C', E', s', h1, h2, h⟩ := h
  exact ⟨x, C', E', s', h1, hQ _ _ _ h2, h⟩

theorem ACode.mono {P : Program} {n : Nat} {c : Code} {E : Env} {s : Res} {Q Q' : AQ} (h : ACode P n c E s Q) (hQ : ∀ x E s, Q x E s → Q' x E s) : ACode P n c E s Q' :=
  fun C w tm hs hE => Code.wp_mono (fun _ _ _ hp => hp.mono hQ) (h C w tm hs hE)

section rules
variable {P : Program} {n : Nat} {E : Env} {s : Res} {Q : AQ}

theorem ac_skip (h : Q .normal E s) : ACode P n .skip E s Q := fun C w tm hs hE =>
  wp_skip ⟨.normal, C, E, s, trivial, h, hs, hE, rfl, Ev.refl _ _ _, fun _ h => .inl h⟩
theorem ac_label {l : Nat} (h : Q .normal E s) : ACode P n (.label l) E s Q := fun C w tm hs hE =>
  wp_label ⟨.normal, C, E, s, trivial, h, hs, hE, rfl, Ev.refl _ _ _, fun _ h => .inl h⟩
theorem ac_exit {id : Nat} (h : Q (.exit id) E s) : ACode P n (.exit id) E s Q := fun C w tm hs hE =>
  wp_exit ⟨.exit id, C, E, s, rfl, h, hs, hE, rfl, Ev.refl _ _ _, fun _ h => .inl h⟩
theorem ac_goto {l : Nat} (h : Q (.goto l) E s) : ACode P n (.goto l) E s Q := fun C w tm hs hE =>
  wp_goto ⟨.goto l, C, E, s, rfl, h, hs, hE, rfl, Ev.refl _ _ _, fun _ h => .inl h⟩
theorem ac_ret (h : Q .ret E s) : ACode P n .ret E s Q := fun C w tm hs hE =>
  wp_ret ⟨.ret, C, E, s, trivial, h, hs, hE, rfl, Ev.refl _ _ _, fun _ h => .inl h⟩

def AThen (P : Program) (n : Nat) (y : Code) (Q : AQ) : AQ
  | .normal, E, s => ACode P n y E s Q
  | x, E, s => Q x E s

theorem ac_seq {x y : Code} (h : ACode P n x E s (AThen P n y Q)) : ACode P n (.seq x y) E s Q := fun C w tm hs hE => by
  refine wp_seq (Code.wp_mono ?_ (h C w tm hs hE))
  rintro e ⟨tm', df⟩ w' ⟨z, C', E', s', h1, h2, h3, h4, h5, h6, h7⟩
  subst h5
  cases e <;> cases z <;> first | exact h1.elim | skip
  case normal.normal => exact Code.wp_mono (fun e a w2 hp => hp.trans h6 h7) (h2 C' w' tm' h3 h4)
  all_goals exact ⟨_, C', E', s', h1, h2, h3, h4, rfl, h6, h7⟩

def ABlock (id : Nat) (Q : AQ) : AQ
  | .exit i, E, s => if i = id then Q .normal E s else Q (.exit i) E s
  | x, E, s => Q x E s
theorem ac_block {id : Nat} {c : Code} (h : ACode P n c E s (ABlock id Q)) : ACode P n (.block id c) E s Q := fun C w tm hs hE => by
  refine wp_block (Code.wp_mono ?_ (h C w tm hs hE))
  rintro e a w' ⟨z, C', E', s', h1, h2, h⟩
  cases e <;> cases z <;> first | exact h1.elim | skip
  case exit.exit i j =>
    obtain rfl : i = j := h1
    simp only [Exit.inBlock]
    simp only [ABlock] at h2
    split
    · rename_i hi
      rw [if_pos hi] at h2
      exact ⟨.normal, C', E', s', trivial, h2, h⟩
    · rename_i hi
      rw [if_neg hi] at h2
      exact ⟨.exit i, C', E', s', rfl, h2, h⟩
  all_goals exact ⟨_, C', E', s', h1, h2, h⟩

/-- A loop: a measure goes down, round by round. -/
theorem ac_loop {c : Code} (I : Env → Res → Nat → Prop) (m0 : Nat) (h0 : I E s m0)
    (round : ∀ E s m, I E s m → ACode P n c E s (fun x E' s' => match x with | .normal => ∃ m', m' < m ∧ I E' s' m' | x => Q x E' s')) : ACode P n (.loop c) E s Q := fun C w tm hs hE => by
  intro b k cs
  have key : ∀ m E s C w tm, I E s m → Sim C s w → VE C w n E tm → ∃ e a' w', Post n Q s C w e a' w' ∧ Arrives P (lone (b.at ⟨tm, []⟩ (.code c :: .inLoop c :: k)) cs w) b k cs e a' w' := by
    intro m
    induction m using Nat.strongRecOn with
    | _ m ih =>
      intro E s C w tm hI hs hE
      obtain ⟨e, a1, w1, hp, harr⟩ := round E s m hI C w tm hs hE b (.inLoop c :: k) cs
      obtain ⟨z, C', E', s', h1, h2, h3, h4, h5, h6, h7⟩ := hp
      obtain ⟨tm', df⟩ := a1
      subst h5
      cases e <;> cases z <;> first | exact h1.elim | skip
      case normal.normal =>
        obtain ⟨m', hm, hI'⟩ := h2
        obtain ⟨e2, a2, w2, hp2, harr2⟩ := ih m' hm E' s' C' w1 tm' hI' h3 h4
        exact ⟨e2, a2, w2, hp2.trans h6 h7, .of_steps (Steps.trans harr (.one step_inLoop)) harr2⟩
      all_goals exact ⟨_, _, _, ⟨_, C', E', s', h1, h2, h3, h4, rfl, h6, h7⟩, .pass (x := .inLoop c) rfl (fun _ _ => .inl (by simp)) harr⟩
  obtain ⟨e, a', w', hp, harr⟩ := key m0 E s C w tm h0 hs hE
  exact ⟨e, a', w', hp, .of_steps (.one step_loop) harr⟩

theorem ac_weak {c : Code} {E' : Env} (hE : EnvLe n E E') (h : ACode P n c E' s Q) : ACode P n c E s Q := fun C w tm hs he => h C w tm hs (hE C w tm he)

/-! ### Operands -/
def lo : IntKind → Int
  | .i8 => -128 | .i16 => -32768 | .i32 => -2147483648 | .i64 => -9223372036854775808 | _ => 0
def hi : IntKind → Int
  | .i8 => 127 | .i16 => 32767 | .i32 => 2147483647 | .i64 => 9223372036854775807
  | .u8 => 255 | .u16 => 65535 | .u32 => 4294967295 | .u64 => 18446744073709551615
theorem fits_iff (k : IntKind) (n : Int) : IntKind.fits k n ↔ lo k ≤ n ∧ n ≤ hi k := by
  cases k <;> rfl

def cellTV : Value → TV
  | .bool b => .bool b
  | .int k n => .int k n
  | .float k b => .float k b
  | .string s => .str s
  | .pointer a => match a with
    | none => .nilp
    | some _ => .any
  | .slice a n c => if a.isNone && n == 0 && c == 0 then .slice .full 0 [] else .any
  | .nilFunc => .nilf
  | .nilIface => .nili
  | .func fn f c => if f.size == 0 && c.size == 0 then .func fn [] [] else .any
  | _ => .any
def cellOk : Value → Bool
  | .int k n => decide (lo k ≤ n) && decide (n ≤ hi k)
  | .float k b => decide (b < 2 ^ k.format.width)
  | .string s => decide (s.size ≤ 9223372036854775807)
  | .agg _ => false
  | _ => true
def constTV : Value → TV
  | .agg cs => .agg (cs.toList.map cellTV)
  | .tuple cs => .tuple (cs.toList.map cellTV)
  | .iface t v => .iface t (cellTV v)
  | v => cellTV v
def constOk : Value → Bool
  | .agg cs => cs.toList.all cellOk
  | .tuple cs => cs.toList.all cellOk
  | .iface _ v => cellOk v
  | v => cellOk v
theorem V_cell {C : Claims} {w : World} {v : Value} (h : cellOk v = true) : V C w (cellTV v) v := by
  cases v with
  | bool b => simp [cellTV, V]
  | int k n => simp only [cellOk, Bool.and_eq_true, decide_eq_true_eq] at h; simp only [cellTV, V, true_and]; exact (fits_iff k n).2 h
  | float k b => simp only [cellOk, decide_eq_true_eq] at h; simp only [cellTV, V, true_and]; exact h
  | string s => simp only [cellOk, decide_eq_true_eq] at h; simp only [cellTV, V, true_and]; exact h
  | pointer a => cases a <;> simp [cellTV, V]
  | slice a n c =>
    simp only [cellTV]
    split
    · rename_i h
      simp only [Bool.and_eq_true, beq_iff_eq, Option.isNone_iff_eq_none] at h
      obtain ⟨⟨rfl, rfl⟩, rfl⟩ := h
      rw [V]; exact ⟨none, 0, [], rfl, Nat.le_refl _, by simp, by rw [VL], by simp, rfl, by simp⟩
    · rw [V]; trivial
  | func fn f c =>
    simp only [cellTV]
    split
    · rename_i h
      simp only [Bool.and_eq_true, beq_iff_eq, Array.size_eq_zero_iff] at h
      obtain ⟨rfl, rfl⟩ := h
      rw [V]; exact ⟨#[], #[], rfl, by simp [VL], by simp [VL]⟩
    · rw [V]; trivial
  | nilFunc => simp [cellTV, V]
  | nilIface => simp [cellTV, V]
  | complex => simp [cellTV, V]
  | map => simp [cellTV, V]
  | chan => simp [cellTV, V]
  | iface => simp [cellTV, V]
  | agg => simp [cellOk] at h
  | tuple => simp [cellTV, V]
theorem VL_cells {C : Claims} {w : World} : ∀ vs : List Value, vs.all cellOk = true → VL C w (vs.map cellTV) vs
  | [], _ => by simp [VL]
  | v :: vs, h => by
    simp only [List.all_cons, Bool.and_eq_true] at h
    rw [List.map_cons, VL]
    exact ⟨v, vs, rfl, V_cell h.1, VL_cells vs h.2⟩
theorem V_const {C : Claims} {w : World} {v : Value} (h : constOk v = true) : V C w (constTV v) v := by
  cases v with
  | agg cs => simp only [constTV]; rw [V]; exact ⟨cs, rfl, VL_cells _ h⟩
  | tuple cs => simp only [constTV]; rw [V]; exact ⟨cs, rfl, VL_cells _ h⟩
  | iface t v => simp only [constTV]; rw [V]; exact ⟨v, rfl, V_cell h⟩
  | _ => simp only [constTV]; exact V_cell (by simpa [constOk] using h)

def opTV (E : Env) : Operand → TV
  | .tmp t => look E t
  | .const v => constTV v
  | .global g => .ptr g 0
  | .func f => .func (.func f) [] []
def opndOk (n : Nat) : Operand → Bool
  | .const v => constOk v
  | .tmp t => Nat.blt t n
  | _ => true
theorem V_op {C : Claims} {w : World} {E : Env} {tm : Array Value} {df : List Deferred} (hE : VE C w n E tm) (x : Operand) (hx : opndOk n x = true) : V C w (opTV E x) ((⟨tm, df⟩ : Act).eval x) := by
  cases x with
  | tmp t => exact hE.at_ t (by simpa [opndOk] using hx)
  | const v => exact V_const hx
  | global g => simp [opTV, Act.eval, V]
  | func f => simp only [opTV, Act.eval]; rw [V]; exact ⟨#[], #[], rfl, by simp [VL], by simp [VL]⟩

theorem ac_cond {c : Operand} {x y : Code} {t : Bool} (ho : opndOk n c = true) (hc : opTV E c = .bool t) (hx : t = true → ACode P n x E s Q) (hy : t = false → ACode P n y E s Q) : ACode P n (.cond c x y) E s Q := fun C w tm hs hE => by
  have hv := V_op (df := []) hE c ho
  rw [hc, V] at hv
  cases t with
  | true => exact wp_cond hv (by simpa using hx rfl C w tm hs hE)
  | false => exact wp_cond hv (by simpa using hy rfl C w tm hs hE)
end rules

/-! ### Functions -/
inductive ARes where
  | ret (v : TV)
  | panic (v : TV)
def AE (C : Claims) (w : World) : Ending → ARes → Prop
  | .returned v, .ret t => V C w t v
  | .panicked chain, .panic t => ∃ v, chain = [{ v, recovered := false }] ∧ V C w t v
  | _, _ => False
def FPost (R : ARes → Res → Prop) (s : Res) (C : Claims) (w : World) (e : Ending) (w' : World) : Prop :=
  ∃ r C' s', AE C' w' e r ∧ R r s' ∧ Sim C' s' w' ∧ Ev (dom s) C w C' w' ∧ ∀ b, dom s' b → dom s b ∨ w.heap.size ≤ b
def AFn (P : Program) (f : FuncId) (args : List TV) (s : Res) (R : ARes → Res → Prop) : Prop :=
  ∀ (C : Claims) (w : World) (vs : Array Value), Sim C s w → VL C w args vs.toList → Calls P f vs w (FPost R s C w)
/-- A function that only computes: what it returns. -/
def PFn (P : Program) (f : FuncId) (args : List TV) (r : TV) : Prop := AFn P f args [] fun x _ => x = .ret r

end Go.Proofs.YtdkiijhmmmfciaaDoor
