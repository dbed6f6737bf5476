/- Texts that are built: what a strings.Builder holds; appending a string's bytes; calls that turn what they are handed. -/
import Derived.Test.YtdkiijhmmmfciaaDoorTP
import Derived.Lib.AppendStr
set_option linter.unusedVariables false
set_option linter.unusedSimpArgs false
namespace Go.Proofs.YtdkiijhmmmfciaaDoor
open Go

/-- A text with another behind it, where that isn't empty and memory bears it. -/
def wstr (m s : ByteArray) : Option ByteArray := if s.size ≠ 0 ∧ m.size + s.size ≤ 140737488355328 then some (m ++ s) else none
/-- A number's decimal digits (of so many, at most). -/
def digs : Nat → Nat → List UInt8
  | 0, _ => []
  | f + 1, u => if u < 10 then [UInt8.ofNat (48 + u)] else digs f (u / 10) ++ [UInt8.ofNat (48 + u % 10)]
def itoaB (n : Int) : ByteArray := ⟨(if n < 0 then 45 :: digs 20 n.natAbs else digs 20 n.toNat).toArray⟩
theorem digs_len : ∀ f u, (digs f u).length ≤ f
  | 0, u => by simp [digs]
  | f + 1, u => by
    rw [digs]
    split
    · simp
    · have := digs_len f (u / 10)
      simp; omega
theorem itoaB_size (n : Int) : (itoaB n).size ≤ 21 := by
  have h1 := digs_len 20 n.natAbs
  have h2 := digs_len 20 n.toNat
  show (itoaB n).data.size ≤ 21
  unfold itoaB
  split
  · simp; omega
  · simp; omega
def bys (s : ByteArray) : List Int := s.data.toList.map fun b => (b.toNat : Int)
theorem bys_append (s t : ByteArray) : bys (s ++ t) = bys s ++ bys t := by
  simp only [bys, ByteArray.data_append, Array.toList_append, List.map_append]
theorem bys_length (s : ByteArray) : (bys s).length = s.size := by
  rw [bys, List.length_map, Array.length_toList]; rfl
theorem strCells_bys (s : ByteArray) : Lib.strCells s = (bys s).map (Value.int .u8) := by
  simp [Lib.strCells, bys, Function.comp_def]
theorem bys_fits (s : ByteArray) : ∀ n ∈ bys s, IntKind.fits .u8 n := fun n hn => by
  unfold bys at hn
  obtain ⟨b, _, rfl⟩ := List.mem_map.1 hn
  have := b.toNat_lt
  exact (fits_iff _ _).2 ⟨by simp only [lo]; omega, by simp only [hi]; omega⟩
theorem VL_u8 {C : Claims} {w : World} : ∀ l : List Int, (∀ n ∈ l, IntKind.fits .u8 n) → VL C w (l.map (TV.int .u8)) (l.map (Value.int .u8))
  | [], _ => by simp [VL]
  | n :: l, h => by
    rw [List.map_cons, List.map_cons, VL]
    exact ⟨_, _, rfl, V_int (h n (by simp)), VL_u8 l fun m hm => h m (by simp [hm])⟩
theorem flat_u8 (l : List Int) : flat (l.map (Value.int .u8)) = l.map (Value.int .u8) := by
  induction l with
  | nil => rfl
  | cons n l ih =>
    have : flat ((n :: l).map (Value.int .u8)) = (Value.int .u8 n).cells.toList ++ flat (l.map (Value.int .u8)) := by simp [flat]
    rw [this, ih]; rfl

section
variable {P : Program} {o : Oper} {τ : Operand → TV} {s : Res} {n : Nat} {E : Env} {Q : AQ}

theorem app_runS {C : Claims} {w : World} {pre r post : Res} {ow : Own} {T U e : Nat} {xs : List TV} {v : Value} {ty : TypeId} (hT : appB P T e 1 1 = true) (hU : isStr P U = true) (hs : Sim C (pre ++ r ++ post) w) (hown : Owned e 1 ow xs.length r)
    {A : Option Addr} {c : Nat} {os : List Value} (m : ByteArray) (hv : v = .slice A os.length c) (hc : os.length ≤ c) (hV : VL C w xs os) (hsz : ∀ u ∈ os, u.cells.size = 1) (hok : OwnOk ow A os.length c) (hmem : 0 < os.length → ∃ a, A = some a ∧ Mem C w a (flat os))
    (hb : os.length + m.size ≤ 140737488355328) :
    ∃ v' w', (Builtin.append_ #[T, U] ty #[v, .string m]).run P w = .ok v' w' ∧ Went1 w e 1 v (flat os) (Lib.strCells m) os.length m.size v' w' := by
  obtain ⟨i, z, hTe, hi, hik, hib, hz, hzk, hk0, hb0⟩ := appB_at hT
  have hu := isStr_at hU
  have hflo := flat_length os hsz
  rw [Nat.mul_one] at hflo
  subst hv
  rcases Nat.eq_zero_or_pos m.size with h0 | hpos
  · refine ⟨_, w, ?_, .same h0⟩
    have hm0 : m = ByteArray.empty := by
      obtain ⟨d⟩ := m
      simp only [ByteArray.size] at h0
      have : d = #[] := Array.eq_empty_of_size_eq_zero h0
      subst this; rfl
    subst hm0
    have hf := Lib.run_firstCells_string (P := P) w 1 ByteArray.empty
    have he : (ByteArray.empty : ByteArray).size = 0 := rfl
    rw [he] at hf
    have hl0 : Builtin.lenOf (.string ByteArray.empty) = (pure 0 : Sem Nat) := rfl
    have hc0 : Lib.strCells ByteArray.empty = [] := rfl
    cases A <;> simp [Builtin.append_, run_underlying hTe, run_underlying hu, sizeOf, typeInfo, hi, hik, hl0, hc, hf, hc0, storeCells]
  · have grow : ∀ a, A = some a → c < os.length + m.size → (∀ j u, (flat os)[j]? = some u → w.cell? (a.add j) = some u) → ∃ v' w', (Builtin.append_ #[T, U] ty #[.slice A os.length c, .string m]).run P w = .ok v' w' ∧ Went1 w e 1 (.slice A os.length c) (flat os) (Lib.strCells m) os.length m.size v' w' := by
      intro a ha hlt holds
      subst ha
      have hr := Lib.run_append_grow_string (P := P) w T U ty e i z hTe hu hi hz a os.length c (flat os) (by rw [hik, Nat.mul_one]; exact hflo) holds m hlt (by omega) (growslice_fits hlt (by rw [hib]; omega))
      exact ⟨_, _, hr, .grow (grownCap_ge _ _ _ _) (by simp [size_zeroCells, hzk]) hpos⟩
    rcases hown with ⟨rfl, rfl⟩ | ⟨b, cap', rfl, rfl⟩
    · have hcn : c = os.length := hok
      subst hcn
      cases hA : A with
      | none =>
        have hn0 : os.length = 0 := Nat.eq_zero_of_not_pos fun h => by obtain ⟨a, ha, _⟩ := hmem h; rw [hA] at ha; cases ha
        have ho0 : os = [] := List.eq_nil_of_length_eq_zero hn0
        subst ho0
        have hr := run_append_nil_string (P := P) w T U ty e i z hTe hu hi hz m hpos (by simp at hb; omega) (by rw [hib]; simp at hb; omega)
        rw [show Array.map (fun b : UInt8 => Value.int IntKind.u8 (b.toNat : Int)) m.data = (Lib.strCells m).toArray from by apply Array.ext'; simp [Lib.strCells]] at hr
        refine ⟨_, _, hr, ?_⟩
        have := Went1.grow (w := w) (e := e) (k := 1) (v := .slice none 0 0) (olds := []) (news := Lib.strCells m) (n := 0) (m := m.size) (cap := grownCap w m.size 0 e) (zs := Builtin.zeroCells z.cells (grownCap w m.size 0 e - m.size)) (by simpa using grownCap_ge _ _ _ _) (by simp [size_zeroCells, hzk]) hpos
        simpa [flat] using this
      | some a =>
        subst hA
        refine grow a rfl (by omega) fun j u hj => ?_
        rcases Nat.eq_zero_or_pos os.length with h0 | h1
        · rw [List.eq_nil_of_length_eq_zero h0] at hj; simp [flat] at hj
        · obtain ⟨a2, ha2, hM⟩ := hmem h1
          injection ha2 with ha2; subst ha2
          exact (hM j u hj).1
    · obtain ⟨rfl, rfl⟩ := hok
      obtain ⟨cur, hg, _, hcur, _⟩ := hs.at_ b _ (List.mem_append.2 (.inl (List.mem_append.2 (.inr (List.mem_singleton.2 rfl)))))
      by_cases hroom : os.length + m.size ≤ c
      · have hr := Lib.run_append_room_string (P := P) w T U ty e i hTe hu hi hik b os.length c cur hg m hroom (by omega)
        have h2 := Went1.room (w := w) (e := e) (k := 1) (v := .slice (some ⟨b, 0, none⟩) os.length c) (olds := flat os) (news := Lib.strCells m) (n := os.length) (m := m.size) rfl hg hroom hcur
        rw [Nat.mul_one, Lib.strCells_length] at h2
        exact ⟨_, _, hr, h2⟩
      · refine grow _ rfl (by omega) fun j u hj => ?_
        rcases Nat.eq_zero_or_pos os.length with h0 | h1
        · rw [List.eq_nil_of_length_eq_zero h0] at hj; simp [flat] at hj
        · obtain ⟨a2, ha2, hM⟩ := hmem h1
          injection ha2 with ha2; subst ha2
          exact (hM j u hj).1

/-- append(x, y...), x bytes that may grow, y a string. -/
theorem a_appS {T U e : Nat} {x y : Operand} {pre r post : Res} {ow : Own} {xs : List Int} {m : ByteArray} (hT : appB P T e 1 1 = true) (hU : isStr P U = true) (ho : o.op = .call { callee := .builtin .append, args := #[x, y], argTypes := #[T, U] })
    (h1 : opTV E x = .slice ow 1 (xs.map (TV.int .u8))) (h2 : opTV E y = .str m) (hown : Owned e 1 ow xs.length r) (hb : xs.length + m.size ≤ 140737488355328) (F : Res → Res) (hF : ∀ r, F r = pre ++ r ++ post) (hs' : s = F r) :
    AStep P n o E s Q fun E' s' => ∃ ow' r', (Owned e 1 ow' (xs ++ bys m).length r' ∧ (m.size ≠ 0 → ow' ≠ .full)) ∧ E' = putE E o.dst (.slice ow' 1 ((xs ++ bys m).map (TV.int .u8))) ∧ s' = F r' := AStep.of fun C w tm hs hE hx => by
  rw [hF] at hs'
  subst hs'
  rw [ho] at hx
  have hx1 := hx x (by simp [Op.operands, Call.operands])
  have hx2 := hx y (by simp [Op.operands, Call.operands])
  rw [h1, V] at hx1
  rw [h2, V] at hx2
  obtain ⟨A, c, os, hv, hc, hbo, hV, hsz, hok, hmem⟩ := hx1
  have hlx := VL_length hV
  rw [List.length_map] at hlx
  have hVy : VL C w ((bys m).map (TV.int .u8)) (Lib.strCells m) := by rw [strCells_bys]; exact VL_u8 _ (bys_fits m)
  have hfl : flat (Lib.strCells m) = Lib.strCells m := by rw [strCells_bys, flat_u8]
  have hsy : ∀ u ∈ Lib.strCells m, u.cells.size = 1 := by
    rw [strCells_bys]
    intro u hu
    obtain ⟨b, _, rfl⟩ := List.mem_map.1 hu
    rfl
  have hone : ∀ u ∈ flat (Lib.strCells m), u.oneCell' = true := by rw [hfl]; exact Lib.strCells_oneCell m
  obtain ⟨v', w', hrun, hwent⟩ := app_runS (P := P) (U := U) (ty := o.type) (xs := xs.map (TV.int .u8)) hT hU hs (by rw [List.length_map]; exact hown) m hv hc hV hsz hok hmem (by omega)
  have hls : (Lib.strCells m).length = m.size := Lib.strCells_length m
  obtain ⟨C', ow', r', g1, g0, g2, g3, g4, g5⟩ := append_core (ys := (bys m).map (TV.int .u8)) (us := Lib.strCells m) hs (by rw [List.length_map]; exact hown) (by decide) hv hc hV hsz hok hmem hVy hsy (by rw [hls]; omega) hone (by rw [hfl, hls]; exact hwent)
  refine ⟨v', C', w', _, _, ?_, g2, ⟨ow', r', ⟨?_, fun hm => g0 fun h => hm (by rw [← hls, h]; rfl)⟩, by rw [List.map_append], rfl⟩, by rw [hF]; exact g3, g4, fun b h => g5 b (by rw [hF] at h; exact h)⟩
  · simp [execOp, ho, resolve, invoke, builtin, hx2.1, hrun]
  · rw [List.length_append]; rw [List.length_map, List.length_map] at g1; exact g1

/-! ### A float made whole -/
def Fl.trunc (a : Fl) : Option Fl := match a with
  | some x => if (Ieee.double.read x).isNaN then none else some (some (Ieee.double.write ((Ieee.double.read x).integral .zero)))
  | none => none
theorem p_trunc {f x : Operand} {ats : Array TypeId} {g : FuncId} {a v : Fl} (hv : Fl.trunc a = some v) (hg : ExtIs P g (Extern.MathFloor.toIntegral "math.archTrunc" .zero)) (ho : o.op = .call { callee := .value f, args := #[x], argTypes := ats }) (h1 : τ f = .func (.func g) [] []) (h2 : τ x = encF a) : PureS P o τ s (encF v) := PureS.val fun C w act hs hx => by
  have hx2 := hx x (by rw [ho]; simp [Op.operands, Call.operands])
  rw [h2] at hx2
  obtain ⟨b, e1, hl, k1⟩ := V_encF hx2
  rcases k1 with rfl | ⟨rfl, _⟩
  · unfold Fl.trunc at hv
    simp only at hv
    split at hv
    · cases hv
    · rename_i hn
      injection hv with hv
      subst hv
      refine ⟨.float .f64 (Ieee.double.write ((Ieee.double.read b).integral .zero)), ext_run (C := C) hg ho h1 hx e1 ?_, ?_⟩
      · have hd : FloatKind.f64.decode b = Ieee.double.read b := rfl
        conv => lhs; arg 2; whnf
        rw [hd]
        cases hr : Ieee.double.read b with
        | nan s t => rw [hr] at hn; simp [Ieee.Datum.isNaN] at hn
        | number s m i => rfl
        | infinity s => rfl
      · rw [encF, V]
        exact ⟨rfl, Ieee.Format.write_lt Ieee.double _⟩
  · cases hv

/-! ### Arrays -/
def arrB (P : Program) (T e n k : Nat) : Bool := (match P.underlying T with | some (.array m e') => m == n && e' == e | _ => false) && (match P.info? e with | some i => i.size == k | none => false)
theorem arrB_at {T e m k : Nat} (h : arrB P T e m k = true) : P.underlying T = some (.array m e) ∧ ∀ w, (sizeOf e).run P w = .ok k w := by
  unfold arrB at h
  simp only [Bool.and_eq_true] at h
  obtain ⟨h1, h2⟩ := h
  split at h1
  · rename_i hu
    simp only [Bool.and_eq_true, beq_iff_eq] at h1
    obtain ⟨rfl, rfl⟩ := h1
    refine ⟨hu, fun w => ?_⟩
    split at h2
    · rename_i i hi
      simp only [beq_iff_eq] at h2
      simp [sizeOf, typeInfo, hi, h2]
    · cases h2
  · cases h1
theorem fill_mono {f g : Nat → Option (Nat × Nat)} (h : ∀ i p, f i = some p → g i = some p) : ∀ (parts : List (Nat × Value)) (acc vs : Array Value), Instr.fill f acc parts = some vs → Instr.fill g acc parts = some vs
  | [], acc, vs, h' => by simpa [Instr.fill] using h'
  | (i, x) :: parts, acc, vs, h' => by
    simp only [Instr.fill] at h' ⊢
    cases hf : f i with
    | none => simp [hf] at h'
    | some p =>
      rw [hf] at h'
      rw [h i p hf]
      simp only at h' ⊢
      split at h'
      · cases h'
      · rename_i hc
        rw [if_neg hc]
        exact fill_mono h parts _ vs h'
def arrPl (n k : Nat) : List (Nat × Nat) := (List.range n).map fun i => (i * k, k)
theorem p_buildA {T e m k : Nat} {z : Value} {parts : Array (Nat × Operand)} {cs zs : List TV} (hz : zeroB P T z) (hc : constOk z = true) (hzs : (constTV z).cells = zs) (hk : (constTV z).known = true) (ht : ∀ vs, constTV z ≠ .tuple vs) (hT : arrB P T e m k = true)
    (ho : o.op = .build T parts) (hf : fillT (arrPl m k) zs (parts.toList.map fun p => (p.1, τ p.2)) = some cs) : PureS P o τ s (.agg cs) := PureS.val fun C w act hs hx => by
  obtain ⟨hu, hs1⟩ := arrB_at hT
  rw [ho] at hx
  subst hzs
  have hzV : VL C w (constTV z).cells z.cells.toList := V_cells hk ht (V_const hc)
  obtain ⟨vs, h1, h2⟩ := fill_T parts.toList _ z.cells cs hzV (fun p hp => hx p.2 (by simp [Op.operands]; exact ⟨p.1, by simpa using hp⟩)) hf
  refine ⟨.agg vs, ?_, by rw [V]; exact ⟨vs, rfl, h2⟩⟩
  have h3 := fill_mono (g := fun i => some (i * k, k)) (fun i p hp => by
    simp only [arrPl, List.getElem?_map] at hp
    cases hr : (List.range m)[i]? with
    | none => rw [hr] at hp; cases hp
    | some j =>
      rw [hr] at hp
      have := List.getElem?_range (n := m) (i := i) (List.getElem?_eq_some_iff.1 hr |>.1 |> fun h => by simpa using h)
      rw [this] at hr
      injection hr with hr
      subst hr
      simpa using hp) _ _ _ h1
  simp [execOp, ho, Instr.build, zeroB_run hz, run_underlying hu, hs1, h3]
theorem p_indexA {T e m : Nat} {x y : Operand} {α : Type} {f : α → TV} {l : List α} {v : α} {kk : IntKind} {i : Int} (hf : ∀ a, (f a).one = true) (hT : arrB P T e m 1 = true) (hag : tiB P e false 1 = true) (hi : idx l i = some v) (hl : l.length = m) (ho : o.op = .index T x y) (h1 : τ x = .agg (l.map f)) (h2 : τ y = .int kk i) : PureS P o τ s (f v) := PureS.val fun C w a hs hx => by
  obtain ⟨hu, hs1⟩ := arrB_at hT
  obtain ⟨h0, hv⟩ := idx_some hi
  rw [ho] at hx
  have hx1 := hx x (by simp [Op.operands])
  have hx2 := hx y (by simp [Op.operands])
  rw [h1, V] at hx1
  rw [h2, V] at hx2
  obtain ⟨cs, e1, hV⟩ := hx1
  obtain ⟨u, hu1, hVu⟩ := VL_get hV i.toNat (f v) (by rw [List.getElem?_map, hv]; rfl)
  have hlt := (List.getElem?_eq_some_iff.1 hv).1
  refine ⟨u, ?_, hVu⟩
  have hlt2 : i < (m : Int) := by omega
  have hag' := tiB_agg hag w
  rw [Array.getElem?_toList] at hu1
  simp [execOp, ho, Instr.index, asIntOf, hx2.1, e1, run_underlying hu, h0, hlt2, hs1, part, hag', hu1]

/-! ### A struct's variable whose cells are known as they are -/
theorem p_build0 {T : TypeId} {z : Array Value} {pl : List (Nat × Nat)} {u : TV} (hz : zeroB P T (.agg z)) (hT : buildB P T pl = true) (hu : ∀ C w, V C w u (.agg z)) (ho : o.op = .build T #[]) : PureS P o τ s u := PureS.val fun C w act hs hx => by
  refine ⟨.agg z, ?_, hu C w⟩
  unfold buildB at hT
  split at hT
  · rename_i fs hu
    simp only [beq_iff_eq] at hT
    have hplaces : (fs.mapM fun f => (Prod.mk f.offset <$> sizeOf f.type : Sem (Nat × Nat))).run P w = .ok pl.toArray w := by
      obtain ⟨l, rfl⟩ : ∃ l : List Field, fs = l.toArray := ⟨fs.toList, by simp⟩
      simp only [List.mapM_toArray]
      have : ∀ (l : List Field) (pl : List (Nat × Nat)), l.map (fun f => (f.offset, (P.info? f.type).map (·.size))) = pl.map (fun p => (p.1, some p.2)) → (l.mapM fun f => (Prod.mk f.offset <$> sizeOf f.type : Sem (Nat × Nat))).run P w = .ok pl w := by
        intro l
        induction l with
        | nil => intro pl h; cases pl with
          | nil => simp
          | cons => simp at h
        | cons f l ih =>
          intro pl h
          cases pl with
          | nil => simp at h
          | cons p pl =>
            simp only [List.map_cons, List.cons.injEq, Prod.mk.injEq] at h
            obtain ⟨⟨e1, e2⟩, e3⟩ := h
            cases hi : P.info? f.type with
            | none => rw [hi] at e2; cases e2
            | some i =>
              rw [hi] at e2
              simp at e2
              have hs1 : (sizeOf f.type).run P w = .ok i.size w := by simp [sizeOf, typeInfo, hi]
              simp [List.mapM_cons, hs1, ih pl e3, e1, e2]
      simp [this l pl (by simpa using hT)]
    simp [execOp, ho, Instr.build, zeroB_run hz, run_underlying hu, hplaces, Instr.fill, Value.cells]
  · cases hT
theorem V_bld {C : Claims} {w : World} : V C w (.agg [.nilp, .nils]) (.agg #[.pointer none, .slice none 0 0]) := by
  rw [V]; refine ⟨_, rfl, ?_⟩
  show VL C w [.nilp, .nils] [Value.pointer none, Value.slice none 0 0]
  rw [VL]; refine ⟨.pointer none, [Value.slice none 0 0], rfl, by rw [V], ?_⟩
  rw [VL]; exact ⟨Value.slice none 0 0, [], rfl, by rw [V], by simp [VL]⟩
theorem rboxW {ops : Array Oper} {i : Nat} {d : Tmp} {T : TypeId} {x : Operand} (ho : ops[i]? = some o) (hg : guardIs ops o E true) (hd : o.dst = some d) (hop : o.op = .box T x) (hx : opTV E x = .agg [.nilp, .nils]) (k : ∀ b, AReg P n ops false Q (i + 1) ((d, .ptr b 0) :: E) ([(b, .raw T #[.pointer none, .slice none 0 0])] ++ s)) : AReg P n ops false Q i E s := by
  refine .act o (fun E' s' => ∃ b, E' = putE E o.dst (.ptr b 0) ∧ s' = (b, .raw T #[.pointer none, .slice none 0 0]) :: s) rfl ho hg (AStep.of fun C w tm hs hE hxx => ?_) (by
    rintro E' s' ⟨b, rfl, rfl⟩
    rw [hd]
    exact k b)
  rw [hop] at hxx
  have hx1 := hxx x (by simp [Op.operands])
  rw [hx, V] at hx1
  obtain ⟨cs, e1, hV⟩ := hx1
  rw [VL] at hV
  obtain ⟨v1, r1, e2, h1, hV⟩ := hV
  rw [VL] at hV
  obtain ⟨v2, r2, e3, h2, hV⟩ := hV
  rw [VL] at hV
  simp only [V] at h1 h2
  subst h1; subst h2; subst hV; subst e3
  have hcs : cs = #[.pointer none, .slice none 0 0] := by apply Array.ext'; simpa using e2
  subst hcs
  have hp := Pushed.alloc w (.cells #[.pointer none, .slice none 0 0] T)
  have hC := newC_zero C w.heap.size
  have hsim := hp.sim_cons (m := 0) hs (r := .raw T #[.pointer none, .slice none 0 0]) ⟨hp.new, fun o' hc => by rw [hC] at hc; have := hs.ok _ _ hc; omega⟩
  have hev := hp.ev (m := 0) (dom s) hs.ok
  rw [hC] at hsim hev
  exact ⟨.pointer (some ⟨w.heap.size, 0, none⟩), C, w.alloc (.cells #[.pointer none, .slice none 0 0] T), .ptr w.heap.size 0, _, by simp [execOp, hop, e1, Instr.box, newVar, newRow, Value.cells], by rw [V], ⟨_, rfl, rfl⟩, hsim, hev, fun b ⟨r, hb⟩ => by
    rcases List.mem_cons.1 hb with e | hb
    · injection e with e; exact .inr (by omega)
    · exact .inl ⟨r, hb⟩⟩

/-! ### Calls that turn what they are handed -/
theorem a_callX {σ : Type} {fo : Operand} {args : Array Operand} {ats : Array TypeId} {g : FuncId} {fs cs args' : List TV} {re0 : Res} {G : σ → Prop} {f : σ → TV} {R : σ → Res} (hg : enterB P g = true) (hc : AFn P g args' re0 fun y s' => ∃ z, G z ∧ y = .ret (f z) ∧ s' = R z) (ho : o.op = .call { callee := .value fo, args := args, argTypes := ats }) (h1 : opTV E fo = .func (.func g) fs cs)
    (hle : TVles (fs ++ args.toList.map (opTV E) ++ cs) args') (F : Res → Res) (fr : Res) (hp : s.Perm (re0 ++ fr)) (hF : ∀ z, (R z ++ fr).Perm (F (R z))) :
    AStep P n o E s Q fun E' s' => ∃ z, G z ∧ E' = putE E o.dst (f z) ∧ s' = F (R z) := by
  intro C w tm hsim hE hx
  obtain ⟨vs, hr, hV⟩ := call_exec (τ := opTV E) hg ho h1 hx
  unfold Oper.wp
  rw [hr, Oper.upon_enter]
  refine (AFn.frame (fr := fr) (hc.le hle) C w vs (hsim.perm hp.symm) hV).mono ?_
  rintro en w' ⟨r', C', s', e1, ⟨s1, rfl, z, h1, rfl, rfl⟩, h3, h4, h5⟩
  have hd : ∀ b, dom (re0 ++ fr) b → dom s b := fun b ⟨r, m⟩ => ⟨r, hp.mem_iff.2 m⟩
  cases en with
  | returned v =>
    refine ⟨C', putE E o.dst (f z), F (R z), ⟨z, h1, rfl, rfl⟩, h3.perm (hF z).symm, ?_, put_tmps, h4.mono fun b hb => .inl (hd b hb), fun b ⟨r, hb⟩ => ?_⟩
    · exact (hE.keep h4.keep).put (a := ⟨tm, []⟩) o.dst e1
    · exact (h5 b ⟨r, (hF z).mem_iff.2 hb⟩).imp (hd b) id
  | _ => exact e1.elim
theorem a_callY {σ : Type} {fo : Operand} {args : Array Operand} {ats : Array TypeId} {g : FuncId} {fs cs args' : List TV} {re0 : Res} {G : σ → Prop} {f : σ → TV} {R : σ → Res} (hg : enterB P g = true) (hc : AFn P g args' re0 fun y s' => ∃ z, G z ∧ y = .ret (f z) ∧ s' = R z) (ho : o.op = .call { callee := .value fo, args := args, argTypes := ats }) (h1 : opTV E fo = .func (.func g) fs cs)
    (hle : TVles (fs ++ args.toList.map (opTV E) ++ cs) args') (F : Res → Res) (pre post : Res) (hF : ∀ r, F r = pre ++ r ++ post) (hs : s = F re0) :
    AStep P n o E s Q fun E' s' => ∃ z, G z ∧ E' = putE E o.dst (f z) ∧ s' = F (R z) :=
  a_callX hg hc ho h1 hle F (pre ++ post) (by rw [hs, hF]; exact perm_pull _ _ _) fun z => by rw [hF]; exact (perm_pull _ _ _).symm
/-- What the call made for itself is left behind. -/
theorem AFn.shedX {σ : Type} {g : FuncId} {args : List TV} {s : Res} {G : σ → Prop} {f : σ → TV} {R : σ → Res}
    (h : AFn P g args s fun y s' => ∃ z, G z ∧ y = .ret (f z) ∧ ResLe s' (R z)) : AFn P g args s fun y s' => ∃ z, G z ∧ y = .ret (f z) ∧ s' = R z := by
  intro C w vs hsim hA
  refine (h C w vs hsim hA).mono ?_
  rintro en w' ⟨r', C', s', e1, ⟨z, h1, h2, h3⟩, h4, h5, h6⟩
  exact ⟨r', C', R z, e1, ⟨z, h1, h2, rfl⟩, h3.1 _ _ h4, h5, fun b hb => h6 b (h3.2 b hb)⟩
end
end Go.Proofs.YtdkiijhmmmfciaaDoor
