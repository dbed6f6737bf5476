/- strconv.Itoa: a number's digits, where the library's table stands. -/
import Derived.Test.YtdkiijhmmmfciaaDoorTQ
import Derived.Test.YtdkiijhmmmfciaaDoorProg
import Derived.KernelRfl
import Derived.Shelf.Strconv.Itoa3
import Derived.Ground.NamesProg
import Derived.Lib.AppendIntMem
set_option linter.unusedVariables false
namespace Go.Proofs
open Go.Shelf
def Tryd.laysItoa_ren : Go.Shelf.Ren := ⟨fun | 171 => 68 | 243 => 73 | 246 => 75 | 283 => 76 | 284 => 77 | 285 => 78 | 286 => 79 | 129 => 81 | 317 => 80 | 318 => 82 | 319 => 83 | 320 => 84 | 337 => 85 | 338 => 86 | n => n, fun | 3 => 3 | 9 => 9 | 2 => 2 | 4 => 4 | 171 => 96 | 0 => 0 | 53 => 79 | 37 => 47 | 5 => 5 | 173 => 99 | 212 => 103 | 51 => 104 | 20 => 20 | 213 => 105 | 46 => 94 | 232 => 108 | 233 => 109 | n => n, fun | 17 => 1 | 18 => 2 | 19 => 3 | n => n⟩
theorem Tryd.laysItoa : Go.Proofs.LaysM.n171 Tryd.prog Tryd.laysItoa_ren where
  mixed := by kernel_rfl
  f129 := Tryd.func81.trans (congrArg some (by kernel_rfl))
  f171 := Tryd.func68.trans (congrArg some (by kernel_rfl))
  f243 := Tryd.func73.trans (congrArg some (by kernel_rfl))
  f246 := Tryd.func75.trans (congrArg some (by kernel_rfl))
  f283 := Tryd.func76.trans (congrArg some (by kernel_rfl))
  f284 := Tryd.func77.trans (congrArg some (by kernel_rfl))
  f285 := Tryd.func78.trans (congrArg some (by kernel_rfl))
  f286 := Tryd.func79.trans (congrArg some (by kernel_rfl))
  f317 := Tryd.func80.trans (congrArg some (by kernel_rfl))
  f318 := Tryd.func82.trans (congrArg some (by kernel_rfl))
  f319 := Tryd.func83.trans (congrArg some (by kernel_rfl))
  f320 := Tryd.func84.trans (congrArg some (by kernel_rfl))
  f337 := Tryd.func85.trans (congrArg some (by kernel_rfl))
  f338 := Tryd.func86.trans (congrArg some (by kernel_rfl))
  t0 := Tryd.underlying0
  a0 := Tryd.isAgg0
  z0 := Tryd.sizeOf0
  v0 := Tryd.zeroValue0
  t2 := Tryd.underlying2
  a2 := Tryd.isAgg2
  z2 := Tryd.sizeOf2
  v2 := Tryd.zeroValue2
  t3 := Tryd.underlying3
  a3 := Tryd.isAgg3
  z3 := Tryd.sizeOf3
  v3 := Tryd.zeroValue3
  t4 := Tryd.underlying4
  a4 := Tryd.isAgg4
  z4 := Tryd.sizeOf4
  v4 := Tryd.zeroValue4
  t5 := Tryd.underlying5
  a5 := Tryd.isAgg5
  z5 := Tryd.sizeOf5
  v5 := Tryd.zeroValue5
  t9 := Tryd.underlying9
  a9 := Tryd.isAgg9
  z9 := Tryd.sizeOf9
  v9 := Tryd.zeroValue9
  t20 := Tryd.underlying20
  a20 := Tryd.isAgg20
  z20 := Tryd.sizeOf20
  v20 := Tryd.zeroValue20
  t37 := Tryd.underlying47
  a37 := Tryd.isAgg47
  z37 := Tryd.sizeOf47
  v37 := Tryd.zeroValue47
  t46 := Tryd.underlying94
  a46 := Tryd.isAgg94
  z46 := Tryd.sizeOf94
  v46 := Tryd.zeroValue94
  t51 := Tryd.underlying104
  a51 := Tryd.isAgg104
  z51 := Tryd.sizeOf104
  v51 := Tryd.zeroValue104
  t53 := Tryd.underlying79
  a53 := Tryd.isAgg79
  z53 := Tryd.sizeOf79
  v53 := Tryd.zeroValue79
  t171 := Tryd.underlying96
  a171 := Tryd.isAgg96
  z171 := Tryd.sizeOf96
  v171 := Tryd.zeroValue96
  t173 := Tryd.underlying99
  a173 := Tryd.isAgg99
  z173 := Tryd.sizeOf99
  v173 := Tryd.zeroValue99
  t212 := Tryd.underlying103
  a212 := Tryd.isAgg103
  z212 := Tryd.sizeOf103
  v212 := Tryd.zeroValue103
  t213 := Tryd.underlying105
  a213 := Tryd.isAgg105
  z213 := Tryd.sizeOf105
  t232 := Tryd.underlying108
  a232 := Tryd.isAgg108
  z232 := Tryd.sizeOf108
  v232 := Tryd.zeroValue108
  t233 := Tryd.underlying109
  a233 := Tryd.isAgg109
  z233 := Tryd.sizeOf109
  v233 := Tryd.zeroValue109
  g17 := by kernel_rfl
  g18 := by kernel_rfl
  g19 := by kernel_rfl
  i0 := by kernel_rfl
  i2 := by kernel_rfl
  i3 := by kernel_rfl
  i4 := by kernel_rfl
  i5 := by kernel_rfl
  i9 := by kernel_rfl
  i20 := by kernel_rfl
  i37 := by kernel_rfl
  i46 := by kernel_rfl
  i51 := by kernel_rfl
  i53 := by kernel_rfl
  i171 := by kernel_rfl
  i173 := by kernel_rfl
  i212 := by kernel_rfl
  i232 := by kernel_rfl
  i233 := by kernel_rfl
  m17 := by kernel_rfl
  m18 := by kernel_rfl
  m19 := by kernel_rfl

end Go.Proofs
namespace Go.Proofs.YtdkiijhmmmfciaaDoor
open Go

theorem digs_eq : ∀ (f u : Nat), u < 10 ^ (f + 1) → digs (f + 1) u = Lib.decDigits u
  | 0, u, h => by
    rw [digs, Lib.decDigits, if_pos (by omega), dif_pos (by omega)]
  | f + 1, u, h => by
    rw [digs, Lib.decDigits]
    split
    · rfl
    · rw [digs_eq f (u / 10) (by rw [Nat.pow_succ] at h; omega)]
theorem itoaB_eq (n : Int) (h0 : -9223372036854775808 ≤ n) (h1 : n ≤ 9223372036854775807) : itoaB n = ⟨(Lib.itoa n).toArray⟩ := by
  unfold itoaB Lib.itoa
  rw [digs_eq 19 n.natAbs (by have : (10:Nat) ^ 20 = 100000000000000000000 := by decide
                              omega), digs_eq 19 n.toNat (by have : (10:Nat) ^ 20 = 100000000000000000000 := by decide
                                                             omega)]
theorem tab_of {w : World} {C : Claims} (h : Tabs C w) : Lib.TabIs Tryd.prog w "internal/strconv.uint64pow10" .u64 Lib.pow10Tab := by
  have h1 := h _ (List.mem_cons_self ..)
  unfold Lib.TabIs World.var?
  rw [show Tryd.prog.globalNamed "internal/strconv.uint64pow10" = some 1 by kernel_rfl]
  have h0 := (h1 0).2
  simp only [Option.bind_some]
  cases hb : w.heap[1]? with
  | none => simp [World.cell?, hb] at h0
  | some o =>
    cases o with
    | cells cs t fr =>
      simp only
      congr 1
      apply Array.ext_getElem?
      intro i
      have hi := (h1 i).2
      simp only [World.cell?, hb] at hi
      have e : (Lib.pow10Tab.map fun z => Value.int .u64 z) = [.int .u64 1, .int .u64 10, .int .u64 100, .int .u64 1000, .int .u64 10000, .int .u64 100000, .int .u64 1000000, .int .u64 10000000, .int .u64 100000000, .int .u64 1000000000, .int .u64 10000000000, .int .u64 100000000000, .int .u64 1000000000000, .int .u64 10000000000000, .int .u64 100000000000000, .int .u64 1000000000000000, .int .u64 10000000000000000, .int .u64 100000000000000000, .int .u64 1000000000000000000, .int .u64 10000000000000000000] := by rfl
      rw [e, List.getElem?_toArray]
      simpa using hi
    | _ => simp [World.cell?, hb] at h0
theorem itoa_fn (n : Int) : PFn Tryd.prog 68 [.int .i64 n] (.str (itoaB n)) := by
  intro C w vs hs hA
  rw [VL] at hA
  obtain ⟨v, vs', e, h1, h2⟩ := hA
  rw [V] at h1
  rw [VL] at h2
  obtain ⟨rfl, hf⟩ := h1
  subst h2
  obtain rfl : vs = #[.int .i64 n] := by apply Array.ext'; simpa using e
  have hf' := (fits_iff _ _).1 hf
  simp only [lo, hi] at hf'
  refine (Any.strconv_Itoa Tryd.laysItoa n hf'.1 hf'.2 w (tab_of hs.tabs)).mono ?_
  rintro e w' ⟨rfl, k, os, rfl⟩
  have hsame : ∀ b, b < w.heap.size → (Sort.grow (w.drewN k) os).heap[b]? = w.heap[b]? := fun b hb => Lib.heap_grow_old w k os b hb
  have hk : Keep C w C (Sort.grow (w.drewN k) os) := fun b o hc => ⟨hc, by simp only [World.cell?, hsame b (hs.ok b o hc)]⟩
  refine ⟨.ret (.str (itoaB n)), C, [], ?_, rfl, ⟨fun b o hc => Nat.lt_of_lt_of_le (hs.ok b o hc) (Lib.size_grow w k os), hs.tabs.keep hk, by simp, fun b r hm => by simp at hm⟩, ⟨rfl, rfl, rfl, Lib.size_grow w k os, fun b hb _ => hsame b hb, fun _ _ _ _ h => h, hk⟩, fun b hb => .inl hb⟩
  show V _ _ _ _
  rw [V]
  have := itoaB_size n
  exact ⟨by rw [itoaB_eq n hf'.1 hf'.2], by omega⟩
end Go.Proofs.YtdkiijhmmmfciaaDoor
