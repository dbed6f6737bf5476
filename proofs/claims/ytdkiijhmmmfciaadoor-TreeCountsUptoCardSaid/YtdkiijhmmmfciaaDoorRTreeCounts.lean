/- The law TreeCounts holds wherever what it reads is of bulk at most 1048576. -/
import Derived.Test.YtdkiijhmmmfciaaDoorH9
import Derived.Test.YtdkiijhmmmfciaaDoorPA
import Derived.Test.YtdkiijhmmmfciaaDoorRW
import Derived.Test.YtdkiijhmmmfciaaDoorCards
import Derived.Test.YtdkiijhmmmfciaaDoorTie
import Derived.Deep.DeepHandedRow
import Derived.Lib.LaidTab
set_option linter.unusedVariables false
namespace Go.Proofs.YtdkiijhmmmfciaaDoor
open Go
theorem rd_GRange {H : Type} {enc : TypeId × Value → H} {W : World} : ∀ n, ReadsN enc Tryd.prog W n 41 GRange.cells := by
  intro n
  induction n using Nat.strongRecOn with
  | _ n ih =>
  intro cs d ps h hbk
  obtain ⟨hlen, m, rfl, hf⟩ := rd_fields (by kernel_rfl : isStructB Tryd.prog 41 = true) h hbk
  have hfl : fldsOf Tryd.prog 41 = [(3, 0), (3, 1)] := by kernel_rfl
  rw [hfl] at hf
  obtain ⟨y0, h0, b0⟩ := hf (3, 0) (by simp)
  obtain ⟨a0, v0⟩ := (rd_int (k := .i64) Tryd.underlying3) _ _ _ h0 b0
  rw [show Tryd.prog.cellsOf 3 = 1 from by kernel_rfl] at v0
  obtain ⟨y1, h1, b1⟩ := hf (3, 1) (by simp)
  obtain ⟨a1, v1⟩ := (rd_int (k := .i64) Tryd.underlying3) _ _ _ h1 b1
  rw [show Tryd.prog.cellsOf 3 = 1 from by kernel_rfl] at v1
  have := (VL_pc (o := 0) v0 (VL_pc (o := 1) v1 (VL_end (hlen.trans (by kernel_rfl : Tryd.prog.cellsOf 41 = 2)))))
  exact ⟨GRange.mk a0 a1, this⟩
theorem rd_GExpr {H : Type} {enc : TypeId × Value → H} {W : World} : ∀ n, ReadsN enc Tryd.prog W n 33 GExpr.cells := by
  intro n
  induction n using Nat.strongRecOn with
  | _ n ih =>
  intro cs d ps h hbk
  obtain ⟨hlen, m, rfl, hf⟩ := rd_fields (by kernel_rfl : isStructB Tryd.prog 33 = true) h hbk
  have hfl : fldsOf Tryd.prog 33 = [(3, 0), (3, 1), (30, 2), (31, 3), (31, 4), (28, 5)] := by kernel_rfl
  rw [hfl] at hf
  obtain ⟨y0, h0, b0⟩ := hf (3, 0) (by simp)
  obtain ⟨a0, v0⟩ := (rd_int (k := .i64) Tryd.underlying3) _ _ _ h0 b0
  rw [show Tryd.prog.cellsOf 3 = 1 from by kernel_rfl] at v0
  obtain ⟨y1, h1, b1⟩ := hf (3, 1) (by simp)
  obtain ⟨a1, v1⟩ := (rd_int (k := .i64) Tryd.underlying3) _ _ _ h1 b1
  rw [show Tryd.prog.cellsOf 3 = 1 from by kernel_rfl] at v1
  obtain ⟨y2, h2, b2⟩ := hf (30, 2) (by simp)
  obtain ⟨a2, v2⟩ := (rd_slice (EncS GRange.enc_eq (fun _ => rfl)) Tryd.underlying30 (by kernel_rfl : Tryd.prog.cellsOf 41 = 2) (fun j hj => rd_GRange j)) _ _ _ h2 b2
  rw [show Tryd.prog.cellsOf 30 = 1 from by kernel_rfl] at v2
  obtain ⟨y3, h3, b3⟩ := hf (31, 3) (by simp)
  obtain ⟨a3, v3⟩ := (rd_float Tryd.underlying31) _ _ _ h3 b3
  rw [show Tryd.prog.cellsOf 31 = 1 from by kernel_rfl] at v3
  obtain ⟨y4, h4, b4⟩ := hf (31, 4) (by simp)
  obtain ⟨a4, v4⟩ := (rd_float Tryd.underlying31) _ _ _ h4 b4
  rw [show Tryd.prog.cellsOf 31 = 1 from by kernel_rfl] at v4
  obtain ⟨y5, h5, b5⟩ := hf (28, 5) (by simp)
  obtain ⟨a5, v5⟩ := (rd_slice (EncS GExpr.enc_eq (fun _ => rfl)) Tryd.underlying28 (by kernel_rfl : Tryd.prog.cellsOf 33 = 6) (fun j hj => ih j (by omega))) _ _ _ h5 b5
  rw [show Tryd.prog.cellsOf 28 = 1 from by kernel_rfl] at v5
  have := (VL_pc (o := 0) v0 (VL_pc (o := 1) v1 (VL_pc (o := 2) v2 (VL_pc (o := 3) v3 (VL_pc (o := 4) v4 (VL_pc (o := 5) v5 (VL_end (hlen.trans (by kernel_rfl : Tryd.prog.cellsOf 33 = 6)))))))))
  exact ⟨GExpr.mk a0 a1 a2 a3 a4 a5, this⟩
theorem rd_GRate {H : Type} {enc : TypeId × Value → H} {W : World} : ∀ n, ReadsN enc Tryd.prog W n 37 GRate.cells := by
  intro n
  induction n using Nat.strongRecOn with
  | _ n ih =>
  intro cs d ps h hbk
  obtain ⟨hlen, m, rfl, hf⟩ := rd_fields (by kernel_rfl : isStructB Tryd.prog 37 = true) h hbk
  have hfl : fldsOf Tryd.prog 37 = [(3, 0), (3, 1), (3, 2)] := by kernel_rfl
  rw [hfl] at hf
  obtain ⟨y0, h0, b0⟩ := hf (3, 0) (by simp)
  obtain ⟨a0, v0⟩ := (rd_int (k := .i64) Tryd.underlying3) _ _ _ h0 b0
  rw [show Tryd.prog.cellsOf 3 = 1 from by kernel_rfl] at v0
  obtain ⟨y1, h1, b1⟩ := hf (3, 1) (by simp)
  obtain ⟨a1, v1⟩ := (rd_int (k := .i64) Tryd.underlying3) _ _ _ h1 b1
  rw [show Tryd.prog.cellsOf 3 = 1 from by kernel_rfl] at v1
  obtain ⟨y2, h2, b2⟩ := hf (3, 2) (by simp)
  obtain ⟨a2, v2⟩ := (rd_int (k := .i64) Tryd.underlying3) _ _ _ h2 b2
  rw [show Tryd.prog.cellsOf 3 = 1 from by kernel_rfl] at v2
  have := (VL_pc (o := 0) v0 (VL_pc (o := 1) v1 (VL_pc (o := 2) v2 (VL_end (hlen.trans (by kernel_rfl : Tryd.prog.cellsOf 37 = 3))))))
  exact ⟨GRate.mk a0 a1 a2, this⟩
theorem rd_GRule {H : Type} {enc : TypeId × Value → H} {W : World} : ∀ n, ReadsN enc Tryd.prog W n 39 GRule.cells := by
  intro n
  induction n using Nat.strongRecOn with
  | _ n ih =>
  intro cs d ps h hbk
  obtain ⟨hlen, m, rfl, hf⟩ := rd_fields (by kernel_rfl : isStructB Tryd.prog 39 = true) h hbk
  have hfl : fldsOf Tryd.prog 39 = [(4, 0), (33, 1), (37, 7), (3, 10)] := by kernel_rfl
  rw [hfl] at hf
  obtain ⟨y0, h0, b0⟩ := hf (4, 0) (by simp)
  obtain ⟨a0, v0⟩ := (rd_bool Tryd.underlying4) _ _ _ h0 b0
  rw [show Tryd.prog.cellsOf 4 = 1 from by kernel_rfl] at v0
  obtain ⟨y1, h1, b1⟩ := hf (33, 1) (by simp)
  obtain ⟨a1, v1⟩ := (rd_GExpr m) _ _ _ h1 b1
  rw [show Tryd.prog.cellsOf 33 = 6 from by kernel_rfl] at v1
  obtain ⟨y2, h2, b2⟩ := hf (37, 7) (by simp)
  obtain ⟨a2, v2⟩ := (rd_GRate m) _ _ _ h2 b2
  rw [show Tryd.prog.cellsOf 37 = 3 from by kernel_rfl] at v2
  obtain ⟨y3, h3, b3⟩ := hf (3, 10) (by simp)
  obtain ⟨a3, v3⟩ := (rd_int (k := .i64) Tryd.underlying3) _ _ _ h3 b3
  rw [show Tryd.prog.cellsOf 3 = 1 from by kernel_rfl] at v3
  have := (VL_pc (o := 0) v0 (VL_pc (o := 1) v1 (VL_pc (o := 7) v2 (VL_pc (o := 10) v3 (VL_end (hlen.trans (by kernel_rfl : Tryd.prog.cellsOf 39 = 11)))))))
  exact ⟨GRule.mk a0 a1 a2 a3, this⟩
namespace rTreeCounts
open Go.ChangeShapes Go.WideShapes Go.ChangeAt Go.RowKit
theorem own : ownKnob Tryd.prog.godebug = none := by kernel_rfl
theorem laidOut : laidOutB Tryd.prog = true := by kernel_rfl
theorem readable : (Tryd.f4.params.toList.all fun t => Tryd.prog.readableRec t && decide (t < Tryd.prog.types.size)) = true := by kernel_rfl
set_option maxRecDepth 100000 in
theorem contract (H : Type) (enc : TypeId × Value → H) (W : World) (base : Nat) (args : Array Value) (ds gs : List (DataW H)) (before : List MemPlace)
    (hval : ∀ (j : Nat) t v, Tryd.f4.params[j]? = some t → args[j]? = some v → Value.okWide Tryd.prog W .any base t v)
    (hW : DataW.Whole enc Tryd.prog Tryd.f4.params.toList Rows.treeCountsSpec.vars false W args.toList ds gs before) (hbk : Rows.uptoBulkAll (ds ++ gs) ≤ 1048576) :
    Calls Tryd.prog 4 args W fun e W' => ∃ v, e = .returned v ∧ Rows.treeCountsSpec.post enc Tryd.prog Tryd.f4 false true false false W args v W' := by
  have hW' := hW
  obtain ⟨p, q, hA0, hV, rfl, hfz, hnd⟩ := hW
  have hA : DataW.TrodAll enc Tryd.prog W 0 (fun _ => true) true Tryd.f4.params.toList args.toList ds p := hA0
  rw [Tryd.params4] at hA hval
  obtain ⟨rfl, rfl⟩ := trodVars_none hV
  rw [List.append_nil] at hbk
  obtain ⟨v0, vs0, d0, ds0, p0, q0, hargs, rfl, rfl, h0, r0⟩ := trodAll_cons hA
  obtain ⟨v1, vs1, d1, ds1, p1, q1, rfl, rfl, rfl, h1, r1⟩ := trodAll_cons r0
  obtain ⟨rfl, rfl, rfl⟩ := trodAll_nil r1
  obtain rfl : args = #[v0, v1] := by apply Array.ext'; simpa using hargs
  simp only [Rows.uptoBulkAll] at hbk
  obtain ⟨a0, k0⟩ := arg_one (f := (fun l : List GExpr => TV.slice .ro 6 (l.map GExpr.enc))) (one_slice Tryd.underlying28 (hval 0 28 v0 rfl rfl)) (fun n => rd_slice (EncS GExpr.enc_eq (fun _ => rfl)) Tryd.underlying28 (by kernel_rfl : Tryd.prog.cellsOf 33 = 6) (fun j hj => rd_GExpr j)) h0 (by omega)
  obtain ⟨a1, k1⟩ := arg_one (f := TV.int .u8) (one_int Tryd.underlying5 (hval 1 5 v1 rfl rfl)) (fun n => rd_int Tryd.underlying5) h1 (by omega)
  have f1 : IntKind.fits .u8 a1 := by have h := k1; rw [V] at h; exact h.2
  have walk := law11_TreeCounts_fn 30 a0 a1 true (TreeCounts_true a0 a1 (by have h := (fits_iff _ _).1 f1; simpa [lo] using h.1) (by have h := (fits_iff _ _).1 f1; simpa [hi] using h.2)) (allC W) W #[v0, v1] (allC_sim W) (by rw [VL]; exact ⟨_, _, rfl, k0, by rw [VL]; exact ⟨_, _, rfl, k1, by simp [VL]⟩⟩)
  refine walk.mono ?_
  rintro e W' ⟨r, C', s', hE, rfl, hs', hev, _⟩
  cases e with
  | returned v =>
    have hv : v = .bool true := by
      have h : V C' W' (.bool true) v := hE
      rw [V] at h; exact h
    subst hv
    exact ⟨_, rfl, law_post (rt := 4) laidOut readable hW' rfl rfl Tryd.underlying4 rfl rfl hev.os hev.output (fun b hb => hev.same b hb (dom_nil b)) rfl (okWide_bool_mk Tryd.underlying4 _)⟩
  | _ => exact hE.elim
noncomputable def laidWorld (os : Os) : World := { World.holding Tryd.prog os ⟨#[], #[], []⟩ with heap := ((((World.holding Tryd.prog os ⟨#[], #[], []⟩).heap.modify 1 fun | .cells _ t frozen => .cells #[.int .u64 1, .int .u64 10, .int .u64 100, .int .u64 1000, .int .u64 10000, .int .u64 100000, .int .u64 1000000, .int .u64 10000000, .int .u64 100000000, .int .u64 1000000000, .int .u64 10000000000, .int .u64 100000000000, .int .u64 1000000000000, .int .u64 10000000000000, .int .u64 100000000000000, .int .u64 1000000000000000, .int .u64 10000000000000000, .int .u64 100000000000000000, .int .u64 1000000000000000000, .int .u64 10000000000000000000] t frozen | o => o).modify 2 fun | .cells _ t frozen => .cells #[.int .u8 0, .int .u8 1, .int .u8 28, .int .u8 2, .int .u8 29, .int .u8 14, .int .u8 24, .int .u8 3, .int .u8 30, .int .u8 22, .int .u8 20, .int .u8 15, .int .u8 25, .int .u8 17, .int .u8 4, .int .u8 8, .int .u8 31, .int .u8 27, .int .u8 13, .int .u8 23, .int .u8 21, .int .u8 19, .int .u8 16, .int .u8 7, .int .u8 26, .int .u8 12, .int .u8 18, .int .u8 6, .int .u8 11, .int .u8 5, .int .u8 10, .int .u8 9] t frozen | o => o).modify 3 fun | .cells _ t frozen => .cells #[.int .u8 0, .int .u8 1, .int .u8 56, .int .u8 2, .int .u8 57, .int .u8 49, .int .u8 28, .int .u8 3, .int .u8 61, .int .u8 58, .int .u8 42, .int .u8 50, .int .u8 38, .int .u8 29, .int .u8 17, .int .u8 4, .int .u8 62, .int .u8 47, .int .u8 59, .int .u8 36, .int .u8 45, .int .u8 43, .int .u8 51, .int .u8 22, .int .u8 53, .int .u8 39, .int .u8 33, .int .u8 30, .int .u8 24, .int .u8 18, .int .u8 12, .int .u8 5, .int .u8 63, .int .u8 55, .int .u8 48, .int .u8 27, .int .u8 60, .int .u8 41, .int .u8 37, .int .u8 16, .int .u8 46, .int .u8 35, .int .u8 44, .int .u8 21, .int .u8 52, .int .u8 32, .int .u8 23, .int .u8 11, .int .u8 54, .int .u8 26, .int .u8 40, .int .u8 15, .int .u8 34, .int .u8 20, .int .u8 31, .int .u8 10, .int .u8 25, .int .u8 14, .int .u8 19, .int .u8 9, .int .u8 13, .int .u8 8, .int .u8 7, .int .u8 6] t frozen | o => o) }
theorem laid_met (os : Os) : laidMet Tryd.prog Rows.treeCountsUptoRow.laid ((laidWorld os).forCall (fun _ _ => 0) ⟨#[], #[Value.slice none 0 0, Value.int .u8 0], []⟩).memory := laidMet_of_run' 8 (by kernel_rfl) (by kernel_rfl)
theorem reads (os : Os) {H : Type} (enc : TypeId × Value → H) : ∃ places, DataW.whole enc Tryd.prog ((laidWorld os).forCall (fun _ _ => 0) ⟨#[], #[Value.slice none 0 0, Value.int .u8 0], []⟩).memory Tryd.f4.params.toList Rows.treeCountsSpec.vars false (#[Value.slice none 0 0, Value.int .u8 0] : Array Value).toList 8 = some ([.nil, .lit (.int .u8 0)], [], places) := ⟨[], by kernel_rfl⟩
set_option maxRecDepth 100000 in
theorem liftedUpto (os : Os) (started : os.Started) (H : Type) (enc : TypeId × Value → H) (F : Stop.Interp) :
    ReturnsInHanded {} Tryd.checked os 4 .any ((Rows.OpenSpec.upto Rows.treeCountsSpec).preRow enc Tryd.prog Tryd.f4 Rows.treeCountsUptoRow.domain false Rows.treeCountsUptoRow.laid) (((Rows.OpenSpec.upto Rows.treeCountsSpec).at F).post enc Tryd.prog Tryd.f4 false true false false) := by
  obtain ⟨places, hx⟩ := reads os enc
  refine returnsInHanded_of_row (C := Tryd.checked) (s := Rows.OpenSpec.upto Rows.treeCountsSpec) own started (by kernel_rfl) Tryd.func4
    (witness_row_at (enc := enc) (C := Tryd.checked) false (laidWorld os) #[Value.slice none 0 0, Value.int .u8 0] rfl (by kernel_rfl) (by kernel_rfl) (by kernel_rfl)
      (OpenSpec.preRow_of_cond 8 hx (by kernel_rfl) (fun k hk => by cases hk; kernel_rfl) (by kernel_rfl) (laid_met os))) ?_
  intro W base args ds gs before hval hW _ hcond _ hL _ _
  exact contract H enc W base args ds gs before hval hW (of_decide_eq_true (hcond _ rfl))
theorem saidUpto : Rows.TreeCountsUptoSaid :=
  OpenClaim.holds_of_cond 4 Tryd.f4 rfl rfl rfl rfl rfl rfl rfl ⟨rfl, rfl, rfl, rfl, rfl⟩ rfl rfl rfl rfl rfl (by kernel_rfl) Tryd.func4 (by kernel_rfl)
    (of_decide_eq_true (by kernel_rfl)) (by unfold Func.isWrapper; first | (rw [if_pos (by decide +kernel)]; kernel_rfl) | (rw [if_neg (by decide +kernel)]; exact ⟨rfl, rfl⟩))
    (fun os started H enc _ F => by rw [OpenClaim.pre_eq_preRow]; exact liftedUpto os started H enc F)
theorem plain (f : FuncId) (fn : Func) (hf : Tryd.pinned.checked.prog.funcNamed "gatewarden/gatewardenlaw11.TreeCounts" = some f) (hfn : Tryd.pinned.checked.prog.funcs[f]? = some fn) :
    false = Tryd.pinned.checked.prog.looks [] ∧ ∀ (j : Nat) t, fn.params[j]? = some t → Tryd.pinned.checked.prog.wantsStandIn t = false := by
  obtain rfl : f = 4 := Option.some.inj ((show Tryd.prog.funcNamed "gatewarden/gatewardenlaw11.TreeCounts" = some 4 by kernel_rfl).symm.trans hf) |>.symm
  obtain rfl : fn = Tryd.f4 := (Option.some.inj (Tryd.func4.symm.trans hfn)).symm
  refine ⟨by kernel_rfl, fun j t ht => ?_⟩
  rw [Tryd.params4] at ht
  have hm := Array.mem_of_getElem? ht
  have hall : ∀ t ∈ (#[28, 5] : Array TypeId), Tryd.prog.wantsStandIn t = false := by
    intro t ht
    simp only [List.mem_toArray, List.mem_cons, List.not_mem_nil, or_false] at ht
    rcases ht with rfl | rfl <;> kernel_rfl
  exact hall t hm
theorem cardUpto : Rows.TreeCountsUptoCardSaid :=
  Claim7.holds_tied_plain_at .later [] _ _ _ _ saidUpto (fun _ h => by cases h) (by kernel_rfl) (fun _ h => by cases h) treeCountsUpto_row_tie rfl ⟨rfl, rfl⟩ (by kernel_rfl) rfl plain (by kernel_rfl)
end rTreeCounts
theorem treeCounts_holds : Rows.TreeCountsUptoCardSaid := rTreeCounts.cardUpto
end Go.Proofs.YtdkiijhmmmfciaaDoor
