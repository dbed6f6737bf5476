/- What the arguments' types say: readings. Printed by mkrow.py. -/
import Derived.Test.YtdkiijhmmmfciaaDoorG0
import Derived.Test.YtdkiijhmmmfciaaDoorRW
set_option linter.unusedVariables false
namespace Go.Proofs.YtdkiijhmmmfciaaDoor
open Go
inductive GRange.Ok : GRange → Prop
  | mk {x : GRange} (q0 : (wfI .i64) x.Low) (q1 : (wfI .i64) x.High) : GRange.Ok x
theorem rd_GRange {H : Type} {enc : TypeId × Value → H} {W : World} : ∀ n, ReadsN enc Tryd.prog W n 41 GRange.Ok GRange.cells := by
  intro n
  induction n using Nat.strongRecOn with
  | _ n ih =>
  intro cs d ps h hbk
  obtain ⟨hlen, m, rfl, hf⟩ := rd_fields (by kernel_rfl : isStructB Tryd.prog 41 = true) h hbk
  have hfl : fldsOf Tryd.prog 41 = [(3, 0), (3, 1)] := by kernel_rfl
  rw [hfl] at hf
  obtain ⟨y0, h0, b0⟩ := hf (3, 0) (by simp)
  obtain ⟨a0, q0, v0⟩ := (rd_int (k := .i64) Tryd.underlying3) _ _ _ h0 b0
  rw [show Tryd.prog.cellsOf 3 = 1 from by kernel_rfl] at v0
  obtain ⟨y1, h1, b1⟩ := hf (3, 1) (by simp)
  obtain ⟨a1, q1, v1⟩ := (rd_int (k := .i64) Tryd.underlying3) _ _ _ h1 b1
  rw [show Tryd.prog.cellsOf 3 = 1 from by kernel_rfl] at v1
  have := (VL_pc (o := 0) v0 (VL_pc (o := 1) v1 (VL_end (hlen.trans (by kernel_rfl : Tryd.prog.cellsOf 41 = 2)))))
  exact ⟨GRange.mk a0 a1, .mk q0 q1, this⟩
inductive GExpr.Ok : GExpr → Prop
  | mk {x : GExpr} (q0 : (wfI .i64) x.Kind) (q1 : (wfI .i64) x.Field) (l2 : x.Ranges.length ≤ 1048576) (q2 : ∀ y ∈ x.Ranges, (GRange.Ok) y) (q3 : (wfF) x.Low) (q4 : (wfF) x.High) (l5 : x.Of.length ≤ 1048576) (q5 : ∀ y ∈ x.Of, (GExpr.Ok) y) : GExpr.Ok x
theorem rd_GExpr {H : Type} {enc : TypeId × Value → H} {W : World} : ∀ n, ReadsN enc Tryd.prog W n 33 GExpr.Ok GExpr.cells := by
  intro n
  induction n using Nat.strongRecOn with
  | _ n ih =>
  intro cs d ps h hbk
  obtain ⟨hlen, m, rfl, hf⟩ := rd_fields (by kernel_rfl : isStructB Tryd.prog 33 = true) h hbk
  have hfl : fldsOf Tryd.prog 33 = [(3, 0), (3, 1), (30, 2), (31, 3), (31, 4), (28, 5)] := by kernel_rfl
  rw [hfl] at hf
  obtain ⟨y0, h0, b0⟩ := hf (3, 0) (by simp)
  obtain ⟨a0, q0, v0⟩ := (rd_int (k := .i64) Tryd.underlying3) _ _ _ h0 b0
  rw [show Tryd.prog.cellsOf 3 = 1 from by kernel_rfl] at v0
  obtain ⟨y1, h1, b1⟩ := hf (3, 1) (by simp)
  obtain ⟨a1, q1, v1⟩ := (rd_int (k := .i64) Tryd.underlying3) _ _ _ h1 b1
  rw [show Tryd.prog.cellsOf 3 = 1 from by kernel_rfl] at v1
  obtain ⟨y2, h2, b2⟩ := hf (30, 2) (by simp)
  obtain ⟨a2, q2, v2⟩ := (rd_slice (EncS GRange.enc_eq (fun _ => rfl)) Tryd.underlying30 (by kernel_rfl : Tryd.prog.cellsOf 41 = 2) (fun j hj => rd_GRange j)) _ _ _ h2 b2
  rw [show Tryd.prog.cellsOf 30 = 1 from by kernel_rfl] at v2
  obtain ⟨y3, h3, b3⟩ := hf (31, 3) (by simp)
  obtain ⟨a3, q3, v3⟩ := (rd_float Tryd.underlying31) _ _ _ h3 b3
  rw [show Tryd.prog.cellsOf 31 = 1 from by kernel_rfl] at v3
  obtain ⟨y4, h4, b4⟩ := hf (31, 4) (by simp)
  obtain ⟨a4, q4, v4⟩ := (rd_float Tryd.underlying31) _ _ _ h4 b4
  rw [show Tryd.prog.cellsOf 31 = 1 from by kernel_rfl] at v4
  obtain ⟨y5, h5, b5⟩ := hf (28, 5) (by simp)
  obtain ⟨a5, q5, v5⟩ := (rd_slice (EncS GExpr.enc_eq (fun _ => rfl)) Tryd.underlying28 (by kernel_rfl : Tryd.prog.cellsOf 33 = 6) (fun j hj => ih j (by omega))) _ _ _ h5 b5
  rw [show Tryd.prog.cellsOf 28 = 1 from by kernel_rfl] at v5
  have := (VL_pc (o := 0) v0 (VL_pc (o := 1) v1 (VL_pc (o := 2) v2 (VL_pc (o := 3) v3 (VL_pc (o := 4) v4 (VL_pc (o := 5) v5 (VL_end (hlen.trans (by kernel_rfl : Tryd.prog.cellsOf 33 = 6)))))))))
  exact ⟨GExpr.mk a0 a1 a2 a3 a4 a5, .mk q0 q1 q2.1 q2.2 q3 q4 q5.1 q5.2, this⟩
inductive GRate.Ok : GRate → Prop
  | mk {x : GRate} (q0 : (wfI .i64) x.Num) (q1 : (wfI .i64) x.Per) (q2 : (wfI .i64) x.Burst) : GRate.Ok x
theorem rd_GRate {H : Type} {enc : TypeId × Value → H} {W : World} : ∀ n, ReadsN enc Tryd.prog W n 37 GRate.Ok GRate.cells := by
  intro n
  induction n using Nat.strongRecOn with
  | _ n ih =>
  intro cs d ps h hbk
  obtain ⟨hlen, m, rfl, hf⟩ := rd_fields (by kernel_rfl : isStructB Tryd.prog 37 = true) h hbk
  have hfl : fldsOf Tryd.prog 37 = [(3, 0), (3, 1), (3, 2)] := by kernel_rfl
  rw [hfl] at hf
  obtain ⟨y0, h0, b0⟩ := hf (3, 0) (by simp)
  obtain ⟨a0, q0, v0⟩ := (rd_int (k := .i64) Tryd.underlying3) _ _ _ h0 b0
  rw [show Tryd.prog.cellsOf 3 = 1 from by kernel_rfl] at v0
  obtain ⟨y1, h1, b1⟩ := hf (3, 1) (by simp)
  obtain ⟨a1, q1, v1⟩ := (rd_int (k := .i64) Tryd.underlying3) _ _ _ h1 b1
  rw [show Tryd.prog.cellsOf 3 = 1 from by kernel_rfl] at v1
  obtain ⟨y2, h2, b2⟩ := hf (3, 2) (by simp)
  obtain ⟨a2, q2, v2⟩ := (rd_int (k := .i64) Tryd.underlying3) _ _ _ h2 b2
  rw [show Tryd.prog.cellsOf 3 = 1 from by kernel_rfl] at v2
  have := (VL_pc (o := 0) v0 (VL_pc (o := 1) v1 (VL_pc (o := 2) v2 (VL_end (hlen.trans (by kernel_rfl : Tryd.prog.cellsOf 37 = 3))))))
  exact ⟨GRate.mk a0 a1 a2, .mk q0 q1 q2, this⟩
inductive GRule.Ok : GRule → Prop
  | mk {x : GRule} (q0 : (wfB) x.Allow) (q1 : (GExpr.Ok) x.When) (q2 : (GRate.Ok) x.Rate) (q3 : (wfI .i64) x.Line) : GRule.Ok x
theorem rd_GRule {H : Type} {enc : TypeId × Value → H} {W : World} : ∀ n, ReadsN enc Tryd.prog W n 39 GRule.Ok GRule.cells := by
  intro n
  induction n using Nat.strongRecOn with
  | _ n ih =>
  intro cs d ps h hbk
  obtain ⟨hlen, m, rfl, hf⟩ := rd_fields (by kernel_rfl : isStructB Tryd.prog 39 = true) h hbk
  have hfl : fldsOf Tryd.prog 39 = [(4, 0), (33, 1), (37, 7), (3, 10)] := by kernel_rfl
  rw [hfl] at hf
  obtain ⟨y0, h0, b0⟩ := hf (4, 0) (by simp)
  obtain ⟨a0, q0, v0⟩ := (rd_bool Tryd.underlying4) _ _ _ h0 b0
  rw [show Tryd.prog.cellsOf 4 = 1 from by kernel_rfl] at v0
  obtain ⟨y1, h1, b1⟩ := hf (33, 1) (by simp)
  obtain ⟨a1, q1, v1⟩ := (rd_GExpr m) _ _ _ h1 b1
  rw [show Tryd.prog.cellsOf 33 = 6 from by kernel_rfl] at v1
  obtain ⟨y2, h2, b2⟩ := hf (37, 7) (by simp)
  obtain ⟨a2, q2, v2⟩ := (rd_GRate m) _ _ _ h2 b2
  rw [show Tryd.prog.cellsOf 37 = 3 from by kernel_rfl] at v2
  obtain ⟨y3, h3, b3⟩ := hf (3, 10) (by simp)
  obtain ⟨a3, q3, v3⟩ := (rd_int (k := .i64) Tryd.underlying3) _ _ _ h3 b3
  rw [show Tryd.prog.cellsOf 3 = 1 from by kernel_rfl] at v3
  have := (VL_pc (o := 0) v0 (VL_pc (o := 1) v1 (VL_pc (o := 7) v2 (VL_pc (o := 10) v3 (VL_end (hlen.trans (by kernel_rfl : Tryd.prog.cellsOf 39 = 11)))))))
  exact ⟨GRule.mk a0 a1 a2 a3, .mk q0 q1 q2 q3, this⟩
end Go.Proofs.YtdkiijhmmmfciaaDoor
