/- The functions that the code computes. Printed by tr.py. -/
import Derived.Test.YtdkiijhmmmfciaaDoorTQ
set_option linter.unusedVariables false
set_option linter.unusedSimpArgs false
namespace Go.Proofs.YtdkiijhmmmfciaaDoor
open Go
structure GRange where
  Low : Int
  High : Int
def GRange.cells (x : GRange) : List TV := [.int .i64 x.Low, .int .i64 x.High]
def GRange.enc (x : GRange) : TV := .agg x.cells
theorem GRange.enc_eq (x : GRange) : x.enc = .agg x.cells := rfl
theorem GRange.flat : flatE GRange.enc := flatS GRange.enc_eq fun a => by simp only [allOne, GRange.cells, List.all_cons, List.all_nil, one_fl] <;> rfl
structure GExpr where
  Kind : Int
  Field : Int
  Ranges : List GRange
  Low : Fl
  High : Fl
  Of : List GExpr
mutual
def GExpr.enc : GExpr → TV
  | ⟨f_Kind, f_Field, f_Ranges, f_Low, f_High, f_Of⟩ => .agg [.int .i64 f_Kind, .int .i64 f_Field, .slice .ro 2 (f_Ranges.map GRange.enc), encF f_Low, encF f_High, .slice .ro 6 (GExpr.encs f_Of)]
def GExpr.encs : List GExpr → List TV
  | [] => []
  | x :: l => GExpr.enc x :: GExpr.encs l
end
theorem GExpr.encs_eq : ∀ l : List GExpr, GExpr.encs l = l.map GExpr.enc
  | [] => rfl
  | x :: l => by rw [GExpr.encs, GExpr.encs_eq l, List.map_cons]
def GExpr.cells (x : GExpr) : List TV := [.int .i64 x.Kind, .int .i64 x.Field, .slice .ro 2 (x.Ranges.map GRange.enc), encF x.Low, encF x.High, .slice .ro 6 (x.Of.map GExpr.enc)]
theorem GExpr.enc_eq (x : GExpr) : x.enc = .agg x.cells := by cases x; simp only [GExpr.enc, GExpr.cells, GExpr.encs_eq]
theorem GExpr.flat : flatE GExpr.enc := flatS GExpr.enc_eq fun a => by simp only [allOne, GExpr.cells, List.all_cons, List.all_nil, one_fl] <;> rfl
structure GRate where
  Num : Int
  Per : Int
  Burst : Int
def GRate.cells (x : GRate) : List TV := [.int .i64 x.Num, .int .i64 x.Per, .int .i64 x.Burst]
def GRate.enc (x : GRate) : TV := .agg x.cells
theorem GRate.enc_eq (x : GRate) : x.enc = .agg x.cells := rfl
theorem GRate.flat : flatE GRate.enc := flatS GRate.enc_eq fun a => by simp only [allOne, GRate.cells, List.all_cons, List.all_nil, one_fl] <;> rfl
structure GRule where
  Allow : Bool
  When : GExpr
  Rate : GRate
  Line : Int
def GRule.cells (x : GRule) : List TV := [.bool x.Allow, .int .i64 x.When.Kind, .int .i64 x.When.Field, .slice .ro 2 (x.When.Ranges.map GRange.enc), encF x.When.Low, encF x.When.High, .slice .ro 6 (x.When.Of.map GExpr.enc), .int .i64 x.Rate.Num, .int .i64 x.Rate.Per, .int .i64 x.Rate.Burst, .int .i64 x.Line]
def GRule.enc (x : GRule) : TV := .agg x.cells
theorem GRule.enc_eq (x : GRule) : x.enc = .agg x.cells := rfl
theorem GRule.flat : flatE GRule.enc := flatS GRule.enc_eq fun a => by simp only [allOne, GRule.cells, List.all_cons, List.all_nil, one_fl] <;> rfl

def ref11_Small_L0 (self_ref11_Small : GExpr → Int → Option Bool) (e : GExpr) (deep : Int) (kont0 : Int → Option Bool) : Nat → Int → Option Bool
  | 0, _ => none
  | m4 + 1, x3 =>
    cond (decide (x3 < (e.Of.length : Int)))
      (bnd (idx e.Of x3) fun v5 =>
      bnd (self_ref11_Small v5 (IntKind.wrap .i64 (deep - 1))) fun v6 =>
      cond (!v6)
        (some false)
        (ref11_Small_L0 self_ref11_Small e deep kont0 m4 (IntKind.wrap .i64 (x3 + 1))))
      (kont0 x3)
def ref11_Small : Nat → GExpr → Int → Option Bool
  | 0, _, _ => none
  | k + 1, e, deep =>
    cond (decide (deep < 0))
      (some false)
      (cond (decide (6 < (e.Of.length : Int)))
        (some false)
        (cond (decide (8 < (e.Ranges.length : Int)))
          (some false)
          (ref11_Small_L0 (ref11_Small k) e deep (fun x9 =>
            some true) k 0)))

def ref11_Few_L0 (k : Nat) (l : List GRule) (kont0 : Int → Option Bool) : Nat → Int → Option Bool
  | 0, _ => none
  | m2 + 1, x1 =>
    cond (decide (x1 < (l.length : Int)))
      (bnd (idx l x1) fun v3 =>
      bnd (ref11_Small k v3.When 4) fun v4 =>
      cond (!v4)
        (some false)
        (ref11_Few_L0 k l kont0 m2 (IntKind.wrap .i64 (x1 + 1))))
      (kont0 x1)
def ref11_Few (k : Nat) (l : List GRule) (most : Int) : Option Bool :=
  cond (decide (most < (l.length : Int)))
    (some false)
    (ref11_Few_L0 k l (fun x7 =>
      some true) k 0)

def law11_awake_1 (k : Nat) (n : Int) : Option GExpr :=
  some (GExpr.mk 1 3 [(GRange.mk n n)] (some 0) (some 0) [])

def math_Abs (k : Nat) (x_0 : Fl) : Option Fl :=
  bnd (Fl.bits x_0) fun v1 =>
  some (some (Int.toNat (bitsOf .andNot .u64 v1 9223372036854775808)))

def math_IsInf (k : Nat) (f : Fl) (sign : Int) : Option Bool :=
  cond (sign == 0)
    (bnd (math_Abs k f) fun v1 =>
    some (Fl.gt v1 (some 9218868437227405311)))
    (cond (decide (sign < 0))
      (some (Fl.gt (Fl.neg f) (some 9218868437227405311)))
      (some (Fl.gt f (some 9218868437227405311))))

def math_IsNaN (k : Nat) (f : Fl) : Option Bool :=
  some (Fl.ne f f)

def math_Trunc (k : Nat) (x_0 : Fl) : Option Fl :=
  bnd (Fl.trunc x_0) fun v1 =>
  some v1

def guard_Put (k : Nat) (n : Int) : Option (ByteArray × Bool) :=
  cond (decide (n < 0))
    (some ((⟨#[]⟩ : ByteArray), false))
    (cond (decide (9007199254740992 < n))
      (some ((⟨#[]⟩ : ByteArray), false))
      (some ((itoaB n), true)))

def math_Signbit (k : Nat) (x_0 : Fl) : Option Bool :=
  bnd (Fl.bits x_0) fun v1 =>
  some (decide ((IntKind.wrap .i64 v1) < 0))

def real_Text (k : Nat) (x_0 : Fl) : Option (ByteArray × Bool) :=
  bnd (math_Abs k x_0) fun v1 =>
  bnd (math_IsInf k v1 1) fun v2 =>
  cond (!v2)
    (bnd (math_IsNaN k x_0) fun v3 =>
    cond v3
      (some ((⟨#[]⟩ : ByteArray), false))
      (cond (Fl.gt v1 (some 4845873199050653696))
        (some ((⟨#[]⟩ : ByteArray), false))
        (bnd (math_Trunc k v1) fun v6 =>
        cond (Fl.ne v1 v6)
          (some ((⟨#[]⟩ : ByteArray), false))
          (bnd (Fl.toInt .i64 v1) fun v7 =>
          bnd (guard_Put k v7) fun v8 =>
          bnd (math_Signbit k x_0) fun v9 =>
          cond v9
            (chk (decide ((⟨#[45]⟩ : ByteArray).size + v8.1.size ≤ 9223372036854775807))
              (some (((⟨#[45]⟩ : ByteArray) ++ v8.1), v8.2)))
            (some (v8.1, v8.2))))))
    (bnd (math_Signbit k x_0) fun v13 =>
    cond v13
      (chk (decide ((⟨#[45]⟩ : ByteArray).size + (⟨#[105, 110, 102]⟩ : ByteArray).size ≤ 9223372036854775807))
        (some (((⟨#[45]⟩ : ByteArray) ++ (⟨#[105, 110, 102]⟩ : ByteArray)), true)))
      (some ((⟨#[105, 110, 102]⟩ : ByteArray), true)))

def slices_IndexFunc_int_L0 (s_0 : List Int) (f : Int → Option Bool) (kont0 : Int → Option Int) : Nat → Int → Option Int
  | 0, _ => none
  | m2 + 1, x1 =>
    cond (decide (x1 < (s_0.length : Int)))
      (bnd (idx s_0 x1) fun v3 =>
      bnd (f v3) fun v4 =>
      cond v4
        (some x1)
        (slices_IndexFunc_int_L0 s_0 f kont0 m2 (IntKind.wrap .i64 (x1 + 1))))
      (kont0 x1)
def slices_IndexFunc_int (k : Nat) (s_0 : List Int) (f : Int → Option Bool) : Option Int :=
  slices_IndexFunc_int_L0 s_0 f (fun x7 =>
    some (-1)) k 0

def slices_ContainsFunc_int (k : Nat) (s_0 : List Int) (f : Int → Option Bool) : Option Bool :=
  bnd (slices_IndexFunc_int k s_0 f) fun v1 =>
  some (decide (0 ≤ v1))

def tree_fine_1 (k : Nat) (n : Int) : Option Bool :=
  cond (decide (n < 0))
    (some true)
    (some (decide (9007199254740992 < n)))

def tree_fine (k : Nat) (l : List Int) : Option Bool :=
  bnd (slices_ContainsFunc_int k l (tree_fine_1 k)) fun v1 =>
  some (!v1)

def real_Same (k : Nat) (a_0 : Fl) (b_1 : Fl) : Option Bool :=
  bnd (math_IsNaN k a_0) fun v1 =>
  cond v1
    (bnd (math_IsNaN k a_0) fun v3 =>
    cond v3
      (bnd (math_IsNaN k b_1) fun v5 =>
      some v5)
      (some false))
    (bnd (math_IsNaN k b_1) fun v6 =>
    cond v6
      (bnd (math_IsNaN k a_0) fun v7 =>
      cond v7
        (bnd (math_IsNaN k b_1) fun v9 =>
        some v9)
        (some false))
      (bnd (Fl.bits a_0) fun v10 =>
      bnd (Fl.bits b_1) fun v11 =>
      some (v10 == v11)))

def tree_atom_L0 (k : Nat) (e : GExpr) (kont0 : Int → Option Bool) : Nat → Int → Option Bool
  | 0, _ => none
  | m8 + 1, x7 =>
    cond (decide (x7 < (e.Ranges.length : Int)))
      (bnd (idx e.Ranges x7) fun v9 =>
      bnd (tree_fine k [v9.Low, v9.High]) fun v10 =>
      cond (!v10)
        (some false)
        (tree_atom_L0 k e kont0 m8 (IntKind.wrap .i64 (x7 + 1))))
      (kont0 x7)
def tree_atom (k : Nat) (e : GExpr) : Option Bool :=
  cond (decide (0 < (e.Of.length : Int)))
    (some false)
    (cond (e.Field == 6)
      (bnd (real_Text k e.Low) fun v1 =>
      bnd (real_Text k e.High) fun v2 =>
      cond v1.2
        (cond v2.2
          (some ((e.Ranges.length : Int) == 0))
          (some false))
        (some false))
      (cond (decide (e.Field < 1))
        (some false)
        (cond (decide (5 < e.Field))
          (some false)
          (cond ((e.Ranges.length : Int) == 0)
            (some false)
            (tree_atom_L0 k e (fun x16 =>
              bnd (real_Same k e.Low (some 0)) fun v17 =>
              cond v17
                (bnd (real_Same k e.High (some 0)) fun v19 =>
                some v19)
                (some false)) k 0)))))

def tree_bare (k : Nat) (e : GExpr) : Option Bool :=
  cond (e.Field == 0)
    (cond ((e.Ranges.length : Int) == 0)
      (bnd (real_Same k e.Low (some 0)) fun v3 =>
      cond v3
        (bnd (real_Same k e.High (some 0)) fun v5 =>
        some v5)
        (some false))
      (some false))
    (some false)

def slices_IndexFunc_Expr_L0 (s_0 : List GExpr) (f : GExpr → Option Bool) (kont0 : Int → Option Int) : Nat → Int → Option Int
  | 0, _ => none
  | m2 + 1, x1 =>
    cond (decide (x1 < (s_0.length : Int)))
      (bnd (idx s_0 x1) fun v3 =>
      bnd (f v3) fun v4 =>
      cond v4
        (some x1)
        (slices_IndexFunc_Expr_L0 s_0 f kont0 m2 (IntKind.wrap .i64 (x1 + 1))))
      (kont0 x1)
def slices_IndexFunc_Expr (k : Nat) (s_0 : List GExpr) (f : GExpr → Option Bool) : Option Int :=
  slices_IndexFunc_Expr_L0 s_0 f (fun x7 =>
    some (-1)) k 0

def slices_ContainsFunc_Expr (k : Nat) (s_0 : List GExpr) (f : GExpr → Option Bool) : Option Bool :=
  bnd (slices_IndexFunc_Expr k s_0 f) fun v1 =>
  some (decide (0 ≤ v1))

def tree_Right_1 (self_tree_Right : GExpr → Option Bool) (k : Nat) (x_0 : GExpr) : Option Bool :=
  cond (x_0.Kind == 0)
    (some true)
    (bnd (self_tree_Right x_0) fun v2 =>
    some (!v2))

def tree_Right : Nat → GExpr → Option Bool
  | 0, _ => none
  | k + 1, e =>
    cond (e.Kind == 1)
      (bnd (tree_atom k e) fun v1 =>
      some v1)
      (cond (e.Kind == 0)
        (bnd (tree_bare k e) fun v2 =>
        cond v2
          (some ((e.Of.length : Int) == 0))
          (some false))
        (cond (e.Kind == 2)
          (bnd (tree_bare k e) fun v4 =>
          cond (!v4)
            (some false)
            (cond (decide ((min (e.Of.length : Int) 2) < 1))
              (some false)
              (cond (e.Kind == 2)
                (cond (decide (1 < (min (e.Of.length : Int) 2)))
                  (some false)
                  (bnd (slices_ContainsFunc_Expr k e.Of (tree_Right_1 (tree_Right k) k)) fun v8 =>
                  some (!v8)))
                (bnd (slices_ContainsFunc_Expr k e.Of (tree_Right_1 (tree_Right k) k)) fun v10 =>
                some (!v10)))))
          (cond (e.Kind == 3)
            (cond (e.Kind == 3)
              (bnd (tree_bare k e) fun v11 =>
              cond (!v11)
                (some false)
                (cond (decide ((e.Of.length : Int) < 2))
                  (some false)
                  (cond (e.Kind == 2)
                    (cond (decide (1 < (e.Of.length : Int)))
                      (some false)
                      (bnd (slices_ContainsFunc_Expr k e.Of (tree_Right_1 (tree_Right k) k)) fun v15 =>
                      some (!v15)))
                    (bnd (slices_ContainsFunc_Expr k e.Of (tree_Right_1 (tree_Right k) k)) fun v17 =>
                    some (!v17)))))
              (some false))
            (cond (e.Kind == 4)
              (bnd (tree_bare k e) fun v19 =>
              cond (!v19)
                (some false)
                (cond (decide ((e.Of.length : Int) < 2))
                  (some false)
                  (cond (e.Kind == 2)
                    (cond (decide (1 < (e.Of.length : Int)))
                      (some false)
                      (bnd (slices_ContainsFunc_Expr k e.Of (tree_Right_1 (tree_Right k) k)) fun v23 =>
                      some (!v23)))
                    (bnd (slices_ContainsFunc_Expr k e.Of (tree_Right_1 (tree_Right k) k)) fun v25 =>
                    some (!v25)))))
              (some false)))))

def tree_writer_number (k : Nat) (w_0 : ByteArray) (n : Int) : Option ByteArray :=
  bnd (guard_Put k n) fun v1 =>
  bnd (wstr w_0 v1.1) fun v3 =>
  some v3

def tree_writer_atom_L0 (k : Nat) (e : GExpr) (kont0 : Int → ByteArray → Option ByteArray) : Nat → Int → ByteArray → Option ByteArray
  | 0, _, _ => none
  | m14 + 1, x11, x12 =>
    cond (decide (x11 < (e.Ranges.length : Int)))
      (bnd (idx e.Ranges x11) fun v15 =>
      cond (decide (0 < x11))
        (bnd (wstr x12 (⟨#[44]⟩ : ByteArray)) fun v17 =>
        bnd (tree_writer_number k v17 v15.Low) fun v19 =>
        cond (v15.High != v15.Low)
          (bnd (wstr v19 (⟨#[45]⟩ : ByteArray)) fun v21 =>
          bnd (tree_writer_number k v21 v15.High) fun v23 =>
          tree_writer_atom_L0 k e kont0 m14 (IntKind.wrap .i64 (x11 + 1)) v23)
          (tree_writer_atom_L0 k e kont0 m14 (IntKind.wrap .i64 (x11 + 1)) v19))
        (bnd (tree_writer_number k x12 v15.Low) fun v26 =>
        cond (v15.High != v15.Low)
          (bnd (wstr v26 (⟨#[45]⟩ : ByteArray)) fun v28 =>
          bnd (tree_writer_number k v28 v15.High) fun v30 =>
          tree_writer_atom_L0 k e kont0 m14 (IntKind.wrap .i64 (x11 + 1)) v30)
          (tree_writer_atom_L0 k e kont0 m14 (IntKind.wrap .i64 (x11 + 1)) v26)))
      (kont0 x11 x12)
def tree_writer_atom (k : Nat) (w_0 : ByteArray) (e : GExpr) : Option ByteArray :=
  cond (e.Field == 6)
    (bnd (real_Text k e.Low) fun v1 =>
    bnd (real_Text k e.High) fun v2 =>
    chk (decide ((⟨#[114, 101, 97, 108, 32]⟩ : ByteArray).size + v1.1.size ≤ 9223372036854775807))
      (chk (decide (((⟨#[114, 101, 97, 108, 32]⟩ : ByteArray) ++ v1.1).size + (⟨#[32, 116, 111, 32]⟩ : ByteArray).size ≤ 9223372036854775807))
        (chk (decide ((((⟨#[114, 101, 97, 108, 32]⟩ : ByteArray) ++ v1.1) ++ (⟨#[32, 116, 111, 32]⟩ : ByteArray)).size + v2.1.size ≤ 9223372036854775807))
          (bnd (wstr w_0 ((((⟨#[114, 101, 97, 108, 32]⟩ : ByteArray) ++ v1.1) ++ (⟨#[32, 116, 111, 32]⟩ : ByteArray)) ++ v2.1)) fun v7 =>
          some v7))))
    (bnd (idx ([(⟨#[]⟩ : ByteArray), (⟨#[99, 108, 105, 101, 110, 116, 32]⟩ : ByteArray), (⟨#[117, 110, 105, 116, 32]⟩ : ByteArray), (⟨#[102, 117, 110, 99, 32]⟩ : ByteArray), (⟨#[97, 100, 100, 114, 32]⟩ : ByteArray), (⟨#[118, 97, 108, 117, 101, 32]⟩ : ByteArray)] : List ByteArray) e.Field) fun v8 =>
    bnd (wstr w_0 v8) fun v10 =>
    tree_writer_atom_L0 k e (fun x34 x35 =>
      some x35) k 0 v10)

def tree_rank (k : Nat) (e : GExpr) : Option Int :=
  cond (e.Kind == 4)
    (some 2)
    (cond (e.Kind == 3)
      (some 1)
      (some 0))

def tree_writer_under (self_tree_writer_expr : ByteArray → GExpr → Option ByteArray) (k : Nat) (w_0 : ByteArray) (e : GExpr) (loose : Int) : Option ByteArray :=
  bnd (tree_rank k e) fun v1 =>
  cond (decide (v1 < loose))
    (bnd (self_tree_writer_expr w_0 e) fun v3 =>
    some v3)
    (bnd (wstr w_0 (⟨#[40]⟩ : ByteArray)) fun v5 =>
    bnd (self_tree_writer_expr v5 e) fun v7 =>
    bnd (wstr v7 (⟨#[41]⟩ : ByteArray)) fun v9 =>
    some v9)

def tree_writer_expr_L0 (k : Nat) (self_tree_writer_expr : ByteArray → GExpr → Option ByteArray) (e : GExpr) (v9 : ByteArray) (kont0 : Int → ByteArray → Option ByteArray) : Nat → Int → ByteArray → Option ByteArray
  | 0, _, _ => none
  | m13 + 1, x10, x11 =>
    cond (decide (x10 < (e.Of.length : Int)))
      (bnd (idx e.Of x10) fun v14 =>
      cond (decide (0 < x10))
        (bnd (wstr x11 v9) fun v16 =>
        bnd (tree_rank k e) fun v17 =>
        bnd (tree_writer_under self_tree_writer_expr k v16 v14 v17) fun v19 =>
        tree_writer_expr_L0 k self_tree_writer_expr e v9 kont0 m13 (IntKind.wrap .i64 (x10 + 1)) v19)
        (bnd (tree_rank k e) fun v20 =>
        bnd (tree_writer_under self_tree_writer_expr k x11 v14 v20) fun v22 =>
        tree_writer_expr_L0 k self_tree_writer_expr e v9 kont0 m13 (IntKind.wrap .i64 (x10 + 1)) v22))
      (kont0 x10 x11)
def tree_writer_expr : Nat → ByteArray → GExpr → Option ByteArray
  | 0, _, _ => none
  | k + 1, w_0, e =>
    cond (e.Kind == 1)
      (bnd (tree_writer_atom k w_0 e) fun v2 =>
      some v2)
      (cond (e.Kind == 2)
        (bnd (wstr w_0 (⟨#[110, 111, 116, 32]⟩ : ByteArray)) fun v4 =>
        bnd (idx e.Of 0) fun v5 =>
        bnd (tree_writer_under (tree_writer_expr k) k v4 v5 1) fun v7 =>
        some v7)
        (bnd (tree_rank k e) fun v8 =>
        bnd (idx ([(⟨#[]⟩ : ByteArray), (⟨#[32, 97, 110, 100, 32]⟩ : ByteArray), (⟨#[32, 111, 114, 32]⟩ : ByteArray)] : List ByteArray) v8) fun v9 =>
        tree_writer_expr_L0 k (tree_writer_expr k) e v9 (fun x25 x26 =>
          some x26) k 0 w_0))

def tree_writer_rule (k : Nat) (w_0 : ByteArray) (r_1 : GRule) : Option (Bool × ByteArray) :=
  bnd (tree_Right k r_1.When) fun v1 =>
  cond (!v1)
    (some (false, w_0))
    (bnd (tree_fine k [r_1.Rate.Num, r_1.Rate.Per, r_1.Rate.Burst]) fun v3 =>
    cond (!v3)
      (some (false, w_0))
      (cond (r_1.Rate.Per == 0)
        (cond (!((r_1.Rate.Num == 0) && ((r_1.Rate.Per == 0) && ((r_1.Rate.Burst == 0) && true))))
          (some (false, w_0))
          (cond r_1.Allow
            (bnd (wstr w_0 (⟨#[97, 108, 108, 111, 119]⟩ : ByteArray)) fun v7 =>
            cond (r_1.When.Kind != 0)
              (bnd (wstr v7 (⟨#[32, 119, 104, 101, 110, 32]⟩ : ByteArray)) fun v9 =>
              bnd (tree_writer_expr k v9 r_1.When) fun v11 =>
              cond (decide (0 < r_1.Rate.Per))
                (bnd (wstr v11 (⟨#[32, 114, 97, 116, 101, 32]⟩ : ByteArray)) fun v13 =>
                bnd (tree_writer_number k v13 r_1.Rate.Num) fun v15 =>
                bnd (wstr v15 (⟨#[32, 112, 101, 114, 32]⟩ : ByteArray)) fun v17 =>
                bnd (tree_writer_number k v17 r_1.Rate.Per) fun v19 =>
                bnd (wstr v19 (⟨#[32, 98, 117, 114, 115, 116, 32]⟩ : ByteArray)) fun v21 =>
                bnd (tree_writer_number k v21 r_1.Rate.Burst) fun v23 =>
                bnd (wstr v23 (⟨#[59, 10]⟩ : ByteArray)) fun v25 =>
                some (true, v25))
                (bnd (wstr v11 (⟨#[59, 10]⟩ : ByteArray)) fun v27 =>
                some (true, v27)))
              (cond (decide (0 < r_1.Rate.Per))
                (bnd (wstr v7 (⟨#[32, 114, 97, 116, 101, 32]⟩ : ByteArray)) fun v30 =>
                bnd (tree_writer_number k v30 r_1.Rate.Num) fun v32 =>
                bnd (wstr v32 (⟨#[32, 112, 101, 114, 32]⟩ : ByteArray)) fun v34 =>
                bnd (tree_writer_number k v34 r_1.Rate.Per) fun v36 =>
                bnd (wstr v36 (⟨#[32, 98, 117, 114, 115, 116, 32]⟩ : ByteArray)) fun v38 =>
                bnd (tree_writer_number k v38 r_1.Rate.Burst) fun v40 =>
                bnd (wstr v40 (⟨#[59, 10]⟩ : ByteArray)) fun v42 =>
                some (true, v42))
                (bnd (wstr v7 (⟨#[59, 10]⟩ : ByteArray)) fun v44 =>
                some (true, v44))))
            (bnd (wstr w_0 (⟨#[100, 101, 110, 121]⟩ : ByteArray)) fun v48 =>
            cond (r_1.When.Kind != 0)
              (bnd (wstr v48 (⟨#[32, 119, 104, 101, 110, 32]⟩ : ByteArray)) fun v50 =>
              bnd (tree_writer_expr k v50 r_1.When) fun v52 =>
              cond (decide (0 < r_1.Rate.Per))
                (bnd (wstr v52 (⟨#[32, 114, 97, 116, 101, 32]⟩ : ByteArray)) fun v54 =>
                bnd (tree_writer_number k v54 r_1.Rate.Num) fun v56 =>
                bnd (wstr v56 (⟨#[32, 112, 101, 114, 32]⟩ : ByteArray)) fun v58 =>
                bnd (tree_writer_number k v58 r_1.Rate.Per) fun v60 =>
                bnd (wstr v60 (⟨#[32, 98, 117, 114, 115, 116, 32]⟩ : ByteArray)) fun v62 =>
                bnd (tree_writer_number k v62 r_1.Rate.Burst) fun v64 =>
                bnd (wstr v64 (⟨#[59, 10]⟩ : ByteArray)) fun v66 =>
                some (true, v66))
                (bnd (wstr v52 (⟨#[59, 10]⟩ : ByteArray)) fun v68 =>
                some (true, v68)))
              (cond (decide (0 < r_1.Rate.Per))
                (bnd (wstr v48 (⟨#[32, 114, 97, 116, 101, 32]⟩ : ByteArray)) fun v71 =>
                bnd (tree_writer_number k v71 r_1.Rate.Num) fun v73 =>
                bnd (wstr v73 (⟨#[32, 112, 101, 114, 32]⟩ : ByteArray)) fun v75 =>
                bnd (tree_writer_number k v75 r_1.Rate.Per) fun v77 =>
                bnd (wstr v77 (⟨#[32, 98, 117, 114, 115, 116, 32]⟩ : ByteArray)) fun v79 =>
                bnd (tree_writer_number k v79 r_1.Rate.Burst) fun v81 =>
                bnd (wstr v81 (⟨#[59, 10]⟩ : ByteArray)) fun v83 =>
                some (true, v83))
                (bnd (wstr v48 (⟨#[59, 10]⟩ : ByteArray)) fun v85 =>
                some (true, v85))))))
        (cond r_1.Allow
          (bnd (wstr w_0 (⟨#[97, 108, 108, 111, 119]⟩ : ByteArray)) fun v91 =>
          cond (r_1.When.Kind != 0)
            (bnd (wstr v91 (⟨#[32, 119, 104, 101, 110, 32]⟩ : ByteArray)) fun v93 =>
            bnd (tree_writer_expr k v93 r_1.When) fun v95 =>
            cond (decide (0 < r_1.Rate.Per))
              (bnd (wstr v95 (⟨#[32, 114, 97, 116, 101, 32]⟩ : ByteArray)) fun v97 =>
              bnd (tree_writer_number k v97 r_1.Rate.Num) fun v99 =>
              bnd (wstr v99 (⟨#[32, 112, 101, 114, 32]⟩ : ByteArray)) fun v101 =>
              bnd (tree_writer_number k v101 r_1.Rate.Per) fun v103 =>
              bnd (wstr v103 (⟨#[32, 98, 117, 114, 115, 116, 32]⟩ : ByteArray)) fun v105 =>
              bnd (tree_writer_number k v105 r_1.Rate.Burst) fun v107 =>
              bnd (wstr v107 (⟨#[59, 10]⟩ : ByteArray)) fun v109 =>
              some (true, v109))
              (bnd (wstr v95 (⟨#[59, 10]⟩ : ByteArray)) fun v111 =>
              some (true, v111)))
            (cond (decide (0 < r_1.Rate.Per))
              (bnd (wstr v91 (⟨#[32, 114, 97, 116, 101, 32]⟩ : ByteArray)) fun v114 =>
              bnd (tree_writer_number k v114 r_1.Rate.Num) fun v116 =>
              bnd (wstr v116 (⟨#[32, 112, 101, 114, 32]⟩ : ByteArray)) fun v118 =>
              bnd (tree_writer_number k v118 r_1.Rate.Per) fun v120 =>
              bnd (wstr v120 (⟨#[32, 98, 117, 114, 115, 116, 32]⟩ : ByteArray)) fun v122 =>
              bnd (tree_writer_number k v122 r_1.Rate.Burst) fun v124 =>
              bnd (wstr v124 (⟨#[59, 10]⟩ : ByteArray)) fun v126 =>
              some (true, v126))
              (bnd (wstr v91 (⟨#[59, 10]⟩ : ByteArray)) fun v128 =>
              some (true, v128))))
          (bnd (wstr w_0 (⟨#[100, 101, 110, 121]⟩ : ByteArray)) fun v132 =>
          cond (r_1.When.Kind != 0)
            (bnd (wstr v132 (⟨#[32, 119, 104, 101, 110, 32]⟩ : ByteArray)) fun v134 =>
            bnd (tree_writer_expr k v134 r_1.When) fun v136 =>
            cond (decide (0 < r_1.Rate.Per))
              (bnd (wstr v136 (⟨#[32, 114, 97, 116, 101, 32]⟩ : ByteArray)) fun v138 =>
              bnd (tree_writer_number k v138 r_1.Rate.Num) fun v140 =>
              bnd (wstr v140 (⟨#[32, 112, 101, 114, 32]⟩ : ByteArray)) fun v142 =>
              bnd (tree_writer_number k v142 r_1.Rate.Per) fun v144 =>
              bnd (wstr v144 (⟨#[32, 98, 117, 114, 115, 116, 32]⟩ : ByteArray)) fun v146 =>
              bnd (tree_writer_number k v146 r_1.Rate.Burst) fun v148 =>
              bnd (wstr v148 (⟨#[59, 10]⟩ : ByteArray)) fun v150 =>
              some (true, v150))
              (bnd (wstr v136 (⟨#[59, 10]⟩ : ByteArray)) fun v152 =>
              some (true, v152)))
            (cond (decide (0 < r_1.Rate.Per))
              (bnd (wstr v132 (⟨#[32, 114, 97, 116, 101, 32]⟩ : ByteArray)) fun v155 =>
              bnd (tree_writer_number k v155 r_1.Rate.Num) fun v157 =>
              bnd (wstr v157 (⟨#[32, 112, 101, 114, 32]⟩ : ByteArray)) fun v159 =>
              bnd (tree_writer_number k v159 r_1.Rate.Per) fun v161 =>
              bnd (wstr v161 (⟨#[32, 98, 117, 114, 115, 116, 32]⟩ : ByteArray)) fun v163 =>
              bnd (tree_writer_number k v163 r_1.Rate.Burst) fun v165 =>
              bnd (wstr v165 (⟨#[59, 10]⟩ : ByteArray)) fun v167 =>
              some (true, v167))
              (bnd (wstr v132 (⟨#[59, 10]⟩ : ByteArray)) fun v169 =>
              some (true, v169)))))))

def tree_Text_L0 (k : Nat) (l : List GRule) (kont0 : Int → ByteArray → Option (ByteArray × Bool)) : Nat → Int → ByteArray → Option (ByteArray × Bool)
  | 0, _, _ => none
  | m4 + 1, x1, x2 =>
    cond (decide (x1 < (l.length : Int)))
      (bnd (idx l x1) fun v5 =>
      bnd (tree_writer_rule k x2 v5) fun v7 =>
      cond (!v7.1)
        (some ((⟨#[]⟩ : ByteArray), false))
        (tree_Text_L0 k l kont0 m4 (IntKind.wrap .i64 (x1 + 1)) v7.2))
      (kont0 x1 x2)
def tree_Text (k : Nat) (l : List GRule) : Option (ByteArray × Bool) :=
  tree_Text_L0 k l (fun x11 x12 =>
    some (x12, true)) k 0 ByteArray.empty

def tree_inner (k : Nat) (e : GExpr) : Option (List GExpr) :=
  cond (e.Kind == 2)
    (cond (e.Kind == 2)
      (some e.Of)
      (some []))
    (cond (e.Kind == 3)
      (cond (e.Kind == 3)
        (some e.Of)
        (some []))
      (cond (e.Kind == 4)
        (some e.Of)
        (some [])))

def tree_Atoms_L0 (self_tree_Atoms : GExpr → Option Int) (v1 : (List GExpr)) (kont0 : Int → Int → Option Int) : Nat → Int → Int → Option Int
  | 0, _, _ => none
  | m4 + 1, x2, x3 =>
    cond (decide (x3 < (v1.length : Int)))
      (bnd (idx v1 x3) fun v5 =>
      bnd (self_tree_Atoms v5) fun v6 =>
      tree_Atoms_L0 self_tree_Atoms v1 kont0 m4 (IntKind.wrap .i64 (x2 + v6)) (IntKind.wrap .i64 (x3 + 1)))
      (kont0 x2 x3)
def tree_Atoms : Nat → GExpr → Option Int
  | 0, _ => none
  | k + 1, e =>
    cond (e.Kind == 1)
      (some 1)
      (bnd (tree_inner k e) fun v1 =>
      tree_Atoms_L0 (tree_Atoms k) v1 (fun x8 x9 =>
        some x8) k 0 0)

def tree_Deep_L0 (self_tree_Deep : GExpr → Option Int) (v2 : (List GExpr)) (kont0 : Int → Int → Option Int) : Nat → Int → Int → Option Int
  | 0, _, _ => none
  | m5 + 1, x3, x4 =>
    cond (decide (x4 < (v2.length : Int)))
      (bnd (idx v2 x4) fun v6 =>
      bnd (self_tree_Deep v6) fun v7 =>
      tree_Deep_L0 self_tree_Deep v2 kont0 m5 (max x3 (IntKind.wrap .i64 (v7 + 1))) (IntKind.wrap .i64 (x4 + 1)))
      (kont0 x3 x4)
def tree_Deep : Nat → GExpr → Option Int
  | 0, _ => none
  | k + 1, e =>
    cond (e.Kind == 2)
      (bnd (tree_inner k e) fun v2 =>
      tree_Deep_L0 (tree_Deep k) v2 (fun x9 x10 =>
        some x9) k 1 0)
      (cond (e.Kind == 3)
        (bnd (tree_inner k e) fun v12 =>
        tree_Deep_L0 (tree_Deep k) v12 (fun x19 x20 =>
          some x19) k 1 0)
        (cond (e.Kind == 4)
          (bnd (tree_inner k e) fun v21 =>
          tree_Deep_L0 (tree_Deep k) v21 (fun x28 x29 =>
            some x28) k 1 0)
          (bnd (tree_inner k e) fun v30 =>
          tree_Deep_L0 (tree_Deep k) v30 (fun x37 x38 =>
            some x37) k 0 0)))

def slices_Equal_Range_L0 (s1 : List GRange) (s2 : List GRange) (kont0 : Int → Option Bool) : Nat → Int → Option Bool
  | 0, _ => none
  | m2 + 1, x1 =>
    cond (decide (x1 < (s1.length : Int)))
      (bnd (idx s1 x1) fun v3 =>
      bnd (idx s2 x1) fun v4 =>
      cond (!((v3.Low == v4.Low) && ((v3.High == v4.High) && true)))
        (some false)
        (slices_Equal_Range_L0 s1 s2 kont0 m2 (IntKind.wrap .i64 (x1 + 1))))
      (kont0 x1)
def slices_Equal_Range (k : Nat) (s1 : List GRange) (s2 : List GRange) : Option Bool :=
  cond ((s1.length : Int) != (s2.length : Int))
    (some false)
    (slices_Equal_Range_L0 s1 s2 (fun x7 =>
      some true) k 0)

def span_Same (k : Nat) (a_0 : List GRange) (b_1 : List GRange) : Option Bool :=
  bnd (slices_Equal_Range k a_0 b_1) fun v1 =>
  some v1

def slices_EqualFunc_Expr_L0 (s1 : List GExpr) (s2 : List GExpr) (eq : GExpr → GExpr → Option Bool) (kont0 : Int → Option Bool) : Nat → Int → Option Bool
  | 0, _ => none
  | m2 + 1, x1 =>
    cond (decide (x1 < (s1.length : Int)))
      (bnd (idx s1 x1) fun v3 =>
      bnd (idx s2 x1) fun v4 =>
      bnd (eq v3 v4) fun v5 =>
      cond (!v5)
        (some false)
        (slices_EqualFunc_Expr_L0 s1 s2 eq kont0 m2 (IntKind.wrap .i64 (x1 + 1))))
      (kont0 x1)
def slices_EqualFunc_Expr (k : Nat) (s1 : List GExpr) (s2 : List GExpr) (eq : GExpr → GExpr → Option Bool) : Option Bool :=
  cond ((s1.length : Int) != (s2.length : Int))
    (some false)
    (slices_EqualFunc_Expr_L0 s1 s2 eq (fun x8 =>
      some true) k 0)

def tree_Same : Nat → GExpr → GExpr → Option Bool
  | 0, _, _ => none
  | k + 1, a_0, b_1 =>
    cond (a_0.Kind == b_1.Kind)
      (cond (a_0.Field == b_1.Field)
        (bnd (real_Same k a_0.Low b_1.Low) fun v3 =>
        cond v3
          (bnd (real_Same k a_0.High b_1.High) fun v5 =>
          cond v5
            (bnd (span_Same k a_0.Ranges b_1.Ranges) fun v7 =>
            cond v7
              (bnd (slices_EqualFunc_Expr k a_0.Of b_1.Of (tree_Same k)) fun v9 =>
              some v9)
              (some false))
            (some false))
          (some false))
        (some false))
      (some false)

def law11_awake (k : Nat) : Option Bool :=
  bnd (law11_awake_1 k 3) fun v1 =>
  bnd (law11_awake_1 k 4) fun v2 =>
  bnd (tree_Text k ([(GRule.mk true (GExpr.mk 3 0 [] (some 0) (some 0) ([(GExpr.mk 2 0 [] (some 0) (some 0) ([(GExpr.mk 4 0 [] (some 0) (some 0) [v1, v2])])), (GExpr.mk 1 2 [(GRange.mk 17 17)] (some 0) (some 0) [])])) (GRate.mk 0 0 0) 0)])) fun v3 =>
  cond v3.2
    (cond (v3.1.toList == (⟨#[97, 108, 108, 111, 119, 32, 119, 104, 101, 110, 32, 110, 111, 116, 32, 40, 102, 117, 110, 99, 32, 51, 32, 111, 114, 32, 102, 117, 110, 99, 32, 52, 41, 32, 97, 110, 100, 32, 117, 110, 105, 116, 32, 49, 55, 59, 10]⟩ : ByteArray).toList)
      (bnd (tree_Right k (GExpr.mk 3 0 [] (some 0) (some 0) ([(GExpr.mk 2 0 [] (some 0) (some 0) ([(GExpr.mk 4 0 [] (some 0) (some 0) [v1, v2])])), (GExpr.mk 1 2 [(GRange.mk 17 17)] (some 0) (some 0) [])]))) fun v6 =>
      cond v6
        (bnd (tree_Atoms k (GExpr.mk 3 0 [] (some 0) (some 0) ([(GExpr.mk 2 0 [] (some 0) (some 0) ([(GExpr.mk 4 0 [] (some 0) (some 0) [v1, v2])])), (GExpr.mk 1 2 [(GRange.mk 17 17)] (some 0) (some 0) [])]))) fun v8 =>
        cond (v8 == 3)
          (bnd (tree_Deep k (GExpr.mk 3 0 [] (some 0) (some 0) ([(GExpr.mk 2 0 [] (some 0) (some 0) ([(GExpr.mk 4 0 [] (some 0) (some 0) [v1, v2])])), (GExpr.mk 1 2 [(GRange.mk 17 17)] (some 0) (some 0) [])]))) fun v10 =>
          cond (v10 == 3)
            (bnd (tree_Same k (GExpr.mk 3 0 [] (some 0) (some 0) ([(GExpr.mk 2 0 [] (some 0) (some 0) ([(GExpr.mk 4 0 [] (some 0) (some 0) [v1, v2])])), (GExpr.mk 1 2 [(GRange.mk 17 17)] (some 0) (some 0) [])])) (GExpr.mk 3 0 [] (some 0) (some 0) ([(GExpr.mk 2 0 [] (some 0) (some 0) ([(GExpr.mk 4 0 [] (some 0) (some 0) [v1, v2])])), (GExpr.mk 1 2 [(GRange.mk 17 17)] (some 0) (some 0) [])]))) fun v12 =>
            some v12)
            (some false))
          (some false))
        (some false))
      (some false))
    (some false)

def ref04_Same_L0 (a_0 : List GRange) (b_1 : List GRange) (kont0 : Int → Option Bool) : Nat → Int → Option Bool
  | 0, _ => none
  | m2 + 1, x1 =>
    cond (decide (x1 < (a_0.length : Int)))
      (bnd (idx a_0 x1) fun v3 =>
      bnd (idx b_1 x1) fun v4 =>
      cond (!((v3.Low == v4.Low) && ((v3.High == v4.High) && true)))
        (some false)
        (ref04_Same_L0 a_0 b_1 kont0 m2 (IntKind.wrap .i64 (x1 + 1))))
      (kont0 x1)
def ref04_Same (k : Nat) (a_0 : List GRange) (b_1 : List GRange) : Option Bool :=
  cond ((a_0.length : Int) != (b_1.length : Int))
    (some false)
    (ref04_Same_L0 a_0 b_1 (fun x7 =>
      some true) k 0)

def ref03_Minus (k : Nat) (x_0 : Fl) : Option Bool :=
  cond (Fl.lt x_0 (some 0))
    (some true)
    (cond (Fl.eq x_0 (some 0))
      (some (Fl.lt (Fl.div (some 4607182418800017408) x_0) (some 0)))
      (some false))

def ref03_Same (k : Nat) (a_0 : Fl) (b_1 : Fl) : Option Bool :=
  cond (Fl.ne a_0 a_0)
    (cond (Fl.ne a_0 a_0)
      (some (Fl.ne b_1 b_1))
      (some false))
    (cond (Fl.ne b_1 b_1)
      (cond (Fl.ne a_0 a_0)
        (some (Fl.ne b_1 b_1))
        (some false))
      (cond (Fl.eq a_0 b_1)
        (bnd (ref03_Minus k a_0) fun v5 =>
        bnd (ref03_Minus k b_1) fun v6 =>
        some (v5 == v6))
        (some false)))

def ref11_Same_L0 (self_ref11_Same : GExpr → GExpr → Option Bool) (a_0 : GExpr) (b_1 : GExpr) (kont0 : Int → Option Bool) : Nat → Int → Option Bool
  | 0, _ => none
  | m10 + 1, x9 =>
    cond (decide (x9 < (a_0.Of.length : Int)))
      (bnd (idx a_0.Of x9) fun v11 =>
      bnd (idx b_1.Of x9) fun v12 =>
      bnd (self_ref11_Same v11 v12) fun v13 =>
      cond (!v13)
        (some false)
        (ref11_Same_L0 self_ref11_Same a_0 b_1 kont0 m10 (IntKind.wrap .i64 (x9 + 1))))
      (kont0 x9)
def ref11_Same : Nat → GExpr → GExpr → Option Bool
  | 0, _, _ => none
  | k + 1, a_0, b_1 =>
    cond (a_0.Kind != b_1.Kind)
      (some false)
      (cond (a_0.Field != b_1.Field)
        (some false)
        (bnd (ref04_Same k a_0.Ranges b_1.Ranges) fun v3 =>
        cond (!v3)
          (some false)
          (bnd (ref03_Same k a_0.Low b_1.Low) fun v5 =>
          cond (!v5)
            (some false)
            (bnd (ref03_Same k a_0.High b_1.High) fun v7 =>
            cond (!v7)
              (some false)
              (cond ((a_0.Of.length : Int) != (b_1.Of.length : Int))
                (some false)
                (ref11_Same_L0 (ref11_Same k) a_0 b_1 (fun x16 =>
                  some true) k 0))))))

def ref11_Rules_L0 (k : Nat) (a_0 : List GRule) (b_1 : List GRule) (kont0 : Int → Option Bool) : Nat → Int → Option Bool
  | 0, _ => none
  | m2 + 1, x1 =>
    cond (decide (x1 < (a_0.length : Int)))
      (bnd (idx a_0 x1) fun v3 =>
      bnd (idx b_1 x1) fun v4 =>
      cond (!(v3.Allow == v4.Allow))
        (some false)
        (bnd (idx a_0 x1) fun v6 =>
        bnd (idx b_1 x1) fun v7 =>
        cond (!((v6.Rate.Num == v7.Rate.Num) && ((v6.Rate.Per == v7.Rate.Per) && ((v6.Rate.Burst == v7.Rate.Burst) && true))))
          (some false)
          (bnd (idx a_0 x1) fun v9 =>
          bnd (idx b_1 x1) fun v10 =>
          bnd (ref11_Same k v9.When v10.When) fun v11 =>
          cond (!v11)
            (some false)
            (ref11_Rules_L0 k a_0 b_1 kont0 m2 (IntKind.wrap .i64 (x1 + 1))))))
      (kont0 x1)
def ref11_Rules (k : Nat) (a_0 : List GRule) (b_1 : List GRule) : Option Bool :=
  cond ((a_0.length : Int) != (b_1.length : Int))
    (some false)
    (ref11_Rules_L0 k a_0 b_1 (fun x14 =>
      some true) k 0)

def law11_TreeUnlike (k : Nat) (a_0 : List GRule) (b_1 : List GRule) : Option Bool :=
  bnd (ref11_Few k a_0 6) fun v1 =>
  cond (!v1)
    (bnd (law11_awake k) fun v3 =>
    some v3)
    (bnd (ref11_Few k b_1 6) fun v4 =>
    cond (!v4)
      (bnd (law11_awake k) fun v5 =>
      some v5)
      (bnd (tree_Text k a_0) fun v6 =>
      bnd (tree_Text k b_1) fun v7 =>
      bnd (law11_awake k) fun v8 =>
      cond v8
        (cond (!v6.2)
          (some true)
          (cond (!v7.2)
            (some true)
            (bnd (ref11_Rules k a_0 b_1) fun v12 =>
            some ((v6.1.toList == v7.1.toList) == v12))))
        (some false)))

def law11_TreeCounts_L0 (k : Nat) (l : List GExpr) (kont0 : Int → Int → Int → Option Bool) : Nat → Int → Int → Int → Option Bool
  | 0, _, _, _ => none
  | m7 + 1, x4, x5, x6 =>
    cond (decide (x6 < (l.length : Int)))
      (bnd (idx l x6) fun v8 =>
      bnd (ref11_Small k v8 4) fun v9 =>
      cond (!v9)
        (bnd (law11_awake k) fun v10 =>
        some v10)
        (bnd (idx l x6) fun v11 =>
        bnd (tree_Atoms k v11) fun v12 =>
        bnd (idx l x6) fun v13 =>
        bnd (tree_Deep k v13) fun v14 =>
        law11_TreeCounts_L0 k l kont0 m7 (IntKind.wrap .i64 (x4 + v12)) (max x5 v14) (IntKind.wrap .i64 (x6 + 1))))
      (kont0 x4 x5 x6)
def law11_TreeCounts (k : Nat) (l : List GExpr) (kind : Int) : Option Bool :=
  cond ((l.length : Int) == 0)
    (bnd (law11_awake k) fun v2 =>
    some v2)
    (cond (decide (6 < (l.length : Int)))
      (bnd (law11_awake k) fun v3 =>
      some v3)
      (law11_TreeCounts_L0 k l (fun x22 x23 x24 =>
        bnd (law11_awake k) fun v25 =>
        cond v25
          (bnd (tree_Atoms k (GExpr.mk (IntKind.wrap .i64 (2 + (IntKind.wrap .i64 (Int.tmod kind 3)))) 0 [] (some 0) (some 0) l)) fun v27 =>
          cond (v27 == x22)
            (bnd (tree_Deep k (GExpr.mk (IntKind.wrap .i64 (2 + (IntKind.wrap .i64 (Int.tmod kind 3)))) 0 [] (some 0) (some 0) l)) fun v29 =>
            some (v29 == (IntKind.wrap .i64 (x23 + 1))))
            (some false))
          (some false)) k 0 0 0))

def ref02_most (k : Nat) : Option Int :=
  some 9007199254740992

def ref02_Put_L0  : Nat → Int → ByteArray → Option (ByteArray × Bool)
  | 0, _, _ => none
  | m5 + 1, x3, x4 =>
    chk (decide ((bytesOf [(IntKind.wrap .u8 (IntKind.wrap .i64 (48 + (Int.tmod x3 10))))]).size + x4.size ≤ 9223372036854775807))
      (cond ((IntKind.wrap .i64 (Int.tdiv x3 10)) == 0)
        (some (((bytesOf [(IntKind.wrap .u8 (IntKind.wrap .i64 (48 + (Int.tmod x3 10))))]) ++ x4), true))
        (ref02_Put_L0 m5 (IntKind.wrap .i64 (Int.tdiv x3 10)) ((bytesOf [(IntKind.wrap .u8 (IntKind.wrap .i64 (48 + (Int.tmod x3 10))))]) ++ x4)))
def ref02_Put (k : Nat) (n : Int) : Option (ByteArray × Bool) :=
  cond (decide (n < 0))
    (some ((⟨#[]⟩ : ByteArray), false))
    (bnd (ref02_most k) fun v2 =>
    cond (decide (v2 < n))
      (some ((⟨#[]⟩ : ByteArray), false))
      (ref02_Put_L0 k n (⟨#[]⟩ : ByteArray)))

def ref03_Text : Nat → Fl → Option (ByteArray × Bool)
  | 0, _ => none
  | k + 1, x_0 =>
    cond (Fl.ne x_0 x_0)
      (some ((⟨#[]⟩ : ByteArray), false))
      (cond (Fl.eq x_0 (some 0))
        (bnd (ref03_Minus k x_0) fun v2 =>
        cond v2
          (some ((⟨#[45, 48]⟩ : ByteArray), true))
          (bnd (ref03_Minus k x_0) fun v3 =>
          cond v3
            (bnd ((ref03_Text k) (Fl.neg x_0)) fun v4 =>
            cond (!v4.2)
              (some ((⟨#[]⟩ : ByteArray), false))
              (chk (decide ((⟨#[45]⟩ : ByteArray).size + v4.1.size ≤ 9223372036854775807))
                (some (((⟨#[45]⟩ : ByteArray) ++ v4.1), true))))
            (cond (Fl.gt x_0 (some 0))
              (cond (Fl.eq (Fl.div x_0 (some 4611686018427387904)) x_0)
                (some ((⟨#[105, 110, 102]⟩ : ByteArray), true))
                (cond (Fl.gt x_0 (some 4845873199050653696))
                  (some ((⟨#[]⟩ : ByteArray), false))
                  (bnd (Fl.toInt .i64 x_0) fun v9 =>
                  cond (Fl.ne x_0 (Fl.ofInt v9))
                    (some ((⟨#[]⟩ : ByteArray), false))
                    (bnd (Fl.toInt .i64 x_0) fun v10 =>
                    bnd (ref02_Put k v10) fun v11 =>
                    some (v11.1, v11.2)))))
              (cond (Fl.gt x_0 (some 4845873199050653696))
                (some ((⟨#[]⟩ : ByteArray), false))
                (bnd (Fl.toInt .i64 x_0) fun v15 =>
                cond (Fl.ne x_0 (Fl.ofInt v15))
                  (some ((⟨#[]⟩ : ByteArray), false))
                  (bnd (Fl.toInt .i64 x_0) fun v16 =>
                  bnd (ref02_Put k v16) fun v17 =>
                  some (v17.1, v17.2)))))))
        (bnd (ref03_Minus k x_0) fun v21 =>
        cond v21
          (bnd ((ref03_Text k) (Fl.neg x_0)) fun v22 =>
          cond (!v22.2)
            (some ((⟨#[]⟩ : ByteArray), false))
            (chk (decide ((⟨#[45]⟩ : ByteArray).size + v22.1.size ≤ 9223372036854775807))
              (some (((⟨#[45]⟩ : ByteArray) ++ v22.1), true))))
          (cond (Fl.gt x_0 (some 0))
            (cond (Fl.eq (Fl.div x_0 (some 4611686018427387904)) x_0)
              (some ((⟨#[105, 110, 102]⟩ : ByteArray), true))
              (cond (Fl.gt x_0 (some 4845873199050653696))
                (some ((⟨#[]⟩ : ByteArray), false))
                (bnd (Fl.toInt .i64 x_0) fun v27 =>
                cond (Fl.ne x_0 (Fl.ofInt v27))
                  (some ((⟨#[]⟩ : ByteArray), false))
                  (bnd (Fl.toInt .i64 x_0) fun v28 =>
                  bnd (ref02_Put k v28) fun v29 =>
                  some (v29.1, v29.2)))))
            (cond (Fl.gt x_0 (some 4845873199050653696))
              (some ((⟨#[]⟩ : ByteArray), false))
              (bnd (Fl.toInt .i64 x_0) fun v33 =>
              cond (Fl.ne x_0 (Fl.ofInt v33))
                (some ((⟨#[]⟩ : ByteArray), false))
                (bnd (Fl.toInt .i64 x_0) fun v34 =>
                bnd (ref02_Put k v34) fun v35 =>
                some (v35.1, v35.2)))))))

def ref11_bound (k : Nat) (x_0 : Fl) : Option Bool :=
  bnd (ref03_Text k x_0) fun v1 =>
  some v1.2

def ref11_num (k : Nat) (n : Int) : Option Bool :=
  cond (decide (0 ≤ n))
    (some (decide (n ≤ 9007199254740992)))
    (some false)

def ref11_plain (k : Nat) (x_0 : Fl) : Option Bool :=
  bnd (ref03_Same k x_0 (some 0)) fun v1 =>
  some v1

def ref11_atom_L0 (k : Nat) (e : GExpr) (kont0 : Int → Option Bool) : Nat → Int → Option Bool
  | 0, _ => none
  | m8 + 1, x7 =>
    cond (decide (x7 < (e.Ranges.length : Int)))
      (bnd (idx e.Ranges x7) fun v9 =>
      bnd (ref11_num k v9.Low) fun v10 =>
      cond (!v10)
        (some false)
        (bnd (idx e.Ranges x7) fun v12 =>
        bnd (ref11_num k v12.High) fun v13 =>
        cond (!v13)
          (some false)
          (ref11_atom_L0 k e kont0 m8 (IntKind.wrap .i64 (x7 + 1)))))
      (kont0 x7)
def ref11_atom (k : Nat) (e : GExpr) : Option Bool :=
  cond (decide (0 < (e.Of.length : Int)))
    (some false)
    (cond (decide (e.Field < 1))
      (some false)
      (cond (decide (6 < e.Field))
        (some false)
        (cond (e.Field == 6)
          (cond ((e.Ranges.length : Int) == 0)
            (bnd (ref11_bound k e.Low) fun v4 =>
            cond v4
              (bnd (ref11_bound k e.High) fun v6 =>
              some v6)
              (some false))
            (some false))
          (ref11_atom_L0 k e (fun x20 =>
            cond (decide (0 < (e.Ranges.length : Int)))
              (bnd (ref11_plain k e.Low) fun v22 =>
              cond v22
                (bnd (ref11_plain k e.High) fun v24 =>
                some v24)
                (some false))
              (some false)) k 0))))

def ref11_Right_L0 (self_ref11_Right : GExpr → Option Bool) (e : GExpr) (kont0 : Int → Option Bool) : Nat → Int → Option Bool
  | 0, _ => none
  | m8 + 1, x7 =>
    cond (decide (x7 < (e.Of.length : Int)))
      (bnd (idx e.Of x7) fun v9 =>
      cond (v9.Kind == 0)
        (some false)
        (bnd (idx e.Of x7) fun v11 =>
        bnd (self_ref11_Right v11) fun v12 =>
        cond (!v12)
          (some false)
          (ref11_Right_L0 self_ref11_Right e kont0 m8 (IntKind.wrap .i64 (x7 + 1)))))
      (kont0 x7)
def ref11_Right : Nat → GExpr → Option Bool
  | 0, _ => none
  | k + 1, e =>
    cond (e.Kind == 1)
      (bnd (ref11_atom k e) fun v1 =>
      some v1)
      (cond (e.Field != 0)
        (some false)
        (cond (decide (0 < (e.Ranges.length : Int)))
          (some false)
          (bnd (ref11_plain k e.Low) fun v4 =>
          cond (!v4)
            (some false)
            (bnd (ref11_plain k e.High) fun v6 =>
            cond (!v6)
              (some false)
              (cond (e.Kind == 0)
                (some ((e.Of.length : Int) == 0))
                (cond (e.Kind == 2)
                  (cond ((e.Of.length : Int) != 1)
                    (some false)
                    (ref11_Right_L0 (ref11_Right k) e (fun x15 =>
                      some true) k 0))
                  (cond (e.Kind == 3)
                    (cond (e.Kind == 3)
                      (cond (decide ((e.Of.length : Int) < 2))
                        (some false)
                        (ref11_Right_L0 (ref11_Right k) e (fun x25 =>
                          some true) k 0))
                      (some false))
                    (cond (e.Kind == 4)
                      (cond (decide ((e.Of.length : Int) < 2))
                        (some false)
                        (ref11_Right_L0 (ref11_Right k) e (fun x36 =>
                          some true) k 0))
                      (some false)))))))))

def ref11_rule (k : Nat) (r_0 : GRule) : Option Bool :=
  bnd (ref11_Right k r_0.When) fun v1 =>
  cond v1
    (bnd (ref11_num k r_0.Rate.Num) fun v3 =>
    cond v3
      (bnd (ref11_num k r_0.Rate.Per) fun v5 =>
      cond v5
        (bnd (ref11_num k r_0.Rate.Burst) fun v7 =>
        cond v7
          (cond (r_0.Rate.Per != 0)
            (some true)
            (some ((r_0.Rate.Num == 0) && ((r_0.Rate.Per == 0) && ((r_0.Rate.Burst == 0) && true)))))
          (some false))
        (some false))
      (some false))
    (some false)

def ref11_digits (k : Nat) (n : Int) : Option ByteArray :=
  bnd (ref02_Put k n) fun v1 =>
  some v1.1

def ref11_ranges_L0 (k : Nat) (l : List GRange) (kont0 : ByteArray → Int → Option ByteArray) : Nat → ByteArray → Int → Option ByteArray
  | 0, _, _ => none
  | m3 + 1, x1, x2 =>
    cond (decide (x2 < (l.length : Int)))
      (cond (decide (0 < x2))
        (chk (decide (x1.size + (⟨#[44]⟩ : ByteArray).size ≤ 9223372036854775807))
          (bnd (idx l x2) fun v5 =>
          bnd (ref11_digits k v5.Low) fun v6 =>
          chk (decide ((x1 ++ (⟨#[44]⟩ : ByteArray)).size + v6.size ≤ 9223372036854775807))
            (bnd (idx l x2) fun v8 =>
            bnd (idx l x2) fun v9 =>
            cond (v8.High != v9.Low)
              (chk (decide (((x1 ++ (⟨#[44]⟩ : ByteArray)) ++ v6).size + (⟨#[45]⟩ : ByteArray).size ≤ 9223372036854775807))
                (bnd (idx l x2) fun v11 =>
                bnd (ref11_digits k v11.High) fun v12 =>
                chk (decide ((((x1 ++ (⟨#[44]⟩ : ByteArray)) ++ v6) ++ (⟨#[45]⟩ : ByteArray)).size + v12.size ≤ 9223372036854775807))
                  (ref11_ranges_L0 k l kont0 m3 ((((x1 ++ (⟨#[44]⟩ : ByteArray)) ++ v6) ++ (⟨#[45]⟩ : ByteArray)) ++ v12) (IntKind.wrap .i64 (x2 + 1)))))
              (ref11_ranges_L0 k l kont0 m3 ((x1 ++ (⟨#[44]⟩ : ByteArray)) ++ v6) (IntKind.wrap .i64 (x2 + 1))))))
        (bnd (idx l x2) fun v15 =>
        bnd (ref11_digits k v15.Low) fun v16 =>
        chk (decide (x1.size + v16.size ≤ 9223372036854775807))
          (bnd (idx l x2) fun v18 =>
          bnd (idx l x2) fun v19 =>
          cond (v18.High != v19.Low)
            (chk (decide ((x1 ++ v16).size + (⟨#[45]⟩ : ByteArray).size ≤ 9223372036854775807))
              (bnd (idx l x2) fun v21 =>
              bnd (ref11_digits k v21.High) fun v22 =>
              chk (decide (((x1 ++ v16) ++ (⟨#[45]⟩ : ByteArray)).size + v22.size ≤ 9223372036854775807))
                (ref11_ranges_L0 k l kont0 m3 (((x1 ++ v16) ++ (⟨#[45]⟩ : ByteArray)) ++ v22) (IntKind.wrap .i64 (x2 + 1)))))
            (ref11_ranges_L0 k l kont0 m3 (x1 ++ v16) (IntKind.wrap .i64 (x2 + 1))))))
      (kont0 x1 x2)
def ref11_ranges (k : Nat) (l : List GRange) : Option ByteArray :=
  ref11_ranges_L0 k l (fun x27 x28 =>
    some x27) k (⟨#[]⟩ : ByteArray) 0

def ref11_bracket (k : Nat) (s_0 : ByteArray) (must : Bool) : Option ByteArray :=
  cond must
    (chk (decide ((⟨#[40]⟩ : ByteArray).size + s_0.size ≤ 9223372036854775807))
      (chk (decide (((⟨#[40]⟩ : ByteArray) ++ s_0).size + (⟨#[41]⟩ : ByteArray).size ≤ 9223372036854775807))
        (some (((⟨#[40]⟩ : ByteArray) ++ s_0) ++ (⟨#[41]⟩ : ByteArray)))))
    (some s_0)

def ref11_text_L0 (k : Nat) (self_ref11_text : GExpr → Option ByteArray) (e : GExpr) (kont0 : ByteArray → Int → Option ByteArray) : Nat → ByteArray → Int → Option ByteArray
  | 0, _, _ => none
  | m20 + 1, x18, x19 =>
    cond (decide (x19 < (e.Of.length : Int)))
      (bnd (idx e.Of x19) fun v21 =>
      cond (decide (0 < x19))
        (cond (e.Kind == 3)
          (chk (decide (x18.size + (⟨#[32, 97, 110, 100, 32]⟩ : ByteArray).size ≤ 9223372036854775807))
            (bnd (self_ref11_text v21) fun v24 =>
            cond (v21.Kind == 4)
              (bnd (ref11_bracket k v24 true) fun v26 =>
              chk (decide ((x18 ++ (⟨#[32, 97, 110, 100, 32]⟩ : ByteArray)).size + v26.size ≤ 9223372036854775807))
                (ref11_text_L0 k self_ref11_text e kont0 m20 ((x18 ++ (⟨#[32, 97, 110, 100, 32]⟩ : ByteArray)) ++ v26) (IntKind.wrap .i64 (x19 + 1))))
              (cond (v21.Kind == 3)
                (bnd (ref11_bracket k v24 (e.Kind == 3)) fun v29 =>
                chk (decide ((x18 ++ (⟨#[32, 97, 110, 100, 32]⟩ : ByteArray)).size + v29.size ≤ 9223372036854775807))
                  (ref11_text_L0 k self_ref11_text e kont0 m20 ((x18 ++ (⟨#[32, 97, 110, 100, 32]⟩ : ByteArray)) ++ v29) (IntKind.wrap .i64 (x19 + 1))))
                (bnd (ref11_bracket k v24 false) fun v31 =>
                chk (decide ((x18 ++ (⟨#[32, 97, 110, 100, 32]⟩ : ByteArray)).size + v31.size ≤ 9223372036854775807))
                  (ref11_text_L0 k self_ref11_text e kont0 m20 ((x18 ++ (⟨#[32, 97, 110, 100, 32]⟩ : ByteArray)) ++ v31) (IntKind.wrap .i64 (x19 + 1)))))))
          (cond (decide (0 < x19))
            (chk (decide (x18.size + (⟨#[32, 111, 114, 32]⟩ : ByteArray).size ≤ 9223372036854775807))
              (bnd (self_ref11_text v21) fun v34 =>
              cond (v21.Kind == 4)
                (bnd (ref11_bracket k v34 true) fun v36 =>
                chk (decide ((x18 ++ (⟨#[32, 111, 114, 32]⟩ : ByteArray)).size + v36.size ≤ 9223372036854775807))
                  (ref11_text_L0 k self_ref11_text e kont0 m20 ((x18 ++ (⟨#[32, 111, 114, 32]⟩ : ByteArray)) ++ v36) (IntKind.wrap .i64 (x19 + 1))))
                (cond (v21.Kind == 3)
                  (bnd (ref11_bracket k v34 (e.Kind == 3)) fun v39 =>
                  chk (decide ((x18 ++ (⟨#[32, 111, 114, 32]⟩ : ByteArray)).size + v39.size ≤ 9223372036854775807))
                    (ref11_text_L0 k self_ref11_text e kont0 m20 ((x18 ++ (⟨#[32, 111, 114, 32]⟩ : ByteArray)) ++ v39) (IntKind.wrap .i64 (x19 + 1))))
                  (bnd (ref11_bracket k v34 false) fun v41 =>
                  chk (decide ((x18 ++ (⟨#[32, 111, 114, 32]⟩ : ByteArray)).size + v41.size ≤ 9223372036854775807))
                    (ref11_text_L0 k self_ref11_text e kont0 m20 ((x18 ++ (⟨#[32, 111, 114, 32]⟩ : ByteArray)) ++ v41) (IntKind.wrap .i64 (x19 + 1)))))))
            (bnd (self_ref11_text v21) fun v43 =>
            cond (v21.Kind == 4)
              (bnd (ref11_bracket k v43 true) fun v45 =>
              chk (decide (x18.size + v45.size ≤ 9223372036854775807))
                (ref11_text_L0 k self_ref11_text e kont0 m20 (x18 ++ v45) (IntKind.wrap .i64 (x19 + 1))))
              (cond (v21.Kind == 3)
                (bnd (ref11_bracket k v43 (e.Kind == 3)) fun v48 =>
                chk (decide (x18.size + v48.size ≤ 9223372036854775807))
                  (ref11_text_L0 k self_ref11_text e kont0 m20 (x18 ++ v48) (IntKind.wrap .i64 (x19 + 1))))
                (bnd (ref11_bracket k v43 false) fun v50 =>
                chk (decide (x18.size + v50.size ≤ 9223372036854775807))
                  (ref11_text_L0 k self_ref11_text e kont0 m20 (x18 ++ v50) (IntKind.wrap .i64 (x19 + 1))))))))
        (cond (decide (0 < x19))
          (chk (decide (x18.size + (⟨#[32, 111, 114, 32]⟩ : ByteArray).size ≤ 9223372036854775807))
            (bnd (self_ref11_text v21) fun v55 =>
            cond (v21.Kind == 4)
              (bnd (ref11_bracket k v55 true) fun v57 =>
              chk (decide ((x18 ++ (⟨#[32, 111, 114, 32]⟩ : ByteArray)).size + v57.size ≤ 9223372036854775807))
                (ref11_text_L0 k self_ref11_text e kont0 m20 ((x18 ++ (⟨#[32, 111, 114, 32]⟩ : ByteArray)) ++ v57) (IntKind.wrap .i64 (x19 + 1))))
              (cond (v21.Kind == 3)
                (bnd (ref11_bracket k v55 (e.Kind == 3)) fun v60 =>
                chk (decide ((x18 ++ (⟨#[32, 111, 114, 32]⟩ : ByteArray)).size + v60.size ≤ 9223372036854775807))
                  (ref11_text_L0 k self_ref11_text e kont0 m20 ((x18 ++ (⟨#[32, 111, 114, 32]⟩ : ByteArray)) ++ v60) (IntKind.wrap .i64 (x19 + 1))))
                (bnd (ref11_bracket k v55 false) fun v62 =>
                chk (decide ((x18 ++ (⟨#[32, 111, 114, 32]⟩ : ByteArray)).size + v62.size ≤ 9223372036854775807))
                  (ref11_text_L0 k self_ref11_text e kont0 m20 ((x18 ++ (⟨#[32, 111, 114, 32]⟩ : ByteArray)) ++ v62) (IntKind.wrap .i64 (x19 + 1)))))))
          (bnd (self_ref11_text v21) fun v64 =>
          cond (v21.Kind == 4)
            (bnd (ref11_bracket k v64 true) fun v66 =>
            chk (decide (x18.size + v66.size ≤ 9223372036854775807))
              (ref11_text_L0 k self_ref11_text e kont0 m20 (x18 ++ v66) (IntKind.wrap .i64 (x19 + 1))))
            (cond (v21.Kind == 3)
              (bnd (ref11_bracket k v64 (e.Kind == 3)) fun v69 =>
              chk (decide (x18.size + v69.size ≤ 9223372036854775807))
                (ref11_text_L0 k self_ref11_text e kont0 m20 (x18 ++ v69) (IntKind.wrap .i64 (x19 + 1))))
              (bnd (ref11_bracket k v64 false) fun v71 =>
              chk (decide (x18.size + v71.size ≤ 9223372036854775807))
                (ref11_text_L0 k self_ref11_text e kont0 m20 (x18 ++ v71) (IntKind.wrap .i64 (x19 + 1))))))))
      (kont0 x18 x19)
def ref11_text : Nat → GExpr → Option ByteArray
  | 0, _ => none
  | k + 1, e =>
    cond (e.Kind == 1)
      (cond (e.Field == 6)
        (bnd (ref03_Text k e.Low) fun v1 =>
        bnd (ref03_Text k e.High) fun v2 =>
        chk (decide ((⟨#[114, 101, 97, 108, 32]⟩ : ByteArray).size + v1.1.size ≤ 9223372036854775807))
          (chk (decide (((⟨#[114, 101, 97, 108, 32]⟩ : ByteArray) ++ v1.1).size + (⟨#[32, 116, 111, 32]⟩ : ByteArray).size ≤ 9223372036854775807))
            (chk (decide ((((⟨#[114, 101, 97, 108, 32]⟩ : ByteArray) ++ v1.1) ++ (⟨#[32, 116, 111, 32]⟩ : ByteArray)).size + v2.1.size ≤ 9223372036854775807))
              (some ((((⟨#[114, 101, 97, 108, 32]⟩ : ByteArray) ++ v1.1) ++ (⟨#[32, 116, 111, 32]⟩ : ByteArray)) ++ v2.1)))))
        (bnd (idx ([(⟨#[]⟩ : ByteArray), (⟨#[99, 108, 105, 101, 110, 116]⟩ : ByteArray), (⟨#[117, 110, 105, 116]⟩ : ByteArray), (⟨#[102, 117, 110, 99]⟩ : ByteArray), (⟨#[97, 100, 100, 114]⟩ : ByteArray), (⟨#[118, 97, 108, 117, 101]⟩ : ByteArray)]) e.Field) fun v6 =>
        chk (decide (v6.size + (⟨#[32]⟩ : ByteArray).size ≤ 9223372036854775807))
          (bnd (ref11_ranges k e.Ranges) fun v8 =>
          chk (decide ((v6 ++ (⟨#[32]⟩ : ByteArray)).size + v8.size ≤ 9223372036854775807))
            (some ((v6 ++ (⟨#[32]⟩ : ByteArray)) ++ v8)))))
      (cond (e.Kind == 2)
        (bnd (idx e.Of 0) fun v11 =>
        bnd ((ref11_text k) v11) fun v12 =>
        cond (v11.Kind == 3)
          (bnd (ref11_bracket k v12 true) fun v14 =>
          chk (decide ((⟨#[110, 111, 116, 32]⟩ : ByteArray).size + v14.size ≤ 9223372036854775807))
            (some ((⟨#[110, 111, 116, 32]⟩ : ByteArray) ++ v14)))
          (bnd (ref11_bracket k v12 (v11.Kind == 4)) fun v16 =>
          chk (decide ((⟨#[110, 111, 116, 32]⟩ : ByteArray).size + v16.size ≤ 9223372036854775807))
            (some ((⟨#[110, 111, 116, 32]⟩ : ByteArray) ++ v16))))
        (ref11_text_L0 k (ref11_text k) e (fun x75 x76 =>
          some x75) k (⟨#[]⟩ : ByteArray) 0))

def ref11_Text_L0 (k : Nat) (l : List GRule) (kont0 : ByteArray → Int → Option (ByteArray × Bool)) : Nat → ByteArray → Int → Option (ByteArray × Bool)
  | 0, _, _ => none
  | m3 + 1, x1, x2 =>
    cond (decide (x2 < (l.length : Int)))
      (bnd (idx l x2) fun v4 =>
      bnd (ref11_rule k v4) fun v5 =>
      cond (!v5)
        (some ((⟨#[]⟩ : ByteArray), false))
        (cond v4.Allow
          (cond (v4.When.Kind != 0)
            (chk (decide ((⟨#[97, 108, 108, 111, 119]⟩ : ByteArray).size + (⟨#[32, 119, 104, 101, 110, 32]⟩ : ByteArray).size ≤ 9223372036854775807))
              (bnd (ref11_text k v4.When) fun v7 =>
              chk (decide (((⟨#[97, 108, 108, 111, 119]⟩ : ByteArray) ++ (⟨#[32, 119, 104, 101, 110, 32]⟩ : ByteArray)).size + v7.size ≤ 9223372036854775807))
                (cond (v4.Rate.Per != 0)
                  (chk (decide ((((⟨#[97, 108, 108, 111, 119]⟩ : ByteArray) ++ (⟨#[32, 119, 104, 101, 110, 32]⟩ : ByteArray)) ++ v7).size + (⟨#[32, 114, 97, 116, 101, 32]⟩ : ByteArray).size ≤ 9223372036854775807))
                    (bnd (ref11_digits k v4.Rate.Num) fun v10 =>
                    chk (decide (((((⟨#[97, 108, 108, 111, 119]⟩ : ByteArray) ++ (⟨#[32, 119, 104, 101, 110, 32]⟩ : ByteArray)) ++ v7) ++ (⟨#[32, 114, 97, 116, 101, 32]⟩ : ByteArray)).size + v10.size ≤ 9223372036854775807))
                      (chk (decide ((((((⟨#[97, 108, 108, 111, 119]⟩ : ByteArray) ++ (⟨#[32, 119, 104, 101, 110, 32]⟩ : ByteArray)) ++ v7) ++ (⟨#[32, 114, 97, 116, 101, 32]⟩ : ByteArray)) ++ v10).size + (⟨#[32, 112, 101, 114, 32]⟩ : ByteArray).size ≤ 9223372036854775807))
                        (bnd (ref11_digits k v4.Rate.Per) fun v13 =>
                        chk (decide (((((((⟨#[97, 108, 108, 111, 119]⟩ : ByteArray) ++ (⟨#[32, 119, 104, 101, 110, 32]⟩ : ByteArray)) ++ v7) ++ (⟨#[32, 114, 97, 116, 101, 32]⟩ : ByteArray)) ++ v10) ++ (⟨#[32, 112, 101, 114, 32]⟩ : ByteArray)).size + v13.size ≤ 9223372036854775807))
                          (chk (decide ((((((((⟨#[97, 108, 108, 111, 119]⟩ : ByteArray) ++ (⟨#[32, 119, 104, 101, 110, 32]⟩ : ByteArray)) ++ v7) ++ (⟨#[32, 114, 97, 116, 101, 32]⟩ : ByteArray)) ++ v10) ++ (⟨#[32, 112, 101, 114, 32]⟩ : ByteArray)) ++ v13).size + (⟨#[32, 98, 117, 114, 115, 116, 32]⟩ : ByteArray).size ≤ 9223372036854775807))
                            (bnd (ref11_digits k v4.Rate.Burst) fun v16 =>
                            chk (decide (((((((((⟨#[97, 108, 108, 111, 119]⟩ : ByteArray) ++ (⟨#[32, 119, 104, 101, 110, 32]⟩ : ByteArray)) ++ v7) ++ (⟨#[32, 114, 97, 116, 101, 32]⟩ : ByteArray)) ++ v10) ++ (⟨#[32, 112, 101, 114, 32]⟩ : ByteArray)) ++ v13) ++ (⟨#[32, 98, 117, 114, 115, 116, 32]⟩ : ByteArray)).size + v16.size ≤ 9223372036854775807))
                              (chk (decide (x1.size + (((((((((⟨#[97, 108, 108, 111, 119]⟩ : ByteArray) ++ (⟨#[32, 119, 104, 101, 110, 32]⟩ : ByteArray)) ++ v7) ++ (⟨#[32, 114, 97, 116, 101, 32]⟩ : ByteArray)) ++ v10) ++ (⟨#[32, 112, 101, 114, 32]⟩ : ByteArray)) ++ v13) ++ (⟨#[32, 98, 117, 114, 115, 116, 32]⟩ : ByteArray)) ++ v16).size ≤ 9223372036854775807))
                                (chk (decide ((x1 ++ (((((((((⟨#[97, 108, 108, 111, 119]⟩ : ByteArray) ++ (⟨#[32, 119, 104, 101, 110, 32]⟩ : ByteArray)) ++ v7) ++ (⟨#[32, 114, 97, 116, 101, 32]⟩ : ByteArray)) ++ v10) ++ (⟨#[32, 112, 101, 114, 32]⟩ : ByteArray)) ++ v13) ++ (⟨#[32, 98, 117, 114, 115, 116, 32]⟩ : ByteArray)) ++ v16)).size + (⟨#[59, 10]⟩ : ByteArray).size ≤ 9223372036854775807))
                                  (ref11_Text_L0 k l kont0 m3 ((x1 ++ (((((((((⟨#[97, 108, 108, 111, 119]⟩ : ByteArray) ++ (⟨#[32, 119, 104, 101, 110, 32]⟩ : ByteArray)) ++ v7) ++ (⟨#[32, 114, 97, 116, 101, 32]⟩ : ByteArray)) ++ v10) ++ (⟨#[32, 112, 101, 114, 32]⟩ : ByteArray)) ++ v13) ++ (⟨#[32, 98, 117, 114, 115, 116, 32]⟩ : ByteArray)) ++ v16)) ++ (⟨#[59, 10]⟩ : ByteArray)) (IntKind.wrap .i64 (x2 + 1)))))))))))
                  (chk (decide (x1.size + (((⟨#[97, 108, 108, 111, 119]⟩ : ByteArray) ++ (⟨#[32, 119, 104, 101, 110, 32]⟩ : ByteArray)) ++ v7).size ≤ 9223372036854775807))
                    (chk (decide ((x1 ++ (((⟨#[97, 108, 108, 111, 119]⟩ : ByteArray) ++ (⟨#[32, 119, 104, 101, 110, 32]⟩ : ByteArray)) ++ v7)).size + (⟨#[59, 10]⟩ : ByteArray).size ≤ 9223372036854775807))
                      (ref11_Text_L0 k l kont0 m3 ((x1 ++ (((⟨#[97, 108, 108, 111, 119]⟩ : ByteArray) ++ (⟨#[32, 119, 104, 101, 110, 32]⟩ : ByteArray)) ++ v7)) ++ (⟨#[59, 10]⟩ : ByteArray)) (IntKind.wrap .i64 (x2 + 1))))))))
            (cond (v4.Rate.Per != 0)
              (chk (decide ((⟨#[97, 108, 108, 111, 119]⟩ : ByteArray).size + (⟨#[32, 114, 97, 116, 101, 32]⟩ : ByteArray).size ≤ 9223372036854775807))
                (bnd (ref11_digits k v4.Rate.Num) fun v24 =>
                chk (decide (((⟨#[97, 108, 108, 111, 119]⟩ : ByteArray) ++ (⟨#[32, 114, 97, 116, 101, 32]⟩ : ByteArray)).size + v24.size ≤ 9223372036854775807))
                  (chk (decide ((((⟨#[97, 108, 108, 111, 119]⟩ : ByteArray) ++ (⟨#[32, 114, 97, 116, 101, 32]⟩ : ByteArray)) ++ v24).size + (⟨#[32, 112, 101, 114, 32]⟩ : ByteArray).size ≤ 9223372036854775807))
                    (bnd (ref11_digits k v4.Rate.Per) fun v27 =>
                    chk (decide (((((⟨#[97, 108, 108, 111, 119]⟩ : ByteArray) ++ (⟨#[32, 114, 97, 116, 101, 32]⟩ : ByteArray)) ++ v24) ++ (⟨#[32, 112, 101, 114, 32]⟩ : ByteArray)).size + v27.size ≤ 9223372036854775807))
                      (chk (decide ((((((⟨#[97, 108, 108, 111, 119]⟩ : ByteArray) ++ (⟨#[32, 114, 97, 116, 101, 32]⟩ : ByteArray)) ++ v24) ++ (⟨#[32, 112, 101, 114, 32]⟩ : ByteArray)) ++ v27).size + (⟨#[32, 98, 117, 114, 115, 116, 32]⟩ : ByteArray).size ≤ 9223372036854775807))
                        (bnd (ref11_digits k v4.Rate.Burst) fun v30 =>
                        chk (decide (((((((⟨#[97, 108, 108, 111, 119]⟩ : ByteArray) ++ (⟨#[32, 114, 97, 116, 101, 32]⟩ : ByteArray)) ++ v24) ++ (⟨#[32, 112, 101, 114, 32]⟩ : ByteArray)) ++ v27) ++ (⟨#[32, 98, 117, 114, 115, 116, 32]⟩ : ByteArray)).size + v30.size ≤ 9223372036854775807))
                          (chk (decide (x1.size + (((((((⟨#[97, 108, 108, 111, 119]⟩ : ByteArray) ++ (⟨#[32, 114, 97, 116, 101, 32]⟩ : ByteArray)) ++ v24) ++ (⟨#[32, 112, 101, 114, 32]⟩ : ByteArray)) ++ v27) ++ (⟨#[32, 98, 117, 114, 115, 116, 32]⟩ : ByteArray)) ++ v30).size ≤ 9223372036854775807))
                            (chk (decide ((x1 ++ (((((((⟨#[97, 108, 108, 111, 119]⟩ : ByteArray) ++ (⟨#[32, 114, 97, 116, 101, 32]⟩ : ByteArray)) ++ v24) ++ (⟨#[32, 112, 101, 114, 32]⟩ : ByteArray)) ++ v27) ++ (⟨#[32, 98, 117, 114, 115, 116, 32]⟩ : ByteArray)) ++ v30)).size + (⟨#[59, 10]⟩ : ByteArray).size ≤ 9223372036854775807))
                              (ref11_Text_L0 k l kont0 m3 ((x1 ++ (((((((⟨#[97, 108, 108, 111, 119]⟩ : ByteArray) ++ (⟨#[32, 114, 97, 116, 101, 32]⟩ : ByteArray)) ++ v24) ++ (⟨#[32, 112, 101, 114, 32]⟩ : ByteArray)) ++ v27) ++ (⟨#[32, 98, 117, 114, 115, 116, 32]⟩ : ByteArray)) ++ v30)) ++ (⟨#[59, 10]⟩ : ByteArray)) (IntKind.wrap .i64 (x2 + 1)))))))))))
              (chk (decide (x1.size + (⟨#[97, 108, 108, 111, 119]⟩ : ByteArray).size ≤ 9223372036854775807))
                (chk (decide ((x1 ++ (⟨#[97, 108, 108, 111, 119]⟩ : ByteArray)).size + (⟨#[59, 10]⟩ : ByteArray).size ≤ 9223372036854775807))
                  (ref11_Text_L0 k l kont0 m3 ((x1 ++ (⟨#[97, 108, 108, 111, 119]⟩ : ByteArray)) ++ (⟨#[59, 10]⟩ : ByteArray)) (IntKind.wrap .i64 (x2 + 1)))))))
          (cond (v4.When.Kind != 0)
            (chk (decide ((⟨#[100, 101, 110, 121]⟩ : ByteArray).size + (⟨#[32, 119, 104, 101, 110, 32]⟩ : ByteArray).size ≤ 9223372036854775807))
              (bnd (ref11_text k v4.When) fun v39 =>
              chk (decide (((⟨#[100, 101, 110, 121]⟩ : ByteArray) ++ (⟨#[32, 119, 104, 101, 110, 32]⟩ : ByteArray)).size + v39.size ≤ 9223372036854775807))
                (cond (v4.Rate.Per != 0)
                  (chk (decide ((((⟨#[100, 101, 110, 121]⟩ : ByteArray) ++ (⟨#[32, 119, 104, 101, 110, 32]⟩ : ByteArray)) ++ v39).size + (⟨#[32, 114, 97, 116, 101, 32]⟩ : ByteArray).size ≤ 9223372036854775807))
                    (bnd (ref11_digits k v4.Rate.Num) fun v42 =>
                    chk (decide (((((⟨#[100, 101, 110, 121]⟩ : ByteArray) ++ (⟨#[32, 119, 104, 101, 110, 32]⟩ : ByteArray)) ++ v39) ++ (⟨#[32, 114, 97, 116, 101, 32]⟩ : ByteArray)).size + v42.size ≤ 9223372036854775807))
                      (chk (decide ((((((⟨#[100, 101, 110, 121]⟩ : ByteArray) ++ (⟨#[32, 119, 104, 101, 110, 32]⟩ : ByteArray)) ++ v39) ++ (⟨#[32, 114, 97, 116, 101, 32]⟩ : ByteArray)) ++ v42).size + (⟨#[32, 112, 101, 114, 32]⟩ : ByteArray).size ≤ 9223372036854775807))
                        (bnd (ref11_digits k v4.Rate.Per) fun v45 =>
                        chk (decide (((((((⟨#[100, 101, 110, 121]⟩ : ByteArray) ++ (⟨#[32, 119, 104, 101, 110, 32]⟩ : ByteArray)) ++ v39) ++ (⟨#[32, 114, 97, 116, 101, 32]⟩ : ByteArray)) ++ v42) ++ (⟨#[32, 112, 101, 114, 32]⟩ : ByteArray)).size + v45.size ≤ 9223372036854775807))
                          (chk (decide ((((((((⟨#[100, 101, 110, 121]⟩ : ByteArray) ++ (⟨#[32, 119, 104, 101, 110, 32]⟩ : ByteArray)) ++ v39) ++ (⟨#[32, 114, 97, 116, 101, 32]⟩ : ByteArray)) ++ v42) ++ (⟨#[32, 112, 101, 114, 32]⟩ : ByteArray)) ++ v45).size + (⟨#[32, 98, 117, 114, 115, 116, 32]⟩ : ByteArray).size ≤ 9223372036854775807))
                            (bnd (ref11_digits k v4.Rate.Burst) fun v48 =>
                            chk (decide (((((((((⟨#[100, 101, 110, 121]⟩ : ByteArray) ++ (⟨#[32, 119, 104, 101, 110, 32]⟩ : ByteArray)) ++ v39) ++ (⟨#[32, 114, 97, 116, 101, 32]⟩ : ByteArray)) ++ v42) ++ (⟨#[32, 112, 101, 114, 32]⟩ : ByteArray)) ++ v45) ++ (⟨#[32, 98, 117, 114, 115, 116, 32]⟩ : ByteArray)).size + v48.size ≤ 9223372036854775807))
                              (chk (decide (x1.size + (((((((((⟨#[100, 101, 110, 121]⟩ : ByteArray) ++ (⟨#[32, 119, 104, 101, 110, 32]⟩ : ByteArray)) ++ v39) ++ (⟨#[32, 114, 97, 116, 101, 32]⟩ : ByteArray)) ++ v42) ++ (⟨#[32, 112, 101, 114, 32]⟩ : ByteArray)) ++ v45) ++ (⟨#[32, 98, 117, 114, 115, 116, 32]⟩ : ByteArray)) ++ v48).size ≤ 9223372036854775807))
                                (chk (decide ((x1 ++ (((((((((⟨#[100, 101, 110, 121]⟩ : ByteArray) ++ (⟨#[32, 119, 104, 101, 110, 32]⟩ : ByteArray)) ++ v39) ++ (⟨#[32, 114, 97, 116, 101, 32]⟩ : ByteArray)) ++ v42) ++ (⟨#[32, 112, 101, 114, 32]⟩ : ByteArray)) ++ v45) ++ (⟨#[32, 98, 117, 114, 115, 116, 32]⟩ : ByteArray)) ++ v48)).size + (⟨#[59, 10]⟩ : ByteArray).size ≤ 9223372036854775807))
                                  (ref11_Text_L0 k l kont0 m3 ((x1 ++ (((((((((⟨#[100, 101, 110, 121]⟩ : ByteArray) ++ (⟨#[32, 119, 104, 101, 110, 32]⟩ : ByteArray)) ++ v39) ++ (⟨#[32, 114, 97, 116, 101, 32]⟩ : ByteArray)) ++ v42) ++ (⟨#[32, 112, 101, 114, 32]⟩ : ByteArray)) ++ v45) ++ (⟨#[32, 98, 117, 114, 115, 116, 32]⟩ : ByteArray)) ++ v48)) ++ (⟨#[59, 10]⟩ : ByteArray)) (IntKind.wrap .i64 (x2 + 1)))))))))))
                  (chk (decide (x1.size + (((⟨#[100, 101, 110, 121]⟩ : ByteArray) ++ (⟨#[32, 119, 104, 101, 110, 32]⟩ : ByteArray)) ++ v39).size ≤ 9223372036854775807))
                    (chk (decide ((x1 ++ (((⟨#[100, 101, 110, 121]⟩ : ByteArray) ++ (⟨#[32, 119, 104, 101, 110, 32]⟩ : ByteArray)) ++ v39)).size + (⟨#[59, 10]⟩ : ByteArray).size ≤ 9223372036854775807))
                      (ref11_Text_L0 k l kont0 m3 ((x1 ++ (((⟨#[100, 101, 110, 121]⟩ : ByteArray) ++ (⟨#[32, 119, 104, 101, 110, 32]⟩ : ByteArray)) ++ v39)) ++ (⟨#[59, 10]⟩ : ByteArray)) (IntKind.wrap .i64 (x2 + 1))))))))
            (cond (v4.Rate.Per != 0)
              (chk (decide ((⟨#[100, 101, 110, 121]⟩ : ByteArray).size + (⟨#[32, 114, 97, 116, 101, 32]⟩ : ByteArray).size ≤ 9223372036854775807))
                (bnd (ref11_digits k v4.Rate.Num) fun v56 =>
                chk (decide (((⟨#[100, 101, 110, 121]⟩ : ByteArray) ++ (⟨#[32, 114, 97, 116, 101, 32]⟩ : ByteArray)).size + v56.size ≤ 9223372036854775807))
                  (chk (decide ((((⟨#[100, 101, 110, 121]⟩ : ByteArray) ++ (⟨#[32, 114, 97, 116, 101, 32]⟩ : ByteArray)) ++ v56).size + (⟨#[32, 112, 101, 114, 32]⟩ : ByteArray).size ≤ 9223372036854775807))
                    (bnd (ref11_digits k v4.Rate.Per) fun v59 =>
                    chk (decide (((((⟨#[100, 101, 110, 121]⟩ : ByteArray) ++ (⟨#[32, 114, 97, 116, 101, 32]⟩ : ByteArray)) ++ v56) ++ (⟨#[32, 112, 101, 114, 32]⟩ : ByteArray)).size + v59.size ≤ 9223372036854775807))
                      (chk (decide ((((((⟨#[100, 101, 110, 121]⟩ : ByteArray) ++ (⟨#[32, 114, 97, 116, 101, 32]⟩ : ByteArray)) ++ v56) ++ (⟨#[32, 112, 101, 114, 32]⟩ : ByteArray)) ++ v59).size + (⟨#[32, 98, 117, 114, 115, 116, 32]⟩ : ByteArray).size ≤ 9223372036854775807))
                        (bnd (ref11_digits k v4.Rate.Burst) fun v62 =>
                        chk (decide (((((((⟨#[100, 101, 110, 121]⟩ : ByteArray) ++ (⟨#[32, 114, 97, 116, 101, 32]⟩ : ByteArray)) ++ v56) ++ (⟨#[32, 112, 101, 114, 32]⟩ : ByteArray)) ++ v59) ++ (⟨#[32, 98, 117, 114, 115, 116, 32]⟩ : ByteArray)).size + v62.size ≤ 9223372036854775807))
                          (chk (decide (x1.size + (((((((⟨#[100, 101, 110, 121]⟩ : ByteArray) ++ (⟨#[32, 114, 97, 116, 101, 32]⟩ : ByteArray)) ++ v56) ++ (⟨#[32, 112, 101, 114, 32]⟩ : ByteArray)) ++ v59) ++ (⟨#[32, 98, 117, 114, 115, 116, 32]⟩ : ByteArray)) ++ v62).size ≤ 9223372036854775807))
                            (chk (decide ((x1 ++ (((((((⟨#[100, 101, 110, 121]⟩ : ByteArray) ++ (⟨#[32, 114, 97, 116, 101, 32]⟩ : ByteArray)) ++ v56) ++ (⟨#[32, 112, 101, 114, 32]⟩ : ByteArray)) ++ v59) ++ (⟨#[32, 98, 117, 114, 115, 116, 32]⟩ : ByteArray)) ++ v62)).size + (⟨#[59, 10]⟩ : ByteArray).size ≤ 9223372036854775807))
                              (ref11_Text_L0 k l kont0 m3 ((x1 ++ (((((((⟨#[100, 101, 110, 121]⟩ : ByteArray) ++ (⟨#[32, 114, 97, 116, 101, 32]⟩ : ByteArray)) ++ v56) ++ (⟨#[32, 112, 101, 114, 32]⟩ : ByteArray)) ++ v59) ++ (⟨#[32, 98, 117, 114, 115, 116, 32]⟩ : ByteArray)) ++ v62)) ++ (⟨#[59, 10]⟩ : ByteArray)) (IntKind.wrap .i64 (x2 + 1)))))))))))
              (chk (decide (x1.size + (⟨#[100, 101, 110, 121]⟩ : ByteArray).size ≤ 9223372036854775807))
                (chk (decide ((x1 ++ (⟨#[100, 101, 110, 121]⟩ : ByteArray)).size + (⟨#[59, 10]⟩ : ByteArray).size ≤ 9223372036854775807))
                  (ref11_Text_L0 k l kont0 m3 ((x1 ++ (⟨#[100, 101, 110, 121]⟩ : ByteArray)) ++ (⟨#[59, 10]⟩ : ByteArray)) (IntKind.wrap .i64 (x2 + 1)))))))))
      (kont0 x1 x2)
def ref11_Text (k : Nat) (l : List GRule) : Option (ByteArray × Bool) :=
  ref11_Text_L0 k l (fun x73 x74 =>
    some (x73, true)) k (⟨#[]⟩ : ByteArray) 0

def slices_EqualFunc_Rule_L0 (s1 : List GRule) (s2 : List GRule) (eq : GRule → GRule → Option Bool) (kont0 : Int → Option Bool) : Nat → Int → Option Bool
  | 0, _ => none
  | m2 + 1, x1 =>
    cond (decide (x1 < (s1.length : Int)))
      (bnd (idx s1 x1) fun v3 =>
      bnd (idx s2 x1) fun v4 =>
      bnd (eq v3 v4) fun v5 =>
      cond (!v5)
        (some false)
        (slices_EqualFunc_Rule_L0 s1 s2 eq kont0 m2 (IntKind.wrap .i64 (x1 + 1))))
      (kont0 x1)
def slices_EqualFunc_Rule (k : Nat) (s1 : List GRule) (s2 : List GRule) (eq : GRule → GRule → Option Bool) : Option Bool :=
  cond ((s1.length : Int) != (s2.length : Int))
    (some false)
    (slices_EqualFunc_Rule_L0 s1 s2 eq (fun x8 =>
      some true) k 0)

def tree_Rules_1 (k : Nat) (x_0 : GRule) (y_1 : GRule) : Option Bool :=
  cond (x_0.Allow == y_1.Allow)
    (cond ((x_0.Rate.Num == y_1.Rate.Num) && ((x_0.Rate.Per == y_1.Rate.Per) && ((x_0.Rate.Burst == y_1.Rate.Burst) && true)))
      (bnd (tree_Same k x_0.When y_1.When) fun v3 =>
      some v3)
      (some false))
    (some false)

def tree_Rules (k : Nat) (a_0 : List GRule) (b_1 : List GRule) : Option Bool :=
  bnd (slices_EqualFunc_Rule k a_0 b_1 (tree_Rules_1 k)) fun v1 =>
  some v1

def law11_TreeTexts (k : Nat) (a_0 : List GRule) (b_1 : List GRule) : Option Bool :=
  bnd (ref11_Few k a_0 6) fun v1 =>
  cond (!v1)
    (bnd (law11_awake k) fun v3 =>
    some v3)
    (bnd (ref11_Few k b_1 6) fun v4 =>
    cond (!v4)
      (bnd (law11_awake k) fun v5 =>
      some v5)
      (bnd (tree_Text k a_0) fun v6 =>
      bnd (ref11_Text k a_0) fun v7 =>
      bnd (law11_awake k) fun v8 =>
      cond v8
        (cond (v6.1.toList == v7.1.toList)
          (cond (v6.2 == v7.2)
            (bnd (tree_Rules k a_0 b_1) fun v12 =>
            bnd (ref11_Rules k a_0 b_1) fun v13 =>
            some (v12 == v13))
            (some false))
          (some false))
        (some false)))
end Go.Proofs.YtdkiijhmmmfciaaDoor
