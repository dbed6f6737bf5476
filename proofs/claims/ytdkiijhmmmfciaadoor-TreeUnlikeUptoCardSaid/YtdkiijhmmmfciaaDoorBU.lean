/- strings.Builder: what its functions do, in this seat's numbers. -/
import Derived.Test.YtdkiijhmmmfciaaDoorTQ
import Derived.Test.YtdkiijhmmmfciaaDoorProg
import Derived.KernelRfl
import Derived.Shelf.RegionOpenPlain
import Derived.Lib.Strings
import Derived.Lib.Slices
import Derived.Lib.Walk
import Derived.Lib.Builder
import Derived.Lib.UnsafeStr
import Derived.WalkKit
import Derived.Laws.Externs
set_option linter.unusedVariables false
set_option linter.unusedSimpArgs false
namespace Go.Proofs.YtdkiijhmmmfciaaDoor
open Go

/-- What a builder holds, at the start of a struct's variable. -/
def WB (T e : TypeId) (b : Nat) (m : ByteArray) (r : Res) : Prop :=
  (m = ByteArray.empty ∧ r = [(b, .raw T #[.pointer none, .slice none 0 0])]) ∨ (m.size ≠ 0 ∧ ∃ ow re, ow ≠ .full ∧ Owned e 1 ow (bys m).length re ∧ r = (b, .box [.ptr b 0, .slice ow 1 ((bys m).map (TV.int .u8))]) :: re)

theorem wb_new (T e : TypeId) (b : Nat) : WB T e b ByteArray.empty [(b, .raw T #[.pointer none, .slice none 0 0])] := .inl ⟨rfl, rfl⟩

theorem ev_one {C : Claims} {w w' : World} {b : Nat} {s : Res} (hd : dom s b) (h1 : w'.os = w.os) (h2 : w'.tape = w.tape) (h3 : w'.output = w.output) (h4 : w'.heap.size = w.heap.size) (h5 : ∀ b', b' ≠ b → w'.heap[b']? = w.heap[b']?) (h6 : ∀ o, C b o → w'.cell? ⟨b, o, none⟩ = w.cell? ⟨b, o, none⟩) : Ev (dom s) C w C w' where
  os := h1
  tape := h2
  output := h3
  size := by omega
  same := fun b' _ hn => h5 b' fun e => hn (e ▸ hd)
  csame := fun _ _ _ _ h => h
  keep := fun b' o hc => ⟨hc, by
    by_cases e : b' = b
    · subst e; exact h6 o hc
    · simp only [World.cell?, h5 b' e]⟩

theorem setCell0 (w : World) (b : Nat) (x y v : Value) (T : TypeId) (h : w.heap[b]? = some (.cells #[x, y] T (0, 0))) :
    (w.setCell ⟨b, 0, none⟩ v).heap[b]? = some (.cells #[v, y] T (0, 0)) ∧ (w.setCell ⟨b, 0, none⟩ v).heap.size = w.heap.size ∧ ∀ b', b' ≠ b → (w.setCell ⟨b, 0, none⟩ v).heap[b']? = w.heap[b']? := by
  refine ⟨?_, by simp [World.setCell], fun b' hne => ?_⟩
  · simp [World.setCell, Array.getElem?_modify, h]
  · simp [World.setCell, Array.getElem?_modify, Ne.symm hne]

section
open Go.Proofs.Tryd
set_option maxHeartbeats 1000000 in
set_option maxRecDepth 100000 in
theorem cc_fresh_run (b : Nat) (w : World) (y : Value) (hb : w.heap[b]? = some (.cells #[.pointer none, y] 51 (0, 0))) :
    Calls Tryd.prog 53 #[.pointer (some ⟨b, 0, none⟩)] w fun e w' => e = .returned (.tuple #[]) ∧ w' = w.setCell ⟨b, 0, none⟩ (.pointer (some ⟨b, 0, none⟩)) := by
  have h0 : w.cell? ⟨b, 0, none⟩ = some (.pointer none) := by simp [World.cell?, hb]
  have hsh : w.shape? b = some (51, 2) := by simp [World.shape?, hb]
  have hfz : w.frozen? ⟨b, 0, none⟩ = false := by simp [World.frozen?, hb]
  obtain ⟨j, hj, hjs⟩ : ∃ j, Tryd.prog.info? 49 = some j ∧ j.size = 2 := ⟨_, rfl, rfl⟩
  have hlies : liesAt Tryd.prog Tryd.prog.depth 51 (2 / Tryd.prog.cellsOf 51) 0 49 1 = true := by kernel_rfl
  have tp : Tryd.prog.underlying 46 = some (.pointer 49) := rfl
  have tu : Tryd.prog.underlying 89 = some .unsafePointer := rfl
  go_enter Tryd.func53, Tryd.ntmps53
  go_wp2
  rw [Lib.run_to_unsafe w ⟨b, 0, none⟩ tp tu hj (by rw [hjs]; decide) hsh (Nat.zero_lt_succ 1)]
  simp only [Result.andThen]
  rw [Oper.upon_value]
  go_wp2
  rw [run_callFunc_extern (P := Tryd.prog) (f := 67) rfl (by kernel_rfl) (by kernel_rfl) (by kernel_rfl) (e := Extern.AbiNoEscape.same) (by kernel_rfl)]
  rw [Lib.run_noEscape]
  simp only [Result.andThen]
  rw [Oper.upon_value]
  go_wp2
  rw [Lib.run_from_unsafe w ⟨b, 0, none⟩ tu tp hj hsh hlies]
  simp only [Result.andThen]
  rw [Oper.upon_value]
  go_wp2
  go_end0
  exact ⟨rfl, rfl⟩

set_option maxHeartbeats 1000000 in
set_option maxRecDepth 100000 in
theorem cc_used_run (b : Nat) (w : World) (h0 : w.cell? ⟨b, 0, none⟩ = some (.pointer (some ⟨b, 0, none⟩))) :
    Calls Tryd.prog 53 #[.pointer (some ⟨b, 0, none⟩)] w fun e w' => e = .returned (.tuple #[]) ∧ w' = w := by
  obtain ⟨j, hj, hjs⟩ : ∃ j, Tryd.prog.info? 49 = some j ∧ j.size = 2 := ⟨_, rfl, rfl⟩
  have tp : Tryd.prog.underlying 46 = some (.pointer 49) := rfl
  go_enter Tryd.func53, Tryd.ntmps53
  go_wp2
  rw [Lib.run_neq_ptr_same w _ tp hj]
  go_wp2
  go_end0
  exact ⟨rfl, rfl⟩
end

theorem VL_ptr1 {C : Claims} {w : World} {b : Nat} {vs : Array Value} (h : VL C w [.ptr b 0] vs.toList) : vs = #[.pointer (some ⟨b, 0, none⟩)] := by
  rw [VL] at h
  obtain ⟨v, vs', e, h1, h2⟩ := h
  rw [V] at h1
  rw [VL] at h2
  subst h1; subst h2
  apply Array.ext'
  simpa using e

theorem cc_fresh (b : Nat) : AFn Tryd.prog 53 [.ptr b 0] [(b, .raw 51 #[.pointer none, .slice none 0 0])] fun y s' => ∃ z : Unit, True ∧ y = .ret (.tuple []) ∧ s' = [(b, .box [.ptr b 0, .slice .full 1 []])] := by
  intro C w vs hs hA
  obtain rfl := VL_ptr1 hA
  obtain ⟨hb, hno⟩ := hs.at_ b _ (List.mem_singleton.2 rfl)
  obtain ⟨k1, k2, k3⟩ := setCell0 w b _ _ (.pointer (some ⟨b, 0, none⟩)) 51 hb
  refine (cc_fresh_run b w _ hb).mono ?_
  rintro e w' ⟨rfl, rfl⟩
  refine ⟨.ret (.tuple []), C, _, (by show V _ _ _ _; rw [V]; exact ⟨#[], rfl, by simp [VL]⟩), ⟨(), trivial, rfl, rfl⟩, ⟨fun b o h => by rw [k2]; exact hs.ok b o h, hs.tabs.keep (w := w) (ev_one (w := w) (w' := w.setCell ⟨b, 0, none⟩ (.pointer (some ⟨b, 0, none⟩))) (s := [(b, RS.box [])]) (b := b) ⟨_, List.mem_singleton.2 rfl⟩ rfl rfl rfl k2 k3 (fun o h => absurd h (hno o))).keep, by simp, ?_⟩, ev_one (b := b) ⟨_, List.mem_singleton.2 rfl⟩ rfl rfl rfl k2 k3 (fun o h => absurd h (hno o)), fun b' ⟨r, hm⟩ => .inl ?_⟩
  · intro b' r hm
    rw [List.mem_singleton] at hm
    injection hm with e1 e2
    subst e1; subst e2
    refine ⟨_, 51, k1, ?_, hno⟩
    rw [VL]; refine ⟨_, _, rfl, by rw [V], ?_⟩
    rw [VL]; refine ⟨_, _, rfl, ?_, by simp [VL]⟩
    rw [V]; exact ⟨none, 0, [], rfl, Nat.le_refl _, by simp, by rw [VL], by simp, rfl, by simp⟩
  · rw [List.mem_singleton] at hm
    injection hm with e1 e2
    subst e1
    exact ⟨_, List.mem_singleton.2 rfl⟩
theorem cc_used (b : Nat) (u : TV) : AFn Tryd.prog 53 [.ptr b 0] [(b, .box [.ptr b 0, u])] fun y s' => ∃ z : Unit, True ∧ y = .ret (.tuple []) ∧ s' = [(b, .box [.ptr b 0, u])] := by
  intro C w vs hs hA
  obtain rfl := VL_ptr1 hA
  obtain ⟨cur, t, hb, hV, hno⟩ := hs.at_ b _ (List.mem_singleton.2 rfl)
  rw [VL] at hV
  obtain ⟨v, vs', e1, h1, h2⟩ := hV
  rw [V] at h1
  subst h1
  have h0 : w.cell? ⟨b, 0, none⟩ = some (.pointer (some ⟨b, 0, none⟩)) := by
    have : cur.toList[0]? = some (.pointer (some ⟨b, 0, none⟩)) := by rw [e1]; rfl
    simp only [World.cell?, hb]
    simpa using this
  refine (cc_used_run b w h0).mono ?_
  rintro e w' ⟨rfl, rfl⟩
  exact ⟨.ret (.tuple []), C, _, (by show V _ _ _ _; rw [V]; exact ⟨#[], rfl, by simp [VL]⟩), ⟨(), trivial, rfl, rfl⟩, hs, Ev.refl _ _ _, fun b' h => .inl h⟩

theorem bu_enc : enterB Tryd.prog 53 = true := by kernel_rfl
theorem bu_fl : fldB Tryd.prog 49 1 1 false 1 = true := by kernel_rfl
theorem bu_ti : tiB Tryd.prog 47 false 1 = true := by kernel_rfl
theorem bu_ap : appB Tryd.prog 47 5 1 1 = true := by kernel_rfl
theorem bu_it : isStr Tryd.prog 9 = true := by kernel_rfl

theorem cc_any (b : Nat) (m : ByteArray) (r0 : Res) (h : WB 51 5 b m r0) : AFn Tryd.prog 53 [.ptr b 0] r0 fun y s' => ∃ z : Own × Res, Owned 5 1 z.1 (bys m).length z.2 ∧ y = .ret (.tuple []) ∧ s' = [(b, .box [.ptr b 0, .slice z.1 1 ((bys m).map (TV.int .u8))])] ++ z.2 := by
  rcases h with ⟨rfl, rfl⟩ | ⟨hm, ow, re, hnf, how, rfl⟩
  · exact (cc_fresh b).mono fun y s' ⟨_, _, h1, h2⟩ => ⟨(.full, []), .inl ⟨rfl, rfl⟩, h1, by rw [h2]; rfl⟩
  · exact (AFn.frame (fr := re) (cc_used b _)).mono fun y s' ⟨s1, h0, _, _, h1, h2⟩ => ⟨(ow, re), how, h1, by rw [h0, h2]⟩

set_option maxRecDepth 20000 in
set_option maxHeartbeats 1000000 in
theorem ws_fn (b : Nat) (m s : ByteArray) (hs0 : s.size ≠ 0) (hb : m.size + s.size ≤ 140737488355328) (r0 : Res) (h : WB 51 5 b m r0) :
    AFn Tryd.prog 35 [.ptr b 0, .str s] r0 fun y s' => ∃ z : Res, WB 51 5 b (m ++ s) z ∧ y = .ret (.tuple [.int .i64 s.size, .nili]) ∧ s' = z := by
  have hms : (m ++ s).size ≠ 0 := by rw [ByteArray.size_append]; omega
  refine AFn.shedX ?_
  refine AFn.of Tryd.func35 rfl (Nat.le_of_ble_eq_true rfl) ?_
  refine ac_seq ?_
  refine ac_region rfl ?_
  refine rq (u := .int .i64 0) rfl rfl rfl (p_assign rfl) rfl ?_
  refine rq (u := .nili) rfl rfl rfl (p_assign rfl) rfl ?_
  refine .done rfl ?_
  refine ac_seq ?_
  refine ac_region rfl ?_
  refine rq (u := .ptr b 0) rfl rfl rfl (p_move rfl) rfl ?_
  refine ra rfl rfl (a_callX bu_enc (cc_any b m r0 h) rfl rfl (TVles.refl _) id [] (by rw [List.append_nil]) (fun _ => by rw [List.append_nil]; exact List.Perm.refl _)) ?_
  rintro E' s' ⟨⟨ow, re⟩, how, rfl, hs'⟩
  rw [hs']
  show AReg _ _ _ _ _ _ _ ([(b, .box [.ptr b 0, .slice ow 1 ((bys m).map (TV.int .u8))])] ++ re)
  refine .done rfl ?_
  refine ac_seq ?_
  refine ac_region rfl ?_
  refine rq (u := .ptr b 0) rfl rfl rfl (p_move rfl) rfl ?_
  refine rq (u := .ptr b 0) rfl rfl rfl (p_move rfl) rfl ?_
  refine rq (u := .ptr b 0) rfl rfl rfl (p_nilCheck_ptr rfl rfl) rfl ?_
  refine rq (u := .ptr b 1) rfl rfl rfl (p_field_ptr bu_fl rfl rfl) rfl ?_
  refine rq (u := .slice ow 1 ((bys m).map (TV.int .u8))) rfl rfl rfl (p_load_ptr bu_ti (fun _ => rfl) rfl rfl (.head _) (Nat.le_of_ble_eq_true rfl)) rfl ?_
  refine rq (u := .str s) rfl rfl rfl (p_move rfl) rfl ?_
  refine ra rfl rfl (a_appS (pre := [(b, .box [.ptr b 0, .slice ow 1 ((bys m).map (TV.int .u8))])]) (r := re) (post := []) bu_ap bu_it rfl rfl rfl how (by rw [bys_length]; exact hb) (fun re => [(b, .box [.ptr b 0, .slice ow 1 ((bys m).map (TV.int .u8))])] ++ re) (fun _ => by simp) rfl) ?_
  rintro E' s' ⟨ow', re', ⟨how', hnf'⟩, rfl, hs'⟩
  rw [hs']
  show AReg _ _ _ _ _ _ ((14, .slice ow' 1 ((bys m ++ bys s).map (TV.int .u8))) :: _) ([(b, .box [.ptr b 0, .slice ow 1 ((bys m).map (TV.int .u8))])] ++ re')
  refine rq (u := .ptr b 0) rfl rfl rfl (p_nilCheck_ptr rfl rfl) rfl ?_
  refine rq (u := .ptr b 1) rfl rfl rfl (p_field_ptr bu_fl rfl rfl) rfl ?_
  refine rstore (j := 0) (us := [.slice ow' 1 ((bys m ++ bys s).map (TV.int .u8))]) bu_ti rfl rfl rfl rfl rfl rfl rfl rfl nofun rfl rfl (Nat.le_of_ble_eq_true rfl) ?_
  refine .done rfl ?_
  refine ac_seq ?_
  refine ac_region rfl ?_
  refine rq (u := .str s) rfl rfl rfl (p_move rfl) rfl ?_
  refine rq (u := .int .i64 s.size) rfl rfl rfl (p_slen bu_it rfl rfl) rfl ?_
  refine rq (u := .int .i64 s.size) rfl rfl rfl (p_assign rfl) rfl ?_
  refine rq (u := .nili) rfl rfl rfl (p_assign rfl) rfl ?_
  refine .done rfl ?_
  refine ac_ret ?_
  show Fin _ _ _ _ _ _ _
  exact fin_ret2 (Nat.le_of_ble_eq_true rfl) (Nat.le_of_ble_eq_true rfl) rfl rfl ⟨(b, .box [.ptr b 0, .slice ow' 1 ((bys m ++ bys s).map (TV.int .u8))]) :: re', .inr ⟨hms, ow', re', hnf' hs0, by rw [bys_append]; exact how', by rw [bys_append]⟩, rfl, ResLe.refl _⟩

theorem ws_call (b : Nat) (m s v : ByteArray) (hv : wstr m s = some v) (r0 : Res) (h : WB 51 5 b m r0) :
    AFn Tryd.prog 35 [.ptr b 0, .str s] r0 fun y s' => ∃ z : Res, WB 51 5 b v z ∧ y = .ret (.tuple [.int .i64 s.size, .nili]) ∧ s' = z := by
  unfold wstr at hv
  split at hv
  · rename_i hc
    injection hv with hv
    subst hv
    exact ws_fn b m s hc.1 hc.2 r0 h
  · cases hv

/-! ### String -/
section
open Go.Proofs.Tryd
set_option maxHeartbeats 1000000 in
set_option maxRecDepth 100000 in
theorem st_fresh_run (b : Nat) (w : World) (p : Value) (hbk : w.heap[b]? = some (.cells #[p, .slice none 0 0] 51 (0, 0))) :
    Calls Tryd.prog 19 #[.pointer (some ⟨b, 0, none⟩)] w fun e w' => e = .returned (.string ByteArray.empty) ∧ w' = w.drew := by
  have mixed : Tryd.prog.follows .mixedOrders = true := rfl
  have hUS := fun (W : World) (q : Option Addr) => Lib.run_unsafeString_none (P := Tryd.prog) W 70 3 9 q
  have c1 : w.drew.cell? ⟨b, 1, none⟩ = some (.slice none 0 0) := by
    have : w.drew.heap[b]? = some (.cells #[p, .slice none 0 0] 51 (0, 0)) := hbk
    simp [World.cell?, this]
  have hSD : (Builtin.unsafeSliceData_ #[47] 70 #[.slice none 0 0]).run Tryd.prog w.drew = .ok (.pointer none) w.drew := rfl
  go_enter Tryd.func19, Tryd.ntmps19
  go_wp2
  go_region_o
  all_goals (go_wp2; go_ret; exact ⟨rfl, rfl⟩)
set_option maxHeartbeats 1000000 in
set_option maxRecDepth 100000 in
theorem st_used_run (b g cap : Nat) (l : List UInt8) (w : World) (p : Value) (t : TypeId) (cur bc : Array Value) (hbk : w.cell? ⟨b, 1, none⟩ = some (.slice (some ⟨g, 0, none⟩) l.length cap)) (hg : w.heap[g]? = some (.cells cur 5 (0, 0))) (h0 : l ≠ []) (hn : l.length ≤ cur.size) (hcap : l.length ≤ cap) (h63 : l.length ≤ 9223372036854775807)
    (hcell : ∀ j x, l[j]? = some x → w.cell? ((⟨g, 0, none⟩ : Addr).add j) = some (.int .u8 x.toNat)) :
    Calls Tryd.prog 19 #[.pointer (some ⟨b, 0, none⟩)] w fun e w' => e = .returned (.string ⟨l.toArray⟩) ∧ w' = w.drew.freeze ⟨g, 0, none⟩ l.length := by
  have mixed : Tryd.prog.follows .mixedOrders = true := rfl
  have hl0 : l.length ≠ 0 := by simpa using h0
  have c1 : w.drew.cell? ⟨b, 1, none⟩ = some (.slice (some ⟨g, 0, none⟩) l.length cap) := hbk
  have hSD : (Builtin.unsafeSliceData_ #[47] 70 #[.slice (some ⟨g, 0, none⟩) l.length cap]).run Tryd.prog w.drew = .ok (.pointer (some ⟨g, 0, none⟩)) w.drew :=
    Lib.run_unsafeSliceData_row _ _ _ _ _ _ (by omega)
  have hUS : (Builtin.unsafeString_ #[70, 3] 9 #[.pointer (some ⟨g, 0, none⟩), .int .i64 l.length]).run Tryd.prog w.drew = .ok (.string ⟨l.toArray⟩) (w.drew.freeze ⟨g, 0, none⟩ l.length) :=
    Lib.run_unsafeString_row w.drew 70 3 9 5 rfl rfl g cur.size (by have hg' : w.drew.heap[g]? = some (.cells cur 5 (0, 0)) := hg; simp [World.shape?, hg']) l h0 hn h63 hcell
  go_enter Tryd.func19, Tryd.ntmps19
  go_wp2
  go_region_o
  all_goals (go_wp2; go_ret; exact ⟨rfl, rfl⟩)
end

theorem bys_toList (m : ByteArray) : ∀ (j : Nat) (x : UInt8), m.data.toList[j]? = some x → ((bys m).map (Value.int .u8))[j]? = some (Value.int .u8 (x.toNat : Int)) := fun j x hx => by
  rw [bys, List.map_map, List.getElem?_map, hx]; rfl
theorem freeze_heap (w : World) (g n : Nat) (b' : Nat) (h : b' ≠ g) : (w.freeze ⟨g, 0, none⟩ n).heap[b']? = w.heap[b']? := by
  unfold World.freeze
  split
  · rfl
  · simp [Array.getElem?_modify, Ne.symm h]
theorem freeze_size (w : World) (g n : Nat) : (w.freeze ⟨g, 0, none⟩ n).heap.size = w.heap.size := by
  unfold World.freeze
  split
  · rfl
  · simp
theorem freeze_cell (w : World) (g n o : Nat) (cur : Array Value) (t : TypeId) (fz : Nat × Nat) (hg : w.heap[g]? = some (.cells cur t fz)) : (w.freeze ⟨g, 0, none⟩ n).cell? ⟨g, o, none⟩ = w.cell? ⟨g, o, none⟩ := by
  unfold World.freeze
  split
  · rfl
  · simp [World.cell?, Array.getElem?_modify, hg]
theorem freeze_os (w : World) (g n : Nat) : (w.freeze ⟨g, 0, none⟩ n).os = w.os ∧ (w.freeze ⟨g, 0, none⟩ n).tape = w.tape ∧ (w.freeze ⟨g, 0, none⟩ n).output = w.output := by
  unfold World.freeze
  split <;> exact ⟨rfl, rfl, rfl⟩

theorem st_call (b : Nat) (m : ByteArray) (r0 : Res) (h : WB 51 5 b m r0) :
    AFn Tryd.prog 19 [.ptr b 0] r0 fun y s' => ∃ z : Unit, True ∧ y = .ret (.str m) ∧ s' = [] := by
  intro C w vs hs hA
  obtain rfl := VL_ptr1 hA
  rcases h with ⟨rfl, rfl⟩ | ⟨hm, ow, re, hnf, how, rfl⟩
  · obtain ⟨hb, hno⟩ := hs.at_ b _ (List.mem_singleton.2 rfl)
    refine (st_fresh_run b w _ hb).mono ?_
    rintro e w' ⟨rfl, rfl⟩
    exact ⟨.ret (.str .empty), C, [], (by show V _ _ _ _; rw [V]; exact ⟨rfl, by decide⟩), ⟨(), trivial, rfl, rfl⟩, ⟨fun b o h => hs.ok b o h, hs.tabs.keep (fun _ _ h => ⟨h, rfl⟩), by simp, fun b r hm => by simp at hm⟩, ⟨rfl, rfl, rfl, Nat.le_refl _, fun _ _ _ => rfl, fun _ _ _ _ h => h, fun b o h => ⟨h, rfl⟩⟩, fun b' ⟨r, hm⟩ => by simp at hm⟩
  · obtain ⟨bc, t, hb, hV, hno⟩ := hs.at_ b _ (List.mem_cons_self ..)
    rw [VL] at hV
    obtain ⟨v, vs', e1, h1, h2⟩ := hV
    rw [VL] at h2
    obtain ⟨v2, vs2, e2, h3, h4⟩ := h2
    rw [V] at h3
    obtain ⟨A, c, us, rfl, hc, hbig, hVu, hsz, hok, hmem⟩ := h3
    obtain ⟨eu, ef⟩ := VL_ints hVu
    have hlu : us.length = m.size := by rw [eu, List.length_map, bys_length]
    rcases how with ⟨rfl, rfl⟩ | ⟨g, cap, rfl, rfl⟩
    · exact absurd rfl hnf
    · obtain ⟨rfl, rfl⟩ := hok
      obtain ⟨cur, hg, hle, hcs, hcl⟩ := hs.at_ g _ (List.mem_cons_of_mem _ (List.mem_singleton.2 rfl))
      obtain ⟨a, ha, hM⟩ := hmem (by omega)
      injection ha with ha
      subst ha
      have hlm : m.data.toList.length = us.length := by rw [hlu, Array.length_toList]; rfl
      have h0 : w.cell? ⟨b, 1, none⟩ = some (.slice (some ⟨g, 0, none⟩) m.data.toList.length c) := by
        have : bc.toList[1]? = some (.slice (some ⟨g, 0, none⟩) us.length c) := by rw [e1, e2]; rfl
        simp only [World.cell?, hb, hlm]
        simpa using this
      refine (st_used_run b g c m.data.toList w undef t cur bc h0 hg (fun h => hm (by have := hlm; rw [h] at this; simp at this; omega)) (by rw [bys_length] at hle; omega) (by omega) (by omega) (fun j x hx => ?_)).mono ?_
      · rw [ef, eu] at hM
        exact (hM j _ (bys_toList m j x hx)).1
      rintro e w' ⟨rfl, rfl⟩
      have hgd : dom ((b, RS.box [.ptr b 0, .slice (.row g c) 1 ((bys m).map (TV.int .u8))]) :: [(g, RS.row 5 1 (bys m).length c)]) g := ⟨_, List.mem_cons_of_mem _ (List.mem_singleton.2 rfl)⟩
      obtain ⟨o1, o2, o3⟩ := freeze_os w.drew g m.data.toList.length
      refine ⟨.ret (.str m), C, [], (by show V _ _ _ _; rw [V]; exact ⟨by obtain ⟨d⟩ := m; simp, by omega⟩), ⟨(), trivial, rfl, rfl⟩, ⟨fun b o h => by rw [freeze_size]; exact hs.ok b o h, hs.tabs.keep (w := w) (ev_one (w := w) (w' := w.drew.freeze ⟨g, 0, none⟩ m.data.toList.length) (b := g) hgd o1 o2 o3 (freeze_size _ _ _) (fun b' hb' => freeze_heap _ _ _ b' hb') (fun o _ => freeze_cell w.drew g _ o cur 5 _ hg)).keep, by simp, fun b r hm => by simp at hm⟩, ev_one (b := g) hgd o1 o2 o3 (freeze_size _ _ _) (fun b' hb' => freeze_heap _ _ _ b' hb') (fun o _ => freeze_cell w.drew g _ o cur 5 _ hg), fun b' ⟨r, hm⟩ => by simp at hm⟩
end Go.Proofs.YtdkiijhmmmfciaaDoor
