/- Fail, Arm, Synced, and Append to what is no name, by their contracts. -/
import Derived.Test.YtjbhdidjkdlceaaDoorRenames
namespace Go.Proofs.YtjbhdidjkdlceaaDoor
open Go.RowKit Go.Maps
set_option linter.unusedVariables false

theorem fail_bad (D : Nat) (n : Int) (hn : n < 1) (w : World) :
    Calls Tryd.prog 24 #[.pointer (some ⟨D, 0, none⟩), .int .i64 n] w fun e w' => e = .returned (.int .i64 3) ∧ w' = w := by
  have hd : decide (n < 1) = true := by simpa using hn
  go_enter Tryd.func24, Tryd.ntmps24
  go_wp2
  go_ret
  simp

set_option maxHeartbeats 400000 in
theorem fail_any (D M : Nat) (fs : List PF) (room used ops arm keep fail : Int) (n : Int) (hn : 1 ≤ n) (w : World) (h : Disk w D M fs room used ops arm keep fail) :
    Calls Tryd.prog 24 #[.pointer (some ⟨D, 0, none⟩), .int .i64 n] w fun e w' => e = .returned (.int .i64 0) ∧ Turned D M fs room used ops arm keep n w w' := by
  obtain ⟨c0, c1, c2, c3, c4, c5, c6, hf⟩ := dcell h.cells
  have f6 := hf 6
  have hd : decide (n < 1) = false := by simpa using hn
  have H := Lib.hid h
  clear h hf c0 c1 c2 c3 c4 c5
  go_enter Tryd.func24, Tryd.ntmps24
  go_wp2
  go_ret
  have M1 := mod_cell D 6 w (.int .i64 n)
  exact ⟨by simp, M1, H.out.turn M1 (row_setCell H.out.cells 6 _)⟩

theorem arm_bad (D : Nat) (n k : Int) (hn : n < 1) (w : World) :
    Calls Tryd.prog 25 #[.pointer (some ⟨D, 0, none⟩), .int .i64 n, .int .i64 k] w fun e w' => e = .returned (.int .i64 3) ∧ w' = w := by
  have hd : decide (n < 1) = true := by simpa using hn
  go_enter Tryd.func25, Tryd.ntmps25
  go_wp2
  go_ret
  simp

set_option maxHeartbeats 400000 in
theorem arm_any (D M : Nat) (fs : List PF) (room used ops arm keep fail : Int) (h0 : 0 ≤ ops ∧ ops ≤ 1000000) (n k : Int) (hn : 1 ≤ n) (w : World) (h : Disk w D M fs room used ops arm keep fail) :
    Calls Tryd.prog 25 #[.pointer (some ⟨D, 0, none⟩), .int .i64 n, .int .i64 k] w fun e w' => e = .returned (.int .i64 0) ∧ Turned D M fs room used ops (ops + min n 1099511627776) k fail w w' := by
  obtain ⟨c0, c1, c2, c3, c4, c5, c6, hf⟩ := dcell h.cells
  have f4 := hf 4
  have f5 := hf 5
  have hd : decide (n < 1) = false := by simpa using hn
  have s1 : IntKind.i64.wrap (ops + min n 1099511627776) = ops + min n 1099511627776 := IntWalk.i64_in _ (by omega)
  have H := Lib.hid h
  clear h hf c0 c1 c2 c6
  go_enter Tryd.func25, Tryd.ntmps25
  go_wp2
  go_ret
  have M1 := mod_cell D 4 w (.int .i64 (ops + min n 1099511627776))
  have M2 := M1.trans (mod_cell D 5 _ (.int .i64 k))
  exact ⟨by simp, M2, H.out.turn M2 (row_setCell (row_setCell H.out.cells 4 _) 5 _)⟩

theorem look1_found {w : World} {M n : Nat} {fs : List PF} (hm : w.ownsMap Tryd.prog 9 ptrR M n (dataOf fs)) {s : ByteArray} (hs : s.size ≤ 9223372036854775807) {f : PF} (hf : findF fs s.data.toList = some f) :
    (Instr.lookup 64 (.map (some M)) (.string s) false).run Tryd.prog w = .ok (.pointer (some ⟨f.blk, 0, none⟩)) w := by
  obtain ⟨v, ps, hrun, hv⟩ := hm.lookup keyed9 Tryd.underlying64 (zero80 w) ptrR_nil (key_of hs)
  rw [atKey_dataOf, hf] at hv
  obtain rfl := ptrR_inv hv
  exact hrun
theorem look1_none {w : World} {M n : Nat} {fs : List PF} (hm : w.ownsMap Tryd.prog 9 ptrR M n (dataOf fs)) {s : ByteArray} (hs : s.size ≤ 9223372036854775807) (hf : findF fs s.data.toList = none) :
    (Instr.lookup 64 (.map (some M)) (.string s) false).run Tryd.prog w = .ok (.pointer none) w := by
  obtain ⟨v, ps, hrun, hv⟩ := hm.lookup keyed9 Tryd.underlying64 (zero80 w) ptrR_nil (key_of hs)
  rw [atKey_dataOf, hf] at hv
  obtain rfl := ptrR_inv_nil hv
  exact hrun

def safeOf (fs : List PF) (nm : List UInt8) : Nat := ((findF fs nm).map (·.safe)).getD 0

set_option maxHeartbeats 400000 in
theorem synced_any (D M : Nat) (fs : List PF) (room used ops arm keep fail : Int) (s : ByteArray) (hs : s.size ≤ 9223372036854775807) (w : World) (h : Disk w D M fs room used ops arm keep fail) :
    Calls Tryd.prog 27 #[.pointer (some ⟨D, 0, none⟩), .string s] w fun e w' => e = .returned (.int .i64 (safeOf fs s.data.toList)) ∧ w' = w := by
  obtain ⟨c0, c1, c2, c3, c4, c5, c6, hfz⟩ := dcell h.cells
  cases hf : findF fs s.data.toList with
  | none =>
    have l1 := look1_none h.map hs hf
    have HE := Lib.hid (show safeOf fs s.data.toList = 0 by unfold safeOf; rw [hf]; rfl)
    clear h hfz c1 c2 c3 c4 c5 c6 hf
    rw [HE.out]
    go_enter Tryd.func27, Tryd.ntmps27
    go_wp2
    go_ret
    simp
  | some f =>
    have l1 := look1_found h.map hs hf
    have HE := Lib.hid (show safeOf fs s.data.toList = f.safe by unfold safeOf; rw [hf]; rfl)
    have hfm : f ∈ fs := List.mem_of_find?_eq_some hf
    have hFA := h.files f hfm
    have k1 : w.cell? ⟨f.blk, 1, none⟩ = some (.int .i64 f.safe) := by rw [cell_of_row _ _ _ _ _ _ hFA.cells]; rfl
    clear h hfz c1 c2 c3 c4 c5 c6 hf hFA
    rw [HE.out]
    go_enter Tryd.func27, Tryd.ntmps27
    go_wp2
    go_ret
    simp

theorem append_bad (D : Nat) (s : ByteArray) (hs : s.size ≤ 9223372036854775807) (hnm : isName s.data.toList = false) (v : Value) (w : World) :
    Calls Tryd.prog 17 #[.pointer (some ⟨D, 0, none⟩), .string s, v] w fun e w' => e = .returned (.tuple #[.int .i64 0, .int .i64 16]) ∧ Below w.heap.size w w' := by
  have HN := Lib.hid (named_any s hs w)
  rw [hnm] at HN
  go_enter Tryd.func17, Tryd.ntmps17
  go_wp2_with fail
  refine HN.out.mono ?_
  rintro e w1 ⟨rfl, hb1⟩
  have HB1 := Lib.hid hb1
  clear hb1
  go_wp2
  go_ret2
  exact ⟨by simp, HB1.out⟩

end Go.Proofs.YtjbhdidjkdlceaaDoor
