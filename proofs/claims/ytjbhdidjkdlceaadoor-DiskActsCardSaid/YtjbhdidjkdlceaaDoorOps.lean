/- New, begin, SetRoom, Fail, Arm, Used, Room, Ops by their contracts. -/
import Derived.Test.YtjbhdidjkdlceaaDoorMem
namespace Go.Proofs.YtjbhdidjkdlceaaDoor
open Go.RowKit Go.Maps
set_option linter.unusedVariables false

theorem Disk.turn {w w' : World} {D M : Nat} {fs : List PF} {room used ops arm keep fail room' used' ops' arm' keep' fail' : Int} (h : Disk w D M fs room used ops arm keep fail) (m : Mod (fun t => t = D) w w')
    (hc : w'.heap[D]? = some (.cells (dcells M room' used' ops' arm' keep' fail') 66 (0, 0))) : Disk w' D M fs room' used' ops' arm' keep' fail' := by
  obtain ⟨n1, n2, _⟩ := h.ne
  refine ⟨hc, ?_, fun f hf => ?_, h.apart⟩
  · obtain ⟨es, clock, h1, h2, h3, h4⟩ := h.map
    exact ⟨es, clock, m.keep h1 (fun e => n1 e.symm), h2, h3, h4⟩
  · have hF := h.files f hf
    obtain ⟨a1, a2, a3, a4⟩ := n2 f hf
    exact ⟨m.keep hF.cells a1, m.row hF.row (fun k hk e => a3 (e ▸ hk)), hF.safe⟩

theorem mod_cell (D i : Nat) (w : World) (v : Value) : Mod (fun t => t = D) w (w.setCell ⟨D, i, none⟩ v) := Mod.setCell (S := fun t => t = D) (a := ⟨D, i, none⟩) rfl v

/-- No disk but in its own fields has turned. -/
structure Turned (D M : Nat) (fs : List PF) (room used ops arm keep fail : Int) (w w' : World) : Prop where
  mod : Mod (fun t => t = D) w w'
  disk : Disk w' D M fs room used ops arm keep fail

set_option maxHeartbeats 400000 in
theorem begin_any (D M : Nat) (fs : List PF) (room used ops arm keep fail : Int) (h0 : 0 ≤ ops ∧ ops ≤ 1000000) (w : World) (h : Disk w D M fs room used ops arm keep fail) :
    Calls Tryd.prog 41 #[.pointer (some ⟨D, 0, none⟩)] w fun e w' => e = .returned (.bool (ops + 1 == arm)) ∧ Turned D M fs room used (ops + 1) arm keep fail w w' := by
  obtain ⟨c0, c1, c2, c3, c4, c5, c6, hf⟩ := dcell h.cells
  have f3 := hf 3
  have H := Lib.hid h
  obtain ⟨o1, o2⟩ := h0
  clear h hf c0 c1 c2 c5 c6
  go_enter Tryd.func41, Tryd.ntmps41
  go_upto_region 2 with (fail)
  go_quiet (fail)
  go_wp2
  go_ret
  have M1 := mod_cell D 3 w (.int .i64 (ops + 1))
  refine ⟨by simp, M1.drewN _, H.out.turn (M1.drewN _) ?_⟩
  exact row_setCell H.out.cells 3 _

set_option maxHeartbeats 400000 in
theorem setRoom_bad (D M : Nat) (n : Int) (hn : n < 0 ∨ 1073741824 < n) (w : World) :
    Calls Tryd.prog 23 #[.pointer (some ⟨D, 0, none⟩), .int .i64 n] w fun e w' => e = .returned (.int .i64 3) ∧ w' = w := by
  have hd : (decide (n < 0) || decide (1073741824 < n)) = true := by simpa using hn
  go_enter Tryd.func23, Tryd.ntmps23
  go_wp2
  all_goals go_ret
  all_goals simp

set_option maxHeartbeats 400000 in
theorem setRoom_any (D M : Nat) (fs : List PF) (room used ops arm keep fail : Int) (n : Int) (h1 : 0 ≤ n) (h2 : n ≤ 1073741824) (w : World) (h : Disk w D M fs room used ops arm keep fail) :
    Calls Tryd.prog 23 #[.pointer (some ⟨D, 0, none⟩), .int .i64 n] w fun e w' => e = .returned (.int .i64 0) ∧ Turned D M fs n used ops arm keep fail w w' := by
  obtain ⟨c0, c1, c2, c3, c4, c5, c6, hf⟩ := dcell h.cells
  have f1 := hf 1
  have H := Lib.hid h
  clear h hf c0 c2 c3 c4 c5 c6
  go_enter Tryd.func23, Tryd.ntmps23
  go_wp2
  go_ret
  have M1 := mod_cell D 1 w (.int .i64 n)
  exact ⟨by simp, M1, H.out.turn M1 (row_setCell H.out.cells 1 _)⟩

theorem used_any (D M : Nat) (fs : List PF) (room used ops arm keep fail : Int) (w : World) (h : Disk w D M fs room used ops arm keep fail) :
    Calls Tryd.prog 29 #[.pointer (some ⟨D, 0, none⟩)] w fun e w' => e = .returned (.int .i64 used) ∧ w' = w := by
  obtain ⟨c0, c1, c2, c3, c4, c5, c6, hf⟩ := dcell h.cells
  clear h hf c0 c1 c3 c4 c5 c6
  go_enter Tryd.func29, Tryd.ntmps29
  go_wp2
  go_ret
  simp
theorem room_any (D M : Nat) (fs : List PF) (room used ops arm keep fail : Int) (w : World) (h : Disk w D M fs room used ops arm keep fail) :
    Calls Tryd.prog 30 #[.pointer (some ⟨D, 0, none⟩)] w fun e w' => e = .returned (.int .i64 room) ∧ w' = w := by
  obtain ⟨c0, c1, c2, c3, c4, c5, c6, hf⟩ := dcell h.cells
  clear h hf c0 c2 c3 c4 c5 c6
  go_enter Tryd.func30, Tryd.ntmps30
  go_wp2
  go_ret
  simp
theorem ops_any (D M : Nat) (fs : List PF) (room used ops arm keep fail : Int) (w : World) (h : Disk w D M fs room used ops arm keep fail) :
    Calls Tryd.prog 31 #[.pointer (some ⟨D, 0, none⟩)] w fun e w' => e = .returned (.int .i64 ops) ∧ w' = w := by
  obtain ⟨c0, c1, c2, c3, c4, c5, c6, hf⟩ := dcell h.cells
  clear h hf c0 c1 c2 c4 c5 c6
  go_enter Tryd.func31, Tryd.ntmps31
  go_wp2
  go_ret
  simp

theorem disk_made (w : World) : Disk ((w.alloc (.map #[] 0)).alloc (.cells #[.map (some w.heap.size), .int .i64 0, .int .i64 0, .int .i64 0, .int .i64 0, .int .i64 0, .int .i64 0] 66)) (w.heap.size + 1) w.heap.size [] 0 0 0 0 0 0 := by
  refine ⟨?_, (World.ownsMap_made w _ _ _).alloc _, fun f hf => by simp at hf, List.Pairwise.nil⟩
  have := heap_alloc_new (w.alloc (.map #[] 0)) (.cells #[.map (some w.heap.size), .int .i64 0, .int .i64 0, .int .i64 0, .int .i64 0, .int .i64 0, .int .i64 0] 66)
  simpa [dcells] using this

set_option maxHeartbeats 400000 in
theorem new_any (n : Int) (h1 : 0 ≤ n) (h2 : n ≤ 1073741824) (w : World) : Calls Tryd.prog 12 #[.int .i64 n] w fun e w' => e = .returned (.tuple #[.pointer (some ⟨w.heap.size + 1, 0, none⟩), .int .i64 0]) ∧ Below w.heap.size w w' ∧
    Disk w' (w.heap.size + 1) w.heap.size [] n 0 0 0 0 0 := by
  have hmm := @run_makeMap Tryd.prog
  have hd := disk_made w
  have HS := Lib.hid (setRoom_any (w.heap.size + 1) w.heap.size [] 0 0 0 0 0 0 n h1 h2 _ hd)
  clear hd
  go_enter Tryd.func12, Tryd.ntmps12
  go_wp2_with fail
  refine HS.out.mono ?_
  rintro e w' ⟨rfl, ht⟩
  have HT := Lib.hid ht
  clear ht
  go_wp2
  go_ret2
  refine ⟨by simp, ?_, HT.out.disk⟩
  refine (((Below.refl _ w).alloc (Nat.le_refl _) _).alloc (by simp) _).trans (HT.out.mod.below (fun k hk => by omega) (by simp; omega))

set_option maxHeartbeats 400000 in
theorem new_bad (n : Int) (hn : n < 0 ∨ 1073741824 < n) (w : World) : Calls Tryd.prog 12 #[.int .i64 n] w fun e w' => e = .returned (.tuple #[.pointer none, .int .i64 3]) ∧ Below w.heap.size w w' := by
  have hmm := @run_makeMap Tryd.prog
  go_enter Tryd.func12, Tryd.ntmps12
  go_wp2_with fail
  refine (setRoom_bad (w.heap.size + 1) w.heap.size n hn _).mono ?_
  rintro e w' ⟨rfl, rfl⟩
  go_wp2
  go_ret2
  exact ⟨by simp, ((Below.refl _ w).alloc (Nat.le_refl _) _).alloc (by simp) _⟩

end Go.Proofs.YtjbhdidjkdlceaaDoor
