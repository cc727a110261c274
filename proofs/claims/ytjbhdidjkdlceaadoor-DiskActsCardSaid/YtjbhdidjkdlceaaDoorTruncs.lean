/- Truncate's ways, by their contracts. -/
import Derived.Test.YtjbhdidjkdlceaaDoorTrunc
namespace Go.Proofs.YtjbhdidjkdlceaaDoor
open Go.RowKit Go.Maps
set_option linter.unusedVariables false

/-- The world behind Truncate's two boxes. -/
def boxed (D : Nat) (n : Int) (w : World) : World := (w.alloc (.cells #[.pointer (some ⟨D, 0, none⟩)] 25)).alloc (.cells #[.int .i64 n] 3)
theorem boxed_below (D : Nat) (n : Int) (w : World) : Below w.heap.size w (boxed D n w) := ((Below.refl _ w).alloc (Nat.le_refl _) _).alloc (by simp) _
theorem boxed_first (D : Nat) (n : Int) (w : World) : (boxed D n w).heap[w.heap.size]? = some (.cells #[.pointer (some ⟨D, 0, none⟩)] 25 (0, 0)) :=
  (Below.heap_alloc _ _ _ (by simp)).trans (heap_alloc_new _ _)
theorem boxed_second (D : Nat) (n : Int) (w : World) : (boxed D n w).heap[w.heap.size + 1]? = some (.cells #[.int .i64 n] 3 (0, 0)) := by
  have := heap_alloc_new (w.alloc (.cells #[.pointer (some ⟨D, 0, none⟩)] 25)) (.cells #[.int .i64 n] 3)
  rw [show (w.alloc (.cells #[.pointer (some ⟨D, 0, none⟩)] 25)).heap.size = w.heap.size + 1 by simp] at this
  exact this
theorem boxed_size (D : Nat) (n : Int) (w : World) : (boxed D n w).heap.size = w.heap.size + 2 := by simp [boxed]

set_option maxHeartbeats 1000000 in
theorem truncate_none (D M : Nat) (fs : List PF) (room used ops arm keep fail : Int) (s : ByteArray) (hs : s.size ≤ 9223372036854775807) (n : Int) (hf : findF fs s.data.toList = none) (w : World) (h : Disk w D M fs room used ops arm keep fail) :
    Calls Tryd.prog 19 #[.pointer (some ⟨D, 0, none⟩), .string s, .int .i64 n] w fun e w' => e = .returned (.int .i64 6) ∧ Below w.heap.size w w' := by
  have hd := h.below (boxed_below D n w)
  obtain ⟨c0, c1, c2, c3, c4, c5, c6, hfz⟩ := dcell hd.cells
  have b1 := cell_of_one (boxed_first D n w)
  have b2 := cell_of_one (boxed_second D n w)
  have H := Lib.hid hd
  have HF := Lib.hid hf
  have HB := Lib.hid (boxed_below D n w)
  have hsz := boxed_size D n w
  clear h hf hd hfz c1 c2 c3 c4 c5 c6
  obtain ⟨w1, hw1⟩ : ∃ w1, w1 = boxed D n w := ⟨_, rfl⟩
  have HW1 := Lib.hid hw1
  rw [← hw1] at c0 b1 b2 H HB hsz
  clear hw1
  go_enter Tryd.func19, Tryd.ntmps19
  go_upto_region 1 with (fail)
  change Code.wp _ _ _ _ (boxed D n w)
  rw [← HW1.out]
  go_wp2_with (at_lookup; refine wpList_lookup_own_ok _ rfl _ _ 64 rfl 9 80 keyed9 Tryd.underlying64 ptrR (zero80 _) .nil [] ptrR_nil M fs.length (dataOf fs) rfl H.out.map _ (.string s.data.toList) rfl (key_of hs) ?_)
  intro v ps hv
  rw [atKey_dataOf, HF.out] at hv
  obtain rfl := ptrR_inv_nil hv
  rw [has_dataOf, HF.out]
  clear hv
  go_wp2
  go_ret
  exact ⟨by simp, HB.out.trans ((Below.refl _ w1).alloc (by omega) _)⟩

set_option maxHeartbeats 1000000 in
theorem truncate_range (D M : Nat) (fs : List PF) (room used ops arm keep fail : Int) (s : ByteArray) (hs : s.size ≤ 9223372036854775807) (n : Int) (f : PF) (hf : findF fs s.data.toList = some f) (hn : n < 0 ∨ f.b.length < n) (w : World) (h : Disk w D M fs room used ops arm keep fail) :
    Calls Tryd.prog 19 #[.pointer (some ⟨D, 0, none⟩), .string s, .int .i64 n] w fun e w' => e = .returned (.int .i64 3) ∧ Below w.heap.size w w' := by
  have hd := h.below (boxed_below D n w)
  have hfm : f ∈ fs := List.mem_of_find?_eq_some hf
  have hFA := hd.files f hfm
  obtain ⟨fa, fc, hbv⟩ := slice_form hFA.row
  have hlt := lt_of_block hFA.cells
  have k0 : ((boxed D n w).alloc (.cells #[.pointer (some ⟨f.blk, 0, none⟩)] 80)).cell? ⟨f.blk, 0, none⟩ = some f.bv := by rw [cell_of_row _ _ _ _ _ _ ((Below.heap_alloc _ _ _ hlt).trans hFA.cells)]; rfl
  rw [hbv] at k0
  obtain ⟨c0, c1, c2, c3, c4, c5, c6, hfz⟩ := dcell hd.cells
  have b1 := cell_of_one (boxed_first D n w)
  have b2 := cell_of_one (boxed_second D n w)
  have H := Lib.hid hd
  have HF := Lib.hid hf
  have HB := Lib.hid (boxed_below D n w)
  have hsz := boxed_size D n w
  clear h hf hd hfz c1 c2 c3 c4 c5 c6 hFA hbv hlt
  obtain ⟨w1, hw1⟩ : ∃ w1, w1 = boxed D n w := ⟨_, rfl⟩
  have HW1 := Lib.hid hw1
  rw [← hw1] at c0 b1 b2 H HB hsz k0
  clear hw1
  go_enter Tryd.func19, Tryd.ntmps19
  go_upto_region 1 with (fail)
  change Code.wp _ _ _ _ (boxed D n w)
  rw [← HW1.out]
  go_wp2_with (at_lookup; refine wpList_lookup_own_ok _ rfl _ _ 64 rfl 9 80 keyed9 Tryd.underlying64 ptrR (zero80 _) .nil [] ptrR_nil M fs.length (dataOf fs) rfl H.out.map _ (.string s.data.toList) rfl (key_of hs) ?_)
  intro v ps hv
  rw [atKey_dataOf, HF.out] at hv
  obtain rfl := ptrR_inv hv
  rw [has_dataOf, HF.out]
  clear hv
  by_cases hn0 : n < 0
  · have hdn : decide (n < 0) = true := by simpa using hn0
    go_wp2_with fail
    go_region
    go_wp2
    go_ret
    exact ⟨by simp, HB.out.trans (below_drewN ((Below.refl _ w1).alloc (by omega) _) 1)⟩
  · have hdn : decide (n < 0) = false := by simpa using hn0
    have hn1 : (f.b.length : Int) < n := by omega
    go_wp2_with fail
    go_region
    go_wp2
    go_ret
    exact ⟨by simp, HB.out.trans (below_drewN ((Below.refl _ w1).alloc (by omega) _) 1)⟩

end Go.Proofs.YtjbhdidjkdlceaaDoor
