/- Sync of a file that is there, where no power goes and no sync fails. -/
import Derived.Test.YtjbhdidjkdlceaaDoorSync
namespace Go.Proofs.YtjbhdidjkdlceaaDoor
open Go.RowKit Go.Maps
set_option linter.unusedVariables false

set_option maxHeartbeats 1000000 in
theorem sync_found (D M : Nat) (fs : List PF) (room used ops arm keep fail : Int) (h0 : 0 ≤ ops ∧ ops ≤ 1000000) (hgone : (ops + 1 == arm) = false) (hfail : (fail == 1) = false) (hf0 : 0 ≤ fail ∧ fail ≤ 9223372036854775807)
    (s : ByteArray) (hs : s.size ≤ 9223372036854775807) (f : PF) (hf : findF fs s.data.toList = some f) (w : World) (h : Disk w D M fs room used ops arm keep fail) :
    Calls Tryd.prog 20 #[.pointer (some ⟨D, 0, none⟩), .string s] w fun e w' => e = .returned (.int .i64 0) ∧ Did D M fs (setF fs { f with safe := f.b.length }) room used (ops + 1) arm keep (max 0 (fail - 1)) w w' := by
  obtain ⟨c0, c1, c2, c3, c4, c5, c6, hfz⟩ := dcell h.cells
  have f6 := hfz 6
  have H := Lib.hid h
  have HF := Lib.hid hf
  obtain ⟨g0, g1⟩ := hf0
  have s1 : IntKind.i64.wrap (fail - 1) = fail - 1 := IntWalk.i64_in _ (by omega)
  have hD := lt_of_block h.cells
  have ha : ∀ o, (w.alloc o).heap[D]? = some (.cells (dcells M room used ops arm keep fail) 66 (0, 0)) := fun o => (Below.heap_alloc _ _ _ hD).trans h.cells
  have hb : ∀ o p, ((w.alloc o).alloc p).heap[D]? = some (.cells (dcells M room used ops arm keep fail) 66 (0, 0)) := fun o p => (Below.heap_alloc _ _ _ (lt_of_block (ha o))).trans (ha o)
  have a6 : ∀ o, (w.alloc o).cell? ⟨D, 6, none⟩ = some (.int .i64 fail) := fun o => (dcell (ha o)).2.2.2.2.2.2.1
  have b6 : ∀ o p, ((w.alloc o).alloc p).cell? ⟨D, 6, none⟩ = some (.int .i64 fail) := fun o p => (dcell (hb o p)).2.2.2.2.2.2.1
  have bf : ∀ o p, ((w.alloc o).alloc p).frozen? ⟨D, 6, none⟩ = false := fun o p => (dcell (hb o p)).2.2.2.2.2.2.2 6
  have HBB := Lib.hid hb
  clear h hf hfz c1 c2 c3 c4 c5 ha hb
  go_enter Tryd.func20, Tryd.ntmps20
  go_wp2_with (at_lookup; refine wpList_lookup_own_ok _ rfl _ _ 64 rfl 9 80 keyed9 Tryd.underlying64 ptrR (zero80 _) .nil [] ptrR_nil M fs.length (dataOf fs) rfl H.out.map _ (.string s.data.toList) rfl (key_of hs) ?_)
  intro v ps hv
  rw [atKey_dataOf, HF.out] at hv
  obtain rfl := ptrR_inv hv
  rw [has_dataOf, HF.out]
  clear hv
  go_wp2_with fail
  obtain ⟨w2, hw2⟩ : ∃ w2 : World, w2 = (((w.setCell ⟨D, 6, none⟩ (.int .i64 (max 0 (fail - 1)))).alloc (.cells #[.pointer (some ⟨f.blk, 0, none⟩)] 80)).alloc (.cells #[.bool false] 4)) := ⟨_, rfl⟩
  have m0 := mod_cell D 6 w (.int .i64 (max 0 (fail - 1)))
  have hd0 := H.out.turn m0 (row_setCell H.out.cells 6 (.int .i64 (max 0 (fail - 1))))
  have hsz : (w.setCell ⟨D, 6, none⟩ (.int .i64 (max 0 (fail - 1)))).heap.size = w.heap.size := by simp
  have hbl : Below w.heap.size (w.setCell ⟨D, 6, none⟩ (.int .i64 (max 0 (fail - 1)))) w2 := by
    rw [hw2]
    exact (((Below.refl _ _).alloc (by simp) _).alloc (by simp) _)
  have hd2 : Disk w2 D M fs room used ops arm keep (max 0 (fail - 1)) := hd0.below (by rw [hsz]; exact hbl)
  have hX : w2.heap[w.heap.size + 1]? = some (.cells #[.bool false] 4 (0, 0)) := by
    rw [hw2]
    have := heap_alloc_new ((w.setCell ⟨D, 6, none⟩ (.int .i64 (max 0 (fail - 1)))).alloc (.cells #[.pointer (some ⟨f.blk, 0, none⟩)] 80)) (.cells #[.bool false] 4)
    simpa using this
  have hY : w2.heap[w.heap.size]? = some (.cells #[.pointer (some ⟨f.blk, 0, none⟩)] 80 (0, 0)) := by
    rw [hw2]
    refine (Below.heap_alloc _ _ _ (by simp)).trans ?_
    have := heap_alloc_new (w.setCell ⟨D, 6, none⟩ (.int .i64 (max 0 (fail - 1)))) (.cells #[.pointer (some ⟨f.blk, 0, none⟩)] 80)
    rw [hsz] at this
    exact this
  rw [← hw2]
  have HX := Lib.hid hX
  have HY := Lib.hid hY
  have HD2 := Lib.hid hd2
  have HBL := Lib.hid hbl
  have HM0 := Lib.hid m0
  have hfm : f ∈ fs := List.mem_of_find?_eq_some HF.out
  clear hX hY hd2 hbl m0 hd0 hsz hw2 a6 b6 bf c0 c6 f6
  refine (change_any D M fs room used ops arm keep (max 0 (fail - 1)) h0 hgone 46 #[.pointer (some ⟨w.heap.size + 1, 0, none⟩), .pointer (some ⟨w.heap.size, 0, none⟩)]
    (fun w' => Did D M fs (setF fs { f with safe := f.b.length }) room used (ops + 1) arm keep (max 0 (fail - 1)) w2 w' ∧ w'.heap[w.heap.size + 1]? = some (.cells #[.bool false] 4 (0, 0))) w2 HD2.out (enters_of Tryd.func46 (by kernel_rfl) rfl _) ?_).mono ?_
  · intro w1 ht
    have x1 := ht.mod.keep HX.out (by omega)
    have y1 := ht.mod.keep HY.out (by omega)
    refine (syncs_any D M fs room used (ops + 1) arm keep (max 0 (fail - 1)) f hfm _ _ w1 ht.disk x1 y1).mono ?_
    rintro e w' ⟨rfl, hd⟩
    refine ⟨rfl, ⟨(ht.mod.mono (fun t _ ht => .inl ht)).trans hd.mod, hd.disk, fun k hk => ?_⟩, hd.mod.keep x1 (fun hft => by have := H.out.old hft; omega)⟩
    rcases hd.foot k hk with h1 | h1
    · exact .inl h1
    · exact .inr (Nat.le_trans ht.mod.size h1)
  rintro e w3 ⟨rfl, hdid, hX3⟩
  have cX := cell_of_one hX3
  have HDID := Lib.hid hdid
  clear hdid hX3
  go_wp2
  go_ret
  refine ⟨by simp, ((HM0.out.mono (fun t _ ht => .inl ht)).trans (Mod.of_below (by simpa using HBL.out))).trans HDID.out.mod, HDID.out.disk, fun k hk => ?_⟩
  rcases HDID.out.foot k hk with h1 | h1
  · exact .inl h1
  · have := HBL.out.size
    simp at this
    exact .inr (by omega)

end Go.Proofs.YtjbhdidjkdlceaaDoor
