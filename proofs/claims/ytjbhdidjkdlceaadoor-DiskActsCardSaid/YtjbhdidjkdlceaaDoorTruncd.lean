/- Truncate of a file that is there, within its bytes, whether the power goes or not. -/
import Derived.Test.YtjbhdidjkdlceaaDoorTruncs
namespace Go.Proofs.YtjbhdidjkdlceaaDoor
open Go.RowKit Go.Maps
set_option linter.unusedVariables false

set_option maxHeartbeats 1000000 in
theorem truncate_found (D M : Nat) (fs : List PF) (room used ops arm keep fail : Int) (h0 : 0 ≤ ops ∧ ops ≤ 1000000) (gn : Bool) (hgone : (ops + 1 == arm) = gn) (hu : 0 ≤ used ∧ used ≤ 1000000000)
    (s : ByteArray) (hs : s.size ≤ 9223372036854775807) (n : Nat) (f : PF) (hf : findF fs s.data.toList = some f) (hn : n ≤ f.b.length) (hl : f.b.length ≤ 1000000) (w : World) (h : Disk w D M fs room used ops arm keep fail) :
    Calls Tryd.prog 19 #[.pointer (some ⟨D, 0, none⟩), .string s, .int .i64 n] w fun e w' => e = endAt gn (ops + 1) (.int .i64 0) ∧
      Changed gn D M fs (setF fs (cutTo f n (min f.safe n))) room used (used - (f.b.length - n)) (ops + 1) arm keep fail w w' := by
  have hd := h.below (boxed_below D n w)
  have hfm : f ∈ fs := List.mem_of_find?_eq_some hf
  have hFA := hd.files f hfm
  obtain ⟨fa, fc, hbv⟩ := slice_form hFA.row
  have hlt := lt_of_block hFA.cells
  have k0 : ((boxed D n w).alloc (.cells #[.pointer (some ⟨f.blk, 0, none⟩)] 80)).cell? ⟨f.blk, 0, none⟩ = some f.bv := by rw [cell_of_row _ _ _ _ _ _ ((Below.heap_alloc _ _ _ hlt).trans hFA.cells)]; rfl
  rw [hbv] at k0
  obtain ⟨c0, c1, c2, c3, c4, c5, c6, hfz⟩ := dcell hd.cells
  have q1 := boxed_first D n w
  have q2 := boxed_second D n w
  have b1 := cell_of_one q1
  have b2 := cell_of_one q2
  have H := Lib.hid hd
  have HF := Lib.hid hf
  have HB := Lib.hid (boxed_below D n w)
  have hsz := boxed_size D n w
  have hdn : decide ((n : Int) < 0) = false := by simp
  have hdm : decide ((f.b.length : Int) < n) = false := by simp; omega
  have Q1 := Lib.hid q1
  have Q2 := Lib.hid q2
  clear h hf hd hfz c1 c2 c3 c4 c5 c6 hFA hbv hlt q1 q2
  obtain ⟨w1, hw1⟩ : ∃ w1, w1 = boxed D n w := ⟨_, rfl⟩
  have HW1 := Lib.hid hw1
  rw [← hw1] at c0 b1 b2 H HB hsz k0 Q1 Q2
  clear hw1
  go_enter Tryd.func19, Tryd.ntmps19
  go_upto_region 1 with (fail)
  change Code.wp _ _ _ _ (boxed D n w)
  rw [← HW1.out]
  go_wp2_with (at_lookup; refine wpList_lookup_own_ok _ rfl _ _ 64 rfl 9 80 keyed9 Tryd.underlying64 ptrR (zero80 _) .nil [] ptrR_nil M fs.length (dataOf fs) rfl H.out.map _ (.string s.data.toList) rfl (key_of hs) ?_)
  intro v ps hv
  rw [atKey_dataOf, HF.out] at hv
  obtain rfl := ptrR_inv hv
  rw [has_dataOf, HF.out]
  clear hv
  go_wp2_with fail
  go_region
  obtain ⟨w2, hw2⟩ : ∃ w2 : World, w2 = (w1.alloc (.cells #[.pointer (some ⟨f.blk, 0, none⟩)] 80)).drew := ⟨_, rfl⟩
  rw [← hw2]
  have hbl : Below w1.heap.size w1 w2 := by rw [hw2]; exact below_drewN ((Below.refl _ w1).alloc (Nat.le_refl _) _) 1
  have hd2 := H.out.below hbl
  have hX : w2.heap[w.heap.size]? = some (.cells #[.pointer (some ⟨D, 0, none⟩)] 25 (0, 0)) := (hbl.block _ (by omega)).trans Q1.out
  have hZ : w2.heap[w.heap.size + 1]? = some (.cells #[.int .i64 n] 3 (0, 0)) := (hbl.block _ (by omega)).trans Q2.out
  have hY : w2.heap[w.heap.size + 2]? = some (.cells #[.pointer (some ⟨f.blk, 0, none⟩)] 80 (0, 0)) := by
    have := heap_alloc_new w1 (.cells #[.pointer (some ⟨f.blk, 0, none⟩)] 80)
    rw [hsz] at this
    rw [hw2]
    exact this
  have cX := cell_of_one hX
  have hfl : findF fs s.data.toList = some f := HF.out
  have HC := Lib.hid (change_all D M fs (setF fs (cutTo f n (min f.safe n))) room used (used - (f.b.length - n)) ops arm keep fail h0 gn hgone 45 #[.pointer (some ⟨w.heap.size, 0, none⟩), .pointer (some ⟨w.heap.size + 2, 0, none⟩), .pointer (some ⟨w.heap.size + 1, 0, none⟩)] w2 hd2
    (enters_of Tryd.func45 (by kernel_rfl) rfl _) (fun w3 ht =>
      truncates_any D M fs room used (ops + 1) arm keep fail f hfm n hn hl hu _ _ _ w3 ht.disk
        (ht.mod.keep hX (fun e => by rw [e, hd2.cells] at hX; simp at hX)) (ht.mod.keep hY (fun e => by rw [e, hd2.cells] at hY; simp at hY)) (ht.mod.keep hZ (fun e => by rw [e, hd2.cells] at hZ; simp at hZ))))
  have HB2 : Hid (Below w.heap.size w w2) := Lib.hid (HB.out.trans (hbl.mono (by omega)))
  clear hX hY hZ hfl hd2 hbl hw2
  go_wp2_with fail
  refine HC.out.mono ?_
  rintro e w3 ⟨he, hd3⟩
  have HD3 := Lib.hid hd3
  clear hd3
  cases gn with
  | true =>
    have he2 : e = goneAt (ops + 1) := he
    clear he
    subst he2
    go_wp2
    exact ⟨rfl, rfl, HD3.out.ahead HB2.out⟩
  | false =>
    have he2 : e = .returned (.tuple #[]) := he
    clear he
    subst he2
    go_wp2
    go_ret
    exact ⟨by simp [endAt], HD3.out.ahead HB2.out⟩

end Go.Proofs.YtjbhdidjkdlceaaDoor
