/- Rename, by its contract. -/
import Derived.Test.YtjbhdidjkdlceaaDoorRename
namespace Go.Proofs.YtjbhdidjkdlceaaDoor
open Go.RowKit Go.Maps
set_option linter.unusedVariables false

/-- The world behind Rename's three boxes. -/
def boxed3 (D : Nat) (s t : ByteArray) (w : World) : World := (boxedS D s w).alloc (.cells #[.string t] 9)
theorem boxed3_below (D : Nat) (s t : ByteArray) (w : World) : Below w.heap.size w (boxed3 D s t w) := (boxedS_below D s w).alloc (by have := boxedS_size D s w; omega) _
theorem boxed3_first (D : Nat) (s t : ByteArray) (w : World) : (boxed3 D s t w).heap[w.heap.size]? = some (.cells #[.pointer (some ⟨D, 0, none⟩)] 25 (0, 0)) :=
  (Below.heap_alloc _ _ _ (by have := boxedS_size D s w; omega)).trans (boxedS_first D s w)
theorem boxed3_second (D : Nat) (s t : ByteArray) (w : World) : (boxed3 D s t w).heap[w.heap.size + 1]? = some (.cells #[.string s] 9 (0, 0)) :=
  (Below.heap_alloc _ _ _ (by have := boxedS_size D s w; omega)).trans (boxedS_second D s w)
theorem boxed3_third (D : Nat) (s t : ByteArray) (w : World) : (boxed3 D s t w).heap[w.heap.size + 2]? = some (.cells #[.string t] 9 (0, 0)) := by
  have := heap_alloc_new (boxedS D s w) (.cells #[.string t] 9)
  rw [boxedS_size] at this
  exact this
theorem boxed3_size (D : Nat) (s t : ByteArray) (w : World) : (boxed3 D s t w).heap.size = w.heap.size + 3 := by
  show ((boxedS D s w).alloc _).heap.size = _
  simp [boxedS_size]

set_option maxHeartbeats 1000000 in
theorem rename_none (D M : Nat) (fs : List PF) (room used ops arm keep fail : Int) (s t : ByteArray) (hs : s.size ≤ 9223372036854775807) (hf : findF fs s.data.toList = none) (w : World) (h : Disk w D M fs room used ops arm keep fail) :
    Calls Tryd.prog 21 #[.pointer (some ⟨D, 0, none⟩), .string s, .string t] w fun e w' => e = .returned (.int .i64 6) ∧ Below w.heap.size w w' := by
  have hd := h.below (boxed3_below D s t w)
  obtain ⟨c0, c1, c2, c3, c4, c5, c6, hfz⟩ := dcell hd.cells
  have b1 := cell_of_one (boxed3_first D s t w)
  have b2 := cell_of_one (boxed3_second D s t w)
  have b3 := cell_of_one (boxed3_third D s t w)
  have l1 := look_none (w := (boxed3 D s t w).drew) hd.map.drew hs hf
  have l2 := look_none (w := ((boxed3 D s t w).alloc (.cells #[.pointer none] 80)).drew) (hd.map.alloc _).drew hs hf
  have a0 := (dcell ((Below.heap_alloc (boxed3 D s t w) (.cells #[.pointer none] 80) _ (lt_of_block hd.cells)).trans hd.cells)).1
  have HB := Lib.hid (boxed3_below D s t w)
  have hsz := boxed3_size D s t w
  clear h hf hd hfz c1 c2 c3 c4 c5 c6
  obtain ⟨w1, hw1⟩ : ∃ w1, w1 = boxed3 D s t w := ⟨_, rfl⟩
  have HW1 := Lib.hid hw1
  rw [← hw1] at c0 b1 b2 b3 l1 l2 a0 HB hsz
  clear hw1
  go_enter Tryd.func21, Tryd.ntmps21
  go_upto_region 1 with (fail)
  change Code.wp _ _ _ _ (boxed3 D s t w)
  rw [← HW1.out]
  go_wp2_with fail
  go_region
  all_goals (
    go_wp2
    go_ret
    exact ⟨by simp, below_drewN (HB.out.alloc (by omega) _) 1⟩)


set_option maxHeartbeats 1000000 in
theorem rename_bad (D M : Nat) (fs : List PF) (room used ops arm keep fail : Int) (s t : ByteArray) (hs : s.size ≤ 9223372036854775807) (ht : t.size ≤ 9223372036854775807) (hnm : isName t.data.toList = false) (f : PF) (hf : findF fs s.data.toList = some f) (w : World) (h : Disk w D M fs room used ops arm keep fail) :
    Calls Tryd.prog 21 #[.pointer (some ⟨D, 0, none⟩), .string s, .string t] w fun e w' => e = .returned (.int .i64 16) ∧ Below w.heap.size w w' := by
  have hd := h.below (boxed3_below D s t w)
  obtain ⟨c0, c1, c2, c3, c4, c5, c6, hfz⟩ := dcell hd.cells
  have q1 := boxed3_first D s t w
  have q2 := boxed3_second D s t w
  have q3 := boxed3_third D s t w
  have b1 := cell_of_one q1
  have b2 := cell_of_one q2
  have b3 := cell_of_one q3
  have l1 := look_found (w := (boxed3 D s t w).drew) hd.map.drew hs hf
  have l2 := look_found (w := ((boxed3 D s t w).alloc (.cells #[.pointer none] 80)).drew) (hd.map.alloc _).drew hs hf
  have a0 := (dcell ((Below.heap_alloc (boxed3 D s t w) (.cells #[.pointer none] 80) _ (lt_of_block hd.cells)).trans hd.cells)).1
  have HB := Lib.hid (boxed3_below D s t w)
  have H := Lib.hid hd
  have hsz := boxed3_size D s t w
  have Q1 := Lib.hid q1
  have Q2 := Lib.hid q2
  have Q3 := Lib.hid q3
  have HF := Lib.hid hf
  clear h hf hd hfz c1 c2 c3 c4 c5 c6 q1 q2 q3
  obtain ⟨w1, hw1⟩ : ∃ w1, w1 = boxed3 D s t w := ⟨_, rfl⟩
  have HW1 := Lib.hid hw1
  rw [← hw1] at c0 b1 b2 b3 l1 l2 a0 HB hsz H Q1 Q2 Q3
  clear hw1
  go_enter Tryd.func21, Tryd.ntmps21
  go_upto_region 1 with (fail)
  change Code.wp _ _ _ _ (boxed3 D s t w)
  rw [← HW1.out]
  go_wp2_with fail
  go_region
  all_goals (
    obtain ⟨w2, hw2⟩ : ∃ w2 : World, w2 = (w1.alloc (.cells #[.pointer (some ⟨f.blk, 0, none⟩)] 80)).drew := ⟨_, rfl⟩
    rw [← hw2]
    have hbl : Below w1.heap.size w1 w2 := by rw [hw2]; exact below_drewN ((Below.refl _ w1).alloc (Nat.le_refl _) _) 1
    have hd2 := H.out.below hbl
    have hZ : w2.heap[w.heap.size]? = some (.cells #[.pointer (some ⟨D, 0, none⟩)] 25 (0, 0)) := (hbl.block _ (by omega)).trans Q1.out
    have hX : w2.heap[w.heap.size + 1]? = some (.cells #[.string s] 9 (0, 0)) := (hbl.block _ (by omega)).trans Q2.out
    have hY : w2.heap[w.heap.size + 2]? = some (.cells #[.string t] 9 (0, 0)) := (hbl.block _ (by omega)).trans Q3.out
    have hV : w2.heap[w.heap.size + 3]? = some (.cells #[.pointer (some ⟨f.blk, 0, none⟩)] 80 (0, 0)) := by
      have := heap_alloc_new w1 (.cells #[.pointer (some ⟨f.blk, 0, none⟩)] 80)
      rw [hsz] at this
      rw [hw2]
      exact this
    have HB2 : Hid (Below w.heap.size w w2) := Lib.hid (HB.out.trans (hbl.mono (by omega)))
    have hN := named_any t ht w2
    rw [hnm] at hN
    have HN := Lib.hid hN
    have cY := cell_of_one hY
    have HX := Lib.hid hX
    have HY := Lib.hid hY
    have HZ := Lib.hid hZ
    have HV := Lib.hid hV
    have HD2 := Lib.hid hd2
    clear hX hY hZ hV hd2 hbl hN hw2
    go_wp2_with fail
    refine HN.out.mono ?_
    rintro e w3 ⟨rfl, hb3⟩
    have HB3 := Lib.hid hb3
    clear hb3
    go_wp2
    go_ret
    exact ⟨by simp, HB2.out.trans (HB3.out.mono HB2.out.size)⟩)

set_option maxHeartbeats 1000000 in
theorem rename_found (D M : Nat) (fs : List PF) (room used ops arm keep fail : Int) (h0 : 0 ≤ ops ∧ ops ≤ 1000000) (gn : Bool) (hgone : (ops + 1 == arm) = gn) (hu : 0 ≤ used ∧ used ≤ 1000000000) (hl : ∀ f ∈ fs, f.b.length ≤ 1000000) (hfl : fs.length ≤ 1000000)
    (s t : ByteArray) (hs : s.size ≤ 9223372036854775807) (ht : t.size ≤ 9223372036854775807) (hnm : isName t.data.toList = true) (f : PF) (hf : findF fs s.data.toList = some f) (w : World) (h : Disk w D M fs room used ops arm keep fail) :
    Calls Tryd.prog 21 #[.pointer (some ⟨D, 0, none⟩), .string s, .string t] w fun e w' => e = endAt gn (ops + 1) (.int .i64 0) ∧
      Changed gn D M fs (renF fs f s.data.toList t.data.toList) room used (renUsed fs used s.data.toList t.data.toList) (ops + 1) arm keep fail w w' := by
  have HNF : Hid (∀ k, w.heap.size ≤ k → ¬ Foot D M fs k) := Lib.hid (fun k hk hft => by have := h.old hft; omega)
  have hd := h.below (boxed3_below D s t w)
  obtain ⟨c0, c1, c2, c3, c4, c5, c6, hfz⟩ := dcell hd.cells
  have q1 := boxed3_first D s t w
  have q2 := boxed3_second D s t w
  have q3 := boxed3_third D s t w
  have b1 := cell_of_one q1
  have b2 := cell_of_one q2
  have b3 := cell_of_one q3
  have l1 := look_found (w := (boxed3 D s t w).drew) hd.map.drew hs hf
  have l2 := look_found (w := ((boxed3 D s t w).alloc (.cells #[.pointer none] 80)).drew) (hd.map.alloc _).drew hs hf
  have a0 := (dcell ((Below.heap_alloc (boxed3 D s t w) (.cells #[.pointer none] 80) _ (lt_of_block hd.cells)).trans hd.cells)).1
  have HB := Lib.hid (boxed3_below D s t w)
  have H := Lib.hid hd
  have hsz := boxed3_size D s t w
  have Q1 := Lib.hid q1
  have Q2 := Lib.hid q2
  have Q3 := Lib.hid q3
  have HF := Lib.hid hf
  clear h hf hd hfz c1 c2 c3 c4 c5 c6 q1 q2 q3
  obtain ⟨w1, hw1⟩ : ∃ w1, w1 = boxed3 D s t w := ⟨_, rfl⟩
  have HW1 := Lib.hid hw1
  rw [← hw1] at c0 b1 b2 b3 l1 l2 a0 HB hsz H Q1 Q2 Q3
  clear hw1
  go_enter Tryd.func21, Tryd.ntmps21
  go_upto_region 1 with (fail)
  change Code.wp _ _ _ _ (boxed3 D s t w)
  rw [← HW1.out]
  go_wp2_with fail
  go_region
  all_goals (
    obtain ⟨w2, hw2⟩ : ∃ w2 : World, w2 = (w1.alloc (.cells #[.pointer (some ⟨f.blk, 0, none⟩)] 80)).drew := ⟨_, rfl⟩
    rw [← hw2]
    have hbl : Below w1.heap.size w1 w2 := by rw [hw2]; exact below_drewN ((Below.refl _ w1).alloc (Nat.le_refl _) _) 1
    have hd2 := H.out.below hbl
    have hZ : w2.heap[w.heap.size]? = some (.cells #[.pointer (some ⟨D, 0, none⟩)] 25 (0, 0)) := (hbl.block _ (by omega)).trans Q1.out
    have hX : w2.heap[w.heap.size + 1]? = some (.cells #[.string s] 9 (0, 0)) := (hbl.block _ (by omega)).trans Q2.out
    have hY : w2.heap[w.heap.size + 2]? = some (.cells #[.string t] 9 (0, 0)) := (hbl.block _ (by omega)).trans Q3.out
    have hV : w2.heap[w.heap.size + 3]? = some (.cells #[.pointer (some ⟨f.blk, 0, none⟩)] 80 (0, 0)) := by
      have := heap_alloc_new w1 (.cells #[.pointer (some ⟨f.blk, 0, none⟩)] 80)
      rw [hsz] at this
      rw [hw2]
      exact this
    have HB2 : Hid (Below w.heap.size w w2) := Lib.hid (HB.out.trans (hbl.mono (by omega)))
    have hN := named_any t ht w2
    rw [hnm] at hN
    have HN := Lib.hid hN
    have cY := cell_of_one hY
    have HX := Lib.hid hX
    have HY := Lib.hid hY
    have HZ := Lib.hid hZ
    have HV := Lib.hid hV
    have HD2 := Lib.hid hd2
    clear hX hY hZ hV hd2 hbl hN hw2
    go_wp2_with fail
    refine HN.out.mono ?_
    rintro e w3 ⟨rfl, hb3⟩
    have hd3 := HD2.out.below hb3
    have m3 : Mod (fun _ => False) w2 w3 := Mod.of_below hb3
    have hX := m3.keep HX.out id
    have hY := m3.keep HY.out id
    have hZ := m3.keep HZ.out id
    have hV := m3.keep HV.out id
    have HC := Lib.hid (change_all D M fs (renF fs f s.data.toList t.data.toList) room used (renUsed fs used s.data.toList t.data.toList) ops arm keep fail h0 gn hgone 47 #[.pointer (some ⟨w.heap.size + 1, 0, none⟩), .pointer (some ⟨w.heap.size + 2, 0, none⟩), .pointer (some ⟨w.heap.size, 0, none⟩), .pointer (some ⟨w.heap.size + 3, 0, none⟩)] w3 hd3
      (enters_of Tryd.func47 (by kernel_rfl) rfl _) (fun w4 ht4 =>
        renames_any D M fs room used (ops + 1) arm keep fail hu hl hfl s t hs ht f HF.out _ _ _ _ w4 ht4.disk
          (ht4.mod.keep hX (fun e => by rw [e, hd3.cells] at hX; simp at hX)) (ht4.mod.keep hY (fun e => by rw [e, hd3.cells] at hY; simp at hY)) (ht4.mod.keep hZ (fun e => by rw [e, hd3.cells] at hZ; simp at hZ)) (ht4.mod.keep hV (fun e => by rw [e, hd3.cells] at hV; simp at hV))
          (HNF.out _ (by omega)) (HNF.out _ (by omega)) (HNF.out _ (by omega)) (HNF.out _ (by omega))))
    have HB3 : Hid (Below w.heap.size w w3) := Lib.hid (HB2.out.trans (hb3.mono HB2.out.size))
    have cZ := cell_of_one hZ
    clear hX hY hZ hV hd3 m3 hb3
    go_wp2_with fail
    refine HC.out.mono ?_
    rintro e w5 ⟨he, hd5⟩
    have HD5 := Lib.hid hd5
    clear hd5
    cases gn with
    | true =>
      have he2 : e = goneAt (ops + 1) := he
      clear he
      subst he2
      go_wp2
      exact ⟨rfl, rfl, HD5.out.ahead HB3.out⟩
    | false =>
      have he2 : e = .returned (.tuple #[]) := he
      clear he
      subst he2
      go_wp2
      go_ret
      exact ⟨by simp [endAt], HD5.out.ahead HB3.out⟩)

end Go.Proofs.YtjbhdidjkdlceaaDoor
