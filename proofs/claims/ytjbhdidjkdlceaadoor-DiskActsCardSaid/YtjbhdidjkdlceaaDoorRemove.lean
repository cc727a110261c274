/- Remove, by its contract. -/
import Derived.Test.YtjbhdidjkdlceaaDoorDrop
namespace Go.Proofs.YtjbhdidjkdlceaaDoor
open Go.RowKit Go.Maps
set_option linter.unusedVariables false

theorem Disk.drewn {w : World} {D M : Nat} {fs : List PF} {room used ops arm keep fail : Int} (h : Disk w D M fs room used ops arm keep fail) (n : Nat) : Disk (w.drewN n) D M fs room used ops arm keep fail :=
  h.keep (S := fun _ => False) ((Mod.refl _ w).drewN n) (fun _ _ h => h)

theorem look_found {w : World} {M n : Nat} {fs : List PF} (hm : w.ownsMap Tryd.prog 9 ptrR M n (dataOf fs)) {s : ByteArray} (hs : s.size ≤ 9223372036854775807) {f : PF} (hf : findF fs s.data.toList = some f) :
    (Instr.lookup 64 (.map (some M)) (.string s) true).run Tryd.prog w = .ok (.tuple #[.pointer (some ⟨f.blk, 0, none⟩), .bool true]) w := by
  obtain ⟨v, ps, hrun, hv⟩ := hm.look_ok keyed9 Tryd.underlying64 (zero80 w) ptrR_nil (key_of hs)
  rw [atKey_dataOf, hf] at hv
  obtain rfl := ptrR_inv hv
  rw [has_dataOf, hf] at hrun
  exact hrun

theorem look_none {w : World} {M n : Nat} {fs : List PF} (hm : w.ownsMap Tryd.prog 9 ptrR M n (dataOf fs)) {s : ByteArray} (hs : s.size ≤ 9223372036854775807) (hf : findF fs s.data.toList = none) :
    (Instr.lookup 64 (.map (some M)) (.string s) true).run Tryd.prog w = .ok (.tuple #[.pointer none, .bool false]) w := by
  obtain ⟨v, ps, hrun, hv⟩ := hm.look_ok keyed9 Tryd.underlying64 (zero80 w) ptrR_nil (key_of hs)
  rw [atKey_dataOf, hf] at hv
  obtain rfl := ptrR_inv_nil hv
  rw [has_dataOf, hf] at hrun
  exact hrun

/-- The world behind Remove's two boxes. -/
def boxedS (D : Nat) (s : ByteArray) (w : World) : World := (w.alloc (.cells #[.pointer (some ⟨D, 0, none⟩)] 25)).alloc (.cells #[.string s] 9)
theorem boxedS_below (D : Nat) (s : ByteArray) (w : World) : Below w.heap.size w (boxedS D s w) := ((Below.refl _ w).alloc (Nat.le_refl _) _).alloc (by simp) _
theorem boxedS_first (D : Nat) (s : ByteArray) (w : World) : (boxedS D s w).heap[w.heap.size]? = some (.cells #[.pointer (some ⟨D, 0, none⟩)] 25 (0, 0)) :=
  (Below.heap_alloc _ _ _ (by simp)).trans (heap_alloc_new _ _)
theorem boxedS_second (D : Nat) (s : ByteArray) (w : World) : (boxedS D s w).heap[w.heap.size + 1]? = some (.cells #[.string s] 9 (0, 0)) := by
  have := heap_alloc_new (w.alloc (.cells #[.pointer (some ⟨D, 0, none⟩)] 25)) (.cells #[.string s] 9)
  rw [show (w.alloc (.cells #[.pointer (some ⟨D, 0, none⟩)] 25)).heap.size = w.heap.size + 1 by simp] at this
  exact this
theorem boxedS_size (D : Nat) (s : ByteArray) (w : World) : (boxedS D s w).heap.size = w.heap.size + 2 := by simp [boxedS]

set_option maxHeartbeats 1000000 in
theorem remove_none (D M : Nat) (fs : List PF) (room used ops arm keep fail : Int) (s : ByteArray) (hs : s.size ≤ 9223372036854775807) (hf : findF fs s.data.toList = none) (w : World) (h : Disk w D M fs room used ops arm keep fail) :
    Calls Tryd.prog 22 #[.pointer (some ⟨D, 0, none⟩), .string s] w fun e w' => e = .returned (.int .i64 6) ∧ Below w.heap.size w w' := by
  have hd := h.below (boxedS_below D s w)
  obtain ⟨c0, c1, c2, c3, c4, c5, c6, hfz⟩ := dcell hd.cells
  have b1 := cell_of_one (boxedS_first D s w)
  have b2 := cell_of_one (boxedS_second D s w)
  have l1 := look_none (w := (boxedS D s w).drew) hd.map.drew hs hf
  have HB := Lib.hid (boxedS_below D s w)
  have hsz := boxedS_size D s w
  clear h hf hd hfz c1 c2 c3 c4 c5 c6
  obtain ⟨w1, hw1⟩ : ∃ w1, w1 = boxedS D s w := ⟨_, rfl⟩
  have HW1 := Lib.hid hw1
  rw [← hw1] at c0 b1 b2 l1 HB hsz
  clear hw1
  go_enter Tryd.func22, Tryd.ntmps22
  go_upto_region 1 with (fail)
  change Code.wp _ _ _ _ (boxedS D s w)
  rw [← HW1.out]
  go_wp2_with fail
  go_region
  go_wp2
  go_ret
  exact ⟨by simp, below_drewN HB.out 1⟩

/-- What Remove's closure does. -/
theorem removes_any (D M : Nat) (fs : List PF) (room used ops arm keep fail : Int) (hu : 0 ≤ used ∧ used ≤ 1000000000) (hl : ∀ f ∈ fs, f.b.length ≤ 1000000)
    (s : ByteArray) (hs : s.size ≤ 9223372036854775807) (X Y : Nat) (w : World) (h : Disk w D M fs room used ops arm keep fail)
    (hX : w.heap[X]? = some (.cells #[.pointer (some ⟨D, 0, none⟩)] 25 (0, 0))) (hY : w.heap[Y]? = some (.cells #[.string s] 9 (0, 0))) :
    Calls Tryd.prog 49 #[.pointer (some ⟨X, 0, none⟩), .pointer (some ⟨Y, 0, none⟩)] w fun e w' => e = .returned (.tuple #[]) ∧ Did D M fs (delF fs s.data.toList) room (used - lenOf fs s.data.toList) ops arm keep fail w w' := by
  have cX := cell_of_one hX
  have cY := cell_of_one hY
  have HD := Lib.hid (drop_any D M fs room used ops arm keep fail hu hl s hs w h)
  clear h hX hY
  go_enter Tryd.func49, Tryd.ntmps49
  go_wp2_with fail
  refine HD.out.mono ?_
  rintro e w' ⟨rfl, hd⟩
  have HDD := Lib.hid hd
  clear hd
  go_wp2
  go_end0
  exact ⟨rfl, HDD.out⟩

set_option maxHeartbeats 1000000 in
theorem remove_found (D M : Nat) (fs : List PF) (room used ops arm keep fail : Int) (h0 : 0 ≤ ops ∧ ops ≤ 1000000) (gn : Bool) (hgone : (ops + 1 == arm) = gn) (hu : 0 ≤ used ∧ used ≤ 1000000000) (hl : ∀ f ∈ fs, f.b.length ≤ 1000000)
    (s : ByteArray) (hs : s.size ≤ 9223372036854775807) (f : PF) (hf : findF fs s.data.toList = some f) (w : World) (h : Disk w D M fs room used ops arm keep fail) :
    Calls Tryd.prog 22 #[.pointer (some ⟨D, 0, none⟩), .string s] w fun e w' => e = endAt gn (ops + 1) (.int .i64 0) ∧
      Changed gn D M fs (delF fs s.data.toList) room used (used - lenOf fs s.data.toList) (ops + 1) arm keep fail w w' := by
  have hd := h.below (boxedS_below D s w)
  obtain ⟨c0, c1, c2, c3, c4, c5, c6, hfz⟩ := dcell hd.cells
  have q1 := boxedS_first D s w
  have q2 := boxedS_second D s w
  have b1 := cell_of_one q1
  have b2 := cell_of_one q2
  have l1 := look_found (w := (boxedS D s w).drew) hd.map.drew hs hf
  have HB := Lib.hid (boxedS_below D s w)
  have H := Lib.hid hd
  have hsz := boxedS_size D s w
  have Q1 := Lib.hid q1
  have Q2 := Lib.hid q2
  clear h hf hd hfz c1 c2 c3 c4 c5 c6 q1 q2
  obtain ⟨w1, hw1⟩ : ∃ w1, w1 = boxedS D s w := ⟨_, rfl⟩
  have HW1 := Lib.hid hw1
  rw [← hw1] at c0 b1 b2 l1 HB hsz H Q1 Q2
  clear hw1
  go_enter Tryd.func22, Tryd.ntmps22
  go_upto_region 1 with (fail)
  change Code.wp _ _ _ _ (boxedS D s w)
  rw [← HW1.out]
  go_wp2_with fail
  go_region
  obtain ⟨w2, hw2⟩ : ∃ w2 : World, w2 = w1.drew := ⟨_, rfl⟩
  rw [← hw2]
  have hd2 : Disk w2 D M fs room used ops arm keep fail := by rw [hw2]; exact H.out.drewn 1
  have hX : w2.heap[w.heap.size]? = some (.cells #[.pointer (some ⟨D, 0, none⟩)] 25 (0, 0)) := by rw [hw2]; exact Q1.out
  have hY : w2.heap[w.heap.size + 1]? = some (.cells #[.string s] 9 (0, 0)) := by rw [hw2]; exact Q2.out
  have cX := cell_of_one hX
  have HB2 : Hid (Below w.heap.size w w2) := Lib.hid (by rw [hw2]; exact below_drewN HB.out 1)
  have HC := Lib.hid (change_all D M fs (delF fs s.data.toList) room used (used - lenOf fs s.data.toList) ops arm keep fail h0 gn hgone 49 #[.pointer (some ⟨w.heap.size, 0, none⟩), .pointer (some ⟨w.heap.size + 1, 0, none⟩)] w2 hd2
    (enters_of Tryd.func49 (by kernel_rfl) rfl _) (fun w3 ht =>
      removes_any D M fs room used (ops + 1) arm keep fail hu hl s hs _ _ w3 ht.disk
        (ht.mod.keep hX (fun e => by rw [e, hd2.cells] at hX; simp at hX)) (ht.mod.keep hY (fun e => by rw [e, hd2.cells] at hY; simp at hY))))
  clear hX hY hd2 hw2
  go_wp2_with fail
  refine HC.out.mono ?_
  rintro e w3 ⟨he, hd3⟩
  have HD3 := Lib.hid hd3
  clear hd3
  cases gn with
  | true =>
    have he2 : e = goneAt (ops + 1) := he
    clear he
    subst he2
    go_wp2
    exact ⟨rfl, rfl, HD3.out.ahead HB2.out⟩
  | false =>
    have he2 : e = .returned (.tuple #[]) := he
    clear he
    subst he2
    go_wp2
    go_ret
    exact ⟨by simp [endAt], HD3.out.ahead HB2.out⟩

end Go.Proofs.YtjbhdidjkdlceaaDoor
