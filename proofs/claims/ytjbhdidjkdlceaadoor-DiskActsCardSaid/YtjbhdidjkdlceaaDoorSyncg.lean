/- Sync of a file that is there: whether the power goes or not, whether the sync fails or not; and of one that is not. -/
import Derived.Test.YtjbhdidjkdlceaaDoorCrash
namespace Go.Proofs.YtjbhdidjkdlceaaDoor
open Go.RowKit Go.Maps
set_option linter.unusedVariables false

theorem Did.refl {D M : Nat} {fs : List PF} {room used ops arm keep fail : Int} {w : World} (h : Disk w D M fs room used ops arm keep fail) : Did D M fs fs room used ops arm keep fail w w := ⟨Mod.refl _ _, h, fun _ hk => .inl hk⟩

theorem Changed.mod {gn : Bool} {D M : Nat} {fs fs' : List PF} {room used used' ops arm keep fail : Int} {w w' : World} (k : Changed gn D M fs fs' room used used' ops arm keep fail w w') : Mod (Foot D M fs) w w' := Did.mod k

theorem Changed.did {gn : Bool} {D M : Nat} {fs fs' : List PF} {room used used' ops arm keep fail room0 used0 ops0 arm0 keep0 fail0 : Int} {w w1 w' : World} (k : Changed gn D M fs fs' room used used' ops arm keep fail w1 w') (h : Did D M fs fs room0 used0 ops0 arm0 keep0 fail0 w w1) : Changed gn D M fs fs' room used used' ops arm keep fail w w' := h.trans k

/-- What Sync's closure does where the sync fails. -/
theorem syncs_not (D M : Nat) (fs : List PF) (room used ops arm keep fail : Int) (X Y : Nat) (w : World) (h : Disk w D M fs room used ops arm keep fail)
    (hX : w.heap[X]? = some (.cells #[.bool true] 4 (0, 0))) :
    Calls Tryd.prog 46 #[.pointer (some ⟨X, 0, none⟩), .pointer (some ⟨Y, 0, none⟩)] w fun e w' => e = .returned (.tuple #[]) ∧ Did D M fs fs room used ops arm keep fail w w' := by
  have cX := cell_of_one hX
  have H := Lib.hid h
  clear h hX
  go_enter Tryd.func46, Tryd.ntmps46
  go_wp2
  go_end0
  exact ⟨rfl, Did.refl H.out⟩

set_option maxHeartbeats 800000 in
theorem sync_none (D M : Nat) (fs : List PF) (room used ops arm keep fail : Int) (s : ByteArray) (hs : s.size ≤ 9223372036854775807) (hf : findF fs s.data.toList = none) (w : World) (h : Disk w D M fs room used ops arm keep fail) :
    Calls Tryd.prog 20 #[.pointer (some ⟨D, 0, none⟩), .string s] w fun e w' => e = .returned (.int .i64 6) ∧ Below w.heap.size w w' := by
  obtain ⟨c0, c1, c2, c3, c4, c5, c6, hfz⟩ := dcell h.cells
  have H := Lib.hid h
  have HF := Lib.hid hf
  clear h hf hfz c1 c2 c3 c4 c5 c6
  go_enter Tryd.func20, Tryd.ntmps20
  go_wp2_with (at_lookup; refine wpList_lookup_own_ok _ rfl _ _ 64 rfl 9 80 keyed9 Tryd.underlying64 ptrR (zero80 _) .nil [] ptrR_nil M fs.length (dataOf fs) rfl H.out.map _ (.string s.data.toList) rfl (key_of hs) ?_)
  intro v ps hv
  rw [atKey_dataOf, HF.out] at hv
  obtain rfl := ptrR_inv_nil hv
  rw [has_dataOf, HF.out]
  clear hv
  go_wp2
  go_ret
  exact ⟨by simp, (Below.refl _ _).alloc (Nat.le_refl _) _⟩

set_option maxHeartbeats 1000000 in
theorem sync_gn (D M : Nat) (fs : List PF) (room used ops arm keep fail : Int) (h0 : 0 ≤ ops ∧ ops ≤ 1000000) (gn : Bool) (hgone : (ops + 1 == arm) = gn) (hfail : (fail == 1) = false) (hf0 : 0 ≤ fail ∧ fail ≤ 9223372036854775807)
    (s : ByteArray) (hs : s.size ≤ 9223372036854775807) (f : PF) (hf : findF fs s.data.toList = some f) (w : World) (h : Disk w D M fs room used ops arm keep fail) :
    Calls Tryd.prog 20 #[.pointer (some ⟨D, 0, none⟩), .string s] w fun e w' => e = endAt gn (ops + 1) (.int .i64 0) ∧ Changed gn D M fs (setF fs { f with safe := f.b.length }) room used used (ops + 1) arm keep (max 0 (fail - 1)) w w' := by
  obtain ⟨c0, c1, c2, c3, c4, c5, c6, hfz⟩ := dcell h.cells
  have f6 := hfz 6
  have H := Lib.hid h
  have HF := Lib.hid hf
  obtain ⟨g0, g1⟩ := hf0
  have s1 : IntKind.i64.wrap (fail - 1) = fail - 1 := IntWalk.i64_in _ (by omega)
  have hD := lt_of_block h.cells
  have ha : ∀ o, (w.alloc o).heap[D]? = some (.cells (dcells M room used ops arm keep fail) 66 (0, 0)) := fun o => (Below.heap_alloc _ _ _ hD).trans h.cells
  have hb : ∀ o p, ((w.alloc o).alloc p).heap[D]? = some (.cells (dcells M room used ops arm keep fail) 66 (0, 0)) := fun o p => (Below.heap_alloc _ _ _ (lt_of_block (ha o))).trans (ha o)
  have a6 : ∀ o, (w.alloc o).cell? ⟨D, 6, none⟩ = some (.int .i64 fail) := fun o => (dcell (ha o)).2.2.2.2.2.2.1
  have b6 : ∀ o p, ((w.alloc o).alloc p).cell? ⟨D, 6, none⟩ = some (.int .i64 fail) := fun o p => (dcell (hb o p)).2.2.2.2.2.2.1
  have bf : ∀ o p, ((w.alloc o).alloc p).frozen? ⟨D, 6, none⟩ = false := fun o p => (dcell (hb o p)).2.2.2.2.2.2.2 6
  have HBB := Lib.hid hb
  clear h hf hfz c1 c2 c3 c4 c5 ha hb
  go_enter Tryd.func20, Tryd.ntmps20
  go_wp2_with (at_lookup; refine wpList_lookup_own_ok _ rfl _ _ 64 rfl 9 80 keyed9 Tryd.underlying64 ptrR (zero80 _) .nil [] ptrR_nil M fs.length (dataOf fs) rfl H.out.map _ (.string s.data.toList) rfl (key_of hs) ?_)
  intro v ps hv
  rw [atKey_dataOf, HF.out] at hv
  obtain rfl := ptrR_inv hv
  rw [has_dataOf, HF.out]
  clear hv
  go_wp2_with fail
  obtain ⟨w2, hw2⟩ : ∃ w2 : World, w2 = (((w.setCell ⟨D, 6, none⟩ (.int .i64 (max 0 (fail - 1)))).alloc (.cells #[.pointer (some ⟨f.blk, 0, none⟩)] 80)).alloc (.cells #[.bool false] 4)) := ⟨_, rfl⟩
  have m0 := mod_cell D 6 w (.int .i64 (max 0 (fail - 1)))
  have hd0 := H.out.turn m0 (row_setCell H.out.cells 6 (.int .i64 (max 0 (fail - 1))))
  have hsz : (w.setCell ⟨D, 6, none⟩ (.int .i64 (max 0 (fail - 1)))).heap.size = w.heap.size := by simp
  have hbl : Below w.heap.size (w.setCell ⟨D, 6, none⟩ (.int .i64 (max 0 (fail - 1)))) w2 := by
    rw [hw2]
    exact (((Below.refl _ _).alloc (by simp) _).alloc (by simp) _)
  have hd2 : Disk w2 D M fs room used ops arm keep (max 0 (fail - 1)) := hd0.below (by rw [hsz]; exact hbl)
  have hX : w2.heap[w.heap.size + 1]? = some (.cells #[.bool false] 4 (0, 0)) := by
    rw [hw2]
    have := heap_alloc_new ((w.setCell ⟨D, 6, none⟩ (.int .i64 (max 0 (fail - 1)))).alloc (.cells #[.pointer (some ⟨f.blk, 0, none⟩)] 80)) (.cells #[.bool false] 4)
    simpa using this
  have hY : w2.heap[w.heap.size]? = some (.cells #[.pointer (some ⟨f.blk, 0, none⟩)] 80 (0, 0)) := by
    rw [hw2]
    refine (Below.heap_alloc _ _ _ (by simp)).trans ?_
    have := heap_alloc_new (w.setCell ⟨D, 6, none⟩ (.int .i64 (max 0 (fail - 1)))) (.cells #[.pointer (some ⟨f.blk, 0, none⟩)] 80)
    rw [hsz] at this
    exact this
  rw [← hw2]
  have HX := Lib.hid hX
  have HY := Lib.hid hY
  have HD2 := Lib.hid hd2
  have HBL := Lib.hid hbl
  have HM0 := Lib.hid m0
  have hfm : f ∈ fs := List.mem_of_find?_eq_some HF.out
  clear hX hY hd2 hbl m0 hd0 hsz hw2 a6 b6 bf c0 c6 f6
  have HC := Lib.hid (change_all D M fs (setF fs { f with safe := f.b.length }) room used used ops arm keep (max 0 (fail - 1)) h0 gn hgone 46 #[.pointer (some ⟨w.heap.size + 1, 0, none⟩), .pointer (some ⟨w.heap.size, 0, none⟩)] w2 HD2.out (enters_of Tryd.func46 (by kernel_rfl) rfl _) (fun w1 ht => by
    have x1 := ht.mod.keep HX.out (fun e => by have := HX.out; rw [e, HD2.out.cells] at this; simp at this)
    have y1 := ht.mod.keep HY.out (fun e => by have := HY.out; rw [e, HD2.out.cells] at this; simp at this)
    exact syncs_any D M fs room used (ops + 1) arm keep (max 0 (fail - 1)) f hfm _ _ w1 ht.disk x1 y1))
  go_wp2_with fail
  refine HC.out.mono ?_
  rintro e w3 ⟨he, hd3⟩
  have HD3 := Lib.hid hd3
  have hX3 : w3.heap[w.heap.size + 1]? = some (.cells #[.bool false] 4 (0, 0)) := hd3.mod.keep HX.out (fun hft => by have := H.out.old hft; omega)
  have cX := cell_of_one hX3
  clear hd3 hX3
  have HB2 : Hid (Did D M fs fs room used ops arm keep (max 0 (fail - 1)) w w2) := Lib.hid ⟨(HM0.out.mono (fun t _ ht => .inl ht)).trans (Mod.of_below (by simpa using HBL.out)), HD2.out, fun k hk => .inl hk⟩
  cases gn with
  | true =>
    have he2 : e = goneAt (ops + 1) := he
    clear he
    subst he2
    go_wp2
    exact ⟨rfl, rfl, HD3.out.did HB2.out⟩
  | false =>
    have he2 : e = .returned (.tuple #[]) := he
    clear he
    subst he2
    go_wp2
    go_ret
    exact ⟨by simp [endAt], HD3.out.did HB2.out⟩

set_option maxHeartbeats 1000000 in
theorem sync_fails (D M : Nat) (fs : List PF) (room used ops arm keep fail : Int) (h0 : 0 ≤ ops ∧ ops ≤ 1000000) (gn : Bool) (hgone : (ops + 1 == arm) = gn) (hfail : (fail == 1) = true) (hf0 : 0 ≤ fail ∧ fail ≤ 9223372036854775807)
    (s : ByteArray) (hs : s.size ≤ 9223372036854775807) (f : PF) (hf : findF fs s.data.toList = some f) (w : World) (h : Disk w D M fs room used ops arm keep fail) :
    Calls Tryd.prog 20 #[.pointer (some ⟨D, 0, none⟩), .string s] w fun e w' => e = endAt gn (ops + 1) (.int .i64 5) ∧ Changed gn D M fs fs room used used (ops + 1) arm keep (max 0 (fail - 1)) w w' := by
  obtain ⟨c0, c1, c2, c3, c4, c5, c6, hfz⟩ := dcell h.cells
  have f6 := hfz 6
  have H := Lib.hid h
  have HF := Lib.hid hf
  obtain ⟨g0, g1⟩ := hf0
  have s1 : IntKind.i64.wrap (fail - 1) = fail - 1 := IntWalk.i64_in _ (by omega)
  have hD := lt_of_block h.cells
  have ha : ∀ o, (w.alloc o).heap[D]? = some (.cells (dcells M room used ops arm keep fail) 66 (0, 0)) := fun o => (Below.heap_alloc _ _ _ hD).trans h.cells
  have hb : ∀ o p, ((w.alloc o).alloc p).heap[D]? = some (.cells (dcells M room used ops arm keep fail) 66 (0, 0)) := fun o p => (Below.heap_alloc _ _ _ (lt_of_block (ha o))).trans (ha o)
  have a6 : ∀ o, (w.alloc o).cell? ⟨D, 6, none⟩ = some (.int .i64 fail) := fun o => (dcell (ha o)).2.2.2.2.2.2.1
  have b6 : ∀ o p, ((w.alloc o).alloc p).cell? ⟨D, 6, none⟩ = some (.int .i64 fail) := fun o p => (dcell (hb o p)).2.2.2.2.2.2.1
  have bf : ∀ o p, ((w.alloc o).alloc p).frozen? ⟨D, 6, none⟩ = false := fun o p => (dcell (hb o p)).2.2.2.2.2.2.2 6
  have HBB := Lib.hid hb
  clear h hf hfz c1 c2 c3 c4 c5 ha hb
  go_enter Tryd.func20, Tryd.ntmps20
  go_wp2_with (at_lookup; refine wpList_lookup_own_ok _ rfl _ _ 64 rfl 9 80 keyed9 Tryd.underlying64 ptrR (zero80 _) .nil [] ptrR_nil M fs.length (dataOf fs) rfl H.out.map _ (.string s.data.toList) rfl (key_of hs) ?_)
  intro v ps hv
  rw [atKey_dataOf, HF.out] at hv
  obtain rfl := ptrR_inv hv
  rw [has_dataOf, HF.out]
  clear hv
  go_wp2_with fail
  obtain ⟨w2, hw2⟩ : ∃ w2 : World, w2 = (((w.setCell ⟨D, 6, none⟩ (.int .i64 (max 0 (fail - 1)))).alloc (.cells #[.pointer (some ⟨f.blk, 0, none⟩)] 80)).alloc (.cells #[.bool true] 4)) := ⟨_, rfl⟩
  have m0 := mod_cell D 6 w (.int .i64 (max 0 (fail - 1)))
  have hd0 := H.out.turn m0 (row_setCell H.out.cells 6 (.int .i64 (max 0 (fail - 1))))
  have hsz : (w.setCell ⟨D, 6, none⟩ (.int .i64 (max 0 (fail - 1)))).heap.size = w.heap.size := by simp
  have hbl : Below w.heap.size (w.setCell ⟨D, 6, none⟩ (.int .i64 (max 0 (fail - 1)))) w2 := by
    rw [hw2]
    exact (((Below.refl _ _).alloc (by simp) _).alloc (by simp) _)
  have hd2 : Disk w2 D M fs room used ops arm keep (max 0 (fail - 1)) := hd0.below (by rw [hsz]; exact hbl)
  have hX : w2.heap[w.heap.size + 1]? = some (.cells #[.bool true] 4 (0, 0)) := by
    rw [hw2]
    have := heap_alloc_new ((w.setCell ⟨D, 6, none⟩ (.int .i64 (max 0 (fail - 1)))).alloc (.cells #[.pointer (some ⟨f.blk, 0, none⟩)] 80)) (.cells #[.bool true] 4)
    simpa using this
  have hY : w2.heap[w.heap.size]? = some (.cells #[.pointer (some ⟨f.blk, 0, none⟩)] 80 (0, 0)) := by
    rw [hw2]
    refine (Below.heap_alloc _ _ _ (by simp)).trans ?_
    have := heap_alloc_new (w.setCell ⟨D, 6, none⟩ (.int .i64 (max 0 (fail - 1)))) (.cells #[.pointer (some ⟨f.blk, 0, none⟩)] 80)
    rw [hsz] at this
    exact this
  rw [← hw2]
  have HX := Lib.hid hX
  have HY := Lib.hid hY
  have HD2 := Lib.hid hd2
  have HBL := Lib.hid hbl
  have HM0 := Lib.hid m0
  have hfm : f ∈ fs := List.mem_of_find?_eq_some HF.out
  clear hX hY hd2 hbl m0 hd0 hsz hw2 a6 b6 bf c0 c6 f6
  have HC := Lib.hid (change_all D M fs fs room used used ops arm keep (max 0 (fail - 1)) h0 gn hgone 46 #[.pointer (some ⟨w.heap.size + 1, 0, none⟩), .pointer (some ⟨w.heap.size, 0, none⟩)] w2 HD2.out (enters_of Tryd.func46 (by kernel_rfl) rfl _) (fun w1 ht => by
    have x1 := ht.mod.keep HX.out (fun e => by have := HX.out; rw [e, HD2.out.cells] at this; simp at this)
    have y1 := ht.mod.keep HY.out (fun e => by have := HY.out; rw [e, HD2.out.cells] at this; simp at this)
    exact syncs_not D M fs room used (ops + 1) arm keep (max 0 (fail - 1)) _ _ w1 ht.disk x1 ))
  go_wp2_with fail
  refine HC.out.mono ?_
  rintro e w3 ⟨he, hd3⟩
  have HD3 := Lib.hid hd3
  have hX3 : w3.heap[w.heap.size + 1]? = some (.cells #[.bool true] 4 (0, 0)) := hd3.mod.keep HX.out (fun hft => by have := H.out.old hft; omega)
  have cX := cell_of_one hX3
  clear hd3 hX3
  have HB2 : Hid (Did D M fs fs room used ops arm keep (max 0 (fail - 1)) w w2) := Lib.hid ⟨(HM0.out.mono (fun t _ ht => .inl ht)).trans (Mod.of_below (by simpa using HBL.out)), HD2.out, fun k hk => .inl hk⟩
  cases gn with
  | true =>
    have he2 : e = goneAt (ops + 1) := he
    clear he
    subst he2
    go_wp2
    exact ⟨rfl, rfl, HD3.out.did HB2.out⟩
  | false =>
    have he2 : e = .returned (.tuple #[]) := he
    clear he
    subst he2
    go_wp2
    go_ret
    exact ⟨by simp [endAt], HD3.out.did HB2.out⟩

end Go.Proofs.YtjbhdidjkdlceaaDoor
