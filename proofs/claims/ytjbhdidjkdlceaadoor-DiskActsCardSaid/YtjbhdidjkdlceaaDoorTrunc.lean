/- Truncate, by its contract. -/
import Derived.Test.YtjbhdidjkdlceaaDoorCrash
namespace Go.Proofs.YtjbhdidjkdlceaaDoor
open Go.RowKit Go.Maps
set_option linter.unusedVariables false

theorem row_cap {w : World} {base : Nat} {e : TypeId} {a : Option Addr} {n c : Nat} {xs : List Value} (h : w.ownsRow base e 1 (.slice a n c) n xs) : n ≤ c := by
  obtain ⟨_, ⟨hv, _⟩ | ⟨g, cap, cur, hv, _, _, h6, _⟩⟩ := h
  · simp only [Value.slice.injEq] at hv
    omega
  · simp only [Value.slice.injEq] at hv
    omega

theorem did_cut {D M : Nat} {fs : List PF} {room used ops arm keep fail : Int} {f : PF} (hfm : f ∈ fs) (n s : Nat) (hn : n ≤ f.b.length) (hs : s ≤ n) {w w' : World} (h : Disk w D M fs room used ops arm keep fail)
    (m : Mod (fun t => t = f.blk) w w') (hc : w'.heap[f.blk]? = some (.cells #[cutV f.bv n, .int .i64 s] 83 (0, 0))) : Did D M fs (setF fs (cutTo f n s)) room used ops arm keep fail w w' := by
  have hFA := h.files f hfm
  obtain ⟨fa, fc, hbv⟩ := slice_form hFA.row
  have hat : ∀ t, (cutTo f n s).bv.ownBlock = some t → f.bv.ownBlock = some t ∨ w.heap.size ≤ t := fun t ht => .inl (by rw [← ht]; exact (cutV_block f.bv n).symm)
  refine ⟨m.mono (fun t _ ht => .inr (.inr ⟨f, hfm, .inl ht⟩)), h.setFile hfm rfl rfl (m.mono (fun t _ ht => .inl ht)) ⟨hc, ?_, ?_⟩ hat, fun t ht => foot_setF (w := w) (f' := cutTo f n s) hfm rfl hat ht⟩
  · have hr := hFA.row
    have hlen : (f.b.take n).length = n := by rw [List.length_take]; omega
    show w'.ownsRow 0 5 1 (cutV f.bv n) (f.b.take n).length ((f.b.take n).map bv)
    rw [hlen, List.map_take]
    have hr2 := m.row hr (fun t ht e => own_ne hr hFA.cells (by decide) (e ▸ ht))
    rw [hbv] at hr2 ⊢
    exact row_prefix hr2 hn
  · show s ≤ (f.b.take n).length
    rw [List.length_take]
    omega

set_option maxHeartbeats 1000000 in
/-- What Truncate's closure does. -/
theorem truncates_any (D M : Nat) (fs : List PF) (room used ops arm keep fail : Int) (f : PF) (hfm : f ∈ fs) (n : Nat) (hn : n ≤ f.b.length) (hl : f.b.length ≤ 1000000) (hu : 0 ≤ used ∧ used ≤ 1000000000) (X Y Z : Nat) (w : World) (h : Disk w D M fs room used ops arm keep fail)
    (hX : w.heap[X]? = some (.cells #[.pointer (some ⟨D, 0, none⟩)] 25 (0, 0))) (hY : w.heap[Y]? = some (.cells #[.pointer (some ⟨f.blk, 0, none⟩)] 80 (0, 0))) (hZ : w.heap[Z]? = some (.cells #[.int .i64 n] 3 (0, 0))) :
    Calls Tryd.prog 45 #[.pointer (some ⟨X, 0, none⟩), .pointer (some ⟨Y, 0, none⟩), .pointer (some ⟨Z, 0, none⟩)] w fun e w' => e = .returned (.tuple #[]) ∧ Did D M fs (setF fs (cutTo f n (min f.safe n))) room (used - (f.b.length - n)) ops arm keep fail w w' := by
  have hFA := h.files f hfm
  obtain ⟨fa, fc, hbv⟩ := slice_form hFA.row
  have k0 : w.cell? ⟨f.blk, 0, none⟩ = some f.bv := by rw [cell_of_row _ _ _ _ _ _ hFA.cells]; rfl
  have k1 : w.cell? ⟨f.blk, 1, none⟩ = some (.int .i64 f.safe) := by rw [cell_of_row _ _ _ _ _ _ hFA.cells]; rfl
  rw [hbv] at k0
  obtain ⟨c0, c1, c2, c3, c4, c5, c6, hfz⟩ := dcell h.cells
  have f2 := hfz 2
  have cX := cell_of_one hX
  have cY := cell_of_one hY
  have cZ := cell_of_one hZ
  have HBV := Lib.hid hbv
  have H := Lib.hid h
  have HFA := Lib.hid hFA
  have HX := Lib.hid hX
  have HY := Lib.hid hY
  have HZ := Lib.hid hZ
  have s1 : IntKind.i64.wrap (f.b.length - n) = f.b.length - n := IntWalk.i64_in _ (by omega)
  have s2 : IntKind.i64.wrap (used - (f.b.length - n)) = used - (f.b.length - n) := IntWalk.i64_in _ (by omega)
  clear h hFA hbv hX hY hZ hfz c0 c1 c3 c4 c5 c6
  go_enter Tryd.func45, Tryd.ntmps45
  go_wp2_with fail
  go_region
  obtain ⟨w1, hw1⟩ : ∃ w1 : World, w1 = (w.setCell ⟨D, 2, none⟩ (.int .i64 (used - (f.b.length - n)))).drew := ⟨_, rfl⟩
  rw [← hw1]
  have m1 : Mod (fun t => t = D) w w1 := by rw [hw1]; exact (mod_cell D 2 w _).drewN 1
  have hd1 : Disk w1 D M fs room (used - (f.b.length - n)) ops arm keep fail := H.out.turn m1 (by rw [hw1]; exact row_setCell H.out.cells 2 _)
  have hX1 := m1.keep HX.out (fun e => by have := HX.out; rw [e, H.out.cells] at this; simp at this)
  have hY1 := m1.keep HY.out (fun e => by have := HY.out; rw [e, H.out.cells] at this; simp at this)
  have hZ1 := m1.keep HZ.out (fun e => by have := HZ.out; rw [e, H.out.cells] at this; simp at this)
  have hF1 := hd1.files f hfm
  have k0 : w1.cell? ⟨f.blk, 0, none⟩ = some f.bv := by rw [cell_of_row _ _ _ _ _ _ hF1.cells]; rfl
  have kf : w1.frozen? ⟨f.blk, 0, none⟩ = false := frozen_of_row _ _ _ _ _ hF1.cells
  rw [HBV.out] at k0
  have cX := cell_of_one hX1
  have cY := cell_of_one hY1
  have cZ := cell_of_one hZ1
  have HT1 := Lib.hid (Turned.mk m1 hd1)
  have HF1 := Lib.hid hF1
  have HX1 := Lib.hid hX1
  have HY1 := Lib.hid hY1
  have HZ1 := Lib.hid hZ1
  have hcap : n ≤ fc := by
    have := HFA.out.row
    rw [HBV.out] at this
    have := row_cap this
    omega
  clear hX1 hY1 hZ1 m1 hd1 hF1 hw1
  have e1 : (n : Int) ≤ fc := by omega
  go_wp2_with fail
  go_region
  obtain ⟨w2, hw2⟩ : ∃ w2 : World, w2 = (w1.setCell ⟨f.blk, 0, none⟩ (.slice fa n fc)).drew := ⟨_, rfl⟩
  rw [← hw2]
  have m2 : Mod (fun t => t = f.blk) w1 w2 := by rw [hw2]; exact (mod_cell f.blk 0 w1 _).drewN 1
  have hF2 : w2.heap[f.blk]? = some (.cells #[.slice fa n fc, .int .i64 f.safe] 83 (0, 0)) := by rw [hw2]; exact row_setCell HF1.out.cells 0 _
  have hX2 := m2.keep HX1.out (fun e => by have := HX1.out; rw [e, HF1.out.cells] at this; simp at this)
  have hY2 := m2.keep HY1.out (fun e => by have := HY1.out; rw [e, HF1.out.cells] at this; simp at this)
  have hZ2 := m2.keep HZ1.out (fun e => by have := HZ1.out; rw [e, HF1.out.cells] at this; simp at this)
  have k1 : w2.cell? ⟨f.blk, 1, none⟩ = some (.int .i64 f.safe) := by rw [cell_of_row _ _ _ _ _ _ hF2]; rfl
  have kf1 : w2.frozen? ⟨f.blk, 1, none⟩ = false := frozen_of_row _ _ _ _ _ hF2
  have cX := cell_of_one hX2
  have cY := cell_of_one hY2
  have cZ := cell_of_one hZ2
  have HF2 := Lib.hid hF2
  have HM2 := Lib.hid m2
  clear hX2 hY2 hZ2 m2 hF2 hw2
  go_wp2_with fail
  go_region
  go_wp2
  go_end0
  refine ⟨rfl, (Did.of_turned HT1.out).trans (did_cut hfm n (min f.safe n) hn (Nat.min_le_right _ _) HT1.out.disk (HM2.out.trans ((mod_cell f.blk 1 w2 _).drewN 1)) ?_)⟩
  have := row_setCell HF2.out 1 (.int .i64 ((min f.safe n : Nat) : Int))
  rw [HBV.out, show (min (f.safe : Int) n) = ((min f.safe n : Nat) : Int) by omega]
  exact this

end Go.Proofs.YtjbhdidjkdlceaaDoor
