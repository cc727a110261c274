/- Sync, by its contract. -/
import Derived.Test.YtjbhdidjkdlceaaDoorNames
namespace Go.Proofs.YtjbhdidjkdlceaaDoor
open Go.RowKit Go.Maps
set_option linter.unusedVariables false

theorem did_safe {D M : Nat} {fs : List PF} {room used ops arm keep fail : Int} {f : PF} (hfm : f ∈ fs) (n : Nat) (hn : n ≤ f.b.length) {w : World} (hFA : FileAt w f) (h : Disk w D M fs room used ops arm keep fail) :
    Did D M fs (setF fs { f with safe := n }) room used ops arm keep fail w (w.setCell ⟨f.blk, 1, none⟩ (.int .i64 n)).drew := by
  have m0 : Mod (fun t => t = f.blk) w (w.setCell ⟨f.blk, 1, none⟩ (.int .i64 n)).drew := (mod_cell f.blk 1 w (.int .i64 n)).drewN 1
  have hat : ∀ t, ({ f with safe := n } : PF).bv.ownBlock = some t → f.bv.ownBlock = some t ∨ w.heap.size ≤ t := fun t ht => .inl ht
  refine ⟨m0.mono (fun t _ ht => .inr (.inr ⟨f, hfm, .inl ht⟩)), h.setFile hfm rfl rfl (m0.mono (fun t _ ht => .inl ht)) ⟨?_, ?_, hn⟩ hat, fun t ht => foot_setF (w := w) (f' := { f with safe := n }) hfm rfl hat ht⟩
  · exact row_setCell hFA.cells 1 _
  · exact m0.row hFA.row (fun t ht e => own_ne hFA.row hFA.cells (by decide) (e ▸ ht))

set_option maxHeartbeats 800000 in
/-- What Sync's closure does where the sync does not fail. -/
theorem syncs_any (D M : Nat) (fs : List PF) (room used ops arm keep fail : Int) (f : PF) (hfm : f ∈ fs) (X Y : Nat) (w : World) (h : Disk w D M fs room used ops arm keep fail)
    (hX : w.heap[X]? = some (.cells #[.bool false] 4 (0, 0))) (hY : w.heap[Y]? = some (.cells #[.pointer (some ⟨f.blk, 0, none⟩)] 80 (0, 0))) :
    Calls Tryd.prog 46 #[.pointer (some ⟨X, 0, none⟩), .pointer (some ⟨Y, 0, none⟩)] w fun e w' => e = .returned (.tuple #[]) ∧ Did D M fs (setF fs { f with safe := f.b.length }) room used ops arm keep fail w w' := by
  have hFA := h.files f hfm
  obtain ⟨fa, fc, hbv⟩ := slice_form hFA.row
  have k0 : w.cell? ⟨f.blk, 0, none⟩ = some f.bv := by rw [cell_of_row _ _ _ _ _ _ hFA.cells]; rfl
  have k1 : w.cell? ⟨f.blk, 1, none⟩ = some (.int .i64 f.safe) := by rw [cell_of_row _ _ _ _ _ _ hFA.cells]; rfl
  have kf : w.frozen? ⟨f.blk, 1, none⟩ = false := frozen_of_row _ _ _ _ _ hFA.cells
  rw [hbv] at k0
  have cX := cell_of_one hX
  have cY := cell_of_one hY
  have HBV := Lib.hid hbv
  have H := Lib.hid h
  have HFA := Lib.hid hFA
  clear h hFA hbv hX hY
  go_enter Tryd.func46, Tryd.ntmps46
  go_wp2_with fail
  go_region
  go_wp2
  go_end0
  exact ⟨rfl, did_safe hfm f.b.length (Nat.le_refl _) HFA.out H.out⟩

set_option maxHeartbeats 800000 in
/-- change, where the power does not go: what is handed over is done, in the world where the change is counted. -/
theorem change_any (D M : Nat) (fs : List PF) (room used ops arm keep fail : Int) (h0 : 0 ≤ ops ∧ ops ≤ 1000000) (hgone : (ops + 1 == arm) = false) (g : FuncId) (cap : Array Value) (Q : World → Prop) (w : World) (h : Disk w D M fs room used ops arm keep fail)
    (hcall : ∀ w, (callFunc g cap).run Tryd.prog w = .ok (.enter g cap) w)
    (hdo : ∀ w1, Turned D M fs room used (ops + 1) arm keep fail w w1 → Calls Tryd.prog g cap w1 fun e w' => e = .returned (.tuple #[]) ∧ Q w') :
    Calls Tryd.prog 44 #[.pointer (some ⟨D, 0, none⟩), .func (.func g) #[] cap] w fun e w' => e = .returned (.tuple #[]) ∧ Q w' := by
  have HB := Lib.hid (begin_any D M fs room used ops arm keep fail h0 w h)
  have HDO := Lib.hid hdo
  clear h hdo
  go_enter Tryd.func44, Tryd.ntmps44
  go_wp2_with fail
  refine HB.out.mono ?_
  rintro e w1 ⟨rfl, ht⟩
  have HT := Lib.hid ht
  clear ht
  go_wp2_with fail
  refine (HDO.out w1 HT.out).mono ?_
  rintro e w2 ⟨rfl, hq⟩
  have HQ := Lib.hid hq
  clear hq
  go_wp2
  go_end0
  exact ⟨rfl, HQ.out⟩

end Go.Proofs.YtjbhdidjkdlceaaDoor
