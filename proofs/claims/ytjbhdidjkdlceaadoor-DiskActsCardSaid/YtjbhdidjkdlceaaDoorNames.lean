/- Names, by its contract. -/
import Derived.Test.YtjbhdidjkdlceaaDoorRead
namespace Go.Proofs.YtjbhdidjkdlceaaDoor
open Go.RowKit Go.Maps Go.Sort Go.Shelf
set_option linter.unusedVariables false

theorem keys_plain (M : Nat) (w : World) : Calls Tryd.prog 51 #[.map (some M)] w fun e w' => e = .returned (.func (.func 60) #[] #[.pointer (some ⟨w.heap.size, 0, none⟩)]) ∧ w' = w.alloc (.cells #[.map (some M)] 64) :=
  callsIn_wide.1 (Tryd.maps_Keys_51 (some M) w)

set_option maxHeartbeats 800000 in
theorem names_any (D M : Nat) (fs : List PF) (room used ops arm keep fail : Int) (hfl : fs.length ≤ 1000000) (w : World) (h : Disk w D M fs room used ops arm keep fail) :
    Calls Tryd.prog 28 #[.pointer (some ⟨D, 0, none⟩)] w fun e w' => ∃ (a : Option Addr) (c : Nat) (ss : List (List UInt8)), e = .returned (.slice a ss.length c) ∧ ss.Perm (strKeys (dataOf fs)) ∧
      w'.ownsRow w.heap.size 9 1 (.slice a ss.length c) ss.length ((ss.mergeSort (fun x y => decide (x ≤ y))).map encStr) ∧ Below w.heap.size w w' := by
  obtain ⟨c0, c1, c2, c3, c4, c5, c6, hfz⟩ := dcell h.cells
  have hsz : Maps.size (dataOf fs) = fs.length := size_dataOf fs
  have hS := callsIn_wide.1 (Tryd.slices_Sorted_keys_50_51 M fs.length (dataOf fs) ptrR w h.map (by rw [hsz]; unfold maxLen; omega) (by rw [hsz]; omega))
  have HS := Lib.hid hS
  have HK := Lib.hid (keys_plain M w)
  clear h hfz c1 c2 c3 c4 c5 c6 hS hsz
  go_enter Tryd.func28, Tryd.ntmps28
  go_wp2_with (first
    | (go_at_call 51; refine HK.out.mono ?_; rintro e w' ⟨rfl, rfl⟩)
    | (go_at_call 50; refine HS.out.mono ?_; rintro e w' ⟨v, ss, rfl, hp, hr, _, hb⟩; obtain ⟨a, c, rfl⟩ := slice_form hr; have HP := Lib.hid hp; have HR := Lib.hid hr; have HB := Lib.hid hb; clear hp hr hb))
  go_ret
  refine ⟨a, c, ss, rfl, HP.out, HR.out.mono (by simp), ((Below.refl _ w).alloc (Nat.le_refl _) _).trans (HB.out.mono (by simp))⟩

end Go.Proofs.YtjbhdidjkdlceaaDoor
