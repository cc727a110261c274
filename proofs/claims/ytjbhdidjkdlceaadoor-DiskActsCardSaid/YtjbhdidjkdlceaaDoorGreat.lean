/- great, by its contract. -/
import Derived.Test.YtjbhdidjkdlceaaDoorOpen
namespace Go.Proofs.YtjbhdidjkdlceaaDoor
open Go.RowKit Go.Maps
set_option linter.unusedVariables false

/-- An act's six cells. -/
theorem act6 {w : World} {b o : Nat} {x : AV} (h : w.rangeAt b o x.cs.toList) : w.cell? ⟨b, o, none⟩ = some (.int .i64 x.k) ∧ w.cell? ⟨b, o + 1, none⟩ = some (.int .i64 x.n) ∧ w.cell? ⟨b, o + 2, none⟩ = some (.int .i64 x.kp) ∧
    w.cell? ⟨b, o + 3, none⟩ = some (.string x.A) ∧ w.cell? ⟨b, o + 4, none⟩ = some (.string x.B) ∧ w.cell? ⟨b, o + 5, none⟩ = some (.slice x.ra x.bs.length x.rc) :=
  ⟨h 0 _ rfl, h 1 _ rfl, h 2 _ rfl, h 3 _ rfl, h 4 _ rfl, h 5 _ rfl⟩

/-- What great tells: where it says no the acts are few, and so are their bytes. -/
structure GreatTold (xs : List AV) (w : World) (e : Ending) (w' : World) : Prop where
  below : Below w.heap.size w w'
  ex : ∃ r : Bool, e = .returned (.bool r) ∧ (r = false → xs.length ≤ 200 ∧ ((xs.map (fun x => x.bs.length)).sum ≤ 5000))

set_option maxRecDepth 100000 in
set_option maxHeartbeats 1000000 in
theorem great_any (xs : List AV) (n : Nat) (hn : xs.length = n) (hn1 : n ≤ 140737488355328) (a : Option Addr) (c : Nat) (w : World) (h : ActsAt w a xs) :
    Calls Tryd.prog 11 #[.slice a n c] w (GreatTold xs w) := by
  have H := Lib.hid h
  have HN := Lib.hid hn
  clear h hn
  go_enter Tryd.func11, Tryd.ntmps11
  go_wp2
  go_loopw [3, 8] (fun t i wr => ∃ j : Nat, ∃ z : Int, j ≤ n ∧ i = .int .i64 j ∧ t = .int .i64 z ∧ (j ≤ 200 → z = ((xs.take j).map (fun x => x.bs.length)).sum ∧ ((xs.take j).map (fun x => x.bs.length)).sum ≤ j * 140737488355328) ∧ Below w.heap.size w wr) (fun _ i _ => n - (intOf i).toNat)
  case atStart => exact ⟨0, 0, Nat.zero_le _, rfl, rfl, fun _ => ⟨by simp, by simp⟩, Below.refl _ _⟩
  case round =>
    obtain ⟨j, z, hj, rfl, rfl, hz, hbel⟩ := hrel
    have HZ := Lib.hid hz
    have HB := Lib.hid hbel
    clear hz hbel
    by_cases hlt : j < n
    · obtain ⟨x, hx⟩ : ∃ x, xs[j]? = some x := ⟨xs[j]'(by rw [HN.out]; exact hlt), List.getElem?_eq_getElem _⟩
      obtain ⟨b1, o1, rfl, hr, hfit⟩ := (H.out.keep (Mod.of_below (S := fun _ => False) HB.out) (fun _ _ => id)).cells j x hx
      obtain ⟨q0, q1, q2, q3, q4, q5⟩ := act6 hr
      have hxl : x.bs.length ≤ 140737488355328 := hfit.len
      have htake : xs.take (j + 1) = xs.take j ++ [x] := by rw [List.take_add_one, hx]; rfl
      have HTK := Lib.hid htake
      clear hx htake hr hfit
      go_wp2
      go_roundw
      case rel =>
        refine ⟨j + 1, wrap64 (z + x.bs.length), by omega, by go_num, rfl, fun h200 => ?_, HB.out.alloc HB.out.size _⟩
        obtain ⟨h1, h2⟩ := HZ.out (by omega)
        rw [HTK.out]
        simp only [List.map_append, List.map_cons, List.map_nil, List.sum_append, List.sum_cons, List.sum_nil]
        generalize ((xs.take j).map (fun x => x.bs.length)).sum = y at *
        constructor
        · rw [h1]
          unfold wrap64
          omega
        · omega
      case measure => simp [intOf]; omega
    · have : j = n := by omega
      subst this
      have hall : xs.take j = xs := List.take_of_length_le (by rw [HN.out]; exact Nat.le_refl _)
      have HALL := Lib.hid hall
      clear hall
      by_cases h200 : j ≤ 200
      · obtain ⟨h1, h2⟩ := HZ.out h200
        rw [HALL.out] at h1 h2
        have H1 := Lib.hid h1
        clear h1
        go_wp2
        all_goals go_ret
        all_goals refine ⟨HB.out, _, rfl, fun hg => ?_⟩
        · simp at hg
          have h3 := H1.out
          have h4 := HN.out
          omega
      · go_wp2
        all_goals go_ret
        all_goals refine ⟨HB.out, _, rfl, fun hg => ?_⟩
        · simp at hg

end Go.Proofs.YtjbhdidjkdlceaaDoor
