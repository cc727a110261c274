/- DiskRoom, whatever its arguments. -/
import Derived.Test.YtjbhdidjkdlceaaDoorRun
namespace Go.Proofs.YtjbhdidjkdlceaaDoor
open Go.RowKit Go.Maps
set_option linter.unusedVariables false

/-- What an append tells of its room. -/
theorem laid_room (s : PS) (m : Nat) (hg : s.gone = false) : ((laid s m : Nat) : Int) = min (m : Int) (max (s.room - s.used) 0) := by
  unfold laid laid0
  rw [hg]
  simp only [Bool.false_eq_true, if_false]
  omega

theorem At.roomOf {W : World} {s : PS} {w : World} (h : At W s w) {u : Int} (hu : s.room = u) : Calls Tryd.prog 30 #[.pointer (some ⟨W.heap.size + 1, 0, none⟩)] w fun e w' => e = .returned (.int .i64 u) ∧ w' = w := by
  have := room_law h.room
  rw [hu] at this
  exact this

set_option maxRecDepth 100000 in
set_option maxHeartbeats 2000000 in
theorem diskRoom_any {W : World} (n0 : Int) (a : Option Addr) (len cap : Nat) (xs : List AV) (hlen : xs.length = len) (hl : len ≤ 140737488355328) (hacts : ActsAt W a xs) :
    Calls Tryd.prog 7 #[.int .i64 n0, .slice a len cap] W fun e w' => e = .returned (.bool true) ∧ Below W.heap.size W w' := by
  obtain ⟨r1, r2⟩ := roomOf_fits n0
  have HACTS := Lib.hid hacts
  have HLEN := Lib.hid hlen
  clear hacts hlen
  go_enter Tryd.func7, Tryd.ntmps7
  go_wp2_with (first
    | (go_at_call 10; refine (alive_any _).mono ?_; rintro e w1 ⟨rfl, hb1⟩; have HB1 := Lib.hid hb1; clear hb1)
    | fail)
  refine (great_any xs len HLEN.out hl a cap w1 (HACTS.out.keep (Mod.of_below (S := fun _ => False) HB1.out) (fun _ _ => id))).mono ?_
  rintro e w2 ⟨hb2, r, rfl, hgr⟩
  have HB2 : Hid (Below W.heap.size W w2) := Lib.hid (HB1.out.trans (hb2.mono HB1.out.size))
  have HGR := Lib.hid hgr
  clear hb2 hgr HB1
  cases r with
  | true =>
    go_wp2_with (first
      | (go_at_call 10; refine (alive_any _).mono ?_; rintro e w3 ⟨rfl, hb3⟩; have HB3 := Lib.hid hb3; clear hb3)
      | fail)
    go_ret
    exact ⟨by simp, HB2.out.trans (HB3.out.mono HB2.out.size)⟩
  | false =>
    obtain ⟨hfew, hbytes⟩ := HGR.out rfl
    have HF : Hid (Few W w2 a xs) := Lib.hid ⟨HACTS.out, HB2.out, hfew, hbytes⟩
    have hlen200 : len ≤ 200 := by rw [← HLEN.out]; exact hfew
    clear hfew hbytes HGR HACTS
    go_wp2_with (first
      | (go_at_call 13; refine (room_of _ _).mono ?_; rintro e w3 ⟨rfl, rfl⟩)
      | fail)
    refine (at_new (roomOf n0) r1 r2 _).mono ?_
    rintro e w4 ⟨rfl, hat⟩
    have HA0 : Hid (Ahead w3 xs 0 (newS (roomOf n0)) w4) := Lib.hid ⟨hat, newS_ok r1 r2⟩
    clear hat
    go_wp2_with fail
    go_loopw [36] (fun i wr => ∃ j : Nat, ∃ s : PS, j ≤ len ∧ i = .int .i64 j ∧ Ahead w3 xs j s wr) (fun i _ => len - (intOf i).toNat)
    case atStart => exact ⟨0, _, Nat.zero_le _, rfl, HA0.out⟩
    case round =>
      obtain ⟨j, s, hj, rfl, hah⟩ := hrel
      have HAH := Lib.hid hah
      clear hah
      by_cases hlt : j < len
      · obtain ⟨x, hx⟩ : ∃ x, xs[j]? = some x := ⟨xs[j]'(by rw [HLEN.out]; exact hlt), List.getElem?_eq_getElem _⟩
        obtain ⟨k, n1, kp, A, B, ra, bs, rc⟩ := x
        obtain ⟨b1, o1, rfl, q0, q1, q2, q3, q4, q5⟩ := HAH.out.cells HF.out hx
        dsimp only at q0 q1 q2 q3 q4 q5
        have HX := Lib.hid hx
        clear hx
        obtain ⟨wa, hwa⟩ : ∃ wa : World, wa = wr.alloc (.cells #[.int .i64 k, .int .i64 n1, .int .i64 kp, .string A, .string B, .slice ra bs.length rc] 36) := ⟨_, rfl⟩
        have hbox : wa.heap[wr.heap.size]? = some (.cells (cA k n1 kp A B ra bs.length rc) 36 (0, 0)) := by rw [hwa]; exact heap_alloc_new _ _
        have HAA : Hid (Ahead w3 xs j s wa) := Lib.hid (HAH.out.more (by rw [hwa]; exact (Below.refl _ _).alloc (Nat.le_refl _) _))
        have p0 : wa.cell? ⟨wr.heap.size, 0, none⟩ = some (.int .i64 k) := by rw [cell_of_row _ _ _ _ _ _ hbox]; rfl
        have p1 : wa.cell? ⟨wr.heap.size, 1, none⟩ = some (.int .i64 n1) := by rw [cell_of_row _ _ _ _ _ _ hbox]; rfl
        have p2 : wa.cell? ⟨wr.heap.size, 2, none⟩ = some (.int .i64 kp) := by rw [cell_of_row _ _ _ _ _ _ hbox]; rfl
        have p3 : wa.cell? ⟨wr.heap.size, 3, none⟩ = some (.string A) := by rw [cell_of_row _ _ _ _ _ _ hbox]; rfl
        have p4 : wa.cell? ⟨wr.heap.size, 4, none⟩ = some (.string B) := by rw [cell_of_row _ _ _ _ _ _ hbox]; rfl
        have p5 : wa.cell? ⟨wr.heap.size, 5, none⟩ = some (.slice ra bs.length rc) := by rw [cell_of_row _ _ _ _ _ _ hbox]; rfl
        have hcl0 : Calls Tryd.prog 14 #[.pointer (some ⟨w3.heap.size + 1, 0, none⟩), .agg (cA k n1 kp A B ra bs.length rc)] wa fun e w' => e = .returned (s.act (paOf k n1 kp A B bs)).1.end4 ∧ Ahead w3 xs (j + 1) (s.act (paOf k n1 kp A B bs)).2 w' ∧ w'.heap[wr.heap.size]? = some (.cells (cA k n1 kp A B ra bs.length rc) 36 (0, 0)) := HAH.out.call_box HF.out HX.out hwa
        have HU := Lib.hid (HAA.out.lies.used rfl)
        have HM := Lib.hid (HAA.out.lies.roomOf rfl)
        have HCL := Lib.hid hcl0
        have HBOX := Lib.hid hbox
        have HOK := Lib.hid HAA.out.ok
        have u1 := HOK.out.used
        have u2 := HOK.out.tot
        have u3 := HOK.out.room
        have u4 : tk xs j + bs.length ≤ 5000 := HF.out.bytes_of HX.out
        have hu : 0 ≤ s.used ∧ s.used ≤ 5000 := by omega
        have hm : bs.length ≤ 5000 := by omega
        have HWA := Lib.hid hwa
        clear hcl0 hbox hwa u1 u2 u4
        go_upto_region 9 with (fail)
        rw [← HWA.out]
        by_cases hk : k = 0
        · subst hk
          have e0 : s.act (paOf 0 n1 kp A B bs) = s.append A.data.toList bs := rfl
          rw [e0] at HCL
          by_cases hnm : isName A.data.toList = false
          · have e1 : s.append A.data.toList bs = (.told 0 16, s) := if_pos hnm
            have hcl : Calls Tryd.prog 14 #[.pointer (some ⟨w3.heap.size + 1, 0, none⟩), .agg (cA 0 n1 kp A B ra bs.length rc)] wa fun e w' => e = .returned (.tuple #[.int .i64 0, .int .i64 16, .bool false, .int .i64 0]) ∧ Ahead w3 xs (j + 1) s w' ∧ w'.heap[wr.heap.size]? = some (.cells (cA 0 n1 kp A B ra bs.length rc) 36 (0, 0)) := by
              have := HCL.out
              rw [e1] at this
              exact this
            have HC := Lib.hid hcl
            clear hcl HCL
            go_wp2_with (first
              | (go_at_call 14; refine HC.out.mono ?_; rintro e w6 ⟨rfl, hah6, hbx⟩; have HA6 := Lib.hid hah6; have z5 : w6.cell? ⟨wr.heap.size, 5, none⟩ = some (.slice ra bs.length rc) := (by rw [cell_of_row _ _ _ _ _ _ hbx]; rfl); have HU6 := Lib.hid (hah6.lies.used rfl); clear hah6 hbx)
              | (go_at_call 29; first | (refine HU.out.mono ?_; rintro e w5 ⟨rfl, rfl⟩) | (refine HU6.out.mono ?_; rintro e w7 ⟨rfl, rfl⟩))
              | (go_at_call 30; refine HM.out.mono ?_; rintro e w5 ⟨rfl, rfl⟩))
            go_roundw
            case rel => exact ⟨j + 1, _, by omega, by go_num, HA6.out⟩
            case measure => simp [intOf]; omega
          · have hnm' : isName A.data.toList = true := by simpa using hnm
            cases hg : s.gone with
            | true =>
              obtain ⟨s2, hs2⟩ : ∃ s2, s.append A.data.toList bs = (.gone (s.ops + 1), s2) := ⟨_, Prod.ext (by rw [append_of hnm', hg]; rfl) rfl⟩
              have hcl : Calls Tryd.prog 14 #[.pointer (some ⟨w3.heap.size + 1, 0, none⟩), .agg (cA 0 n1 kp A B ra bs.length rc)] wa fun e w' => e = .returned (.tuple #[.int .i64 0, .int .i64 0, .bool true, .int .i64 (s.ops + 1)]) ∧ Ahead w3 xs (j + 1) s2 w' ∧ w'.heap[wr.heap.size]? = some (.cells (cA 0 n1 kp A B ra bs.length rc) 36 (0, 0)) := by
                have := HCL.out
                rw [hs2] at this
                exact this
              have HC := Lib.hid hcl
              clear hcl HCL
              go_wp2_with (first
                | (go_at_call 14; refine HC.out.mono ?_; rintro e w6 ⟨rfl, hah6, hbx⟩; have HA6 := Lib.hid hah6; have z5 : w6.cell? ⟨wr.heap.size, 5, none⟩ = some (.slice ra bs.length rc) := (by rw [cell_of_row _ _ _ _ _ _ hbx]; rfl); have HU6 := Lib.hid (hah6.lies.used rfl); clear hah6 hbx)
                | (go_at_call 29; first | (refine HU.out.mono ?_; rintro e w5 ⟨rfl, rfl⟩) | (refine HU6.out.mono ?_; rintro e w7 ⟨rfl, rfl⟩))
                | (go_at_call 30; refine HM.out.mono ?_; rintro e w5 ⟨rfl, rfl⟩))
              go_roundw
              case rel => exact ⟨j + 1, _, by omega, by go_num, HA6.out⟩
              case measure => simp [intOf]; omega
            | false =>
              have hlr := laid_room s bs.length hg
              obtain ⟨m, hmm⟩ : ∃ m : Nat, m = laid s bs.length := ⟨_, rfl⟩
              rw [← hmm] at hlr
              have hml : m ≤ bs.length := by rw [hmm]; exact laid_le _ _
              by_cases hfit : m < bs.length
              · obtain ⟨s2, hs2, hu2⟩ : ∃ s2, s.append A.data.toList bs = (.told m 4, s2) ∧ s2.used = s.used + m := ⟨_, Prod.ext (by rw [append_of hnm', hg, ← hmm]; simp only [Bool.false_eq_true, if_false, errOf, if_pos hfit]) rfl, by rw [append_of hnm', ← hmm]⟩
                have hcl : Calls Tryd.prog 14 #[.pointer (some ⟨w3.heap.size + 1, 0, none⟩), .agg (cA 0 n1 kp A B ra bs.length rc)] wa fun e w' => e = .returned (.tuple #[.int .i64 (m : Nat), .int .i64 4, .bool false, .int .i64 0]) ∧ Ahead w3 xs (j + 1) s2 w' ∧ w'.heap[wr.heap.size]? = some (.cells (cA 0 n1 kp A B ra bs.length rc) 36 (0, 0)) := by
                  have := HCL.out
                  rw [hs2] at this
                  exact this
                have HC := Lib.hid hcl
                clear hcl HCL
                go_wp2_with (first
                  | (go_at_call 14; refine HC.out.mono ?_; rintro e w6 ⟨rfl, hah6, hbx⟩; have HA6 := Lib.hid hah6; have z5 : w6.cell? ⟨wr.heap.size, 5, none⟩ = some (.slice ra bs.length rc) := (by rw [cell_of_row _ _ _ _ _ _ hbx]; rfl); have HU6 := Lib.hid (hah6.lies.used hu2); clear hah6 hbx)
                  | (go_at_call 29; first | (refine HU.out.mono ?_; rintro e w5 ⟨rfl, rfl⟩) | (refine HU6.out.mono ?_; rintro e w7 ⟨rfl, rfl⟩))
                  | (go_at_call 30; refine HM.out.mono ?_; rintro e w5 ⟨rfl, rfl⟩))
                go_roundw
                case rel => exact ⟨j + 1, _, by omega, by go_num, HA6.out⟩
                case measure => simp [intOf]; omega
              · obtain ⟨s2, hs2, hu2⟩ : ∃ s2, s.append A.data.toList bs = (.told m 0, s2) ∧ s2.used = s.used + m := ⟨_, Prod.ext (by rw [append_of hnm', hg, ← hmm]; simp only [Bool.false_eq_true, if_false, errOf, if_neg hfit]) rfl, by rw [append_of hnm', ← hmm]⟩
                have hcl : Calls Tryd.prog 14 #[.pointer (some ⟨w3.heap.size + 1, 0, none⟩), .agg (cA 0 n1 kp A B ra bs.length rc)] wa fun e w' => e = .returned (.tuple #[.int .i64 (m : Nat), .int .i64 0, .bool false, .int .i64 0]) ∧ Ahead w3 xs (j + 1) s2 w' ∧ w'.heap[wr.heap.size]? = some (.cells (cA 0 n1 kp A B ra bs.length rc) 36 (0, 0)) := by
                  have := HCL.out
                  rw [hs2] at this
                  exact this
                have HC := Lib.hid hcl
                clear hcl HCL
                go_wp2_with (first
                  | (go_at_call 14; refine HC.out.mono ?_; rintro e w6 ⟨rfl, hah6, hbx⟩; have HA6 := Lib.hid hah6; have z5 : w6.cell? ⟨wr.heap.size, 5, none⟩ = some (.slice ra bs.length rc) := (by rw [cell_of_row _ _ _ _ _ _ hbx]; rfl); have HU6 := Lib.hid (hah6.lies.used hu2); clear hah6 hbx)
                  | (go_at_call 29; first | (refine HU.out.mono ?_; rintro e w5 ⟨rfl, rfl⟩) | (refine HU6.out.mono ?_; rintro e w7 ⟨rfl, rfl⟩))
                  | (go_at_call 30; refine HM.out.mono ?_; rintro e w5 ⟨rfl, rfl⟩))
                go_roundw
                case rel => exact ⟨j + 1, _, by omega, by go_num, HA6.out⟩
                case measure => simp [intOf]; omega
        · have hk0 : (k == 0) = false := by simpa using hk
          go_wp2_with (first
            | (go_at_call 29; refine HU.out.mono ?_; rintro e w5 ⟨rfl, rfl⟩)
            | (go_at_call 30; refine HM.out.mono ?_; rintro e w5 ⟨rfl, rfl⟩)
            | (go_at_call 14; refine HCL.out.mono ?_; rintro e w6 ⟨rfl, hah6, _⟩; have HA6 := Lib.hid hah6; clear hah6))
          go_roundw
          case rel => exact ⟨j + 1, _, by omega, by go_num, HA6.out⟩
          case measure => simp [intOf]; omega
      · go_wp2
        go_ret
        exact ⟨by simp, HB2.out.trans (HAH.out.lies.below.mono HB2.out.size)⟩

theorem diskRoom_walk {H : Type} {enc : TypeId × Value → H} {W : World} (n : Int) (wn : (Lit.int .i64 n).wf = true) (a : Option Addr) (len cap : Nat) {d : DataW H} {p : List MemPlace} (h : DataW.Trod enc Tryd.prog W 0 (fun _ => true) true 22 (.slice a len cap) d p) (hw : ∀ k ∈ d.weights Tryd.prog 22, k ≤ reachBytes) :
    Calls Tryd.prog 7 #[.int .i64 n, .slice a len cap] W fun e w' => e = .returned (.bool true) ∧ Below W.heap.size W w' := by
  obtain ⟨xs, h1, h2, h3⟩ := acts_open h hw
  exact diskRoom_any n a len cap xs h1 h3 h2

end Go.Proofs.YtjbhdidjkdlceaaDoor
