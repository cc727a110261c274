/- Power, by its contract: the walk. -/
import Derived.Test.YtjbhdidjkdlceaaDoorPower
import Derived.Test.YtjbhdidjkdlceaaDoorTruncd
namespace Go.Proofs.YtjbhdidjkdlceaaDoor
open Go.RowKit Go.Maps
set_option linter.unusedVariables false

/-- What holds behind some rounds of Power's loop. -/
structure Turning (D M : Nat) (fs : List PF) (room used ops arm keep0 fail keep : Int) (r : Nat) (w : World) (left : Lit → Bool) (cnt : Nat) (wr : World) : Prop where
  rng : wr.ranges Tryd.prog 9 ptrR M r fs.length (dataOf fs) left cnt
  disk : Disk wr D M (halfway keep left fs) room (used - totF fs + totF (halfway keep left fs)) ops arm keep0 fail
  mod : Mod (Foot D M fs) w wr
  new : w.heap.size ≤ r ∧ r < wr.heap.size

set_option maxHeartbeats 1000000 in
theorem power_any (D M : Nat) (fs : List PF) (room used ops arm keep0 fail keep : Int) (hu : 0 ≤ used ∧ used ≤ 1000000000) (ht : totF fs ≤ 1000000000) (w : World) (h : Disk w D M fs room used ops arm keep0 fail) :
    Calls Tryd.prog 26 #[.pointer (some ⟨D, 0, none⟩), .int .i64 keep] w fun e w' => e = .returned (.int .i64 0) ∧
      Did D M fs (fs.map (fun f => cutTo f (keepOf keep f) (keepOf keep f))) room (used - totF fs + totF (fs.map (fun f => cutTo f (keepOf keep f) (keepOf keep f)))) ops 0 keep0 0 w w' := by
  obtain ⟨c0, c1, c2, c3, c4, c5, c6, hfz⟩ := dcell h.cells
  have H := Lib.hid h
  clear h hfz c1 c2 c3 c4 c5 c6
  go_enter Tryd.func26, Tryd.ntmps26
  go_wp2_with (at_range; refine wpList_range_own _ rfl _ 64 rfl 9 80 keyed9 Tryd.underlying64 ptrR M fs.length (dataOf fs) rfl H.out.map ?_; intro w0 hrg0 hg0 hs0)
  go_frame
  have hat0 : Turning D M fs room used ops arm keep0 fail keep w.heap.size w (Maps.has (dataOf fs)) (Maps.size (dataOf fs)) w0 := by
    have m0 : Mod (fun _ => False) w w0 := Mod.grown hg0 (fun k hk => by cases hk)
    refine ⟨hrg0, ?_, m0.mono (fun t _ e => e.elim), Nat.le_refl _, by omega⟩
    rw [halfway_all, show used - (totF fs : Int) + totF fs = used by omega]
    exact H.out.keep m0 (fun _ _ e => e)
  have HAT := Lib.hid hat0
  clear hat0 hrg0 hg0 hs0
  go_loopw [6] (fun _ wr => ∃ left cnt, Turning D M fs room used ops arm keep0 fail keep w.heap.size w left cnt wr) (fun _ wr => wr.rangeLeft M w.heap.size)
  case atStart => exact ⟨_, _, HAT.out⟩
  case round =>
    obtain ⟨left, cnt, hrel⟩ := hrel
    have HREL := Lib.hid hrel
    clear hrel
    go_wp2_with (first
      | (at_next; refine wpList_next_ranges _ rfl _ rfl 9 keyed9 ptrR Value.string mkPtr (fun key kl hk => key_inv key kl hk) (fun v y hv => ptr_inv v y hv) M w.heap.size fs.length (dataOf fs) left cnt rfl HREL.out.rng ?_ ?_)
      | fail)
    · intro _ hl0
      have hd := HREL.out.disk
      rw [halfway_done keep left hl0] at hd
      obtain ⟨c0, c1, c2, c3, c4, c5, c6, hfz⟩ := dcell hd.cells
      have f4 := hfz 4
      have f6 := hfz 6
      have HD := Lib.hid hd
      clear hd hfz
      go_wp2
      go_ret
      have M1 := (mod_cell D 4 wr (.int .i64 0)).trans (mod_cell D 6 _ (.int .i64 0))
      refine ⟨by simp, HREL.out.mod.trans (M1.mono (fun t _ e => .inl e)), HD.out.turn M1 (row_setCell (row_setCell HD.out.cells 4 _) 6 _), fun k hk => ?_⟩
      rw [← halfway_done keep left hl0] at hk
      exact .inl (foot_halfway hk)
    · intro x c kl y ps w1 cnt1 hkx hlx hv hat hrg1 hlt hg1 hs1 hen
      obtain ⟨f, hf, rfl, rfl⟩ := entry_file (y := (y, ps)) hkx hv hat
      have hfm : f ∈ fs := List.mem_of_find?_eq_some hf
      have hfh : f ∈ halfway keep left fs := List.mem_map.2 ⟨f, hfm, by rw [hlx]; rfl⟩
      have m1 : Mod (fun t => t = w.heap.size) wr w1 := Mod.grown hg1 (fun k hk => by simp only [Option.some.injEq] at hk; exact hk.symm)
      have hold : ∀ k, Foot D M fs k → k < w.heap.size := fun k hk => H.out.old hk
      have hd1 := HREL.out.disk.keep m1 (fun k hk e => by have := hold k (foot_halfway hk); omega)
      obtain ⟨U, hU⟩ : ∃ U : Int, U = used - totF fs + totF (halfway keep left fs) := ⟨_, rfl⟩
      rw [← hU] at hd1
      have hFA := hd1.files f hfh
      obtain ⟨fa, fc, hbv⟩ := slice_form hFA.row
      have k0 : w1.cell? ⟨f.blk, 0, none⟩ = some f.bv := by rw [cell_of_row _ _ _ _ _ _ hFA.cells]; rfl
      have k1 : w1.cell? ⟨f.blk, 1, none⟩ = some (.int .i64 f.safe) := by rw [cell_of_row _ _ _ _ _ _ hFA.cells]; rfl
      rw [hbv] at k0
      obtain ⟨c0, c1, c2, c3, c4, c5, c6, hfz⟩ := dcell hd1.cells
      have f2 := hfz 2
      have hsafe := hFA.safe
      have hlen : f.b.length ≤ 1000000000 := Nat.le_trans (len_le_tot hfm) ht
      have hth : totF (halfway keep left fs) ≤ totF fs := tot_halfway
      obtain ⟨n, hn⟩ : ∃ n : Nat, n = keepOf keep f := ⟨_, rfl⟩
      have hn1 : n ≤ f.b.length := by rw [hn]; exact (keepOf_le hsafe).1
      have s1 : IntKind.i64.wrap ((f.b.length : Int) - f.safe) = (f.b.length : Int) - f.safe := IntWalk.i64_in _ (by omega)
      have s2 : IntKind.i64.wrap ((f.safe : Int) + max 0 (min keep ((f.b.length : Int) - f.safe))) = n := by
        rw [← keepOf_int, ← hn]
        exact IntWalk.i64_in _ (by omega)
      have s3 : IntKind.i64.wrap ((f.b.length : Int) - n) = (f.b.length : Int) - n := IntWalk.i64_in _ (by omega)
      have s4 : IntKind.i64.wrap (U - ((f.b.length : Int) - n)) = U - ((f.b.length : Int) - n) := IntWalk.i64_in _ (by omega)
      have hcap : n ≤ fc := by
        have := hFA.row
        rw [hbv] at this
        have := row_cap this
        omega
      have e1 : (n : Int) ≤ fc := by omega
      have HFM := Lib.hid hfm
      have HFH := Lib.hid hfh
      have HM1 := Lib.hid m1
      have HD1 := Lib.hid hd1
      have HU := Lib.hid hU
      have HN := Lib.hid hn
      have HBV := Lib.hid hbv
      have HRG := Lib.hid hrg1
      have HLT := Lib.hid hlt
      have HLX := Lib.hid hlx
      have HFA := Lib.hid hFA
      have HF := Lib.hid hf
      clear hfm hfh m1 hd1 hU hn hbv hrg1 hlt hlx hFA hf hfz hat hv hkx hg1 hs1 hold hsafe hlen hth c1 c3 c4 c5 c6 hcap hn1
      have hmk : mkPtr (some f.blk) = .pointer (some ⟨f.blk, 0, none⟩) := rfl
      rw [hmk] at hen ⊢
      clear hmk
      go_wp2_with fail
      go_region
      go_wp2_with fail
      go_region
      obtain ⟨w2, hw2⟩ : ∃ w2 : World, w2 = (w1.setCell ⟨D, 2, none⟩ (.int .i64 (U - ((f.b.length : Int) - n)))).drew.drew := ⟨_, rfl⟩
      rw [← hw2]
      have m2 : Mod (fun t => t = D) w1 w2 := by rw [hw2]; exact ((mod_cell D 2 w1 _).drewN 1).drewN 1
      have hd2 : Disk w2 D M (halfway keep left fs) room (U - ((f.b.length : Int) - n)) ops arm keep0 fail := HD1.out.turn m2 (by rw [hw2]; exact row_setCell HD1.out.cells 2 _)
      have hFA := hd2.files f HFH.out
      have k0 : w2.cell? ⟨f.blk, 0, none⟩ = some f.bv := by rw [cell_of_row _ _ _ _ _ _ hFA.cells]; rfl
      rw [HBV.out] at k0
      have kf0 : w2.frozen? ⟨f.blk, 0, none⟩ = false := frozen_of_row _ _ _ _ _ hFA.cells
      have kf1 : w2.frozen? ⟨f.blk, 1, none⟩ = false := frozen_of_row _ _ _ _ _ hFA.cells
      have k1 : w2.cell? ⟨f.blk, 1, none⟩ = some (.int .i64 f.safe) := by rw [cell_of_row _ _ _ _ _ _ hFA.cells]; rfl
      have m3 : Mod (fun t => t = f.blk) w2 ((w2.setCell ⟨f.blk, 0, none⟩ (.slice fa n fc)).setCell ⟨f.blk, 1, none⟩ (.int .i64 n)) := (mod_cell f.blk 0 w2 _).trans (mod_cell f.blk 1 _ _)
      have hsafe := hFA.safe
      have hd3 := did_cut HFH.out n n (by rw [HN.out]; exact (keepOf_le hsafe).1) (Nat.le_refl _) hd2 m3 (by rw [HBV.out]; exact row_setCell (row_setCell hFA.cells 0 _) 1 _)
      have hw3 : (w2.setCell ⟨f.blk, 0, none⟩ (.slice fa n fc)).setCell ⟨f.blk, 1, none⟩ (.int .i64 n) = (w2.setCell ⟨f.blk, 0, none⟩ (.slice fa n fc)).setCell ⟨f.blk, 1, none⟩ (.int .i64 n) := rfl
      obtain ⟨n1, n2, n3⟩ := H.out.ne
      have hrold : ∀ k, Foot D M fs k → k < w.heap.size := fun k hk => H.out.old hk
      have hNEW : Hid (Turning D M fs room used ops arm keep0 fail keep w.heap.size w (fun z => left z && !z.sameKey (.string f.name)) cnt1 ((w2.setCell ⟨f.blk, 0, none⟩ (.slice fa n fc)).setCell ⟨f.blk, 1, none⟩ (.int .i64 n))) := Lib.hid (by
        have hfD : Foot D M fs f.blk := .inr (.inr ⟨f, HFM.out, .inl rfl⟩)
        have hfM : f.blk ≠ M := (n2 f HFM.out).2.1
        have hMlt : M < w.heap.size := H.out.map.lt
        have hu : ∀ g ∈ fs, g.name = f.name → g = f := fun g hg hn => H.out.uniq hg HFM.out hn
        have hfd := halfway_step keep left fs f hu
        have htot := tot_setF (fs := halfway keep left fs) HD1.out.apart (f := f) (f' := cutTo f (keepOf keep f) (keepOf keep f)) HFH.out rfl
        have hcl : (cutTo f (keepOf keep f) (keepOf keep f)).b.length = keepOf keep f := by
          show (f.b.take _).length = _
          rw [List.length_take]
          have := (keepOf_le (keep := keep) hsafe).1
          omega
        refine ⟨ranges_mod (ranges_mod HRG.out m2 (fun e => n1 e.symm) (fun e => ?_)) m3 (fun e => hfM e.symm) (fun e => ?_), ?_, ?_, HREL.out.new.1, ?_⟩
        · have := hrold D (.inl rfl)
          omega
        · have := hrold f.blk hfD
          omega
        · rw [hfd, ← HN.out]
          rw [hcl] at htot
          have hUU : used - (totF fs : Int) + totF (setF (halfway keep left fs) (cutTo f n n)) = U - ((f.b.length : Int) - n) := by
            rw [HU.out, HN.out]
            omega
          rw [hUU]
          exact hd3.disk
        · refine (((HREL.out.mod.chain HM1.out (fun t hlt e => ?_)).trans (m2.mono (fun t _ e => .inl e))).trans (m3.mono (fun t _ e => by rw [e]; exact hfD)))
          omega
        · have h1 := HREL.out.new.2
          have h2 := HM1.out.size
          have h3 := m2.size
          have h4 := m3.size
          omega)
      clear m2 hd2 hFA m3 hd3 hw3 n1 n2 n3 hrold hw2 hsafe
      go_wp2_with fail
      go_roundw
      case rel => exact ⟨_, _, hNEW.out⟩
      case measure =>
        rw [hNEW.out.rng.left_eq, HREL.out.rng.left_eq]
        exact HLT.out

end Go.Proofs.YtjbhdidjkdlceaaDoor
