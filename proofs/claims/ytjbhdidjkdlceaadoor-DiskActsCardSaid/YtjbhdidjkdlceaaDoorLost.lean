/- Append where the power goes, by its contract. -/
import Derived.Test.YtjbhdidjkdlceaaDoorCrash
namespace Go.Proofs.YtjbhdidjkdlceaaDoor
open Go.RowKit Go.Maps
set_option linter.unusedVariables false

/-- What Append has done where the power goes. -/
structure AppLost (D M : Nat) (fs : List PF) (nm : List UInt8) (b : List UInt8) (safe : Nat) (room used ops arm keep fail : Int) (w : World) (e : Ending) (w' : World) : Prop where
  ret : e = goneAt ops
  did : ∃ fs' blk nv, (findF fs nm = none → fs' = insF ⟨nm, blk, nv, b, safe⟩ fs) ∧ (∀ f, findF fs nm = some f → fs' = setF fs ⟨nm, blk, nv, b, safe⟩) ∧ Did D M fs fs' room used ops arm keep fail w w'

set_option maxHeartbeats 1000000 in
set_option maxRecDepth 100000 in
theorem lost_found (D M : Nat) (fs : List PF) (room used ops arm keep fail : Int) (h0 : 0 ≤ ops ∧ ops ≤ 1000000) (hr : 0 ≤ room ∧ room ≤ 1073741824) (hu : 0 ≤ used ∧ used ≤ 1000000000) (hgone : (ops + 1 == arm) = true)
    (s : ByteArray) (hs : s.size ≤ 9223372036854775807) (hnm : isName s.data.toList = true) (f : PF) (hf : findF fs s.data.toList = some f) (bs : List UInt8) (m : Nat) (hm : bs.length = m) (hm0 : m ≤ 100000) (ra : Option Addr) (rc : Nat) (hcap : m ≤ rc) (w : World)
    (h : Disk w D M fs room used ops arm keep fail) (hb : BytesAt w ra bs) (hap : bs ≠ [] → ∀ ad, ra = some ad → ad.block ≠ D) (hnil : ra = none → rc = 0) (hlen : ∀ f ∈ fs, f.b.length ≤ 100000) (k0 k : Nat) (hk0 : (k0 : Int) = max 0 (min (m : Int) (room - used))) (hk : (k : Int) = max 0 (min (k0 : Int) keep)) :
    Calls Tryd.prog 17 #[.pointer (some ⟨D, 0, none⟩), .string s, .slice ra m rc] w (AppLost D M fs s.data.toList (f.b ++ bs.take k) f.safe room (used + k) (ops + 1) 0 keep fail w) := by
  have HN := Lib.hid (named_any s hs w)
  rw [hnm] at HN
  have H := Lib.hid h
  have HF := Lib.hid hf
  have hkm0 : k0 ≤ m := by omega
  have hkm : k ≤ m := by omega
  have HK := Lib.hid hk
  have HK0 := Lib.hid hk0
  clear h hf hk hk0
  go_enter Tryd.func17, Tryd.ntmps17
  go_wp2_with fail
  refine HN.out.mono ?_
  rintro e w1 ⟨rfl, hb1⟩
  have HD1 := Lib.hid (H.out.below hb1)
  have HB1 := Lib.hid hb1
  clear hb1
  go_wp2_with fail
  refine (begin_any D M fs room used ops arm keep fail h0 w1 HD1.out).mono ?_
  rintro e w2 ⟨rfl, ht⟩
  have HM2 := Lib.hid ht.mod
  have HD2 := Lib.hid ht.disk
  obtain ⟨c0, c1, c2, c3, c4, c5, c6, hfz⟩ := dcell ht.disk.cells
  clear ht
  go_wp2_with (at_lookup; refine wpList_lookup_own_ok _ rfl _ _ 64 rfl 9 80 keyed9 Tryd.underlying64 ptrR (zero80 _) .nil [] ptrR_nil M fs.length (dataOf fs) rfl HD2.out.map _ (.string s.data.toList) rfl (key_of hs) ?_)
  intro v ps hv
  rw [atKey_dataOf, HF.out] at hv
  obtain rfl := ptrR_inv hv
  rw [has_dataOf, HF.out]
  clear hv
  have hfm : f ∈ fs := List.mem_of_find?_eq_some HF.out
  have hFA := HD2.out.files f hfm
  have HFA := Lib.hid hFA
  obtain ⟨fa, fc, hbv⟩ := slice_form hFA.row
  have k0 : w2.cell? ⟨f.blk, 0, none⟩ = some f.bv := by rw [cell_of_row _ _ _ _ _ _ hFA.cells]; rfl
  have kf : w2.frozen? ⟨f.blk, 0, none⟩ = false := frozen_of_row _ _ _ _ _ hFA.cells
  rw [hbv] at k0
  have HBV := Lib.hid hbv
  clear hFA hbv
  have s1 : IntKind.i64.wrap (room - used) = room - used := IntWalk.i64_in _ (by omega)
  have f2 := hfz 2
  clear hfz
  go_upto_region 10 with (fail)
  go_quiet (fail)
  rw [← HK0.out]
  obtain ⟨w3, hw3⟩ : ∃ w3 : World, w3 = w2.drewN nq := ⟨_, rfl⟩
  have hd3 : Disk w3 D M fs room used (ops + 1) arm keep fail := by
    rw [hw3]
    exact HD2.out.keep (S := fun _ => False) ((Mod.refl _ w2).drewN nq) (fun _ _ h => h)
  have HD3 := Lib.hid hd3
  obtain ⟨c0, c1, c2, c3, c4, c5, c6, hfz⟩ := dcell hd3.cells
  have f2 := hfz 2
  have hF3 := hd3.files f hfm
  have k0 : w3.cell? ⟨f.blk, 0, none⟩ = some f.bv := by rw [cell_of_row _ _ _ _ _ _ hF3.cells]; rfl
  have kf : w3.frozen? ⟨f.blk, 0, none⟩ = false := frozen_of_row _ _ _ _ _ hF3.cells
  rw [HBV.out] at k0
  have HF3 := Lib.hid hF3
  rw [← hw3]
  have HM3 : Hid (Mod (fun _ => False) w2 w3) := Lib.hid (by rw [hw3]; exact (Mod.refl _ w2).drewN nq)
  clear hd3 hF3 hfz hw3
  have e1 : ((k : Int)).toNat = k := by omega
  have e2 : (0 : Int) ≤ k := by omega
  have e3 : (k : Int) ≤ rc := by omega
  have hfl := hlen f hfm
  go_upto_region 13 with (fail)
  rw [← HK.out]
  have hrow3 := HF3.out.row
  rw [HBV.out] at hrow3
  have HROW := Lib.hid hrow3
  have hbt : BytesAt w3 ra (bs.take k) := (((hb.below (Nat.le_refl _) HB1.out).keep HM2.out hap).keep HM3.out (fun _ _ _ h => h)).take k
  have HBT := Lib.hid hbt
  have htl : (bs.take k).length = k := by rw [List.length_take, hm]; omega
  have HTL := Lib.hid htl
  clear hrow3 hbt htl
  go_region_law (first
    | (refine step_append_bytes rfl (.tmp 65) (.tmp 68) rfl w3.drew 0 (.slice fa f.b.length fc) f.b (bs.take k) k HTL.out ra rc rfl HROW.out.drew (Nat.zero_le _) (by omega) rfl ⟨HBT.out.cells⟩ hnil ?_; intro aa ac w4 hg; have hc4 := hg.mod.keep HF3.out.cells (own_ne HROW.out HF3.out.cells (by decide)); have HC4 := Lib.hid hc4; have k04 : w4.cell? ⟨f.blk, 0, none⟩ = some f.bv := (by rw [cell_of_row _ _ _ _ _ _ hc4]; rfl); rw [HBV.out] at k04; have kf4 : w4.frozen? ⟨f.blk, 0, none⟩ = false := frozen_of_row _ _ _ _ _ hc4; have HG4 := Lib.hid hg; clear hg hc4)
    | fail)
  obtain ⟨w5, hw5⟩ : ∃ w5 : World, w5 = w4.setCell ⟨f.blk, 0, none⟩ (.slice aa (f.b.length + k) ac) := ⟨_, rfl⟩
  rw [← hw5]
  have hd5 : Disk w5 D M (setF fs { f with bv := .slice aa (f.b.length + k) ac, b := f.b ++ bs.take k }) room used (ops + 1) arm keep fail := by
    have hg := HG4.out
    refine HD3.out.setFile hfm rfl rfl ?_ ⟨?_, ?_, ?_⟩ (by rw [HBV.out]; exact hg.hat)
    · rw [hw5]
      have m0 : Mod (fun t => t = f.blk ∨ f.bv.ownBlock = some t) w3 w4 := Mod.mono ⟨hg.mod.os, hg.mod.tape, hg.mod.output, hg.mod.size, hg.mod.block⟩ (fun k _ hk => .inr (by rw [HBV.out]; exact hk))
      exact m0.trans (Mod.setCell (a := ⟨f.blk, 0, none⟩) (.inl rfl) _)
    · rw [hw5]
      exact row_setCell HC4.out 0 _
    · rw [hw5]
      have := (mod_cell f.blk 0 w4 (.slice aa (f.b.length + k) ac)).row hg.row (fun t ht e => own_ne hg.row HC4.out (by decide) (e ▸ ht))
      simpa using this
    · have := HF3.out.safe
      simp
      omega
  have HD5 := Lib.hid hd5
  have HW5 := Lib.hid hw5
  obtain ⟨c0, c1, c2, c3, c4, c5, c6, hfz⟩ := dcell hd5.cells
  have f2 := hfz 2
  clear hd5 hw5 hfz
  have hm5 : Mod (fun t => t = f.blk ∨ f.bv.ownBlock = some t) w3 w5 := by
    rw [HW5.out]
    have hg := HG4.out
    have m0 : Mod (fun t => t = f.blk ∨ f.bv.ownBlock = some t) w3 w4 := Mod.mono ⟨hg.mod.os, hg.mod.tape, hg.mod.output, hg.mod.size, hg.mod.block⟩ (fun k _ hk => .inr (by rw [HBV.out]; exact hk))
    exact m0.trans (Mod.setCell (a := ⟨f.blk, 0, none⟩) (.inl rfl) _)
  have hdid : Did D M fs (setF fs { f with bv := .slice aa (f.b.length + k) ac, b := f.b ++ bs.take k }) room (used + k) (ops + 1) arm keep fail w (w5.setCell ⟨D, 2, none⟩ (.int .i64 (used + k))) := by
    refine ⟨?_, HD5.out.turn (mod_cell D 2 w5 _) (row_setCell HD5.out.cells 2 _), fun t ht => ?_⟩
    · refine (Mod.of_below HB1.out).trans ((HM2.out.mono (fun t _ ht => .inl ht)).trans ((HM3.out.mono (fun t _ ht => ht.elim)).trans ((hm5.mono (fun t _ ht => ?_)).trans ((mod_cell D 2 w5 _).mono (fun t _ ht => .inl ht)))))
      rcases ht with ht | ht
      · exact .inr (.inr ⟨f, hfm, .inl ht⟩)
      · exact .inr (.inr ⟨f, hfm, .inr ht⟩)
    · rcases foot_setF (w := w3) (f' := { f with bv := .slice aa (f.b.length + k) ac, b := f.b ++ bs.take k }) hfm rfl (by rw [HBV.out]; exact HG4.out.hat) ht with h1 | h1
      · exact .inl h1
      · have := HB1.out.size
        have := HM2.out.size
        have := HM3.out.size
        exact .inr (by omega)
  have hnmf : f.name = s.data.toList := by
    have := List.find?_some HF.out
    simpa using this
  have HNMF := Lib.hid hnmf
  have HDID := Lib.hid hdid
  have HC := Lib.hid (crash_any D M _ room (used + k) (ops + 1) arm keep fail _ hdid.disk)
  clear hnmf
  clear hdid hm5
  go_wp2_with fail
  refine HC.out.mono ?_
  rintro e w7 ⟨rfl, ht7⟩
  have HT7 := Lib.hid ht7
  clear ht7
  go_wp2
  refine ⟨rfl, rfl, ⟨_, f.blk, .slice aa (f.b.length + k) ac, fun hn => ?_, fun g hg => ?_, HDID.out.trans (Did.of_turned HT7.out)⟩⟩
  · rw [HF.out] at hn
    cases hn
  · rw [← HNMF.out]

set_option maxHeartbeats 1000000 in
set_option maxRecDepth 100000 in
theorem lost_new (D M : Nat) (fs : List PF) (room used ops arm keep fail : Int) (h0 : 0 ≤ ops ∧ ops ≤ 1000000) (hr : 0 ≤ room ∧ room ≤ 1073741824) (hu : 0 ≤ used ∧ used ≤ 1000000000) (hgone : (ops + 1 == arm) = true)
    (s : ByteArray) (hs : s.size ≤ 9223372036854775807) (hnm : isName s.data.toList = true) (hf : findF fs s.data.toList = none) (hfl : fs.length ≤ 1000000) (bs : List UInt8) (m : Nat) (hm : bs.length = m) (hm0 : m ≤ 100000) (ra : Option Addr) (rc : Nat) (hcap : m ≤ rc) (w : World)
    (h : Disk w D M fs room used ops arm keep fail) (hb : BytesAt w ra bs) (hap : bs ≠ [] → ∀ ad, ra = some ad → ad.block ≠ D) (hbM : bs ≠ [] → ∀ ad, ra = some ad → ad.block ≠ M) (hnil : ra = none → rc = 0) (k0 k : Nat) (hk0 : (k0 : Int) = max 0 (min (m : Int) (room - used))) (hk : (k : Int) = max 0 (min (k0 : Int) keep)) :
    Calls Tryd.prog 17 #[.pointer (some ⟨D, 0, none⟩), .string s, .slice ra m rc] w (AppLost D M fs s.data.toList (bs.take k) 0 room (used + k) (ops + 1) 0 keep fail w) := by
  have HN := Lib.hid (named_any s hs w)
  rw [hnm] at HN
  have H := Lib.hid h
  have HF := Lib.hid hf
  have hkm0 : k0 ≤ m := by omega
  have hkm : k ≤ m := by omega
  have HK := Lib.hid hk
  have HK0 := Lib.hid hk0
  clear h hf hk hk0
  go_enter Tryd.func17, Tryd.ntmps17
  go_wp2_with fail
  refine HN.out.mono ?_
  rintro e w1 ⟨rfl, hb1⟩
  have HD1 := Lib.hid (H.out.below hb1)
  have HB1 := Lib.hid hb1
  clear hb1
  go_wp2_with fail
  refine (begin_any D M fs room used ops arm keep fail h0 w1 HD1.out).mono ?_
  rintro e w2 ⟨rfl, ht⟩
  have HM2 := Lib.hid ht.mod
  have HD2 := Lib.hid ht.disk
  obtain ⟨c0, c1, c2, c3, c4, c5, c6, hfz⟩ := dcell ht.disk.cells
  clear ht
  go_wp2_with (at_lookup; refine wpList_lookup_own_ok _ rfl _ _ 64 rfl 9 80 keyed9 Tryd.underlying64 ptrR (zero80 _) .nil [] ptrR_nil M fs.length (dataOf fs) rfl HD2.out.map _ (.string s.data.toList) rfl (key_of hs) ?_)
  intro v ps hv
  rw [atKey_dataOf, HF.out] at hv
  obtain rfl := ptrR_inv_nil hv
  rw [has_dataOf, HF.out]
  clear hv hfz
  have ka : (w2.alloc (.cells #[.slice none 0 0, .int .i64 0] 83)).cell? ⟨D, 0, none⟩ = some (.map (some M)) := (dcell ((Below.heap_alloc _ _ _ (lt_of_block HD2.out.cells)).trans HD2.out.cells)).1
  go_wp2_with (at_mapUpdate; refine wpList_mapUpdate_own _ rfl _ _ _ 64 rfl 9 80 keyed9 Tryd.underlying64 ptrR M fs.length (dataOf fs) rfl (HD2.out.map.alloc _) (by unfold maxLen; omega) _ _ (.string s.data.toList) rfl rfl (key_of hs) (.lit (.int .i64 w2.heap.size)) [] (ptrR_mk _) ?_)
  intro w2b hown1 hgrow1
  have hd2b := HD2.out.insert HF.out hgrow1 hown1
  have hm2b : Mod (fun t => t = M) w2 w2b := (Mod.of_below ((Below.refl _ w2).alloc (Nat.le_refl _) _)).trans (Mod.grown hgrow1 (fun k hk => by simp only [Option.some.injEq] at hk; exact hk.symm))
  obtain ⟨F, hFd⟩ : ∃ F, F = w2.heap.size := ⟨_, rfl⟩
  rw [← hFd] at hd2b ⊢
  have HFD := Lib.hid hFd
  have HD2B := Lib.hid hd2b
  have HM2B := Lib.hid hm2b
  clear hown1 hgrow1 hd2b hm2b hFd c0 c1 c2 c3 c4 c5 c6 ka
  obtain ⟨c0, c1, c2, c3, c4, c5, c6, hfz⟩ := dcell HD2B.out.cells
  clear hfz
  have s1 : IntKind.i64.wrap (room - used) = room - used := IntWalk.i64_in _ (by omega)
  go_upto_region 10 with (fail)
  go_quiet (fail)
  rw [← HK0.out]
  obtain ⟨w3, hw3⟩ : ∃ w3 : World, w3 = w2b.drewN nq := ⟨_, rfl⟩
  have hd3 : Disk w3 D M (insF ⟨s.data.toList, F, .slice none 0 0, [], 0⟩ fs) room used (ops + 1) arm keep fail := by
    rw [hw3]
    exact HD2B.out.keep (S := fun _ => False) ((Mod.refl _ w2b).drewN nq) (fun _ _ h => h)
  have HM3 : Hid (Mod (fun _ => False) w2b w3) := Lib.hid (by rw [hw3]; exact (Mod.refl _ w2b).drewN nq)
  have HD3 := Lib.hid hd3
  clear c0 c1 c2 c3 c4 c5 c6
  obtain ⟨c0, c1, c2, c3, c4, c5, c6, hfz⟩ := dcell hd3.cells
  have hfm : (⟨s.data.toList, F, .slice none 0 0, [], 0⟩ : PF) ∈ insF ⟨s.data.toList, F, .slice none 0 0, [], 0⟩ fs := mem_insF.2 (.inl rfl)
  have hF3 := hd3.files _ hfm
  have hFc : w3.heap[F]? = some (.cells #[.slice none 0 0, .int .i64 0] 83 (0, 0)) := hF3.cells
  have k0 : w3.cell? ⟨F, 0, none⟩ = some (.slice none 0 0) := by rw [cell_of_row _ _ _ _ _ _ hFc]; rfl
  have kf : w3.frozen? ⟨F, 0, none⟩ = false := frozen_of_row _ _ _ _ _ hFc
  have HFC := Lib.hid hFc
  rw [← hw3]
  clear hd3 hF3 hfz hw3 hFc
  have e1 : ((k : Int)).toNat = k := by omega
  have e2 : (0 : Int) ≤ k := by omega
  have e3 : (k : Int) ≤ rc := by omega
  go_upto_region 13 with (fail)
  rw [← HK.out]
  have hMD : ∀ ad, ra = some ad → bs ≠ [] → ad.block < w.heap.size := fun ad had hne => hb.old hne ad had
  have hML : M < w.heap.size ∧ M ≠ D := ⟨H.out.map.lt, fun e => H.out.ne.1 e.symm⟩
  have hbt : BytesAt w3 ra (bs.take k) := ((((hb.below (Nat.le_refl _) HB1.out).keep HM2.out hap).keep HM2B.out (fun hne ad had e => hbM hne ad had e)).keep HM3.out (fun _ _ _ h => h)).take k
  have HBT := Lib.hid hbt
  have htl : (bs.take k).length = k := by rw [List.length_take, hm]; omega
  have HTL := Lib.hid htl
  clear hbt htl hMD hML
  have HROW := Lib.hid (World.ownsRow_nil w3.drew 0 5 1)
  go_region_law (first
    | (refine step_append_bytes rfl (.tmp 65) (.tmp 68) rfl w3.drew 0 (.slice none 0 0) [] (bs.take k) k HTL.out ra rc rfl HROW.out (Nat.zero_le _) (by simp; omega) rfl ⟨HBT.out.cells⟩ hnil ?_; intro aa ac w4 hg; have hc4 := hg.mod.keep HFC.out (by simp [Value.ownBlock]); have HC4 := Lib.hid hc4; have k04 : w4.cell? ⟨F, 0, none⟩ = some (.slice none 0 0) := (by rw [cell_of_row _ _ _ _ _ _ hc4]; rfl); have kf4 : w4.frozen? ⟨F, 0, none⟩ = false := frozen_of_row _ _ _ _ _ hc4; have HG4 := Lib.hid hg; clear hg hc4)
    | fail)
  have hg : Grew 0 (.slice none 0 0) [] (bs.take k) w3.drew w4 (.slice aa k ac) := by
    have := HG4.out
    rw [show ([] : List UInt8).length + k = k by simp] at this
    exact this
  obtain ⟨w5, hw5⟩ : ∃ w5 : World, w5 = w4.setCell ⟨F, 0, none⟩ (.slice aa k ac) := ⟨_, rfl⟩
  rw [← hw5]
  have hm5 : Mod (fun t => t = F ∨ (Value.slice none 0 0).ownBlock = some t) w3 w5 := by
    rw [hw5]
    have m0 : Mod (fun t => t = F ∨ (Value.slice none 0 0).ownBlock = some t) w3 w4 := Mod.mono ⟨hg.mod.os, hg.mod.tape, hg.mod.output, hg.mod.size, hg.mod.block⟩ (fun k _ hk => .inr hk)
    exact m0.trans (Mod.setCell (a := ⟨F, 0, none⟩) (.inl rfl) _)
  have hd5 : Disk w5 D M (insF ⟨s.data.toList, F, .slice aa k ac, bs.take k, 0⟩ fs) room used (ops + 1) arm keep fail := by
    have := HD3.out.setFile (f := ⟨s.data.toList, F, .slice none 0 0, [], 0⟩) (f' := ⟨s.data.toList, F, .slice aa k ac, bs.take k, 0⟩) (mem_insF.2 (.inl rfl)) rfl rfl hm5 ⟨?_, ?_, Nat.zero_le _⟩ hg.hat
    · rw [setF_insF (f := ⟨s.data.toList, F, .slice none 0 0, [], 0⟩) (f' := ⟨s.data.toList, F, .slice aa k ac, bs.take k, 0⟩) HF.out rfl] at this
      exact this
    · rw [hw5]
      exact row_setCell HC4.out 0 _
    · rw [hw5]
      have := (mod_cell F 0 w4 (.slice aa k ac)).row hg.row (fun t ht e => own_ne hg.row HC4.out (by decide) (e ▸ ht))
      simpa using this
  have HD5 := Lib.hid hd5
  obtain ⟨c0, c1, c2, c3, c4, c5, c6, hfz⟩ := dcell hd5.cells
  have f2 := hfz 2
  have hFge : w.heap.size ≤ F := by
    rw [HFD.out]
    have := HB1.out.size
    have := HM2.out.size
    omega
  have hdid : Did D M fs (insF ⟨s.data.toList, F, .slice aa k ac, bs.take k, 0⟩ fs) room (used + k) (ops + 1) arm keep fail w (w5.setCell ⟨D, 2, none⟩ (.int .i64 (used + k))) := by
    have s1 := HB1.out.size
    have s2 := HM2.out.size
    have s3 := HM2B.out.size
    have s4 := HM3.out.size
    refine ⟨?_, HD5.out.turn (mod_cell D 2 w5 _) (row_setCell HD5.out.cells 2 _), fun t ht => ?_⟩
    · have M1 : Mod (Foot D M fs) w w3 := (Mod.of_below HB1.out).trans ((HM2.out.mono (fun t _ ht => .inl ht)).trans ((HM2B.out.mono (fun t _ ht => .inr (.inl ht))).trans (HM3.out.mono (fun t _ ht => ht.elim))))
      refine (M1.chain hm5 (fun t hlt ht => ?_)).trans ((mod_cell D 2 w5 _).mono (fun t _ ht => .inl ht))
      rcases ht with ht | ht
      · omega
      · simp [Value.ownBlock] at ht
    · rcases ht with ht | ht | ⟨g, hgm, ht⟩
      · exact .inl (.inl ht)
      · exact .inl (.inr (.inl ht))
      · rcases mem_insF.1 hgm with rfl | hgm
        · rcases ht with ht | ht
          · have ht' : t = F := ht
            exact .inr (by omega)
          · rcases hg.hat t ht with h1 | h1
            · simp [Value.ownBlock] at h1
            · have : w3.heap.size ≤ t := h1
              exact .inr (by omega)
        · exact .inl (.inr (.inr ⟨g, hgm, ht⟩))
  have HDID := Lib.hid hdid
  have HC := Lib.hid (crash_any D M _ room (used + k) (ops + 1) arm keep fail _ hdid.disk)
  clear hdid hm5 hd5 hw5 hg hfz
  go_wp2_with fail
  refine HC.out.mono ?_
  rintro e w7 ⟨rfl, ht7⟩
  have HT7 := Lib.hid ht7
  clear ht7
  go_wp2
  refine ⟨rfl, rfl, ⟨_, F, .slice aa k ac, fun hn => rfl, fun g hg => ?_, HDID.out.trans (Did.of_turned HT7.out)⟩⟩
  rw [HF.out] at hg
  cases hg

end Go.Proofs.YtjbhdidjkdlceaaDoor
