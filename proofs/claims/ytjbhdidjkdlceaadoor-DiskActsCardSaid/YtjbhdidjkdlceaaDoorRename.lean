/- Rename's closure, by its contract. -/
import Derived.Test.YtjbhdidjkdlceaaDoorRemove
namespace Go.Proofs.YtjbhdidjkdlceaaDoor
open Go.RowKit Go.Maps
set_option linter.unusedVariables false

theorem findF_delF {fs : List PF} {a b : List UInt8} (hab : a ≠ b) : findF (delF fs b) a = findF fs a := by
  unfold findF delF
  induction fs with
  | nil => rfl
  | cons g fs ih =>
    rw [List.filter_cons]
    by_cases hg : g.name = b
    · have e1 : (!(g.name == b)) = false := by simpa using hg
      have e2 : (g.name == a) = false := by rw [hg]; simpa using fun e => hab e.symm
      rw [e1, List.find?_cons, e2]
      exact ih
    · have e1 : (!(g.name == b)) = true := by simpa using hg
      rw [if_pos e1, List.find?_cons, List.find?_cons, ih]

theorem findF_delF_same (fs : List PF) (a : List UInt8) : findF (delF fs a) a = none := by
  unfold findF delF
  rw [List.find?_eq_none]
  intro f hf
  simpa using (List.mem_filter.1 hf).2

/-- A file laid in again, under another name. -/
theorem Disk.reinsert {w w' : World} {D M : Nat} {fs : List PF} {room used ops arm keep fail : Int} {f : PF} {nm : List UInt8} (h : Disk w D M fs room used ops arm keep fail) (hF : FileAt w f)
    (hn : findF fs nm = none) (hap : ∀ g ∈ fs, f.blk ≠ g.blk ∧ ∀ t, f.bv.ownBlock = some t → g.bv.ownBlock ≠ some t) (hM : f.blk ≠ M ∧ f.bv.ownBlock ≠ some M) (m : Mod (fun t => t = M) w w') {n : Nat}
    (hown : w'.ownsMap Tryd.prog 9 ptrR M n ((dataOf fs).put (.string nm) (.lit (.int .i64 f.blk)))) : Disk w' D M (insF { f with name := nm } fs) room used ops arm keep fail := by
  obtain ⟨n1, n2, n3⟩ := h.ne
  refine ⟨m.keep h.cells n1, ?_, fun g hg => ?_, ?_⟩
  · have := put_dataOf fs { f with name := nm }
    simp only at this
    rw [this, delF_none hn] at hown
    have := tight hown
    rw [size_dataOf] at this
    exact this
  · rcases mem_insF.1 hg with rfl | hg
    · exact ⟨m.keep hF.cells hM.1, m.row hF.row (fun k hk e => hM.2 (e ▸ hk)), hF.safe⟩
    · obtain ⟨a1, a2, a3, a4⟩ := n2 g hg
      have hG := h.files g hg
      exact ⟨m.keep hG.cells a2, m.row hG.row (fun k hk e => a4 (e ▸ hk)), hG.safe⟩
  · refine pairwise_insF h.apart fun g hg => ⟨fun e => findF_none hn g hg e.symm, (hap g hg).1, (hap g hg).2⟩

/-- The files behind a change of a name. -/
def renF (fs : List PF) (f : PF) (old nm : List UInt8) : List PF := if old = nm then fs else insF { f with name := nm } (delF (delF fs nm) old)
def renUsed (fs : List PF) (used : Int) (old nm : List UInt8) : Int := if old = nm then used else used - lenOf fs nm

set_option maxHeartbeats 1000000 in
theorem renames_any (D M : Nat) (fs : List PF) (room used ops arm keep fail : Int) (hu : 0 ≤ used ∧ used ≤ 1000000000) (hl : ∀ f ∈ fs, f.b.length ≤ 1000000) (hfl : fs.length ≤ 1000000)
    (s t : ByteArray) (hs : s.size ≤ 9223372036854775807) (ht : t.size ≤ 9223372036854775807) (f : PF) (hf : findF fs s.data.toList = some f) (X Y Z V : Nat) (w : World) (h : Disk w D M fs room used ops arm keep fail)
    (hX : w.heap[X]? = some (.cells #[.string s] 9 (0, 0))) (hY : w.heap[Y]? = some (.cells #[.string t] 9 (0, 0))) (hZ : w.heap[Z]? = some (.cells #[.pointer (some ⟨D, 0, none⟩)] 25 (0, 0))) (hV : w.heap[V]? = some (.cells #[.pointer (some ⟨f.blk, 0, none⟩)] 80 (0, 0)))
    (hXF : ¬ Foot D M fs X) (hYF : ¬ Foot D M fs Y) (hZF : ¬ Foot D M fs Z) (hVF : ¬ Foot D M fs V) :
    Calls Tryd.prog 47 #[.pointer (some ⟨X, 0, none⟩), .pointer (some ⟨Y, 0, none⟩), .pointer (some ⟨Z, 0, none⟩), .pointer (some ⟨V, 0, none⟩)] w fun e w' => e = .returned (.tuple #[]) ∧ Did D M fs (renF fs f s.data.toList t.data.toList) room (renUsed fs used s.data.toList t.data.toList) ops arm keep fail w w' := by
  have cX := cell_of_one hX
  have cY := cell_of_one hY
  have cZ := cell_of_one hZ
  have cV := cell_of_one hV
  have HD := Lib.hid (drop_any D M fs room used ops arm keep fail hu hl t ht w h)
  have H := Lib.hid h
  have HF := Lib.hid hf
  by_cases he : s.data.toList = t.data.toList
  · have hst : (s.toList == t.toList) = true := by
      rw [ByteArray.toList_eq, ByteArray.toList_eq]
      simpa using he
    have HE := Lib.hid he
    clear h hX hY hZ hV hf he
    go_enter Tryd.func47, Tryd.ntmps47
    go_wp2
    refine bodyPost_ret (v := .tuple #[]) (by simp [results, Tryd.results47, go_sem]) rfl ⟨rfl, ?_⟩
    have e1 : renF fs f s.data.toList t.data.toList = fs := by simp [renF, HE.out]
    have e2 : renUsed fs used s.data.toList t.data.toList = used := by simp [renUsed, HE.out]
    rw [e1, e2]
    exact Did.refl H.out
  · have hst : (s.toList == t.toList) = false := by
      rw [ByteArray.toList_eq, ByteArray.toList_eq]
      simpa using he
    have HX := Lib.hid hX
    have HY := Lib.hid hY
    have HZ := Lib.hid hZ
    have HV := Lib.hid hV
    have HE := Lib.hid he
    clear h hX hY hZ hV hf he
    go_enter Tryd.func47, Tryd.ntmps47
    go_wp2_with fail
    refine HD.out.mono ?_
    rintro e w1 ⟨rfl, hd1⟩
    have hX1 := hd1.mod.keep HX.out hXF
    have hY1 := hd1.mod.keep HY.out hYF
    have hZ1 := hd1.mod.keep HZ.out hZF
    have hV1 := hd1.mod.keep HV.out hVF
    have cX := cell_of_one hX1
    have cY := cell_of_one hY1
    have cZ := cell_of_one hZ1
    have cV := cell_of_one hV1
    have HD1 := Lib.hid hd1
    have HX1 := Lib.hid hX1
    have HY1 := Lib.hid hY1
    have HZ1 := Lib.hid hZ1
    have HV1 := Lib.hid hV1
    obtain ⟨c0, c1, c2, c3, c4, c5, c6, hfz⟩ := dcell hd1.disk.cells
    clear hd1 hX1 hY1 hZ1 hV1 c1 c2 c3 c4 c5 c6 hfz HD
    have hne : s.data.toList ≠ t.data.toList := HE.out
    have hf1 : findF (delF fs t.data.toList) s.data.toList = some f := (findF_delF hne).trans HF.out
    have hfm1 : f ∈ delF fs t.data.toList := List.mem_of_find?_eq_some hf1
    have hdw := HD1.out.disk.drewn 1
    obtain ⟨w2, hrun2, hown2, hmt2⟩ := hdw.map.drop keyed9 Tryd.underlying64 (key_of hs) 0
    have hm2 : Mod (fun t => t = M) (w1.drewN 1) w2 := Mod.grown hmt2.grown (fun k hk => by simp only [Option.some.injEq] at hk; exact hk.symm)
    have hd2 := hdw.delete hm2 hown2
    have hF1 := hdw.files f hfm1
    obtain ⟨n1, n2, n3⟩ := hdw.ne
    obtain ⟨a1, a2, a3, a4⟩ := n2 f hfm1
    have hF2 : FileAt w2 f := ⟨hm2.keep hF1.cells a2, hm2.row hF1.row (fun k hk e => a4 (e ▸ hk)), hF1.safe⟩
    have hnone : findF (delF (delF fs t.data.toList) s.data.toList) t.data.toList = none := (findF_delF (fun e => hne e.symm)).trans (findF_delF_same _ _)
    have hap : ∀ g ∈ delF (delF fs t.data.toList) s.data.toList, f.blk ≠ g.blk ∧ ∀ t, f.bv.ownBlock = some t → g.bv.ownBlock ≠ some t := fun g hg => by
      have hg' := (List.mem_filter.1 hg).1
      have hgn : g.name ≠ f.name := by
        have h1 : f.name = s.data.toList := by
          have := List.find?_some hf1
          simpa using this
        rw [h1]
        simpa using (List.mem_filter.1 hg).2
      have := hdw.apartOf hfm1 hg' hgn
      exact ⟨this.blk, this.row⟩
    have hd2w := hd2.disk.drewn 1
    have hlen : (delF (delF fs t.data.toList) s.data.toList).length ≤ fs.length := Nat.le_trans (List.length_filter_le _ _) (List.length_filter_le _ _)
    obtain ⟨w3, hrun3, hown3, hg3⟩ := hd2w.map.update keyed9 Tryd.underlying64 (val := .pointer (some ⟨f.blk, 0, none⟩)) (by unfold maxLen; omega) (key_of ht) (ptrR_mk _)
    have hm3 : Mod (fun t => t = M) (w2.drewN 1) w3 := Mod.grown hg3 (fun k hk => by simp only [Option.some.injEq] at hk; exact hk.symm)
    have hF2w : FileAt (w2.drewN 1) f := ⟨hF2.cells, hF2.row, hF2.safe⟩
    have hd3 := hd2w.reinsert hF2w hnone hap ⟨a2, a4⟩ hm3 hown3
    have hfoot3 : Foot D M fs V → False := hVF
    have hX2 := hm2.keep (b := X) HX1.out (fun e => hXF (.inr (.inl e)))
    have hY2 := hm2.keep (b := Y) HY1.out (fun e => hYF (.inr (.inl e)))
    have hZ2 := hm2.keep (b := Z) HZ1.out (fun e => hZF (.inr (.inl e)))
    have hV2 := hm2.keep (b := V) HV1.out (fun e => hVF (.inr (.inl e)))
    have dX := cell_of_one hX2
    have dY := cell_of_one hY2
    have dZ := cell_of_one hZ2
    have dV := cell_of_one hV2
    have d0 := (dcell hd2.disk.cells).1
    have hrun2' : (Builtin.delete_ #[64, 9] 0 #[.map (some M), .string s]).run Tryd.prog w1.drew = .ok (.tuple #[]) w2 := hrun2
    have hrun3' : (Instr.mapUpdate 64 (.map (some M)) (.string t) (.pointer (some ⟨f.blk, 0, none⟩))).run Tryd.prog w2.drew = .ok () w3 := hrun3
    have HFIN : Hid (Did D M fs (renF fs f s.data.toList t.data.toList) room (renUsed fs used s.data.toList t.data.toList) ops arm keep fail w w3) := Lib.hid (by
      have e1 : renF fs f s.data.toList t.data.toList = insF { f with name := t.data.toList } (delF (delF fs t.data.toList) s.data.toList) := by simp [renF, hne]
      have e2 : renUsed fs used s.data.toList t.data.toList = used - lenOf fs t.data.toList := by simp [renUsed, hne]
      rw [e1, e2]
      refine ⟨HD1.out.mod.trans (((Mod.refl _ w1).drewN 1).trans ((hm2.mono (fun t _ e => .inr (.inl e))).trans (((Mod.refl _ w2).drewN 1).trans (hm3.mono (fun t _ e => .inr (.inl e)))))), hd3, fun k hk => ?_⟩
      rcases hk with h1 | h1 | ⟨g, hg, h1⟩
      · exact .inl (.inl h1)
      · exact .inl (.inr (.inl h1))
      · rcases mem_insF.1 hg with rfl | hg
        · exact .inl (.inr (.inr ⟨f, (List.mem_filter.1 hfm1).1, h1⟩))
        · exact .inl (.inr (.inr ⟨g, (List.mem_filter.1 (List.mem_filter.1 hg).1).1, h1⟩)))
    clear hrun2 hrun3 hdw hown2 hmt2 hm2 hd2 hF1 hF2 hnone hap hd2w hown3 hg3 hm3 hF2w hd3 hfoot3 hX2 hY2 hZ2 hV2 n1 n2 n3 a1 a2 a3 a4 hf1 hfm1 hne hlen
    go_wp2_with fail
    go_region
    go_wp2_with fail
    go_region
    go_wp2
    go_end0
    exact ⟨rfl, HFIN.out⟩

end Go.Proofs.YtjbhdidjkdlceaaDoor
