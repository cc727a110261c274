/- The reference: Power. -/
import Derived.Test.YtjbhdidjkdlceaaDoorRefB
import Derived.Deep.DeepCutAuto

/- The reference: Power. -/
namespace Go.Proofs.YtjbhdidjkdlceaaDoor
open Go.RowKit Go.Maps
set_option linter.unusedVariables false

/-- The first j files are cut. -/
def RS.cutTo (s : RS) (k : Int) (j : Nat) : RS := { s with L := (s.L.take j).map (cutW k) ++ s.L.drop j }
def RS.power (s : RS) (k : Int) : RS := { s with L := s.L.map (cutW k), armed := 0, failing := 0 }

theorem RS.cutTo_zero (s : RS) (k : Int) : s.cutTo k 0 = s := rfl
theorem RS.cutTo_all (s : RS) (k : Int) (j : Nat) (hj : s.L.length ≤ j) : s.cutTo k j = { s with L := s.L.map (cutW k) } := by
  unfold RS.cutTo
  rw [List.take_of_length_le hj, List.drop_eq_nil_of_le hj, List.append_nil]
theorem RS.cutTo_at {s : RS} {k : Int} {j : Nat} {f : VF} (hf : s.L[j]? = some f) : (s.cutTo k j).L[j]? = some f := by
  have hj : j < s.L.length := (List.getElem?_eq_some_iff.1 hf).1
  show ((s.L.take j).map (cutW k) ++ s.L.drop j)[j]? = some f
  have hl : ((s.L.take j).map (cutW k)).length = j := by rw [List.length_map, List.length_take]; omega
  rw [List.getElem?_append_right (by omega), hl, Nat.sub_self, List.getElem?_drop, Nat.add_zero, hf]
theorem RS.cutTo_length (s : RS) (k : Int) (j : Nat) : (s.cutTo k j).L.length = s.L.length := by
  show ((s.L.take j).map (cutW k) ++ s.L.drop j).length = _
  rw [List.length_append, List.length_map, List.length_take, List.length_drop]
  omega
theorem RS.cutTo_set {s : RS} {k : Int} {j : Nat} {f : VF} (hf : s.L[j]? = some f) : (s.cutTo k j).L.set j (cutW k f) = (s.cutTo k (j + 1)).L := by
  have hj : j < s.L.length := (List.getElem?_eq_some_iff.1 hf).1
  show ((s.L.take j).map (cutW k) ++ s.L.drop j).set j (cutW k f) = (s.L.take (j + 1)).map (cutW k) ++ s.L.drop (j + 1)
  have hl : ((s.L.take j).map (cutW k)).length = j := by rw [List.length_map, List.length_take]; omega
  have hd : s.L.drop j = f :: s.L.drop (j + 1) := by
    rw [List.drop_eq_getElem_cons hj]
    congr 1
    rw [List.getElem?_eq_getElem hj] at hf
    exact Option.some.inj hf
  rw [List.set_append_right _ _ (by omega), hl, Nat.sub_self, hd, List.take_add_one, hf, List.map_append]
  simp

theorem cutW_of {k : Int} {f : VF} {K : Nat} (h : keepW k f = K) : (⟨f.name, f.b.take K, K⟩ : VF) = cutW k f := by subst h; rfl

set_option maxRecDepth 100000 in
set_option maxHeartbeats 3200000 in
theorem rpower_law {F : Nat → Prop} {R : Nat} {s : RS} {w : World} (h : Ref F R s w) (hs : Fine s) (hsafe : ∀ f ∈ s.L, f.safe ≤ f.b.length) (k : Int) :
    Calls Tryd.prog 38 #[.pointer (some ⟨R, 0, none⟩), .int .i64 k] w fun e w' => e = .returned (.tuple #[]) ∧ Led F R (s.power k) w w' := by
  have HS := Lib.hid hs
  have HSF := Lib.hid hsafe
  have H := Lib.hid h
  have hnum := hs.num
  clear h hs hsafe
  go_enter Tryd.func38, Tryd.ntmps38
  go_wp2_with fail
  go_loopw [4] (fun i wr => ∃ j : Nat, j ≤ s.L.length ∧ i = .int .i64 j ∧ Led F R (s.cutTo k j) w wr) (fun i _ => s.L.length - (intOf i).toNat)
  case atStart => exact ⟨0, Nat.zero_le _, rfl, Led.refl H.out⟩
  case round =>
    obtain ⟨j, hj, rfl, hl⟩ := hrel
    have HL := Lib.hid hl
    clear hl
    by_cases hlt : j < s.L.length
    · obtain ⟨f, hf⟩ : ∃ f, s.L[j]? = some f := ⟨s.L[j], List.getElem?_eq_getElem hlt⟩
      have hsf := HSF.out f (List.mem_of_getElem? hf)
      have hfb : f.b.length ≤ 100000 := Nat.le_trans (len_le_totV (List.mem_of_getElem? hf)) HS.out.tot
      have HFI := Lib.hid hf
      have HF : Hid ((s.cutTo k j).L[j]? = some f) := Lib.hid (RS.cutTo_at hf)
      clear hf
      obtain ⟨fs, r, g, lc, ba, bc, ho⟩ := HL.out.ref.open HF.out
      have c0 := ho.c0
      have k1 := ho.k1
      have k2 := ho.k2
      have hlt2 := ho.lt
      have hfn : fs.length ≤ 100000 := by rw [ho.few, RS.cutTo_length]; exact hnum
      clear ho
      go_upto_region 3 with (fail)
      go_quiet (fail)
      obtain ⟨w3, hw3⟩ : ∃ y : World, y = wr.drewN nq := ⟨_, rfl⟩
      have hl3 : Led F R (s.cutTo k j) w w3 := by rw [hw3]; exact HL.out.drewN nq
      rw [← hw3]
      have HL3 := Lib.hid hl3
      clear hw3 hl3 c0 k1 k2 hlt2 hfn
      obtain ⟨n0, hn0⟩ : ∃ n0 : Int, n0 = (f.b.length : Int) - f.safe := ⟨_, rfl⟩
      rw [← hn0]
      have HN0 := Lib.hid hn0
      clear hn0
      go_upto_if 35 with (fail)
      go_cut [5] (fun s5 wx => s5 = .int .i64 (min k n0) ∧ w3 = wx)
      case first =>
        go_wp2_with fail
        all_goals (go_meet; exact ⟨by simp only [Value.int.injEq, true_and]; omega, rfl⟩)
      case rest =>
      obtain ⟨rfl, rfl⟩ := hcut
      obtain ⟨n1, hn1⟩ : ∃ n1 : Int, n1 = min k n0 := ⟨_, rfl⟩
      rw [← hn1]
      have HN1 := Lib.hid hn1
      clear hn1
      go_upto_if 38 with (fail)
      go_cut [5] (fun s5 wx => s5 = .int .i64 (max 0 n1) ∧ w3 = wx)
      case first =>
        go_wp2_with fail
        all_goals (go_meet; exact ⟨by simp only [Value.int.injEq, true_and]; omega, rfl⟩)
      case rest =>
      obtain ⟨rfl, rfl⟩ := hcut
      obtain ⟨N, hN⟩ : ∃ N : Nat, (N : Int) = max 0 n1 := ⟨(max 0 n1).toNat, by omega⟩
      rw [← hN]
      have HK : Hid (keepW k f = f.safe + N) := Lib.hid (by unfold keepW; have := HN0.out; have := HN1.out; omega)
      have hNb : f.safe + N ≤ f.b.length := by have := HN0.out; have := HN1.out; omega
      clear hN
      obtain ⟨fs, r, g, lc, ba, bc, ho⟩ := HL3.out.ref.open HF.out
      have c0 := ho.c0
      have k1 := ho.k1
      have k2 := ho.k2
      have hlt2 := ho.lt
      have hfn : fs.length ≤ 100000 := by rw [ho.few, RS.cutTo_length]; exact hnum
      have f1 := ho.fr (j * 3 + 1)
      have hcap := ho.cap
      have hno := ho.no
      have hsome := ho.at0
      have HO := Lib.hid ho
      clear ho
      have e1 : (0 : Int) ≤ (f.safe : Int) + N := by omega
      have e2 : (f.safe : Int) + N ≤ bc := by omega
      have e3 : ((f.safe : Int) + N).toNat = f.safe + N := by omega
      go_upto_region 8 with (fail)
      go_cut [] (fun wx => Led F R ((s.cutTo k j).setB j f (f.b.take (f.safe + N))) w wx)
      case first =>
        rcases ba with _ | ad
        · obtain ⟨h0, rfl⟩ := hno rfl
          have hN0 : N = 0 := by omega
          subst hN0
          have hs0 : f.safe = 0 := by omega
          rw [hs0] at k2 e1 e2 e3
          rw [h0] at k1
          clear hsome hno
          have HS0 := Lib.hid hs0
          clear hs0 h0 hsf hNb hcap
          go_region
          go_wp2_with fail
          go_meet
          have := HO.out.cutB (N := 0) (Nat.zero_le _)
          rw [HS0.out]
          exact HL3.out.trans this.drew
        · obtain ⟨gb, rfl⟩ := hsome ad rfl
          clear hsome hno
          go_region
          go_wp2_with fail
          go_meet
          exact HL3.out.trans (HO.out.cutB hNb).drew
      case rest =>
      obtain ⟨w4, hw4⟩ : ∃ y : World, y = wc := ⟨_, rfl⟩
      rw [← hw4] at hcut ⊢
      have HL4 := Lib.hid hcut
      clear hcut hw4 c0 k1 k2 hlt2 hfn f1 hcap hno hsome e1 e2 e3
      have HF4 : Hid (((s.cutTo k j).setB j f (f.b.take (f.safe + N))).L[j]? = some ⟨f.name, f.b.take (f.safe + N), f.safe⟩) := Lib.hid (by
        show ((s.cutTo k j).L.set j _)[j]? = _
        rw [List.getElem?_set_self (by rw [RS.cutTo_length]; exact hlt)])
      obtain ⟨fs4, r4, g4, lc4, ba4, bc4, ho⟩ := HL4.out.ref.open HF4.out
      have hln : (f.b.take (f.safe + N)).length = f.safe + N := by rw [List.length_take]; omega
      have c0 := ho.c0
      have k1 : w4.cell? ⟨g4, j * 3 + 1, none⟩ = some (.slice ba4 (f.safe + N) bc4) := by
        have := ho.k1
        rw [hln] at this
        exact this
      have hlt2 := ho.lt
      have hfn : fs4.length ≤ 100000 := by rw [ho.few]; show ((s.cutTo k j).L.set j _).length ≤ _; rw [List.length_set, RS.cutTo_length]; exact hnum
      have k2 : w4.cell? ⟨g4, j * 3 + 2, none⟩ = some (.int .i64 f.safe) := ho.k2
      have f2 := ho.fr (j * 3 + 2)
      have HO4 := Lib.hid ho
      clear ho hln
      go_upto_region 9 with (fail)
      go_region
      have hl5 : Led F R (s.cutTo k (j + 1)) w (w4.setCell ⟨g4, j * 3 + 2, none⟩ (.int .i64 ((f.safe + N : Nat) : Int))).drew := by
        have h5 := HO4.out.setS (f.safe + N)
        refine HL4.out.trans ⟨Ref.as h5.drew.ref ?_, h5.drew.mod⟩
        have h6 := RS.cutTo_set (k := k) HFI.out
        rw [← cutW_of HK.out] at h6
        unfold RS.setS RS.setB
        dsimp only
        rw [List.set_set, h6]
        rfl
      obtain ⟨w5, hw5⟩ : ∃ y : World, y = (w4.setCell ⟨g4, j * 3 + 2, none⟩ (.int .i64 ((f.safe + N : Nat) : Int))).drew := ⟨_, rfl⟩
      rw [← hw5] at hl5
      first
        | rw [← hw5]
        | (have e7 : (((f.safe + N : Nat) : Int)) = (f.safe : Int) + N := by omega
           rw [e7] at hw5
           rw [← hw5])
      have HL5 := Lib.hid hl5
      clear hl5 hw5
      go_wp2_with fail
      go_roundw
      case rel => exact ⟨j + 1, hlt, by go_num, HL5.out⟩
      case measure => simp [intOf]; omega
    · have hall := RS.cutTo_all s k j (by omega)
      obtain ⟨fs, lv, hv, hr⟩ := HL.out.ref.ex
      obtain ⟨c0, _, _, _, _, _, fr⟩ := rcell hr.box
      have f3 := fr 3
      have hlen : fs.length = s.L.length := by rw [← RS.cutTo_length s k j, ← hv, List.length_map]
      obtain ⟨a, c, hlv⟩ := hr.lv_form
      rw [hlv] at c0
      have HALL := Lib.hid hall
      clear hall hv hr fr hlv
      have hfn : fs.length ≤ 100000 := by omega
      have hnl : ¬ j < fs.length := by omega
      clear hlen
      go_upto_region 11 with (fail)
      have hl2 : Led F R { s.cutTo k j with armed := 0 } w (wr.setCell ⟨R, 3, none⟩ (.int .i64 0)) := HL.out.trans (HL.out.ref.put3 0)
      obtain ⟨w5, hw5⟩ : ∃ y : World, y = wr.setCell ⟨R, 3, none⟩ (.int .i64 0) := ⟨_, rfl⟩
      rw [← hw5] at hl2 ⊢
      have HL2 := Lib.hid hl2
      have f5 := hl2.ref.cells.fr 5
      have c5 := hl2.ref.cells.failing
      clear hl2 hw5 c0 f3
      go_wp2
      go_end0
      refine ⟨rfl, Led.trans HL2.out ⟨(HL2.out.ref.put5 0).ref.as ?_, (HL2.out.ref.put5 0).mod⟩⟩
      rw [HALL.out]
      rfl

end Go.Proofs.YtjbhdidjkdlceaaDoor
