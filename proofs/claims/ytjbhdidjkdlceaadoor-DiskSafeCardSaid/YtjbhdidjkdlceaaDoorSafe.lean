/- DiskSafe, whatever its arguments. -/
import Derived.Test.YtjbhdidjkdlceaaDoorSafe1
import Derived.BigQuiet
namespace Go.Proofs.YtjbhdidjkdlceaaDoor
open Go.RowKit Go.Maps
set_option linter.unusedVariables false

set_option maxRecDepth 100000 in
set_option maxHeartbeats 6000000 in
theorem diskSafe_any {W : World} (n0 : Int) (a : Option Addr) (len cap : Nat) (xs : List AV) (hlen : xs.length = len) (hl : len ≤ 140737488355328) (hacts : ActsAt W a xs) (keep : Int) :
    Calls Tryd.prog 9 #[.int .i64 n0, .slice a len cap, .int .i64 keep] W fun e w' => e = .returned (.bool true) ∧ Below W.heap.size W w' := by
  obtain ⟨r1, r2⟩ := roomOf_fits n0
  have HACTS := Lib.hid hacts
  have HLEN := Lib.hid hlen
  clear hacts hlen
  go_enter Tryd.func9, Tryd.ntmps9
  go_wp2_with (first
    | (go_at_call 10; refine (alive_any _).mono ?_; rintro e w1 ⟨rfl, hb1⟩; have HB1 := Lib.hid hb1; clear hb1)
    | fail)
  refine (great_any xs len HLEN.out hl a cap w1 (HACTS.out.keep (Mod.of_below (S := fun _ => False) HB1.out) (fun _ _ => id))).mono ?_
  rintro e w2 ⟨hb2, r, rfl, hgr⟩
  have HB2 : Hid (Below W.heap.size W w2) := Lib.hid (HB1.out.trans (hb2.mono HB1.out.size))
  have HGR := Lib.hid hgr
  clear hb2 hgr HB1
  cases r with
  | true =>
    go_wp2_with (first
      | (go_at_call 10; refine (alive_any _).mono ?_; rintro e w3 ⟨rfl, hb3⟩; have HB3 := Lib.hid hb3; clear hb3)
      | fail)
    go_ret
    exact ⟨by simp, HB2.out.trans (HB3.out.mono HB2.out.size)⟩
  | false =>
    obtain ⟨hfew, hbytes⟩ := HGR.out rfl
    have HF : Hid (Few W w2 a xs) := Lib.hid ⟨HACTS.out, HB2.out, hfew, hbytes⟩
    have hlen200 : len ≤ 200 := by rw [← HLEN.out]; exact hfew
    clear hfew hbytes HGR HACTS
    go_wp2_with (first
      | (go_at_call 13; refine (room_of _ _).mono ?_; rintro e w3 ⟨rfl, rfl⟩)
      | fail)
    refine (at_new (roomOf n0) r1 r2 _).mono ?_
    rintro e w4 ⟨rfl, hat⟩
    have HA0 : Hid (Ahead w3 xs 0 (newS (roomOf n0)) w4) := Lib.hid ⟨hat, newS_ok r1 r2⟩
    clear hat
    go_wp2_with fail
    go_loopw [43] (fun i wr => ∃ j : Nat, ∃ s : PS, j ≤ len ∧ i = .int .i64 j ∧ Ahead w3 xs j s wr) (fun i _ => len - (intOf i).toNat)
    case atStart => exact ⟨0, _, Nat.zero_le _, rfl, HA0.out⟩
    case round =>
      obtain ⟨j, s, hj, rfl, hah⟩ := hrel
      have HAH := Lib.hid hah
      clear hah
      by_cases hlt : j < len
      · obtain ⟨x, hx⟩ : ∃ x, xs[j]? = some x := ⟨xs[j]'(by rw [HLEN.out]; exact hlt), List.getElem?_eq_getElem _⟩
        obtain ⟨b1, o1, rfl, q0, q1, q2, q3, q4, q5⟩ := HAH.out.cells HF.out hx
        obtain ⟨wa, hwa⟩ : ∃ wa : World, wa = wr.alloc (.cells #[.int .i64 x.k, .int .i64 x.n, .int .i64 x.kp, .string x.A, .string x.B, .slice x.ra x.bs.length x.rc] 36) := ⟨_, rfl⟩
        have hbox : wa.heap[wr.heap.size]? = some (.cells x.cs 36 (0, 0)) := by rw [hwa]; exact heap_alloc_new _ _
        have p0 : wa.cell? ⟨wr.heap.size, 0, none⟩ = some (.int .i64 x.k) := by rw [cell_of_row _ _ _ _ _ _ hbox]; rfl
        have p1 : wa.cell? ⟨wr.heap.size, 1, none⟩ = some (.int .i64 x.n) := by rw [cell_of_row _ _ _ _ _ _ hbox]; rfl
        have p2 : wa.cell? ⟨wr.heap.size, 2, none⟩ = some (.int .i64 x.kp) := by rw [cell_of_row _ _ _ _ _ _ hbox]; rfl
        have p3 : wa.cell? ⟨wr.heap.size, 3, none⟩ = some (.string x.A) := by rw [cell_of_row _ _ _ _ _ _ hbox]; rfl
        have p4 : wa.cell? ⟨wr.heap.size, 4, none⟩ = some (.string x.B) := by rw [cell_of_row _ _ _ _ _ _ hbox]; rfl
        have p5 : wa.cell? ⟨wr.heap.size, 5, none⟩ = some (.slice x.ra x.bs.length x.rc) := by rw [cell_of_row _ _ _ _ _ _ hbox]; rfl
        have HCL := Lib.hid (HAH.out.call_box HF.out hx hwa)
        have HWA := Lib.hid hwa
        clear hbox hwa hx
        go_upto_region 9 with (fail)
        rw [← HWA.out]
        go_wp2_with (first
          | (go_at_call 14; refine HCL.out.mono ?_; rintro e w6 ⟨rfl, hah6, _⟩; have HA6 := Lib.hid hah6; clear hah6)
          | fail)
        go_roundw
        case rel => exact ⟨j + 1, _, by omega, by go_num, HA6.out⟩
        case measure => simp [intOf]; omega
      · have hN0 := names_law HAH.out.lies.room
        obtain ⟨wB, hwB⟩ : ∃ x : World, x = wr := ⟨_, rfl⟩
        have HNM := Lib.hid hN0
        clear hN0
        subst hwB
        go_wp2_with fail
        refine HNM.out.mono ?_
        rintro e w5 ⟨⟨na, nc, rfl, hrow⟩, hb5⟩
        obtain ⟨N, hN⟩ : ∃ N, N = s.L.length := ⟨_, rfl⟩
        rw [← hN] at hrow ⊢
        have hN2 : N ≤ 200 := by
          have := HAH.out.ok.num
          omega
        have HR5 : Hid (Reads w3 wB s w5) := Lib.hid ((Reads.of HAH.out.lies).more hb5)
        have hrow' : w5.ownsRow wB.heap.size 9 1 (.slice na s.L.length nc) s.L.length (s.L.map nameV) := by
          rw [← hN]
          have e : (s.L.map (·.name)).map encStr = s.L.map nameV := by rw [List.map_map]; rfl
          rw [← e]
          exact hrow
        have HG5 : Hid (Gathered wB.heap.size s.L 0 (.slice na N nc) (.slice none 0 0) (.slice none 0 0) w5) :=
          Lib.hid ⟨by rw [hN]; exact hrow', ⟨[], World.ownsRow_nil _ _ _ _, fun i v hv => by simp at hv⟩, World.ownsRow_nil _ _ _ _⟩
        have HNN := Lib.hid hN
        have HOK := Lib.hid HAH.out.ok
        clear hrow hrow' hb5 hN HNM
        go_wp2_with fail
        go_loopw [12, 13, 55] (fun al sf i wr2 => ∃ j2 : Nat, j2 ≤ N ∧ i = .int .i64 j2 ∧ Reads w3 wB s wr2 ∧ Gathered wB.heap.size s.L j2 (.slice na N nc) al sf wr2) (fun _ _ i _ => N - (intOf i).toNat)
        case atStart => exact ⟨0, Nat.zero_le _, rfl, HR5.out, HG5.out⟩
        case round =>
          obtain ⟨j2, hj2, rfl, hrd, hga⟩ := hrel
          have HRD := Lib.hid hrd
          have HGA := Lib.hid hga
          clear hrd hga
          by_cases hlt2 : j2 < N
          · obtain ⟨f, hf⟩ : ∃ f, s.L[j2]? = some f := ⟨s.L[j2]'(by rw [← HNN.out]; exact hlt2), List.getElem?_eq_getElem _⟩
            obtain ⟨g, cap1, hv, _, _⟩ := HGA.out.names.form (by rw [← HNN.out]; omega)
            rw [← HNN.out] at hv
            simp only [Value.slice.injEq, true_and] at hv
            obtain ⟨rfl, rfl⟩ := hv
            have hcell : wr.cell? ⟨g, j2, none⟩ = some (.string ⟨f.name.toArray⟩) := by
              have hnm := HGA.out.names
              rw [← HNN.out] at hnm
              rw [hnm.cellAt j2 (by omega), List.getElem?_map, hf]
              rfl
            have hnmsz := name_size HOK.out hf
            have hsafe := HOK.out.safe f (List.mem_of_getElem? hf)
            have hrd := read_law HRD.out.at.room ⟨f.name.toArray⟩ (by show f.name.toArray.size ≤ _; simp; omega) f (findV_at HOK.out.sorted hf)
            have hsy : ∀ w, Reads w3 wB s w → Calls Tryd.prog 27 #[.pointer (some ⟨w3.heap.size + 1, 0, none⟩), .string ⟨f.name.toArray⟩] w fun e w' => e = .returned (.int .i64 f.safe) ∧ w' = w := fun w h =>
              h.at.synced ⟨f.name.toArray⟩ (by show f.name.toArray.size ≤ _; simp; omega) (safeV_at HOK.out.sorted hf)
            have HRL := Lib.hid hrd
            have HSY := Lib.hid hsy
            have HFI := Lib.hid hf
            clear hrd hsy hf hnmsz
            have HBw := HRD.out.below.size
            go_upto_region 20 with (first
              | (go_at_call 18; refine HRL.out.mono ?_; rintro e w6 ⟨⟨ra, rc, rfl, hrow6⟩, hb6⟩; have HROW := Lib.hid (hrow6.mono HBw); have HB6 := Lib.hid hb6; have HRD6 := Lib.hid (HRD.out.more (hb6.mono HBw)); have HGA6 := Lib.hid (HGA.out.below hb6); have HBw6 := HRD6.out.below.size; clear hrow6 hb6)
              | (go_at_call 27; refine (HSY.out _ HRD6.out).mono ?_; rintro e w7 ⟨rfl, hw7⟩; obtain rfl := hw7.symm))
            have HX6 := Lib.hid (HGA6.out.below ((Below.refl _ w6).alloc (Nat.le_refl _) (.cells #[.slice ra f.b.length rc] 34)))
            have HR6 := Lib.hid (below_row ((Below.refl _ w6).alloc (Nat.le_refl _) (.cells #[.slice ra f.b.length rc] 34)) HROW.out)
            have HX7 := Lib.hid (HRD6.out.more ((Below.refl _ w6).alloc HBw6 (.cells #[.slice ra f.b.length rc] 34)))
            go_wp2_with (first
              | (at_builtin; (obtain ⟨vs, hvs, hvs2⟩ := HX6.out.all; refine wpList_append_slice (s := .tmp 81) (xo := .tmp 83) rfl rfl (w6.alloc (.cells #[.slice ra f.b.length rc] 34)) wB.heap.size _ j2 vs rfl hvs (by simp; omega) (by omega) w6.heap.size ra f.b.length rc rfl (cell_of_one (heap_alloc_new w6 _)) ?_; intro aa ac w8 hn8 hg8; have HH8 := Lib.hid (HX6.out.half HFI.out HR6.out hg8 hvs hvs2 hn8); have HRD8 := Lib.hid (HX7.out.more (grown_below hvs (by simp; omega) hg8)); have HBw8 := HRD8.out.below.size; have HX8 := Lib.hid (HH8.out.keep (Mod.of_below (S := fun _ => False) ((Below.refl _ w8).alloc (Nat.le_refl _) (.cells #[.int .i64 f.safe] 3))) (fun _ _ _ => id)); have HX9 := Lib.hid (HRD8.out.more ((Below.refl _ w8).alloc HBw8 (.cells #[.int .i64 f.safe] 3))); clear hvs hvs2 hn8 hg8))
              | (go_at_call 27; (refine (HSY.out _ HRD8.out).mono ?_; rintro e w7 ⟨rfl, hw7⟩; obtain rfl := hw7.symm))
              | (at_builtin; (refine wpList_append_int (s := .tmp 85) (xo := .tmp 89) rfl rfl (w8.alloc (.cells #[.int .i64 f.safe] 3)) wB.heap.size _ j2 _ rfl HX8.out.safe (by simp; omega) (by omega) w8.heap.size f.safe rfl (cell_of_one (heap_alloc_new w8 _)) ?_; intro sa sc w9 hn9 hg9; have HG9 := Lib.hid (HX8.out.more HFI.out hg9 hn9); have HRD9 := Lib.hid (HX9.out.more (grown_below HX8.out.safe (by simp; omega) hg9)); clear hn9 hg9)))
            go_roundw
            case rel => exact ⟨j2 + 1, by omega, by go_num, HRD9.out, HG9.out⟩
            case measure => simp [intOf]; omega
          · obtain rfl : j2 = N := by omega
            have htk : tk xs j ≤ 100000 := by
              have h1 := tk_le xs j
              have h2 := HF.out.bytes
              omega
            have hok2 : Ok 100000 100000 (s.power keep).2 := (HOK.out.power keep).mono (by omega) htk
            have HPW := Lib.hid (HRD.out.power keep hok2)
            have HFS := Lib.hid HRD.out.first.size
            clear hok2 htk
            go_upto_region 22 with (fail)
            go_wp2_with (first
              | (go_at_call 26; (refine HPW.out.mono ?_; rintro e w6 ⟨rfl, hrd6, hm6⟩; have HRD6 := Lib.hid hrd6; have HM6 := Lib.hid hm6; have HGA6 := Lib.hid (HGA.out.keep hm6 (fun t h1 h2 h3 => h3 (.inr ⟨h1, h2⟩))); have HNM6 := Lib.hid (names_law hrd6.at.room); clear hrd6 hm6))
              | (go_at_call 28; (refine HNM6.out.mono ?_; rintro e w7 ⟨⟨na7, nc7, rfl, hrow7⟩, hb7⟩; have hl7 : (s.power keep).2.L.length = j2 := (List.length_map _).trans HNN.out.symm; rw [hl7]; have HRD7 := Lib.hid (HRD6.out.more hb7); have HGA7 := Lib.hid (HGA6.out.below hb7); clear hrow7 hb7 hl7)))
            go_loopw [106] (fun i wr2 => ∃ j3 : Nat, j3 ≤ j2 ∧ i = .int .i64 j3 ∧ Reads w3 w6 (s.power keep).2 wr2 ∧ Gathered wB.heap.size s.L j2 (.slice na j2 nc) u12 u13 wr2) (fun i _ => j2 - (intOf i).toNat)
            case atStart => exact ⟨0, Nat.zero_le _, rfl, HRD7.out, HGA7.out⟩
            case round =>
              obtain ⟨j3, hj3, rfl, hrd, hga⟩ := hrel
              have HRE := Lib.hid hrd
              by_cases hlt3 : j3 < j2
              · obtain ⟨g, cap1, hv, _, _⟩ := hga.names.form (by rw [← HNN.out]; omega)
                rw [← HNN.out] at hv
                simp only [Value.slice.injEq, true_and] at hv
                obtain ⟨rfl, rfl⟩ := hv
                obtain ⟨vs0, hvs0, _⟩ := hga.all
                obtain ⟨ga, ca, rfl, _, _⟩ := hvs0.form (by omega)
                obtain ⟨gs, cs, rfl, _, _⟩ := hga.safe.form (by omega)
                obtain ⟨f, hf⟩ : ∃ f, s.L[j3]? = some f := ⟨s.L[j3]'(by rw [← HNN.out]; exact hlt3), List.getElem?_eq_getElem _⟩
                have hcell : wr.cell? ⟨g, j3, none⟩ = some (.string ⟨f.name.toArray⟩) := by
                  have hnm := hga.names
                  rw [← HNN.out] at hnm
                  rw [hnm.cellAt j3 (by omega), List.getElem?_map, hf]
                  rfl
                have HGX := Lib.hid hga
                clear hga hrd hvs0
                have hnmsz := name_size HOK.out hf
                have hsafe := HOK.out.safe f (List.mem_of_getElem? hf)
                obtain ⟨c1, c2, c3, c4⟩ := cut_facts keep hsafe
                have hf2 : (s.power keep).2.L[j3]? = some (cutW keep f) := cut_at hf
                have hrd := read_law HRE.out.at.room ⟨f.name.toArray⟩ (by show f.name.toArray.size ≤ _; simp; omega) (cutW keep f) (findV_at HRE.out.ok.sorted hf2)
                have hsy : ∀ w, Reads w3 w6 (s.power keep).2 w → Calls Tryd.prog 27 #[.pointer (some ⟨w3.heap.size + 1, 0, none⟩), .string ⟨f.name.toArray⟩] w fun e w' => e = .returned (.int .i64 (keepW keep f)) ∧ w' = w := fun w h =>
                  h.at.synced ⟨f.name.toArray⟩ (by show f.name.toArray.size ≤ _; simp; omega) (safeV_at HRE.out.ok.sorted hf2)
                obtain ⟨K, hK⟩ : ∃ K, K = keepW keep f := ⟨_, rfl⟩
                have hlb : (cutW keep f).b.length = K := by
                  show (f.b.take (keepW keep f)).length = K
                  rw [List.length_take, hK]
                  omega
                have hbb : (cutW keep f).b = f.b.take K := by rw [hK]; rfl
                have HBB := Lib.hid hbb
                have HLB := Lib.hid hlb
                have HRL := Lib.hid hrd
                rw [← hK] at hsy c1 c2 c3 c4
                have HSY := Lib.hid hsy
                have HFI := Lib.hid hf
                have HKC : Hid (keep ≤ 0 → K = f.safe) := Lib.hid c3
                have HKD : Hid ((f.b.length : Int) ≤ keep → K = f.b.length) := Lib.hid c4
                clear hrd hsy hf hnmsz hf2 hbb hlb hK c3 c4
                have HBw := HRE.out.below.size
                go_upto_region 28 with (first
                  | (go_at_call 18; (refine HRL.out.mono ?_; rintro e w8 ⟨⟨ra, rc, rfl, hrow8⟩, hb8⟩; have HROW := Lib.hid (hrow8.mono HBw); have HRD8 := Lib.hid (HRE.out.more (hb8.mono HBw)); have HGA8 := Lib.hid (HGX.out.below hb8); rw [HLB.out]; clear hrow8 hb8)))
                obtain ⟨k1, a2, cc, k2, hb2, hcap, hnil, hsome⟩ := HGA8.out.cells HFI.out hlt3
                have hlt8 : (f.b.take K).length = K := by rw [List.length_take]; omega
                have hby1 : BytesAt w8 ra (f.b.take K) := by
                  have := bytes_of_row HROW.out
                  rw [HBB.out] at this
                  exact this
                have hcv1 : ∀ n, (convert 34 9 (.slice ra K rc)).run Tryd.prog (w8.drewN n) = .ok (.string (strB (f.b.take K))) (w8.drewN n) := fun n => by
                  have := conv_of (w := w8.drewN n) (hby1.keep (S := fun _ => False) ((Mod.refl _ w8).drewN n) (fun _ _ _ => id)) rc
                  rw [hlt8] at this
                  exact this
                have hcv2 : ∀ n, (convert 34 9 (.slice a2 K cc)).run Tryd.prog (w8.drewN n) = .ok (.string (strB (f.b.take K))) (w8.drewN n) := fun n => by
                  have := conv_of (w := w8.drewN n) ((hb2.take K).keep (S := fun _ => False) ((Mod.refl _ w8).drewN n) (fun _ _ _ => id)) cc
                  rw [hlt8] at this
                  exact this
                have hfl : f.b.length ≤ 100000 := Nat.le_trans (len_le_totV (List.mem_of_getElem? HFI.out)) HRD.out.ok.tot
                have t1 : (K < f.safe) = False := eq_false (by omega)
                have t2 : (f.b.length < K) = False := eq_false (by omega)
                have e1 : ((K : Int)).toNat = K := by omega
                have e2 : (0 : Int) ≤ K := by omega
                have e3 : (K : Int) ≤ cc := by omega
                have q1 : ∀ n, Reads w3 w6 (s.power keep).2 (w8.drewN n) := fun n => HRD8.out.more (((Mod.refl (fun _ => False) w8).drewN n).below (fun _ h => h.elim) HRD8.out.below.size)
                have HQ1 := Lib.hid q1
                clear q1
                have HB8 : Hid (Below w6.heap.size w6 w8) := Lib.hid HRD8.out.below
                rcases a2 with _ | ad
                · obtain ⟨h0, rfl⟩ := hnil rfl
                  have hK0 : K = 0 := by omega
                  have hs0 : f.safe = 0 := by omega
                  subst hK0
                  rw [h0] at k2 t2
                  rw [hs0] at k1 t1
                  clear h0 hs0 hcap hfl
                  rcases Int.lt_or_le 0 keep with hk0 | hk0
                  · have t3 : (keep ≤ 0) = False := eq_false (by omega)
                    have t4 : ((0 : Int) ≤ keep) = True := eq_true (by omega)
                    dsimp only [List.append]
                    go_big_quiet (first
                      | (go_at_call 27; refine Calls.quiet_of_same (HSY.out _ (HQ1.out _))))
                    go_wp2_with fail
                    go_roundw
                    case rel => exact ⟨j3 + 1, by omega, by go_num, HQ1.out _, HGA8.out.keep ((Mod.refl (fun _ => False) w8).drewN nq) (fun _ _ _ => id)⟩
                    case measure => simp [intOf]; omega
                  · have t3 : (keep ≤ 0) = True := eq_true (by omega)
                    rcases Int.lt_or_le keep 0 with hk1 | hk1
                    · have t4 : ((0 : Int) ≤ keep) = False := eq_false (by omega)
                      dsimp only [List.append]
                      go_big_quiet (first
                        | (go_at_call 27; refine Calls.quiet_of_same (HSY.out _ (HQ1.out _))))
                      go_wp2_with fail
                      go_roundw
                      case rel => exact ⟨j3 + 1, by omega, by go_num, HQ1.out _, HGA8.out.keep ((Mod.refl (fun _ => False) w8).drewN nq) (fun _ _ _ => id)⟩
                      case measure => simp [intOf]; omega
                    · have t4 : ((0 : Int) ≤ keep) = True := eq_true (by omega)
                      dsimp only [List.append]
                      go_big_quiet (first
                        | (go_at_call 27; refine Calls.quiet_of_same (HSY.out _ (HQ1.out _))))
                      go_wp2_with fail
                      go_roundw
                      case rel => exact ⟨j3 + 1, by omega, by go_num, HQ1.out _, HGA8.out.keep ((Mod.refl (fun _ => False) w8).drewN nq) (fun _ _ _ => id)⟩
                      case measure => simp [intOf]; omega
                · obtain ⟨gb, rfl⟩ := hsome ad rfl
                  rcases Int.lt_or_le 0 keep with hk0 | hk0
                  · have t3 : (keep ≤ 0) = False := eq_false (by omega)
                    rcases Int.lt_or_le keep f.b.length with hk1 | hk1
                    · have t4 : ((f.b.length : Int) ≤ keep) = False := eq_false (by omega)
                      dsimp only [List.append]
                      go_big_quiet (first
                        | (go_at_call 27; refine Calls.quiet_of_same (HSY.out _ (HQ1.out _))))
                      go_wp2_with fail
                      go_roundw
                      case rel => exact ⟨j3 + 1, by omega, by go_num, HQ1.out _, HGA8.out.keep ((Mod.refl (fun _ => False) w8).drewN nq) (fun _ _ _ => id)⟩
                      case measure => simp [intOf]; omega
                    · obtain rfl := HKD.out hk1
                      have t4 : ((f.b.length : Int) ≤ keep) = True := eq_true (by omega)
                      dsimp only [List.append]
                      go_big_quiet (first
                        | (go_at_call 27; refine Calls.quiet_of_same (HSY.out _ (HQ1.out _))))
                      go_wp2_with fail
                      go_roundw
                      case rel => exact ⟨j3 + 1, by omega, by go_num, HQ1.out _, HGA8.out.keep ((Mod.refl (fun _ => False) w8).drewN nq) (fun _ _ _ => id)⟩
                      case measure => simp [intOf]; omega
                  · have t3 : (keep ≤ 0) = True := eq_true (by omega)
                    obtain rfl := HKC.out hk0
                    rcases Int.lt_or_le keep f.b.length with hk1 | hk1
                    · have t4 : ((f.b.length : Int) ≤ keep) = False := eq_false (by omega)
                      dsimp only [List.append]
                      go_big_quiet (first
                        | (go_at_call 27; refine Calls.quiet_of_same (HSY.out _ (HQ1.out _))))
                      go_wp2_with fail
                      go_roundw
                      case rel => exact ⟨j3 + 1, by omega, by go_num, HQ1.out _, HGA8.out.keep ((Mod.refl (fun _ => False) w8).drewN nq) (fun _ _ _ => id)⟩
                      case measure => simp [intOf]; omega
                    · have t4 : ((f.b.length : Int) ≤ keep) = True := eq_true (by omega)
                      have t5 : (f.safe = f.b.length) = True := eq_true (HKD.out hk1)
                      dsimp only [List.append]
                      go_big_quiet (first
                        | (go_at_call 27; refine Calls.quiet_of_same (HSY.out _ (HQ1.out _))))
                      go_wp2_with fail
                      go_roundw
                      case rel => exact ⟨j3 + 1, by omega, by go_num, HQ1.out _, HGA8.out.keep ((Mod.refl (fun _ => False) w8).drewN nq) (fun _ _ _ => id)⟩
                      case measure => simp [intOf]; omega
              · go_wp2_with fail
                go_ret
                exact ⟨by simp, HB2.out.trans (HRE.out.at.below.mono HB2.out.size)⟩

end Go.Proofs.YtjbhdidjkdlceaaDoor
