/- DeframeResets, whatever its bytes. -/
import Derived.Test.YtcmpcpemmmobeaaOpen
namespace Go.Proofs.Ytcmpcpemmmobeaa
open Go.RowKit
set_option linter.unusedVariables false

theorem reset_told (D most lo nb : Nat) (nv fv : Value) (s : St) (w : World) (h : DSt w D most lo nb nv fv s) :
    Calls Try.prog 16 #[.pointer (some ⟨D, 0, none⟩)] w fun e w' => e = .returned (.tuple #[]) ∧ Mod (fun t => t = D) w w' ∧ DSt w' D most lo nb (.slice none 0 0) fv s.out := by
  have HR := Lib.hid (outside_any D _ _ _ _ _ _ _ _ _ w h.cells)
  have HS := Lib.hid h
  clear h
  go_enter Try.func16, Try.ntmps16
  go_wp2_with fail
  refine HR.out.mono ?_
  rintro en w' ⟨rfl, ho, hd⟩
  have HO := Lib.hid ho
  have HD := Lib.hid hd
  clear ho hd
  go_wp2
  go_end0
  have M : Mod (fun t => t = D) w w' := Mod.only HO.out rfl
  exact ⟨rfl, M, HD.out, World.ownsRow_nil _ _ _ _, fun _ => rfl, Nat.le_trans HS.out.nbw M.size, HS.out.keep (M.mono (fun k _ hk => .inl hk)), Nat.le_trans HS.out.lob M.size⟩

set_option maxRecDepth 100000 in
set_option maxHeartbeats 2000000 in
theorem deframeResets_bytes {W : World} (n : Int) (us bs : List UInt8) (la lb : Nat) (hla : us.length = la) (hlb : bs.length = lb) (ra rb : Option Addr) (ca cb : Nat) (ha : BytesAt W ra us) (hb : BytesAt W rb bs) (ka : la ≤ 140737488355328) (kb : lb ≤ 140737488355328) :
    Calls Try.prog 4 #[.int .i64 n, .slice ra la ca, .slice rb lb cb] W fun e w' => e = .returned (.bool true) ∧ Below W.heap.size W w' := by
  have HA := Lib.hid ha
  have HB := Lib.hid hb
  have HLA := Lib.hid hla
  have HLB := Lib.hid hlb
  clear ha hb hla hlb
  by_cases hfew : la ≤ 2000 ∧ lb ≤ 2000
  · obtain ⟨fa, fb⟩ := hfew
    obtain ⟨hm1, hm2⟩ := mostOf_room n
    obtain ⟨m, hm⟩ : ∃ m, m = mostOf n := ⟨_, rfl⟩
    have hmost : ∀ w, Calls Try.prog 8 #[.int .i64 n] w fun e w' => e = .returned (.int .i64 (mostOf n)) ∧ w = w' := fun w => (most_any n w).mono fun _ _ h => ⟨h.1, h.2.symm⟩
    rw [← hm] at hm1 hm2 hmost
    have HMOST := Lib.hid hmost
    clear hmost hm
    have hna : ¬ (2000 : Int) < la := by omega
    have hnb : ¬ (2000 : Int) < lb := by omega
    go_enter Try.func4, Try.ntmps4
    go_wp2_with fail
    refine (alive_any _).mono ?_
    rintro e w1 ⟨rfl, hb1⟩
    have HB1 := Lib.hid hb1
    clear hb1
    go_wp2_with (first | (go_at_call 8; refine (HMOST.out _).mono ?_; rintro e w' ⟨rfl, rfl⟩))
    refine (new_any m hm1 hm2 _).mono ?_
    rintro e w2 ⟨rfl, hb2, hd2⟩
    have hbw : Below W.heap.size W w2 := HB1.out.trans (hb2.mono HB1.out.size)
    have hDW : W.heap.size ≤ w1.heap.size := HB1.out.size
    obtain ⟨D, hD⟩ : ∃ D, D = w1.heap.size := ⟨_, rfl⟩
    rw [← hD] at hd2 hDW ⊢
    have HB2 := Lib.hid hbw
    have HD2 := Lib.hid hd2
    clear hb2 hbw hd2 hD
    go_wp2_with fail
    refine (feed_any D m 0 0 (.slice none 0 0) St.init us la HLA.out (St.good_init m) (by omega) rfl (by show 0 + la ≤ _; omega) ra ca w2 HD2.out (HA.out.below (Nat.le_refl _) HB2.out)
      (fun hne ad had => ⟨by have := HA.out.old hne ad had; omega, by simp [Value.ownBlock]⟩)).mono ?_
    obtain ⟨S1, hS1⟩ : ∃ S1, S1 = St.init.steps m us := ⟨_, rfl⟩
    rw [← hS1]
    have HS1 := Lib.hid hS1
    have hc1 := St.count_steps m us St.init
    rw [← hS1, HLA.out] at hc1
    have hcnt1 : S1.count ≤ la := by
      have e0 : St.init.count = 0 := rfl
      omega
    clear hS1 hc1
    rintro e w3 ⟨hm3, fa3, fc3, nb3, nv3, rfl, hd3, hf3, hn3⟩
    have hb3 : Below W.heap.size W w3 := HB2.out.trans (hm3.below (fun k hk => by
      rcases hk with hk | hk
      · omega
      · simp [Value.ownBlock] at hk) HB2.out.size)
    have hnv3 : ∀ t, nv3.ownBlock = some t → W.heap.size ≤ t := fun t ht => by
      rcases hn3 t ht with h1 | h1
      · simp [Value.ownBlock] at h1
      · have := HB2.out.size
        omega
    have HD3 := Lib.hid hd3
    have HB3 := Lib.hid hb3
    have HN3 := Lib.hid hnv3
    clear hm3 hd3 hf3 hn3 hb3 hnv3
    go_wp2_with fail
    refine (reset_told D m _ nb3 nv3 (.slice none 0 0) S1.given w3 HD3.out).mono ?_
    rintro e w4 ⟨rfl, hm4, hd4⟩
    have hb4 : Below W.heap.size W w4 := HB3.out.trans (hm4.below (fun k hk => by omega) HB3.out.size)
    obtain ⟨S0, hS0⟩ : ∃ S0, S0 = S1.given.out := ⟨_, rfl⟩
    rw [← hS0] at hd4
    have HS0 := Lib.hid hS0
    have HD4 := Lib.hid hd4
    have HB4 := Lib.hid hb4
    clear hm4 hd4 hb4 hS0
    go_wp2_with (first | (go_at_call 8; refine (HMOST.out _).mono ?_; rintro e w' ⟨rfl, rfl⟩))
    refine (read_any m us la HLA.out (by omega) (by omega) ra ca w4 (HA.out.below (Nat.le_refl _) HB4.out) (fun hne ad had => by have := HA.out.old hne ad had; have := HB4.out.size; omega)).mono ?_
    rw [← HS1.out]
    rintro e w5 ⟨hb5, fa5, fc5, nb5, rfl, hf5, hfr5⟩
    have HB5 := Lib.hid hb5
    clear hb5 hf5 hfr5
    go_wp2_with fail
    obtain ⟨wq, hwq⟩ : ∃ wq : World, wq = w5.alloc (.cells #[.slice fa5 S1.frames.length fc5, .int .i64 S1.held, .int .i64 S1.junk, .int .i64 S1.over, .int .i64 S1.broken] 34) := ⟨_, rfl⟩
    rw [← hwq]
    have hS0 := HS0.out
    have hd5 : DSt wq D m w2.heap.size nb3 (.slice none 0 0) (.slice none 0 0) S0 := by
      rw [hwq]
      exact (HD4.out.over (Mod.of_below (S := fun _ => False) HB5.out) (fun h => h) (fun _ _ h => h) (by rw [hS0]; rfl)).over (Mod.of_below (S := fun _ => False) ((Below.refl _ w5).alloc (Nat.le_refl _) _)) (fun h => h) (fun _ _ h => h) (by rw [hS0]; rfl)
    have hT5 : wq.heap[w5.heap.size]? = some (.cells (rcells (.slice fa5 S1.frames.length fc5) (.int .i64 S1.held) (.int .i64 S1.junk) (.int .i64 S1.over) (.int .i64 S1.broken)) 34 (0, 0)) := by
      rw [hwq]
      exact heap_alloc_new w5 _
    have hbq : Below W.heap.size W wq := by
      rw [hwq]
      exact (HB4.out.trans (HB5.out.mono HB4.out.size)).alloc (Nat.le_trans HB4.out.size HB5.out.size) _
    have HH : Hid (∀ k, Calls Try.prog 12 #[.pointer (some ⟨D, 0, none⟩)] (wq.drewN k) fun e w' => e = .returned (.int .i64 0) ∧ w' = wq.drewN k) := Lib.hid (fun k => by
      have := held_any D m w2.heap.size nb3 (.slice none 0 0) (.slice none 0 0) S0 (by rw [hS0]; show 0 ≤ _; omega) (wq.drewN k) (hd5.drewN k)
      rw [show S0.held = 0 by rw [hS0]; rfl] at this
      exact this)
    have HJ : Hid (∀ k, Calls Try.prog 13 #[.pointer (some ⟨D, 0, none⟩)] (wq.drewN k) fun e w' => e = .returned (.int .i64 S1.junk) ∧ w' = wq.drewN k) := Lib.hid (fun k => by
      have := junk_any D m w2.heap.size nb3 (.slice none 0 0) (.slice none 0 0) S0 (wq.drewN k) (hd5.drewN k)
      rw [show S0.junk = S1.junk by rw [hS0]; rfl] at this
      exact this)
    have HO : Hid (∀ k, Calls Try.prog 14 #[.pointer (some ⟨D, 0, none⟩)] (wq.drewN k) fun e w' => e = .returned (.int .i64 S1.over) ∧ w' = wq.drewN k) := Lib.hid (fun k => by
      have := over_any D m w2.heap.size nb3 (.slice none 0 0) (.slice none 0 0) S0 (wq.drewN k) (hd5.drewN k)
      rw [show S0.over = S1.over by rw [hS0]; rfl] at this
      exact this)
    have HBR : Hid (∀ k, Calls Try.prog 15 #[.pointer (some ⟨D, 0, none⟩)] (wq.drewN k) fun e w' => e = .returned (.int .i64 S1.broken) ∧ w' = wq.drewN k) := Lib.hid (fun k => by
      have := broken_any D m w2.heap.size nb3 (.slice none 0 0) (.slice none 0 0) S0 (wq.drewN k) (hd5.drewN k)
      rw [show S0.broken = S1.broken by rw [hS0]; rfl] at this
      exact this)
    obtain ⟨k0, k1, k2, k3, k4, _⟩ := rcell hT5
    have HD5 := Lib.hid hd5
    have HT5 := Lib.hid hT5
    have HBQ := Lib.hid hbq
    have hD5 : D < w5.heap.size := by
      have := lt_of_block HD4.out.cells
      have := HB5.out.size
      omega
    clear hS0 hd5 hT5 hbq hwq
    go_quiet (first
      | (go_at_call 12; exact Calls.quiet_of_same (HH.out _))
      | (go_at_call 13; exact Calls.quiet_of_same (HJ.out _))
      | (go_at_call 14; exact Calls.quiet_of_same (HO.out _))
      | (go_at_call 15; exact Calls.quiet_of_same (HBR.out _)))
    obtain ⟨ws, hws⟩ : ∃ ws : World, ws = wq.drewN nq := ⟨_, rfl⟩
    have hds : DSt ws D m w2.heap.size nb3 (.slice none 0 0) (.slice none 0 0) S0 := by rw [hws]; exact HD5.out.drewN _
    have hTs : ws.heap[w5.heap.size]? = some (.cells (rcells (.slice fa5 S1.frames.length fc5) (.int .i64 S1.held) (.int .i64 S1.junk) (.int .i64 S1.over) (.int .i64 S1.broken)) 34 (0, 0)) := by rw [hws]; exact HT5.out
    have hbs : Below W.heap.size W ws := by rw [hws]; exact below_drewN HBQ.out _
    rw [← hws]
    have HDS := Lib.hid hds
    have HTS := Lib.hid hTs
    have HBS := Lib.hid hbs
    clear hws hds hTs hbs HD5 HT5 HBQ HH HJ HO HBR k0 k1 k2 k3 k4
    obtain ⟨S4, hS4⟩ : ∃ S4, S4 = St.init.steps m bs := ⟨_, rfl⟩
    have hS3 : S0.steps m bs = S4.past S1.junk S1.over S1.broken [] := by
      rw [hS4, ← St.steps_past, HS0.out]
      rfl
    have hc4 := St.count_steps m bs St.init
    rw [← hS4, HLB.out] at hc4
    have hg4 := St.good_steps (most := m) bs (St.good_init m)
    rw [← hS4] at hg4
    have hcnt4 : S4.count ≤ lb ∧ S4.frames.length ≤ lb ∧ S4.now.length ≤ m := by
      have e0 : St.init.count = 0 ∧ St.init.frames.length = 0 := ⟨rfl, rfl⟩
      have := hg4.most
      omega
    have HS4 := Lib.hid hS4
    have hfeed := feed_any D m w2.heap.size nb3 (.slice none 0 0) S0 bs lb HLB.out (by rw [HS0.out]; exact St.good_out _ _) (by omega) (by rw [HS0.out]; rfl) (by
      have : S0.count = S1.count := by rw [HS0.out]; rfl
      omega) rb cb ws HDS.out (HB.out.below (Nat.le_refl _) HBS.out) (fun hne ad had => ⟨by have := HB.out.old hne ad had; omega, by simp [Value.ownBlock]⟩)
    rw [hS3] at hfeed
    have HFD := Lib.hid hfeed
    clear hS4 hS3 hc4 hg4 hfeed
    go_wp2_with fail
    refine HFD.out.mono ?_
    rintro e w6 ⟨hm6, fa6, fc6, nb6, nv6, rfl, hd6, hf6, hn6⟩
    have hfrm : (S4.past S1.junk S1.over S1.broken []).frames = S4.frames := List.nil_append _
    rw [hfrm] at hf6 ⊢
    clear hfrm
    have hT6 := hm6.keep HTS.out (fun hs => by
      rcases hs with hs | hs
      · omega
      · simp [Value.ownBlock] at hs)
    have hb6 : Below W.heap.size W w6 := HBS.out.trans (hm6.below (fun k hk => by
      rcases hk with hk | hk
      · omega
      · simp [Value.ownBlock] at hk) HBS.out.size)
    have HD6 := Lib.hid hd6
    have HF6 := Lib.hid hf6
    have HT6 := Lib.hid hT6
    have HB6 := Lib.hid hb6
    clear hm6 hd6 hf6 hn6 hT6 hb6
    go_wp2_with (first | (go_at_call 8; refine (HMOST.out _).mono ?_; rintro e w' ⟨rfl, rfl⟩))
    refine (read_any m bs lb HLB.out (by omega) (by omega) rb cb w6 (HB.out.below (Nat.le_refl _) HB6.out) (fun hne ad had => by have := HB.out.old hne ad had; have := HB6.out.size; omega)).mono ?_
    rw [← HS4.out]
    rintro e w7 ⟨hb7, fa7, fc7, nb7, rfl, hf7, hfr7⟩
    have HB7 := Lib.hid hb7
    have HF7 := Lib.hid hf7
    clear hb7 hf7 hfr7
    go_wp2_with fail
    obtain ⟨wz, hwz⟩ : ∃ wz : World, wz = w7.alloc (.cells #[.slice fa7 S4.frames.length fc7, .int .i64 S4.held, .int .i64 S4.junk, .int .i64 S4.over, .int .i64 S4.broken] 34) := ⟨_, rfl⟩
    have hb67 : Below w6.heap.size w6 wz := by rw [hwz]; exact HB7.out.alloc HB7.out.size _
    have hdz : DSt wz D m ws.heap.size nb6 nv6 (.slice none 0 0) (S4.past S1.junk S1.over S1.broken []).given := HD6.out.over (Mod.of_below (S := fun _ => False) hb67) (fun h => h) (fun _ _ h => h) rfl
    have hT1 := (hb67.block _ (lt_of_block HT6.out)).trans HT6.out
    have hT2 : wz.heap[w7.heap.size]? = some (.cells (rcells (.slice fa7 S4.frames.length fc7) (.int .i64 S4.held) (.int .i64 S4.junk) (.int .i64 S4.over) (.int .i64 S4.broken)) 34 (0, 0)) := by
      rw [hwz]
      exact heap_alloc_new w7 _
    have hbz : Below W.heap.size W wz := HB6.out.trans (hb67.mono HB6.out.size)
    have hr1 : RowsAt wz fa6 S4.frames := (found_rows HF6.out).below hb67
    have hr2 : RowsAt wz fa7 S4.frames := by
      rw [hwz]
      exact (found_rows HF7.out).below ((Below.refl _ w7).alloc (Nat.le_refl _) _)
    have HSM : Hid (∀ k, Calls Try.prog 11 #[.slice fa6 S4.frames.length fc6, .slice fa7 S4.frames.length fc7] (wz.drewN k) fun e w' => e = .returned (.bool true) ∧ ∃ m, w' = (wz.drewN k).drewN m) :=
      Lib.hid (fun k => same_any S4.frames S4.frames.length rfl (by omega) fa6 fa7 fc6 fc7 (wz.drewN k) (hr1.below (below_drewN (Below.refl _ _) k)) (hr2.below (below_drewN (Below.refl _ _) k)))
    have HH : Hid (∀ k, Calls Try.prog 12 #[.pointer (some ⟨D, 0, none⟩)] (wz.drewN k) fun e w' => e = .returned (.int .i64 ((S4.held : Int))) ∧ w' = wz.drewN k) := Lib.hid (fun k => by
      have := held_any D m _ nb6 nv6 (.slice none 0 0) (S4.past S1.junk S1.over S1.broken []).given (by show S4.now.length ≤ _; omega) (wz.drewN k) (hdz.drewN k)
      rw [show (((S4.past S1.junk S1.over S1.broken []).given.held : Nat) : Int) = (S4.held : Int) by rfl] at this
      exact this)
    have HJ : Hid (∀ k, Calls Try.prog 13 #[.pointer (some ⟨D, 0, none⟩)] (wz.drewN k) fun e w' => e = .returned (.int .i64 ((S1.junk : Int) + S4.junk)) ∧ w' = wz.drewN k) := Lib.hid (fun k => by
      have := junk_any D m _ nb6 nv6 (.slice none 0 0) (S4.past S1.junk S1.over S1.broken []).given (wz.drewN k) (hdz.drewN k)
      rw [show (((S4.past S1.junk S1.over S1.broken []).given.junk : Nat) : Int) = (S1.junk : Int) + S4.junk by simp [St.past, St.given]] at this
      exact this)
    have HO : Hid (∀ k, Calls Try.prog 14 #[.pointer (some ⟨D, 0, none⟩)] (wz.drewN k) fun e w' => e = .returned (.int .i64 ((S1.over : Int) + S4.over)) ∧ w' = wz.drewN k) := Lib.hid (fun k => by
      have := over_any D m _ nb6 nv6 (.slice none 0 0) (S4.past S1.junk S1.over S1.broken []).given (wz.drewN k) (hdz.drewN k)
      rw [show (((S4.past S1.junk S1.over S1.broken []).given.over : Nat) : Int) = (S1.over : Int) + S4.over by simp [St.past, St.given]] at this
      exact this)
    have HBR : Hid (∀ k, Calls Try.prog 15 #[.pointer (some ⟨D, 0, none⟩)] (wz.drewN k) fun e w' => e = .returned (.int .i64 ((S1.broken : Int) + S4.broken)) ∧ w' = wz.drewN k) := Lib.hid (fun k => by
      have := broken_any D m _ nb6 nv6 (.slice none 0 0) (S4.past S1.junk S1.over S1.broken []).given (wz.drewN k) (hdz.drewN k)
      rw [show (((S4.past S1.junk S1.over S1.broken []).given.broken : Nat) : Int) = (S1.broken : Int) + S4.broken by simp [St.past, St.given]] at this
      exact this)
    obtain ⟨k0, k1, k2, k3, k4, _⟩ := rcell hT1
    obtain ⟨l0, l1, l2, l3, l4, _⟩ := rcell hT2
    have hj1 : S1.junk ≤ la ∧ S1.over ≤ la ∧ S1.broken ≤ la := by unfold St.count at hcnt1; omega
    have hj4 : S4.junk ≤ lb ∧ S4.over ≤ lb ∧ S4.broken ≤ lb := by unfold St.count at hcnt4; omega
    have z1 : IntKind.i64.wrap ((S1.junk : Int) + S4.junk) = (S1.junk : Int) + S4.junk := IntWalk.i64_in _ (by omega)
    have z2 : IntKind.i64.wrap ((S1.over : Int) + S4.over) = (S1.over : Int) + S4.over := IntWalk.i64_in _ (by omega)
    have z3 : IntKind.i64.wrap ((S1.broken : Int) + S4.broken) = (S1.broken : Int) + S4.broken := IntWalk.i64_in _ (by omega)
    rw [← hwz]
    have HBZ := Lib.hid hbz
    clear hwz hb67 hdz hT1 hT2 hbz hr1 hr2 hj1 hj4
    go_quiet (first
      | (go_at_call 11; exact Calls.quiet_of (HSM.out _))
      | (go_at_call 12; exact Calls.quiet_of_same (HH.out _))
      | (go_at_call 13; exact Calls.quiet_of_same (HJ.out _))
      | (go_at_call 14; exact Calls.quiet_of_same (HO.out _))
      | (go_at_call 15; exact Calls.quiet_of_same (HBR.out _)))
    clear z1 z2 z3
    go_wp2
    go_ret
    exact ⟨by simp, below_drewN HBZ.out _⟩
  · have hge : (2000 : Int) < la ∨ (2000 : Int) < lb := by omega
    have hd : (decide ((2000 : Int) < la) || decide ((2000 : Int) < lb)) = true := by simpa using hge
    go_enter Try.func4, Try.ntmps4
    go_wp2_with fail
    refine (alive_any _).mono ?_
    rintro e w1 ⟨rfl, hb1⟩
    have HB1 := Lib.hid hb1
    clear hb1
    go_wp2_with fail
    all_goals
      refine (alive_any _).mono ?_
      rintro e w2 ⟨rfl, hb2⟩
      have HB2 := Lib.hid hb2
      clear hb2
      go_wp2
      go_ret
      exact ⟨rfl, HB1.out.trans (HB2.out.mono HB1.out.size)⟩

theorem bytes_arg {H : Type} {enc : TypeId × Value → H} {W : World} {a : Option Addr} {len cap : Nat} {d : DataW H} {p : List MemPlace} (h : DataW.Trod enc Try.prog W 0 (fun _ => true) true 30 (.slice a len cap) d p) (hw : ∀ k ∈ d.weights Try.prog 30, k ≤ reachBytes) :
    ∃ bs : List UInt8, bs.length = len ∧ BytesAt W a bs ∧ len ≤ 140737488355328 := by
  obtain ⟨fuel, hf⟩ := h
  obtain ⟨ra, rc, bs, hv, hb, _, hl⟩ := bytes_open (v := .slice a len cap) (x := (d, p)) (by simpa [Value.cells] using hf) hw
  simp only [Value.slice.injEq] at hv
  obtain ⟨rfl, rfl, rfl⟩ := hv
  exact ⟨bs, rfl, hb, hl⟩

/-- DeframeResets, whatever its arguments. -/
theorem deframeResets_walk {H : Type} {enc : TypeId × Value → H} {W : World} (n : Int) (_wn : (Lit.int .i64 n).wf = true)
    (a : Option Addr) (la ca : Nat) {d1 : DataW H} {p1 : List MemPlace} (h1 : DataW.Trod enc Try.prog W 0 (fun _ => true) true 30 (.slice a la ca) d1 p1) (g1 : ∀ k ∈ d1.weights Try.prog 30, k ≤ reachBytes)
    (b : Option Addr) (lb cb : Nat) {d2 : DataW H} {p2 : List MemPlace} (h2 : DataW.Trod enc Try.prog W 0 (fun _ => true) true 30 (.slice b lb cb) d2 p2) (g2 : ∀ k ∈ d2.weights Try.prog 30, k ≤ reachBytes) :
    Calls Try.prog 4 #[.int .i64 n, .slice a la ca, .slice b lb cb] W fun e w' => e = .returned (.bool true) ∧ Below W.heap.size W w' := by
  obtain ⟨us, hu1, hu2, hu3⟩ := bytes_arg h1 g1
  obtain ⟨bs, hb1, hb2, hb3⟩ := bytes_arg h2 g2
  exact deframeResets_bytes n us bs la lb hu1 hb1 a b ca cb hu2 hb2 hu3 hb3

end Go.Proofs.Ytcmpcpemmmobeaa
