/- DiskArms, whatever its arguments. -/
import Derived.Test.YtjbhdidjkdlceaaDoorAct
import Derived.Test.YtjbhdidjkdlceaaDoorAlive
namespace Go.Proofs.YtjbhdidjkdlceaaDoor
open Go.RowKit Go.Maps
set_option linter.unusedVariables false

theorem append_named {s : PS} {nm bs : List UInt8} (hn : isName nm = true) : s.append nm bs =
    (if s.gone then .gone (s.ops + 1) else .told (laid s bs.length) (errOf (laid s bs.length) bs.length),
     { s with L := grow s.L nm (bs.take (laid s bs.length)), used := s.used + laid s bs.length, ops := s.ops + 1, arm := if s.gone then 0 else s.arm }) := by
  unfold PS.append
  rw [if_neg (by rw [hn]; decide)]

/-- The disk ahead of round i. -/
structure ArmInv (k i : Nat) (keep : Int) (s : PS) : Prop where
  one : ∃ b : List UInt8, s.L = [⟨[97], b, 0⟩] ∧ s.used = b.length ∧ b.length ≤ 1 + i
  room : s.room = 1073741824
  ops : s.ops = 1 + i
  arm : s.arm = if i < k then (1 + k : Int) else 0
  fail : s.fail = 0

theorem ArmInv.ok {k i : Nat} {keep : Int} {s : PS} (h : ArmInv k i keep s) (hi : i ≤ 1000) : Ok 100000 100000 s := by
  obtain ⟨b, hL, hu, hb⟩ := h.one
  have hr := h.room
  have ho := h.ops
  have hf := h.fail
  refine ⟨by simp [Sorted, hL], fun f hf => ?_, fun f hf => ?_, ?_, ?_, by simp [hL], ⟨by omega, by omega⟩, ⟨by omega, by omega⟩, ⟨by omega, by omega⟩⟩
  · rw [hL, List.mem_singleton] at hf
    subst hf
    rfl
  · rw [hL, List.mem_singleton] at hf
    subst hf
    exact Nat.zero_le _
  · rw [hL, hu]
    simp [totV]
  · rw [hL]
    simp only [totV, List.map_cons, List.map_nil, List.sum_cons, List.sum_nil]
    omega

theorem laid_one (s : PS) (h1 : s.room - s.used ≥ 1) (hg : s.gone = false) : laid s 1 = 1 := by
  unfold laid laid0
  rw [hg]
  simp only [Bool.false_eq_true, if_false]
  omega

theorem ArmInv.step {k i : Nat} {keep : Int} {s : PS} (h : ArmInv k i keep s) (hi : i ≤ 1000) (hk : 1 ≤ k) :
    ArmInv k (i + 1) keep (s.append [97] [2]).2 ∧ ((s.append [97] [2]).1.end4 = .tuple #[.int .i64 (if i + 1 = k then 0 else 1), .int .i64 0, .bool (decide (i + 1 = k)), .int .i64 (if i + 1 = k then i + 2 else 0)]) := by
  obtain ⟨b, hL, hu, hb⟩ := h.one
  have hr := h.room
  have ho := h.ops
  have ha := h.arm
  have hgr : ∀ bs, grow s.L [97] bs = [⟨[97], b ++ bs, 0⟩] := fun bs => by simp [hL, grow, findV, setV]
  rw [append_named rfl]
  have hm1 : laid s [(2 : UInt8)].length ≤ 1 := laid_le _ _
  have hlen : (b ++ [(2 : UInt8)].take (laid s [(2 : UInt8)].length)).length = b.length + laid s [(2 : UInt8)].length := by
    rw [List.length_append, List.length_take]
    have : laid s [(2 : UInt8)].length ≤ [(2 : UInt8)].length := laid_le _ _
    omega
  by_cases hg : i + 1 = k
  · have hgone : s.gone = true := by
      unfold PS.gone
      rw [beq_iff_eq, ha, if_pos (by omega)]
      omega
    refine ⟨⟨⟨_, hgr _, ?_, ?_⟩, hr, ?_, ?_, h.fail⟩, ?_⟩
    · rw [hlen]
      show s.used + _ = _
      rw [hu]
      push_cast
      rfl
    · rw [hlen]
      omega
    · show s.ops + 1 = _
      omega
    · show (if s.gone then 0 else s.arm) = _
      rw [hgone, if_pos rfl, if_neg (by omega)]
    · rw [hgone]
      simp only [if_true, Out.end4, hg, decide_true]
      have : s.ops + 1 = i + 2 := by omega
      rw [this]
  · have hgone : s.gone = false := by
      unfold PS.gone
      rw [beq_eq_false_iff_ne, ha]
      split <;> omega
    have hl1 : laid s [(2 : UInt8)].length = 1 := laid_one s (by omega) hgone
    refine ⟨⟨⟨_, hgr _, ?_, ?_⟩, hr, ?_, ?_, h.fail⟩, ?_⟩
    · rw [hlen]
      show s.used + _ = _
      rw [hu]
      push_cast
      rfl
    · rw [hlen]
      omega
    · show s.ops + 1 = _
      omega
    · show (if s.gone then 0 else s.arm) = _
      rw [hgone, ha]
      simp only [Bool.false_eq_true, if_false]
      by_cases hik : i < k
      · rw [if_pos hik, if_pos (by omega)]
      · rw [if_neg hik, if_neg (by omega)]
    · rw [hgone, hl1]
      simp only [Bool.false_eq_true, if_false, Out.end4, hg, decide_false]
      rfl

/-- A new row of one byte. -/
theorem one_at (w : World) (x : UInt8) : BytesAt (w.alloc (.cells #[bv x] 5)) (some ⟨w.heap.size, 0, none⟩) [x] := by
  refine ⟨fun i b hb => ⟨w.heap.size, 0, rfl, ?_⟩⟩
  have h := heap_alloc_new w (.cells #[bv x] 5)
  rcases i with _ | i
  · simp at hb; subst hb; rw [cell_of_row _ _ _ _ _ _ h]; rfl
  · simp at hb

def armS : PS := ⟨[⟨[97], [1], 0⟩], 1073741824, 1, 1, 0, 0, 0⟩
theorem armS_ok : Ok 100000 100000 armS := by
  have := (newS_ok (n := 1073741824) (by decide) (by decide)).append [97] [1]
  exact ok_big (s := armS) this (by decide) (by decide)

set_option maxRecDepth 100000 in
set_option maxHeartbeats 2000000 in
theorem diskArms_any {W : World} (n more keep : Int) (hn : 0 ≤ n ∧ n ≤ 255) (hm : 0 ≤ more ∧ more ≤ 255) :
    Calls Tryd.prog 6 #[.int .u8 n, .int .u8 more, .int .i64 keep] W fun e w' => e = .returned (.bool true) ∧ Below W.heap.size W w' := by
  have HN := Lib.hid (new_law 1073741824 (by decide) (by decide) W)
  go_enter Tryd.func6, Tryd.ntmps6
  go_wp2_with (first
    | (go_at_call 12; refine HN.out.mono ?_; rintro e w1 ⟨rfl, hb1, hl1⟩; have HB1 := Lib.hid hb1; have HL1 := Lib.hid hl1; clear hb1 hl1)
    | (go_at_call 10; refine (alive_any _).mono ?_; rintro e w2 ⟨rfl, hb2⟩; have HB2 := Lib.hid hb2; clear hb2))
  have hr1 : Room (fun k => k < W.heap.size) (W.heap.size + 1) W.heap.size (newS 1073741824) w1 := ⟨HL1.out, ok_big (newS_ok (by decide) (by decide)) (by decide) (by decide), fun k hk => Nat.lt_of_lt_of_le hk HB1.out.size⟩
  have hb2 : Below W.heap.size W w2 := HB1.out.trans (HB2.out.mono HB1.out.size)
  have hr2 := alloc_more (hr1.below HB2.out) (.cells #[bv 1] 5)
  have HA := append_law hr2 ⟨#[97]⟩ (by decide) [1] 1 rfl (by decide) (some ⟨w2.heap.size, 0, none⟩) 1 (by decide) (one_at w2 1) (fun _ ad had => by cases had; exact .inr rfl) (fun h => by cases h)
  have e1 : (newS 1073741824).append (ByteArray.data ⟨#[97]⟩).toList [1] = (.told 1 0, armS) := rfl
  rw [e1] at HA
  refine HA.mono ?_
  rintro e w3 ⟨he, hw3⟩
  have he2 : e = .returned (.tuple #[.int .i64 1, .int .i64 0]) := he
  clear he
  subst he2
  have hr3 := (hr2.went hw3 armS_ok).less (X' := fun k => k < W.heap.size) (fun k hk => .inl hk)
  have HR3 := Lib.hid hr3
  have HB3 : Hid (Below W.heap.size W w3) := Lib.hid (hb2.trans (((Below.refl _ w2).alloc hb2.size _).trans (hw3.mod.below (fun k hk => by
    have : ¬ k < W.heap.size := fun h => hk (.inl h)
    omega) (by have := hb2.size; simp; omega))))
  clear hr1 hb2 hr2 HA e1 hr3 hw3 HL1 HN HB1 HB2
  obtain ⟨n0, m0⟩ := hn
  obtain ⟨m1, m2⟩ := hm
  obtain ⟨k, hk⟩ : ∃ k : Nat, (k : Int) = 1 + n % 50 := ⟨(1 + n % 50).toNat, by omega⟩
  obtain ⟨N, hN⟩ : ∃ N : Nat, (N : Int) = 1 + n % 50 + more % 20 := ⟨(1 + n % 50 + more % 20).toNat, by omega⟩
  have hk1 : 1 ≤ k := by omega
  have hk2 : k ≤ 100 := by omega
  have hN1 : N ≤ 100 := by omega
  have HA := arming_law HR3.out (1 + n % 50) keep
  have e1 : armS.arming (1 + n % 50) keep = (.told 0 0, { armS with arm := armS.ops + min (1 + n % 50) 1099511627776, keep := keep }) := by
    unfold PS.arming
    rw [if_neg (by omega)]
  rw [e1] at HA
  have hinv : ArmInv k 0 keep { armS with arm := armS.ops + min (1 + n % 50) 1099511627776, keep := keep } :=
    ⟨⟨[1], rfl, rfl, by decide⟩, rfl, rfl, by
      show (1 : Int) + min (1 + n % 50) 1099511627776 = _
      rw [if_pos (by omega)]
      omega, rfl⟩
  have HAR := Lib.hid HA
  have HINV := Lib.hid hinv
  have HK := Lib.hid hk
  have HNN := Lib.hid hN
  clear HA e1 hinv hk hN
  go_wp2_with fail
  refine HAR.out.mono ?_
  rintro e w4 ⟨he, hw4⟩
  have he2 : e = .returned (.int .i64 0) := he
  clear he
  subst he2
  have hr4 := HR3.out.went hw4 (HINV.out.ok (by decide))
  have HR4 := Lib.hid hr4
  have HB4 : Hid (Below W.heap.size W w4) := Lib.hid (HB3.out.trans (hw4.mod.below (fun k hk => Nat.le_of_not_lt hk) HB3.out.size))
  clear hr4 hw4 HAR
  go_wp2_with fail
  rw [← HNN.out, ← HK.out]
  go_loopw [47] (fun i wr => ∃ j : Nat, ∃ s : PS, j ≤ N ∧ i = .int .i64 j ∧ Room (fun k => k < W.heap.size) (W.heap.size + 1) W.heap.size s wr ∧ ArmInv k j keep s ∧ Below W.heap.size W wr) (fun i _ => N - (intOf i).toNat)
  case atStart => exact ⟨0, _, Nat.zero_le _, rfl, HR4.out, HINV.out, HB4.out⟩
  case round =>
    obtain ⟨j, s, hj, rfl, hroom, hinv, hbel⟩ := hrel
    have HROOM := Lib.hid hroom
    have HI := Lib.hid hinv
    have HBEL := Lib.hid hbel
    clear hroom hinv hbel
    by_cases hlt : j < N
    · have hr5 := alloc_more HROOM.out (.cells #[bv 2] 5)
      have HCL := call_law hr5 0 0 0 ⟨#[97]⟩ ⟨#[]⟩ (by decide) (by decide) [2] 1 rfl (by decide) (some ⟨wr.heap.size, 0, none⟩) 1 (by decide) (one_at wr 2) (fun _ ad had => by cases had; exact .inr rfl) (fun h => by cases h)
      obtain ⟨hinv2, hend⟩ := HI.out.step (by omega) hk1
      have e2 : s.act (paOf 0 0 0 ⟨#[97]⟩ ⟨#[]⟩ [2]) = s.append [97] [2] := rfl
      rw [e2, hend] at HCL
      obtain ⟨s2, hs2⟩ : ∃ s2, s2 = (s.append [97] [2]).2 := ⟨_, rfl⟩
      rw [← hs2] at HCL hinv2
      have hwk : Calls Tryd.prog 14 #[.pointer (some ⟨W.heap.size + 1, 0, none⟩), .agg (cA 0 0 0 ⟨#[97]⟩ ⟨#[]⟩ (some ⟨wr.heap.size, 0, none⟩) 1 1)] (wr.alloc (.cells #[bv 2] 5)) fun e w' =>
          e = .returned (.tuple #[.int .i64 (if j + 1 = k then 0 else 1), .int .i64 0, .bool (decide (j + 1 = k)), .int .i64 (if j + 1 = k then j + 2 else 0)]) ∧ Room (fun k => k < W.heap.size) (W.heap.size + 1) W.heap.size s2 w' ∧ Below W.heap.size W w' := by
        refine HCL.mono ?_
        rintro e w' ⟨rfl, hw⟩
        refine ⟨rfl, (hr5.went hw (hinv2.ok (by omega))).less (fun k hk => .inl hk), HBEL.out.trans (((Below.refl _ wr).alloc HBEL.out.size _).trans (hw.mod.below (fun k hk => ?_) (by have := HBEL.out.size; simp; omega)))⟩
        have : ¬ k < W.heap.size := fun h => hk (.inl h)
        omega
      have HWK := Lib.hid hwk
      have HI2 := Lib.hid hinv2
      have htr : ∀ w', Room (fun k => k < W.heap.size) (W.heap.size + 1) W.heap.size s2 w' → Below W.heap.size W w' → Calls Tryd.prog 19 #[.pointer (some ⟨W.heap.size + 1, 0, none⟩), .string ⟨#[97]⟩, .int .i64 (-1)] w' fun e w'' =>
          e = .returned (.int .i64 3) ∧ Room (fun k => k < W.heap.size) (W.heap.size + 1) W.heap.size s2 w'' ∧ Below W.heap.size W w'' := by
        intro w' hr hb
        obtain ⟨b, hL, _, _⟩ := hinv2.one
        have e3 : s2.truncate (ByteArray.data ⟨#[97]⟩).toList (-1) = (.told 0 3, s2) := by
          have hf : findV s2.L (ByteArray.data ⟨#[97]⟩).toList = some ⟨[97], b, 0⟩ := by rw [hL]; rfl
          unfold PS.truncate
          rw [hf]
          simp only
          rw [if_pos (.inl (by decide))]
        have := truncate_law hr ⟨#[97]⟩ (by decide) (-1)
        rw [e3] at this
        refine this.mono ?_
        rintro e w'' ⟨rfl, hw⟩
        exact ⟨rfl, hr.went hw (hinv2.ok (by omega)), hb.trans (hw.mod.below (fun k hk => Nat.le_of_not_lt hk) hb.size)⟩
      have hop : ∀ w', Room (fun k => k < W.heap.size) (W.heap.size + 1) W.heap.size s2 w' → Calls Tryd.prog 31 #[.pointer (some ⟨W.heap.size + 1, 0, none⟩)] w' fun e w'' => e = .returned (.int .i64 ((j : Int) + 2)) ∧ w'' = w' := by
        intro w' hr
        have := ops_law hr
        rw [hinv2.ops, show (1 : Int) + ((j + 1 : Nat) : Int) = (j : Int) + 2 by omega] at this
        exact this
      have HTR := Lib.hid htr
      have HOP := Lib.hid hop
      clear hr5 HCL hend e2 hs2 hwk hinv2 htr hop
      by_cases hg : j + 1 = k
      · simp only [hg, if_true, decide_true] at HWK
        have HG := Lib.hid hg
        clear hg
        go_wp2_with (first
          | (go_at_call 14; refine HWK.out.mono ?_; rintro e w6 ⟨rfl, hr6, hb6⟩; have HR6 := Lib.hid hr6; have HB6 := Lib.hid hb6; clear hr6 hb6)
          | (go_at_call 19; refine (HTR.out _ HR6.out HB6.out).mono ?_; rintro e w7 ⟨rfl, hr7, hb7⟩; have HR7 := Lib.hid hr7; have HB7 := Lib.hid hb7; clear hr7 hb7)
          | (go_at_call 31; refine (HOP.out _ HR7.out).mono ?_; rintro e w8 ⟨rfl, rfl⟩))
        any_goals (exfalso; have := HG.out; omega)
        go_roundw
        case rel => exact ⟨j + 1, s2, by omega, by go_num, HR7.out, HI2.out, HB7.out⟩
        case measure => simp [intOf]; omega
      · simp only [hg, if_false, decide_false] at HWK
        have HG := Lib.hid hg
        clear hg
        go_wp2_with (first
          | (go_at_call 14; refine HWK.out.mono ?_; rintro e w6 ⟨rfl, hr6, hb6⟩; have HR6 := Lib.hid hr6; have HB6 := Lib.hid hb6; clear hr6 hb6)
          | (go_at_call 19; refine (HTR.out _ HR6.out HB6.out).mono ?_; rintro e w7 ⟨rfl, hr7, hb7⟩; have HR7 := Lib.hid hr7; have HB7 := Lib.hid hb7; clear hr7 hb7)
          | (go_at_call 31; refine (HOP.out _ HR7.out).mono ?_; rintro e w8 ⟨rfl, rfl⟩))
        any_goals (exfalso; have := HG.out; omega)
        go_roundw
        case rel => exact ⟨j + 1, s2, by omega, by go_num, HR7.out, HI2.out, HB7.out⟩
        case measure => simp [intOf]; omega
    · go_wp2_with fail
      go_ret
      exact ⟨by simp, HBEL.out⟩

theorem wf_u8 {n : Int} (h : (Lit.int .u8 n).wf = true) : 0 ≤ n ∧ n ≤ 255 := by
  simp only [Lit.wf, Bool.and_eq_true, decide_eq_true_eq] at h
  have h1 : IntKind.u8.min = 0 := rfl
  have h2 : IntKind.u8.max = 255 := rfl
  omega

theorem diskArms_walk {W : World} (a0 : Int) (w0 : (Lit.int .u8 a0).wf = true) (a1 : Int) (w1 : (Lit.int .u8 a1).wf = true) (a2 : Int) (w2 : (Lit.int .i64 a2).wf = true) : Calls Tryd.prog 6 #[.int .u8 a0, .int .u8 a1, .int .i64 a2] W fun e w' => e = .returned (.bool true) ∧ Below W.heap.size W w' :=
  diskArms_any a0 a1 a2 (wf_u8 w0) (wf_u8 w1)

end Go.Proofs.YtjbhdidjkdlceaaDoor
