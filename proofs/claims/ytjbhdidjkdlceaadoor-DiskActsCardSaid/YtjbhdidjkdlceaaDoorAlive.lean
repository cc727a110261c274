/- The document's example (alive), by its contract. -/
import Derived.Test.YtjbhdidjkdlceaaDoorTold
namespace Go.Proofs.YtjbhdidjkdlceaaDoor
open Go.RowKit Go.Maps
set_option linter.unusedVariables false

def aS1 : PS := ⟨[⟨[97], [1, 2, 3], 0⟩], 5, 3, 1, 0, 0, 0⟩
def aS2 : PS := ⟨[⟨[97], [1, 2, 3], 3⟩], 5, 3, 2, 0, 0, 0⟩
def aS3 : PS := ⟨[⟨[97], [1, 2, 3, 4, 5], 3⟩], 5, 5, 3, 0, 0, 0⟩
def aS4 : PS := ⟨[⟨[97], [1, 2, 3, 4], 4⟩], 5, 4, 3, 0, 0, 0⟩

theorem a1 : (newS 5).append [97] [1, 2, 3] = (.told 3 0, aS1) := by rfl
theorem a2 : aS1.sync [97] = (.told 0 0, aS2) := by rfl
theorem a3 : aS2.append [97] [4, 5, 6] = (.told 2 4, aS3) := by rfl
theorem a4 : aS3.power 1 = (.told 0 0, aS4) := by rfl

theorem ok_big {a t : Nat} {s : PS} (h : Ok a t s) (ha : a ≤ 100000) (ht : t ≤ 100000) : Ok 100000 100000 s := h.mono ha ht

theorem aOk0 : Ok 0 0 (newS 5) := newS_ok (by decide) (by decide)
theorem aOk1 : Ok 1 3 aS1 := by
  have := aOk0.append [97] [1, 2, 3]
  rw [a1] at this
  exact this
theorem aOk2 : Ok 2 3 aS2 := by
  have := aOk1.sync [97]
  rw [a2] at this
  exact this
theorem aOk3 : Ok 3 6 aS3 := by
  have := aOk2.append [97] [4, 5, 6]
  rw [a3] at this
  exact this
theorem aOk4 : Ok 4 6 aS4 := by
  have := aOk3.power 1
  rw [a4] at this
  exact this

/-- A new row of three bytes. -/
theorem three_at (w : World) (x y z : UInt8) : BytesAt (w.alloc (.cells #[bv x, bv y, bv z] 5)) (some ⟨w.heap.size, 0, none⟩) [x, y, z] := by
  refine ⟨fun i b hb => ⟨w.heap.size, 0, rfl, ?_⟩⟩
  have h := heap_alloc_new w (.cells #[bv x, bv y, bv z] 5)
  rcases i with _ | _ | _ | i
  · simp at hb; subst hb; rw [cell_of_row _ _ _ _ _ _ h]; rfl
  · simp at hb; subst hb; rw [cell_of_row _ _ _ _ _ _ h]; rfl
  · simp at hb; subst hb; rw [cell_of_row _ _ _ _ _ _ h]; rfl
  · simp at hb

theorem alloc_more {X : Nat → Prop} {D M : Nat} {s : PS} {w : World} (h : Room X D M s w) (o : Obj) : Room (fun k => X k ∨ k = w.heap.size) D M s (w.alloc o) :=
  h.more ((Below.refl _ w).alloc (Nat.le_refl _) o) (fun k hk => hk.imp id (fun e => by simp; omega))

set_option maxRecDepth 100000 in
set_option maxHeartbeats 1000000 in
theorem alive_any (w : World) : Calls Tryd.prog 10 #[] w fun e w' => e = .returned (.bool true) ∧ Below w.heap.size w w' := by
  have HN := Lib.hid (new_law 5 (by decide) (by decide) w)
  go_enter Tryd.func10, Tryd.ntmps10
  go_wp2_with fail
  refine HN.out.mono ?_
  rintro e w1 ⟨rfl, hb1, hl1⟩
  have hr1 : Room (fun k => k < w.heap.size) (w.heap.size + 1) w.heap.size (newS 5) w1 := ⟨hl1, ok_big aOk0 (by decide) (by decide), fun k hk => Nat.lt_of_lt_of_le hk hb1.size⟩
  have hr2 := alloc_more hr1 (.cells #[bv 1, bv 2, bv 3] 5)
  have HA := append_law hr2 ⟨#[97]⟩ (by decide) [1, 2, 3] 3 rfl (by decide) (some ⟨w1.heap.size, 0, none⟩) 3 (by decide) (three_at w1 1 2 3) (fun _ ad had => by cases had; exact .inr rfl) (fun h => by cases h)
  have e1 : (newS 5).append (ByteArray.data ⟨#[97]⟩).toList [1, 2, 3] = (.told 3 0, aS1) := a1
  rw [e1] at HA
  have HA1 := Lib.hid HA
  have HR2 := Lib.hid hr2
  have HB1 := Lib.hid hb1
  clear HA hr2 hr1 hl1 hb1 e1
  go_wp2_with fail
  refine HA1.out.mono ?_
  rintro e w2 ⟨he, hw2⟩
  have he2 : e = .returned (.tuple #[.int .i64 3, .int .i64 0]) := he
  clear he
  subst he2
  have hr3 := (HR2.out.went hw2 (ok_big aOk1 (by decide) (by decide))).less (X' := fun k => k < w.heap.size) (fun k hk => .inl hk)
  have HS := sync_law hr3 ⟨#[97]⟩ (by decide)
  have e2 : aS1.sync (ByteArray.data ⟨#[97]⟩).toList = (.told 0 0, aS2) := a2
  rw [e2] at HS
  have HS1 := Lib.hid HS
  have HR3 := Lib.hid hr3
  have HB2 : Hid (Below w.heap.size w w2) := Lib.hid (HB1.out.trans (((Below.refl _ w1).alloc HB1.out.size _).trans (hw2.mod.below (fun k hk => by
    have : ¬ k < w.heap.size := fun h => hk (.inl h)
    omega) (by have := HB1.out.size; simp; omega))))
  clear HS hr3 hw2 e2
  go_wp2_with fail
  refine HS1.out.mono ?_
  rintro e w3 ⟨he, hw3⟩
  have he2 : e = .returned (.int .i64 0) := he
  clear he
  subst he2
  have hr4 := HR3.out.went hw3 (ok_big aOk2 (by decide) (by decide))
  have hr5 := alloc_more hr4 (.cells #[bv 4, bv 5, bv 6] 5)
  have HA := append_law hr5 ⟨#[97]⟩ (by decide) [4, 5, 6] 3 rfl (by decide) (some ⟨w3.heap.size, 0, none⟩) 3 (by decide) (three_at w3 4 5 6) (fun _ ad had => by cases had; exact .inr rfl) (fun h => by cases h)
  have e3 : aS2.append (ByteArray.data ⟨#[97]⟩).toList [4, 5, 6] = (.told 2 4, aS3) := a3
  rw [e3] at HA
  have HA2 := Lib.hid HA
  have HR5 := Lib.hid hr5
  have HB3 : Hid (Below w.heap.size w w3) := Lib.hid (HB2.out.trans (hw3.mod.below (fun k hk => Nat.le_of_not_lt hk) HB2.out.size))
  clear HA hr5 hr4 hw3 e3
  go_wp2_with fail
  refine HA2.out.mono ?_
  rintro e w4 ⟨he, hw4⟩
  have he2 : e = .returned (.tuple #[.int .i64 2, .int .i64 4]) := he
  clear he
  subst he2
  have hr6 := (HR5.out.went hw4 (ok_big aOk3 (by decide) (by decide))).less (X' := fun k => k < w.heap.size) (fun k hk => .inl hk)
  have HP := power_law hr6 1
  rw [a4] at HP
  have HP1 := Lib.hid HP
  have HR6 := Lib.hid hr6
  have HB4 : Hid (Below w.heap.size w w4) := Lib.hid (HB3.out.trans (((Below.refl _ w3).alloc HB3.out.size _).trans (hw4.mod.below (fun k hk => by
    have : ¬ k < w.heap.size := fun h => hk (.inl h)
    omega) (by have := HB3.out.size; simp; omega))))
  clear HP hr6 hw4
  go_wp2_with fail
  refine HP1.out.mono ?_
  rintro e w5 ⟨he, hw5⟩
  have he2 : e = .returned (.int .i64 0) := he
  clear he
  subst he2
  have hr7 := HR6.out.went hw5 (ok_big aOk4 (by decide) (by decide))
  have HRD := Lib.hid (read_law hr7 ⟨#[97]⟩ (by decide) ⟨[97], [1, 2, 3, 4], 4⟩ rfl)
  have HB5 : Hid (Below w.heap.size w w5) := Lib.hid (HB4.out.trans (hw5.mod.below (fun k hk => Nat.le_of_not_lt hk) HB4.out.size))
  clear hr7 hw5
  go_wp2_with fail
  refine HRD.out.mono ?_
  rintro e w6 ⟨⟨a, c, rfl, hrow⟩, hb6⟩
  have hcv : (convert 34 9 (.slice a 4 c)).run Tryd.prog w6 = .ok (.string ⟨#[1, 2, 3, 4]⟩) w6 := conv_of (bytes_of_row hrow) c
  have HB6 : Hid (Below w.heap.size w w6) := Lib.hid (HB5.out.trans (hb6.mono HB5.out.size))
  clear hb6 hrow
  go_wp2
  go_ret
  exact ⟨by simp, HB6.out⟩

end Go.Proofs.YtjbhdidjkdlceaaDoor
