/- DiskNone, whatever its arguments. -/
import Derived.Test.YtjbhdidjkdlceaaDoorNil
import Derived.Test.YtjbhdidjkdlceaaDoorAlive
namespace Go.Proofs.YtjbhdidjkdlceaaDoor
open Go.RowKit
set_option linter.unusedVariables false

set_option maxRecDepth 100000 in
set_option maxHeartbeats 1000000 in
theorem diskNone_any {W : World} (n keep : Int) (name : ByteArray) : Calls Tryd.prog 4 #[.int .i64 n, .int .i64 keep, .string name] W fun e w' => e = .returned (.bool true) ∧ Below W.heap.size W w' := by
  go_enter Tryd.func4, Tryd.ntmps4
  go_wp2_with fail
  refine (nil_append _ _ _).mono ?_
  rintro e w1 ⟨rfl, hb1⟩
  have HB1 := Lib.hid hb1
  clear hb1
  go_wp2_with fail
  refine (nil_read _ _).mono ?_
  rintro e w2 ⟨rfl, hb2⟩
  have HB2 := Lib.hid hb2
  clear hb2
  go_wp2_with (first
    | (go_at_call 19; refine (nil_truncate _ _ _).mono ?_; rintro e w3 ⟨rfl, hb⟩; have HB3 := Lib.hid hb; clear hb)
    | (go_at_call 20; refine (nil_sync _ _).mono ?_; rintro e w4 ⟨rfl, hb⟩; have HB4 := Lib.hid hb; clear hb)
    | (go_at_call 21; refine (nil_rename _ _ _).mono ?_; rintro e w5 ⟨rfl, hb⟩; have HB5 := Lib.hid hb; clear hb)
    | (go_at_call 22; refine (nil_remove _ _).mono ?_; rintro e w6 ⟨rfl, hb⟩; have HB6 := Lib.hid hb; clear hb)
    | (go_at_call 23; refine (nil_setRoom _ _).mono ?_; rintro e w7 ⟨rfl, hb⟩; have HB7 := Lib.hid hb; clear hb)
    | (go_at_call 24; refine (nil_fail _ _).mono ?_; rintro e w8 ⟨rfl, hb⟩; have HB8 := Lib.hid hb; clear hb)
    | (go_at_call 25; refine (nil_arm _ _ _).mono ?_; rintro e w9 ⟨rfl, hb⟩; have HB9 := Lib.hid hb; clear hb)
    | (go_at_call 26; refine (nil_power _ _).mono ?_; rintro e w10 ⟨rfl, hb⟩; have HB10 := Lib.hid hb; clear hb)
    | (go_at_call 27; refine (nil_synced _ _).mono ?_; rintro e w11 ⟨rfl, hb⟩; have HB11 := Lib.hid hb; clear hb)
    | (go_at_call 28; refine (nil_names _).mono ?_; rintro e w12 ⟨rfl, hb⟩; have HB12 := Lib.hid hb; clear hb)
    | (go_at_call 29; refine (nil_used _).mono ?_; rintro e w13 ⟨rfl, hb⟩; have HB13 := Lib.hid hb; clear hb)
    | (go_at_call 30; refine (nil_room _).mono ?_; rintro e w14 ⟨rfl, hb⟩; have HB14 := Lib.hid hb; clear hb)
    | (go_at_call 31; refine (nil_ops _).mono ?_; rintro e w15 ⟨rfl, hb⟩; have HB15 := Lib.hid hb; clear hb))
  have HB : Hid (Below W.heap.size W w15) := Lib.hid (by
    have b1 : Below W.heap.size W w1 := ((Below.refl _ W).alloc (Nat.le_refl _) _).trans (HB1.out.mono (by simp))
    have b2 := b1.trans (HB2.out.mono b1.size)
    have b3 := b2.trans (HB3.out.mono b2.size)
    have b4 := b3.trans (HB4.out.mono b3.size)
    have b5 := b4.trans (HB5.out.mono b4.size)
    have b6 := b5.trans (HB6.out.mono b5.size)
    have b7 := b6.trans (HB7.out.mono b6.size)
    have b8 := b7.trans (HB8.out.mono b7.size)
    have b9 := b8.trans (HB9.out.mono b8.size)
    have b10 := b9.trans (HB10.out.mono b9.size)
    have b11 := b10.trans (HB11.out.mono b10.size)
    have b12 := b11.trans (HB12.out.mono b11.size)
    have b13 := b12.trans (HB13.out.mono b12.size)
    have b14 := b13.trans (HB14.out.mono b13.size)
    exact b14.trans (HB15.out.mono b14.size))
  clear HB1 HB2 HB3 HB4 HB5 HB6 HB7 HB8 HB9 HB10 HB11 HB12 HB13 HB14 HB15
  by_cases hn : n < 0 ∨ 1073741824 < n
  · refine (new_bad n hn w15).mono ?_
    rintro e w16 ⟨rfl, hb16⟩
    have HB16 : Hid (Below W.heap.size W w16) := Lib.hid (HB.out.trans (hb16.mono HB.out.size))
    have hor : (decide (n < 0) || decide (1073741824 < n)) = true := by simpa using hn
    clear hb16
    go_wp2_with (go_at_call 10; refine (alive_any _).mono ?_; rintro e w17 ⟨rfl, hb⟩; have HB17 := Lib.hid hb; clear hb)
    all_goals (
      go_ret
      exact ⟨by simp, HB16.out.trans (HB17.out.mono HB16.out.size)⟩)
  · refine (new_law n (by omega) (by omega) w15).mono ?_
    rintro e w16 ⟨rfl, hb16, hl16⟩
    have hr16 : Room (fun k => k < w15.heap.size) (w15.heap.size + 1) w15.heap.size (newS n) w16 := ⟨hl16, ok_big (newS_ok (by omega) (by omega)) (by decide) (by decide), fun k hk => Nat.lt_of_lt_of_le hk hb16.size⟩
    have HB16 : Hid (Below W.heap.size W w16) := Lib.hid (HB.out.trans (hb16.mono HB.out.size))
    have HR16 := Lib.hid hr16
    have hor : (decide (n < 0) || decide (1073741824 < n)) = false := by simpa using hn
    have hroom : ∀ w', Room (fun k => k < w15.heap.size) (w15.heap.size + 1) w15.heap.size (newS n) w' → Calls Tryd.prog 30 #[.pointer (some ⟨w15.heap.size + 1, 0, none⟩)] w' fun e w'' => e = .returned (.int .i64 n) ∧ w'' = w' := fun w' h => room_law h
    have hnames : ∀ w', Room (fun k => k < w15.heap.size) (w15.heap.size + 1) w15.heap.size (newS n) w' → Calls Tryd.prog 28 #[.pointer (some ⟨w15.heap.size + 1, 0, none⟩)] w' fun e w'' => (∃ a c, e = .returned (.slice a 0 c)) ∧ Below w'.heap.size w' w'' := fun w' h =>
      (names_law h).mono (by
        rintro e w'' ⟨⟨a, c, rfl, _⟩, hb⟩
        exact ⟨⟨a, c, rfl⟩, hb⟩)
    have HROOM := Lib.hid hroom
    have HNAMES := Lib.hid hnames
    clear hb16 hl16 hr16 hroom hnames
    go_wp2_with (first
      | (go_at_call 10; refine (alive_any _).mono ?_; rintro e w17 ⟨rfl, hb⟩; have HB17 := Lib.hid hb; clear hb)
      | (go_at_call 30; refine (HROOM.out _ (HR16.out.below HB17.out)).mono ?_; rintro e w18 ⟨rfl, rfl⟩)
      | (go_at_call 28; refine (HNAMES.out _ (HR16.out.below HB17.out)).mono ?_; rintro e w19 ⟨⟨a, c, rfl⟩, hb⟩; have HB19 := Lib.hid hb; clear hb))
    all_goals (
      go_ret
      have b17 := HB16.out.trans (HB17.out.mono HB16.out.size)
      exact ⟨by simp, b17.trans (HB19.out.mono b17.size)⟩)

theorem diskNone_walk {W : World} (a0 : Int) (w0 : (Lit.int .i64 a0).wf = true) (a1 : Int) (w1 : (Lit.int .i64 a1).wf = true) (a2 : ByteArray) {P : Prop} (w2 : P) : Calls Tryd.prog 4 #[.int .i64 a0, .int .i64 a1, .string a2] W fun e w' => e = .returned (.bool true) ∧ Below W.heap.size W w' := diskNone_any a0 a1 a2

end Go.Proofs.YtjbhdidjkdlceaaDoor
