/- call of each method that tells one error, and of none. -/
import Derived.Test.YtjbhdidjkdlceaaDoorCall
namespace Go.Proofs.YtjbhdidjkdlceaaDoor
open Go.RowKit Go.Maps
set_option linter.unusedVariables false

set_option maxHeartbeats 1000000 in
set_option maxRecDepth 100000 in
theorem call_1 {X : Nat → Prop} {D M : Nat} {s' : PS} {w : World} (hX : ∀ k, X k → k < w.heap.size) (o : Out) (hz : ∀ n e, o = .told n e → n = 0) (n kp : Int) (A B : ByteArray) (ra : Option Addr) (m rc : Nat)
    (h : Calls Tryd.prog 19 #[.pointer (some ⟨D, 0, none⟩), .string A, .int .i64 n] (inCall (cA 1 n kp A B ra m rc) w) fun e w' => e = o.end1 ∧ Went (own X w) D M s' (inCall (cA 1 n kp A B ra m rc) w) w') :
    Calls Tryd.prog 14 #[.pointer (some ⟨D, 0, none⟩), .agg (cA 1 n kp A B ra m rc)] w fun e w' => e = .returned o.end4 ∧ Went X D M s' w w' := by
  have H := Lib.hid h
  have b0 := inCall_0 (cA 1 n kp A B ra m rc) w
  have a0 : (inCall (cA 1 n kp A B ra m rc) w).cell? ⟨w.heap.size, 0, none⟩ = some (.int .i64 1) := by rw [cell_of_row _ _ _ _ _ _ b0]; rfl
  have a1 : (inCall (cA 1 n kp A B ra m rc) w).cell? ⟨w.heap.size, 1, none⟩ = some (.int .i64 n) := by rw [cell_of_row _ _ _ _ _ _ b0]; rfl
  have a2 : (inCall (cA 1 n kp A B ra m rc) w).cell? ⟨w.heap.size, 2, none⟩ = some (.int .i64 kp) := by rw [cell_of_row _ _ _ _ _ _ b0]; rfl
  have a3 : (inCall (cA 1 n kp A B ra m rc) w).cell? ⟨w.heap.size, 3, none⟩ = some (.string A) := by rw [cell_of_row _ _ _ _ _ _ b0]; rfl
  have a4 : (inCall (cA 1 n kp A B ra m rc) w).cell? ⟨w.heap.size, 4, none⟩ = some (.string B) := by rw [cell_of_row _ _ _ _ _ _ b0]; rfl
  have a5 : (inCall (cA 1 n kp A B ra m rc) w).cell? ⟨w.heap.size, 5, none⟩ = some (.slice ra m rc) := by rw [cell_of_row _ _ _ _ _ _ b0]; rfl
  obtain ⟨w0, hw0⟩ : ∃ w0, w0 = inCall (cA 1 n kp A B ra m rc) w := ⟨_, rfl⟩
  have HW0 := Lib.hid hw0
  rw [← hw0] at H a0 a1 a2 a3 a4 a5
  clear h b0 hw0
  have HZ := Lib.hid hz
  have HX := Lib.hid hX
  clear hz hX
  go_enter_defers Tryd.func14, Tryd.ntmps14
  go_upto_region 1 with (fail)
  change Code.wp _ _ _ _ (inCall (cA 1 n kp A B ra m rc) w)
  rw [← HW0.out]
  go_wp2_with fail
  refine H.out.mono ?_
  rintro e w1 ⟨he, hwent⟩
  have hwent' := hwent
  rw [HW0.out] at hwent'
  have hvars := vars_of hwent'
  have HV := Lib.hid hvars
  have HWENT := Lib.hid hwent'
  have k1 : w1.cell? ⟨w.heap.size + 1, 0, none⟩ = some (.int .i64 0) := cell_of_one hvars.c1
  have k2 : w1.cell? ⟨w.heap.size + 1 + 1, 0, none⟩ = some (.int .i64 0) := cell_of_one hvars.c2
  have k3 : w1.cell? ⟨w.heap.size + 1 + 1 + 1, 0, none⟩ = some (.bool false) := cell_of_one hvars.c3
  have k4 : w1.cell? ⟨w.heap.size + 1 + 1 + 1 + 1, 0, none⟩ = some (.int .i64 0) := cell_of_one hvars.c4
  have f1 : w1.frozen? ⟨w.heap.size + 1, 0, none⟩ = false := free_of_one hvars.c1
  have f2 : w1.frozen? ⟨w.heap.size + 1 + 1, 0, none⟩ = false := free_of_one hvars.c2
  have f3 : w1.frozen? ⟨w.heap.size + 1 + 1 + 1, 0, none⟩ = false := free_of_one hvars.c3
  have f4 : w1.frozen? ⟨w.heap.size + 1 + 1 + 1 + 1, 0, none⟩ = false := free_of_one hvars.c4
  clear hwent hwent' hvars
  cases o with
  | gone op =>
    have he2 : e = goneAt op := he
    clear he
    subst he2
    go_wp2
    refine leaves_cons (f := 32) (args := #[.pointer (some ⟨w.heap.size + 1, 0, none⟩), .pointer (some ⟨w.heap.size + 2, 0, none⟩), .pointer (some ⟨w.heap.size + 3, 0, none⟩), .pointer (some ⟨w.heap.size + 4, 0, none⟩)]) (by simp) (by simp [go_sem]) ?_
    refine (catch_gone w.heap.size op [] _ _ _ _ w1 HV.out.c1 HV.out.c2 HV.out.c3 HV.out.c4).mono ?_
    rintro e u' w2 ⟨rfl, rfl, hc⟩
    have d1 : w2.cell? ⟨w.heap.size + 1, 0, none⟩ = some (.int .i64 0) := cell_of_one hc.c1
    have d2 : w2.cell? ⟨w.heap.size + 1 + 1, 0, none⟩ = some (.int .i64 0) := cell_of_one hc.c2
    have d3 : w2.cell? ⟨w.heap.size + 1 + 1 + 1, 0, none⟩ = some (.bool true) := cell_of_one hc.c3
    have d4 : w2.cell? ⟨w.heap.size + 1 + 1 + 1 + 1, 0, none⟩ = some (.int .i64 op) := cell_of_one hc.c4
    refine ⟨.tuple #[.int .i64 0, .int .i64 0, .bool true, .int .i64 op], ?_, ?_⟩
    · simp [results, Tryd.results14, go_sem, d1, d2, d3, d4]
    · exact ⟨rfl, went_out HX.out HWENT.out (hc.mod.mono (fun t _ ht => by omega))⟩
  | told q ee =>
    have he2 : e = .returned (.int .i64 ee) := he
    clear he
    subst he2
    obtain rfl := HZ.out q ee rfl
    go_wp2_with fail
    obtain ⟨wb, hwb⟩ : ∃ wb : World, wb = w1.setCell ⟨w.heap.size + 1 + 1, 0, none⟩ (.int .i64 ee) := ⟨_, rfl⟩
    rw [← hwb]
    have m1 : Mod (fun k => w.heap.size + 1 ≤ k ∧ k ≤ w.heap.size + 4) w1 wb := by rw [hwb]; exact Mod.setCell (by simp) _
    have hvb : Vars w wb (.int .i64 0) (.int .i64 ee) := vars_second HV.out ee hwb
    clear hwb
    have HVB := Lib.hid hvb
    have HM1 := Lib.hid m1
    have k1 : wb.cell? ⟨w.heap.size + 1, 0, none⟩ = some (.int .i64 0) := cell_of_one hvb.c1
    have k2 : wb.cell? ⟨w.heap.size + 1 + 1, 0, none⟩ = some (.int .i64 ee) := cell_of_one hvb.c2
    have k3 : wb.cell? ⟨w.heap.size + 1 + 1 + 1, 0, none⟩ = some (.bool false) := cell_of_one hvb.c3
    have k4 : wb.cell? ⟨w.heap.size + 1 + 1 + 1 + 1, 0, none⟩ = some (.int .i64 0) := cell_of_one hvb.c4
    have f1 : wb.frozen? ⟨w.heap.size + 1, 0, none⟩ = false := free_of_one hvb.c1
    have f2 : wb.frozen? ⟨w.heap.size + 1 + 1, 0, none⟩ = false := free_of_one hvb.c2
    have f3 : wb.frozen? ⟨w.heap.size + 1 + 1 + 1, 0, none⟩ = false := free_of_one hvb.c3
    have f4 : wb.frozen? ⟨w.heap.size + 1 + 1 + 1 + 1, 0, none⟩ = false := free_of_one hvb.c4
    clear hvb m1
    go_region
    all_goals (
      go_wp2
      refine leaves_cons (f := 32) (args := #[.pointer (some ⟨w.heap.size + 1, 0, none⟩), .pointer (some ⟨w.heap.size + 2, 0, none⟩), .pointer (some ⟨w.heap.size + 3, 0, none⟩), .pointer (some ⟨w.heap.size + 4, 0, none⟩)]) (by simp) (by simp [go_sem]) ?_
      refine (catch_idle ⟨w.heap.size + 1, 0, none⟩ ⟨w.heap.size + 2, 0, none⟩ ⟨w.heap.size + 3, 0, none⟩ ⟨w.heap.size + 4, 0, none⟩ _).mono ?_
      rintro e u' w2 ⟨rfl, rfl, hw2⟩
      have hw3 : w2 = stored4 w.heap.size 0 ee wb := hw2
      clear hw2
      have hl := last4 HVB.out 0 ee
      rw [← hw3] at hl
      have d1 := hl.1
      have d2 := hl.2.1
      have d3 := hl.2.2.1
      have d4 := hl.2.2.2.1
      have hm := hl.2.2.2.2
      clear hl
      refine ⟨.tuple #[.int .i64 0, .int .i64 ee, .bool false, .int .i64 0], ?_, ?_⟩
      · simp [results, Tryd.results14, go_sem, d1, d2, d3, d4]
      · exact ⟨rfl, went_out HX.out HWENT.out (HM1.out.trans hm)⟩)

set_option maxHeartbeats 1000000 in
set_option maxRecDepth 100000 in
theorem call_2 {X : Nat → Prop} {D M : Nat} {s' : PS} {w : World} (hX : ∀ k, X k → k < w.heap.size) (o : Out) (hz : ∀ n e, o = .told n e → n = 0) (n kp : Int) (A B : ByteArray) (ra : Option Addr) (m rc : Nat)
    (h : Calls Tryd.prog 20 #[.pointer (some ⟨D, 0, none⟩), .string A] (inCall (cA 2 n kp A B ra m rc) w) fun e w' => e = o.end1 ∧ Went (own X w) D M s' (inCall (cA 2 n kp A B ra m rc) w) w') :
    Calls Tryd.prog 14 #[.pointer (some ⟨D, 0, none⟩), .agg (cA 2 n kp A B ra m rc)] w fun e w' => e = .returned o.end4 ∧ Went X D M s' w w' := by
  have H := Lib.hid h
  have b0 := inCall_0 (cA 2 n kp A B ra m rc) w
  have a0 : (inCall (cA 2 n kp A B ra m rc) w).cell? ⟨w.heap.size, 0, none⟩ = some (.int .i64 2) := by rw [cell_of_row _ _ _ _ _ _ b0]; rfl
  have a1 : (inCall (cA 2 n kp A B ra m rc) w).cell? ⟨w.heap.size, 1, none⟩ = some (.int .i64 n) := by rw [cell_of_row _ _ _ _ _ _ b0]; rfl
  have a2 : (inCall (cA 2 n kp A B ra m rc) w).cell? ⟨w.heap.size, 2, none⟩ = some (.int .i64 kp) := by rw [cell_of_row _ _ _ _ _ _ b0]; rfl
  have a3 : (inCall (cA 2 n kp A B ra m rc) w).cell? ⟨w.heap.size, 3, none⟩ = some (.string A) := by rw [cell_of_row _ _ _ _ _ _ b0]; rfl
  have a4 : (inCall (cA 2 n kp A B ra m rc) w).cell? ⟨w.heap.size, 4, none⟩ = some (.string B) := by rw [cell_of_row _ _ _ _ _ _ b0]; rfl
  have a5 : (inCall (cA 2 n kp A B ra m rc) w).cell? ⟨w.heap.size, 5, none⟩ = some (.slice ra m rc) := by rw [cell_of_row _ _ _ _ _ _ b0]; rfl
  obtain ⟨w0, hw0⟩ : ∃ w0, w0 = inCall (cA 2 n kp A B ra m rc) w := ⟨_, rfl⟩
  have HW0 := Lib.hid hw0
  rw [← hw0] at H a0 a1 a2 a3 a4 a5
  clear h b0 hw0
  have HZ := Lib.hid hz
  have HX := Lib.hid hX
  clear hz hX
  go_enter_defers Tryd.func14, Tryd.ntmps14
  go_upto_region 1 with (fail)
  change Code.wp _ _ _ _ (inCall (cA 2 n kp A B ra m rc) w)
  rw [← HW0.out]
  go_wp2_with fail
  refine H.out.mono ?_
  rintro e w1 ⟨he, hwent⟩
  have hwent' := hwent
  rw [HW0.out] at hwent'
  have hvars := vars_of hwent'
  have HV := Lib.hid hvars
  have HWENT := Lib.hid hwent'
  have k1 : w1.cell? ⟨w.heap.size + 1, 0, none⟩ = some (.int .i64 0) := cell_of_one hvars.c1
  have k2 : w1.cell? ⟨w.heap.size + 1 + 1, 0, none⟩ = some (.int .i64 0) := cell_of_one hvars.c2
  have k3 : w1.cell? ⟨w.heap.size + 1 + 1 + 1, 0, none⟩ = some (.bool false) := cell_of_one hvars.c3
  have k4 : w1.cell? ⟨w.heap.size + 1 + 1 + 1 + 1, 0, none⟩ = some (.int .i64 0) := cell_of_one hvars.c4
  have f1 : w1.frozen? ⟨w.heap.size + 1, 0, none⟩ = false := free_of_one hvars.c1
  have f2 : w1.frozen? ⟨w.heap.size + 1 + 1, 0, none⟩ = false := free_of_one hvars.c2
  have f3 : w1.frozen? ⟨w.heap.size + 1 + 1 + 1, 0, none⟩ = false := free_of_one hvars.c3
  have f4 : w1.frozen? ⟨w.heap.size + 1 + 1 + 1 + 1, 0, none⟩ = false := free_of_one hvars.c4
  clear hwent hwent' hvars
  cases o with
  | gone op =>
    have he2 : e = goneAt op := he
    clear he
    subst he2
    go_wp2
    refine leaves_cons (f := 32) (args := #[.pointer (some ⟨w.heap.size + 1, 0, none⟩), .pointer (some ⟨w.heap.size + 2, 0, none⟩), .pointer (some ⟨w.heap.size + 3, 0, none⟩), .pointer (some ⟨w.heap.size + 4, 0, none⟩)]) (by simp) (by simp [go_sem]) ?_
    refine (catch_gone w.heap.size op [] _ _ _ _ w1 HV.out.c1 HV.out.c2 HV.out.c3 HV.out.c4).mono ?_
    rintro e u' w2 ⟨rfl, rfl, hc⟩
    have d1 : w2.cell? ⟨w.heap.size + 1, 0, none⟩ = some (.int .i64 0) := cell_of_one hc.c1
    have d2 : w2.cell? ⟨w.heap.size + 1 + 1, 0, none⟩ = some (.int .i64 0) := cell_of_one hc.c2
    have d3 : w2.cell? ⟨w.heap.size + 1 + 1 + 1, 0, none⟩ = some (.bool true) := cell_of_one hc.c3
    have d4 : w2.cell? ⟨w.heap.size + 1 + 1 + 1 + 1, 0, none⟩ = some (.int .i64 op) := cell_of_one hc.c4
    refine ⟨.tuple #[.int .i64 0, .int .i64 0, .bool true, .int .i64 op], ?_, ?_⟩
    · simp [results, Tryd.results14, go_sem, d1, d2, d3, d4]
    · exact ⟨rfl, went_out HX.out HWENT.out (hc.mod.mono (fun t _ ht => by omega))⟩
  | told q ee =>
    have he2 : e = .returned (.int .i64 ee) := he
    clear he
    subst he2
    obtain rfl := HZ.out q ee rfl
    go_wp2_with fail
    obtain ⟨wb, hwb⟩ : ∃ wb : World, wb = w1.setCell ⟨w.heap.size + 1 + 1, 0, none⟩ (.int .i64 ee) := ⟨_, rfl⟩
    rw [← hwb]
    have m1 : Mod (fun k => w.heap.size + 1 ≤ k ∧ k ≤ w.heap.size + 4) w1 wb := by rw [hwb]; exact Mod.setCell (by simp) _
    have hvb : Vars w wb (.int .i64 0) (.int .i64 ee) := vars_second HV.out ee hwb
    clear hwb
    have HVB := Lib.hid hvb
    have HM1 := Lib.hid m1
    have k1 : wb.cell? ⟨w.heap.size + 1, 0, none⟩ = some (.int .i64 0) := cell_of_one hvb.c1
    have k2 : wb.cell? ⟨w.heap.size + 1 + 1, 0, none⟩ = some (.int .i64 ee) := cell_of_one hvb.c2
    have k3 : wb.cell? ⟨w.heap.size + 1 + 1 + 1, 0, none⟩ = some (.bool false) := cell_of_one hvb.c3
    have k4 : wb.cell? ⟨w.heap.size + 1 + 1 + 1 + 1, 0, none⟩ = some (.int .i64 0) := cell_of_one hvb.c4
    have f1 : wb.frozen? ⟨w.heap.size + 1, 0, none⟩ = false := free_of_one hvb.c1
    have f2 : wb.frozen? ⟨w.heap.size + 1 + 1, 0, none⟩ = false := free_of_one hvb.c2
    have f3 : wb.frozen? ⟨w.heap.size + 1 + 1 + 1, 0, none⟩ = false := free_of_one hvb.c3
    have f4 : wb.frozen? ⟨w.heap.size + 1 + 1 + 1 + 1, 0, none⟩ = false := free_of_one hvb.c4
    clear hvb m1
    go_region
    all_goals (
      go_wp2
      refine leaves_cons (f := 32) (args := #[.pointer (some ⟨w.heap.size + 1, 0, none⟩), .pointer (some ⟨w.heap.size + 2, 0, none⟩), .pointer (some ⟨w.heap.size + 3, 0, none⟩), .pointer (some ⟨w.heap.size + 4, 0, none⟩)]) (by simp) (by simp [go_sem]) ?_
      refine (catch_idle ⟨w.heap.size + 1, 0, none⟩ ⟨w.heap.size + 2, 0, none⟩ ⟨w.heap.size + 3, 0, none⟩ ⟨w.heap.size + 4, 0, none⟩ _).mono ?_
      rintro e u' w2 ⟨rfl, rfl, hw2⟩
      have hw3 : w2 = stored4 w.heap.size 0 ee wb := hw2
      clear hw2
      have hl := last4 HVB.out 0 ee
      rw [← hw3] at hl
      have d1 := hl.1
      have d2 := hl.2.1
      have d3 := hl.2.2.1
      have d4 := hl.2.2.2.1
      have hm := hl.2.2.2.2
      clear hl
      refine ⟨.tuple #[.int .i64 0, .int .i64 ee, .bool false, .int .i64 0], ?_, ?_⟩
      · simp [results, Tryd.results14, go_sem, d1, d2, d3, d4]
      · exact ⟨rfl, went_out HX.out HWENT.out (HM1.out.trans hm)⟩)

set_option maxHeartbeats 1000000 in
set_option maxRecDepth 100000 in
theorem call_3 {X : Nat → Prop} {D M : Nat} {s' : PS} {w : World} (hX : ∀ k, X k → k < w.heap.size) (o : Out) (hz : ∀ n e, o = .told n e → n = 0) (n kp : Int) (A B : ByteArray) (ra : Option Addr) (m rc : Nat)
    (h : Calls Tryd.prog 21 #[.pointer (some ⟨D, 0, none⟩), .string A, .string B] (inCall (cA 3 n kp A B ra m rc) w) fun e w' => e = o.end1 ∧ Went (own X w) D M s' (inCall (cA 3 n kp A B ra m rc) w) w') :
    Calls Tryd.prog 14 #[.pointer (some ⟨D, 0, none⟩), .agg (cA 3 n kp A B ra m rc)] w fun e w' => e = .returned o.end4 ∧ Went X D M s' w w' := by
  have H := Lib.hid h
  have b0 := inCall_0 (cA 3 n kp A B ra m rc) w
  have a0 : (inCall (cA 3 n kp A B ra m rc) w).cell? ⟨w.heap.size, 0, none⟩ = some (.int .i64 3) := by rw [cell_of_row _ _ _ _ _ _ b0]; rfl
  have a1 : (inCall (cA 3 n kp A B ra m rc) w).cell? ⟨w.heap.size, 1, none⟩ = some (.int .i64 n) := by rw [cell_of_row _ _ _ _ _ _ b0]; rfl
  have a2 : (inCall (cA 3 n kp A B ra m rc) w).cell? ⟨w.heap.size, 2, none⟩ = some (.int .i64 kp) := by rw [cell_of_row _ _ _ _ _ _ b0]; rfl
  have a3 : (inCall (cA 3 n kp A B ra m rc) w).cell? ⟨w.heap.size, 3, none⟩ = some (.string A) := by rw [cell_of_row _ _ _ _ _ _ b0]; rfl
  have a4 : (inCall (cA 3 n kp A B ra m rc) w).cell? ⟨w.heap.size, 4, none⟩ = some (.string B) := by rw [cell_of_row _ _ _ _ _ _ b0]; rfl
  have a5 : (inCall (cA 3 n kp A B ra m rc) w).cell? ⟨w.heap.size, 5, none⟩ = some (.slice ra m rc) := by rw [cell_of_row _ _ _ _ _ _ b0]; rfl
  obtain ⟨w0, hw0⟩ : ∃ w0, w0 = inCall (cA 3 n kp A B ra m rc) w := ⟨_, rfl⟩
  have HW0 := Lib.hid hw0
  rw [← hw0] at H a0 a1 a2 a3 a4 a5
  clear h b0 hw0
  have HZ := Lib.hid hz
  have HX := Lib.hid hX
  clear hz hX
  go_enter_defers Tryd.func14, Tryd.ntmps14
  go_upto_region 1 with (fail)
  change Code.wp _ _ _ _ (inCall (cA 3 n kp A B ra m rc) w)
  rw [← HW0.out]
  go_wp2_with fail
  refine H.out.mono ?_
  rintro e w1 ⟨he, hwent⟩
  have hwent' := hwent
  rw [HW0.out] at hwent'
  have hvars := vars_of hwent'
  have HV := Lib.hid hvars
  have HWENT := Lib.hid hwent'
  have k1 : w1.cell? ⟨w.heap.size + 1, 0, none⟩ = some (.int .i64 0) := cell_of_one hvars.c1
  have k2 : w1.cell? ⟨w.heap.size + 1 + 1, 0, none⟩ = some (.int .i64 0) := cell_of_one hvars.c2
  have k3 : w1.cell? ⟨w.heap.size + 1 + 1 + 1, 0, none⟩ = some (.bool false) := cell_of_one hvars.c3
  have k4 : w1.cell? ⟨w.heap.size + 1 + 1 + 1 + 1, 0, none⟩ = some (.int .i64 0) := cell_of_one hvars.c4
  have f1 : w1.frozen? ⟨w.heap.size + 1, 0, none⟩ = false := free_of_one hvars.c1
  have f2 : w1.frozen? ⟨w.heap.size + 1 + 1, 0, none⟩ = false := free_of_one hvars.c2
  have f3 : w1.frozen? ⟨w.heap.size + 1 + 1 + 1, 0, none⟩ = false := free_of_one hvars.c3
  have f4 : w1.frozen? ⟨w.heap.size + 1 + 1 + 1 + 1, 0, none⟩ = false := free_of_one hvars.c4
  clear hwent hwent' hvars
  cases o with
  | gone op =>
    have he2 : e = goneAt op := he
    clear he
    subst he2
    go_wp2
    refine leaves_cons (f := 32) (args := #[.pointer (some ⟨w.heap.size + 1, 0, none⟩), .pointer (some ⟨w.heap.size + 2, 0, none⟩), .pointer (some ⟨w.heap.size + 3, 0, none⟩), .pointer (some ⟨w.heap.size + 4, 0, none⟩)]) (by simp) (by simp [go_sem]) ?_
    refine (catch_gone w.heap.size op [] _ _ _ _ w1 HV.out.c1 HV.out.c2 HV.out.c3 HV.out.c4).mono ?_
    rintro e u' w2 ⟨rfl, rfl, hc⟩
    have d1 : w2.cell? ⟨w.heap.size + 1, 0, none⟩ = some (.int .i64 0) := cell_of_one hc.c1
    have d2 : w2.cell? ⟨w.heap.size + 1 + 1, 0, none⟩ = some (.int .i64 0) := cell_of_one hc.c2
    have d3 : w2.cell? ⟨w.heap.size + 1 + 1 + 1, 0, none⟩ = some (.bool true) := cell_of_one hc.c3
    have d4 : w2.cell? ⟨w.heap.size + 1 + 1 + 1 + 1, 0, none⟩ = some (.int .i64 op) := cell_of_one hc.c4
    refine ⟨.tuple #[.int .i64 0, .int .i64 0, .bool true, .int .i64 op], ?_, ?_⟩
    · simp [results, Tryd.results14, go_sem, d1, d2, d3, d4]
    · exact ⟨rfl, went_out HX.out HWENT.out (hc.mod.mono (fun t _ ht => by omega))⟩
  | told q ee =>
    have he2 : e = .returned (.int .i64 ee) := he
    clear he
    subst he2
    obtain rfl := HZ.out q ee rfl
    go_wp2_with fail
    obtain ⟨wb, hwb⟩ : ∃ wb : World, wb = w1.setCell ⟨w.heap.size + 1 + 1, 0, none⟩ (.int .i64 ee) := ⟨_, rfl⟩
    rw [← hwb]
    have m1 : Mod (fun k => w.heap.size + 1 ≤ k ∧ k ≤ w.heap.size + 4) w1 wb := by rw [hwb]; exact Mod.setCell (by simp) _
    have hvb : Vars w wb (.int .i64 0) (.int .i64 ee) := vars_second HV.out ee hwb
    clear hwb
    have HVB := Lib.hid hvb
    have HM1 := Lib.hid m1
    have k1 : wb.cell? ⟨w.heap.size + 1, 0, none⟩ = some (.int .i64 0) := cell_of_one hvb.c1
    have k2 : wb.cell? ⟨w.heap.size + 1 + 1, 0, none⟩ = some (.int .i64 ee) := cell_of_one hvb.c2
    have k3 : wb.cell? ⟨w.heap.size + 1 + 1 + 1, 0, none⟩ = some (.bool false) := cell_of_one hvb.c3
    have k4 : wb.cell? ⟨w.heap.size + 1 + 1 + 1 + 1, 0, none⟩ = some (.int .i64 0) := cell_of_one hvb.c4
    have f1 : wb.frozen? ⟨w.heap.size + 1, 0, none⟩ = false := free_of_one hvb.c1
    have f2 : wb.frozen? ⟨w.heap.size + 1 + 1, 0, none⟩ = false := free_of_one hvb.c2
    have f3 : wb.frozen? ⟨w.heap.size + 1 + 1 + 1, 0, none⟩ = false := free_of_one hvb.c3
    have f4 : wb.frozen? ⟨w.heap.size + 1 + 1 + 1 + 1, 0, none⟩ = false := free_of_one hvb.c4
    clear hvb m1
    go_region
    all_goals (
      go_wp2
      refine leaves_cons (f := 32) (args := #[.pointer (some ⟨w.heap.size + 1, 0, none⟩), .pointer (some ⟨w.heap.size + 2, 0, none⟩), .pointer (some ⟨w.heap.size + 3, 0, none⟩), .pointer (some ⟨w.heap.size + 4, 0, none⟩)]) (by simp) (by simp [go_sem]) ?_
      refine (catch_idle ⟨w.heap.size + 1, 0, none⟩ ⟨w.heap.size + 2, 0, none⟩ ⟨w.heap.size + 3, 0, none⟩ ⟨w.heap.size + 4, 0, none⟩ _).mono ?_
      rintro e u' w2 ⟨rfl, rfl, hw2⟩
      have hw3 : w2 = stored4 w.heap.size 0 ee wb := hw2
      clear hw2
      have hl := last4 HVB.out 0 ee
      rw [← hw3] at hl
      have d1 := hl.1
      have d2 := hl.2.1
      have d3 := hl.2.2.1
      have d4 := hl.2.2.2.1
      have hm := hl.2.2.2.2
      clear hl
      refine ⟨.tuple #[.int .i64 0, .int .i64 ee, .bool false, .int .i64 0], ?_, ?_⟩
      · simp [results, Tryd.results14, go_sem, d1, d2, d3, d4]
      · exact ⟨rfl, went_out HX.out HWENT.out (HM1.out.trans hm)⟩)

set_option maxHeartbeats 1000000 in
set_option maxRecDepth 100000 in
theorem call_4 {X : Nat → Prop} {D M : Nat} {s' : PS} {w : World} (hX : ∀ k, X k → k < w.heap.size) (o : Out) (hz : ∀ n e, o = .told n e → n = 0) (n kp : Int) (A B : ByteArray) (ra : Option Addr) (m rc : Nat)
    (h : Calls Tryd.prog 22 #[.pointer (some ⟨D, 0, none⟩), .string A] (inCall (cA 4 n kp A B ra m rc) w) fun e w' => e = o.end1 ∧ Went (own X w) D M s' (inCall (cA 4 n kp A B ra m rc) w) w') :
    Calls Tryd.prog 14 #[.pointer (some ⟨D, 0, none⟩), .agg (cA 4 n kp A B ra m rc)] w fun e w' => e = .returned o.end4 ∧ Went X D M s' w w' := by
  have H := Lib.hid h
  have b0 := inCall_0 (cA 4 n kp A B ra m rc) w
  have a0 : (inCall (cA 4 n kp A B ra m rc) w).cell? ⟨w.heap.size, 0, none⟩ = some (.int .i64 4) := by rw [cell_of_row _ _ _ _ _ _ b0]; rfl
  have a1 : (inCall (cA 4 n kp A B ra m rc) w).cell? ⟨w.heap.size, 1, none⟩ = some (.int .i64 n) := by rw [cell_of_row _ _ _ _ _ _ b0]; rfl
  have a2 : (inCall (cA 4 n kp A B ra m rc) w).cell? ⟨w.heap.size, 2, none⟩ = some (.int .i64 kp) := by rw [cell_of_row _ _ _ _ _ _ b0]; rfl
  have a3 : (inCall (cA 4 n kp A B ra m rc) w).cell? ⟨w.heap.size, 3, none⟩ = some (.string A) := by rw [cell_of_row _ _ _ _ _ _ b0]; rfl
  have a4 : (inCall (cA 4 n kp A B ra m rc) w).cell? ⟨w.heap.size, 4, none⟩ = some (.string B) := by rw [cell_of_row _ _ _ _ _ _ b0]; rfl
  have a5 : (inCall (cA 4 n kp A B ra m rc) w).cell? ⟨w.heap.size, 5, none⟩ = some (.slice ra m rc) := by rw [cell_of_row _ _ _ _ _ _ b0]; rfl
  obtain ⟨w0, hw0⟩ : ∃ w0, w0 = inCall (cA 4 n kp A B ra m rc) w := ⟨_, rfl⟩
  have HW0 := Lib.hid hw0
  rw [← hw0] at H a0 a1 a2 a3 a4 a5
  clear h b0 hw0
  have HZ := Lib.hid hz
  have HX := Lib.hid hX
  clear hz hX
  go_enter_defers Tryd.func14, Tryd.ntmps14
  go_upto_region 1 with (fail)
  change Code.wp _ _ _ _ (inCall (cA 4 n kp A B ra m rc) w)
  rw [← HW0.out]
  go_wp2_with fail
  refine H.out.mono ?_
  rintro e w1 ⟨he, hwent⟩
  have hwent' := hwent
  rw [HW0.out] at hwent'
  have hvars := vars_of hwent'
  have HV := Lib.hid hvars
  have HWENT := Lib.hid hwent'
  have k1 : w1.cell? ⟨w.heap.size + 1, 0, none⟩ = some (.int .i64 0) := cell_of_one hvars.c1
  have k2 : w1.cell? ⟨w.heap.size + 1 + 1, 0, none⟩ = some (.int .i64 0) := cell_of_one hvars.c2
  have k3 : w1.cell? ⟨w.heap.size + 1 + 1 + 1, 0, none⟩ = some (.bool false) := cell_of_one hvars.c3
  have k4 : w1.cell? ⟨w.heap.size + 1 + 1 + 1 + 1, 0, none⟩ = some (.int .i64 0) := cell_of_one hvars.c4
  have f1 : w1.frozen? ⟨w.heap.size + 1, 0, none⟩ = false := free_of_one hvars.c1
  have f2 : w1.frozen? ⟨w.heap.size + 1 + 1, 0, none⟩ = false := free_of_one hvars.c2
  have f3 : w1.frozen? ⟨w.heap.size + 1 + 1 + 1, 0, none⟩ = false := free_of_one hvars.c3
  have f4 : w1.frozen? ⟨w.heap.size + 1 + 1 + 1 + 1, 0, none⟩ = false := free_of_one hvars.c4
  clear hwent hwent' hvars
  cases o with
  | gone op =>
    have he2 : e = goneAt op := he
    clear he
    subst he2
    go_wp2
    refine leaves_cons (f := 32) (args := #[.pointer (some ⟨w.heap.size + 1, 0, none⟩), .pointer (some ⟨w.heap.size + 2, 0, none⟩), .pointer (some ⟨w.heap.size + 3, 0, none⟩), .pointer (some ⟨w.heap.size + 4, 0, none⟩)]) (by simp) (by simp [go_sem]) ?_
    refine (catch_gone w.heap.size op [] _ _ _ _ w1 HV.out.c1 HV.out.c2 HV.out.c3 HV.out.c4).mono ?_
    rintro e u' w2 ⟨rfl, rfl, hc⟩
    have d1 : w2.cell? ⟨w.heap.size + 1, 0, none⟩ = some (.int .i64 0) := cell_of_one hc.c1
    have d2 : w2.cell? ⟨w.heap.size + 1 + 1, 0, none⟩ = some (.int .i64 0) := cell_of_one hc.c2
    have d3 : w2.cell? ⟨w.heap.size + 1 + 1 + 1, 0, none⟩ = some (.bool true) := cell_of_one hc.c3
    have d4 : w2.cell? ⟨w.heap.size + 1 + 1 + 1 + 1, 0, none⟩ = some (.int .i64 op) := cell_of_one hc.c4
    refine ⟨.tuple #[.int .i64 0, .int .i64 0, .bool true, .int .i64 op], ?_, ?_⟩
    · simp [results, Tryd.results14, go_sem, d1, d2, d3, d4]
    · exact ⟨rfl, went_out HX.out HWENT.out (hc.mod.mono (fun t _ ht => by omega))⟩
  | told q ee =>
    have he2 : e = .returned (.int .i64 ee) := he
    clear he
    subst he2
    obtain rfl := HZ.out q ee rfl
    go_wp2_with fail
    obtain ⟨wb, hwb⟩ : ∃ wb : World, wb = w1.setCell ⟨w.heap.size + 1 + 1, 0, none⟩ (.int .i64 ee) := ⟨_, rfl⟩
    rw [← hwb]
    have m1 : Mod (fun k => w.heap.size + 1 ≤ k ∧ k ≤ w.heap.size + 4) w1 wb := by rw [hwb]; exact Mod.setCell (by simp) _
    have hvb : Vars w wb (.int .i64 0) (.int .i64 ee) := vars_second HV.out ee hwb
    clear hwb
    have HVB := Lib.hid hvb
    have HM1 := Lib.hid m1
    have k1 : wb.cell? ⟨w.heap.size + 1, 0, none⟩ = some (.int .i64 0) := cell_of_one hvb.c1
    have k2 : wb.cell? ⟨w.heap.size + 1 + 1, 0, none⟩ = some (.int .i64 ee) := cell_of_one hvb.c2
    have k3 : wb.cell? ⟨w.heap.size + 1 + 1 + 1, 0, none⟩ = some (.bool false) := cell_of_one hvb.c3
    have k4 : wb.cell? ⟨w.heap.size + 1 + 1 + 1 + 1, 0, none⟩ = some (.int .i64 0) := cell_of_one hvb.c4
    have f1 : wb.frozen? ⟨w.heap.size + 1, 0, none⟩ = false := free_of_one hvb.c1
    have f2 : wb.frozen? ⟨w.heap.size + 1 + 1, 0, none⟩ = false := free_of_one hvb.c2
    have f3 : wb.frozen? ⟨w.heap.size + 1 + 1 + 1, 0, none⟩ = false := free_of_one hvb.c3
    have f4 : wb.frozen? ⟨w.heap.size + 1 + 1 + 1 + 1, 0, none⟩ = false := free_of_one hvb.c4
    clear hvb m1
    go_region
    all_goals (
      go_wp2
      refine leaves_cons (f := 32) (args := #[.pointer (some ⟨w.heap.size + 1, 0, none⟩), .pointer (some ⟨w.heap.size + 2, 0, none⟩), .pointer (some ⟨w.heap.size + 3, 0, none⟩), .pointer (some ⟨w.heap.size + 4, 0, none⟩)]) (by simp) (by simp [go_sem]) ?_
      refine (catch_idle ⟨w.heap.size + 1, 0, none⟩ ⟨w.heap.size + 2, 0, none⟩ ⟨w.heap.size + 3, 0, none⟩ ⟨w.heap.size + 4, 0, none⟩ _).mono ?_
      rintro e u' w2 ⟨rfl, rfl, hw2⟩
      have hw3 : w2 = stored4 w.heap.size 0 ee wb := hw2
      clear hw2
      have hl := last4 HVB.out 0 ee
      rw [← hw3] at hl
      have d1 := hl.1
      have d2 := hl.2.1
      have d3 := hl.2.2.1
      have d4 := hl.2.2.2.1
      have hm := hl.2.2.2.2
      clear hl
      refine ⟨.tuple #[.int .i64 0, .int .i64 ee, .bool false, .int .i64 0], ?_, ?_⟩
      · simp [results, Tryd.results14, go_sem, d1, d2, d3, d4]
      · exact ⟨rfl, went_out HX.out HWENT.out (HM1.out.trans hm)⟩)

set_option maxHeartbeats 1000000 in
set_option maxRecDepth 100000 in
theorem call_5 {X : Nat → Prop} {D M : Nat} {s' : PS} {w : World} (hX : ∀ k, X k → k < w.heap.size) (o : Out) (hz : ∀ n e, o = .told n e → n = 0) (n kp : Int) (A B : ByteArray) (ra : Option Addr) (m rc : Nat)
    (h : Calls Tryd.prog 23 #[.pointer (some ⟨D, 0, none⟩), .int .i64 n] (inCall (cA 5 n kp A B ra m rc) w) fun e w' => e = o.end1 ∧ Went (own X w) D M s' (inCall (cA 5 n kp A B ra m rc) w) w') :
    Calls Tryd.prog 14 #[.pointer (some ⟨D, 0, none⟩), .agg (cA 5 n kp A B ra m rc)] w fun e w' => e = .returned o.end4 ∧ Went X D M s' w w' := by
  have H := Lib.hid h
  have b0 := inCall_0 (cA 5 n kp A B ra m rc) w
  have a0 : (inCall (cA 5 n kp A B ra m rc) w).cell? ⟨w.heap.size, 0, none⟩ = some (.int .i64 5) := by rw [cell_of_row _ _ _ _ _ _ b0]; rfl
  have a1 : (inCall (cA 5 n kp A B ra m rc) w).cell? ⟨w.heap.size, 1, none⟩ = some (.int .i64 n) := by rw [cell_of_row _ _ _ _ _ _ b0]; rfl
  have a2 : (inCall (cA 5 n kp A B ra m rc) w).cell? ⟨w.heap.size, 2, none⟩ = some (.int .i64 kp) := by rw [cell_of_row _ _ _ _ _ _ b0]; rfl
  have a3 : (inCall (cA 5 n kp A B ra m rc) w).cell? ⟨w.heap.size, 3, none⟩ = some (.string A) := by rw [cell_of_row _ _ _ _ _ _ b0]; rfl
  have a4 : (inCall (cA 5 n kp A B ra m rc) w).cell? ⟨w.heap.size, 4, none⟩ = some (.string B) := by rw [cell_of_row _ _ _ _ _ _ b0]; rfl
  have a5 : (inCall (cA 5 n kp A B ra m rc) w).cell? ⟨w.heap.size, 5, none⟩ = some (.slice ra m rc) := by rw [cell_of_row _ _ _ _ _ _ b0]; rfl
  obtain ⟨w0, hw0⟩ : ∃ w0, w0 = inCall (cA 5 n kp A B ra m rc) w := ⟨_, rfl⟩
  have HW0 := Lib.hid hw0
  rw [← hw0] at H a0 a1 a2 a3 a4 a5
  clear h b0 hw0
  have HZ := Lib.hid hz
  have HX := Lib.hid hX
  clear hz hX
  go_enter_defers Tryd.func14, Tryd.ntmps14
  go_upto_region 1 with (fail)
  change Code.wp _ _ _ _ (inCall (cA 5 n kp A B ra m rc) w)
  rw [← HW0.out]
  go_wp2_with fail
  refine H.out.mono ?_
  rintro e w1 ⟨he, hwent⟩
  have hwent' := hwent
  rw [HW0.out] at hwent'
  have hvars := vars_of hwent'
  have HV := Lib.hid hvars
  have HWENT := Lib.hid hwent'
  have k1 : w1.cell? ⟨w.heap.size + 1, 0, none⟩ = some (.int .i64 0) := cell_of_one hvars.c1
  have k2 : w1.cell? ⟨w.heap.size + 1 + 1, 0, none⟩ = some (.int .i64 0) := cell_of_one hvars.c2
  have k3 : w1.cell? ⟨w.heap.size + 1 + 1 + 1, 0, none⟩ = some (.bool false) := cell_of_one hvars.c3
  have k4 : w1.cell? ⟨w.heap.size + 1 + 1 + 1 + 1, 0, none⟩ = some (.int .i64 0) := cell_of_one hvars.c4
  have f1 : w1.frozen? ⟨w.heap.size + 1, 0, none⟩ = false := free_of_one hvars.c1
  have f2 : w1.frozen? ⟨w.heap.size + 1 + 1, 0, none⟩ = false := free_of_one hvars.c2
  have f3 : w1.frozen? ⟨w.heap.size + 1 + 1 + 1, 0, none⟩ = false := free_of_one hvars.c3
  have f4 : w1.frozen? ⟨w.heap.size + 1 + 1 + 1 + 1, 0, none⟩ = false := free_of_one hvars.c4
  clear hwent hwent' hvars
  cases o with
  | gone op =>
    have he2 : e = goneAt op := he
    clear he
    subst he2
    go_wp2
    refine leaves_cons (f := 32) (args := #[.pointer (some ⟨w.heap.size + 1, 0, none⟩), .pointer (some ⟨w.heap.size + 2, 0, none⟩), .pointer (some ⟨w.heap.size + 3, 0, none⟩), .pointer (some ⟨w.heap.size + 4, 0, none⟩)]) (by simp) (by simp [go_sem]) ?_
    refine (catch_gone w.heap.size op [] _ _ _ _ w1 HV.out.c1 HV.out.c2 HV.out.c3 HV.out.c4).mono ?_
    rintro e u' w2 ⟨rfl, rfl, hc⟩
    have d1 : w2.cell? ⟨w.heap.size + 1, 0, none⟩ = some (.int .i64 0) := cell_of_one hc.c1
    have d2 : w2.cell? ⟨w.heap.size + 1 + 1, 0, none⟩ = some (.int .i64 0) := cell_of_one hc.c2
    have d3 : w2.cell? ⟨w.heap.size + 1 + 1 + 1, 0, none⟩ = some (.bool true) := cell_of_one hc.c3
    have d4 : w2.cell? ⟨w.heap.size + 1 + 1 + 1 + 1, 0, none⟩ = some (.int .i64 op) := cell_of_one hc.c4
    refine ⟨.tuple #[.int .i64 0, .int .i64 0, .bool true, .int .i64 op], ?_, ?_⟩
    · simp [results, Tryd.results14, go_sem, d1, d2, d3, d4]
    · exact ⟨rfl, went_out HX.out HWENT.out (hc.mod.mono (fun t _ ht => by omega))⟩
  | told q ee =>
    have he2 : e = .returned (.int .i64 ee) := he
    clear he
    subst he2
    obtain rfl := HZ.out q ee rfl
    go_wp2_with fail
    obtain ⟨wb, hwb⟩ : ∃ wb : World, wb = w1.setCell ⟨w.heap.size + 1 + 1, 0, none⟩ (.int .i64 ee) := ⟨_, rfl⟩
    rw [← hwb]
    have m1 : Mod (fun k => w.heap.size + 1 ≤ k ∧ k ≤ w.heap.size + 4) w1 wb := by rw [hwb]; exact Mod.setCell (by simp) _
    have hvb : Vars w wb (.int .i64 0) (.int .i64 ee) := vars_second HV.out ee hwb
    clear hwb
    have HVB := Lib.hid hvb
    have HM1 := Lib.hid m1
    have k1 : wb.cell? ⟨w.heap.size + 1, 0, none⟩ = some (.int .i64 0) := cell_of_one hvb.c1
    have k2 : wb.cell? ⟨w.heap.size + 1 + 1, 0, none⟩ = some (.int .i64 ee) := cell_of_one hvb.c2
    have k3 : wb.cell? ⟨w.heap.size + 1 + 1 + 1, 0, none⟩ = some (.bool false) := cell_of_one hvb.c3
    have k4 : wb.cell? ⟨w.heap.size + 1 + 1 + 1 + 1, 0, none⟩ = some (.int .i64 0) := cell_of_one hvb.c4
    have f1 : wb.frozen? ⟨w.heap.size + 1, 0, none⟩ = false := free_of_one hvb.c1
    have f2 : wb.frozen? ⟨w.heap.size + 1 + 1, 0, none⟩ = false := free_of_one hvb.c2
    have f3 : wb.frozen? ⟨w.heap.size + 1 + 1 + 1, 0, none⟩ = false := free_of_one hvb.c3
    have f4 : wb.frozen? ⟨w.heap.size + 1 + 1 + 1 + 1, 0, none⟩ = false := free_of_one hvb.c4
    clear hvb m1
    go_region
    all_goals (
      go_wp2
      refine leaves_cons (f := 32) (args := #[.pointer (some ⟨w.heap.size + 1, 0, none⟩), .pointer (some ⟨w.heap.size + 2, 0, none⟩), .pointer (some ⟨w.heap.size + 3, 0, none⟩), .pointer (some ⟨w.heap.size + 4, 0, none⟩)]) (by simp) (by simp [go_sem]) ?_
      refine (catch_idle ⟨w.heap.size + 1, 0, none⟩ ⟨w.heap.size + 2, 0, none⟩ ⟨w.heap.size + 3, 0, none⟩ ⟨w.heap.size + 4, 0, none⟩ _).mono ?_
      rintro e u' w2 ⟨rfl, rfl, hw2⟩
      have hw3 : w2 = stored4 w.heap.size 0 ee wb := hw2
      clear hw2
      have hl := last4 HVB.out 0 ee
      rw [← hw3] at hl
      have d1 := hl.1
      have d2 := hl.2.1
      have d3 := hl.2.2.1
      have d4 := hl.2.2.2.1
      have hm := hl.2.2.2.2
      clear hl
      refine ⟨.tuple #[.int .i64 0, .int .i64 ee, .bool false, .int .i64 0], ?_, ?_⟩
      · simp [results, Tryd.results14, go_sem, d1, d2, d3, d4]
      · exact ⟨rfl, went_out HX.out HWENT.out (HM1.out.trans hm)⟩)

set_option maxHeartbeats 1000000 in
set_option maxRecDepth 100000 in
theorem call_6 {X : Nat → Prop} {D M : Nat} {s' : PS} {w : World} (hX : ∀ k, X k → k < w.heap.size) (o : Out) (hz : ∀ n e, o = .told n e → n = 0) (n kp : Int) (A B : ByteArray) (ra : Option Addr) (m rc : Nat)
    (h : Calls Tryd.prog 24 #[.pointer (some ⟨D, 0, none⟩), .int .i64 n] (inCall (cA 6 n kp A B ra m rc) w) fun e w' => e = o.end1 ∧ Went (own X w) D M s' (inCall (cA 6 n kp A B ra m rc) w) w') :
    Calls Tryd.prog 14 #[.pointer (some ⟨D, 0, none⟩), .agg (cA 6 n kp A B ra m rc)] w fun e w' => e = .returned o.end4 ∧ Went X D M s' w w' := by
  have H := Lib.hid h
  have b0 := inCall_0 (cA 6 n kp A B ra m rc) w
  have a0 : (inCall (cA 6 n kp A B ra m rc) w).cell? ⟨w.heap.size, 0, none⟩ = some (.int .i64 6) := by rw [cell_of_row _ _ _ _ _ _ b0]; rfl
  have a1 : (inCall (cA 6 n kp A B ra m rc) w).cell? ⟨w.heap.size, 1, none⟩ = some (.int .i64 n) := by rw [cell_of_row _ _ _ _ _ _ b0]; rfl
  have a2 : (inCall (cA 6 n kp A B ra m rc) w).cell? ⟨w.heap.size, 2, none⟩ = some (.int .i64 kp) := by rw [cell_of_row _ _ _ _ _ _ b0]; rfl
  have a3 : (inCall (cA 6 n kp A B ra m rc) w).cell? ⟨w.heap.size, 3, none⟩ = some (.string A) := by rw [cell_of_row _ _ _ _ _ _ b0]; rfl
  have a4 : (inCall (cA 6 n kp A B ra m rc) w).cell? ⟨w.heap.size, 4, none⟩ = some (.string B) := by rw [cell_of_row _ _ _ _ _ _ b0]; rfl
  have a5 : (inCall (cA 6 n kp A B ra m rc) w).cell? ⟨w.heap.size, 5, none⟩ = some (.slice ra m rc) := by rw [cell_of_row _ _ _ _ _ _ b0]; rfl
  obtain ⟨w0, hw0⟩ : ∃ w0, w0 = inCall (cA 6 n kp A B ra m rc) w := ⟨_, rfl⟩
  have HW0 := Lib.hid hw0
  rw [← hw0] at H a0 a1 a2 a3 a4 a5
  clear h b0 hw0
  have HZ := Lib.hid hz
  have HX := Lib.hid hX
  clear hz hX
  go_enter_defers Tryd.func14, Tryd.ntmps14
  go_upto_region 1 with (fail)
  change Code.wp _ _ _ _ (inCall (cA 6 n kp A B ra m rc) w)
  rw [← HW0.out]
  go_wp2_with fail
  refine H.out.mono ?_
  rintro e w1 ⟨he, hwent⟩
  have hwent' := hwent
  rw [HW0.out] at hwent'
  have hvars := vars_of hwent'
  have HV := Lib.hid hvars
  have HWENT := Lib.hid hwent'
  have k1 : w1.cell? ⟨w.heap.size + 1, 0, none⟩ = some (.int .i64 0) := cell_of_one hvars.c1
  have k2 : w1.cell? ⟨w.heap.size + 1 + 1, 0, none⟩ = some (.int .i64 0) := cell_of_one hvars.c2
  have k3 : w1.cell? ⟨w.heap.size + 1 + 1 + 1, 0, none⟩ = some (.bool false) := cell_of_one hvars.c3
  have k4 : w1.cell? ⟨w.heap.size + 1 + 1 + 1 + 1, 0, none⟩ = some (.int .i64 0) := cell_of_one hvars.c4
  have f1 : w1.frozen? ⟨w.heap.size + 1, 0, none⟩ = false := free_of_one hvars.c1
  have f2 : w1.frozen? ⟨w.heap.size + 1 + 1, 0, none⟩ = false := free_of_one hvars.c2
  have f3 : w1.frozen? ⟨w.heap.size + 1 + 1 + 1, 0, none⟩ = false := free_of_one hvars.c3
  have f4 : w1.frozen? ⟨w.heap.size + 1 + 1 + 1 + 1, 0, none⟩ = false := free_of_one hvars.c4
  clear hwent hwent' hvars
  cases o with
  | gone op =>
    have he2 : e = goneAt op := he
    clear he
    subst he2
    go_wp2
    refine leaves_cons (f := 32) (args := #[.pointer (some ⟨w.heap.size + 1, 0, none⟩), .pointer (some ⟨w.heap.size + 2, 0, none⟩), .pointer (some ⟨w.heap.size + 3, 0, none⟩), .pointer (some ⟨w.heap.size + 4, 0, none⟩)]) (by simp) (by simp [go_sem]) ?_
    refine (catch_gone w.heap.size op [] _ _ _ _ w1 HV.out.c1 HV.out.c2 HV.out.c3 HV.out.c4).mono ?_
    rintro e u' w2 ⟨rfl, rfl, hc⟩
    have d1 : w2.cell? ⟨w.heap.size + 1, 0, none⟩ = some (.int .i64 0) := cell_of_one hc.c1
    have d2 : w2.cell? ⟨w.heap.size + 1 + 1, 0, none⟩ = some (.int .i64 0) := cell_of_one hc.c2
    have d3 : w2.cell? ⟨w.heap.size + 1 + 1 + 1, 0, none⟩ = some (.bool true) := cell_of_one hc.c3
    have d4 : w2.cell? ⟨w.heap.size + 1 + 1 + 1 + 1, 0, none⟩ = some (.int .i64 op) := cell_of_one hc.c4
    refine ⟨.tuple #[.int .i64 0, .int .i64 0, .bool true, .int .i64 op], ?_, ?_⟩
    · simp [results, Tryd.results14, go_sem, d1, d2, d3, d4]
    · exact ⟨rfl, went_out HX.out HWENT.out (hc.mod.mono (fun t _ ht => by omega))⟩
  | told q ee =>
    have he2 : e = .returned (.int .i64 ee) := he
    clear he
    subst he2
    obtain rfl := HZ.out q ee rfl
    go_wp2_with fail
    obtain ⟨wb, hwb⟩ : ∃ wb : World, wb = w1.setCell ⟨w.heap.size + 1 + 1, 0, none⟩ (.int .i64 ee) := ⟨_, rfl⟩
    rw [← hwb]
    have m1 : Mod (fun k => w.heap.size + 1 ≤ k ∧ k ≤ w.heap.size + 4) w1 wb := by rw [hwb]; exact Mod.setCell (by simp) _
    have hvb : Vars w wb (.int .i64 0) (.int .i64 ee) := vars_second HV.out ee hwb
    clear hwb
    have HVB := Lib.hid hvb
    have HM1 := Lib.hid m1
    have k1 : wb.cell? ⟨w.heap.size + 1, 0, none⟩ = some (.int .i64 0) := cell_of_one hvb.c1
    have k2 : wb.cell? ⟨w.heap.size + 1 + 1, 0, none⟩ = some (.int .i64 ee) := cell_of_one hvb.c2
    have k3 : wb.cell? ⟨w.heap.size + 1 + 1 + 1, 0, none⟩ = some (.bool false) := cell_of_one hvb.c3
    have k4 : wb.cell? ⟨w.heap.size + 1 + 1 + 1 + 1, 0, none⟩ = some (.int .i64 0) := cell_of_one hvb.c4
    have f1 : wb.frozen? ⟨w.heap.size + 1, 0, none⟩ = false := free_of_one hvb.c1
    have f2 : wb.frozen? ⟨w.heap.size + 1 + 1, 0, none⟩ = false := free_of_one hvb.c2
    have f3 : wb.frozen? ⟨w.heap.size + 1 + 1 + 1, 0, none⟩ = false := free_of_one hvb.c3
    have f4 : wb.frozen? ⟨w.heap.size + 1 + 1 + 1 + 1, 0, none⟩ = false := free_of_one hvb.c4
    clear hvb m1
    go_region
    all_goals (
      go_wp2
      refine leaves_cons (f := 32) (args := #[.pointer (some ⟨w.heap.size + 1, 0, none⟩), .pointer (some ⟨w.heap.size + 2, 0, none⟩), .pointer (some ⟨w.heap.size + 3, 0, none⟩), .pointer (some ⟨w.heap.size + 4, 0, none⟩)]) (by simp) (by simp [go_sem]) ?_
      refine (catch_idle ⟨w.heap.size + 1, 0, none⟩ ⟨w.heap.size + 2, 0, none⟩ ⟨w.heap.size + 3, 0, none⟩ ⟨w.heap.size + 4, 0, none⟩ _).mono ?_
      rintro e u' w2 ⟨rfl, rfl, hw2⟩
      have hw3 : w2 = stored4 w.heap.size 0 ee wb := hw2
      clear hw2
      have hl := last4 HVB.out 0 ee
      rw [← hw3] at hl
      have d1 := hl.1
      have d2 := hl.2.1
      have d3 := hl.2.2.1
      have d4 := hl.2.2.2.1
      have hm := hl.2.2.2.2
      clear hl
      refine ⟨.tuple #[.int .i64 0, .int .i64 ee, .bool false, .int .i64 0], ?_, ?_⟩
      · simp [results, Tryd.results14, go_sem, d1, d2, d3, d4]
      · exact ⟨rfl, went_out HX.out HWENT.out (HM1.out.trans hm)⟩)

set_option maxHeartbeats 1000000 in
set_option maxRecDepth 100000 in
theorem call_7 {X : Nat → Prop} {D M : Nat} {s' : PS} {w : World} (hX : ∀ k, X k → k < w.heap.size) (o : Out) (hz : ∀ n e, o = .told n e → n = 0) (n kp : Int) (A B : ByteArray) (ra : Option Addr) (m rc : Nat)
    (h : Calls Tryd.prog 25 #[.pointer (some ⟨D, 0, none⟩), .int .i64 n, .int .i64 kp] (inCall (cA 7 n kp A B ra m rc) w) fun e w' => e = o.end1 ∧ Went (own X w) D M s' (inCall (cA 7 n kp A B ra m rc) w) w') :
    Calls Tryd.prog 14 #[.pointer (some ⟨D, 0, none⟩), .agg (cA 7 n kp A B ra m rc)] w fun e w' => e = .returned o.end4 ∧ Went X D M s' w w' := by
  have H := Lib.hid h
  have b0 := inCall_0 (cA 7 n kp A B ra m rc) w
  have a0 : (inCall (cA 7 n kp A B ra m rc) w).cell? ⟨w.heap.size, 0, none⟩ = some (.int .i64 7) := by rw [cell_of_row _ _ _ _ _ _ b0]; rfl
  have a1 : (inCall (cA 7 n kp A B ra m rc) w).cell? ⟨w.heap.size, 1, none⟩ = some (.int .i64 n) := by rw [cell_of_row _ _ _ _ _ _ b0]; rfl
  have a2 : (inCall (cA 7 n kp A B ra m rc) w).cell? ⟨w.heap.size, 2, none⟩ = some (.int .i64 kp) := by rw [cell_of_row _ _ _ _ _ _ b0]; rfl
  have a3 : (inCall (cA 7 n kp A B ra m rc) w).cell? ⟨w.heap.size, 3, none⟩ = some (.string A) := by rw [cell_of_row _ _ _ _ _ _ b0]; rfl
  have a4 : (inCall (cA 7 n kp A B ra m rc) w).cell? ⟨w.heap.size, 4, none⟩ = some (.string B) := by rw [cell_of_row _ _ _ _ _ _ b0]; rfl
  have a5 : (inCall (cA 7 n kp A B ra m rc) w).cell? ⟨w.heap.size, 5, none⟩ = some (.slice ra m rc) := by rw [cell_of_row _ _ _ _ _ _ b0]; rfl
  obtain ⟨w0, hw0⟩ : ∃ w0, w0 = inCall (cA 7 n kp A B ra m rc) w := ⟨_, rfl⟩
  have HW0 := Lib.hid hw0
  rw [← hw0] at H a0 a1 a2 a3 a4 a5
  clear h b0 hw0
  have HZ := Lib.hid hz
  have HX := Lib.hid hX
  clear hz hX
  go_enter_defers Tryd.func14, Tryd.ntmps14
  go_upto_region 1 with (fail)
  change Code.wp _ _ _ _ (inCall (cA 7 n kp A B ra m rc) w)
  rw [← HW0.out]
  go_wp2_with fail
  refine H.out.mono ?_
  rintro e w1 ⟨he, hwent⟩
  have hwent' := hwent
  rw [HW0.out] at hwent'
  have hvars := vars_of hwent'
  have HV := Lib.hid hvars
  have HWENT := Lib.hid hwent'
  have k1 : w1.cell? ⟨w.heap.size + 1, 0, none⟩ = some (.int .i64 0) := cell_of_one hvars.c1
  have k2 : w1.cell? ⟨w.heap.size + 1 + 1, 0, none⟩ = some (.int .i64 0) := cell_of_one hvars.c2
  have k3 : w1.cell? ⟨w.heap.size + 1 + 1 + 1, 0, none⟩ = some (.bool false) := cell_of_one hvars.c3
  have k4 : w1.cell? ⟨w.heap.size + 1 + 1 + 1 + 1, 0, none⟩ = some (.int .i64 0) := cell_of_one hvars.c4
  have f1 : w1.frozen? ⟨w.heap.size + 1, 0, none⟩ = false := free_of_one hvars.c1
  have f2 : w1.frozen? ⟨w.heap.size + 1 + 1, 0, none⟩ = false := free_of_one hvars.c2
  have f3 : w1.frozen? ⟨w.heap.size + 1 + 1 + 1, 0, none⟩ = false := free_of_one hvars.c3
  have f4 : w1.frozen? ⟨w.heap.size + 1 + 1 + 1 + 1, 0, none⟩ = false := free_of_one hvars.c4
  clear hwent hwent' hvars
  cases o with
  | gone op =>
    have he2 : e = goneAt op := he
    clear he
    subst he2
    go_wp2
    refine leaves_cons (f := 32) (args := #[.pointer (some ⟨w.heap.size + 1, 0, none⟩), .pointer (some ⟨w.heap.size + 2, 0, none⟩), .pointer (some ⟨w.heap.size + 3, 0, none⟩), .pointer (some ⟨w.heap.size + 4, 0, none⟩)]) (by simp) (by simp [go_sem]) ?_
    refine (catch_gone w.heap.size op [] _ _ _ _ w1 HV.out.c1 HV.out.c2 HV.out.c3 HV.out.c4).mono ?_
    rintro e u' w2 ⟨rfl, rfl, hc⟩
    have d1 : w2.cell? ⟨w.heap.size + 1, 0, none⟩ = some (.int .i64 0) := cell_of_one hc.c1
    have d2 : w2.cell? ⟨w.heap.size + 1 + 1, 0, none⟩ = some (.int .i64 0) := cell_of_one hc.c2
    have d3 : w2.cell? ⟨w.heap.size + 1 + 1 + 1, 0, none⟩ = some (.bool true) := cell_of_one hc.c3
    have d4 : w2.cell? ⟨w.heap.size + 1 + 1 + 1 + 1, 0, none⟩ = some (.int .i64 op) := cell_of_one hc.c4
    refine ⟨.tuple #[.int .i64 0, .int .i64 0, .bool true, .int .i64 op], ?_, ?_⟩
    · simp [results, Tryd.results14, go_sem, d1, d2, d3, d4]
    · exact ⟨rfl, went_out HX.out HWENT.out (hc.mod.mono (fun t _ ht => by omega))⟩
  | told q ee =>
    have he2 : e = .returned (.int .i64 ee) := he
    clear he
    subst he2
    obtain rfl := HZ.out q ee rfl
    go_wp2_with fail
    obtain ⟨wb, hwb⟩ : ∃ wb : World, wb = w1.setCell ⟨w.heap.size + 1 + 1, 0, none⟩ (.int .i64 ee) := ⟨_, rfl⟩
    rw [← hwb]
    have m1 : Mod (fun k => w.heap.size + 1 ≤ k ∧ k ≤ w.heap.size + 4) w1 wb := by rw [hwb]; exact Mod.setCell (by simp) _
    have hvb : Vars w wb (.int .i64 0) (.int .i64 ee) := vars_second HV.out ee hwb
    clear hwb
    have HVB := Lib.hid hvb
    have HM1 := Lib.hid m1
    have k1 : wb.cell? ⟨w.heap.size + 1, 0, none⟩ = some (.int .i64 0) := cell_of_one hvb.c1
    have k2 : wb.cell? ⟨w.heap.size + 1 + 1, 0, none⟩ = some (.int .i64 ee) := cell_of_one hvb.c2
    have k3 : wb.cell? ⟨w.heap.size + 1 + 1 + 1, 0, none⟩ = some (.bool false) := cell_of_one hvb.c3
    have k4 : wb.cell? ⟨w.heap.size + 1 + 1 + 1 + 1, 0, none⟩ = some (.int .i64 0) := cell_of_one hvb.c4
    have f1 : wb.frozen? ⟨w.heap.size + 1, 0, none⟩ = false := free_of_one hvb.c1
    have f2 : wb.frozen? ⟨w.heap.size + 1 + 1, 0, none⟩ = false := free_of_one hvb.c2
    have f3 : wb.frozen? ⟨w.heap.size + 1 + 1 + 1, 0, none⟩ = false := free_of_one hvb.c3
    have f4 : wb.frozen? ⟨w.heap.size + 1 + 1 + 1 + 1, 0, none⟩ = false := free_of_one hvb.c4
    clear hvb m1
    go_region
    all_goals (
      go_wp2
      refine leaves_cons (f := 32) (args := #[.pointer (some ⟨w.heap.size + 1, 0, none⟩), .pointer (some ⟨w.heap.size + 2, 0, none⟩), .pointer (some ⟨w.heap.size + 3, 0, none⟩), .pointer (some ⟨w.heap.size + 4, 0, none⟩)]) (by simp) (by simp [go_sem]) ?_
      refine (catch_idle ⟨w.heap.size + 1, 0, none⟩ ⟨w.heap.size + 2, 0, none⟩ ⟨w.heap.size + 3, 0, none⟩ ⟨w.heap.size + 4, 0, none⟩ _).mono ?_
      rintro e u' w2 ⟨rfl, rfl, hw2⟩
      have hw3 : w2 = stored4 w.heap.size 0 ee wb := hw2
      clear hw2
      have hl := last4 HVB.out 0 ee
      rw [← hw3] at hl
      have d1 := hl.1
      have d2 := hl.2.1
      have d3 := hl.2.2.1
      have d4 := hl.2.2.2.1
      have hm := hl.2.2.2.2
      clear hl
      refine ⟨.tuple #[.int .i64 0, .int .i64 ee, .bool false, .int .i64 0], ?_, ?_⟩
      · simp [results, Tryd.results14, go_sem, d1, d2, d3, d4]
      · exact ⟨rfl, went_out HX.out HWENT.out (HM1.out.trans hm)⟩)

set_option maxHeartbeats 1000000 in
set_option maxRecDepth 100000 in
theorem call_8 {X : Nat → Prop} {D M : Nat} {s' : PS} {w : World} (hX : ∀ k, X k → k < w.heap.size) (o : Out) (hz : ∀ n e, o = .told n e → n = 0) (n kp : Int) (A B : ByteArray) (ra : Option Addr) (m rc : Nat)
    (h : Calls Tryd.prog 26 #[.pointer (some ⟨D, 0, none⟩), .int .i64 kp] (inCall (cA 8 n kp A B ra m rc) w) fun e w' => e = o.end1 ∧ Went (own X w) D M s' (inCall (cA 8 n kp A B ra m rc) w) w') :
    Calls Tryd.prog 14 #[.pointer (some ⟨D, 0, none⟩), .agg (cA 8 n kp A B ra m rc)] w fun e w' => e = .returned o.end4 ∧ Went X D M s' w w' := by
  have H := Lib.hid h
  have b0 := inCall_0 (cA 8 n kp A B ra m rc) w
  have a0 : (inCall (cA 8 n kp A B ra m rc) w).cell? ⟨w.heap.size, 0, none⟩ = some (.int .i64 8) := by rw [cell_of_row _ _ _ _ _ _ b0]; rfl
  have a1 : (inCall (cA 8 n kp A B ra m rc) w).cell? ⟨w.heap.size, 1, none⟩ = some (.int .i64 n) := by rw [cell_of_row _ _ _ _ _ _ b0]; rfl
  have a2 : (inCall (cA 8 n kp A B ra m rc) w).cell? ⟨w.heap.size, 2, none⟩ = some (.int .i64 kp) := by rw [cell_of_row _ _ _ _ _ _ b0]; rfl
  have a3 : (inCall (cA 8 n kp A B ra m rc) w).cell? ⟨w.heap.size, 3, none⟩ = some (.string A) := by rw [cell_of_row _ _ _ _ _ _ b0]; rfl
  have a4 : (inCall (cA 8 n kp A B ra m rc) w).cell? ⟨w.heap.size, 4, none⟩ = some (.string B) := by rw [cell_of_row _ _ _ _ _ _ b0]; rfl
  have a5 : (inCall (cA 8 n kp A B ra m rc) w).cell? ⟨w.heap.size, 5, none⟩ = some (.slice ra m rc) := by rw [cell_of_row _ _ _ _ _ _ b0]; rfl
  obtain ⟨w0, hw0⟩ : ∃ w0, w0 = inCall (cA 8 n kp A B ra m rc) w := ⟨_, rfl⟩
  have HW0 := Lib.hid hw0
  rw [← hw0] at H a0 a1 a2 a3 a4 a5
  clear h b0 hw0
  have HZ := Lib.hid hz
  have HX := Lib.hid hX
  clear hz hX
  go_enter_defers Tryd.func14, Tryd.ntmps14
  go_upto_region 1 with (fail)
  change Code.wp _ _ _ _ (inCall (cA 8 n kp A B ra m rc) w)
  rw [← HW0.out]
  go_wp2_with fail
  refine H.out.mono ?_
  rintro e w1 ⟨he, hwent⟩
  have hwent' := hwent
  rw [HW0.out] at hwent'
  have hvars := vars_of hwent'
  have HV := Lib.hid hvars
  have HWENT := Lib.hid hwent'
  have k1 : w1.cell? ⟨w.heap.size + 1, 0, none⟩ = some (.int .i64 0) := cell_of_one hvars.c1
  have k2 : w1.cell? ⟨w.heap.size + 1 + 1, 0, none⟩ = some (.int .i64 0) := cell_of_one hvars.c2
  have k3 : w1.cell? ⟨w.heap.size + 1 + 1 + 1, 0, none⟩ = some (.bool false) := cell_of_one hvars.c3
  have k4 : w1.cell? ⟨w.heap.size + 1 + 1 + 1 + 1, 0, none⟩ = some (.int .i64 0) := cell_of_one hvars.c4
  have f1 : w1.frozen? ⟨w.heap.size + 1, 0, none⟩ = false := free_of_one hvars.c1
  have f2 : w1.frozen? ⟨w.heap.size + 1 + 1, 0, none⟩ = false := free_of_one hvars.c2
  have f3 : w1.frozen? ⟨w.heap.size + 1 + 1 + 1, 0, none⟩ = false := free_of_one hvars.c3
  have f4 : w1.frozen? ⟨w.heap.size + 1 + 1 + 1 + 1, 0, none⟩ = false := free_of_one hvars.c4
  clear hwent hwent' hvars
  cases o with
  | gone op =>
    have he2 : e = goneAt op := he
    clear he
    subst he2
    go_wp2
    refine leaves_cons (f := 32) (args := #[.pointer (some ⟨w.heap.size + 1, 0, none⟩), .pointer (some ⟨w.heap.size + 2, 0, none⟩), .pointer (some ⟨w.heap.size + 3, 0, none⟩), .pointer (some ⟨w.heap.size + 4, 0, none⟩)]) (by simp) (by simp [go_sem]) ?_
    refine (catch_gone w.heap.size op [] _ _ _ _ w1 HV.out.c1 HV.out.c2 HV.out.c3 HV.out.c4).mono ?_
    rintro e u' w2 ⟨rfl, rfl, hc⟩
    have d1 : w2.cell? ⟨w.heap.size + 1, 0, none⟩ = some (.int .i64 0) := cell_of_one hc.c1
    have d2 : w2.cell? ⟨w.heap.size + 1 + 1, 0, none⟩ = some (.int .i64 0) := cell_of_one hc.c2
    have d3 : w2.cell? ⟨w.heap.size + 1 + 1 + 1, 0, none⟩ = some (.bool true) := cell_of_one hc.c3
    have d4 : w2.cell? ⟨w.heap.size + 1 + 1 + 1 + 1, 0, none⟩ = some (.int .i64 op) := cell_of_one hc.c4
    refine ⟨.tuple #[.int .i64 0, .int .i64 0, .bool true, .int .i64 op], ?_, ?_⟩
    · simp [results, Tryd.results14, go_sem, d1, d2, d3, d4]
    · exact ⟨rfl, went_out HX.out HWENT.out (hc.mod.mono (fun t _ ht => by omega))⟩
  | told q ee =>
    have he2 : e = .returned (.int .i64 ee) := he
    clear he
    subst he2
    obtain rfl := HZ.out q ee rfl
    go_wp2_with fail
    obtain ⟨wb, hwb⟩ : ∃ wb : World, wb = w1.setCell ⟨w.heap.size + 1 + 1, 0, none⟩ (.int .i64 ee) := ⟨_, rfl⟩
    rw [← hwb]
    have m1 : Mod (fun k => w.heap.size + 1 ≤ k ∧ k ≤ w.heap.size + 4) w1 wb := by rw [hwb]; exact Mod.setCell (by simp) _
    have hvb : Vars w wb (.int .i64 0) (.int .i64 ee) := vars_second HV.out ee hwb
    clear hwb
    have HVB := Lib.hid hvb
    have HM1 := Lib.hid m1
    have k1 : wb.cell? ⟨w.heap.size + 1, 0, none⟩ = some (.int .i64 0) := cell_of_one hvb.c1
    have k2 : wb.cell? ⟨w.heap.size + 1 + 1, 0, none⟩ = some (.int .i64 ee) := cell_of_one hvb.c2
    have k3 : wb.cell? ⟨w.heap.size + 1 + 1 + 1, 0, none⟩ = some (.bool false) := cell_of_one hvb.c3
    have k4 : wb.cell? ⟨w.heap.size + 1 + 1 + 1 + 1, 0, none⟩ = some (.int .i64 0) := cell_of_one hvb.c4
    have f1 : wb.frozen? ⟨w.heap.size + 1, 0, none⟩ = false := free_of_one hvb.c1
    have f2 : wb.frozen? ⟨w.heap.size + 1 + 1, 0, none⟩ = false := free_of_one hvb.c2
    have f3 : wb.frozen? ⟨w.heap.size + 1 + 1 + 1, 0, none⟩ = false := free_of_one hvb.c3
    have f4 : wb.frozen? ⟨w.heap.size + 1 + 1 + 1 + 1, 0, none⟩ = false := free_of_one hvb.c4
    clear hvb m1
    go_region
    all_goals (
      go_wp2
      refine leaves_cons (f := 32) (args := #[.pointer (some ⟨w.heap.size + 1, 0, none⟩), .pointer (some ⟨w.heap.size + 2, 0, none⟩), .pointer (some ⟨w.heap.size + 3, 0, none⟩), .pointer (some ⟨w.heap.size + 4, 0, none⟩)]) (by simp) (by simp [go_sem]) ?_
      refine (catch_idle ⟨w.heap.size + 1, 0, none⟩ ⟨w.heap.size + 2, 0, none⟩ ⟨w.heap.size + 3, 0, none⟩ ⟨w.heap.size + 4, 0, none⟩ _).mono ?_
      rintro e u' w2 ⟨rfl, rfl, hw2⟩
      have hw3 : w2 = stored4 w.heap.size 0 ee wb := hw2
      clear hw2
      have hl := last4 HVB.out 0 ee
      rw [← hw3] at hl
      have d1 := hl.1
      have d2 := hl.2.1
      have d3 := hl.2.2.1
      have d4 := hl.2.2.2.1
      have hm := hl.2.2.2.2
      clear hl
      refine ⟨.tuple #[.int .i64 0, .int .i64 ee, .bool false, .int .i64 0], ?_, ?_⟩
      · simp [results, Tryd.results14, go_sem, d1, d2, d3, d4]
      · exact ⟨rfl, went_out HX.out HWENT.out (HM1.out.trans hm)⟩)

set_option maxHeartbeats 1000000 in
set_option maxRecDepth 100000 in
theorem call_other {X : Nat → Prop} {D M : Nat} {w : World} (hX : ∀ k, X k → k < w.heap.size) (k n kp : Int) (hk : k < 0 ∨ 8 < k) (A B : ByteArray) (ra : Option Addr) (m rc : Nat) (s' : PS) (h : Lies X D M s' w) :
    Calls Tryd.prog 14 #[.pointer (some ⟨D, 0, none⟩), .agg (cA k n kp A B ra m rc)] w fun e w' => e = .returned (Out.told 0 0).end4 ∧ Went X D M s' w w' := by
  have hk0 : (k == 0) = false := by simp; omega
  have hk1 : (k == 1) = false := by simp; omega
  have hk2 : (k == 2) = false := by simp; omega
  have hk3 : (k == 3) = false := by simp; omega
  have hk4 : (k == 4) = false := by simp; omega
  have hk5 : (k == 5) = false := by simp; omega
  have hk6 : (k == 6) = false := by simp; omega
  have hk7 : (k == 7) = false := by simp; omega
  have hk8 : (k == 8) = false := by simp; omega
  have b0 := inCall_0 (cA k n kp A B ra m rc) w
  have a0 : (inCall (cA k n kp A B ra m rc) w).cell? ⟨w.heap.size, 0, none⟩ = some (.int .i64 k) := by rw [cell_of_row _ _ _ _ _ _ b0]; rfl
  have a1 : (inCall (cA k n kp A B ra m rc) w).cell? ⟨w.heap.size, 1, none⟩ = some (.int .i64 n) := by rw [cell_of_row _ _ _ _ _ _ b0]; rfl
  have a2 : (inCall (cA k n kp A B ra m rc) w).cell? ⟨w.heap.size, 2, none⟩ = some (.int .i64 kp) := by rw [cell_of_row _ _ _ _ _ _ b0]; rfl
  have a3 : (inCall (cA k n kp A B ra m rc) w).cell? ⟨w.heap.size, 3, none⟩ = some (.string A) := by rw [cell_of_row _ _ _ _ _ _ b0]; rfl
  have a4 : (inCall (cA k n kp A B ra m rc) w).cell? ⟨w.heap.size, 4, none⟩ = some (.string B) := by rw [cell_of_row _ _ _ _ _ _ b0]; rfl
  have a5 : (inCall (cA k n kp A B ra m rc) w).cell? ⟨w.heap.size, 5, none⟩ = some (.slice ra m rc) := by rw [cell_of_row _ _ _ _ _ _ b0]; rfl
  obtain ⟨w0, hw0⟩ : ∃ w0, w0 = inCall (cA k n kp A B ra m rc) w := ⟨_, rfl⟩
  have HW0 := Lib.hid hw0
  have hwent : Went (own X w) D M s' (inCall (cA k n kp A B ra m rc) w) (inCall (cA k n kp A B ra m rc) w) := ⟨h.keep (Mod.of_below (inCall_below _ w)) (fun k hk => by
    rcases hk with hk | hk
    · exact .inl hk
    · exact .inr hk.1), Mod.refl _ _⟩
  have hvars := vars_of hwent
  have HV := Lib.hid hvars
  have HWENT := Lib.hid hwent
  rw [← hw0] at HV HWENT a0 a1 a2 a3 a4 a5
  clear h b0 hw0 hwent hvars
  have HX := Lib.hid hX
  clear hX
  go_enter_defers Tryd.func14, Tryd.ntmps14
  go_upto_region 1 with (fail)
  change Code.wp _ _ _ _ (inCall (cA k n kp A B ra m rc) w)
  rw [← HW0.out]
  go_wp2_with fail
  have hvb := HV.out
  have HVB := Lib.hid hvb
  have HM1 := Lib.hid (Mod.refl (fun k => w.heap.size + 1 ≤ k ∧ k ≤ w.heap.size + 4) w0)
  have k1 : w0.cell? ⟨w.heap.size + 1, 0, none⟩ = some (.int .i64 0) := cell_of_one hvb.c1
  have k2 : w0.cell? ⟨w.heap.size + 1 + 1, 0, none⟩ = some (.int .i64 0) := cell_of_one hvb.c2
  have k3 : w0.cell? ⟨w.heap.size + 1 + 1 + 1, 0, none⟩ = some (.bool false) := cell_of_one hvb.c3
  have k4 : w0.cell? ⟨w.heap.size + 1 + 1 + 1 + 1, 0, none⟩ = some (.int .i64 0) := cell_of_one hvb.c4
  have f1 : w0.frozen? ⟨w.heap.size + 1, 0, none⟩ = false := free_of_one hvb.c1
  have f2 : w0.frozen? ⟨w.heap.size + 1 + 1, 0, none⟩ = false := free_of_one hvb.c2
  have f3 : w0.frozen? ⟨w.heap.size + 1 + 1 + 1, 0, none⟩ = false := free_of_one hvb.c3
  have f4 : w0.frozen? ⟨w.heap.size + 1 + 1 + 1 + 1, 0, none⟩ = false := free_of_one hvb.c4
  clear hvb
  go_region
  all_goals (
    go_wp2
    refine leaves_cons (f := 32) (args := #[.pointer (some ⟨w.heap.size + 1, 0, none⟩), .pointer (some ⟨w.heap.size + 2, 0, none⟩), .pointer (some ⟨w.heap.size + 3, 0, none⟩), .pointer (some ⟨w.heap.size + 4, 0, none⟩)]) (by simp) (by simp [go_sem]) ?_
    refine (catch_idle ⟨w.heap.size + 1, 0, none⟩ ⟨w.heap.size + 2, 0, none⟩ ⟨w.heap.size + 3, 0, none⟩ ⟨w.heap.size + 4, 0, none⟩ _).mono ?_
    rintro e u' w2 ⟨rfl, rfl, hw2⟩
    have hw3 : w2 = stored4 w.heap.size 0 0 w0 := hw2
    clear hw2
    have hl := last4 HVB.out 0 0
    rw [← hw3] at hl
    have d1 := hl.1
    have d2 := hl.2.1
    have d3 := hl.2.2.1
    have d4 := hl.2.2.2.1
    have hm := hl.2.2.2.2
    clear hl
    refine ⟨.tuple #[.int .i64 0, .int .i64 0, .bool false, .int .i64 0], ?_, ?_⟩
    · simp [results, Tryd.results14, go_sem, d1, d2, d3, d4]
    · exact ⟨rfl, went_out (cs := cA k n kp A B ra m rc) HX.out (by rw [← HW0.out]; exact HWENT.out) (HM1.out.trans hm)⟩)

end Go.Proofs.YtjbhdidjkdlceaaDoor
