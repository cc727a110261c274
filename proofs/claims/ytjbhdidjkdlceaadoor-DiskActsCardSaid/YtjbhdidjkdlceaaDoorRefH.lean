/- The reference: want; DiskActs, whatever its arguments. -/
import Derived.Test.YtjbhdidjkdlceaaDoorRefE
import Derived.Test.YtjbhdidjkdlceaaDoorRefG

/- want, by its contract: what the document says of a call. -/
namespace Go.Proofs.YtjbhdidjkdlceaaDoor
open Go.RowKit Go.Maps
set_option linter.unusedVariables false

theorem strB_data (A : ByteArray) : strB A.data.toList = A := by
  cases A
  rfl

/-- What is asked ahead of a call. -/
structure Asked (F : Nat → Prop) (R : Nat) (m : RS) (w : World) : Prop where
  ref : Ref F R m w
  fine : Fine m
  count : m.count ≤ 1000
  num : m.L.length ≤ 1000
  sorted : Sorted m.L
  safe : ∀ f ∈ m.L, f.safe ≤ f.b.length
  up : ∀ k, w.heap.size ≤ k → F k

def tupOf (r : Int × Int × Bool) : Value := .tuple #[.int .i64 r.1, .int .i64 r.2.1, .bool r.2.2]

theorem Asked.box {F : Nat → Prop} {R : Nat} {m : RS} {w : World} (h : Asked F R m w) (o : Obj) : Asked F R m (w.alloc o) :=
  ⟨h.ref.below ((Below.refl _ w).alloc (Nat.le_refl _) o), h.fine, h.count, h.num, h.sorted, h.safe, fun k hk => h.up k (by simp at hk; omega)⟩
theorem led_box {F : Nat → Prop} {R : Nat} {m : RS} {o : Obj} {w w' : World} (h : Led F R m (w.alloc o) w') : Led F R m w w' :=
  ⟨h.ref, (Mod.of_below ((Below.refl _ w).alloc (Nat.le_refl _) o)).trans h.mod⟩

set_option maxRecDepth 100000 in
set_option maxHeartbeats 1600000 in
theorem want_0 {F : Nat → Prop} {R : Nat} {m : RS} {w : World} (h : Asked F R m w) (n kp : Int) (A B : ByteArray) (hA : A.size ≤ 9223372036854775807) (ra : Option Addr) (mm rc : Nat) (bs : List UInt8) (hm : bs.length = mm) (hm2 : mm ≤ 100000) (hrc : mm ≤ rc) (hb : BytesAt w ra bs) (hnot : bs ≠ [] → ∀ ad, ra = some ad → ¬ F ad.block) (hnil : ra = none → rc = 0) :
    Calls Tryd.prog 15 #[.pointer (some ⟨R, 0, none⟩), .agg (cA 0 n kp A B ra mm rc)] w fun e w' => e = .returned (tupOf (m.append A.data.toList bs).1) ∧ Led F R (m.append A.data.toList bs).2 w w' := by
  have hbx := h.box (.cells (cA 0 n kp A B ra mm rc) 36)
  have HC := Lib.hid (rappend_law hbx.ref hbx.fine hbx.count hbx.num hbx.sorted hbx.up A.data.toList hA bs mm hm hm2 ra rc hrc (hb.below (Nat.le_refl _) ((Below.refl _ w).alloc (Nat.le_refl _) _)) hnot hnil)
  rw [strB_data] at HC
  obtain ⟨r, hr⟩ : ∃ r, r = m.append A.data.toList bs := ⟨_, rfl⟩
  rw [← hr] at HC ⊢
  obtain ⟨⟨e1, e2, e3⟩, m2⟩ := r
  clear h hb hnot hnil hm hA hr
  have hbb : (w.alloc (.cells (cA 0 n kp A B ra mm rc) 36)).heap[w.heap.size]? = some (.cells (cA 0 n kp A B ra mm rc) 36 (0, 0)) := heap_alloc_new w _
  obtain ⟨wb, hwb⟩ : ∃ y : World, y = w.alloc (.cells (cA 0 n kp A B ra mm rc) 36) := ⟨_, rfl⟩
  have HWB := Lib.hid hwb
  rw [← hwb] at hbb hbx
  have a0 : wb.cell? ⟨w.heap.size, 0, none⟩ = some (.int .i64 0) := by rw [cell_of_row _ _ _ _ _ _ hbb]; rfl
  have a1 : wb.cell? ⟨w.heap.size, 1, none⟩ = some (.int .i64 n) := by rw [cell_of_row _ _ _ _ _ _ hbb]; rfl
  have a2 : wb.cell? ⟨w.heap.size, 2, none⟩ = some (.int .i64 kp) := by rw [cell_of_row _ _ _ _ _ _ hbb]; rfl
  have a3 : wb.cell? ⟨w.heap.size, 3, none⟩ = some (.string A) := by rw [cell_of_row _ _ _ _ _ _ hbb]; rfl
  have a4 : wb.cell? ⟨w.heap.size, 4, none⟩ = some (.string B) := by rw [cell_of_row _ _ _ _ _ _ hbb]; rfl
  have a5 : wb.cell? ⟨w.heap.size, 5, none⟩ = some (.slice ra mm rc) := by rw [cell_of_row _ _ _ _ _ _ hbb]; rfl
  rw [← hwb] at HC
  clear hbb hbx hwb
  go_enter Tryd.func15, Tryd.ntmps15
  go_upto_region 1 with (fail)
  change Code.wp _ _ _ _ (w.alloc (.cells (cA 0 n kp A B ra mm rc) 36))
  rw [← HWB.out]
  go_wp2_with (first
    | (go_at_call 33; refine HC.out.mono ?_; rintro e w2 ⟨rfl, hl⟩; have HL := Lib.hid hl; clear hl))
  go_ret3
  refine ⟨rfl, led_box (o := .cells (cA 0 n kp A B ra mm rc) 36) ?_⟩
  rw [← HWB.out]
  exact HL.out

set_option maxRecDepth 100000 in
set_option maxHeartbeats 1600000 in
theorem want_1 {F : Nat → Prop} {R : Nat} {m : RS} {w : World} (h : Asked F R m w) (n kp : Int) (A B : ByteArray) (ra : Option Addr) (mm rc : Nat) :
    Calls Tryd.prog 15 #[.pointer (some ⟨R, 0, none⟩), .agg (cA 1 n kp A B ra mm rc)] w fun e w' => e = .returned (tupOf (two (m.truncate A.data.toList n)).1) ∧ Led F R (two (m.truncate A.data.toList n)).2 w w' := by
  have hbx := h.box (.cells (cA 1 n kp A B ra mm rc) 36)
  have HC := Lib.hid (rtruncate_law hbx.ref hbx.fine hbx.sorted A.data.toList n)
  rw [strB_data] at HC
  obtain ⟨r, hr⟩ : ∃ r, r = m.truncate A.data.toList n := ⟨_, rfl⟩
  rw [← hr] at HC ⊢
  obtain ⟨⟨e1, e2⟩, m2⟩ := r
  clear h hr
  have hbb : (w.alloc (.cells (cA 1 n kp A B ra mm rc) 36)).heap[w.heap.size]? = some (.cells (cA 1 n kp A B ra mm rc) 36 (0, 0)) := heap_alloc_new w _
  obtain ⟨wb, hwb⟩ : ∃ y : World, y = w.alloc (.cells (cA 1 n kp A B ra mm rc) 36) := ⟨_, rfl⟩
  have HWB := Lib.hid hwb
  rw [← hwb] at hbb hbx
  have a0 : wb.cell? ⟨w.heap.size, 0, none⟩ = some (.int .i64 1) := by rw [cell_of_row _ _ _ _ _ _ hbb]; rfl
  have a1 : wb.cell? ⟨w.heap.size, 1, none⟩ = some (.int .i64 n) := by rw [cell_of_row _ _ _ _ _ _ hbb]; rfl
  have a2 : wb.cell? ⟨w.heap.size, 2, none⟩ = some (.int .i64 kp) := by rw [cell_of_row _ _ _ _ _ _ hbb]; rfl
  have a3 : wb.cell? ⟨w.heap.size, 3, none⟩ = some (.string A) := by rw [cell_of_row _ _ _ _ _ _ hbb]; rfl
  have a4 : wb.cell? ⟨w.heap.size, 4, none⟩ = some (.string B) := by rw [cell_of_row _ _ _ _ _ _ hbb]; rfl
  have a5 : wb.cell? ⟨w.heap.size, 5, none⟩ = some (.slice ra mm rc) := by rw [cell_of_row _ _ _ _ _ _ hbb]; rfl
  rw [← hwb] at HC
  clear hbb hbx hwb
  go_enter Tryd.func15, Tryd.ntmps15
  go_upto_region 1 with (fail)
  change Code.wp _ _ _ _ (w.alloc (.cells (cA 1 n kp A B ra mm rc) 36))
  rw [← HWB.out]
  go_wp2_with (first
    | (go_at_call 34; refine HC.out.mono ?_; rintro e w2 ⟨rfl, hl⟩; have HL := Lib.hid hl; clear hl))
  go_ret3
  refine ⟨rfl, led_box (o := .cells (cA 1 n kp A B ra mm rc) 36) ?_⟩
  rw [← HWB.out]
  exact HL.out

set_option maxRecDepth 100000 in
set_option maxHeartbeats 1600000 in
theorem want_2 {F : Nat → Prop} {R : Nat} {m : RS} {w : World} (h : Asked F R m w) (n kp : Int) (A B : ByteArray) (ra : Option Addr) (mm rc : Nat) :
    Calls Tryd.prog 15 #[.pointer (some ⟨R, 0, none⟩), .agg (cA 2 n kp A B ra mm rc)] w fun e w' => e = .returned (tupOf (two (m.sync A.data.toList)).1) ∧ Led F R (two (m.sync A.data.toList)).2 w w' := by
  have hbx := h.box (.cells (cA 2 n kp A B ra mm rc) 36)
  have HC := Lib.hid (rsync_law hbx.ref hbx.fine hbx.sorted A.data.toList)
  rw [strB_data] at HC
  obtain ⟨r, hr⟩ : ∃ r, r = m.sync A.data.toList := ⟨_, rfl⟩
  rw [← hr] at HC ⊢
  obtain ⟨⟨e1, e2⟩, m2⟩ := r
  clear h hr
  have hbb : (w.alloc (.cells (cA 2 n kp A B ra mm rc) 36)).heap[w.heap.size]? = some (.cells (cA 2 n kp A B ra mm rc) 36 (0, 0)) := heap_alloc_new w _
  obtain ⟨wb, hwb⟩ : ∃ y : World, y = w.alloc (.cells (cA 2 n kp A B ra mm rc) 36) := ⟨_, rfl⟩
  have HWB := Lib.hid hwb
  rw [← hwb] at hbb hbx
  have a0 : wb.cell? ⟨w.heap.size, 0, none⟩ = some (.int .i64 2) := by rw [cell_of_row _ _ _ _ _ _ hbb]; rfl
  have a1 : wb.cell? ⟨w.heap.size, 1, none⟩ = some (.int .i64 n) := by rw [cell_of_row _ _ _ _ _ _ hbb]; rfl
  have a2 : wb.cell? ⟨w.heap.size, 2, none⟩ = some (.int .i64 kp) := by rw [cell_of_row _ _ _ _ _ _ hbb]; rfl
  have a3 : wb.cell? ⟨w.heap.size, 3, none⟩ = some (.string A) := by rw [cell_of_row _ _ _ _ _ _ hbb]; rfl
  have a4 : wb.cell? ⟨w.heap.size, 4, none⟩ = some (.string B) := by rw [cell_of_row _ _ _ _ _ _ hbb]; rfl
  have a5 : wb.cell? ⟨w.heap.size, 5, none⟩ = some (.slice ra mm rc) := by rw [cell_of_row _ _ _ _ _ _ hbb]; rfl
  rw [← hwb] at HC
  clear hbb hbx hwb
  go_enter Tryd.func15, Tryd.ntmps15
  go_upto_region 1 with (fail)
  change Code.wp _ _ _ _ (w.alloc (.cells (cA 2 n kp A B ra mm rc) 36))
  rw [← HWB.out]
  go_wp2_with (first
    | (go_at_call 35; refine HC.out.mono ?_; rintro e w2 ⟨rfl, hl⟩; have HL := Lib.hid hl; clear hl))
  go_ret3
  refine ⟨rfl, led_box (o := .cells (cA 2 n kp A B ra mm rc) 36) ?_⟩
  rw [← HWB.out]
  exact HL.out

set_option maxRecDepth 100000 in
set_option maxHeartbeats 1600000 in
theorem want_3 {F : Nat → Prop} {R : Nat} {m : RS} {w : World} (h : Asked F R m w) (n kp : Int) (A B : ByteArray) (hB : B.size ≤ 9223372036854775807) (ra : Option Addr) (mm rc : Nat) :
    Calls Tryd.prog 15 #[.pointer (some ⟨R, 0, none⟩), .agg (cA 3 n kp A B ra mm rc)] w fun e w' => e = .returned (tupOf (two (m.rename A.data.toList B.data.toList)).1) ∧ Led F R (two (m.rename A.data.toList B.data.toList)).2 w w' := by
  have hbx := h.box (.cells (cA 3 n kp A B ra mm rc) 36)
  have HC := Lib.hid (rrename_law hbx.ref hbx.fine hbx.count hbx.sorted hbx.up A.data.toList B.data.toList hB)
  rw [strB_data, strB_data] at HC
  obtain ⟨r, hr⟩ : ∃ r, r = m.rename A.data.toList B.data.toList := ⟨_, rfl⟩
  rw [← hr] at HC ⊢
  obtain ⟨⟨e1, e2⟩, m2⟩ := r
  clear h hB hr
  have hbb : (w.alloc (.cells (cA 3 n kp A B ra mm rc) 36)).heap[w.heap.size]? = some (.cells (cA 3 n kp A B ra mm rc) 36 (0, 0)) := heap_alloc_new w _
  obtain ⟨wb, hwb⟩ : ∃ y : World, y = w.alloc (.cells (cA 3 n kp A B ra mm rc) 36) := ⟨_, rfl⟩
  have HWB := Lib.hid hwb
  rw [← hwb] at hbb hbx
  have a0 : wb.cell? ⟨w.heap.size, 0, none⟩ = some (.int .i64 3) := by rw [cell_of_row _ _ _ _ _ _ hbb]; rfl
  have a1 : wb.cell? ⟨w.heap.size, 1, none⟩ = some (.int .i64 n) := by rw [cell_of_row _ _ _ _ _ _ hbb]; rfl
  have a2 : wb.cell? ⟨w.heap.size, 2, none⟩ = some (.int .i64 kp) := by rw [cell_of_row _ _ _ _ _ _ hbb]; rfl
  have a3 : wb.cell? ⟨w.heap.size, 3, none⟩ = some (.string A) := by rw [cell_of_row _ _ _ _ _ _ hbb]; rfl
  have a4 : wb.cell? ⟨w.heap.size, 4, none⟩ = some (.string B) := by rw [cell_of_row _ _ _ _ _ _ hbb]; rfl
  have a5 : wb.cell? ⟨w.heap.size, 5, none⟩ = some (.slice ra mm rc) := by rw [cell_of_row _ _ _ _ _ _ hbb]; rfl
  rw [← hwb] at HC
  clear hbb hbx hwb
  go_enter Tryd.func15, Tryd.ntmps15
  go_upto_region 1 with (fail)
  change Code.wp _ _ _ _ (w.alloc (.cells (cA 3 n kp A B ra mm rc) 36))
  rw [← HWB.out]
  go_wp2_with (first
    | (go_at_call 36; refine HC.out.mono ?_; rintro e w2 ⟨rfl, hl⟩; have HL := Lib.hid hl; clear hl))
  go_ret3
  refine ⟨rfl, led_box (o := .cells (cA 3 n kp A B ra mm rc) 36) ?_⟩
  rw [← HWB.out]
  exact HL.out

set_option maxRecDepth 100000 in
set_option maxHeartbeats 1600000 in
theorem want_4 {F : Nat → Prop} {R : Nat} {m : RS} {w : World} (h : Asked F R m w) (n kp : Int) (A B : ByteArray) (ra : Option Addr) (mm rc : Nat) :
    Calls Tryd.prog 15 #[.pointer (some ⟨R, 0, none⟩), .agg (cA 4 n kp A B ra mm rc)] w fun e w' => e = .returned (tupOf (two (m.remove A.data.toList)).1) ∧ Led F R (two (m.remove A.data.toList)).2 w w' := by
  have hbx := h.box (.cells (cA 4 n kp A B ra mm rc) 36)
  have HC := Lib.hid (rremove_law hbx.ref hbx.fine hbx.count hbx.sorted hbx.up A.data.toList)
  rw [strB_data] at HC
  obtain ⟨r, hr⟩ : ∃ r, r = m.remove A.data.toList := ⟨_, rfl⟩
  rw [← hr] at HC ⊢
  obtain ⟨⟨e1, e2⟩, m2⟩ := r
  clear h hr
  have hbb : (w.alloc (.cells (cA 4 n kp A B ra mm rc) 36)).heap[w.heap.size]? = some (.cells (cA 4 n kp A B ra mm rc) 36 (0, 0)) := heap_alloc_new w _
  obtain ⟨wb, hwb⟩ : ∃ y : World, y = w.alloc (.cells (cA 4 n kp A B ra mm rc) 36) := ⟨_, rfl⟩
  have HWB := Lib.hid hwb
  rw [← hwb] at hbb hbx
  have a0 : wb.cell? ⟨w.heap.size, 0, none⟩ = some (.int .i64 4) := by rw [cell_of_row _ _ _ _ _ _ hbb]; rfl
  have a1 : wb.cell? ⟨w.heap.size, 1, none⟩ = some (.int .i64 n) := by rw [cell_of_row _ _ _ _ _ _ hbb]; rfl
  have a2 : wb.cell? ⟨w.heap.size, 2, none⟩ = some (.int .i64 kp) := by rw [cell_of_row _ _ _ _ _ _ hbb]; rfl
  have a3 : wb.cell? ⟨w.heap.size, 3, none⟩ = some (.string A) := by rw [cell_of_row _ _ _ _ _ _ hbb]; rfl
  have a4 : wb.cell? ⟨w.heap.size, 4, none⟩ = some (.string B) := by rw [cell_of_row _ _ _ _ _ _ hbb]; rfl
  have a5 : wb.cell? ⟨w.heap.size, 5, none⟩ = some (.slice ra mm rc) := by rw [cell_of_row _ _ _ _ _ _ hbb]; rfl
  rw [← hwb] at HC
  clear hbb hbx hwb
  go_enter Tryd.func15, Tryd.ntmps15
  go_upto_region 1 with (fail)
  change Code.wp _ _ _ _ (w.alloc (.cells (cA 4 n kp A B ra mm rc) 36))
  rw [← HWB.out]
  go_wp2_with (first
    | (go_at_call 37; refine HC.out.mono ?_; rintro e w2 ⟨rfl, hl⟩; have HL := Lib.hid hl; clear hl))
  go_ret3
  refine ⟨rfl, led_box (o := .cells (cA 4 n kp A B ra mm rc) 36) ?_⟩
  rw [← HWB.out]
  exact HL.out

set_option maxRecDepth 100000 in
set_option maxHeartbeats 1600000 in
theorem want_8 {F : Nat → Prop} {R : Nat} {m : RS} {w : World} (h : Asked F R m w) (n kp : Int) (A B : ByteArray) (ra : Option Addr) (mm rc : Nat) :
    Calls Tryd.prog 15 #[.pointer (some ⟨R, 0, none⟩), .agg (cA 8 n kp A B ra mm rc)] w fun e w' => e = .returned (tupOf (((0, 0, false), m.power kp)).1) ∧ Led F R (((0, 0, false), m.power kp)).2 w w' := by
  have hbx := h.box (.cells (cA 8 n kp A B ra mm rc) 36)
  have HC := Lib.hid (rpower_law hbx.ref hbx.fine hbx.safe kp)
  clear h
  have hbb : (w.alloc (.cells (cA 8 n kp A B ra mm rc) 36)).heap[w.heap.size]? = some (.cells (cA 8 n kp A B ra mm rc) 36 (0, 0)) := heap_alloc_new w _
  obtain ⟨wb, hwb⟩ : ∃ y : World, y = w.alloc (.cells (cA 8 n kp A B ra mm rc) 36) := ⟨_, rfl⟩
  have HWB := Lib.hid hwb
  rw [← hwb] at hbb hbx
  have a0 : wb.cell? ⟨w.heap.size, 0, none⟩ = some (.int .i64 8) := by rw [cell_of_row _ _ _ _ _ _ hbb]; rfl
  have a1 : wb.cell? ⟨w.heap.size, 1, none⟩ = some (.int .i64 n) := by rw [cell_of_row _ _ _ _ _ _ hbb]; rfl
  have a2 : wb.cell? ⟨w.heap.size, 2, none⟩ = some (.int .i64 kp) := by rw [cell_of_row _ _ _ _ _ _ hbb]; rfl
  have a3 : wb.cell? ⟨w.heap.size, 3, none⟩ = some (.string A) := by rw [cell_of_row _ _ _ _ _ _ hbb]; rfl
  have a4 : wb.cell? ⟨w.heap.size, 4, none⟩ = some (.string B) := by rw [cell_of_row _ _ _ _ _ _ hbb]; rfl
  have a5 : wb.cell? ⟨w.heap.size, 5, none⟩ = some (.slice ra mm rc) := by rw [cell_of_row _ _ _ _ _ _ hbb]; rfl
  rw [← hwb] at HC
  clear hbb hbx hwb
  go_enter Tryd.func15, Tryd.ntmps15
  go_upto_region 1 with (fail)
  change Code.wp _ _ _ _ (w.alloc (.cells (cA 8 n kp A B ra mm rc) 36))
  rw [← HWB.out]
  go_wp2_with (first
    | (go_at_call 38; refine HC.out.mono ?_; rintro e w2 ⟨rfl, hl⟩; have HL := Lib.hid hl; clear hl))
  go_ret3
  refine ⟨rfl, led_box (o := .cells (cA 8 n kp A B ra mm rc) 36) ?_⟩
  rw [← HWB.out]
  exact HL.out

set_option maxRecDepth 100000 in
set_option maxHeartbeats 1600000 in
theorem want_5 {F : Nat → Prop} {R : Nat} {m : RS} {w : World} (h : Asked F R m w) (n kp : Int) (A B : ByteArray) (ra : Option Addr) (mm rc : Nat) :
    Calls Tryd.prog 15 #[.pointer (some ⟨R, 0, none⟩), .agg (cA 5 n kp A B ra mm rc)] w fun e w' => e = .returned (tupOf (m.setRoom n).1) ∧ Led F R (m.setRoom n).2 w w' := by
  have hbx := h.box (.cells (cA 5 n kp A B ra mm rc) 36)
  have HR := Lib.hid hbx.ref
  clear h
  have hbb : (w.alloc (.cells (cA 5 n kp A B ra mm rc) 36)).heap[w.heap.size]? = some (.cells (cA 5 n kp A B ra mm rc) 36 (0, 0)) := heap_alloc_new w _
  obtain ⟨wb, hwb⟩ : ∃ y : World, y = w.alloc (.cells (cA 5 n kp A B ra mm rc) 36) := ⟨_, rfl⟩
  have HWB := Lib.hid hwb
  rw [← hwb] at hbb hbx
  have a0 : wb.cell? ⟨w.heap.size, 0, none⟩ = some (.int .i64 5) := by rw [cell_of_row _ _ _ _ _ _ hbb]; rfl
  have a1 : wb.cell? ⟨w.heap.size, 1, none⟩ = some (.int .i64 n) := by rw [cell_of_row _ _ _ _ _ _ hbb]; rfl
  have a2 : wb.cell? ⟨w.heap.size, 2, none⟩ = some (.int .i64 kp) := by rw [cell_of_row _ _ _ _ _ _ hbb]; rfl
  have a3 : wb.cell? ⟨w.heap.size, 3, none⟩ = some (.string A) := by rw [cell_of_row _ _ _ _ _ _ hbb]; rfl
  have a4 : wb.cell? ⟨w.heap.size, 4, none⟩ = some (.string B) := by rw [cell_of_row _ _ _ _ _ _ hbb]; rfl
  have a5 : wb.cell? ⟨w.heap.size, 5, none⟩ = some (.slice ra mm rc) := by rw [cell_of_row _ _ _ _ _ _ hbb]; rfl
  rw [← hwb] at HR
  have hce := HR.out.cells
  have c1 := hce.size
  have c3 := hce.armed
  have c4 := hce.keeping
  have c5 := hce.failing
  have f1 := hce.fr 1
  have f3 := hce.fr 3
  have f4 := hce.fr 4
  have f5 := hce.fr 5
  clear hbb hbx hwb hce
  unfold RS.setRoom
  by_cases hn : n < 0 ∨ 1073741824 < n
  · rw [if_pos hn]
    go_enter Tryd.func15, Tryd.ntmps15
    go_upto_region 1 with (fail)
    change Code.wp _ _ _ _ (w.alloc (.cells (cA 5 n kp A B ra mm rc) 36))
    rw [← HWB.out]
    go_wp2_with fail
    all_goals go_ret3
    all_goals refine ⟨rfl, led_box (o := .cells (cA 5 n kp A B ra mm rc) 36) ?_⟩
    all_goals rw [← HWB.out]
    all_goals exact Led.refl HR.out
  · rw [if_neg hn]
    go_enter Tryd.func15, Tryd.ntmps15
    go_upto_region 1 with (fail)
    change Code.wp _ _ _ _ (w.alloc (.cells (cA 5 n kp A B ra mm rc) 36))
    rw [← HWB.out]
    have hn1 : (n < 0) = False := eq_false (fun e => hn (.inl e))
    have hn2 : ((1073741824 : Int) < n) = False := eq_false (fun e => hn (.inr e))
    go_wp2_with fail
    go_ret3
    refine ⟨rfl, led_box (o := .cells (cA 5 n kp A B ra mm rc) 36) ?_⟩
    rw [← HWB.out]
    exact HR.out.put1 n

set_option maxRecDepth 100000 in
set_option maxHeartbeats 1600000 in
theorem want_6 {F : Nat → Prop} {R : Nat} {m : RS} {w : World} (h : Asked F R m w) (n kp : Int) (A B : ByteArray) (ra : Option Addr) (mm rc : Nat) :
    Calls Tryd.prog 15 #[.pointer (some ⟨R, 0, none⟩), .agg (cA 6 n kp A B ra mm rc)] w fun e w' => e = .returned (tupOf (m.fail n).1) ∧ Led F R (m.fail n).2 w w' := by
  have hbx := h.box (.cells (cA 6 n kp A B ra mm rc) 36)
  have HR := Lib.hid hbx.ref
  clear h
  have hbb : (w.alloc (.cells (cA 6 n kp A B ra mm rc) 36)).heap[w.heap.size]? = some (.cells (cA 6 n kp A B ra mm rc) 36 (0, 0)) := heap_alloc_new w _
  obtain ⟨wb, hwb⟩ : ∃ y : World, y = w.alloc (.cells (cA 6 n kp A B ra mm rc) 36) := ⟨_, rfl⟩
  have HWB := Lib.hid hwb
  rw [← hwb] at hbb hbx
  have a0 : wb.cell? ⟨w.heap.size, 0, none⟩ = some (.int .i64 6) := by rw [cell_of_row _ _ _ _ _ _ hbb]; rfl
  have a1 : wb.cell? ⟨w.heap.size, 1, none⟩ = some (.int .i64 n) := by rw [cell_of_row _ _ _ _ _ _ hbb]; rfl
  have a2 : wb.cell? ⟨w.heap.size, 2, none⟩ = some (.int .i64 kp) := by rw [cell_of_row _ _ _ _ _ _ hbb]; rfl
  have a3 : wb.cell? ⟨w.heap.size, 3, none⟩ = some (.string A) := by rw [cell_of_row _ _ _ _ _ _ hbb]; rfl
  have a4 : wb.cell? ⟨w.heap.size, 4, none⟩ = some (.string B) := by rw [cell_of_row _ _ _ _ _ _ hbb]; rfl
  have a5 : wb.cell? ⟨w.heap.size, 5, none⟩ = some (.slice ra mm rc) := by rw [cell_of_row _ _ _ _ _ _ hbb]; rfl
  rw [← hwb] at HR
  have hce := HR.out.cells
  have c1 := hce.size
  have c3 := hce.armed
  have c4 := hce.keeping
  have c5 := hce.failing
  have f1 := hce.fr 1
  have f3 := hce.fr 3
  have f4 := hce.fr 4
  have f5 := hce.fr 5
  clear hbb hbx hwb hce
  unfold RS.fail
  by_cases hn : n < 1
  · rw [if_pos hn]
    go_enter Tryd.func15, Tryd.ntmps15
    go_upto_region 1 with (fail)
    change Code.wp _ _ _ _ (w.alloc (.cells (cA 6 n kp A B ra mm rc) 36))
    rw [← HWB.out]
    go_wp2_with fail
    all_goals go_ret3
    all_goals refine ⟨rfl, led_box (o := .cells (cA 6 n kp A B ra mm rc) 36) ?_⟩
    all_goals rw [← HWB.out]
    all_goals exact Led.refl HR.out
  · rw [if_neg hn]
    go_enter Tryd.func15, Tryd.ntmps15
    go_upto_region 1 with (fail)
    change Code.wp _ _ _ _ (w.alloc (.cells (cA 6 n kp A B ra mm rc) 36))
    rw [← HWB.out]
    have hn1 : (n < 1) = False := eq_false hn
    go_wp2_with fail
    go_ret3
    refine ⟨rfl, led_box (o := .cells (cA 6 n kp A B ra mm rc) 36) ?_⟩
    rw [← HWB.out]
    exact HR.out.put5 n

set_option maxRecDepth 100000 in
set_option maxHeartbeats 1600000 in
theorem want_7 {F : Nat → Prop} {R : Nat} {m : RS} {w : World} (h : Asked F R m w) (n kp : Int) (A B : ByteArray) (ra : Option Addr) (mm rc : Nat) :
    Calls Tryd.prog 15 #[.pointer (some ⟨R, 0, none⟩), .agg (cA 7 n kp A B ra mm rc)] w fun e w' => e = .returned (tupOf (m.arm n kp).1) ∧ Led F R (m.arm n kp).2 w w' := by
  have hbx := h.box (.cells (cA 7 n kp A B ra mm rc) 36)
  have HR := Lib.hid hbx.ref
  clear h
  have hbb : (w.alloc (.cells (cA 7 n kp A B ra mm rc) 36)).heap[w.heap.size]? = some (.cells (cA 7 n kp A B ra mm rc) 36 (0, 0)) := heap_alloc_new w _
  obtain ⟨wb, hwb⟩ : ∃ y : World, y = w.alloc (.cells (cA 7 n kp A B ra mm rc) 36) := ⟨_, rfl⟩
  have HWB := Lib.hid hwb
  rw [← hwb] at hbb hbx
  have a0 : wb.cell? ⟨w.heap.size, 0, none⟩ = some (.int .i64 7) := by rw [cell_of_row _ _ _ _ _ _ hbb]; rfl
  have a1 : wb.cell? ⟨w.heap.size, 1, none⟩ = some (.int .i64 n) := by rw [cell_of_row _ _ _ _ _ _ hbb]; rfl
  have a2 : wb.cell? ⟨w.heap.size, 2, none⟩ = some (.int .i64 kp) := by rw [cell_of_row _ _ _ _ _ _ hbb]; rfl
  have a3 : wb.cell? ⟨w.heap.size, 3, none⟩ = some (.string A) := by rw [cell_of_row _ _ _ _ _ _ hbb]; rfl
  have a4 : wb.cell? ⟨w.heap.size, 4, none⟩ = some (.string B) := by rw [cell_of_row _ _ _ _ _ _ hbb]; rfl
  have a5 : wb.cell? ⟨w.heap.size, 5, none⟩ = some (.slice ra mm rc) := by rw [cell_of_row _ _ _ _ _ _ hbb]; rfl
  rw [← hwb] at HR
  have hce := HR.out.cells
  have c1 := hce.size
  have c3 := hce.armed
  have c4 := hce.keeping
  have c5 := hce.failing
  have f1 := hce.fr 1
  have f3 := hce.fr 3
  have f4 := hce.fr 4
  have f5 := hce.fr 5
  clear hbb hbx hwb hce
  unfold RS.arm
  by_cases hn : n < 1
  · rw [if_pos hn]
    go_enter Tryd.func15, Tryd.ntmps15
    go_upto_region 1 with (fail)
    change Code.wp _ _ _ _ (w.alloc (.cells (cA 7 n kp A B ra mm rc) 36))
    rw [← HWB.out]
    go_wp2_with fail
    all_goals go_ret3
    all_goals refine ⟨rfl, led_box (o := .cells (cA 7 n kp A B ra mm rc) 36) ?_⟩
    all_goals rw [← HWB.out]
    all_goals exact Led.refl HR.out
  · rw [if_neg hn]
    go_enter Tryd.func15, Tryd.ntmps15
    go_upto_region 1 with (fail)
    change Code.wp _ _ _ _ (w.alloc (.cells (cA 7 n kp A B ra mm rc) 36))
    rw [← HWB.out]
    have hn1 : (n < 1) = False := eq_false hn
    go_wp2_with fail
    go_region
    go_wp2_with fail
    go_ret3
    refine ⟨rfl, led_box (o := .cells (cA 7 n kp A B ra mm rc) 36) ?_⟩
    rw [← HWB.out]
    have h3 := HR.out.put3 n
    exact (h3.trans (h3.ref.put4 kp)).drew

set_option maxRecDepth 100000 in
set_option maxHeartbeats 1600000 in
theorem want_other {F : Nat → Prop} {R : Nat} {m : RS} {w : World} (h : Asked F R m w) (k : Int) (hk : k < 0 ∨ 8 < k) (n kp : Int) (A B : ByteArray) (ra : Option Addr) (mm rc : Nat) :
    Calls Tryd.prog 15 #[.pointer (some ⟨R, 0, none⟩), .agg (cA k n kp A B ra mm rc)] w fun e w' => e = .returned (tupOf (((0, 0, false), m)).1) ∧ Led F R (((0, 0, false), m)).2 w w' := by
  have hbx := h.box (.cells (cA k n kp A B ra mm rc) 36)
  have HR := Lib.hid hbx.ref
  clear h
  have hk0 : (k == 0) = false := by simp; omega
  have hk1 : (k == 1) = false := by simp; omega
  have hk2 : (k == 2) = false := by simp; omega
  have hk3 : (k == 3) = false := by simp; omega
  have hk4 : (k == 4) = false := by simp; omega
  have hk5 : (k == 5) = false := by simp; omega
  have hk6 : (k == 6) = false := by simp; omega
  have hk7 : (k == 7) = false := by simp; omega
  have hk8 : (k == 8) = false := by simp; omega
  have hbb : (w.alloc (.cells (cA k n kp A B ra mm rc) 36)).heap[w.heap.size]? = some (.cells (cA k n kp A B ra mm rc) 36 (0, 0)) := heap_alloc_new w _
  obtain ⟨wb, hwb⟩ : ∃ y : World, y = w.alloc (.cells (cA k n kp A B ra mm rc) 36) := ⟨_, rfl⟩
  have HWB := Lib.hid hwb
  rw [← hwb] at hbb hbx
  have a0 : wb.cell? ⟨w.heap.size, 0, none⟩ = some (.int .i64 k) := by rw [cell_of_row _ _ _ _ _ _ hbb]; rfl
  have a1 : wb.cell? ⟨w.heap.size, 1, none⟩ = some (.int .i64 n) := by rw [cell_of_row _ _ _ _ _ _ hbb]; rfl
  have a2 : wb.cell? ⟨w.heap.size, 2, none⟩ = some (.int .i64 kp) := by rw [cell_of_row _ _ _ _ _ _ hbb]; rfl
  have a3 : wb.cell? ⟨w.heap.size, 3, none⟩ = some (.string A) := by rw [cell_of_row _ _ _ _ _ _ hbb]; rfl
  have a4 : wb.cell? ⟨w.heap.size, 4, none⟩ = some (.string B) := by rw [cell_of_row _ _ _ _ _ _ hbb]; rfl
  have a5 : wb.cell? ⟨w.heap.size, 5, none⟩ = some (.slice ra mm rc) := by rw [cell_of_row _ _ _ _ _ _ hbb]; rfl
  rw [← hwb] at HR
  clear hbb hbx hwb
  go_enter Tryd.func15, Tryd.ntmps15
  go_upto_region 1 with (fail)
  change Code.wp _ _ _ _ (w.alloc (.cells (cA k n kp A B ra mm rc) 36))
  rw [← HWB.out]
  go_wp2_with fail
  go_ret3
  refine ⟨rfl, led_box (o := .cells (cA k n kp A B ra mm rc) 36) ?_⟩
  rw [← HWB.out]
  exact Led.refl HR.out

/-- Of any act. -/
theorem want_law {F : Nat → Prop} {R : Nat} {m : RS} {w : World} (h : Asked F R m w) (k n kp : Int) (A B : ByteArray) (hA : A.size ≤ 9223372036854775807) (hB : B.size ≤ 9223372036854775807) (ra : Option Addr) (mm rc : Nat) (bs : List UInt8) (hm : bs.length = mm) (hm2 : mm ≤ 100000) (hrc : mm ≤ rc) (hb : BytesAt w ra bs) (hnot : bs ≠ [] → ∀ ad, ra = some ad → ¬ F ad.block) (hnil : ra = none → rc = 0) :
    Calls Tryd.prog 15 #[.pointer (some ⟨R, 0, none⟩), .agg (cA k n kp A B ra mm rc)] w fun e w' => e = .returned (tupOf (m.act (paOf k n kp A B bs)).1) ∧ Led F R (m.act (paOf k n kp A B bs)).2 w w' := by
  by_cases h0 : k = 0
  · subst h0
    exact want_0 h n kp A B hA ra mm rc bs hm hm2 hrc hb hnot hnil
  by_cases h1 : k = 1
  · subst h1
    exact want_1 h n kp A B ra mm rc
  by_cases h2 : k = 2
  · subst h2
    exact want_2 h n kp A B ra mm rc
  by_cases h3 : k = 3
  · subst h3
    exact want_3 h n kp A B hB ra mm rc
  by_cases h4 : k = 4
  · subst h4
    exact want_4 h n kp A B ra mm rc
  by_cases h5 : k = 5
  · subst h5
    exact want_5 h n kp A B ra mm rc
  by_cases h6 : k = 6
  · subst h6
    exact want_6 h n kp A B ra mm rc
  by_cases h7 : k = 7
  · subst h7
    exact want_7 h n kp A B ra mm rc
  by_cases h8 : k = 8
  · subst h8
    exact want_8 h n kp A B ra mm rc
  have e1 : m.act (paOf k n kp A B bs) = ((0, 0, false), m) := by
    unfold RS.act paOf
    simp only [h0, h1, h2, h3, h4, h5, h6, h7, h8, if_false]
  rw [e1]
  exact want_other h k (by omega) n kp A B ra mm rc

end Go.Proofs.YtjbhdidjkdlceaaDoor

/- The disk and the document's, side by side in memory: what a call, what the document's answer to it, and the comparison leave. -/
namespace Go.Proofs.YtjbhdidjkdlceaaDoor
open Go.RowKit Go.Maps
set_option linter.unusedVariables false

/-- Ahead of act j. F: the document's blocks. -/
structure Both (w3 : World) (R : Nat) (xs : List AV) (j : Nat) (s : PS) (m : RS) (w : World) : Prop where
  ex : ∃ F : Nat → Prop, (∀ k, F k → w3.heap.size ≤ k ∧ k < w.heap.size) ∧ Lies (fun k => k < w3.heap.size ∨ F k) (w3.heap.size + 1) w3.heap.size s w ∧ Ref F R m w
  ok : Ok j (tk xs j) s
  sim : Sim j s m
  below : Below w3.heap.size w3 w

theorem Both.more {w3 : World} {R : Nat} {xs : List AV} {j : Nat} {s : PS} {m : RS} {w w' : World} (h : Both w3 R xs j s m w) (k : Below w.heap.size w w') : Both w3 R xs j s m w' := by
  obtain ⟨F, h1, h2, h3⟩ := h.ex
  exact ⟨⟨F, fun t ht => ⟨(h1 t ht).1, Nat.lt_of_lt_of_le (h1 t ht).2 k.size⟩, h2.below k, h3.below k⟩, h.ok, h.sim, h.below.trans (k.mono h.below.size)⟩

/-- Behind the disk's call, ahead of the document's. B: the act's box. -/
structure Half2 (w3 : World) (R : Nat) (xs : List AV) (j B : Nat) (x : AV) (s : PS) (m : RS) (w : World) : Prop where
  ex : ∃ F : Nat → Prop, (∀ k, F k → w3.heap.size ≤ k ∧ k < w.heap.size) ∧ Lies (fun k => k < w3.heap.size ∨ F k) (w3.heap.size + 1) w3.heap.size (s.act x.pa).2 w ∧ Ref F R m w
  ok : Ok j (tk xs j) s
  ok' : Ok (j + 1) (tk xs (j + 1)) (s.act x.pa).2
  sim : Sim j s m
  below : Below w3.heap.size w3 w
  box : w.heap[B]? = some (.cells x.cs 36 (0, 0))

theorem Both.call {W w1 wr wa : World} {R : Nat} {a : Option Addr} {xs : List AV} {j : Nat} {s : PS} {m : RS} {x : AV} (h : Both w1 R xs j s m wr) (f : Few W w1 a xs) (hx : xs[j]? = some x) (hwa : wa = wr.alloc (.cells x.cs 36)) :
    Calls Tryd.prog 14 #[.pointer (some ⟨w1.heap.size + 1, 0, none⟩), .agg x.cs] wa fun e w' => e = .returned (s.act x.pa).1.end4 ∧ Half2 w1 R xs j wr.heap.size x s m w' := by
  obtain ⟨b, o, _, _, hfit⟩ := f.acts.cells j x hx
  have hok : Ok (j + 1) (tk xs (j + 1)) (s.act x.pa).2 := by
    rw [tk_succ hx]
    exact h.ok.act x.pa hfit.n
  have hb := f.bytes_of hx
  have hj : j < xs.length := (List.getElem?_eq_some_iff.1 hx).1
  have h200 := f.few
  obtain ⟨F, h1, h2, h3⟩ := h.ex
  have hbel : Below wr.heap.size wr wa := by rw [hwa]; exact (Below.refl _ _).alloc (Nat.le_refl _) _
  have hsz : wa.heap.size = wr.heap.size + 1 := by rw [hwa]; simp
  have hbox : wa.heap[wr.heap.size]? = some (.cells x.cs 36 (0, 0)) := by rw [hwa]; exact heap_alloc_new _ _
  have hs := h.below.size
  have hr : Room (fun k => (k < w1.heap.size ∨ F k) ∨ k = wr.heap.size) (w1.heap.size + 1) w1.heap.size s wa := by
    refine ⟨h2.keep (Mod.of_below hbel) (fun k hk => ?_), h.ok.mono (by omega) (by omega), fun k hk => ?_⟩
    · rcases hk with hk | hk
      · exact .inl hk
      · exact .inr (Nat.le_of_eq hk.symm)
    · rcases hk with (hk | hk) | hk
      · omega
      · have := (h1 k hk).2
        omega
      · omega
  have hba : BytesAt wa x.ra x.bs := hfit.bytes.below (Nat.le_refl _) (f.below.trans ((h.below.trans (hbel.mono hs)).mono f.below.size))
  refine (call_law hr x.k x.n x.kp x.A x.B hfit.a hfit.b x.bs x.bs.length rfl (by omega) x.ra x.rc hfit.cap hba (fun hne ad had => .inl (.inl (Nat.lt_of_lt_of_le (hfit.bytes.old hne ad had) f.below.size))) hfit.nil).mono ?_
  rintro e w' ⟨rfl, hw⟩
  have hws := hw.mod.size
  refine ⟨rfl, ⟨⟨F, fun k hk => ⟨(h1 k hk).1, by have := (h1 k hk).2; omega⟩, hw.lies.mono (fun k hk => .inl hk), (h3.below hbel).keep hw.mod (fun k hk _ hn => hn (.inl (.inr hk)))⟩, h.ok, hok, h.sim, ?_, hw.mod.keep hbox (fun hn => hn (.inr rfl))⟩⟩
  exact (h.below.trans (hbel.mono hs)).trans (hw.mod.below (fun k hk => Nat.le_of_not_lt (fun hlt => hk (.inl (.inl hlt)))) (by omega))

theorem Half2.want {W w1 w : World} {R : Nat} {a : Option Addr} {xs : List AV} {j B : Nat} {s : PS} {m : RS} {x : AV} (h : Half2 w1 R xs j B x s m w) (f : Few W w1 a xs) (hx : xs[j]? = some x) :
    Calls Tryd.prog 15 #[.pointer (some ⟨R, 0, none⟩), .agg x.cs] w fun e w' => e = .returned (tupOf (m.act x.pa).1) ∧ Both w1 R xs (j + 1) (s.act x.pa).2 (m.act x.pa).2 w' := by
  obtain ⟨b, o, _, _, hfit⟩ := f.acts.cells j x hx
  have hb := f.bytes_of hx
  have hj : j < xs.length := (List.getElem?_eq_some_iff.1 hx).1
  have h200 := f.few
  obtain ⟨F, h1, h2, h3⟩ := h.ex
  have hs := h.below.size
  have hask : Asked (fun k => F k ∨ w.heap.size ≤ k) R m w := by
    refine ⟨h3.mono (fun k hk _ => .inl hk), h.sim.fine h.ok (by omega) (by omega), ?_, ?_, ?_, ?_, fun k hk => .inr hk⟩
    · rw [h.sim.count]
      have := h.ok.ops
      omega
    · rw [h.sim.L]
      have := h.ok.num
      omega
    · rw [h.sim.L]
      exact h.ok.sorted
    · rw [h.sim.L]
      exact h.ok.safe
  have hba : BytesAt w x.ra x.bs := hfit.bytes.below (Nat.le_refl _) (f.below.trans (h.below.mono f.below.size))
  have hWs := f.below.size
  refine (want_law hask x.k x.n x.kp x.A x.B hfit.a hfit.b x.ra x.bs.length x.rc x.bs rfl (by omega) hfit.cap hba (fun hne ad had hF => ?_) hfit.nil).mono ?_
  · have h5 := hfit.bytes.old hne ad had
    rcases hF with hF | hF
    · have := (h1 _ hF).1
      omega
    · omega
  · rintro e w' ⟨rfl, hl⟩
    have hsz := hl.mod.size
    refine ⟨rfl, ⟨⟨fun k => (F k ∨ w.heap.size ≤ k) ∧ k < w'.heap.size, fun k hk => ⟨?_, hk.2⟩, h2.keep (hl.mod.mono (fun k hk hF => ?_)) (fun k hk => ?_), hl.ref.mono (fun k hk hlt => ⟨hk, hlt⟩)⟩, h.ok', (sim_act h.sim (by omega) h.ok x.pa hfit.n).sim, ?_⟩⟩
    · rcases hk.1 with h5 | h5
      · exact (h1 k h5).1
      · omega
    · rcases hF with h5 | h5
      · exact .inr h5
      · omega
    · rcases hk with h5 | h5
      · exact .inl (.inl h5)
      · rcases h5.1 with h6 | h6
        · exact .inl (.inr h6)
        · exact .inr h6
    · exact h.below.trans (hl.mod.below (fun k hk => by
        rcases hk with h5 | h5
        · exact (h1 k h5).1
        · omega) hs)

theorem Both.same {w3 w : World} {R : Nat} {xs : List AV} {j : Nat} {s : PS} {m : RS} (h : Both w3 R xs j s m w) (hj : j ≤ 1000) (ht : tk xs j ≤ 5000) :
    Calls Tryd.prog 16 #[.pointer (some ⟨w3.heap.size + 1, 0, none⟩), .pointer (some ⟨R, 0, none⟩)] w fun e w' => e = .returned (.bool true) ∧ Both w3 R xs j s m w' := by
  obtain ⟨F, h1, h2, h3⟩ := h.ex
  have hs := h.below.size
  have hr : Room (fun k => k < w3.heap.size ∨ F k) (w3.heap.size + 1) w3.heap.size s w := ⟨h2, h.ok.mono (by omega) (by omega), fun k hk => by
    rcases hk with hk | hk
    · omega
    · exact (h1 k hk).2⟩
  refine (same_law hr (h3.as h.sim.mirror) h.sim.armed).mono ?_
  rintro e w' ⟨rfl, hb⟩
  exact ⟨rfl, h.more hb⟩

/-- How many changes the document counts. -/
theorem Both.count {w3 w : World} {R : Nat} {xs : List AV} {j : Nat} {s : PS} {m : RS} (h : Both w3 R xs j s m w) : w.cell? ⟨R, 2, none⟩ = some (.int .i64 m.count) := by
  obtain ⟨F, h1, h2, h3⟩ := h.ex
  exact h3.cells.count

/-- The act's cells, ahead of it. -/
theorem Both.cells {W w1 w : World} {R : Nat} {a : Option Addr} {xs : List AV} {j : Nat} {s : PS} {m : RS} {x : AV} (h : Both w1 R xs j s m w) (f : Few W w1 a xs) (hx : xs[j]? = some x) : ∃ b o, a = some ⟨b, o, none⟩ ∧
    w.cell? ⟨b, o + j * 6, none⟩ = some (.int .i64 x.k) ∧ w.cell? ⟨b, o + j * 6 + 1, none⟩ = some (.int .i64 x.n) ∧ w.cell? ⟨b, o + j * 6 + 2, none⟩ = some (.int .i64 x.kp) ∧
    w.cell? ⟨b, o + j * 6 + 3, none⟩ = some (.string x.A) ∧ w.cell? ⟨b, o + j * 6 + 4, none⟩ = some (.string x.B) ∧ w.cell? ⟨b, o + j * 6 + 5, none⟩ = some (.slice x.ra x.bs.length x.rc) := by
  have hbel : Below W.heap.size W w := f.below.trans (h.below.mono f.below.size)
  obtain ⟨b, o, rfl, hr, _⟩ := (f.acts.keep (Mod.of_below (S := fun _ => False) hbel) (fun _ _ => id)).cells j x hx
  exact ⟨b, o, rfl, act6 hr⟩

/-- The document's disk is new. -/
theorem both_new {w3 w4 : World} {n : Int} (h : At w3 (newS n) w4) (h1 : 0 ≤ n) (h2 : n ≤ 1073741824) (xs : List AV) :
    Both w3 w4.heap.size xs 0 (newS n) (mirror (newS n) 0) (w4.alloc (.cells #[.slice none 0 0, .int .i64 n, .int .i64 0, .int .i64 0, .int .i64 0, .int .i64 0] 33)) := by
  have hbel : Below w4.heap.size w4 (w4.alloc (.cells #[.slice none 0 0, .int .i64 n, .int .i64 0, .int .i64 0, .int .i64 0, .int .i64 0] 33)) := (Below.refl _ _).alloc (Nat.le_refl _) _
  have hs := h.below.size
  refine ⟨⟨fun k => k = w4.heap.size, fun k hk => ⟨by omega, by rw [hk]; simp⟩, h.room.lies.keep (Mod.of_below hbel) (fun k hk => hk.imp id (fun e => Nat.le_of_eq e.symm)), ⟨[], .slice none 0 0, rfl, ?_⟩⟩, newS_ok h1 h2, ⟨rfl, rfl, rfl, rfl, rfl, .inl ⟨rfl, Int.le_refl 0⟩, ⟨Int.le_refl 0, (by decide : (0 : Int) ≤ 9223372036854775807)⟩⟩, h.below.trans (hbel.mono hs)⟩
  exact ⟨heap_alloc_new _ _, World.ownsRow_nil _ _ _ _, (fun f hf => by cases hf), rfl, (fun k hk => by cases hk), (fun f hf => by cases hf)⟩

end Go.Proofs.YtjbhdidjkdlceaaDoor

/- DiskActs, whatever its arguments. -/
namespace Go.Proofs.YtjbhdidjkdlceaaDoor
open Go.RowKit Go.Maps
set_option linter.unusedVariables false

set_option maxRecDepth 100000 in
set_option maxHeartbeats 6000000 in
theorem diskActs_any {W : World} (n0 : Int) (a : Option Addr) (len cap : Nat) (xs : List AV) (hlen : xs.length = len) (hl : len ≤ 140737488355328) (hacts : ActsAt W a xs) :
    Calls Tryd.prog 3 #[.int .i64 n0, .slice a len cap] W fun e w' => e = .returned (.bool true) ∧ Below W.heap.size W w' := by
  obtain ⟨r1, r2⟩ := roomOf_fits n0
  have HACTS := Lib.hid hacts
  have HLEN := Lib.hid hlen
  clear hacts hlen
  go_enter Tryd.func3, Tryd.ntmps3
  go_wp2_with (first
    | (go_at_call 10; refine (alive_any _).mono ?_; rintro e w1 ⟨rfl, hb1⟩; have HB1 := Lib.hid hb1; clear hb1)
    | fail)
  refine (great_any xs len HLEN.out hl a cap w1 (HACTS.out.keep (Mod.of_below (S := fun _ => False) HB1.out) (fun _ _ => id))).mono ?_
  rintro e w2 ⟨hb2, r, rfl, hgr⟩
  have HB2 : Hid (Below W.heap.size W w2) := Lib.hid (HB1.out.trans (hb2.mono HB1.out.size))
  have HGR := Lib.hid hgr
  clear hb2 hgr HB1
  cases r with
  | true =>
    go_wp2_with (first
      | (go_at_call 10; refine (alive_any _).mono ?_; rintro e w3 ⟨rfl, hb3⟩; have HB3 := Lib.hid hb3; clear hb3)
      | fail)
    go_ret
    exact ⟨by simp, HB2.out.trans (HB3.out.mono HB2.out.size)⟩
  | false =>
    obtain ⟨hfew, hbytes⟩ := HGR.out rfl
    have HF : Hid (Few W w2 a xs) := Lib.hid ⟨HACTS.out, HB2.out, hfew, hbytes⟩
    have hlen200 : len ≤ 200 := by rw [← HLEN.out]; exact hfew
    clear hfew hbytes HGR HACTS
    go_wp2_with (first
      | (go_at_call 13; refine (room_of _ _).mono ?_; rintro e w3 ⟨rfl, rfl⟩)
      | fail)
    refine (at_new (roomOf n0) r1 r2 _).mono ?_
    rintro e w4 ⟨rfl, hat⟩
    have HB0 := Lib.hid (both_new hat r1 r2 xs)
    clear hat
    go_upto_region 7 with (first
      | (go_at_call 13; refine (room_of _ _).mono ?_; rintro e w5 ⟨rfl, rfl⟩)
      | fail)
    obtain ⟨R, hR⟩ : ∃ R : Nat, R = w5.heap.size := ⟨_, rfl⟩
    obtain ⟨w6, hw6⟩ : ∃ y : World, y = w5.alloc (.cells #[.slice none 0 0, .int .i64 (roomOf n0), .int .i64 0, .int .i64 0, .int .i64 0, .int .i64 0] 33) := ⟨_, rfl⟩
    rw [← hw6, ← hR] at HB0 ⊢
    clear hw6 hR
    go_wp2_with fail
    go_loopw [42] (fun i wr => ∃ j : Nat, ∃ s : PS, ∃ m : RS, j ≤ len ∧ i = .int .i64 j ∧ Both w3 R xs j s m wr) (fun i _ => len - (intOf i).toNat)
    case atStart => exact ⟨0, _, _, Nat.zero_le _, rfl, HB0.out⟩
    case round =>
      obtain ⟨j, s, m, hj, rfl, hah⟩ := hrel
      have HAH := Lib.hid hah
      clear hah
      by_cases hlt : j < len
      · obtain ⟨x, hx⟩ : ∃ x, xs[j]? = some x := ⟨xs[j]'(by rw [HLEN.out]; exact hlt), List.getElem?_eq_getElem _⟩
        obtain ⟨b1, o1, rfl, q0, q1, q2, q3, q4, q5⟩ := HAH.out.cells HF.out hx
        obtain ⟨wa, hwa⟩ : ∃ wa : World, wa = wr.alloc (.cells #[.int .i64 x.k, .int .i64 x.n, .int .i64 x.kp, .string x.A, .string x.B, .slice x.ra x.bs.length x.rc] 36) := ⟨_, rfl⟩
        have hbox : wa.heap[wr.heap.size]? = some (.cells x.cs 36 (0, 0)) := by rw [hwa]; exact heap_alloc_new _ _
        have p0 : wa.cell? ⟨wr.heap.size, 0, none⟩ = some (.int .i64 x.k) := by rw [cell_of_row _ _ _ _ _ _ hbox]; rfl
        have p1 : wa.cell? ⟨wr.heap.size, 1, none⟩ = some (.int .i64 x.n) := by rw [cell_of_row _ _ _ _ _ _ hbox]; rfl
        have p2 : wa.cell? ⟨wr.heap.size, 2, none⟩ = some (.int .i64 x.kp) := by rw [cell_of_row _ _ _ _ _ _ hbox]; rfl
        have p3 : wa.cell? ⟨wr.heap.size, 3, none⟩ = some (.string x.A) := by rw [cell_of_row _ _ _ _ _ _ hbox]; rfl
        have p4 : wa.cell? ⟨wr.heap.size, 4, none⟩ = some (.string x.B) := by rw [cell_of_row _ _ _ _ _ _ hbox]; rfl
        have p5 : wa.cell? ⟨wr.heap.size, 5, none⟩ = some (.slice x.ra x.bs.length x.rc) := by rw [cell_of_row _ _ _ _ _ _ hbox]; rfl
        have HCL := Lib.hid (HAH.out.call HF.out hx hwa)
        have HX := Lib.hid hx
        have HWA := Lib.hid hwa
        have hfit : x.Fits W := by
          obtain ⟨_, _, _, _, h⟩ := HF.out.acts.cells j x hx
          exact h
        have hag := (sim_act HAH.out.sim (by omega) HAH.out.ok x.pa hfit.n).out
        have hj1 : j + 1 ≤ 1000 := by omega
        have htk1 : tk xs (j + 1) ≤ 5000 := by rw [tk_succ hx]; exact HF.out.bytes_of hx
        clear hbox hwa hx hfit
        go_upto_region 10 with (fail)
        rw [← HWA.out]
        rcases hag with ⟨n1, e1, ho, hr⟩ | ⟨op, ho, hr, hop⟩
        · have hcl : Calls Tryd.prog 14 #[.pointer (some ⟨w3.heap.size + 1, 0, none⟩), .agg x.cs] wa fun e w' => e = .returned (.tuple #[.int .i64 n1, .int .i64 e1, .bool false, .int .i64 0]) ∧ Half2 w3 R xs j wr.heap.size x s m w' := by
            have := HCL.out
            rw [ho] at this
            exact this
          have hwt : ∀ w', Half2 w3 R xs j wr.heap.size x s m w' → Calls Tryd.prog 15 #[.pointer (some ⟨R, 0, none⟩), .agg x.cs] w' fun e w'' => e = .returned (.tuple #[.int .i64 n1, .int .i64 e1, .bool false]) ∧ Both w3 R xs (j + 1) (s.act x.pa).2 (m.act x.pa).2 w'' := fun w' h => by
            have := h.want HF.out HX.out
            rw [hr] at this
            exact this
          have HC1 := Lib.hid hcl
          have HC2 := Lib.hid hwt
          clear hcl hwt
          clear ho hr
          go_wp2_with (first
            | (go_at_call 14; refine HC1.out.mono ?_; rintro e w7 ⟨rfl, hh7⟩; have HH7 := Lib.hid hh7; have hb7 := hh7.box; have z0 : w7.cell? ⟨wr.heap.size, 0, none⟩ = some (.int .i64 x.k) := (by rw [cell_of_row _ _ _ _ _ _ hb7]; rfl); have z1 : w7.cell? ⟨wr.heap.size, 1, none⟩ = some (.int .i64 x.n) := (by rw [cell_of_row _ _ _ _ _ _ hb7]; rfl); have z2 : w7.cell? ⟨wr.heap.size, 2, none⟩ = some (.int .i64 x.kp) := (by rw [cell_of_row _ _ _ _ _ _ hb7]; rfl); have z3 : w7.cell? ⟨wr.heap.size, 3, none⟩ = some (.string x.A) := (by rw [cell_of_row _ _ _ _ _ _ hb7]; rfl); have z4 : w7.cell? ⟨wr.heap.size, 4, none⟩ = some (.string x.B) := (by rw [cell_of_row _ _ _ _ _ _ hb7]; rfl); have z5 : w7.cell? ⟨wr.heap.size, 5, none⟩ = some (.slice x.ra x.bs.length x.rc) := (by rw [cell_of_row _ _ _ _ _ _ hb7]; rfl); clear hh7 hb7)
            | (go_at_call 15; refine (HC2.out _ HH7.out).mono ?_; rintro e w8 ⟨rfl, hb8⟩; have HB8 := Lib.hid hb8; clear hb8)
            | (go_at_call 16; refine (HB8.out.same hj1 htk1).mono ?_; rintro e w9 ⟨rfl, hb9⟩; have HB9 := Lib.hid hb9; clear hb9))
          go_roundw
          case rel => exact ⟨j + 1, _, _, by omega, by go_num, HB9.out⟩
          case measure => simp [intOf]; omega
        · obtain ⟨⟨i1, g1, b1⟩, hr2⟩ : ∃ r, (m.act x.pa).1 = r := ⟨_, rfl⟩
          rw [hr2] at hr
          have hr : b1 = true := hr
          subst hr
          have hcl : Calls Tryd.prog 14 #[.pointer (some ⟨w3.heap.size + 1, 0, none⟩), .agg x.cs] wa fun e w' => e = .returned (.tuple #[.int .i64 0, .int .i64 0, .bool true, .int .i64 op]) ∧ Half2 w3 R xs j wr.heap.size x s m w' := by
            have := HCL.out
            rw [ho] at this
            exact this
          have hwt : ∀ w', Half2 w3 R xs j wr.heap.size x s m w' → Calls Tryd.prog 15 #[.pointer (some ⟨R, 0, none⟩), .agg x.cs] w' fun e w'' => e = .returned (.tuple #[.int .i64 i1, .int .i64 g1, .bool true]) ∧ Both w3 R xs (j + 1) (s.act x.pa).2 (m.act x.pa).2 w'' := fun w' h => by
            have := h.want HF.out HX.out
            rw [hr2] at this
            exact this
          have hcn : ∀ w', Both w3 R xs (j + 1) (s.act x.pa).2 (m.act x.pa).2 w' → w'.cell? ⟨R, 2, none⟩ = some (.int .i64 op) := fun w' h => by
            rw [hop]
            exact h.count
          have HCN := Lib.hid hcn
          clear hop hcn hr2
          have HC1 := Lib.hid hcl
          have HC2 := Lib.hid hwt
          clear hcl hwt
          clear ho
          go_wp2_with (first
            | (go_at_call 14; refine HC1.out.mono ?_; rintro e w7 ⟨rfl, hh7⟩; have HH7 := Lib.hid hh7; have hb7 := hh7.box; have z0 : w7.cell? ⟨wr.heap.size, 0, none⟩ = some (.int .i64 x.k) := (by rw [cell_of_row _ _ _ _ _ _ hb7]; rfl); have z1 : w7.cell? ⟨wr.heap.size, 1, none⟩ = some (.int .i64 x.n) := (by rw [cell_of_row _ _ _ _ _ _ hb7]; rfl); have z2 : w7.cell? ⟨wr.heap.size, 2, none⟩ = some (.int .i64 x.kp) := (by rw [cell_of_row _ _ _ _ _ _ hb7]; rfl); have z3 : w7.cell? ⟨wr.heap.size, 3, none⟩ = some (.string x.A) := (by rw [cell_of_row _ _ _ _ _ _ hb7]; rfl); have z4 : w7.cell? ⟨wr.heap.size, 4, none⟩ = some (.string x.B) := (by rw [cell_of_row _ _ _ _ _ _ hb7]; rfl); have z5 : w7.cell? ⟨wr.heap.size, 5, none⟩ = some (.slice x.ra x.bs.length x.rc) := (by rw [cell_of_row _ _ _ _ _ _ hb7]; rfl); clear hh7 hb7)
            | (go_at_call 15; refine (HC2.out _ HH7.out).mono ?_; rintro e w8 ⟨rfl, hb8⟩; have HB8 := Lib.hid hb8; have c2 := HCN.out _ hb8; clear hb8)
            | (go_at_call 16; refine (HB8.out.same hj1 htk1).mono ?_; rintro e w9 ⟨rfl, hb9⟩; have HB9 := Lib.hid hb9; clear hb9))
          go_roundw
          case rel => exact ⟨j + 1, _, _, by omega, by go_num, HB9.out⟩
          case measure => simp [intOf]; omega
      · go_wp2_with fail
        go_ret
        exact ⟨by simp, HB2.out.trans (HAH.out.below.mono HB2.out.size)⟩

end Go.Proofs.YtjbhdidjkdlceaaDoor

/- DiskActs, by its arguments as they come in. -/
namespace Go.Proofs.YtjbhdidjkdlceaaDoor
open Go.RowKit Go.Maps
set_option linter.unusedVariables false

theorem diskActs_walk {H : Type} {enc : TypeId × Value → H} {W : World} (n : Int) (wn : (Lit.int .i64 n).wf = true) (a : Option Addr) (len cap : Nat) {d : DataW H} {p : List MemPlace} (h : DataW.Trod enc Tryd.prog W 0 (fun _ => true) true 22 (.slice a len cap) d p) (hw : ∀ k ∈ d.weights Tryd.prog 22, k ≤ reachBytes) :
    Calls Tryd.prog 3 #[.int .i64 n, .slice a len cap] W fun e w' => e = .returned (.bool true) ∧ Below W.heap.size W w' := by
  obtain ⟨xs, h1, h2, h3⟩ := acts_open h hw
  exact diskActs_any n a len cap xs h1 h3 h2

end Go.Proofs.YtjbhdidjkdlceaaDoor
