/- call of a method that tells one error (and of none), by its contracts. -/
import Derived.Test.YtjbhdidjkdlceaaDoorCatch
namespace Go.Proofs.YtjbhdidjkdlceaaDoor
open Go.RowKit Go.Maps
set_option linter.unusedVariables false

/-- A call as it came. -/
def cA (k n kp : Int) (A B : ByteArray) (ra : Option Addr) (m rc : Nat) : Array Value := #[.int .i64 k, .int .i64 n, .int .i64 kp, .string A, .string B, .slice ra m rc]

/-- The world in which call calls. -/
def inCall (cs : Array Value) (w : World) : World := ((((w.alloc (.cells cs 36)).alloc (.cells #[.int .i64 0] 3)).alloc (.cells #[.int .i64 0] 26)).alloc (.cells #[.bool false] 4)).alloc (.cells #[.int .i64 0] 3)

theorem inCall_below (cs : Array Value) (w : World) : Below w.heap.size w (inCall cs w) :=
  (((((Below.refl _ w).alloc (Nat.le_refl _) _).alloc (by simp) _).alloc (by simp; omega) _).alloc (by simp; omega) _).alloc (by simp; omega) _
theorem inCall_size (cs : Array Value) (w : World) : (inCall cs w).heap.size = w.heap.size + 5 := by simp [inCall]
theorem inCall_0 (cs : Array Value) (w : World) : (inCall cs w).heap[w.heap.size]? = some (.cells cs 36 (0, 0)) := by
  unfold inCall
  rw [Below.heap_alloc _ _ _ (by simp <;> omega), Below.heap_alloc _ _ _ (by simp <;> omega), Below.heap_alloc _ _ _ (by simp <;> omega), Below.heap_alloc _ _ _ (by simp)]
  exact heap_alloc_new _ _
theorem inCall_1 (cs : Array Value) (w : World) : (inCall cs w).heap[w.heap.size + 1]? = some (.cells #[.int .i64 0] 3 (0, 0)) := by
  unfold inCall
  rw [Below.heap_alloc _ _ _ (by simp <;> omega), Below.heap_alloc _ _ _ (by simp <;> omega), Below.heap_alloc _ _ _ (by simp <;> omega)]
  have := heap_alloc_new (w.alloc (.cells cs 36)) (.cells #[.int .i64 0] 3)
  rw [show (w.alloc (.cells cs 36)).heap.size = w.heap.size + 1 by simp] at this
  exact this
theorem inCall_2 (cs : Array Value) (w : World) : (inCall cs w).heap[w.heap.size + 2]? = some (.cells #[.int .i64 0] 26 (0, 0)) := by
  unfold inCall
  rw [Below.heap_alloc _ _ _ (by simp <;> omega), Below.heap_alloc _ _ _ (by simp <;> omega)]
  have := heap_alloc_new ((w.alloc (.cells cs 36)).alloc (.cells #[.int .i64 0] 3)) (.cells #[.int .i64 0] 26)
  rw [show ((w.alloc (.cells cs 36)).alloc (.cells #[.int .i64 0] 3)).heap.size = w.heap.size + 2 by simp] at this
  exact this
theorem inCall_3 (cs : Array Value) (w : World) : (inCall cs w).heap[w.heap.size + 3]? = some (.cells #[.bool false] 4 (0, 0)) := by
  unfold inCall
  rw [Below.heap_alloc _ _ _ (by simp)]
  have := heap_alloc_new (((w.alloc (.cells cs 36)).alloc (.cells #[.int .i64 0] 3)).alloc (.cells #[.int .i64 0] 26)) (.cells #[.bool false] 4)
  rw [show (((w.alloc (.cells cs 36)).alloc (.cells #[.int .i64 0] 3)).alloc (.cells #[.int .i64 0] 26)).heap.size = w.heap.size + 3 by simp] at this
  exact this
theorem inCall_4 (cs : Array Value) (w : World) : (inCall cs w).heap[w.heap.size + 4]? = some (.cells #[.int .i64 0] 3 (0, 0)) := by
  have := heap_alloc_new ((((w.alloc (.cells cs 36)).alloc (.cells #[.int .i64 0] 3)).alloc (.cells #[.int .i64 0] 26)).alloc (.cells #[.bool false] 4)) (.cells #[.int .i64 0] 3)
  rw [show ((((w.alloc (.cells cs 36)).alloc (.cells #[.int .i64 0] 3)).alloc (.cells #[.int .i64 0] 26)).alloc (.cells #[.bool false] 4)).heap.size = w.heap.size + 4 by simp] at this
  exact this

/-- X, and call's own variables. -/
def own (X : Nat → Prop) (w : World) (k : Nat) : Prop := X k ∨ (w.heap.size ≤ k ∧ k ≤ w.heap.size + 4)

def Out.end4 : Out → Value
  | .told n e => .tuple #[.int .i64 n, .int .i64 e, .bool false, .int .i64 0]
  | .gone op => .tuple #[.int .i64 0, .int .i64 0, .bool true, .int .i64 op]

/-- Out of call. -/
theorem went_out {X : Nat → Prop} {D M : Nat} {s' : PS} {cs : Array Value} {w w1 w2 : World} (hX : ∀ k, X k → k < w.heap.size) (h : Went (own X w) D M s' (inCall cs w) w1) (m : Mod (fun k => w.heap.size + 1 ≤ k ∧ k ≤ w.heap.size + 4) w1 w2) : Went X D M s' w w2 := by
  have hb := inCall_below cs w
  refine ⟨h.lies.keep (m.mono (fun t _ ht => .inr (by omega))) (fun k hk => .inl (.inl hk)), ?_⟩
  have m1 : Mod (fun k => ¬ X k) w w1 := (Mod.of_below hb).trans (h.mod.mono (fun t _ ht hx => ht (.inl hx)))
  exact m1.chain m (fun t hlt ht => by omega)

/-- What is left of call's variables behind the method. -/
structure Vars (w w1 : World) (v1 v2 : Value) : Prop where
  c1 : w1.heap[w.heap.size + 1]? = some (.cells #[v1] 3 (0, 0))
  c2 : w1.heap[w.heap.size + 2]? = some (.cells #[v2] 26 (0, 0))
  c3 : w1.heap[w.heap.size + 3]? = some (.cells #[.bool false] 4 (0, 0))
  c4 : w1.heap[w.heap.size + 4]? = some (.cells #[.int .i64 0] 3 (0, 0))

theorem vars_of {X : Nat → Prop} {D M : Nat} {s' : PS} {cs : Array Value} {w w1 : World} (h : Went (own X w) D M s' (inCall cs w) w1) : Vars w w1 (.int .i64 0) (.int .i64 0) := by
  have hno : ∀ i, i ≤ 4 → ¬ ¬ own X w (w.heap.size + i) := fun i hi hn => hn (.inr ⟨by omega, by omega⟩)
  exact ⟨h.mod.keep (inCall_1 cs w) (hno 1 (by omega)), h.mod.keep (inCall_2 cs w) (hno 2 (by omega)), h.mod.keep (inCall_3 cs w) (hno 3 (by omega)), h.mod.keep (inCall_4 cs w) (hno 4 (by omega))⟩

theorem vars_second {w w1 wb : World} {v1 v2 : Value} (h : Vars w w1 v1 v2) (ee : Int) (hwb : wb = w1.setCell ⟨w.heap.size + 1 + 1, 0, none⟩ (.int .i64 ee)) : Vars w wb v1 (.int .i64 ee) := by
  subst hwb
  have ne : ∀ (v : World) (a : Addr) (x : Value) (b : Nat), b ≠ a.block → (v.setCell a x).heap[b]? = v.heap[b]? := fun v a x b h => Below.heap_setCell _ _ _ _ h
  exact ⟨(ne _ _ _ _ (by simp)).trans h.c1, one_setCell h.c2, (ne _ _ _ _ (by simp)).trans h.c3, (ne _ _ _ _ (by simp)).trans h.c4⟩
theorem vars_first {w w1 wb : World} {v1 v2 : Value} (h : Vars w w1 v1 v2) (q : Int) (hwb : wb = w1.setCell ⟨w.heap.size + 1, 0, none⟩ (.int .i64 q)) : Vars w wb (.int .i64 q) v2 := by
  subst hwb
  have ne : ∀ (v : World) (a : Addr) (x : Value) (b : Nat), b ≠ a.block → (v.setCell a x).heap[b]? = v.heap[b]? := fun v a x b h => Below.heap_setCell _ _ _ _ h
  exact ⟨one_setCell h.c1, (ne _ _ _ _ (by simp)).trans h.c2, (ne _ _ _ _ (by simp)).trans h.c3, (ne _ _ _ _ (by simp)).trans h.c4⟩

/-- The last statement's stores. -/
def stored4 (P : Nat) (n e : Int) (w : World) : World := ((((w.setCell ⟨P + 1, 0, none⟩ (.int .i64 n)).setCell ⟨P + 1 + 1, 0, none⟩ (.int .i64 e)).setCell ⟨P + 1 + 1 + 1, 0, none⟩ (.bool false)).setCell ⟨P + 1 + 1 + 1 + 1, 0, none⟩ (.int .i64 0)).drew
theorem last4 {w w1 : World} {v1 v2 : Value} (h : Vars w w1 v1 v2) (n e : Int) :
    (stored4 w.heap.size n e w1).cell? ⟨w.heap.size + 1, 0, none⟩ = some (.int .i64 n) ∧ (stored4 w.heap.size n e w1).cell? ⟨w.heap.size + 1 + 1, 0, none⟩ = some (.int .i64 e) ∧ (stored4 w.heap.size n e w1).cell? ⟨w.heap.size + 1 + 1 + 1, 0, none⟩ = some (.bool false) ∧
    (stored4 w.heap.size n e w1).cell? ⟨w.heap.size + 1 + 1 + 1 + 1, 0, none⟩ = some (.int .i64 0) ∧ Mod (fun k => w.heap.size + 1 ≤ k ∧ k ≤ w.heap.size + 4) w1 (stored4 w.heap.size n e w1) := by
  have ne : ∀ (v : World) (a : Addr) (x : Value) (b : Nat), b ≠ a.block → (v.setCell a x).heap[b]? = v.heap[b]? := fun v a x b h => Below.heap_setCell _ _ _ _ h
  refine ⟨?_, ?_, ?_, ?_, ?_⟩
  · refine cell_of_one (t := 3) ?_
    show ((((w1.setCell ⟨w.heap.size + 1, 0, none⟩ (.int .i64 n)).setCell ⟨w.heap.size + 1 + 1, 0, none⟩ (.int .i64 e)).setCell ⟨w.heap.size + 1 + 1 + 1, 0, none⟩ (.bool false)).setCell ⟨w.heap.size + 1 + 1 + 1 + 1, 0, none⟩ (.int .i64 0)).heap[w.heap.size + 1]? = _
    rw [ne _ _ _ _ (by simp <;> omega), ne _ _ _ _ (by simp <;> omega), ne _ _ _ _ (by simp)]
    exact one_setCell h.c1
  · refine cell_of_one (t := 26) ?_
    show ((((w1.setCell ⟨w.heap.size + 1, 0, none⟩ (.int .i64 n)).setCell ⟨w.heap.size + 1 + 1, 0, none⟩ (.int .i64 e)).setCell ⟨w.heap.size + 1 + 1 + 1, 0, none⟩ (.bool false)).setCell ⟨w.heap.size + 1 + 1 + 1 + 1, 0, none⟩ (.int .i64 0)).heap[w.heap.size + 1 + 1]? = _
    rw [ne _ _ _ _ (by simp <;> omega), ne _ _ _ _ (by simp)]
    exact one_setCell (by rw [ne _ _ _ _ (by simp)]; exact h.c2)
  · refine cell_of_one (t := 4) ?_
    show ((((w1.setCell ⟨w.heap.size + 1, 0, none⟩ (.int .i64 n)).setCell ⟨w.heap.size + 1 + 1, 0, none⟩ (.int .i64 e)).setCell ⟨w.heap.size + 1 + 1 + 1, 0, none⟩ (.bool false)).setCell ⟨w.heap.size + 1 + 1 + 1 + 1, 0, none⟩ (.int .i64 0)).heap[w.heap.size + 1 + 1 + 1]? = _
    rw [ne _ _ _ _ (by simp)]
    exact one_setCell (by rw [ne _ _ _ _ (by simp), ne _ _ _ _ (by simp; omega)]; exact h.c3)
  · refine cell_of_one (t := 3) ?_
    exact one_setCell (by rw [ne _ _ _ _ (by simp), ne _ _ _ _ (by simp <;> omega), ne _ _ _ _ (by simp; omega)]; exact h.c4)
  · exact ((((Mod.setCell (a := ⟨w.heap.size + 1, 0, none⟩) (by simp) _).trans (Mod.setCell (a := ⟨w.heap.size + 1 + 1, 0, none⟩) (by simp) _)).trans (Mod.setCell (a := ⟨w.heap.size + 1 + 1 + 1, 0, none⟩) (by simp) _)).trans (Mod.setCell (a := ⟨w.heap.size + 1 + 1 + 1 + 1, 0, none⟩) (by simp) _)).drewN 1


set_option maxHeartbeats 1000000 in
set_option maxRecDepth 100000 in
theorem call_0 {X : Nat → Prop} {D M : Nat} {s' : PS} {w : World} (hX : ∀ k, X k → k < w.heap.size) (o : Out) (n kp : Int) (A B : ByteArray) (ra : Option Addr) (m rc : Nat)
    (h : Calls Tryd.prog 17 #[.pointer (some ⟨D, 0, none⟩), .string A, .slice ra m rc] (inCall (cA 0 n kp A B ra m rc) w) fun e w' => e = o.end2 ∧ Went (own X w) D M s' (inCall (cA 0 n kp A B ra m rc) w) w') :
    Calls Tryd.prog 14 #[.pointer (some ⟨D, 0, none⟩), .agg (cA 0 n kp A B ra m rc)] w fun e w' => e = .returned o.end4 ∧ Went X D M s' w w' := by
  have H := Lib.hid h
  have b0 := inCall_0 (cA 0 n kp A B ra m rc) w
  have a0 : (inCall (cA 0 n kp A B ra m rc) w).cell? ⟨w.heap.size, 0, none⟩ = some (.int .i64 0) := by rw [cell_of_row _ _ _ _ _ _ b0]; rfl
  have a1 : (inCall (cA 0 n kp A B ra m rc) w).cell? ⟨w.heap.size, 1, none⟩ = some (.int .i64 n) := by rw [cell_of_row _ _ _ _ _ _ b0]; rfl
  have a2 : (inCall (cA 0 n kp A B ra m rc) w).cell? ⟨w.heap.size, 2, none⟩ = some (.int .i64 kp) := by rw [cell_of_row _ _ _ _ _ _ b0]; rfl
  have a3 : (inCall (cA 0 n kp A B ra m rc) w).cell? ⟨w.heap.size, 3, none⟩ = some (.string A) := by rw [cell_of_row _ _ _ _ _ _ b0]; rfl
  have a4 : (inCall (cA 0 n kp A B ra m rc) w).cell? ⟨w.heap.size, 4, none⟩ = some (.string B) := by rw [cell_of_row _ _ _ _ _ _ b0]; rfl
  have a5 : (inCall (cA 0 n kp A B ra m rc) w).cell? ⟨w.heap.size, 5, none⟩ = some (.slice ra m rc) := by rw [cell_of_row _ _ _ _ _ _ b0]; rfl
  obtain ⟨w0, hw0⟩ : ∃ w0, w0 = inCall (cA 0 n kp A B ra m rc) w := ⟨_, rfl⟩
  have HW0 := Lib.hid hw0
  rw [← hw0] at H a0 a1 a2 a3 a4 a5
  clear h b0 hw0
  have HX := Lib.hid hX
  clear hX
  go_enter_defers Tryd.func14, Tryd.ntmps14
  go_upto_region 1 with (fail)
  change Code.wp _ _ _ _ (inCall (cA 0 n kp A B ra m rc) w)
  rw [← HW0.out]
  go_wp2_with fail
  refine H.out.mono ?_
  rintro e w1 ⟨he, hwent⟩
  have hwent' := hwent
  rw [HW0.out] at hwent'
  have hvars := vars_of hwent'
  have HV := Lib.hid hvars
  have HWENT := Lib.hid hwent'
  have k1 : w1.cell? ⟨w.heap.size + 1, 0, none⟩ = some (.int .i64 0) := cell_of_one hvars.c1
  have k2 : w1.cell? ⟨w.heap.size + 1 + 1, 0, none⟩ = some (.int .i64 0) := cell_of_one hvars.c2
  have k3 : w1.cell? ⟨w.heap.size + 1 + 1 + 1, 0, none⟩ = some (.bool false) := cell_of_one hvars.c3
  have k4 : w1.cell? ⟨w.heap.size + 1 + 1 + 1 + 1, 0, none⟩ = some (.int .i64 0) := cell_of_one hvars.c4
  have f1 : w1.frozen? ⟨w.heap.size + 1, 0, none⟩ = false := free_of_one hvars.c1
  have f2 : w1.frozen? ⟨w.heap.size + 1 + 1, 0, none⟩ = false := free_of_one hvars.c2
  have f3 : w1.frozen? ⟨w.heap.size + 1 + 1 + 1, 0, none⟩ = false := free_of_one hvars.c3
  have f4 : w1.frozen? ⟨w.heap.size + 1 + 1 + 1 + 1, 0, none⟩ = false := free_of_one hvars.c4
  clear hwent hwent' hvars
  cases o with
  | gone op =>
    have he2 : e = goneAt op := he
    clear he
    subst he2
    go_wp2
    refine leaves_cons (f := 32) (args := #[.pointer (some ⟨w.heap.size + 1, 0, none⟩), .pointer (some ⟨w.heap.size + 2, 0, none⟩), .pointer (some ⟨w.heap.size + 3, 0, none⟩), .pointer (some ⟨w.heap.size + 4, 0, none⟩)]) (by simp) (by simp [go_sem]) ?_
    refine (catch_gone w.heap.size op [] _ _ _ _ w1 HV.out.c1 HV.out.c2 HV.out.c3 HV.out.c4).mono ?_
    rintro e u' w2 ⟨rfl, rfl, hc⟩
    have d1 : w2.cell? ⟨w.heap.size + 1, 0, none⟩ = some (.int .i64 0) := cell_of_one hc.c1
    have d2 : w2.cell? ⟨w.heap.size + 1 + 1, 0, none⟩ = some (.int .i64 0) := cell_of_one hc.c2
    have d3 : w2.cell? ⟨w.heap.size + 1 + 1 + 1, 0, none⟩ = some (.bool true) := cell_of_one hc.c3
    have d4 : w2.cell? ⟨w.heap.size + 1 + 1 + 1 + 1, 0, none⟩ = some (.int .i64 op) := cell_of_one hc.c4
    refine ⟨.tuple #[.int .i64 0, .int .i64 0, .bool true, .int .i64 op], ?_, ?_⟩
    · simp [results, Tryd.results14, go_sem, d1, d2, d3, d4]
    · exact ⟨rfl, went_out HX.out HWENT.out (hc.mod.mono (fun t _ ht => by omega))⟩
  | told q ee =>
    have he2 : e = .returned (.tuple #[.int .i64 q, .int .i64 ee]) := he
    clear he
    subst he2
    go_wp2_with fail
    obtain ⟨wb, hwb⟩ : ∃ wb : World, wb = (w1.setCell ⟨w.heap.size + 1, 0, none⟩ (.int .i64 q)).setCell ⟨w.heap.size + 1 + 1, 0, none⟩ (.int .i64 ee) := ⟨_, rfl⟩
    rw [← hwb]
    have m1 : Mod (fun k => w.heap.size + 1 ≤ k ∧ k ≤ w.heap.size + 4) w1 wb := by rw [hwb]; exact (Mod.setCell (by simp) _).trans (Mod.setCell (by simp) _)
    have hvb : Vars w wb (.int .i64 q) (.int .i64 ee) := vars_second (vars_first HV.out q rfl) ee hwb
    clear hwb
    have HVB := Lib.hid hvb
    have HM1 := Lib.hid m1
    have k1 : wb.cell? ⟨w.heap.size + 1, 0, none⟩ = some (.int .i64 q) := cell_of_one hvb.c1
    have k2 : wb.cell? ⟨w.heap.size + 1 + 1, 0, none⟩ = some (.int .i64 ee) := cell_of_one hvb.c2
    have k3 : wb.cell? ⟨w.heap.size + 1 + 1 + 1, 0, none⟩ = some (.bool false) := cell_of_one hvb.c3
    have k4 : wb.cell? ⟨w.heap.size + 1 + 1 + 1 + 1, 0, none⟩ = some (.int .i64 0) := cell_of_one hvb.c4
    have f1 : wb.frozen? ⟨w.heap.size + 1, 0, none⟩ = false := free_of_one hvb.c1
    have f2 : wb.frozen? ⟨w.heap.size + 1 + 1, 0, none⟩ = false := free_of_one hvb.c2
    have f3 : wb.frozen? ⟨w.heap.size + 1 + 1 + 1, 0, none⟩ = false := free_of_one hvb.c3
    have f4 : wb.frozen? ⟨w.heap.size + 1 + 1 + 1 + 1, 0, none⟩ = false := free_of_one hvb.c4
    clear hvb m1
    go_region
    all_goals (
      go_wp2
      refine leaves_cons (f := 32) (args := #[.pointer (some ⟨w.heap.size + 1, 0, none⟩), .pointer (some ⟨w.heap.size + 2, 0, none⟩), .pointer (some ⟨w.heap.size + 3, 0, none⟩), .pointer (some ⟨w.heap.size + 4, 0, none⟩)]) (by simp) (by simp [go_sem]) ?_
      refine (catch_idle ⟨w.heap.size + 1, 0, none⟩ ⟨w.heap.size + 2, 0, none⟩ ⟨w.heap.size + 3, 0, none⟩ ⟨w.heap.size + 4, 0, none⟩ _).mono ?_
      rintro e u' w2 ⟨rfl, rfl, hw2⟩
      have hw3 : w2 = stored4 w.heap.size q ee wb := hw2
      clear hw2
      have hl := last4 HVB.out q ee
      rw [← hw3] at hl
      have d1 := hl.1
      have d2 := hl.2.1
      have d3 := hl.2.2.1
      have d4 := hl.2.2.2.1
      have hm := hl.2.2.2.2
      clear hl
      refine ⟨.tuple #[.int .i64 q, .int .i64 ee, .bool false, .int .i64 0], ?_, ?_⟩
      · simp [results, Tryd.results14, go_sem, d1, d2, d3, d4]
      · exact ⟨rfl, went_out HX.out HWENT.out (HM1.out.trans hm)⟩)

end Go.Proofs.YtjbhdidjkdlceaaDoor
