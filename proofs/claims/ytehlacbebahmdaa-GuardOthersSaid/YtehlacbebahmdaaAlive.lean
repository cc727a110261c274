/- guard.Lose, and the document's example (alive), by their contracts. -/
import Derived.Test.YtehlacbebahmdaaRow
namespace Go.Proofs.Ytehlacbebahmdaa
open Go.RowKit

/-- The panic of a crash. -/
abbrev lostAt (op : Int) : Ending := .panicked [{ v := .iface 28 (.agg #[.int .i64 op]), recovered := false }]

theorem calls11 (cap : Array Value) (w : World) : (callFunc 11 cap).run Try.prog w = .ok (.enter 11 cap) w := by simp [go_sem]
theorem calls13 (cap : Array Value) (w : World) : (callFunc 13 cap).run Try.prog w = .ok (.enter 13 cap) w := by simp [go_sem]
theorem calls34 (cap : Array Value) (w : World) : (callFunc 34 cap).run Try.prog w = .ok (.enter 34 cap) w := by simp [go_sem]
theorem calls35 (cap : Array Value) (w : World) : (callFunc 35 cap).run Try.prog w = .ok (.enter 35 cap) w := by simp [go_sem]

theorem mi28 (x : Value) (w : World) : (Instr.makeInterface 28 x).run Try.prog w = .ok (.iface 28 x) w := by
  simp [Instr.makeInterface, run_underlying Try.underlying28]
attribute [go_sem] mi28

set_option maxHeartbeats 400000 in
theorem lose_any (op : Int) (w : World) : Calls Try.prog 14 #[.int .i64 op] w fun e w' => e = lostAt op ∧ w = w' := by
  go_enter Try.func14, Try.ntmps14
  go_wp2
  exact ⟨rfl, rfl, rfl⟩

set_option maxHeartbeats 400000 in
theorem alive1 (b : Nat) (x : Int) (w : World) (hb : w.heap[b]? = some (.cells #[.int .i64 x] 3 (0, 0))) (h0 : 0 ≤ x) (h1 : x ≤ 1000) :
    Calls Try.prog 34 #[.pointer (some ⟨b, 0, none⟩)] w fun e w' => e = .returned (.tuple #[]) ∧ w' = w.setCell ⟨b, 0, none⟩ (.int .i64 (x + 1)) := by
  have c := cell_of_one hb
  have f := free_of_one hb
  clear hb
  go_enter Try.func34, Try.ntmps34
  go_wp2
  go_end0
  exact ⟨rfl, rfl⟩

set_option maxHeartbeats 400000 in
theorem alive2 (b : Nat) (x : Int) (w : World) (hb : w.heap[b]? = some (.cells #[.int .i64 x] 3 (0, 0))) (h0 : 0 ≤ x) (h1 : x ≤ 1000) :
    Calls Try.prog 35 #[.pointer (some ⟨b, 0, none⟩)] w fun e w' => e = lostAt 7 ∧ w' = w.setCell ⟨b, 0, none⟩ (.int .i64 (x + 10)) := by
  have c := cell_of_one hb
  have f := free_of_one hb
  clear hb
  go_enter Try.func35, Try.ntmps35
  go_wp2
  exact ⟨rfl, rfl, rfl⟩

theorem above_setCell {B : Nat} {w : World} {a : Addr} (h : a.block < B) (v : Value) : Above B w (w.setCell a v) :=
  ⟨by simp [World.setCell], fun k hk _ => Below.heap_setCell _ _ _ _ (by omega)⟩

/-- guard.Run of a function that returns. -/
theorem run_ret (B : Nat) (f : FuncId) (cap : Array Value) (w : World) (hB : B ≤ w.heap.size) (Q : World → Prop) (hcall : ∀ w, (callFunc f cap).run Try.prog w = .ok (.enter f cap) w)
    (h : Calls Try.prog f cap (inRun w) fun e w1 => e = .returned (.tuple #[]) ∧ Q w1 ∧ Above B (inRun w) w1) :
    Calls Try.prog 18 #[.func (.func f) #[] cap] w fun e w' => e = .returned (.tuple #[.agg #[.int .i64 0], .bool false]) ∧ Above B w w' ∧ ∃ w1, Q w1 ∧ Below w.heap.size w1 w' := by
  refine (run_step B f cap w hB (fun e w1 => e = .returned (.tuple #[]) ∧ Q w1) hcall ?_ (h.mono fun e w1 ⟨a, b, c⟩ => ⟨⟨a, b⟩, c⟩)).mono ?_
  · rintro e w1 ⟨rfl, _⟩
    exact .inl ⟨_, rfl⟩
  · rintro e w' ⟨ht, ha⟩
    rcases ht with ⟨v, w1, hq, he, hb⟩ | ⟨op, w1, hq, he, hb⟩ | ⟨t, x, w1, _, hq, he, hb⟩
    · exact ⟨he, ha, w1, hq.2, hb⟩
    · cases hq.1
    · cases hq.1

/-- guard.Run of a function that loses the power. -/
theorem run_lost (B : Nat) (f : FuncId) (cap : Array Value) (op : Int) (w : World) (hB : B ≤ w.heap.size) (Q : World → Prop) (hcall : ∀ w, (callFunc f cap).run Try.prog w = .ok (.enter f cap) w)
    (h : Calls Try.prog f cap (inRun w) fun e w1 => e = lostAt op ∧ Q w1 ∧ Above B (inRun w) w1) :
    Calls Try.prog 18 #[.func (.func f) #[] cap] w fun e w' => e = .returned (.tuple #[.agg #[.int .i64 op], .bool true]) ∧ Above B w w' ∧ ∃ w1, Q w1 ∧ Below w.heap.size w1 w' := by
  refine (run_step B f cap w hB (fun e w1 => e = lostAt op ∧ Q w1) hcall ?_ (h.mono fun e w1 ⟨a, b, c⟩ => ⟨⟨a, b⟩, c⟩)).mono ?_
  · rintro e w1 ⟨rfl, _⟩
    exact .inr ⟨_, _, rfl, fun _ => ⟨_, rfl⟩⟩
  · rintro e w' ⟨ht, ha⟩
    rcases ht with ⟨v, w1, hq, he, hb⟩ | ⟨op', w1, hq, he, hb⟩ | ⟨t, x, w1, hne, hq, he, hb⟩
    · cases hq.1
    · have e1 := hq.1
      cases e1
      exact ⟨he, ha, w1, hq.2, hb⟩
    · have e1 := hq.1
      cases e1
      exact absurd rfl hne

/-- guard.Run of a function that panics with what is no crash. -/
theorem run_other (B : Nat) (f : FuncId) (cap : Array Value) (t : TypeId) (x : Value) (ht : ¬ t = 28) (w : World) (hB : B ≤ w.heap.size) (Q : World → Prop) (hcall : ∀ w, (callFunc f cap).run Try.prog w = .ok (.enter f cap) w)
    (h : Calls Try.prog f cap (inRun w) fun e w1 => e = .panicked [{ v := .iface t x, recovered := false }] ∧ Q w1 ∧ Above B (inRun w) w1) :
    Calls Try.prog 18 #[.func (.func f) #[] cap] w fun e w' => e = .panicked [{ v := .iface t x, recovered := false }, { v := .iface t x, recovered := true }] ∧ Above B w w' ∧ ∃ w1, Q w1 ∧ Below w.heap.size w1 w' := by
  refine (run_step B f cap w hB (fun e w1 => e = .panicked [{ v := .iface t x, recovered := false }] ∧ Q w1) hcall ?_ (h.mono fun e w1 ⟨a, b, c⟩ => ⟨⟨a, b⟩, c⟩)).mono ?_
  · rintro e w1 ⟨rfl, _⟩
    exact .inr ⟨_, _, rfl, fun e => absurd e ht⟩
  · rintro e w' ⟨hr, ha⟩
    rcases hr with ⟨v, w1, hq, he, hb⟩ | ⟨op', w1, hq, he, hb⟩ | ⟨t', x', w1, hne, hq, he, hb⟩
    · cases hq.1
    · have e1 := hq.1
      cases e1
      exact absurd rfl ht
    · have e1 := hq.1
      cases e1
      exact ⟨he, ha, w1, hq.2, hb⟩

/-- The row of the document's example. -/
def aliveFn (b : Nat) (j : Nat) : Value := .func (.func (34 + j)) #[] #[.pointer (some ⟨b, 0, none⟩)]
def aliveInv (b s : Nat) (w : World) (j : Nat) (w1 : World) : Prop :=
  w1.heap[b]? = some (.cells #[.int .i64 j] 3 (0, 0)) ∧ w1.heap[s]? = w.heap[s]? ∧ Below b w w1 ∧ j ≤ 1
def aliveStop (b : Nat) (w : World) (j : Nat) (op : Int) (w1 : World) : Prop :=
  j = 1 ∧ op = 7 ∧ w1.heap[b]? = some (.cells #[.int .i64 11] 3 (0, 0)) ∧ Below b w w1

theorem alive_row (b s : Nat) (w : World) (hb : w.heap[b]? = some (.cells #[.int .i64 0] 3 (0, 0))) (hs : w.heap[s]? = some (.cells #[aliveFn b 0, aliveFn b 1, aliveFn b 2] 1 (0, 0))) (hne : b < s) :
    Calls Try.prog 12 #[.slice (some ⟨s, 0, none⟩) 3 3] w fun e w' => e = .returned (.tuple #[.int .i64 1, .agg #[.int .i64 7], .bool true]) ∧ w'.heap[b]? = some (.cells #[.int .i64 11] 3 (0, 0)) ∧ Below b w w' := by
  have hS := lt_of_block hs
  have hBB := lt_of_block hb
  refine (row_any s 0 3 3 (aliveFn b) w (aliveInv b s w) (aliveStop b w) (fun _ _ => False) (by omega) ?_ ?_ ?_ ?_ ⟨hb, rfl, Below.refl _ _, by omega⟩).mono ?_
  · rintro j w1 hj ⟨_, h2, _, _⟩
    have e := h2.trans hs
    rcases j with _ | _ | _ | j
    · simp [World.cell?, e]
    · simp [World.cell?, e]
    · simp [World.cell?, e]
    · omega
  · rintro j w1 w2 ⟨h1, h2, h3, h4⟩ hw
    exact ⟨(hw.block b hBB).trans h1, (hw.block s hS).trans h2, h3.trans (hw.mono (by omega)), h4⟩
  · rintro j op w1 w2 ⟨h1, h2, h3, h4⟩ hw
    exact ⟨h1, h2, (hw.block b hBB).trans h3, h4.trans (hw.mono (by omega))⟩
  · rintro j w1 hj hsz ⟨h1, h2, h3, h4⟩
    have hb1 : (inRun w1).heap[b]? = some (.cells #[.int .i64 j] 3 (0, 0)) := (inRun_old _ _ (by omega)).trans h1
    rcases j with _ | _ | j
    · refine (run_ret w.heap.size 34 _ w1 hsz (fun w2 => w2 = (inRun w1).setCell ⟨b, 0, none⟩ (.int .i64 (0 + 1))) (fun w => calls34 _ w)
        ((alive1 b 0 _ hb1 (by omega) (by omega)).mono ?_)).mono ?_
      · rintro e w2 ⟨rfl, rfl⟩
        exact ⟨rfl, rfl, above_setCell hBB _⟩
      · rintro e w' ⟨rfl, ha, w2, rfl, hw⟩
        refine ⟨ha, .inl ⟨rfl, ?_, ?_, ?_, by omega⟩⟩
        · exact (hw.block b (by omega)).trans (one_setCell hb1)
        · refine (hw.block s (by omega)).trans ((Below.heap_setCell _ _ _ _ (by simp; omega)).trans ((inRun_old _ _ (by omega)).trans h2))
        · exact h3.trans ((((below_inRun w1).mono (B' := b) (by omega)).setCell (p := ⟨b, 0, none⟩) (Nat.le_refl _) _).trans (hw.mono (B' := b) (by omega)))
    · refine (run_lost w.heap.size 35 _ 7 w1 hsz (fun w2 => w2 = (inRun w1).setCell ⟨b, 0, none⟩ (.int .i64 (1 + 10))) (fun w => calls35 _ w)
        ((alive2 b 1 _ hb1 (by omega) (by omega)).mono ?_)).mono ?_
      · rintro e w2 ⟨rfl, rfl⟩
        exact ⟨rfl, rfl, above_setCell hBB _⟩
      · rintro e w' ⟨rfl, ha, w2, rfl, hw⟩
        refine ⟨ha, .inr (.inl ⟨7, rfl, rfl, rfl, ?_, ?_⟩)⟩
        · exact (hw.block b (by omega)).trans (one_setCell hb1)
        · exact h3.trans ((((below_inRun w1).mono (B' := b) (by omega)).setCell (p := ⟨b, 0, none⟩) (Nat.le_refl _) _).trans (hw.mono (B' := b) (by omega)))
    · omega
  · rintro e w' ⟨_, ⟨_, _, _, _, h⟩ | ⟨j, op, _, he, rfl, rfl, h3, h4⟩ | ⟨_, _, h⟩⟩
    · omega
    · exact ⟨he, h3, h4⟩
    · exact h.elim

set_option maxHeartbeats 400000 in
theorem alive_any (w : World) : Calls Try.prog 10 #[] w fun e w' => e = .returned (.bool true) ∧ Below w.heap.size w w' := by
  have hs0 : (w.alloc (.cells #[.int .i64 0] 3)).heap.size = w.heap.size + 1 := by simp
  have hs := heap_alloc_new (w.alloc (.cells #[.int .i64 0] 3)) (.cells #[aliveFn w.heap.size 0, aliveFn w.heap.size 1, aliveFn w.heap.size 2] 1)
  rw [hs0] at hs
  have hb : ((w.alloc (.cells #[.int .i64 0] 3)).alloc (.cells #[aliveFn w.heap.size 0, aliveFn w.heap.size 1, aliveFn w.heap.size 2] 1)).heap[w.heap.size]? = some (.cells #[.int .i64 0] 3 (0, 0)) :=
    (Below.heap_alloc _ _ _ (by simp)).trans (heap_alloc_new _ _)
  have HR := Lib.hid (alive_row _ _ _ hb hs (by omega))
  clear hs hb hs0
  go_enter Try.func10, Try.ntmps10
  go_wp2_with fail
  refine HR.out.mono ?_
  rintro e w1 ⟨rfl, hb, hw⟩
  have c1 := cell_of_one hb
  have HB := Lib.hid hb
  have hlt := lt_of_block hb
  clear hb HR
  go_wp2
  go_ret
  exact ⟨rfl, ((((Below.refl _ _).alloc (Nat.le_refl _) _).alloc (by simp) _).trans hw).alloc (by omega) _⟩

end Go.Proofs.Ytehlacbebahmdaa
