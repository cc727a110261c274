/- call's deferred function, by its contracts. -/
import Derived.Test.YtjbhdidjkdlceaaDoorLies
import Derived.Defers
import Derived.Recover
namespace Go.Proofs.YtjbhdidjkdlceaaDoor
open Go.RowKit Go.Maps
set_option linter.unusedVariables false

theorem ta_crash (x : Value) (w : World) : (Instr.typeAssert (.iface 69 x) 20 69 true).run Tryd.prog w = .ok (.tuple #[x, .bool true]) w := by
  simp [Instr.typeAssert, run_underlying Tryd.underlying69]
attribute [go_sem] ta_crash

set_option maxHeartbeats 1000000 in
/-- A frame that returns: nothing turns. -/
theorem catch_idle (p q r t : Addr) (w : World) :
    CallsD Tryd.prog 32 #[.pointer (some p), .pointer (some q), .pointer (some r), .pointer (some t)] .returning w fun e u' w' => e = .returned (.tuple #[]) ∧ u' = .returning ∧ w' = w := by
  refine callsD_of_wpS Tryd.func32 rfl fun c₀ cs hu => ?_
  apply wpS_seq
  apply wpS_region
  simp [wpOpsS, go_sem, recoverD, hu, Tryd.ntmps32, Exit.thenS]
  refine wpS_of_wp ?_
  have HU := Lib.hid hu
  clear hu
  change Code.wp _ _ _ { tmps := #[.pointer (some p), .pointer (some q), .pointer (some r), .pointer (some t), .nilIface, undef, undef, .nilIface, undef, undef, undef, undef, undef, undef, undef, undef, undef, undef, undef, undef], defers := [] } _
  go_wp2
  refine ⟨rfl, .returning, ?_, _, results_none rfl _ _ _, rfl, rfl, rfl⟩
  have := HU.out
  cases c₀
  simp only at this
  subst this
  rfl

/-- Behind the deferred function where the power went: what call tells is laid. -/
structure Caught (P : Nat) (op : Int) (w w' : World) : Prop where
  mod : Mod (fun k => P + 1 ≤ k ∧ k ≤ P + 4) w w'
  c1 : w'.heap[P + 1]? = some (.cells #[.int .i64 0] 3 (0, 0))
  c2 : w'.heap[P + 2]? = some (.cells #[.int .i64 0] 26 (0, 0))
  c3 : w'.heap[P + 3]? = some (.cells #[.bool true] 4 (0, 0))
  c4 : w'.heap[P + 4]? = some (.cells #[.int .i64 op] 3 (0, 0))

set_option maxHeartbeats 1000000 in
theorem catch_gone (P : Nat) (op : Int) (older : List PanicEntry) (v1 v2 v3 v4 : Value) (w : World) (h1 : w.heap[P + 1]? = some (.cells #[v1] 3 (0, 0))) (h2 : w.heap[P + 2]? = some (.cells #[v2] 26 (0, 0)))
    (h3 : w.heap[P + 3]? = some (.cells #[v3] 4 (0, 0))) (h4 : w.heap[P + 4]? = some (.cells #[v4] 3 (0, 0))) :
    CallsD Tryd.prog 32 #[.pointer (some ⟨P + 1, 0, none⟩), .pointer (some ⟨P + 2, 0, none⟩), .pointer (some ⟨P + 3, 0, none⟩), .pointer (some ⟨P + 4, 0, none⟩)] (.panicking ({ v := .iface 69 (.agg #[.int .i64 op]), recovered := false } :: older)) w fun e u' w' =>
      e = .returned (.tuple #[]) ∧ u' = .panicking ({ v := .iface 69 (.agg #[.int .i64 op]), recovered := true } :: older) ∧ Caught P op w w' := by
  have H1 := Lib.hid h1
  have H2 := Lib.hid h2
  have H3 := Lib.hid h3
  have H4 := Lib.hid h4
  have k1 := cell_of_one h1
  have k2 := cell_of_one h2
  have k3 := cell_of_one h3
  have k4 := cell_of_one h4
  have f1 := free_of_one h1
  have f2 := free_of_one h2
  have f3 := free_of_one h3
  have f4 := free_of_one h4
  have hlt := lt_of_block h4
  clear h1 h2 h3 h4
  refine callsD_of_wpS Tryd.func32 rfl fun c₀ cs hu => ?_
  apply wpS_seq
  apply wpS_region
  simp [wpOpsS, go_sem, recoverD, hu, Tryd.ntmps32, Exit.thenS]
  refine wpS_of_wp ?_
  clear hu
  change Code.wp _ _ _ { tmps := #[.pointer (some ⟨P + 1, 0, none⟩), .pointer (some ⟨P + 2, 0, none⟩), .pointer (some ⟨P + 3, 0, none⟩), .pointer (some ⟨P + 4, 0, none⟩), .iface 69 (.agg #[.int .i64 op]), undef, undef, .iface 69 (.agg #[.int .i64 op]), undef, undef, undef, undef, undef, undef, undef, undef, undef, undef, undef, undef], defers := [] } _
  go_wp2_with fail
  obtain ⟨w1, hw1⟩ : ∃ w1 : World, w1 = w.alloc (.cells #[.int .i64 op] 69) := ⟨_, rfl⟩
  rw [← hw1]
  have hbl : Below w.heap.size w w1 := by rw [hw1]; exact (Below.refl _ w).alloc (Nat.le_refl _) _
  have g1 := (hbl.block _ (by omega)).trans H1.out
  have g2 := (hbl.block _ (by omega)).trans H2.out
  have g3 := (hbl.block _ (by omega)).trans H3.out
  have g4 := (hbl.block _ (by omega)).trans H4.out
  have gc : w1.heap[w.heap.size]? = some (.cells #[.int .i64 op] 69 (0, 0)) := by rw [hw1]; exact heap_alloc_new w _
  have k1 := cell_of_one g1
  have k2 := cell_of_one g2
  have k3 := cell_of_one g3
  have k4 := cell_of_one g4
  have kc := cell_of_one gc
  have f1 := free_of_one g1
  have f2 := free_of_one g2
  have f3 := free_of_one g3
  have f4 := free_of_one g4
  have HBL := Lib.hid hbl
  have G1 := Lib.hid g1
  have G2 := Lib.hid g2
  have G3 := Lib.hid g3
  have G4 := Lib.hid g4
  clear hw1 hbl g1 g2 g3 g4 gc
  have hfin : Caught P op w ((((w1.setCell ⟨P + 1, 0, none⟩ (.int .i64 0)).setCell ⟨P + 2, 0, none⟩ (.int .i64 0)).setCell ⟨P + 3, 0, none⟩ (.bool true)).setCell ⟨P + 4, 0, none⟩ (.int .i64 op)).drew := by
    have m1 : Mod (fun k => P + 1 ≤ k ∧ k ≤ P + 4) w1 (w1.setCell ⟨P + 1, 0, none⟩ (.int .i64 0)) := Mod.setCell (by simp) _
    have m2 := m1.trans (Mod.setCell (a := ⟨P + 2, 0, none⟩) (by simp) (.int .i64 0))
    have m3 := m2.trans (Mod.setCell (a := ⟨P + 3, 0, none⟩) (by simp) (.bool true))
    have m4 := m3.trans (Mod.setCell (a := ⟨P + 4, 0, none⟩) (by simp) (.int .i64 op))
    have ne : ∀ (v : World) (a : Addr) (x : Value) (b : Nat), b ≠ a.block → (v.setCell a x).heap[b]? = v.heap[b]? := fun v a x b h => Below.heap_setCell _ _ _ _ h
    refine ⟨(Mod.of_below HBL.out).trans (m4.drewN 1), ?_, ?_, ?_, ?_⟩
    · show ((((w1.setCell ⟨P + 1, 0, none⟩ (.int .i64 0)).setCell ⟨P + 2, 0, none⟩ (.int .i64 0)).setCell ⟨P + 3, 0, none⟩ (.bool true)).setCell ⟨P + 4, 0, none⟩ (.int .i64 op)).heap[P + 1]? = _
      rw [ne _ _ _ _ (by simp), ne _ _ _ _ (by simp), ne _ _ _ _ (by simp)]
      exact one_setCell G1.out
    · show ((((w1.setCell ⟨P + 1, 0, none⟩ (.int .i64 0)).setCell ⟨P + 2, 0, none⟩ (.int .i64 0)).setCell ⟨P + 3, 0, none⟩ (.bool true)).setCell ⟨P + 4, 0, none⟩ (.int .i64 op)).heap[P + 2]? = _
      rw [ne _ _ _ _ (by simp), ne _ _ _ _ (by simp)]
      exact one_setCell (by rw [ne _ _ _ _ (by simp)]; exact G2.out)
    · show ((((w1.setCell ⟨P + 1, 0, none⟩ (.int .i64 0)).setCell ⟨P + 2, 0, none⟩ (.int .i64 0)).setCell ⟨P + 3, 0, none⟩ (.bool true)).setCell ⟨P + 4, 0, none⟩ (.int .i64 op)).heap[P + 3]? = _
      rw [ne _ _ _ _ (by simp)]
      exact one_setCell (by rw [ne _ _ _ _ (by simp), ne _ _ _ _ (by simp)]; exact G3.out)
    · exact one_setCell (by rw [ne _ _ _ _ (by simp), ne _ _ _ _ (by simp), ne _ _ _ _ (by simp)]; exact G4.out)
  have HFIN := Lib.hid hfin
  clear hfin
  go_region
  all_goals (
    go_wp2
    refine ⟨rfl, _, rfl, _, results_none rfl _ _ _, rfl, rfl, HFIN.out⟩)

end Go.Proofs.YtjbhdidjkdlceaaDoor
