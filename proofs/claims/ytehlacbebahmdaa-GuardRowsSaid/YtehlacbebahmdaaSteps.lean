/- A slice of steps among the arguments, opened. -/
import Derived.Test.YtehlacbebahmdaaRows
import Derived.WalkKit
import Derived.ProofKit
import Derived.OpenShut
import Derived.Deep.SlicePairs
namespace Go.Proofs.Ytehlacbebahmdaa
open Go.ChangeShapes Go.WideShapes Go.ChangeAt Go.RowKit Go.Deep

theorem steps_open {H : Type} {enc : TypeId × Value → H} {W : World} {a : Option Addr} {len cap : Nat} {d : DataW H} {p : List MemPlace}
    (h : DataW.Trod enc Try.prog W 0 (fun _ => true) true 22 (.slice a len cap) d p) :
    len = 0 ∨ ∃ (b off : Nat) (K N : Nat → Int), a = some ⟨b, off, none⟩ ∧ b < W.heap.size ∧
      ∀ i, i < len → W.cell? ⟨b, off + i * 2, none⟩ = some (.int .i64 (K i)) ∧ W.cell? ⟨b, off + i * 2 + 1, none⟩ = some (.int .i64 (N i)) ∧ (Lit.int .i64 (K i)).wf = true ∧ (Lit.int .i64 (N i)).wf = true := by
  by_cases h0 : len = 0
  · exact .inl h0
  right
  obtain ⟨fuel, hf⟩ := h
  rcases open_slice_pairs Try.underlying22 Try.underlying26 (by kernel_rfl) rfl rfl (by kernel_rfl) (by kernel_rfl) hf with ⟨hcs, _⟩ | ⟨x, l, c, m, n, V0, V1, D0, D1, P0, P1, hcs, _, hl, hm, hmm, _, hcell⟩
  · simp [Value.cells] at hcs
    exact absurd hcs.2.1 h0
  · simp [Value.cells] at hcs
    obtain ⟨rfl, rfl, rfl⟩ := hcs
    simp at hmm
    subst hmm
    have each : ∀ i, i < len → ∃ q : Int × Int, W.cell? (x.add (i * 2)) = some (.int .i64 q.1) ∧ W.cell? (x.add (i * 2 + 1)) = some (.int .i64 q.2) ∧ (Lit.int .i64 q.1).wf = true ∧ (Lit.int .i64 q.2).wf = true := by
      intro i hi
      obtain ⟨h1, h2, h3, h4⟩ := hcell i (by omega)
      obtain ⟨n1, e1, _, w1⟩ := DataW.trod_int Try.underlying3 h3
      obtain ⟨n2, e2, _, w2⟩ := DataW.trod_int Try.underlying3 h4
      simp at e1 e2
      exact ⟨(n1, n2), by rw [h1, e1], by rw [h2, e2], w1, w2⟩
    obtain ⟨q, hq⟩ := choose_lt each
    obtain ⟨b, off, spot⟩ := x
    have hspot : spot = none := by
      have hc := (hq 0 (by omega)).1
      simpa [Addr.add] using World.cell?_spot hc
    subst hspot
    refine ⟨b, off, fun i => (q i).1, fun i => (q i).2, rfl, ?_, fun i hi => ?_⟩
    · exact World.block_lt_of_cell? _ _ (by simpa using (hq 0 (by omega)).1)
    · obtain ⟨h1, h2, h3, h4⟩ := hq i hi
      rw [Addr.add_lit] at h1 h2
      exact ⟨h1, h2, h3, h4⟩

end Go.Proofs.Ytehlacbebahmdaa
