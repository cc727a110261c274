/- DiskSafe, by its arguments as they come in. -/
import Derived.Test.YtjbhdidjkdlceaaDoorSafe
namespace Go.Proofs.YtjbhdidjkdlceaaDoor
open Go.RowKit Go.Maps
set_option linter.unusedVariables false

theorem diskSafe_walk {H : Type} {enc : TypeId × Value → H} {W : World} (n : Int) (wn : (Lit.int .i64 n).wf = true) (a : Option Addr) (len cap : Nat) {d : DataW H} {p : List MemPlace} (h : DataW.Trod enc Tryd.prog W 0 (fun _ => true) true 22 (.slice a len cap) d p) (hw : ∀ k ∈ d.weights Tryd.prog 22, k ≤ reachBytes) (keep : Int) (wk : (Lit.int .i64 keep).wf = true) :
    Calls Tryd.prog 9 #[.int .i64 n, .slice a len cap, .int .i64 keep] W fun e w' => e = .returned (.bool true) ∧ Below W.heap.size W w' := by
  obtain ⟨xs, h1, h2, h3⟩ := acts_open h hw
  exact diskSafe_any n a len cap xs h1 h3 h2 keep

end Go.Proofs.YtjbhdidjkdlceaaDoor
