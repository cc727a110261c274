/- A file's first bytes: in plain words, and as they lie. -/
import Derived.Test.YtjbhdidjkdlceaaDoorSyncs
namespace Go.Proofs.YtjbhdidjkdlceaaDoor
open Go.RowKit Go.Maps
set_option linter.unusedVariables false

def cutV (v : Value) (n : Nat) : Value := match v with | .slice a _ c => .slice a n c | v => v
def cutTo (f : PF) (n safe : Nat) : PF := { f with bv := cutV f.bv n, b := f.b.take n, safe := safe }
def keepOf (keep : Int) (f : PF) : Nat := f.safe + (max 0 (min keep ((f.b.length : Int) - f.safe))).toNat
theorem keepOf_le {keep : Int} {f : PF} (h : f.safe ≤ f.b.length) : keepOf keep f ≤ f.b.length ∧ f.safe ≤ keepOf keep f := by
  unfold keepOf
  omega

theorem row_prefix {w : World} {base : Nat} {e : TypeId} {a : Option Addr} {n c k : Nat} {xs : List Value} (h : w.ownsRow base e 1 (.slice a n c) n xs) (hk : k ≤ n) : w.ownsRow base e 1 (.slice a k c) k (xs.take k) := by
  obtain ⟨h1, ⟨h2, h3⟩ | ⟨g, cap, cur, h2, h4, h5, h6, h7, h8, h9⟩⟩ := h
  · simp only [Value.slice.injEq] at h2
    obtain ⟨rfl, rfl, rfl⟩ := h2
    have : k = 0 := by omega
    subst this
    exact ⟨by simp, .inl ⟨rfl, rfl⟩⟩
  · simp only [Value.slice.injEq] at h2
    obtain ⟨rfl, _, rfl⟩ := h2
    refine ⟨by simp; omega, .inr ⟨g, c, cur, rfl, h4, h5, by omega, h7, h8, ?_⟩⟩
    rw [← h9, List.take_take]
    congr 1
    omega

theorem cutV_block (v : Value) (n : Nat) : (cutV v n).ownBlock = v.ownBlock := by
  unfold cutV
  split
  · rename_i a m c
    cases a <;> rfl
  · rfl

end Go.Proofs.YtjbhdidjkdlceaaDoor
