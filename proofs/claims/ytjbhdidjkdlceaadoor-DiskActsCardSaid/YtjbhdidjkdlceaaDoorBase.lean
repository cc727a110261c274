/- Worlds, rows, bytes: what all walks of the disk's statements use. -/
import Derived.Test.YtjbhdidjkdlceaaDoorRows
import Derived.WalkKit
import Derived.WalkSpells
import Derived.WalkLawsBesides
import Derived.Laws.EntriesVeiled
import Derived.OneCell
import Derived.Lib.Hide
import Derived.Lib.SliceRun
import Derived.Deep.QuietTactic
import Derived.BigQuiet
import Derived.Deep.AppendLies
import Derived.Deep.Onto
import Derived.Deep.Cut
import Derived.Deep.RegionLaw
import Derived.Deep.RegionWith
import Derived.Deep.Draws
import Derived.Laws.BytesArg
import Derived.Laws.AppendOwnNone
import Derived.Maps.OwnSet
import Derived.Maps.Views
import Derived.Maps.Ext
namespace Go.Proofs.YtjbhdidjkdlceaaDoor
open Go.RowKit
set_option linter.unusedVariables false

theorem run_makeFunc_tryd (fn : Fn) (first cap : Array Value) (w : World) : (Instr.makeFunc fn first cap).run Tryd.prog w = .ok (.func fn first cap) w := rfl
attribute [go_sem] run_makeFunc_tryd

/-- Of what was there only the blocks of S have turned. -/
structure Mod (S : Nat → Prop) (w w' : World) : Prop where
  os : w'.os = w.os
  tape : w'.tape = w.tape
  output : w'.output = w.output
  size : w.heap.size ≤ w'.heap.size
  block : ∀ k, k < w.heap.size → ¬ S k → w'.heap[k]? = w.heap[k]?

theorem Mod.refl (S : Nat → Prop) (w : World) : Mod S w w := ⟨rfl, rfl, rfl, Nat.le_refl _, fun _ _ _ => rfl⟩
theorem Mod.trans {S : Nat → Prop} {a b c : World} (h : Mod S a b) (k : Mod S b c) : Mod S a c :=
  ⟨k.os.trans h.os, k.tape.trans h.tape, k.output.trans h.output, Nat.le_trans h.size k.size, fun i hi hs => (k.block i (Nat.lt_of_lt_of_le hi h.size) hs).trans (h.block i hi hs)⟩
theorem Mod.mono {S T : Nat → Prop} {w w' : World} (h : Mod S w w') (hS : ∀ k, k < w.heap.size → S k → T k) : Mod T w w' :=
  ⟨h.os, h.tape, h.output, h.size, fun k hk hT => h.block k hk (fun hs => hT (hS k hk hs))⟩
theorem Mod.of_below {S : Nat → Prop} {w w' : World} (h : Below w.heap.size w w') : Mod S w w' := ⟨h.os, h.tape, h.output, h.size, fun k hk _ => h.block k hk⟩
theorem Mod.setCell {S : Nat → Prop} {w : World} {a : Addr} (h : S a.block) (v : Value) : Mod S w (w.setCell a v) :=
  ⟨rfl, rfl, rfl, by simp [World.setCell], fun k _ hs => Below.heap_setCell _ _ _ _ (fun e => hs (e ▸ h))⟩
theorem Mod.grown {S : Nat → Prop} {w w' : World} {row : Option Nat} (h : w.grownBy w' row) (hS : ∀ k, row = some k → S k) : Mod S w w' :=
  ⟨h.os, h.tape, h.output, h.size, fun k hk hs => h.block k hk (fun e => hs (hS k e.symm))⟩
theorem Mod.below {S : Nat → Prop} {w w' : World} (h : Mod S w w') {B : Nat} (hB : ∀ k, S k → B ≤ k) (hBw : B ≤ w.heap.size) : Below B w w' :=
  ⟨h.os, h.tape, h.output, h.size, fun k hk => h.block k (by omega) (fun hs => by have := hB k hs; omega)⟩
theorem Mod.drewN {S : Nat → Prop} {w w' : World} (h : Mod S w w') (n : Nat) : Mod S w (w'.drewN n) := ⟨h.os, h.tape, h.output, h.size, h.block⟩
theorem Mod.keep {S : Nat → Prop} {w w' : World} (h : Mod S w w') {b : Nat} {o : Obj} (hb : w.heap[b]? = some o) (hs : ¬ S b) : w'.heap[b]? = some o := (h.block b (lt_of_block hb) hs).trans hb
theorem Mod.row {S : Nat → Prop} {w w' : World} (h : Mod S w w') {base : Nat} {e : TypeId} {size : Nat} {v : Value} {n : Nat} {xs : List Value} (hr : w.ownsRow base e size v n xs) (hs : ∀ k, v.ownBlock = some k → ¬ S k) : w'.ownsRow base e size v n xs := by
  obtain ⟨h1, h2⟩ := hr
  refine ⟨h1, ?_⟩
  rcases h2 with h2 | ⟨g, cap, cur, hv, hg, hh, r⟩
  · exact .inl h2
  · exact .inr ⟨g, cap, cur, hv, hg, h.keep hh (hs g (by rw [hv]; rfl)), r⟩

theorem below_drewN {B : Nat} {a w : World} (h : Below B a w) (n : Nat) : Below B a (w.drewN n) := ⟨h.os, h.tape, h.output, h.size, h.block⟩

/-- A block of many cells, one of them stored. -/
theorem row_setCell {w : World} {b : Nat} {cs : Array Value} {t : TypeId} {f : Nat × Nat} (h : w.heap[b]? = some (.cells cs t f)) (i : Nat) (v : Value) : (w.setCell ⟨b, i, none⟩ v).heap[b]? = some (.cells (cs.setIfInBounds i v) t f) := by
  have hlt := lt_of_block h
  have h' : w.heap[b] = .cells cs t f := by simpa [Array.getElem?_eq_getElem hlt] using h
  show (w.heap.modify b _)[b]? = _
  rw [Array.getElem?_eq_getElem (by simpa using hlt), Array.getElem_modify_self, h']
  rfl

/-- Rows of different kinds lie apart. -/
theorem rows_apart {base base' : Nat} {e e' : TypeId} {s s' : Nat} {w : World} {v v' : Value} {n n' : Nat} {xs xs' : List Value} (h : w.ownsRow base e s v n xs) (h' : w.ownsRow base' e' s' v' n' xs') (he : e ≠ e') : ∀ t, v.ownBlock = some t → v'.ownBlock ≠ some t := by
  intro t ht ht'
  obtain ⟨_, ⟨rfl, _⟩ | ⟨g, cap, cur, rfl, _, hg, _⟩⟩ := h
  · simp [Value.ownBlock] at ht
  obtain ⟨_, ⟨rfl, _⟩ | ⟨g', cap', cur', rfl, _, hg', _⟩⟩ := h'
  · simp [Value.ownBlock] at ht'
  simp only [Value.ownBlock, Option.some.injEq] at ht ht'
  subst ht
  subst ht'
  rw [hg] at hg'
  simp at hg'
  exact he hg'.2

theorem below_row {w w' : World} (h : Below w.heap.size w w') {base : Nat} {e : TypeId} {size : Nat} {v : Value} {n : Nat} {xs : List Value} (hr : w.ownsRow base e size v n xs) : w'.ownsRow base e size v n xs :=
  (Mod.of_below (S := fun _ => False) h).row hr (fun _ _ => id)

theorem below_of_drew {w w1 : World} (h : Below w.drew.heap.size w.drew w1) : Below w.heap.size w w1 := ⟨h.os, h.tape, h.output, h.size, h.block⟩

/-- A byte, as a value. -/
abbrev bv (c : UInt8) : Value := .int .u8 c.toNat

theorem slice_form {base : Nat} {e : TypeId} {size : Nat} {w : World} {v : Value} {n : Nat} {xs : List Value} (h : w.ownsRow base e size v n xs) : ∃ a c, v = .slice a n c := by
  obtain ⟨_, ⟨rfl, rfl⟩ | ⟨g, cap, cur, rfl, _⟩⟩ := h
  · exact ⟨_, _, rfl⟩
  · exact ⟨_, _, rfl⟩

theorem own_ne {base : Nat} {e : TypeId} {w : World} {v : Value} {n : Nat} {xs : List Value} {s : Nat} {cs : Array Value} {t : TypeId} (h : w.ownsRow base e 1 v n xs) (hs : w.heap[s]? = some (.cells cs t (0, 0))) (ht : t ≠ e) : v.ownBlock ≠ some s := by
  intro he
  obtain ⟨_, ⟨rfl, _⟩ | ⟨g, cap, cur, rfl, _, hg, _⟩⟩ := h
  · simp [Value.ownBlock] at he
  · simp only [Value.ownBlock, Option.some.injEq] at he
    subst he
    rw [hg] at hs
    simp at hs
    exact ht hs.2.symm

theorem Mod.chain {S T : Nat → Prop} {w wr w' : World} (h : Mod S w wr) (k : Mod T wr w') (hT : ∀ t, t < w.heap.size → T t → S t) : Mod S w w' :=
  ⟨k.os.trans h.os, k.tape.trans h.tape, k.output.trans h.output, Nat.le_trans h.size k.size,
    fun i hi hs => (k.block i (Nat.lt_of_lt_of_le hi h.size) (fun ht => hs (hT i hi ht))).trans (h.block i hi hs)⟩

/-- Bytes that came in, or lie in a row. -/
structure BytesAt (w : World) (a : Option Addr) (bs : List UInt8) : Prop where
  cells : ∀ (i : Nat) (x : UInt8), bs[i]? = some x → ∃ b off, a = some ⟨b, off, none⟩ ∧ w.cell? ⟨b, off + i, none⟩ = some (bv x)

theorem BytesAt.keep {S : Nat → Prop} {w w' : World} {a : Option Addr} {bs : List UInt8} (h : BytesAt w a bs) (m : Mod S w w') (hS : bs ≠ [] → ∀ ad, a = some ad → ¬ S ad.block) : BytesAt w' a bs := by
  refine ⟨fun i x hx => ?_⟩
  obtain ⟨b, off, rfl, hc⟩ := h.cells i x hx
  exact ⟨b, off, rfl, (World.cell?_of_block (m.block b (World.block_lt_of_cell? w _ hc) (hS (by intro e; rw [e] at hx; simp at hx) _ rfl))).trans hc⟩


theorem info5 : (Tryd.prog.info? 5).map (fun i => (i.zero, i.size, i.bytes)) = some (some (.int .u8 0), 1, 1) := by kernel_rfl

end Go.Proofs.YtjbhdidjkdlceaaDoor
