/- bytes.Clone and Read, by their contracts. -/
import Derived.Test.YtjbhdidjkdlceaaDoorAppendNew
namespace Go.Proofs.YtjbhdidjkdlceaaDoor
open Go.RowKit Go.Maps
set_option linter.unusedVariables false

theorem eql_bytes_none (n c : Nat) (w : World) : (binOp .eql 34 (.slice none n c) (.slice none 0 0)).run Tryd.prog w = .ok (.bool true) w := Lib.run_eql_slice_nil w 34 5 none n c 0 0 Tryd.underlying34
theorem eql_bytes_some (a : Addr) (n c : Nat) (w : World) : (binOp .eql 34 (.slice (some a) n c) (.slice none 0 0)).run Tryd.prog w = .ok (.bool false) w := Lib.run_eql_slice_nil w 34 5 (some a) n c 0 0 Tryd.underlying34
attribute [go_sem] eql_bytes_none eql_bytes_some

theorem bytes_of_row {w : World} {base : Nat} {ra : Option Addr} {rc : Nat} {x : List UInt8} (h : w.ownsRow base 5 1 (.slice ra x.length rc) x.length (x.map bv)) : BytesAt w ra x := by
  refine ⟨fun i y hy => ?_⟩
  rcases h.2 with ⟨_, h0⟩ | ⟨g, cap, cur, hv, _⟩
  · have : x = [] := List.length_eq_zero_iff.1 h0
    subst this
    simp at hy
  · have hc := h.cells (g := g) (by rw [hv]; rfl) i (bv y) (by simp [hy])
    simp only [Value.slice.injEq] at hv
    obtain ⟨rfl, _, _⟩ := hv
    refine ⟨g, 0, rfl, ?_⟩
    rw [Addr.add_lit] at hc
    exact hc

set_option maxHeartbeats 800000 in
/-- bytes.Clone. -/
theorem clone_any (base : Nat) (nv : Value) (now : List UInt8) (w : World) (hrow : w.ownsRow base 5 1 nv now.length (now.map bv)) (hn : now.length ≤ 100000) :
    Calls Tryd.prog 43 #[nv] w fun e w' => ∃ a c, e = .returned (.slice a now.length c) ∧ Below w.heap.size w w' ∧ w'.ownsRow w.heap.size 5 1 (.slice a now.length c) now.length (now.map bv) := by
  have hrow0 := hrow
  obtain ⟨hl, ⟨rfl, h0⟩ | ⟨g0, cap0, cur, rfl, hg0, hgc, hrest⟩⟩ := hrow
  · have hnow : now = [] := List.length_eq_zero_iff.1 h0
    subst hnow
    clear hrow0
    go_enter Tryd.func43, Tryd.ntmps43
    go_wp2
    go_ret
    exact ⟨none, 0, rfl, Below.refl _ _, World.ownsRow_nil _ _ _ _⟩
  · have hb := bytes_of_row hrow0
    have hown0 : (w.alloc (.cells #[] 5)).ownsRow w.heap.size 5 1 (.slice (some ⟨w.heap.size, 0, none⟩) 0 0) 0 [] := World.ownsRow_made w #[] 0 (Nat.le_refl _) (Nat.zero_le _) rfl
    have HO0 := Lib.hid hown0
    have HB := Lib.hid (hb.below (Nat.le_refl _) ((Below.refl _ w).alloc (Nat.le_refl _) (.cells #[] 5)))
    clear hrow0 hb hown0 hl hg0 hgc hrest
    go_enter Tryd.func43, Tryd.ntmps43
    go_wp2_with (at_builtin; refine wpList_append_bytes rfl _ _ rfl (w.alloc (.cells #[] 5)) w.heap.size (.slice (some ⟨w.heap.size, 0, none⟩) 0 0) [] now now.length rfl (some ⟨g0, 0, none⟩) cap0 rfl HO0.out (by simp) (by simp; omega) rfl HB.out (fun h => by cases h) ?_)
    intro aa ac w1 hg
    have HG := Lib.hid hg
    clear hg
    go_wp2
    go_ret
    refine ⟨aa, ac, by simp, ?_, by simpa using HG.out.row⟩
    refine ((Below.refl _ w).alloc (Nat.le_refl _) (.cells #[] 5)).trans ?_
    exact HG.out.mod.below (fun k hk => by simp only [Value.ownBlock, Option.some.injEq] at hk; omega) (by simp)

set_option maxHeartbeats 800000 in
/-- Read, of a file that is there. -/
theorem read_found (D M : Nat) (fs : List PF) (room used ops arm keep fail : Int) (s : ByteArray) (hs : s.size ≤ 9223372036854775807) (f : PF) (hf : findF fs s.data.toList = some f) (hfl : f.b.length ≤ 100000) (w : World) (h : Disk w D M fs room used ops arm keep fail) :
    Calls Tryd.prog 18 #[.pointer (some ⟨D, 0, none⟩), .string s] w fun e w' => ∃ a c, e = .returned (.tuple #[.slice a f.b.length c, .int .i64 0]) ∧ Below w.heap.size w w' ∧ w'.ownsRow w.heap.size 5 1 (.slice a f.b.length c) f.b.length (f.b.map bv) := by
  obtain ⟨c0, c1, c2, c3, c4, c5, c6, hfz⟩ := dcell h.cells
  have hfm : f ∈ fs := List.mem_of_find?_eq_some hf
  have hFA := h.files f hfm
  obtain ⟨fa, fc, hbv⟩ := slice_form hFA.row
  have k0 : w.cell? ⟨f.blk, 0, none⟩ = some f.bv := by rw [cell_of_row _ _ _ _ _ _ hFA.cells]; rfl
  have hrow := hFA.row
  rw [hbv] at k0 hrow
  have HC := Lib.hid (clone_any 0 _ f.b w hrow hfl)
  have H := Lib.hid h
  have HF := Lib.hid hf
  clear h hf hFA hbv hrow hfz c1 c2 c3 c4 c5 c6
  go_enter Tryd.func18, Tryd.ntmps18
  go_wp2_with (at_lookup; refine wpList_lookup_own_ok _ rfl _ _ 64 rfl 9 80 keyed9 Tryd.underlying64 ptrR (zero80 _) .nil [] ptrR_nil M fs.length (dataOf fs) rfl H.out.map _ (.string s.data.toList) rfl (key_of hs) ?_)
  intro v ps hv
  rw [atKey_dataOf, HF.out] at hv
  obtain rfl := ptrR_inv hv
  rw [has_dataOf, HF.out]
  clear hv
  go_wp2_with fail
  refine HC.out.mono ?_
  rintro e w' ⟨a, c, rfl, hb, hr⟩
  have HB := Lib.hid hb
  have HR := Lib.hid hr
  clear hb hr
  go_wp2
  go_ret2
  exact ⟨a, c, by simp, HB.out, HR.out⟩

set_option maxHeartbeats 800000 in
/-- Read, of a file that is not there. -/
theorem read_none (D M : Nat) (fs : List PF) (room used ops arm keep fail : Int) (s : ByteArray) (hs : s.size ≤ 9223372036854775807) (hf : findF fs s.data.toList = none) (w : World) (h : Disk w D M fs room used ops arm keep fail) :
    Calls Tryd.prog 18 #[.pointer (some ⟨D, 0, none⟩), .string s] w fun e w' => e = .returned (.tuple #[.slice none 0 0, .int .i64 6]) ∧ w' = w := by
  obtain ⟨c0, c1, c2, c3, c4, c5, c6, hfz⟩ := dcell h.cells
  have H := Lib.hid h
  have HF := Lib.hid hf
  clear h hf hfz c1 c2 c3 c4 c5 c6
  go_enter Tryd.func18, Tryd.ntmps18
  go_wp2_with (at_lookup; refine wpList_lookup_own_ok _ rfl _ _ 64 rfl 9 80 keyed9 Tryd.underlying64 ptrR (zero80 _) .nil [] ptrR_nil M fs.length (dataOf fs) rfl H.out.map _ (.string s.data.toList) rfl (key_of hs) ?_)
  intro v ps hv
  rw [atKey_dataOf, HF.out] at hv
  obtain rfl := ptrR_inv_nil hv
  rw [has_dataOf, HF.out]
  clear hv
  go_wp2
  go_ret2
  simp

end Go.Proofs.YtjbhdidjkdlceaaDoor
