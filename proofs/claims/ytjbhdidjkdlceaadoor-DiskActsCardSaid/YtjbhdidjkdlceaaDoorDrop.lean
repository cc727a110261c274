/- drop, by its contract: a file less. -/
import Derived.Test.YtjbhdidjkdlceaaDoorSyncg
namespace Go.Proofs.YtjbhdidjkdlceaaDoor
open Go.RowKit Go.Maps
set_option linter.unusedVariables false

theorem foot_delF {D M : Nat} {fs : List PF} {nm : List UInt8} {k : Nat} (h : Foot D M (delF fs nm) k) : Foot D M fs k := by
  rcases h with h | h | ⟨f, hf, h⟩
  · exact .inl h
  · exact .inr (.inl h)
  · exact .inr (.inr ⟨f, (List.mem_filter.1 hf).1, h⟩)

/-- A file less. -/
theorem Disk.delete {w w' : World} {D M : Nat} {fs : List PF} {room used ops arm keep fail : Int} {nm : List UInt8} (h : Disk w D M fs room used ops arm keep fail) (m : Mod (fun t => t = M) w w') {n : Nat}
    (hown : w'.ownsMap Tryd.prog 9 ptrR M n ((dataOf fs).del (.string nm))) : Did D M fs (delF fs nm) room used ops arm keep fail w w' := by
  obtain ⟨n1, n2, n3⟩ := h.ne
  refine ⟨m.mono (fun t _ ht => .inr (.inl ht)), ⟨m.keep h.cells n1, ?_, fun g hg => ?_, h.apart.filter _⟩, fun k hk => .inl (foot_delF hk)⟩
  · have := tight hown
    rw [del_dataOf, size_dataOf] at this
    exact this
  · have hg' := (List.mem_filter.1 hg).1
    obtain ⟨a1, a2, a3, a4⟩ := n2 g hg'
    have hG := h.files g hg'
    exact ⟨m.keep hG.cells a2, m.row hG.row (fun k hk e => a4 (e ▸ hk)), hG.safe⟩

def lenOf (fs : List PF) (nm : List UInt8) : Nat := ((findF fs nm).map (·.b.length)).getD 0

set_option maxHeartbeats 1000000 in
theorem drop_any (D M : Nat) (fs : List PF) (room used ops arm keep fail : Int) (hu : 0 ≤ used ∧ used ≤ 1000000000) (hl : ∀ f ∈ fs, f.b.length ≤ 1000000)
    (s : ByteArray) (hs : s.size ≤ 9223372036854775807) (w : World) (h : Disk w D M fs room used ops arm keep fail) :
    Calls Tryd.prog 48 #[.pointer (some ⟨D, 0, none⟩), .string s] w fun e w' => e = .returned (.tuple #[]) ∧ Did D M fs (delF fs s.data.toList) room (used - lenOf fs s.data.toList) ops arm keep fail w w' := by
  obtain ⟨c0, c1, c2, c3, c4, c5, c6, hfz⟩ := dcell h.cells
  have f2 := hfz 2
  have H := Lib.hid h
  cases hf : findF fs s.data.toList with
  | none =>
    have HF := Lib.hid hf
    clear h hf hfz c1 c2 c3 c4 c5 c6
    go_enter Tryd.func48, Tryd.ntmps48
    go_wp2_with (at_lookup; refine wpList_lookup_own_ok _ rfl _ _ 64 rfl 9 80 keyed9 Tryd.underlying64 ptrR (zero80 _) .nil [] ptrR_nil M fs.length (dataOf fs) rfl H.out.map _ (.string s.data.toList) rfl (key_of hs) ?_)
    intro v ps hv
    rw [atKey_dataOf, HF.out] at hv
    obtain rfl := ptrR_inv_nil hv
    rw [has_dataOf, HF.out]
    clear hv
    go_wp2
    go_end0
    refine ⟨rfl, ?_⟩
    have e1 : lenOf fs s.data.toList = 0 := by unfold lenOf; rw [HF.out]; rfl
    rw [delF_none HF.out, e1]
    have := Did.refl H.out
    simpa using this
  | some f =>
    have HF := Lib.hid hf
    have hfm : f ∈ fs := List.mem_of_find?_eq_some hf
    have hFA := h.files f hfm
    obtain ⟨fa, fc, hbv⟩ := slice_form hFA.row
    have k0 : w.cell? ⟨f.blk, 0, none⟩ = some f.bv := by rw [cell_of_row _ _ _ _ _ _ hFA.cells]; rfl
    rw [hbv] at k0
    have hl1 := hl f hfm
    have s1 : IntKind.i64.wrap (used - f.b.length) = used - f.b.length := IntWalk.i64_in _ (by omega)
    clear h hf hfz c1 c3 c4 c5 c6 hFA hbv
    go_enter Tryd.func48, Tryd.ntmps48
    go_wp2_with (at_lookup; refine wpList_lookup_own_ok _ rfl _ _ 64 rfl 9 80 keyed9 Tryd.underlying64 ptrR (zero80 _) .nil [] ptrR_nil M fs.length (dataOf fs) rfl H.out.map _ (.string s.data.toList) rfl (key_of hs) ?_)
    intro v ps hv
    rw [atKey_dataOf, HF.out] at hv
    obtain rfl := ptrR_inv hv
    rw [has_dataOf, HF.out]
    clear hv
    go_wp2_with fail
    go_region
    obtain ⟨w1, hw1⟩ : ∃ w1 : World, w1 = (w.setCell ⟨D, 2, none⟩ (.int .i64 (used - f.b.length))).drew := ⟨_, rfl⟩
    rw [← hw1]
    have m1 : Mod (fun t => t = D) w w1 := by rw [hw1]; exact (mod_cell D 2 w _).drewN 1
    have hd1 : Disk w1 D M fs room (used - f.b.length) ops arm keep fail := H.out.turn m1 (by rw [hw1]; exact row_setCell H.out.cells 2 _)
    obtain ⟨c0, c1, c2, c3, c4, c5, c6, hfz⟩ := dcell hd1.cells
    have HT1 := Lib.hid (Turned.mk m1 hd1)
    clear m1 hd1 hw1 hfz c1 c2 c3 c4 c5 c6
    go_wp2_with (at_delete; refine wpList_delete_own _ rfl _ _ 64 9 rfl 80 keyed9 Tryd.underlying64 ptrR M fs.length (dataOf fs) rfl HT1.out.disk.map _ (.string s.data.toList) rfl (key_of hs) ?_)
    intro w2 hown hmt
    have hdel := HT1.out.disk.delete (Mod.grown hmt.grown (fun k hk => by simp only [Option.some.injEq] at hk; exact hk.symm)) hown
    have HDEL := Lib.hid hdel
    clear hown hmt hdel
    go_wp2
    go_end0
    refine ⟨rfl, ?_⟩
    have e1 : lenOf fs s.data.toList = f.b.length := by unfold lenOf; rw [HF.out]; rfl
    rw [e1]
    exact (Did.of_turned HT1.out).trans HDEL.out

end Go.Proofs.YtjbhdidjkdlceaaDoor
