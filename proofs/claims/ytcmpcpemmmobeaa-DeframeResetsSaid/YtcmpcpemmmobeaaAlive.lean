/- The law's own example, alive. -/
import Derived.Test.YtcmpcpemmmobeaaRead
namespace Go.Proofs.Ytcmpcpemmmobeaa
set_option linter.unusedVariables false
open Go.RowKit

theorem bytes_of_row {w : World} {base : Nat} {ra : Option Addr} {rc : Nat} {x : List UInt8} (h : w.ownsRow base 5 1 (.slice ra x.length rc) x.length (x.map bv)) : BytesAt w ra x := by
  refine ⟨fun i y hy => ?_⟩
  rcases h.2 with ⟨_, h0⟩ | ⟨g, cap, cur, hv, _⟩
  · have : x = [] := List.length_eq_zero_iff.1 h0
    subst this
    simp at hy
  · have hc := h.cells (g := g) (by rw [hv]; rfl) i (bv y) (by simp [hy])
    simp only [Value.slice.injEq] at hv
    obtain ⟨rfl, _, _⟩ := hv
    refine ⟨g, 0, rfl, ?_⟩
    rw [Addr.add_lit] at hc
    exact hc

theorem found_rows {w : World} {lo nb : Nat} {fa : Option Addr} {n fc : Nat} {xs : List (List UInt8)} (h : Found w lo nb (.slice fa n fc) xs) : RowsAt w fa xs := by
  obtain ⟨vs, h1, h2⟩ := h
  refine ⟨fun i x hx => ?_⟩
  have hlen := Rows.len h2
  have hi : i < xs.length := (List.getElem?_eq_some_iff.1 hx).1
  have hv : vs[i]? = some (vs[i]'(by omega)) := List.getElem?_eq_getElem _
  have hF := Rows.get h2 i _ x hv hx
  rcases h1.2 with ⟨_, h0⟩ | ⟨g, cap, cur, hs, _⟩
  · omega
  · have hc := h1.cells (g := g) (by rw [hs]; rfl) i _ hv
    simp only [Value.slice.injEq] at hs
    obtain ⟨rfl, _, _⟩ := hs
    obtain ⟨ra, rc, hr⟩ := slice_form hF.row
    have hrow := hF.row
    rw [hr] at hrow hc
    rw [Addr.add_lit] at hc
    exact ⟨g, 0, ra, rc, rfl, hc, bytes_of_row hrow⟩

theorem DSt.over {S : Nat → Prop} {w w' : World} {D most lo nb : Nat} {nv : Value} {s : St} (h : DSt w D most lo nb nv (.slice Option.none 0 0) s) (m : Mod S w w') (hD : ¬ S D) (hn : ∀ t, nv.ownBlock = some t → ¬ S t) (hf : s.frames = []) : DSt w' D most lo nb nv (.slice Option.none 0 0) s :=
  ⟨m.keep h.cells hD, m.row h.row hn, h.none, Nat.le_trans h.nbw m.size, by rw [hf]; exact found_nil _ _ _, Nat.le_trans h.lob m.size⟩

def sample : List UInt8 := [65, 11, 66, 28, 13, 11, 67, 11, 68]
theorem sample_told : (St.init.steps 3 sample).frames = [[66]] ∧ (St.init.steps 3 sample).junk = 1 ∧ (St.init.steps 3 sample).broken = 1 ∧ (St.init.steps 3 sample).held = 2 ∧ (St.init.steps 3 sample).over = 0 := by decide
theorem sample_given : (St.init.steps 3 sample).given.junk = 1 ∧ (St.init.steps 3 sample).given.broken = 1 ∧ (St.init.steps 3 sample).given.held = 2 ∧ (St.init.steps 3 sample).given.over = 0 ∧ (St.init.steps 3 sample).given.now.length ≤ 100000 := by decide

set_option maxHeartbeats 1600000 in
theorem alive_any (w : World) : Calls Try.prog 5 #[] w fun e w' => e = .returned (.bool true) ∧ Below w.heap.size w w' := by
  have HN := Lib.hid (new_any 3 (by decide) (by decide) w)
  go_enter Try.func5, Try.ntmps5
  go_wp2_with fail
  refine HN.out.mono ?_
  rintro e w1 ⟨rfl, hb1, hd1⟩
  have HB1 := Lib.hid hb1
  have HD1 := Lib.hid hd1
  clear hb1 hd1 HN
  go_wp2_with fail
  have hd2 := HD1.out.over (w' := w1.alloc (.cells #[.int .u8 65, .int .u8 11, .int .u8 66, .int .u8 28, .int .u8 13, .int .u8 11, .int .u8 67, .int .u8 11, .int .u8 68] 5)) (Mod.of_below (S := fun _ => False) ((Below.refl _ w1).alloc (Nat.le_refl _) _)) (fun h => h) (fun _ _ h => h) rfl
  have hb2 : BytesAt (w1.alloc (.cells #[.int .u8 65, .int .u8 11, .int .u8 66, .int .u8 28, .int .u8 13, .int .u8 11, .int .u8 67, .int .u8 11, .int .u8 68] 5)) (some ⟨w1.heap.size, 0, none⟩) sample :=
    ⟨fun i x hx => ⟨w1.heap.size, 0, rfl, by rw [Nat.zero_add]; exact lit_cells w1 _ sample rfl i (bv x) (by simp [hx])⟩⟩
  refine (feed_any w.heap.size 3 0 0 (.slice none 0 0) St.init sample 9 rfl (St.good_init _) (by decide) rfl (by decide) (some ⟨w1.heap.size, 0, none⟩) 9 _ hd2 hb2 ?_).mono ?_
  · intro _ ad had
    simp only [Option.some.injEq] at had
    subst had
    refine ⟨?_, by simp [Value.ownBlock]⟩
    have := lt_of_block HD1.out.cells
    show w1.heap.size ≠ _
    omega
  rintro e w2 ⟨hm, fa, fc, nb, nv, rfl, hd, hf, hn⟩
  have HM := Lib.hid hm
  have HD := Lib.hid hd
  obtain ⟨t1, t2, t3, t4, t5⟩ := sample_told
  obtain ⟨g2, g3, g4, g5, g6⟩ := sample_given
  have hr := found_rows hf
  rw [t1] at hr
  obtain ⟨b, off, ra, rc, rfl, k, hB⟩ := hr.cells 0 [66] rfl
  have hc := conv_of hB rc
  rw [show strOf [66] = ⟨#[66]⟩ from by decide] at hc
  simp only [Nat.add_zero, List.length_cons, List.length_nil, Nat.zero_add] at k hc
  have hl : (St.init.steps 3 sample).frames.length = 1 := by rw [t1]; rfl
  rw [hl]
  have HJ := Lib.hid (junk_any _ _ _ _ _ _ _ w2 hd)
  have HBR := Lib.hid (broken_any _ _ _ _ _ _ _ w2 hd)
  have HOV := Lib.hid (over_any _ _ _ _ _ _ _ w2 hd)
  have HHE := Lib.hid (held_any _ _ _ _ _ _ _ g6 w2 hd)
  rw [g2] at HJ
  rw [g3] at HBR
  rw [g4] at HHE
  rw [g5] at HOV
  have HSM := Lib.hid hm.size
  clear hm hd hf hn hr hB hl t1 t2 t3 t4 t5 g2 g3 g4 g5 g6 hd2 hb2
  go_wp2_with (first
    | (go_at_call 13; refine HJ.out.mono ?_; rintro e w' ⟨rfl, rfl⟩)
    | (go_at_call 15; refine HBR.out.mono ?_; rintro e w' ⟨rfl, rfl⟩)
    | (go_at_call 12; refine HHE.out.mono ?_; rintro e w' ⟨rfl, rfl⟩)
    | (go_at_call 14; refine HOV.out.mono ?_; rintro e w' ⟨rfl, rfl⟩))
  go_ret
  refine ⟨by simp, HB1.out.trans (Below.trans ((Below.refl _ w1).alloc HB1.out.size _) (HM.out.below (fun k hk => ?_) ?_))⟩
  · rcases hk with hk | hk
    · omega
    · simp [Value.ownBlock] at hk
  · have := HB1.out.size
    simp
    omega

end Go.Proofs.Ytcmpcpemmmobeaa
