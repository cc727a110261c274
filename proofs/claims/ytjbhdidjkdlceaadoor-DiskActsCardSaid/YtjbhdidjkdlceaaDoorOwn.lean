/- DiskOwn, whatever its arguments. -/
import Derived.Test.YtjbhdidjkdlceaaDoorAlive
import Derived.Test.YtjbhdidjkdlceaaDoorOpen
namespace Go.Proofs.YtjbhdidjkdlceaaDoor
open Go.RowKit Go.Maps
set_option linter.unusedVariables false

/-- A row of bytes of the call's own, whatever they are. -/
structure OwnRow (base n : Nat) (v : Value) (w : World) : Prop where
  ex : ∃ vs : List Value, (∀ x ∈ vs, ∃ z : Int, x = .int .u8 z) ∧ w.ownsRow base 5 1 v n vs

theorem OwnRow.of_bytes {base n : Nat} {v : Value} {w : World} {bs : List UInt8} (h : w.ownsRow base 5 1 v n (bs.map bv)) : OwnRow base n v w :=
  ⟨_, fun x hx => by obtain ⟨c, _, rfl⟩ := List.mem_map.1 hx; exact ⟨_, rfl⟩, h⟩
theorem OwnRow.keep {S : Nat → Prop} {base n : Nat} {v : Value} {w w' : World} (h : OwnRow base n v w) (m : Mod S w w') (hS : ∀ k, v.ownBlock = some k → ¬ S k) : OwnRow base n v w' := by
  obtain ⟨vs, h1, h2⟩ := h.ex
  exact ⟨vs, h1, m.row h2 hS⟩
theorem OwnRow.at {base n : Nat} {v : Value} {w : World} (h : OwnRow base n v w) {j : Nat} (hj : j < n) : ∃ g cap z, v = .slice (some ⟨g, 0, none⟩) n cap ∧ w.cell? ⟨g, j, none⟩ = some (.int .u8 z) ∧ w.frozen? ⟨g, j, none⟩ = false ∧
    ∀ z', OwnRow base n v (w.setCell ⟨g, j, none⟩ (.int .u8 z')) ∧ Mod (fun t => v.ownBlock = some t) w (w.setCell ⟨g, j, none⟩ (.int .u8 z')) := by
  obtain ⟨vs, h1, h2⟩ := h.ex
  obtain ⟨g, cap, rfl, _, _⟩ := h2.form (by omega)
  have hlen : vs.length = n := by have := h2.1; omega
  obtain ⟨z, hz⟩ := h1 (vs[j]'(by omega)) (List.getElem_mem _)
  refine ⟨g, cap, z, rfl, ?_, h2.frozenAt j, fun z' => ⟨⟨_, fun x hx => ?_, (h2.stored j (.int .u8 z')).1⟩, Mod.setCell (S := fun t => (Value.slice (some ⟨g, 0, none⟩) n cap).ownBlock = some t) (a := ⟨g, j, none⟩) rfl _⟩⟩
  · rw [h2.cellAt j (by omega), List.getElem?_eq_getElem (by omega), hz]
  · rcases List.mem_or_eq_of_mem_set hx with h3 | h3
    · exact h1 x h3
    · exact ⟨z', h3⟩

theorem append_fits {s : PS} {nm bs : List UInt8} (hn : isName nm = true) (hg : s.gone = false) (hr : (bs.length : Int) ≤ s.room - s.used) :
    s.append nm bs = (.told bs.length 0, { s with L := grow s.L nm bs, used := s.used + bs.length, ops := s.ops + 1 }) := by
  have hl : laid s bs.length = bs.length := by
    unfold laid laid0
    rw [hg]
    simp only [Bool.false_eq_true, if_false]
    omega
  unfold PS.append
  rw [if_neg (by rw [hn]; decide), hg, hl]
  simp [errOf, List.take_length]

def ownS (bs : List UInt8) : PS := ⟨[⟨[102], bs, 0⟩], 1073741824, bs.length, 1, 0, 0, 0⟩
theorem own_append (bs : List UInt8) (h : bs.length ≤ 2000) : (newS 1073741824).append [102] bs = (.told bs.length 0, ownS bs) := by
  rw [append_fits rfl rfl (by show (bs.length : Int) ≤ 1073741824 - 0; omega)]
  simp [newS, ownS, grow, findV, insV]
theorem ownS_ok (bs : List UInt8) (h : bs.length ≤ 2000) : Ok 100000 100000 (ownS bs) := by
  have := (newS_ok (n := 1073741824) (by decide) (by decide)).append [102] bs
  rw [own_append bs h] at this
  exact this.mono (by decide) (by omega)

set_option maxRecDepth 100000 in
set_option maxHeartbeats 2000000 in
theorem diskOwn_any {W : World} (ra : Option Addr) (rc : Nat) (bs : List UInt8) (len : Nat) (hlen : bs.length = len) (hb : BytesAt W ra bs) (hnil : ra = none → rc = 0) (hl0 : len ≤ 140737488355328) (c : Int) :
    Calls Tryd.prog 5 #[.slice ra len rc, .int .u8 c] W fun e w' => e = .returned (.bool true) ∧ Below W.heap.size W w' := by
  have HN := Lib.hid (new_law 1073741824 (by decide) (by decide) W)
  by_cases hbig : 2000 < len
  · have HB := Lib.hid (Below.refl W.heap.size W)
    go_enter Tryd.func5, Tryd.ntmps5
    go_wp2_with (first
      | (go_at_call 12; refine HN.out.mono ?_; rintro e w1 ⟨rfl, hb1, hl1⟩; have HB := Lib.hid (HB.out.trans (hb1.mono HB.out.size)); clear hb1 hl1)
      | (go_at_call 10; refine (alive_any _).mono ?_; rintro e w2 ⟨rfl, hb2⟩; have HB := Lib.hid (HB.out.trans (hb2.mono HB.out.size)); clear hb2))
    all_goals (
      go_ret
      exact ⟨by simp, HB.out⟩)
  · go_enter Tryd.func5, Tryd.ntmps5
    go_wp2_with (first
      | (go_at_call 12; refine HN.out.mono ?_; rintro e w1 ⟨rfl, hb1, hl1⟩; have HB1 := Lib.hid hb1; have HL1 := Lib.hid hl1; clear hb1 hl1)
      | (go_at_call 10; refine (alive_any _).mono ?_; rintro e w2 ⟨rfl, hb2⟩; have HB2 := Lib.hid hb2; have HO0 := Lib.hid (World.ownsRow_made (base := w2.heap.size) (e := 5) (size := 1) w2 #[] 0 (Nat.le_refl _) (Nat.zero_le _) rfl); have HBT := Lib.hid (((hb.below (Nat.le_refl _) HB1.out).below (Nat.le_refl _) hb2).below (Nat.le_refl _) ((Below.refl _ w2).alloc (Nat.le_refl _) (.cells #[] 5))); clear hb2)
      | (at_builtin; refine wpList_append_bytes rfl _ _ rfl (w2.alloc (.cells #[] 5)) w2.heap.size (.slice (some ⟨w2.heap.size, 0, none⟩) 0 0) [] bs len hlen ra rc rfl HO0.out (by simp) (by simp; omega) rfl HBT.out hnil ?_; intro oa oc w3 hg; have HG := Lib.hid hg; clear hg))
    have hg : Grew w2.heap.size (.slice (some ⟨w2.heap.size, 0, none⟩) 0 0) [] bs (w2.alloc (.cells #[] 5)) w3 (.slice oa len oc) := by
      have := HG.out
      rw [show ([] : List UInt8).length + len = len by simp] at this
      exact this
    have hrow : w3.ownsRow w2.heap.size 5 1 (.slice oa len oc) len (bs.map bv) := by
      have := hg.row
      simp only [List.nil_append, hlen] at this
      exact this
    have hb23 : Below w2.heap.size w2 w3 := ((Below.refl _ w2).alloc (Nat.le_refl _) _).trans (hg.mod.below (fun k hk => by simp only [Value.ownBlock, Option.some.injEq] at hk; omega) (by simp))
    have hb2 : Below W.heap.size W w2 := HB1.out.trans (HB2.out.mono HB1.out.size)
    have hr1 : Room (fun k => k < W.heap.size) (W.heap.size + 1) W.heap.size (newS 1073741824) w1 := ⟨HL1.out, ok_big (newS_ok (by decide) (by decide)) (by decide) (by decide), fun k hk => Nat.lt_of_lt_of_le hk HB1.out.size⟩
    have hr3 : Room (fun k => k < W.heap.size ∨ (Value.slice oa len oc).ownBlock = some k) (W.heap.size + 1) W.heap.size (newS 1073741824) w3 :=
      (hr1.below HB2.out).more hb23 (fun k hk => hk.imp id (fun h => hrow.lt k h))
    have hbt3 : BytesAt w3 oa bs := by
      have : w3.ownsRow w2.heap.size 5 1 (.slice oa bs.length oc) bs.length (bs.map bv) := by rw [hlen]; exact hrow
      exact bytes_of_row this
    have honil : oa = none → oc = 0 := by
      rintro rfl
      rcases hrow.2 with ⟨h, _⟩ | ⟨g, cap, cur, h, _⟩
      · simp only [Value.slice.injEq] at h
        exact h.2.2
      · cases h
    have HA := append_law hr3 ⟨#[102]⟩ (by decide) bs len hlen (by omega) oa oc (row_cap hrow) hbt3 (fun _ ad had => by subst had; exact .inr rfl) honil
    have e1 : (newS 1073741824).append (ByteArray.data ⟨#[102]⟩).toList bs = (.told bs.length 0, ownS bs) := own_append bs (by omega)
    rw [e1] at HA
    have hwk : Calls Tryd.prog 17 #[.pointer (some ⟨W.heap.size + 1, 0, none⟩), .string ⟨#[102]⟩, .slice oa len oc] w3 fun e w4 => e = .returned (.tuple #[.int .i64 len, .int .i64 0]) ∧
        Room (fun k => k < W.heap.size ∨ (Value.slice oa len oc).ownBlock = some k) (W.heap.size + 1) W.heap.size (ownS bs) w4 ∧ OwnRow w2.heap.size len (.slice oa len oc) w4 ∧ Below W.heap.size W w4 := by
      refine HA.mono ?_
      rintro e w4 ⟨rfl, hw⟩
      refine ⟨by rw [hlen]; rfl, hr3.went hw (ownS_ok bs (by omega)), (OwnRow.of_bytes hrow).keep hw.mod (fun k hk hn => hn (.inr hk)), (hb2.trans (hb23.mono hb2.size)).trans (hw.mod.below (fun k hk => Nat.le_of_not_lt (fun h => hk (.inl h))) (Nat.le_trans hb2.size hb23.size))⟩
    have HWK := Lib.hid hwk
    clear hg hrow hb23 hb2 hr1 hr3 hbt3 honil HA e1 hwk HG HBT HO0 HL1
    refine HWK.out.mono ?_
    rintro e w4 ⟨rfl, hr4, ho4, hb4⟩
    have HR4 := Lib.hid hr4
    have HO4 := Lib.hid ho4
    have HB4 := Lib.hid hb4
    clear hr4 ho4 hb4 HWK
    go_wp2_with fail
    go_loopw [47] (fun i wr => ∃ j : Nat, j ≤ len ∧ i = .int .i64 j ∧ Room (fun k => k < W.heap.size ∨ (Value.slice oa len oc).ownBlock = some k) (W.heap.size + 1) W.heap.size (ownS bs) wr ∧ OwnRow w2.heap.size len (.slice oa len oc) wr ∧ Below W.heap.size W wr) (fun i _ => len - (intOf i).toNat)
    case atStart => exact ⟨0, Nat.zero_le _, rfl, HR4.out, HO4.out, HB4.out⟩
    case round =>
      obtain ⟨j, hj, rfl, hroom, hown, hbel⟩ := hrel
      have HROOM := Lib.hid hroom
      have HOWN := Lib.hid hown
      have HBEL := Lib.hid hbel
      clear hroom hown hbel
      by_cases hlt : j < len
      · obtain ⟨g, cap, z, hv, hc, hf, hst⟩ := HOWN.out.at hlt
        simp only [Value.slice.injEq, true_and] at hv
        obtain ⟨rfl, rfl⟩ := hv
        have HST := Lib.hid hst
        clear hst
        go_wp2_with fail
        go_roundw
        case rel =>
          obtain ⟨o1, m1⟩ := HST.out (bits BinOp.xor IntKind.u8 z (bits BinOp.or IntKind.u8 c 1))
          refine ⟨j + 1, by omega, by go_num, ⟨HROOM.out.lies.keep (m1.mono (fun t _ ht => .inr ht)) (fun k hk => .inl hk), HROOM.out.ok, fun k hk => Nat.lt_of_lt_of_le (HROOM.out.old k hk) m1.size⟩, o1, HBEL.out.trans (m1.below (fun k hk => ?_) HBEL.out.size)⟩
          obtain ⟨vs, _, hrow⟩ := HOWN.out.ex
          have := (hrow.lt k hk).1
          have h2 := HB1.out.size
          have h3 := HB2.out.size
          omega
        case measure => simp [intOf]; omega
      · have HRR := Lib.hid (read_law HROOM.out ⟨#[102]⟩ (by decide) ⟨[102], bs, 0⟩ rfl)
        go_wp2_with fail
        refine HRR.out.mono ?_
        rintro e w5 ⟨⟨xa, xc, rfl, hrow⟩, hb5⟩
        rw [hlen] at hrow ⊢
        have hr5 : Room (fun k => k < W.heap.size ∨ (Value.slice xa len xc).ownBlock = some k) (W.heap.size + 1) W.heap.size (ownS bs) w5 :=
          (HROOM.out.less (X' := fun k => k < W.heap.size) (fun k hk => .inl hk)).more hb5 (fun k hk => hk.imp id (fun h => hrow.lt k h))
        have HR5 := Lib.hid hr5
        have HO5 : Hid (OwnRow wr.heap.size len (.slice xa len xc) w5) := Lib.hid (OwnRow.of_bytes hrow)
        have HB5 : Hid (Below W.heap.size W w5) := Lib.hid (HBEL.out.trans (hb5.mono HBEL.out.size))
        clear hr5 hrow hb5 HRR
        go_wp2_with fail
        go_loopw [66] (fun i wr2 => ∃ j : Nat, j ≤ len ∧ i = .int .i64 j ∧ Room (fun k => k < W.heap.size ∨ (Value.slice xa len xc).ownBlock = some k) (W.heap.size + 1) W.heap.size (ownS bs) wr2 ∧ OwnRow wr.heap.size len (.slice xa len xc) wr2 ∧ Below W.heap.size W wr2) (fun i _ => len - (intOf i).toNat)
        case atStart => exact ⟨0, Nat.zero_le _, rfl, HR5.out, HO5.out, HB5.out⟩
        case round =>
          obtain ⟨j2, hj2, rfl, hroom2, hown2, hbel2⟩ := hrel
          have HROOM2 := Lib.hid hroom2
          have HOWN2 := Lib.hid hown2
          have HBEL2 := Lib.hid hbel2
          clear hroom2 hown2 hbel2
          by_cases hlt2 : j2 < len
          · obtain ⟨g2, cap2, z2, hv2, hc2, hf2, hst2⟩ := HOWN2.out.at hlt2
            simp only [Value.slice.injEq, true_and] at hv2
            obtain ⟨rfl, rfl⟩ := hv2
            have HST2 := Lib.hid hst2
            clear hst2
            go_wp2_with fail
            go_roundw
            case rel =>
              obtain ⟨o1, m1⟩ := HST2.out (bits BinOp.xor IntKind.u8 z2 (bits BinOp.or IntKind.u8 c 1))
              refine ⟨j2 + 1, by omega, by go_num, ⟨HROOM2.out.lies.keep (m1.mono (fun t _ ht => .inr ht)) (fun k hk => .inl hk), HROOM2.out.ok, fun k hk => Nat.lt_of_lt_of_le (HROOM2.out.old k hk) m1.size⟩, o1, HBEL2.out.trans (m1.below (fun k hk => ?_) HBEL2.out.size)⟩
              obtain ⟨vs, _, hrow⟩ := HOWN2.out.ex
              have := (hrow.lt k hk).1
              have h2 := HBEL.out.size
              omega
            case measure => simp [intOf]; omega
          · have HRR := Lib.hid (read_law HROOM2.out ⟨#[102]⟩ (by decide) ⟨[102], bs, 0⟩ rfl)
            go_wp2_with fail
            refine HRR.out.mono ?_
            rintro e w6 ⟨⟨ya, yc, rfl, hrow6⟩, hb6⟩
            have hcv1 := conv_of (bytes_of_row hrow6) yc
            have hb06 : Below W.heap.size W w6 := HBEL2.out.trans (hb6.mono HBEL2.out.size)
            have hcv2 := conv_of (hb.below (Nat.le_refl _) hb06) rc
            rw [hlen] at hcv1 hcv2 ⊢
            have HB6 := Lib.hid hb06
            clear hrow6 hb6 hb06 HRR
            go_wp2
            go_ret
            exact ⟨by simp, HB6.out⟩

theorem diskOwn_walk {H : Type} {enc : TypeId × Value → H} {W : World} (a : Option Addr) (len cap : Nat) {d : DataW H} {p : List MemPlace} (h : DataW.Trod enc Tryd.prog W 0 (fun _ => true) true 34 (.slice a len cap) d p) (hw : ∀ k ∈ d.weights Tryd.prog 34, k ≤ reachBytes)
    (c : Int) (wc : (Lit.int .u8 c).wf = true) : Calls Tryd.prog 5 #[.slice a len cap, .int .u8 c] W fun e w' => e = .returned (.bool true) ∧ Below W.heap.size W w' := by
  obtain ⟨fuel, hf⟩ := h
  obtain ⟨ra, rc, bs, hv, hb, hn, _, hl⟩ := bytes_open hf hw
  simp only [Value.slice.injEq] at hv
  obtain ⟨rfl, rfl, rfl⟩ := hv
  exact diskOwn_any a cap bs bs.length rfl hb hn hl c

end Go.Proofs.YtjbhdidjkdlceaaDoor
