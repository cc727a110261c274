/- DeframeFeeds, whatever its bytes. -/
import Derived.Test.YtcmpcpemmmobeaaAlive
import Derived.Laws.AppendOwnNone
namespace Go.Proofs.Ytcmpcpemmmobeaa
set_option linter.unusedVariables false
open Go.RowKit

/-- Rows of bytes that came in. -/
structure RowsIn (w : World) (a : Option Addr) (xs : List (List UInt8)) : Prop where
  cells : ∀ (i : Nat) (x : List UInt8), xs[i]? = some x → ∃ b off ra rc, a = some ⟨b, off, none⟩ ∧ w.cell? ⟨b, off + i, none⟩ = some (.slice ra x.length rc) ∧ BytesAt w ra x ∧ (ra = none → rc = 0)

theorem BytesAt.below {B : Nat} {w w' : World} {a : Option Addr} {x : List UInt8} (h : BytesAt w a x) (hB : w.heap.size ≤ B) (m : Below B w w') : BytesAt w' a x := by
  refine ⟨fun i y hy => ?_⟩
  obtain ⟨b, off, rfl, hc⟩ := h.cells i y hy
  refine ⟨b, off, rfl, (World.cell?_of_block (m.block b ?_)).trans hc⟩
  have := World.block_lt_of_cell? w _ hc
  simp at this
  omega

theorem RowsIn.below {w w' : World} {a : Option Addr} {xs : List (List UInt8)} (h : RowsIn w a xs) (m : Below w.heap.size w w') : RowsIn w' a xs := by
  refine ⟨fun i x hx => ?_⟩
  obtain ⟨b, off, ra, rc, rfl, hc, hb, hn⟩ := h.cells i x hx
  exact ⟨b, off, ra, rc, rfl, (World.cell?_of_block (m.block b (World.block_lt_of_cell? w _ hc))).trans hc, hb.below (Nat.le_refl _) m, hn⟩

theorem RowsIn.rows {w : World} {a : Option Addr} {xs : List (List UInt8)} (h : RowsIn w a xs) : RowsAt w a xs := by
  refine ⟨fun i x hx => ?_⟩
  obtain ⟨b, off, ra, rc, rfl, hc, hb, _⟩ := h.cells i x hx
  exact ⟨b, off, ra, rc, rfl, hc, hb⟩

/-- What came in lies below what was made. -/
theorem BytesAt.old {w : World} {a : Option Addr} {x : List UInt8} (h : BytesAt w a x) (hne : x ≠ []) : ∀ ad, a = some ad → ad.block < w.heap.size := by
  cases x with
  | nil => exact absurd rfl hne
  | cons c cs =>
    obtain ⟨b, off, rfl, hc⟩ := h.cells 0 c rfl
    intro ad had
    simp only [Option.some.injEq] at had
    subst had
    exact World.block_lt_of_cell? w _ hc

/-- 'append(all, b...)'. -/
theorem wpList_all {ops : Array Oper} {rest : List Oper} {o : Oper} {a : Act} {Q : Exit → Act → World → Prop} (hgd : o.guard = none) (s xo : Operand)
    (ho : o.op = .call { callee := .builtin .append, args := #[s, xo], argTypes := #[30, 30] }) (w0 : World) (base : Nat) (av : Value) (As x : List UInt8) (ra : Option Addr) (rc : Nat) (hs : a.eval s = av)
    (hrow : w0.ownsRow base 5 1 av As.length (As.map bv)) (hbase : base ≤ w0.heap.size) (hl : As.length + x.length ≤ 200000) (hx : a.eval xo = .slice ra x.length rc) (hb : BytesAt w0 ra x) (hnil : ra = none → rc = 0)
    (h : ∀ aa ac w', Grew base av As x w0 w' (.slice aa (As ++ x).length ac) → wpList Try.prog ops Q rest (a.put o.dst (.slice aa (As ++ x).length ac)) w') :
    wpList Try.prog ops Q (o :: rest) a w0 := by
  obtain ⟨i0, hin, hz0, hz1, hz2⟩ := info_parts info5
  cases ra with
  | none =>
    have hx0 : x = [] := by
      cases x with
      | nil => rfl
      | cons c cs =>
        obtain ⟨b, off, he, _⟩ := hb.cells 0 c rfl
        cases he
    subst hx0
    rw [hnil rfl] at hx
    obtain ⟨aa, ac, hv⟩ := slice_form hrow
    have hrow' := hrow
    rw [← hz1] at hrow
    refine wpList_append_own_none hgd s xo 30 ho base 5 i0 i0.size Try.underlying30 hin av As.length (As.map bv) hs hrow hx ?_
    have hv2 : av = .slice aa (As ++ []).length ac := by rw [hv]; simp
    rw [hv2]
    refine h aa ac w0 ⟨Mod.refl _ _, by rw [← hv2]; simpa using hrow', fun t ht => .inl (by rw [hv2]; exact ht)⟩
  | some ad =>
    refine wpList_append_own_at w0 hgd s xo 30 ho base 5 i0 (.int .u8 0) 1 1 Try.underlying30 hin hz0 hz1 hz2 rfl (by decide) av As.length (As.map bv) hs hrow ad x.length rc (x.map bv) hx (by simp) ?_ ?_ (by unfold maxLen; omega) (by omega) hbase ?_
    · intro j u hu
      rw [List.getElem?_map] at hu
      cases hy : x[j]? with
      | none => simp [hy] at hu
      | some y =>
        obtain ⟨b, off, he, hc⟩ := hb.cells j y hy
        cases he
        rw [Addr.add_lit, hc]
        simpa [hy] using hu
    · intro u hu
      obtain ⟨c, _, rfl⟩ := List.mem_map.1 hu
      rfl
    · intro v' w' hown hg _ hat
      obtain ⟨aa, ac, rfl⟩ := slice_form hown
      have e : As.length + x.length = (As ++ x).length := by simp
      rw [e] at hown hat ⊢
      refine h aa ac w' ⟨Mod.grown hg (fun k hk => hk), by simpa using hown, fun t ht => ?_⟩
      rcases hat with hat | hat
      · exact .inl (by rw [← hat]; exact ht)
      · rw [hat] at ht
        simp only [Option.some.injEq] at ht
        exact .inr (by omega)

theorem flatten_take (xs : List (List UInt8)) (j : Nat) : (xs.take j).flatten.length ≤ (xs.map List.length).sum := by
  induction xs generalizing j with
  | nil => simp
  | cons x xs ih =>
    cases j with
    | zero => simp
    | succ j =>
      have := ih j
      simp only [List.take_succ_cons, List.flatten_cons, List.length_append, List.map_cons, List.sum_cons]
      omega

theorem RowsAt.below {w w' : World} {a : Option Addr} {xs : List (List UInt8)} (h : RowsAt w a xs) (m : Below w.heap.size w w') : RowsAt w' a xs := by
  refine ⟨fun i x hx => ?_⟩
  obtain ⟨b, off, ra, rc, rfl, hc, hb⟩ := h.cells i x hx
  exact ⟨b, off, ra, rc, rfl, (World.cell?_of_block (m.block b (World.block_lt_of_cell? w _ hc))).trans hc, hb.below (Nat.le_refl _) m⟩

theorem rows_drop {w : World} {a : Option Addr} {xs pre ys : List (List UInt8)} (h : RowsAt w a xs) (hxs : xs = pre ++ ys) : RowsAt w (a.map (fun x => x.add pre.length)) ys := by
  refine ⟨fun i x hx => ?_⟩
  obtain ⟨b, off, ra, rc, rfl, hc, hb⟩ := h.cells (pre.length + i) x (by rw [hxs, List.getElem?_append_right (by omega)]; simpa using hx)
  refine ⟨b, off + pre.length, ra, rc, by simp [Addr.add_lit], ?_, hb⟩
  rw [Nat.add_assoc]
  exact hc

theorem found_cap {w : World} {lo nb : Nat} {fa : Option Addr} {n fc : Nat} {xs : List (List UInt8)} (h : Found w lo nb (.slice fa n fc) xs) : n ≤ fc := by
  obtain ⟨vs, h1, _⟩ := h
  rcases h1.2 with ⟨h2, _⟩ | ⟨g, cap, cur, h2, _, _, h3, _⟩
  · simp only [Value.slice.injEq] at h2
    omega
  · simp only [Value.slice.injEq] at h2
    omega

theorem Found.drewN {w : World} {lo nb : Nat} {fv : Value} {fs : List (List UInt8)} (h : Found w lo nb fv fs) (k : Nat) : Found (w.drewN k) lo nb fv fs :=
  h.keep (S := fun _ => False) ((Mod.refl _ w).drewN k) (fun _ _ h => h) (fun _ _ _ _ _ h => h)

theorem DSt.drewN {w : World} {D most lo nb : Nat} {nv fv : Value} {s : St} (h : DSt w D most lo nb nv fv s) (k : Nat) : DSt (w.drewN k) D most lo nb nv fv s := ⟨h.cells, h.row, h.none, h.nbw, h.found.drewN k, h.lob⟩

/-- The frames of a piece lie apart from the bytes of all. -/
theorem found_apart1 {w : World} {lo nb base n : Nat} {fv av : Value} {xs : List (List UInt8)} {vs : List Value} (h : Found w lo nb fv xs) (hr : w.ownsRow base 5 1 av n vs) : ∀ t, fv.ownBlock = some t → ¬ av.ownBlock = some t := by
  obtain ⟨us, h1, _⟩ := h
  exact fun t ht => rows_apart h1 hr (by decide) t ht
theorem found_apart2 {w w0 : World} {nb base n : Nat} {fv av : Value} {xs : List (List UInt8)} {vs : List Value} (h : Found w w0.heap.size nb fv xs) (hr : w0.ownsRow base 5 1 av n vs) : ∀ v x, FrameV w w0.heap.size nb v x → ∀ t, v.ownBlock = some t → ¬ av.ownBlock = some t := by
  intro v x hv t ht hs
  have := (hv.row.lt t ht).1
  have := (hr.lt t hs).2
  omega

/-- Where DeframeFeeds stands behind some of the pieces. -/
structure FInv (W : World) (D m : Nat) (As : List UInt8) (av : Value) (wr : World) : Prop where
  bel : Below W.heap.size W wr
  new : W.heap.size ≤ D
  row : wr.ownsRow W.heap.size 5 1 av As.length (As.map bv)
  st : ∃ lo nb nv, DSt wr D m lo nb nv (.slice none 0 0) (St.init.steps m As).given ∧ (∀ t, nv.ownBlock = some t → W.heap.size ≤ t) ∧ (∀ t, nv.ownBlock = some t → av.ownBlock ≠ some t)

set_option maxRecDepth 100000 in
set_option maxHeartbeats 1000000 in
theorem deframeFeeds_rows {W : World} (n : Int) (xs : List (List UInt8)) (a : Option Addr) (len cap : Nat) (hlen : xs.length = len) (hl : len ≤ 140737488355328) (hx : ∀ x ∈ xs, x.length ≤ 140737488355328) (h : RowsIn W a xs) :
    Calls Try.prog 3 #[.int .i64 n, .slice a len cap] W fun e w' => e = .returned (.bool true) ∧ Below W.heap.size W w' := by
  have H := Lib.hid h
  have HLEN := Lib.hid hlen
  have HX := Lib.hid hx
  clear h hlen hx
  go_enter Try.func3, Try.ntmps3
  go_wp2_with fail
  refine (alive_any _).mono ?_
  rintro e w1 ⟨rfl, hb1⟩
  have HB1 := Lib.hid hb1
  clear hb1
  go_wp2_with fail
  refine (great_any xs len HLEN.out hl HX.out a cap w1 (H.out.below HB1.out).rows).mono ?_
  rintro e w' ⟨rfl, g, rfl, hg⟩
  cases g with
  | true =>
    clear hg
    go_wp2_with fail
    refine (alive_any _).mono ?_
    rintro e w2 ⟨rfl, hb2⟩
    have HB2 := Lib.hid hb2
    clear hb2
    go_wp2
    go_ret
    exact ⟨rfl, HB1.out.trans (Below.mono HB2.out HB1.out.size)⟩
  | false =>
    obtain ⟨hl1, hsum⟩ := hg rfl
    have HSUM := Lib.hid hsum
    clear hg hsum
    obtain ⟨hm1, hm2⟩ := mostOf_room n
    obtain ⟨m, hm⟩ : ∃ m, m = mostOf n := ⟨_, rfl⟩
    have hmost : ∀ w, Calls Try.prog 8 #[.int .i64 n] w fun e w' => e = .returned (.int .i64 (mostOf n)) ∧ w = w' := fun w => (most_any n w).mono fun _ _ h => ⟨h.1, h.2.symm⟩
    rw [← hm] at hm1 hm2 hmost
    have HMOST := Lib.hid hmost
    clear hmost hm
    go_wp2_with (first | (go_at_call 8; refine (HMOST.out _).mono ?_; rintro e w' ⟨rfl, rfl⟩))
    refine (new_any m hm1 hm2 _).mono ?_
    rintro e w2 ⟨rfl, hb2, hd2⟩
    have HB2 := Lib.hid hb2
    have HD2 := Lib.hid hd2
    clear hb2 hd2
    have hsz1 := HB1.out.size
    have hbw : Below W.heap.size W w2 := HB1.out.trans (HB2.out.mono hsz1)
    have HBW := Lib.hid hbw
    obtain ⟨D, hD⟩ : ∃ D, D = w'.heap.size := ⟨_, rfl⟩
    rw [← hD] at HD2 ⊢
    have hDW : W.heap.size ≤ D := by omega
    clear hbw hsz1 HB2 hD HB1
    go_wp2
    go_loopw [7, 8, 35] (fun av t i wr => ∃ j : Nat, j ≤ len ∧ i = .int .i64 j ∧ t = .int .i64 (St.init.steps m (xs.take j).flatten).frames.length ∧ FInv W D m (xs.take j).flatten av wr) (fun _ _ i _ => len - (intOf i).toNat)
    case atStart =>
      refine ⟨0, Nat.zero_le _, rfl, rfl, HBW.out, hDW, World.ownsRow_nil _ _ _ _, 0, 0, .slice none 0 0, HD2.out, fun t ht => ?_, fun t ht => ?_⟩
      · simp [Value.ownBlock] at ht
      · simp [Value.ownBlock] at ht
    case round =>
      obtain ⟨j, hj, rfl, rfl, hI⟩ := hrel
      obtain ⟨aa, ac, hav⟩ := slice_form hI.row
      subst hav
      obtain ⟨hbel, _, hrow, lo, nb, nv, hst, hnv, hap⟩ := hI
      have HBL := Lib.hid hbel
      have HROW := Lib.hid hrow
      have HST := Lib.hid hst
      have HNV := Lib.hid hnv
      have HAP := Lib.hid hap
      clear hbel hrow hst hnv hap HD2 HBW
      by_cases hlt : j < len
      · obtain ⟨x, hx⟩ : ∃ x, xs[j]? = some x := ⟨xs[j]'(by rw [HLEN.out]; exact hlt), List.getElem?_eq_getElem _⟩
        obtain ⟨b, off, ra, rc, rfl, hcW, hbW, hnil⟩ := H.out.cells j x hx
        have hcell := (World.cell?_of_block (HBL.out.block b (World.block_lt_of_cell? W _ hcW))).trans hcW
        have htake : (xs.take (j + 1)).flatten = (xs.take j).flatten ++ x := by rw [List.take_add_one, hx]; simp
        have hroom : (xs.take (j + 1)).flatten.length ≤ 3000 := Nat.le_trans (flatten_take xs (j + 1)) HSUM.out
        rw [htake, List.length_append] at hroom
        have HTK := Lib.hid htake
        obtain ⟨As, hAs⟩ : ∃ As, As = (xs.take j).flatten := ⟨_, rfl⟩
        rw [← hAs] at HROW HST HTK HAP hroom ⊢
        clear htake hAs hx
        have hcnt := St.count_steps m As St.init
        have hgood := St.good_steps (most := m) As (St.good_init m)
        obtain ⟨hfr0, hgv⟩ := St.steps_given m (St.init.steps m As) x
        rw [← St.steps_append] at hfr0 hgv
        have hgood2 := St.good_steps (most := m) (As ++ x) (St.good_init m)
        obtain ⟨S2, hS2⟩ : ∃ S2, S2 = St.init.steps m (As ++ x) := ⟨_, rfl⟩
        obtain ⟨S, hS⟩ : ∃ S, S = St.init.steps m As := ⟨_, rfl⟩
        rw [← hS] at hcnt hgood hfr0 hgv HST ⊢
        rw [← hS2] at hfr0 hgv hgood2
        have hcnt2 : S.count ≤ As.length ∧ S.frames.length ≤ As.length := by
          have e0 : St.init.count = 0 ∧ St.init.frames.length = 0 := ⟨rfl, rfl⟩
          omega
        obtain ⟨S1, hS1⟩ : ∃ S1, S1 = S.given.steps m x := ⟨_, rfl⟩
        rw [← hS1] at hfr0 hgv
        have hcnt1 := St.count_steps m x S.given
        rw [← hS1] at hcnt1
        have hL1 : S1.frames.length ≤ x.length := by
          have : S.given.frames.length = 0 := rfl
          omega
        have hL2 : S2.frames.length = S.frames.length + S1.frames.length := by rw [hfr0, List.length_append]
        have hsub : S2.frames.length - S.frames.length = S1.frames.length := by omega
        have hnow2 : S2.given.now.length ≤ 100000 := by
          have := hgood2.most
          show S2.now.length ≤ _
          omega
        have HGV := Lib.hid hgv
        have HFR0 := Lib.hid hfr0
        have HS2 := Lib.hid hS2
        have HSUB := Lib.hid hsub
        have HNOW := Lib.hid hnow2
        have hL3 : S.frames.length ≤ S2.frames.length := by omega
        clear hcnt hcnt1 hgv hfr0 hS2 hsub hnow2 hgood2 hS hL2
        have HOLD := Lib.hid hbW.old
        have HBX := Lib.hid hbW
        have hfeed := feed_any D m lo nb nv S.given x x.length rfl ⟨hgood.most, hgood.out⟩ (by omega) rfl (by show S.count + _ ≤ _; omega) ra rc wr HST.out (hbW.below (Nat.le_refl _) HBL.out)
          (fun hne ad had => ⟨by have := hbW.old hne ad had; omega, fun he => by have := hbW.old hne ad had; have := HNV.out _ he; omega⟩)
        rw [← hS1] at hfeed
        have HFD := Lib.hid hfeed
        clear hfeed hbW hcW hgood hS1
        go_wp2_with fail
        refine HFD.out.mono ?_
        rintro e w2 ⟨hm2, fa, fc, nb2, nv2, rfl, hd2, hf2, hn2⟩
        have hb2 : Below W.heap.size W w2 := HBL.out.trans (hm2.below (fun k hk => by
          rcases hk with hk | hk
          · omega
          · exact HNV.out k hk) HBL.out.size)
        have hrow2 := hm2.row HROW.out (fun t ht hs => by
          rcases hs with rfl | hs
          · exact own_ne HROW.out HST.out.cells (by decide) ht
          · exact HAP.out t hs ht)
        rw [HGV.out] at hd2
        have HM2 := Lib.hid hm2
        have HD2 := Lib.hid hd2
        have HF2 := Lib.hid hf2
        have HN2 := Lib.hid hn2
        have HB2 := Lib.hid hb2
        have HR2 := Lib.hid hrow2
        clear hm2 hd2 hf2 hn2 hb2 hrow2 hcell
        go_wp2_with (at_builtin; refine wpList_all rfl _ _ rfl w2 W.heap.size (.slice aa As.length ac) As x ra rc rfl HR2.out HB2.out.size (by omega) rfl (HBX.out.below (Nat.le_refl _) HB2.out) hnil ?_)
        intro aa2 ac2 w3 hgrew
        have HGW := Lib.hid hgrew
        clear hgrew
        go_wp2_with (first | (go_at_call 8; refine (HMOST.out _).mono ?_; rintro e w' ⟨rfl, rfl⟩))
        refine (read_any m (As ++ x) (As.length + x.length) (by simp) (by omega) (by omega) aa2 ac2 w3 (bytes_of_row (rc := ac2) (by have := HGW.out.row; rwa [← List.length_append] at this)) (fun _ ad had => (HGW.out.row.lt ad.block (by rw [had]; rfl)).2)).mono ?_
        rw [← HS2.out]
        rintro e w4 ⟨hb4, fa2, fc2, nb4, rfl, hf4, hfr⟩
        have HB4 := Lib.hid hb4
        have HF4 := Lib.hid hf4
        have hB5' : Below w4.heap.size w4 (w4.alloc (.cells #[.slice fa2 S2.frames.length fc2, .int .i64 S2.held, .int .i64 S2.junk, .int .i64 S2.over, .int .i64 S2.broken] 34)) := (Below.refl _ w4).alloc (Nat.le_refl _) _
        have hM5 : Mod (fun t => (Value.slice aa As.length ac).ownBlock = some t) w2 (w4.alloc (.cells #[.slice fa2 S2.frames.length fc2, .int .i64 S2.held, .int .i64 S2.junk, .int .i64 S2.over, .int .i64 S2.broken] 34)) :=
          HGW.out.mod.trans ((Mod.of_below hb4).trans (Mod.of_below ((Below.refl _ w4).alloc (Nat.le_refl _) _)))
        have HM5 := Lib.hid hM5
        have HB5 := Lib.hid ((Below.refl _ w4).alloc (Nat.le_refl _) (.cells #[.slice fa2 S2.frames.length fc2, .int .i64 S2.held, .int .i64 S2.junk, .int .i64 S2.over, .int .i64 S2.broken] 34))
        have hcap := found_cap hf4
        have HCAP := Lib.hid hcap
        have HRA : ∀ fx, (fx = fa2 ∧ fc2 = S.frames.length) ∨ fx = fa2.map (fun x => x.add S.frames.length) → Hid (RowsAt (w4.alloc (.cells #[.slice fa2 S2.frames.length fc2, .int .i64 S2.held, .int .i64 S2.junk, .int .i64 S2.over, .int .i64 S2.broken] 34)) fx S1.frames) := fun fx hfx => by
          rcases hfx with ⟨_, h0⟩ | rfl
          · have hs := HSUB.out
            have : S1.frames = [] := List.length_eq_zero_iff.1 (by omega)
            rw [this]
            exact Lib.hid ⟨fun i x hx => by simp at hx⟩
          · exact Lib.hid (rows_drop ((found_rows hf4).below hB5') HFR0.out)
        have hra1 : RowsAt (w4.alloc (.cells #[.slice fa2 S2.frames.length fc2, .int .i64 S2.held, .int .i64 S2.junk, .int .i64 S2.over, .int .i64 S2.broken] 34)) fa S1.frames := found_rows (HF2.out.keep hM5 (found_apart1 HF2.out HR2.out) (found_apart2 HF2.out HROW.out))
        have HR1 := Lib.hid hra1
        have HNV2 : Hid (∀ t, nv2.ownBlock = some t → ¬ (Value.slice aa As.length ac).ownBlock = some t) := Lib.hid (fun t ht hs => by
          rcases HN2.out t ht with h1 | h1
          · exact HAP.out t h1 hs
          · have := (HROW.out.lt t hs).2
            omega)
        clear hb4 hf4 hfr hM5 hcap hra1
        by_cases hfc : fc2 = S.frames.length
        · subst hfc
          have HRB := HRA fa2 (.inl ⟨rfl, rfl⟩)
          clear HRA
          go_wp2_with fail
          rw [HSUB.out]
          refine (same_any S1.frames S1.frames.length rfl (by omega) fa _ fc _ _ HR1.out (HRB).out).mono ?_
          rintro e w6 ⟨rfl, q, rfl⟩
          go_wp2_with fail
          obtain ⟨wq, hwq⟩ : ∃ wq : World, wq = (w4.alloc (.cells #[.slice fa2 S2.frames.length S.frames.length, .int .i64 S2.held, .int .i64 S2.junk, .int .i64 S2.over, .int .i64 S2.broken] 34)).drewN q := ⟨_, rfl⟩
          have hd5 : DSt wq D m wr.heap.size nb2 nv2 (.slice none 0 0) S2.given := by
            rw [hwq]
            exact (HD2.out.over HM5.out (own_ne HROW.out HST.out.cells (by decide)) HNV2.out rfl).drewN q
          have hT5 : wq.heap[w4.heap.size]? = some (.cells (rcells (.slice fa2 S2.frames.length S.frames.length) (.int .i64 S2.held) (.int .i64 S2.junk) (.int .i64 S2.over) (.int .i64 S2.broken)) 34 (0, 0)) := by
            rw [hwq]
            exact heap_alloc_new w4 _
          have hbl5 : Below W.heap.size W wq := by
            rw [hwq]
            exact below_drewN (HB2.out.trans (HM5.out.below (fun k hk => (HR2.out.lt k hk).1) HB2.out.size)) q
          have hrow5 : wq.ownsRow W.heap.size 5 1 (.slice aa2 (As.length + x.length) ac2) (As.length + x.length) ((As ++ x).map bv) := by
            rw [hwq]
            have := below_row HB5.out (below_row HB4.out HGW.out.row)
            rw [List.length_append] at this
            exact this
          rw [← hwq]
          have HD5 := Lib.hid hd5
          have HBL5 := Lib.hid hbl5
          have HR5 := Lib.hid hrow5
          obtain ⟨k0, k1, k2, k3, k4, _⟩ := rcell hT5
          have HH : Hid (∀ k, Calls Try.prog 12 #[.pointer (some ⟨D, 0, none⟩)] (wq.drewN k) fun e w' => e = .returned (.int .i64 S2.held) ∧ w' = wq.drewN k) := Lib.hid (fun k => held_any D m wr.heap.size nb2 nv2 (.slice none 0 0) S2.given HNOW.out (wq.drewN k) (hd5.drewN k))
          have HJ : Hid (∀ k, Calls Try.prog 13 #[.pointer (some ⟨D, 0, none⟩)] (wq.drewN k) fun e w' => e = .returned (.int .i64 S2.junk) ∧ w' = wq.drewN k) := Lib.hid (fun k => junk_any D m wr.heap.size nb2 nv2 (.slice none 0 0) S2.given (wq.drewN k) (hd5.drewN k))
          have HO : Hid (∀ k, Calls Try.prog 14 #[.pointer (some ⟨D, 0, none⟩)] (wq.drewN k) fun e w' => e = .returned (.int .i64 S2.over) ∧ w' = wq.drewN k) := Lib.hid (fun k => over_any D m wr.heap.size nb2 nv2 (.slice none 0 0) S2.given (wq.drewN k) (hd5.drewN k))
          have HBR : Hid (∀ k, Calls Try.prog 15 #[.pointer (some ⟨D, 0, none⟩)] (wq.drewN k) fun e w' => e = .returned (.int .i64 S2.broken) ∧ w' = wq.drewN k) := Lib.hid (fun k => broken_any D m wr.heap.size nb2 nv2 (.slice none 0 0) S2.given (wq.drewN k) (hd5.drewN k))
          clear hwq hd5 hT5 hbl5 hrow5
          go_quiet (first
            | (go_at_call 12; exact Calls.quiet_of_same (HH.out _))
            | (go_at_call 13; exact Calls.quiet_of_same (HJ.out _))
            | (go_at_call 14; exact Calls.quiet_of_same (HO.out _))
            | (go_at_call 15; exact Calls.quiet_of_same (HBR.out _)))
          go_wp2
          go_roundw
          case rel =>
            refine ⟨j + 1, by omega, by go_num, ?_, ?_⟩
            · rw [HTK.out, ← HS2.out]
            · rw [HTK.out]
              refine ⟨below_drewN HBL5.out _, hDW, ?_, wr.heap.size, nb2, nv2, ?_, ?_, ?_⟩
              · rw [List.length_append]
                exact HR5.out
              · rw [← HS2.out]
                exact HD5.out.drewN _
              · intro t ht
                rcases HN2.out t ht with h1 | h1
                · exact HNV.out t h1
                · have := HBL.out.size
                  omega
              · intro t ht hs
                rcases HGW.out.hat t (by simpa using hs) with h1 | h1
                · exact HNV2.out t ht h1
                · have := (HD2.out.row.lt t ht).2
                  omega
          case measure => simp [intOf]; omega
        · have HRB := HRA _ (.inr rfl)
          clear HRA
          go_wp2_with fail
          rw [HSUB.out]
          refine (same_any S1.frames S1.frames.length rfl (by omega) fa _ fc _ _ HR1.out (HRB).out).mono ?_
          rintro e w6 ⟨rfl, q, rfl⟩
          go_wp2_with fail
          obtain ⟨wq, hwq⟩ : ∃ wq : World, wq = (w4.alloc (.cells #[.slice fa2 S2.frames.length fc2, .int .i64 S2.held, .int .i64 S2.junk, .int .i64 S2.over, .int .i64 S2.broken] 34)).drewN q := ⟨_, rfl⟩
          have hd5 : DSt wq D m wr.heap.size nb2 nv2 (.slice none 0 0) S2.given := by
            rw [hwq]
            exact (HD2.out.over HM5.out (own_ne HROW.out HST.out.cells (by decide)) HNV2.out rfl).drewN q
          have hT5 : wq.heap[w4.heap.size]? = some (.cells (rcells (.slice fa2 S2.frames.length fc2) (.int .i64 S2.held) (.int .i64 S2.junk) (.int .i64 S2.over) (.int .i64 S2.broken)) 34 (0, 0)) := by
            rw [hwq]
            exact heap_alloc_new w4 _
          have hbl5 : Below W.heap.size W wq := by
            rw [hwq]
            exact below_drewN (HB2.out.trans (HM5.out.below (fun k hk => (HR2.out.lt k hk).1) HB2.out.size)) q
          have hrow5 : wq.ownsRow W.heap.size 5 1 (.slice aa2 (As.length + x.length) ac2) (As.length + x.length) ((As ++ x).map bv) := by
            rw [hwq]
            have := below_row HB5.out (below_row HB4.out HGW.out.row)
            rw [List.length_append] at this
            exact this
          rw [← hwq]
          have HD5 := Lib.hid hd5
          have HBL5 := Lib.hid hbl5
          have HR5 := Lib.hid hrow5
          obtain ⟨k0, k1, k2, k3, k4, _⟩ := rcell hT5
          have HH : Hid (∀ k, Calls Try.prog 12 #[.pointer (some ⟨D, 0, none⟩)] (wq.drewN k) fun e w' => e = .returned (.int .i64 S2.held) ∧ w' = wq.drewN k) := Lib.hid (fun k => held_any D m wr.heap.size nb2 nv2 (.slice none 0 0) S2.given HNOW.out (wq.drewN k) (hd5.drewN k))
          have HJ : Hid (∀ k, Calls Try.prog 13 #[.pointer (some ⟨D, 0, none⟩)] (wq.drewN k) fun e w' => e = .returned (.int .i64 S2.junk) ∧ w' = wq.drewN k) := Lib.hid (fun k => junk_any D m wr.heap.size nb2 nv2 (.slice none 0 0) S2.given (wq.drewN k) (hd5.drewN k))
          have HO : Hid (∀ k, Calls Try.prog 14 #[.pointer (some ⟨D, 0, none⟩)] (wq.drewN k) fun e w' => e = .returned (.int .i64 S2.over) ∧ w' = wq.drewN k) := Lib.hid (fun k => over_any D m wr.heap.size nb2 nv2 (.slice none 0 0) S2.given (wq.drewN k) (hd5.drewN k))
          have HBR : Hid (∀ k, Calls Try.prog 15 #[.pointer (some ⟨D, 0, none⟩)] (wq.drewN k) fun e w' => e = .returned (.int .i64 S2.broken) ∧ w' = wq.drewN k) := Lib.hid (fun k => broken_any D m wr.heap.size nb2 nv2 (.slice none 0 0) S2.given (wq.drewN k) (hd5.drewN k))
          clear hwq hd5 hT5 hbl5 hrow5
          go_quiet (first
            | (go_at_call 12; exact Calls.quiet_of_same (HH.out _))
            | (go_at_call 13; exact Calls.quiet_of_same (HJ.out _))
            | (go_at_call 14; exact Calls.quiet_of_same (HO.out _))
            | (go_at_call 15; exact Calls.quiet_of_same (HBR.out _)))
          go_wp2
          go_roundw
          case rel =>
            refine ⟨j + 1, by omega, by go_num, ?_, ?_⟩
            · rw [HTK.out, ← HS2.out]
            · rw [HTK.out]
              refine ⟨below_drewN HBL5.out _, hDW, ?_, wr.heap.size, nb2, nv2, ?_, ?_, ?_⟩
              · rw [List.length_append]
                exact HR5.out
              · rw [← HS2.out]
                exact HD5.out.drewN _
              · intro t ht
                rcases HN2.out t ht with h1 | h1
                · exact HNV.out t h1
                · have := HBL.out.size
                  omega
              · intro t ht hs
                rcases HGW.out.hat t (by simpa using hs) with h1 | h1
                · exact HNV2.out t ht h1
                · have := (HD2.out.row.lt t ht).2
                  omega
          case measure => simp [intOf]; omega
      · have : j = len := by omega
        subst this
        go_wp2
        go_ret
        exact ⟨rfl, HBL.out⟩

end Go.Proofs.Ytcmpcpemmmobeaa
