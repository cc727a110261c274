/- Feed, by its contract. -/
import Derived.Test.YtcmpcpemmmobeaaByte
namespace Go.Proofs.Ytcmpcpemmmobeaa
set_option linter.unusedVariables false
open Go.RowKit

theorem byte_eq (c k : UInt8) : ((c.toNat : Int) == (k.toNat : Int)) = (c == k) := by
  by_cases h : c = k
  · simp [h]
  · have : c.toNat ≠ k.toNat := fun e => h (UInt8.toNat_inj.1 e)
    have h2 : (c.toNat : Int) ≠ (k.toNat : Int) := by omega
    rw [beq_eq_false_iff_ne.2 h2, beq_eq_false_iff_ne.2 h]

theorem only_told {D most lo nb : Nat} {nv fv : Value} {s s' : St} {w w' : World} (h : DSt w D most lo nb nv fv s) (HO : Only D w w') (hn : s'.now = []) (hf : s'.frames = s.frames)
    (hd : w'.heap[D]? = some (.cells (dcells (.int .i64 most) (if s'.inn then nextIn D else nextOut D) (.bool s'.inn) (.bool s'.fin) (.slice none 0 0) fv (.int .i64 s'.junk) (.int .i64 s'.over) (.int .i64 s'.broken)) 42 (0, 0))) :
    Told D most lo nv fv s' w w' := by
  have M : Mod (fun t => t = D) w w' := Mod.only HO rfl
  refine ⟨M.mono (fun k _ hk => .inl hk), nb, .slice none 0 0, fv, ⟨hd, ?_, fun _ => rfl, Nat.le_trans h.nbw M.size, ?_, Nat.le_trans h.lob M.size⟩, ?_, fun t ht => .inl ht⟩
  · rw [hn]
    exact World.ownsRow_nil _ _ _ _
  · rw [hf]
    exact h.keep (M.mono (fun k _ hk => .inl hk))
  · intro t ht
    simp [Value.ownBlock] at ht

theorem next_any (D most lo nb : Nat) (nv fv : Value) (s : St) (c : UInt8) (good : s.Good most) (hm : most ≤ 100000) (hcount : s.count ≤ 100000) (hfr : s.frames.length ≤ 100000) (w : World) (h : DSt w D most lo nb nv fv s) :
    Calls Try.prog (if s.inn then 20 else 18) #[.pointer (some ⟨D, 0, none⟩), bv c] w fun e w' => e = .returned (.tuple #[]) ∧ Told D most lo nv fv (s.step most c) w w' := by
  have hg1 := good.most
  have hcc : s.junk ≤ 100000 ∧ s.over ≤ 100000 ∧ s.broken ≤ 100000 := by
    unfold St.count at hcount
    omega
  obtain ⟨hj, ho, hb⟩ := hcc
  have e11 : ((c.toNat : Int) == 11) = (c == 11) := byte_eq c 11
  have e13 : ((c.toNat : Int) == 13) = (c == 13) := byte_eq c 13
  have e28 : ((c.toNat : Int) == 28) = (c == 28) := byte_eq c 28
  have hd := h.cells
  cases hin : s.inn with
  | false =>
    obtain ⟨hfin, hnow⟩ := good.out hin
    have hnv := h.none hnow
    subst hnv
    by_cases h1 : (c == 11) = true
    · refine (skip_start D _ (e11.trans h1) _ _ _ _ _ _ _ _ _ w hd).mono ?_
      rintro e w' ⟨rfl, hO, hd'⟩
      refine ⟨rfl, ?_⟩
      have hs : s.step most c = s.start := by simp [St.step, hin, h1]
      rw [hs]
      exact only_told h hO rfl rfl (by simpa [St.start] using hd')
    · rw [Bool.not_eq_true] at h1
      refine (skip_junk D _ (e11.trans h1) _ _ _ _ _ _ _ _ s.junk ⟨by omega, by omega⟩ w hd).mono ?_
      rintro e w' ⟨rfl, hO, hd'⟩
      refine ⟨rfl, ?_⟩
      have hs : s.step most c = { s with junk := s.junk + 1 } := by simp [St.step, hin, h1]
      rw [hs]
      exact only_told h hO hnow rfl (by simpa using hd')
  | true =>
    by_cases h1 : (c == 11) = true
    · refine (take_start D _ (e11.trans h1) _ _ _ _ _ _ _ _ s.broken ⟨by omega, by omega⟩ w hd).mono ?_
      rintro e w' ⟨rfl, hO, hd'⟩
      refine ⟨rfl, ?_⟩
      have hs : s.step most c = { s with broken := s.broken + 1 }.start := by simp [St.step, hin, h1]
      rw [hs]
      exact only_told h hO rfl rfl (by simpa [St.start] using hd')
    · rw [Bool.not_eq_true] at h1
      cases hfin : s.fin with
      | true =>
        by_cases h3 : (c == 13) = true
        · have hc : c = 13 := by simpa using h3
          subst hc
          have hs : s.step most 13 = { s with frames := s.frames ++ [s.now] }.out := by simp [St.step, hin, hfin]
          rw [hs]
          exact take_tail D most lo nb nv fv s hin hfin (by omega) hfr w h
        · rw [Bool.not_eq_true] at h3
          by_cases h2 : (c == 28) = true
          · have hc : c = 28 := by simpa using h2
            subst hc
            have hs : s.step most 28 = s.lay most true [28] := by simp [St.step, St.next, St.lay, hin, hfin]
            rw [hs]
            exact take_end2 D most lo nb nv fv s hin hfin (by omega) hm (by omega) w h
          · rw [Bool.not_eq_true] at h2
            have hs : s.step most c = s.lay most false [28, c] := by simp [St.step, St.next, St.lay, hin, hfin, h1, h2, h3]
            rw [hs]
            exact take_else2 D most lo nb nv fv s c _ rfl (e11.trans h1) (e13.trans h3) (e28.trans h2) hin hfin (by omega) hm (by omega) w h
      | false =>
        by_cases h2 : (c == 28) = true
        · have hc : c = 28 := by simpa using h2
          subst hc
          have hs : s.step most 28 = { s with fin := true } := by simp [St.step, St.next, hin, hfin]; omega
          rw [hs]
          exact take_end1 D most lo nb nv fv s hin hfin w h
        · rw [Bool.not_eq_true] at h2
          have hs : s.step most c = s.lay most false [c] := by simp [St.step, St.next, St.lay, hin, hfin, h1, h2]
          rw [hs]
          exact take_else D most lo nb nv fv s c _ rfl (e11.trans h1) (e28.trans h2) hin hfin (by omega) hm (by omega) w h

theorem Mod.chain {S T : Nat → Prop} {w wr w' : World} (h : Mod S w wr) (k : Mod T wr w') (hT : ∀ t, t < w.heap.size → T t → S t) : Mod S w w' :=
  ⟨k.os.trans h.os, k.tape.trans h.tape, k.output.trans h.output, Nat.le_trans h.size k.size,
    fun i hi hs => (k.block i (Nat.lt_of_lt_of_le hi h.size) (fun ht => hs (hT i hi ht))).trans (h.block i hi hs)⟩

/-- Bytes that came in, or lie in a row. -/
structure BytesAt (w : World) (a : Option Addr) (bs : List UInt8) : Prop where
  cells : ∀ (i : Nat) (x : UInt8), bs[i]? = some x → ∃ b off, a = some ⟨b, off, none⟩ ∧ w.cell? ⟨b, off + i, none⟩ = some (bv x)

theorem BytesAt.keep {S : Nat → Prop} {w w' : World} {a : Option Addr} {bs : List UInt8} (h : BytesAt w a bs) (m : Mod S w w') (hS : bs ≠ [] → ∀ ad, a = some ad → ¬ S ad.block) : BytesAt w' a bs := by
  refine ⟨fun i x hx => ?_⟩
  obtain ⟨b, off, rfl, hc⟩ := h.cells i x hx
  exact ⟨b, off, rfl, (World.cell?_of_block (m.block b (World.block_lt_of_cell? w _ hc) (hS (by intro e; rw [e] at hx; simp at hx) _ rfl))).trans hc⟩

theorem DSt.rebase {w : World} {D most lo nb : Nat} {nv : Value} {s : St} (h : DSt w D most lo nb nv (.slice Option.none 0 0) s) (hf : s.frames = []) : DSt w D most w.heap.size nb nv (.slice Option.none 0 0) s :=
  ⟨h.cells, h.row, h.none, h.nbw, by rw [hf]; exact found_nil _ _ _, Nat.le_refl _⟩

theorem feed_room (most : Nat) (s : St) (bs : List UInt8) (j : Nat) (hc : s.count + bs.length ≤ 100000) (hf : s.frames.length + bs.length ≤ 100000) (hj : j ≤ bs.length) : (s.steps most (bs.take j)).count ≤ 100000 ∧ (s.steps most (bs.take j)).frames.length ≤ 100000 := by
  have := St.count_steps most (bs.take j) s
  simp only [List.length_take] at this
  omega

/-- Where Feed stands behind some of the bytes. -/
structure Fed (D most lo : Nat) (nv : Value) (s : St) (w wr : World) : Prop where
  mod : Mod (fun t => t = D ∨ nv.ownBlock = some t) w wr
  st : ∃ nb' nv' fv', DSt wr D most lo nb' nv' fv' s ∧ (∀ t, nv'.ownBlock = some t → nv.ownBlock = some t ∨ w.heap.size ≤ t) ∧ (∀ t, fv'.ownBlock = some t → w.heap.size ≤ t)

theorem Fed.step {D most lo : Nat} {nv nv' fv' : Value} {s' : St} {w wr w' : World} (m : Mod (fun t => t = D ∨ nv.ownBlock = some t) w wr) (hn : ∀ t, nv'.ownBlock = some t → nv.ownBlock = some t ∨ w.heap.size ≤ t) (hf : ∀ t, fv'.ownBlock = some t → w.heap.size ≤ t)
    (ht : Told D most lo nv' fv' s' wr w') : Fed D most lo nv s' w w' := by
  obtain ⟨nb2, nv2, fv2, hd, hn2, hf2⟩ := ht.st
  refine ⟨m.chain ht.mod ?_, nb2, nv2, fv2, hd, ?_, ?_⟩
  · intro t hlt hs
    rcases hs with hs | hs | hs
    · exact .inl hs
    · rcases hn t hs with h | h
      · exact .inr h
      · omega
    · have := hf t hs
      omega
  · intro t h
    rcases hn2 t h with h | h
    · exact hn t h
    · have := m.size
      exact .inr (by omega)
  · intro t h
    rcases hf2 t h with h | h
    · exact hf t h
    · have := m.size
      omega

/-- What Feed leaves. -/
structure FeedTold (D most : Nat) (nv : Value) (s' : St) (w : World) (e : Ending) (w' : World) : Prop where
  mod : Mod (fun t => t = D ∨ nv.ownBlock = some t) w w'
  st : ∃ fa fc nb' nv', e = .returned (.tuple #[.slice fa s'.frames.length fc, .int .i64 0]) ∧ DSt w' D most w.heap.size nb' nv' (.slice none 0 0) s'.given ∧ Found w' w.heap.size nb' (.slice fa s'.frames.length fc) s'.frames ∧
    (∀ t, nv'.ownBlock = some t → nv.ownBlock = some t ∨ w.heap.size ≤ t)

set_option maxHeartbeats 1000000 in
theorem feed_any (D most lo nb : Nat) (nv : Value) (s : St) (bs : List UInt8) (n : Nat) (hbn : bs.length = n) (good : s.Good most) (hm : most ≤ 100000) (hfr : s.frames = []) (hc : s.count + n ≤ 100000) (a : Option Addr) (c : Nat) (w : World)
    (h : DSt w D most lo nb nv (.slice none 0 0) s) (hb : BytesAt w a bs) (hap : bs ≠ [] → ∀ ad, a = some ad → ad.block ≠ D ∧ nv.ownBlock ≠ some ad.block) :
    Calls Try.prog 9 #[.pointer (some ⟨D, 0, none⟩), .slice a n c] w (FeedTold D most nv (s.steps most bs) w) := by
  have HS := Lib.hid (h.rebase hfr)
  have HB := Lib.hid hb
  have HA := Lib.hid hap
  have HG := Lib.hid good
  have HF := Lib.hid hfr
  have HN := Lib.hid hbn
  clear h hb hap good hfr hbn
  go_enter Try.func9, Try.ntmps9
  go_wp2
  go_loopw [13] (fun i wr => ∃ j : Nat, j ≤ n ∧ i = .int .i64 j ∧ Fed D most w.heap.size nv (s.steps most (bs.take j)) w wr) (fun i _ => n - (intOf i).toNat)
  case atStart =>
    refine ⟨0, Nat.zero_le _, rfl, Mod.refl _ _, nb, nv, .slice none 0 0, HS.out, fun t ht => .inl ht, fun t ht => ?_⟩
    simp [Value.ownBlock] at ht
  case round =>
    obtain ⟨j, hj, rfl, hfed⟩ := hrel
    obtain ⟨hmod, nbr, nvr, fvr, hst, hnr, hfr'⟩ := hfed
    have HMOD := Lib.hid hmod
    have HST := Lib.hid hst
    have HNR := Lib.hid hnr
    have HFR := Lib.hid hfr'
    have hgood := St.good_steps (bs.take j) HG.out
    have hroom := feed_room most s bs j (by rw [HN.out]; exact hc) (by rw [HF.out, HN.out]; simp; omega) (by rw [HN.out]; exact hj)
    have HGJ := Lib.hid hgood
    have HRM := Lib.hid hroom
    have hcl := hst.cells
    have HCL := Lib.hid hcl
    have hbk : BytesAt wr a bs := HB.out.keep hmod (fun hne ad hd hs => by
      rcases hs with hs | hs
      · exact (HA.out hne ad hd).1 hs
      · exact (HA.out hne ad hd).2 hs)
    have HBK := Lib.hid hbk
    clear hmod hst hnr hfr' hgood hroom hbk
    by_cases hlt : j < n
    · obtain ⟨x, hx⟩ : ∃ x, bs[j]? = some x := ⟨bs[j]'(by rw [HN.out]; exact hlt), List.getElem?_eq_getElem _⟩
      obtain ⟨b, off, rfl, hcell⟩ := HBK.out.cells j x hx
      have htake : bs.take (j + 1) = bs.take j ++ [x] := by rw [List.take_add_one, hx]; rfl
      have HTK := Lib.hid htake
      have hnx := next_any D most w.heap.size nbr nvr fvr _ x HGJ.out hm HRM.out.1 HRM.out.2 wr HST.out
      have HX := Lib.hid hx
      clear hx htake
      cases hin : (s.steps most (bs.take j)).inn with
      | true =>
        rw [hin] at hnx hcl
        simp only [if_true] at hnx hcl
        have c1 := (dcell hcl).2.1
        unfold nextIn at c1
        have HNX := Lib.hid hnx
        clear hnx hcl hin
        go_wp2_with fail
        refine HNX.out.mono ?_
        rintro en w' ⟨rfl, ht⟩
        have HT := Lib.hid ht
        clear ht
        go_wp2
        go_roundw
        case rel =>
          refine ⟨j + 1, by omega, by go_num, ?_⟩
          rw [HTK.out, St.steps_snoc]
          exact Fed.step HMOD.out HNR.out HFR.out HT.out
        case measure => simp [intOf]; omega
      | false =>
        rw [hin] at hnx hcl
        simp only [Bool.false_eq_true, if_false] at hnx hcl
        have c1 := (dcell hcl).2.1
        unfold nextOut at c1
        have HNX := Lib.hid hnx
        clear hnx hcl hin
        go_wp2_with fail
        refine HNX.out.mono ?_
        rintro en w' ⟨rfl, ht⟩
        have HT := Lib.hid ht
        clear ht
        go_wp2
        go_roundw
        case rel =>
          refine ⟨j + 1, by omega, by go_num, ?_⟩
          rw [HTK.out, St.steps_snoc]
          exact Fed.step HMOD.out HNR.out HFR.out HT.out
        case measure => simp [intOf]; omega
    · have : j = n := by omega
      subst this
      have hall : bs.take j = bs := List.take_of_length_le (by rw [HN.out]; exact Nat.le_refl _)
      rw [hall] at HST HCL hcl
      obtain ⟨vs, hfv, hrows⟩ := HST.out.found
      obtain ⟨fa, fc, rfl⟩ := slice_form hfv
      have c5 := (dcell hcl).2.2.2.2.2.1
      have f5 := (dcell hcl).2.2.2.2.2.2.2.2.2 5
      have HFV := Lib.hid hfv
      have HRW := Lib.hid hrows
      have HALL := Lib.hid hall
      clear hcl hfv hrows hall
      go_wp2
      go_ret2
      have M : Mod (fun t => t = D) wr (wr.setCell ⟨D, 5, none⟩ (.slice none 0 0)) := Mod.setCell (S := fun t => t = D) (a := ⟨D, 5, none⟩) rfl _
      have K := HST.out.keep (M.mono (fun k _ hk => .inl hk))
      refine ⟨HMOD.out.trans (M.mono (fun k _ hk => .inl hk)), fa, fc, nbr, nvr, by simp, ⟨?_, ?_, ?_, ?_, found_nil _ _ _, Nat.le_trans HST.out.lob M.size⟩, K, HNR.out⟩
      · exact row_setCell HCL.out 5 (.slice none 0 0)
      · exact M.row HST.out.row (fun k hk hkD => own_ne HST.out.row HST.out.cells (by decide) (hkD ▸ hk))
      · exact HST.out.none
      · exact Nat.le_trans HST.out.nbw M.size

end Go.Proofs.Ytcmpcpemmmobeaa
