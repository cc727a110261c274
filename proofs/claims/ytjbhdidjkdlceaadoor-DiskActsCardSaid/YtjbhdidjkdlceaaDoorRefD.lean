/- The reference: put; Remove, Rename. -/
import Derived.Test.YtjbhdidjkdlceaaDoorRefC
import Derived.BigQuiet

/- The reference: put. -/
namespace Go.Proofs.YtjbhdidjkdlceaaDoor
open Go.RowKit Go.Maps
set_option linter.unusedVariables false

/-- The list with r at place i. -/
def mid {α : Type} (fs : List α) (r : α) (i : Nat) : List α := fs.take i ++ r :: fs.drop i

theorem mid_length {α : Type} (fs : List α) (r : α) (i : Nat) : (mid fs r i).length = fs.length + 1 := by
  unfold mid
  rw [List.length_append, List.length_cons, List.length_take, List.length_drop]
  omega
theorem mid_end {α : Type} (fs : List α) (r : α) : mid fs r fs.length = fs ++ [r] := by
  unfold mid
  simp
theorem mid_at {α : Type} (fs : List α) (r : α) (i : Nat) (h : i ≤ fs.length) : (mid fs r i)[i]? = some r := by
  unfold mid
  rw [List.getElem?_append_right (by rw [List.length_take]; omega), List.length_take]
  have : i - min i fs.length = 0 := by omega
  rw [this]
  rfl
theorem mid_before {α : Type} (fs : List α) (r y : α) (i : Nat) (h : fs[i]? = some y) : (mid fs r (i + 1))[i]? = some y := by
  have hi : i < fs.length := (List.getElem?_eq_some_iff.1 h).1
  unfold mid
  rw [List.getElem?_append_left (by rw [List.length_take]; omega), List.getElem?_take, if_pos (by omega), h]
theorem mid_down {α : Type} (fs : List α) (r y : α) (i : Nat) (h : fs[i]? = some y) : ((mid fs r (i + 1)).set (i + 1) y).set i r = mid fs r i := by
  have hi : i < fs.length := (List.getElem?_eq_some_iff.1 h).1
  have ht : fs.take (i + 1) = fs.take i ++ [y] := by rw [List.take_add_one, h]; rfl
  have hd : fs.drop i = y :: fs.drop (i + 1) := by
    rw [List.drop_eq_getElem_cons hi]
    congr 1
    rw [List.getElem?_eq_getElem hi] at h
    exact Option.some.inj h
  have hl : (fs.take i).length = i := by rw [List.length_take]; omega
  unfold mid
  rw [ht, hd, List.append_assoc, List.set_append_right _ _ (by omega), hl]
  have e1 : i + 1 - i = 1 := by omega
  rw [e1]
  show (fs.take i ++ (y :: y :: fs.drop (i + 1))).set i r = _
  rw [List.set_append_right _ _ (by omega), hl, Nat.sub_self]
  rfl

theorem insV_mid {L : List VF} (h : Sorted L) (f : VF) (i : Nat) (hi : i ≤ L.length) (hlo : ∀ g, i = 0 ∨ L[i - 1]? = some g → i = 0 ∨ bytesBefore f.name g.name = false) (hhi : ∀ k g, i ≤ k → L[k]? = some g → bytesBefore f.name g.name = true) : insV f L = mid L f i := by
  induction L generalizing i with
  | nil =>
    simp at hi
    subst hi
    rfl
  | cons a L ih =>
    obtain ⟨ha, hL⟩ := List.pairwise_cons.1 h
    cases i with
    | zero =>
      have := hhi 0 a (Nat.le_refl _) rfl
      unfold insV
      rw [if_pos this]
      rfl
    | succ i =>
      have hlow : bytesBefore f.name a.name = false := by
        cases hb : bytesBefore f.name a.name with
        | false => rfl
        | true =>
          have hil : i < (a :: L).length := by rw [List.length_cons] at hi ⊢; omega
          have hgi : (a :: L)[i]? = some (a :: L)[i] := List.getElem?_eq_getElem hil
          rcases hlo ((a :: L)[i]) (.inr hgi) with h1 | h1
          · omega
          · cases i with
            | zero =>
              have : (a :: L)[0] = a := rfl
              rw [this, hb] at h1
              cases h1
            | succ i =>
              have hm : (a :: L)[i + 1] ∈ L := List.getElem_mem _
              have := WideShapes.bytes_trans _ _ _ hb (ha _ hm)
              rw [this] at h1
              cases h1
      unfold insV
      rw [if_neg (by rw [hlow]; simp)]
      rw [ih hL i (by simpa using hi) (fun g hg => ?_) (fun k g hk hg => hhi (k + 1) g (by omega) hg)]
      · rfl
      · cases i with
        | zero => exact .inl rfl
        | succ i =>
          right
          rcases hg with h1 | h1
          · omega
          · rcases hlo g (.inr (by simpa using h1)) with h2 | h2
            · omega
            · exact h2

/-- A file's place is another's now. -/
theorem RAt.setAt {F : Nat → Prop} {R : Nat} {fs : List RB} {lv : Value} {s : RS} {w : World} (h : RAt F R fs lv s w) {j : Nat} {f x : RB} (hf : fs[j]? = some f) {g n c : Nat} (hlv : lv = .slice (some ⟨g, 0, none⟩) n c)
    (hrow : w.ownsRow 0 5 1 x.bv x.v.b.length (x.v.b.map bv)) (hF : ∀ k, x.bv.ownBlock = some k → F k) : RAt F R (fs.set j x) lv s (((w.setCell ⟨g, j * 3, none⟩ (.string (strB x.v.name))).setCell ⟨g, j * 3 + 1, none⟩ x.bv).setCell ⟨g, j * 3 + 2, none⟩ (.int .i64 x.v.safe)) ∧
      Mod F w (((w.setCell ⟨g, j * 3, none⟩ (.string (strB x.v.name))).setCell ⟨g, j * 3 + 1, none⟩ x.bv).setCell ⟨g, j * 3 + 2, none⟩ (.int .i64 x.v.safe)) := by
  have hr := h.row
  have hFg : F g := h.footL g (by rw [hlv]; rfl)
  have m : Mod (fun t => lv.ownBlock = some t) w (((w.setCell ⟨g, j * 3, none⟩ (.string (strB x.v.name))).setCell ⟨g, j * 3 + 1, none⟩ x.bv).setCell ⟨g, j * 3 + 2, none⟩ (.int .i64 x.v.safe)) :=
    ((Mod.setCell (a := ⟨g, j * 3, none⟩) (by rw [hlv]; rfl) _).trans (Mod.setCell (a := ⟨g, j * 3 + 1, none⟩) (by rw [hlv]; rfl) _)).trans (Mod.setCell (a := ⟨g, j * 3 + 2, none⟩) (by rw [hlv]; rfl) _)
  have hn : n = fs.length := by
    obtain ⟨a, c', e⟩ := slice_form hr
    rw [hlv] at e
    simp only [Value.slice.injEq] at e
    exact e.2.1
  have hap : ∀ {v : Value} {n : Nat} {xs : List Value}, w.ownsRow 0 5 1 v n xs → (((w.setCell ⟨g, j * 3, none⟩ (.string (strB x.v.name))).setCell ⟨g, j * 3 + 1, none⟩ x.bv).setCell ⟨g, j * 3 + 2, none⟩ (.int .i64 x.v.safe)).ownsRow 0 5 1 v n xs := fun hx => m.row hx (fun k hk hs => rows_apart hx hr (by decide) k hk hs)
  refine ⟨⟨m.keep h.box (fun e => ?_), ?_, fun y hy => ?_, h.footR, h.footL, fun y hy => ?_⟩, m.mono (fun t _ e => by rw [hlv] at e; simp [Value.ownBlock] at e; subst e; exact hFg)⟩
  · rcases hr.2 with ⟨e1, _⟩ | ⟨g', cap, cur, e1, _, hg, _⟩
    · rw [e1] at e
      cases e
    · rw [e1] at e
      simp [Value.ownBlock] at e
      subst e
      rw [h.box] at hg
      simp at hg
  · rw [hlv, hn] at hr
    have h1 := (hr.stored (j * 3) (.string (strB x.v.name))).1
    have h2 := (h1.stored (j * 3 + 1) x.bv).1
    have h3 := (h2.stored (j * 3 + 2) (.int .i64 x.v.safe)).1
    rw [List.length_set, rcells_set fs j f x hf, hlv, hn]
    exact h3
  · rcases List.mem_or_eq_of_mem_set hy with h1 | rfl
    · exact hap (h.files y h1)
    · exact hap hrow
  · rcases List.mem_or_eq_of_mem_set hy with h1 | rfl
    · exact h.footB y h1
    · exact hF

theorem RAt.make {F : Nat → Prop} {R : Nat} {fs' : List RB} {lv lv' : Value} {s : RS} {w : World} (hbox : w.heap[R]? = some (.cells (nums lv s) 33 (0, 0))) (hR : F R) (hfiles : ∀ f ∈ fs', w.ownsRow 0 5 1 f.bv f.v.b.length (f.v.b.map bv)) (hB : ∀ f ∈ fs', ∀ k, f.bv.ownBlock = some k → F k)
    (hrow : w.ownsRow 0 78 3 lv' fs'.length (rcells fs')) (hF : ∀ k, lv'.ownBlock = some k → F k) : RAt F R fs' lv' s (w.setCell ⟨R, 0, none⟩ lv') ∧ Mod F w (w.setCell ⟨R, 0, none⟩ lv') := by
  have m := mod_cell R 0 w lv'
  refine ⟨⟨row_setCell hbox 0 lv', m.row hrow (fun k hk e => ?_), fun f hf => m.row (hfiles f hf) (fun k hk e => own_ne (hfiles f hf) hbox (by decide) (e ▸ hk)), hR, hF, hB⟩, m.mono (fun t _ e => by rw [e]; exact hR)⟩
  subst e
  rcases hrow.2 with ⟨e1, _⟩ | ⟨g, cap, cur, e1, _, hg, _⟩
  · rw [e1] at hk
    cases hk
  · rw [e1] at hk
    simp [Value.ownBlock] at hk
    subst hk
    rw [hbox] at hg
    simp at hg

/-- What stays while the list's row grows. -/
theorem RAt.grew {F : Nat → Prop} {R : Nat} {fs : List RB} {lv : Value} {s : RS} {w w' : World} (h : RAt F R fs lv s w) (g : w.grownBy w' lv.ownBlock) :
    w'.heap[R]? = some (.cells (nums lv s) 33 (0, 0)) ∧ Mod F w w' ∧ (∀ {v : Value} {n : Nat} {xs : List Value}, w.ownsRow 0 5 1 v n xs → w'.ownsRow 0 5 1 v n xs) := by
  have m : Mod (fun t => lv.ownBlock = some t) w w' := Mod.grown g (fun k hk => hk)
  refine ⟨m.keep h.box (fun e => ?_), m.mono (fun t _ ht => h.footL t ht), fun hx => m.row hx (fun k hk hs => rows_apart hx h.row (by decide) k hk hs)⟩
  rcases h.row.2 with ⟨e1, _⟩ | ⟨g', cap, cur, e1, _, hg, _⟩
  · rw [e1] at e
    cases e
  · rw [e1] at e
    simp [Value.ownBlock] at e
    subst e
    rw [h.box] at hg
    simp at hg

end Go.Proofs.YtjbhdidjkdlceaaDoor

/- The reference: put, the walk. -/
namespace Go.Proofs.YtjbhdidjkdlceaaDoor
open Go.RowKit Go.Maps
set_option linter.unusedVariables false

theorem bytesLess_before : ∀ (a b : List UInt8), Op.bytesLess a b = bytesBefore a b
  | [], [] => rfl
  | [], _ :: _ => rfl
  | _ :: _, [] => rfl
  | x :: a, y :: b => by
    unfold Op.bytesLess bytesBefore
    rw [bytesLess_before a b]

set_option maxHeartbeats 3200000 in
theorem rput_law {F : Nat → Prop} {R : Nat} {s : RS} {w : World} {fs : List RB} {lv : Value} (h : RAt F R fs lv s w) (hv : fs.map (·.v) = s.L) (hso : Sorted s.L) (hs : fs.length ≤ 100000) (hup : ∀ k, w.heap.size ≤ k → F k) (r : RB) (ba : Option Addr) (bc : Nat) (hbv : r.bv = .slice ba r.v.b.length bc)
    (hrow : w.ownsRow 0 5 1 r.bv r.v.b.length (r.v.b.map bv)) (hF : ∀ k, r.bv.ownBlock = some k → F k) (hnew : findV s.L r.v.name = none) :
    Calls Tryd.prog 55 #[.pointer (some ⟨R, 0, none⟩), .agg #[.string (strB r.v.name), .slice ba r.v.b.length bc, .int .i64 r.v.safe]] w fun e w' => e = .returned (.tuple #[]) ∧ Led F R { s with L := insV r.v s.L } w w' := by
  obtain ⟨la, lc, hlv⟩ := h.lv_form
  subst hlv
  obtain ⟨c0, _, _, _, _, _, fr⟩ := rcell h.box
  have H := Lib.hid h
  have HV := Lib.hid hv
  have HROW := Lib.hid hrow
  have HBV := Lib.hid hbv
  have hR : R < w.heap.size := lt_of_block h.box
  clear h hv hrow hbv
  go_enter Tryd.func55, Tryd.ntmps55
  go_upto_region 1 with (fail)
  obtain ⟨wq, hwq⟩ : ∃ y : World, y = w.alloc (.cells #[.string (strB r.v.name), .slice ba r.v.b.length bc, .int .i64 r.v.safe] 78) := ⟨_, rfl⟩
  have hbel : Below w.heap.size w wq := by rw [hwq]; exact (Below.refl _ w).alloc (Nat.le_refl _) _
  have hq := H.out.below hbel
  have hsz : wq.heap.size = w.heap.size + 1 := by rw [hwq]; simp
  have b1 : wq.heap[w.heap.size]? = some (.cells #[.string (strB r.v.name), .slice ba r.v.b.length bc, .int .i64 r.v.safe] 78 (0, 0)) := by rw [hwq]; exact heap_alloc_new w _
  have HQ := Lib.hid hq
  have HSZ := Lib.hid hsz
  have HB1 := Lib.hid b1
  have HBEL := Lib.hid hbel
  have t0 := (cell_of_row wq w.heap.size 0 _ _ _ b1).trans rfl
  have t1 := (cell_of_row wq w.heap.size 1 _ _ _ b1).trans rfl
  have t2 := (cell_of_row wq w.heap.size 2 _ _ _ b1).trans rfl
  have d0 := (rcell hq.box).1
  have fR := (rcell hq.box).2.2.2.2.2.2 0
  have hRq : R < wq.heap.size := by omega
  have hRw : w.heap.size < wq.heap.size := by omega
  obtain ⟨wn, hwn⟩ : ∃ y : World, y = (wq.alloc (.cells #[.string (strB r.v.name), .slice ba r.v.b.length bc, .int .i64 r.v.safe] 78)) := ⟨_, rfl⟩
  have hbn : Below wq.heap.size wq wn.drew := by rw [hwn]; exact ((Below.refl _ wq).alloc (Nat.le_refl _) _).drew
  have HBN := Lib.hid hbn
  have bn : wn.drew.heap[wq.heap.size]? = some (.cells #[.string (strB r.v.name), .slice ba r.v.b.length bc, .int .i64 r.v.safe] 78 (0, 0)) := by rw [hwn]; exact heap_alloc_new wq _
  have HP : Hid (∀ j u, (rcells [r])[j]? = some u → wn.drew.cell? ((⟨wq.heap.size, 0, none⟩ : Addr).add j) = some u) := Lib.hid (by
    intro j u hu
    rw [Addr.add_lit, Nat.zero_add, cell_of_row _ _ _ _ _ _ bn, ← hu]
    show _ = [_, r.bv, _][j]?
    rw [HBV.out]
    exact Array.getElem?_toList.symm)
  have HN := Lib.hid (HQ.out.below hbn)
  have HWN := Lib.hid hwn
  have HONE : Hid (∀ f ∈ [r], f.one) := Lib.hid (by intro f hf; rw [List.mem_singleton] at hf; subst hf; unfold RB.one; rw [HBV.out]; rfl)
  rw [← hwq]
  clear hq hsz b1 hbel bn hbn hwq fr c0 hR hwn
  go_region_law (first
    | (refine step_append_files rfl (.tmp 10) (.tmp 12) rfl (wq.alloc (.cells #[.string (strB r.v.name), .slice ba r.v.b.length bc, .int .i64 r.v.safe] 78)).drew (.slice la fs.length lc) fs [r] fs.length 1 (fs.length + 1) rfl rfl rfl ⟨wq.heap.size, 0, none⟩ 1 rfl (by rw [← HWN.out]; exact HN.out.row) (by omega) rfl HONE.out (by rw [← HWN.out]; exact HP.out) ?_; intro aa ac w8 q1 q2 q3; rw [← HWN.out] at q2 q3; have hgr := HN.out.grew q2; have e8 := (rcell hgr.1).1; have f8 := (rcell hgr.1).2.2.2.2.2.2 0; have HGR := Lib.hid hgr; have HW1 := Lib.hid q1; have HW3 := Lib.hid q3; clear hgr q1 q2 q3)
    | fail)
  all_goals
    have hmk := RAt.make (s := s) (fs' := fs ++ [r]) (lv' := .slice aa (fs.length + 1) ac) HGR.out.1 H.out.footR (fun f hf => by
      rcases List.mem_append.1 hf with h1 | h1
      · exact HGR.out.2.2 (HN.out.files f h1)
      · rw [List.mem_singleton] at h1
        subst h1
        exact HGR.out.2.2 (below_row (HBEL.out.trans (HBN.out.mono (by have := HSZ.out; omega))) HROW.out)) (fun f hf => by
      rcases List.mem_append.1 hf with h1 | h1
      · exact H.out.footB f h1
      · rw [List.mem_singleton] at h1
        subst h1
        exact hF) (by rw [List.length_append]; exact HW1.out) (fun k hk => by
      rcases HW3.out k hk with h1 | h1
      · exact H.out.footL k h1
      · have := HBN.out.size
        have := HSZ.out
        exact hup k (by omega))
    have hm8 : Mod F w w8 := ((Mod.of_below HBEL.out).trans (Mod.of_below HBN.out)).trans HGR.out.2.1
    obtain ⟨w9, hw9⟩ : ∃ y : World, y = w8.setCell ⟨R, 0, none⟩ (.slice aa (fs.length + 1) ac) := ⟨_, rfl⟩
    rw [← hw9] at hmk ⊢
    have hmk1 : RAt F R (mid fs r fs.length) (.slice aa (fs.length + 1) ac) s w9 := by rw [mid_end]; exact hmk.1
    have HM9 : Hid (Mod F w w9) := Lib.hid (hm8.trans hmk.2)
    have HR9 := Lib.hid hmk1
    have c9 := (rcell hmk1.box).1
    clear hmk hm8 hw9 hmk1 e8 f8 d0 fR t0 t1 t2
    go_wp2_with fail
    go_loopw [4] (fun i wr => ∃ j : Nat, j ≤ fs.length ∧ i = .int .i64 j ∧ RAt F R (mid fs r j) (.slice aa (fs.length + 1) ac) s wr ∧ Mod F w wr ∧ ∀ k g, j ≤ k → s.L[k]? = some g → bytesBefore r.v.name g.name = true) (fun i _ => (intOf i).toNat)
    case atStart => exact ⟨fs.length, Nat.le_refl _, by go_num, HR9.out, HM9.out, fun k g hk hg => by rw [← HV.out, List.getElem?_eq_none (by rw [List.length_map]; omega)] at hg; cases hg⟩
    case round =>
      obtain ⟨j, hj, rfl, hat, hmd, hhi⟩ := hrel
      have HAT := Lib.hid hat
      have HMD := Lib.hid hmd
      have HHI := Lib.hid hhi
      clear hat hmd hhi
      obtain ⟨g, c', hlit, _, hFg, _, k0, _, _, frz⟩ := HAT.out.form (mid_at fs r j hj)
      rw [mid_length] at hlit
      simp only [Value.slice.injEq, true_and] at hlit
      obtain ⟨rfl, rfl⟩ := hlit
      have d0 := (rcell HAT.out.box).1
      by_cases hj0 : j = 0
      · subst hj0
        go_wp2_with fail
        go_quiet (fail)
        go_wp2_with fail
        go_end0
        refine ⟨rfl, ⟨mid fs r 0, _, ?_, (HAT.out.keep (S := fun _ => False) ((Mod.refl _ wr).drewN nq) (fun _ _ _ => id)).as rfl⟩, HMD.out.drewN nq⟩
        show _ = insV r.v s.L
        rw [insV_mid hso r.v 0 (Nat.zero_le _) (fun g hg => .inl rfl) HHI.out, ← HV.out]
        unfold mid
        simp
      · obtain ⟨p, rfl⟩ : ∃ p, j = p + 1 := ⟨j - 1, by omega⟩
        obtain ⟨y, hy⟩ : ∃ y, fs[p]? = some y := ⟨fs[p], List.getElem?_eq_getElem (by omega)⟩
        obtain ⟨g2, c2, hlit, _, _, _, m0, m1, m2, _⟩ := HAT.out.form (mid_before fs r y p hy)
        rw [mid_length] at hlit
        simp only [Value.slice.injEq, true_and, Option.some.injEq, Addr.mk.injEq] at hlit
        obtain ⟨⟨rfl, _⟩, rfl⟩ := hlit
        have hyv : s.L[p]? = some y.v := by rw [← HV.out, List.getElem?_map, hy]; rfl
        have hym : y ∈ fs := List.mem_of_getElem? hy
        obtain ⟨ya, yc, hyb⟩ := slice_form (H.out.files y hym)
        have HYB := Lib.hid hyb
        have HY := Lib.hid hy
        have HYV := Lib.hid hyv
        clear hyb hy hyv
        cases hb : bytesBefore r.v.name y.v.name
        · have hb2 : Op.bytesLess (strB r.v.name).toList (strB y.v.name).toList = false := by rw [strB_list, strB_list, bytesLess_before]; exact hb
          have HBF := Lib.hid hb
          clear hb
          go_wp2_with fail
          go_big_quiet (fail)
          go_wp2_with fail
          go_end0
          refine ⟨rfl, ⟨mid fs r (p + 1), _, ?_, (HAT.out.keep (S := fun _ => False) ((Mod.refl _ wr).drewN nq) (fun _ _ _ => id)).as rfl⟩, HMD.out.drewN nq⟩
          show _ = insV r.v s.L
          rw [insV_mid hso r.v (p + 1) (by rw [← HV.out, List.length_map]; exact hj) (fun g hg => .inr (by
            rcases hg with h1 | h1
            · omega
            · have : p + 1 - 1 = p := by omega
              rw [this, HYV.out] at h1
              rw [← Option.some.inj h1]
              exact HBF.out)) HHI.out, ← HV.out]
          unfold mid
          simp
        · have hb2 : Op.bytesLess (strB r.v.name).toList (strB y.v.name).toList = true := by rw [strB_list, strB_list, bytesLess_before]; exact hb
          have HBF := Lib.hid hb
          clear hb
          go_wp2_with fail
          go_big_quiet (fail)
          have hq1 : RAt F R (mid fs r (p + 1)) (.slice (some ⟨g, 0, none⟩) (fs.length + 1) ac) s (wr.drewN nq) := HAT.out.keep (S := fun _ => False) ((Mod.refl _ wr).drewN nq) (fun _ _ _ => id)
          have hm1 : Mod F w (wr.drewN nq) := HMD.out.drewN nq
          obtain ⟨w1, hw1⟩ : ∃ y : World, y = wr.drewN nq := ⟨_, rfl⟩
          rw [← hw1] at hq1 hm1 ⊢
          clear k0 m0 m1 m2 frz d0 hw1
          have HQ1 := Lib.hid hq1
          have HM1 := Lib.hid hm1
          obtain ⟨g3, c3, hlit, _, _, hgR, k0, k1, k2, frz⟩ := hq1.form (mid_at fs r (p + 1) hj)
          rw [mid_length] at hlit
          simp only [Value.slice.injEq, true_and, Option.some.injEq, Addr.mk.injEq] at hlit
          obtain ⟨⟨rfl, _⟩, rfl⟩ := hlit
          have d0 := (rcell hq1.box).1
          rw [HBV.out] at k1
          clear hq1 hm1 frz
          go_upto_region 6 with (fail)
          obtain ⟨w2, hw2⟩ : ∃ y : World, y = w1.alloc (.cells #[.string (strB r.v.name), .slice ba r.v.b.length bc, .int .i64 r.v.safe] 78) := ⟨_, rfl⟩
          have hbl2 : Below w1.heap.size w1 w2 := by rw [hw2]; exact (Below.refl _ w1).alloc (Nat.le_refl _) _
          have bx : w2.heap[w1.heap.size]? = some (.cells #[.string (strB r.v.name), .slice ba r.v.b.length bc, .int .i64 r.v.safe] 78 (0, 0)) := by rw [hw2]; exact heap_alloc_new w1 _
          have HBX := Lib.hid bx
          have hq2 := HQ1.out.below hbl2
          have HQ2 := Lib.hid hq2
          have HM2 : Hid (Mod F w w2) := Lib.hid (HM1.out.trans (Mod.of_below hbl2))
          rw [← hw2]
          clear hw2 hbl2 k0 k1 k2 d0 bx
          obtain ⟨g3, c3, hlit, _, _, hgR, k0, k1, k2, frz⟩ := hq2.form (mid_at fs r (p + 1) hj)
          rw [mid_length] at hlit
          simp only [Value.slice.injEq, true_and, Option.some.injEq, Addr.mk.injEq] at hlit
          obtain ⟨⟨rfl, _⟩, rfl⟩ := hlit
          obtain ⟨g3, c3, hlit, _, _, hgR, m0, m1, m2, _⟩ := hq2.form (mid_before fs r y p HY.out)
          rw [mid_length] at hlit
          simp only [Value.slice.injEq, true_and, Option.some.injEq, Addr.mk.injEq] at hlit
          obtain ⟨⟨rfl, _⟩, rfl⟩ := hlit
          rw [HBV.out] at k1
          rw [HYB.out] at m1
          have d0 := (rcell hq2.box).1
          have z0 := frz ((p + 1) * 3)
          have z1 := frz ((p + 1) * 3 + 1)
          have z2 := frz ((p + 1) * 3 + 2)
          clear hq2 frz
          have i1 : (0 : Int) ≤ (p : Int) + 1 := by omega
          have i2 : (p : Int) + 1 < (fs.length : Int) + 1 := by omega
          have i3 : (p : Int) < (fs.length : Int) + 1 := by omega
          go_region
          have hst := HQ2.out.setAt (mid_at fs r (p + 1) hj) rfl (x := y) (HQ2.out.files y (List.mem_of_getElem? (mid_before fs r y p HY.out))) (fun k hk => H.out.footB y hym k hk)
          rw [HYB.out] at hst
          obtain ⟨w3, hw3⟩ : ∃ z : World, z = (((w2.setCell ⟨g, (p + 1) * 3, none⟩ (.string (strB y.v.name))).setCell ⟨g, (p + 1) * 3 + 1, none⟩ (.slice ya y.v.b.length yc)).setCell ⟨g, (p + 1) * 3 + 2, none⟩ (.int .i64 y.v.safe)).drew := ⟨_, rfl⟩
          have hq3 : RAt F R ((mid fs r (p + 1)).set (p + 1) y) (.slice (some ⟨g, 0, none⟩) (fs.length + 1) ac) s w3 := by rw [hw3]; exact hst.1.keep (S := fun _ => False) ((Mod.refl _ _).drewN 1) (fun _ _ _ => id)
          have hm3 : Mod F w w3 := by rw [hw3]; exact (HM2.out.trans hst.2).drewN 1
          have hmg : Mod (fun t => t = g) w2 w3 := by rw [hw3]; exact (((mod_cell _ _ _ _).trans (mod_cell _ _ _ _)).trans (mod_cell _ _ _ _)).drewN 1
          have hgx : w1.heap.size ≠ g := by
            intro e
            have := (HQ1.out.row.lt g rfl).2
            omega
          have bx := hmg.keep HBX.out hgx
          have hr2 := HQ2.out.files r (List.mem_of_getElem? (mid_at fs r (p + 1) hj))
          have HR3 := Lib.hid (hmg.row hr2 (fun k hk e => rows_apart hr2 HQ2.out.row (by decide) k hk (by rw [e]; rfl)))
          rw [← hw3]
          clear k0 k1 k2 m0 m1 m2 d0 z0 z1 z2 hw3 hst hmg hr2
          have x0 := (cell_of_row w3 w1.heap.size 0 _ _ _ bx).trans rfl
          have x1 := (cell_of_row w3 w1.heap.size 1 _ _ _ bx).trans rfl
          have x2 := (cell_of_row w3 w1.heap.size 2 _ _ _ bx).trans rfl
          have hel : ((mid fs r (p + 1)).set (p + 1) y)[p]? = some y := by
            rw [List.getElem?_set_ne (by omega)]
            exact mid_before fs r y p HY.out
          obtain ⟨g3, c3, hlit, _, _, hgR, m0, m1, m2, frz⟩ := hq3.form hel
          rw [List.length_set, mid_length] at hlit
          simp only [Value.slice.injEq, true_and, Option.some.injEq, Addr.mk.injEq] at hlit
          obtain ⟨⟨rfl, _⟩, rfl⟩ := hlit
          have d0 := (rcell hq3.box).1
          have z0 := frz (p * 3)
          have z1 := frz (p * 3 + 1)
          have z2 := frz (p * 3 + 2)
          have HQ3 := Lib.hid hq3
          have HM3 := Lib.hid hm3
          have HEL := Lib.hid hel
          rw [HYB.out] at m1
          clear hq3 hm3 bx frz hel
          go_upto_region 7 with (fail)
          go_region
          have hst := HQ3.out.setAt HEL.out rfl (x := r) HR3.out hF
          rw [mid_down fs r y p HY.out, HBV.out] at hst
          obtain ⟨w4, hw4⟩ : ∃ z : World, z = (((w3.setCell ⟨g, p * 3, none⟩ (.string (strB r.v.name))).setCell ⟨g, p * 3 + 1, none⟩ (.slice ba r.v.b.length bc)).setCell ⟨g, p * 3 + 2, none⟩ (.int .i64 r.v.safe)).drew := ⟨_, rfl⟩
          have hq4 : RAt F R (mid fs r p) (.slice (some ⟨g, 0, none⟩) (fs.length + 1) ac) s w4 := by rw [hw4]; exact hst.1.keep (S := fun _ => False) ((Mod.refl _ _).drewN 1) (fun _ _ _ => id)
          have hm4 : Mod F w w4 := by rw [hw4]; exact (HM3.out.trans hst.2).drewN 1
          rw [← hw4]
          have HQ4 := Lib.hid hq4
          have HM4 := Lib.hid hm4
          clear m0 m1 m2 x0 x1 x2 d0 z0 z1 z2 hw4 hst hq4 hm4
          go_wp2_with fail
          go_roundw
          case rel =>
            refine ⟨p, by omega, by go_num, HQ4.out, HM4.out, fun k g hk hg => ?_⟩
            rcases Nat.lt_or_ge p k with h1 | h1
            · exact HHI.out k g h1 hg
            · have : k = p := by omega
              subst this
              rw [HYV.out] at hg
              rw [← Option.some.inj hg]
              exact HBF.out
          case measure => simp [intOf]

end Go.Proofs.YtjbhdidjkdlceaaDoor

/- The reference: take and put, seen from outside; Remove. -/
namespace Go.Proofs.YtjbhdidjkdlceaaDoor
open Go.RowKit Go.Maps
set_option linter.unusedVariables false

theorem Fine.beg {s : RS} (h : Fine s) (hc : s.count ≤ 1000) : Fine s.beg := by
  refine ⟨h.size, ⟨by have := h.count; show 0 ≤ s.count + 1; omega, by show s.count + 1 ≤ _; omega⟩, ?_, h.failing, h.num, h.tot⟩
  have := h.armed
  show 0 ≤ (if s.armed = 0 then 0 else s.armed - 1) ∧ (if s.armed = 0 then 0 else s.armed - 1) ≤ _
  split <;> omega

theorem delV_at {L : List VF} (h : Sorted L) {i : Nat} {f : VF} (hf : L[i]? = some f) : delV L f.name = L.eraseIdx i := by
  induction L generalizing i with
  | nil => simp at hf
  | cons a L ih =>
    obtain ⟨ha, hL⟩ := List.pairwise_cons.1 h
    cases i with
    | zero =>
      simp at hf
      subst hf
      show List.filter _ (a :: L) = L
      rw [List.filter_cons, if_neg (by simp)]
      exact List.filter_eq_self.2 (fun g hg => by
        have := before_ne (ha g hg)
        simpa using this.symm)
    | succ i =>
      simp at hf
      have hne : a.name ≠ f.name := before_ne (ha f (List.mem_of_getElem? hf))
      show List.filter _ (a :: L) = a :: L.eraseIdx i
      rw [List.filter_cons, if_pos (by simpa using hne)]
      congr 1
      exact ih hL hf

/-- What take tells: the file; its bytes lie on. -/
structure Taken (F : Nat → Prop) (R : Nat) (s : RS) (i : Nat) (f : VF) (w : World) (e : Ending) (w' : World) (ba : Option Addr) (bc : Nat) : Prop where
  e : e = .returned (.agg #[.string (strB f.name), .slice ba f.b.length bc, .int .i64 f.safe])
  led : Led F R { s with L := delV s.L f.name } w w'
  row : w'.ownsRow 0 5 1 (.slice ba f.b.length bc) f.b.length (f.b.map bv)
  foot : ∀ k, (Value.slice ba f.b.length bc).ownBlock = some k → F k
def TakenAny (F : Nat → Prop) (R : Nat) (s : RS) (i : Nat) (f : VF) (w : World) (e : Ending) (w' : World) : Prop := ∃ ba bc, Taken F R s i f w e w' ba bc

theorem rtake_ref {F : Nat → Prop} {R : Nat} {s : RS} {w : World} (h : Ref F R s w) (hs : Fine s) (hso : Sorted s.L) (hup : ∀ k, w.heap.size ≤ k → F k) {i : Nat} {f : VF} (hf : s.L[i]? = some f) :
    Calls Tryd.prog 56 #[.pointer (some ⟨R, 0, none⟩), .int .i64 (i : Nat)] w (TakenAny F R s i f w) := by
  obtain ⟨fs, r, g, lc, ba, bc, ho⟩ := h.open hf
  refine (rtake_law ho (by rw [ho.few]; exact hs.num) hup).mono ?_
  rintro e w' ⟨rfl, lv', h1, h2, h3⟩
  refine ⟨ba, bc, rfl, ⟨⟨_, lv', ?_, h1.as rfl⟩, h2⟩, h3, fun k hk => ho.ref.footB r (List.mem_of_getElem? ho.at') k (by rw [ho.rbv]; exact hk)⟩
  show _ = delV s.L f.name
  rw [delV_at hso hf, List.eraseIdx_eq_take_drop_succ, List.map_append, List.map_take, List.map_drop, ho.vs, ← List.eraseIdx_eq_take_drop_succ]

theorem rput_ref {F : Nat → Prop} {R : Nat} {s : RS} {w : World} (h : Ref F R s w) (hs : Fine s) (hso : Sorted s.L) (hup : ∀ k, w.heap.size ≤ k → F k) (f : VF) (ba : Option Addr) (bc : Nat) (hrow : w.ownsRow 0 5 1 (.slice ba f.b.length bc) f.b.length (f.b.map bv)) (hF : ∀ k, (Value.slice ba f.b.length bc).ownBlock = some k → F k) (hnew : findV s.L f.name = none) :
    Calls Tryd.prog 55 #[.pointer (some ⟨R, 0, none⟩), .agg #[.string (strB f.name), .slice ba f.b.length bc, .int .i64 f.safe]] w fun e w' => e = .returned (.tuple #[]) ∧ Led F R { s with L := insV f s.L } w w' := by
  obtain ⟨fs, lv, hv, hr⟩ := h.ex
  exact rput_law hr hv hso (by have := hs.num; rw [← hv, List.length_map] at this; exact this) hup ⟨f, .slice ba f.b.length bc⟩ ba bc rfl hrow hF hnew

def RS.remove (s : RS) (x : List UInt8) : (Int × Bool) × RS :=
  match findV s.L x with
  | none => ((6, false), s)
  | some _ => ((0, s.gone), s.chg (delV s.L x) s.failing)

set_option maxHeartbeats 1600000 in
theorem rremove_law {F : Nat → Prop} {R : Nat} {s : RS} {w : World} (h : Ref F R s w) (hs : Fine s) (hc : s.count ≤ 1000) (hso : Sorted s.L) (hup : ∀ k, w.heap.size ≤ k → F k) (x : List UInt8) :
    Calls Tryd.prog 37 #[.pointer (some ⟨R, 0, none⟩), .string (strB x)] w fun e w' => e = .returned (.tuple #[.int .i64 (s.remove x).1.1, .bool (s.remove x).1.2]) ∧ Led F R (s.remove x).2 w w' := by
  unfold RS.remove
  rcases first_of hso x with ⟨hx, h1⟩ | ⟨i, f, hx, hnm, hf, hi, h1⟩
  · have HC := Lib.hid (rfind_none h hs x h1)
    rw [hx]
    simp only []
    have H := Lib.hid h
    clear h hs hso h1
    go_enter Tryd.func37, Tryd.ntmps37
    go_wp2_with (first
      | (go_at_call 54; refine HC.out.mono ?_; rintro e w' ⟨rfl, hw⟩; obtain rfl := hw.symm))
    go_ret2
    exact ⟨rfl, H.out, Mod.refl _ _⟩
  · have HC := Lib.hid (rfind_some h hs x i hi h1)
    rw [hx]
    simp only []
    have HB := Lib.hid (rbegin_law h hs)
    have HT : Hid (∀ w1, Led F R s.beg w w1 → Calls Tryd.prog 56 #[.pointer (some ⟨R, 0, none⟩), .int .i64 (i : Nat)] w1 (TakenAny F R s.beg i f w1)) := Lib.hid (fun w1 hl => rtake_ref hl.ref (hs.beg hc) hso (fun k hk => hup k (by have := hl.mod.size; omega)) hf)
    have HNM := Lib.hid hnm
    have hgo : s.gone = (s.armed == 1) := rfl
    have hro := rem_odd s.keeping
    unfold RS.chg
    rw [hgo]
    clear h hs hso hf h1 hnm
    cases hg : (s.armed == 1)
    · rw [hg] at HB
      have HG := Lib.hid hg
      clear hg hgo hro
      simp only [Bool.true_and, Bool.false_and, Bool.and_true, Bool.and_false, Bool.not_true, Bool.not_false, Bool.false_eq_true, if_true, if_false, ite_self]
      go_enter Tryd.func37, Tryd.ntmps37
      go_upto_region 5 with (first
        | (go_at_call 54; refine HC.out.mono ?_; rintro e w' ⟨rfl, hw⟩; obtain rfl := hw.symm)
        | (go_at_call 53; refine HB.out.mono ?_; rintro e w1 ⟨rfl, hl1⟩; have HL1 := Lib.hid hl1; clear hl1))
      have c4 : w1.cell? ⟨R, 4, none⟩ = some (.int .i64 s.keeping) := HL1.out.ref.keeps
      have HT1 := Lib.hid (HT.out w1 HL1.out)
      go_wp2_with (first
        | (go_at_call 56; refine HT1.out.mono ?_; rintro e w2 ⟨ba, bc, rfl, hl2, hr2, hf2⟩; have HL2 := Lib.hid hl2; clear hl2 hr2 hf2))
      go_ret2
      refine ⟨rfl, HL1.out.trans ⟨HL2.out.ref.as ?_, HL2.out.mod⟩⟩
      rw [HNM.out]
      rfl
    · rw [hg] at HB
      have HG := Lib.hid hg
      clear hg hgo
      cases ho : odd s.keeping
      · rw [ho] at hro
        clear ho
        have HRO := Lib.hid hro
        clear hro
        simp only [Bool.true_and, Bool.false_and, Bool.and_true, Bool.and_false, Bool.not_true, Bool.not_false, Bool.false_eq_true, if_true, if_false, ite_self]
        go_enter Tryd.func37, Tryd.ntmps37
        go_upto_region 5 with (first
          | (go_at_call 54; refine HC.out.mono ?_; rintro e w' ⟨rfl, hw⟩; obtain rfl := hw.symm)
          | (go_at_call 53; refine HB.out.mono ?_; rintro e w1 ⟨rfl, hl1⟩; have HL1 := Lib.hid hl1; clear hl1))
        have c4 : w1.cell? ⟨R, 4, none⟩ = some (.int .i64 s.keeping) := HL1.out.ref.keeps
        have hro := HRO.out
        go_wp2
        go_ret2
        exact ⟨rfl, HL1.out⟩
      · rw [ho] at hro
        clear ho
        have HRO := Lib.hid hro
        clear hro
        simp only [Bool.true_and, Bool.false_and, Bool.and_true, Bool.and_false, Bool.not_true, Bool.not_false, Bool.false_eq_true, if_true, if_false, ite_self]
        go_enter Tryd.func37, Tryd.ntmps37
        go_upto_region 5 with (first
          | (go_at_call 54; refine HC.out.mono ?_; rintro e w' ⟨rfl, hw⟩; obtain rfl := hw.symm)
          | (go_at_call 53; refine HB.out.mono ?_; rintro e w1 ⟨rfl, hl1⟩; have HL1 := Lib.hid hl1; clear hl1))
        have c4 : w1.cell? ⟨R, 4, none⟩ = some (.int .i64 s.keeping) := HL1.out.ref.keeps
        have hro := HRO.out
        have HT1 := Lib.hid (HT.out w1 HL1.out)
        go_wp2_with (first
          | (go_at_call 56; refine HT1.out.mono ?_; rintro e w2 ⟨ba, bc, rfl, hl2, hr2, hf2⟩; have HL2 := Lib.hid hl2; clear hl2 hr2 hf2))
        go_ret2
        refine ⟨rfl, HL1.out.trans ⟨HL2.out.ref.as ?_, HL2.out.mod⟩⟩
        rw [HNM.out]
        rfl

end Go.Proofs.YtjbhdidjkdlceaaDoor

/- The reference: Rename. -/
namespace Go.Proofs.YtjbhdidjkdlceaaDoor
open Go.RowKit Go.Maps
set_option linter.unusedVariables false

theorem Fine.del {s : RS} (h : Fine s) (hso : Sorted s.L) (x : List UInt8) : Fine { s with L := delV s.L x } :=
  ⟨h.size, h.count, h.armed, h.failing, Nat.le_trans (List.length_filter_le _ _) h.num, by
    have := tot_del hso x
    have := h.tot
    show totV (delV s.L x) ≤ _
    omega⟩

theorem none_del {L : List VF} {a b : List UInt8} (h : findV L a = none) : findV (delV L b) a = none := by
  by_cases hab : a = b
  · rw [hab]
    exact findV_delV L b
  · rw [findV_delV_ne hab]
    exact h

def RS.rename (s : RS) (old nm : List UInt8) : (Int × Bool) × RS :=
  match findV s.L old with
  | none => ((6, false), s)
  | some f => if isName nm = false then ((16, false), s) else ((0, s.gone), s.chg (renV s.L f old nm) s.failing)

/-- From the place where the file that lay under the new name is gone. -/
structure Later (F : Nat → Prop) (R : Nat) (s : RS) (nm : List UInt8) (w w' : World) : Prop where
  led : Led F R { s.beg with L := delV s.L nm } w w'

set_option maxHeartbeats 3200000 in
theorem rrename_law {F : Nat → Prop} {R : Nat} {s : RS} {w : World} (h : Ref F R s w) (hs : Fine s) (hc : s.count ≤ 1000) (hso : Sorted s.L) (hup : ∀ k, w.heap.size ≤ k → F k) (old nm : List UInt8) (hnl : nm.length ≤ 9223372036854775807) :
    Calls Tryd.prog 36 #[.pointer (some ⟨R, 0, none⟩), .string (strB old), .string (strB nm)] w fun e w' => e = .returned (.tuple #[.int .i64 (s.rename old nm).1.1, .bool (s.rename old nm).1.2]) ∧ Led F R (s.rename old nm).2 w w' := by
  unfold RS.rename
  rcases first_of hso old with ⟨hx, h1⟩ | ⟨i, f, hx, hnm, hf, hi, h1⟩
  · have HC := Lib.hid (rfind_none h hs old h1)
    rw [hx]
    simp only []
    have H := Lib.hid h
    clear h hs hso h1
    go_enter Tryd.func36, Tryd.ntmps36
    go_wp2_with (first
      | (go_at_call 54; refine HC.out.mono ?_; rintro e w' ⟨rfl, hw⟩; obtain rfl := hw.symm))
    go_ret2
    exact ⟨rfl, H.out, Mod.refl _ _⟩
  · have HC := Lib.hid (rfind_some h hs old i hi h1)
    rw [hx]
    simp only []
    have HN : Hid (∀ w, Calls Tryd.prog 52 #[.string (strB nm)] w fun e w' => e = .returned (.bool (isName nm)) ∧ w' = w) := Lib.hid (fun w => rname_law nm hnl w)
    cases hin : isName nm
    · rw [hin] at HN
      rw [if_pos rfl]
      have H := Lib.hid h
      clear h hs hso h1 hf hin
      go_enter Tryd.func36, Tryd.ntmps36
      go_wp2_with (first
        | (go_at_call 54; refine HC.out.mono ?_; rintro e w' ⟨rfl, hw⟩; obtain rfl := hw.symm)
        | (go_at_call 52; refine (HN.out _).mono ?_; rintro e w' ⟨rfl, hw⟩; obtain rfl := hw.symm))
      go_ret2
      exact ⟨rfl, H.out, Mod.refl _ _⟩
    · rw [hin] at HN
      simp only [Bool.true_eq_false, if_false]
      have HB := Lib.hid (rbegin_law h hs)
      have HS := Lib.hid hs
      have HSO := Lib.hid hso
      have HX := Lib.hid hx
      have HNM := Lib.hid hnm
      have hgo : s.gone = (s.armed == 1) := rfl
      have hro := rem_odd s.keeping
      unfold RS.chg
      rw [hgo]
      have HFB : Hid (Fine s.beg) := Lib.hid (hs.beg hc)
      clear h hs hso hf h1 hnm hx hin
      by_cases hsame : old = nm
      · have HSAME := Lib.hid hsame
        have HEQ : Hid (((strB old).toList == (strB nm).toList) = true) := Lib.hid (by rw [strB_list, strB_list, hsame]; exact beq_self_eq_true _)
        clear hsame
        cases hg : (s.armed == 1)
        · rw [hg] at HB
          have HG := Lib.hid hg
          clear hg hgo hro
          simp only [Bool.true_and, Bool.false_and, Bool.and_true, Bool.and_false, Bool.not_true, Bool.not_false, Bool.false_eq_true, if_true, if_false, ite_self]
          go_enter Tryd.func36, Tryd.ntmps36
          go_upto_region 6 with (first
            | (go_at_call 54; refine HC.out.mono ?_; rintro e w' ⟨rfl, hw⟩; obtain rfl := hw.symm)
            | (go_at_call 52; refine (HN.out _).mono ?_; rintro e w' ⟨rfl, hw⟩; obtain rfl := hw.symm)
            | (go_at_call 53; refine HB.out.mono ?_; rintro e w1 ⟨rfl, hl1⟩; have HL1 := Lib.hid hl1; clear hl1))
          have c4 : w1.cell? ⟨R, 4, none⟩ = some (.int .i64 s.keeping) := HL1.out.ref.keeps
          have heq := HEQ.out
          go_wp2
          go_ret2
          refine ⟨rfl, HL1.out.ref.as ?_, HL1.out.mod⟩
          unfold renV
          rw [if_pos HSAME.out]
          rfl
        · rw [hg] at HB
          have HG := Lib.hid hg
          clear hg hgo
          cases ho : odd s.keeping
          · rw [ho] at hro
            clear ho
            have HRO := Lib.hid hro
            clear hro
            simp only [Bool.true_and, Bool.false_and, Bool.and_true, Bool.and_false, Bool.not_true, Bool.not_false, Bool.false_eq_true, if_true, if_false, ite_self]
            go_enter Tryd.func36, Tryd.ntmps36
            go_upto_region 6 with (first
              | (go_at_call 54; refine HC.out.mono ?_; rintro e w' ⟨rfl, hw⟩; obtain rfl := hw.symm)
              | (go_at_call 52; refine (HN.out _).mono ?_; rintro e w' ⟨rfl, hw⟩; obtain rfl := hw.symm)
              | (go_at_call 53; refine HB.out.mono ?_; rintro e w1 ⟨rfl, hl1⟩; have HL1 := Lib.hid hl1; clear hl1))
            have c4 : w1.cell? ⟨R, 4, none⟩ = some (.int .i64 s.keeping) := HL1.out.ref.keeps
            have hro := HRO.out
            go_wp2
            go_ret2
            exact ⟨rfl, HL1.out⟩
          · rw [ho] at hro
            clear ho
            have HRO := Lib.hid hro
            clear hro
            simp only [Bool.true_and, Bool.false_and, Bool.and_true, Bool.and_false, Bool.not_true, Bool.not_false, Bool.false_eq_true, if_true, if_false, ite_self]
            go_enter Tryd.func36, Tryd.ntmps36
            go_upto_region 6 with (first
              | (go_at_call 54; refine HC.out.mono ?_; rintro e w' ⟨rfl, hw⟩; obtain rfl := hw.symm)
              | (go_at_call 52; refine (HN.out _).mono ?_; rintro e w' ⟨rfl, hw⟩; obtain rfl := hw.symm)
              | (go_at_call 53; refine HB.out.mono ?_; rintro e w1 ⟨rfl, hl1⟩; have HL1 := Lib.hid hl1; clear hl1))
            have c4 : w1.cell? ⟨R, 4, none⟩ = some (.int .i64 s.keeping) := HL1.out.ref.keeps
            have hro := HRO.out
            have heq := HEQ.out
            go_wp2
            go_ret2
            refine ⟨rfl, HL1.out.ref.as ?_, HL1.out.mod⟩
            unfold renV
            rw [if_pos HSAME.out]
            rfl
      · have HNE : Hid (old ≠ nm) := Lib.hid hsame
        have HEQ : Hid (((strB old).toList == (strB nm).toList) = false) := Lib.hid (by rw [strB_list, strB_list, beq_eq_false_iff_ne]; exact hsame)
        clear hsame
        cases hg : (s.armed == 1)
        · rw [hg] at HB
          have HG := Lib.hid hg
          clear hg hgo hro
          simp only [Bool.true_and, Bool.false_and, Bool.and_true, Bool.and_false, Bool.not_true, Bool.not_false, Bool.false_eq_true, if_true, if_false, ite_self]
          go_enter Tryd.func36, Tryd.ntmps36
          go_upto_region 6 with (first
            | (go_at_call 54; refine HC.out.mono ?_; rintro e w' ⟨rfl, hw⟩; obtain rfl := hw.symm)
            | (go_at_call 52; refine (HN.out _).mono ?_; rintro e w' ⟨rfl, hw⟩; obtain rfl := hw.symm)
            | (go_at_call 53; refine HB.out.mono ?_; rintro e w1 ⟨rfl, hl1⟩; have HL1 := Lib.hid hl1; clear hl1))
          have c4 : w1.cell? ⟨R, 4, none⟩ = some (.int .i64 s.keeping) := HL1.out.ref.keeps
          have heq := HEQ.out
          have hso2 : Sorted (delV s.L nm) := sorted_delV nm HSO.out
          have hfd : findV (delV s.L nm) old = some f := by rw [findV_delV_ne HNE.out]; exact HX.out
          have HTL : Hid (∀ w2, Led F R { s.beg with L := delV s.L nm } w w2 → ∃ i3 : Nat, Calls Tryd.prog 54 #[.pointer (some ⟨R, 0, none⟩), .string (strB old)] w2 (fun e w' => e = .returned (.int .i64 i3) ∧ w' = w2) ∧
              Calls Tryd.prog 56 #[.pointer (some ⟨R, 0, none⟩), .int .i64 (i3 : Nat)] w2 (TakenAny F R { s.beg with L := delV s.L nm } i3 f w2)) := Lib.hid (fun w2 hl => by
            rcases first_of hso2 old with ⟨hx3, _⟩ | ⟨i3, f3, hx3, hn3, hf3, hi3, h3⟩
            · rw [hfd] at hx3
              cases hx3
            · rw [hfd] at hx3
              obtain rfl := Option.some.inj hx3
              refine ⟨i3, rfind_some hl.ref (HFB.out.del HSO.out nm) old i3 hi3 h3, rtake_ref hl.ref (HFB.out.del HSO.out nm) hso2 (fun k hk => hup k (by have := hl.mod.size; omega)) hf3⟩)
          rcases first_of HSO.out nm with ⟨hx2, h2⟩ | ⟨i2, f2, hx2, hn2, hf2, hi2, h2⟩
          · have HC2 := Lib.hid (rfind_none HL1.out.ref HFB.out nm h2)
            have HL2 : Hid (Led F R { s.beg with L := delV s.L nm } w w1) := Lib.hid ⟨HL1.out.ref.as (by rw [delV_none hx2]; rfl), HL1.out.mod⟩
            clear hx2 h2
            go_upto_region 10 with (first
              | (go_at_call 54; refine HC2.out.mono ?_; rintro e w' ⟨rfl, hw⟩; obtain rfl := hw.symm))
            obtain ⟨i3, hf3, ht3⟩ := HTL.out w1 HL2.out
            have HF3 := Lib.hid hf3
            have HT3 := Lib.hid ht3
            clear hf3 ht3
            go_upto_region 11 with (first
              | (go_at_call 54; refine HF3.out.mono ?_; rintro e w' ⟨rfl, hw⟩; obtain rfl := hw.symm)
              | (go_at_call 56; refine HT3.out.mono ?_; rintro e w3 ⟨ba, bc, rfl, hl3, hr3, hf3⟩; have HL3 := Lib.hid hl3; have HR3 := Lib.hid hr3; have HF4 := Lib.hid hf3; clear hl3 hr3 hf3))
            obtain ⟨w4, hw4⟩ : ∃ y : World, y = w3.alloc (.cells #[.string (strB f.name), .slice ba f.b.length bc, .int .i64 f.safe] 78) := ⟨_, rfl⟩
            have hbx : w4.heap[w3.heap.size]? = some (.cells #[.string (strB f.name), .slice ba f.b.length bc, .int .i64 f.safe] 78 (0, 0)) := by rw [hw4]; exact heap_alloc_new w3 _
            have hbl : Below w3.heap.size w3 w4 := by rw [hw4]; exact (Below.refl _ w3).alloc (Nat.le_refl _) _
            rw [← hw4]
            have x0 := (cell_of_row w4 w3.heap.size 0 _ _ _ hbx).trans rfl
            have xf := frozen_of_row w4 w3.heap.size 0 _ _ hbx
            have HBX := Lib.hid hbx
            have HBL := Lib.hid hbl
            clear hbx hbl hw4
            go_upto_region 12 with (fail)
            obtain ⟨w5, hw5⟩ : ∃ y : World, y = w4.setCell ⟨w3.heap.size, 0, none⟩ (.string (strB nm)) := ⟨_, rfl⟩
            have hbx5 : w5.heap[w3.heap.size]? = some (.cells #[.string (strB nm), .slice ba f.b.length bc, .int .i64 f.safe] 78 (0, 0)) := by
              rw [hw5, row_setCell HBX.out 0 (.string (strB nm))]
              rfl
            have hbl5 : Below w3.heap.size w3 w5 := by
              rw [hw5]
              exact HBL.out.trans ((mod_cell w3.heap.size 0 w4 (.string (strB nm))).below (fun k e => Nat.le_of_eq e.symm) HBL.out.size)
            rw [← hw5]
            have y0 := (cell_of_row w5 w3.heap.size 0 _ _ _ hbx5).trans rfl
            have y1 := (cell_of_row w5 w3.heap.size 1 _ _ _ hbx5).trans rfl
            have y2 := (cell_of_row w5 w3.heap.size 2 _ _ _ hbx5).trans rfl
            have HBL5 := Lib.hid hbl5
            have hl5 : Led F R { s.beg with L := delV (delV s.L nm) f.name } w w5 := HL2.out.trans (HL3.out.trans ⟨HL3.out.ref.below hbl5, Mod.of_below hbl5⟩)
            have HL5 := Lib.hid hl5
            have hput := rput_ref hl5.ref ((HFB.out.del HSO.out nm).del hso2 f.name) (sorted_delV f.name hso2) (fun k hk => hup k (by have := hl5.mod.size; omega)) ⟨nm, f.b, f.safe⟩ ba bc (below_row hbl5 HR3.out) HF4.out (none_del (findV_delV s.L nm))
            have HPUT := Lib.hid hput
            clear hbx5 hbl5 hl5 hput hw5 x0 xf
            go_wp2_with (first
              | (go_at_call 55; refine HPUT.out.mono ?_; rintro e w6 ⟨rfl, hl6⟩; have HL6 := Lib.hid hl6; clear hl6))
            go_ret2
            refine ⟨rfl, HL5.out.trans ⟨HL6.out.ref.as ?_, HL6.out.mod⟩⟩
            rw [HNM.out]
            show _ = { s.beg with L := renV s.L f old nm, failing := s.failing }
            unfold renV
            rw [if_neg HNE.out]
            rfl
          · have HC2 := Lib.hid (rfind_some HL1.out.ref HFB.out nm i2 hi2 h2)
            have HT2 := Lib.hid (rtake_ref HL1.out.ref HFB.out HSO.out (fun k hk => hup k (by have := HL1.out.mod.size; omega)) hf2)
            have HN2 := Lib.hid hn2
            clear hx2 h2 hf2 hn2
            go_upto_region 10 with (first
              | (go_at_call 54; refine HC2.out.mono ?_; rintro e w' ⟨rfl, hw⟩; obtain rfl := hw.symm)
              | (go_at_call 56; refine HT2.out.mono ?_; rintro e w2 ⟨ba2, bc2, rfl, hl2, _, _⟩; have HL2 : Hid (Led F R { s.beg with L := delV s.L nm } w w2) := Lib.hid (HL1.out.trans ⟨hl2.ref.as (by rw [HN2.out]; rfl), hl2.mod⟩); clear hl2))
            obtain ⟨i3, hf3, ht3⟩ := HTL.out w2 HL2.out
            have HF3 := Lib.hid hf3
            have HT3 := Lib.hid ht3
            clear hf3 ht3
            go_upto_region 11 with (first
              | (go_at_call 54; refine HF3.out.mono ?_; rintro e w' ⟨rfl, hw⟩; obtain rfl := hw.symm)
              | (go_at_call 56; refine HT3.out.mono ?_; rintro e w3 ⟨ba, bc, rfl, hl3, hr3, hf3⟩; have HL3 := Lib.hid hl3; have HR3 := Lib.hid hr3; have HF4 := Lib.hid hf3; clear hl3 hr3 hf3))
            obtain ⟨w4, hw4⟩ : ∃ y : World, y = w3.alloc (.cells #[.string (strB f.name), .slice ba f.b.length bc, .int .i64 f.safe] 78) := ⟨_, rfl⟩
            have hbx : w4.heap[w3.heap.size]? = some (.cells #[.string (strB f.name), .slice ba f.b.length bc, .int .i64 f.safe] 78 (0, 0)) := by rw [hw4]; exact heap_alloc_new w3 _
            have hbl : Below w3.heap.size w3 w4 := by rw [hw4]; exact (Below.refl _ w3).alloc (Nat.le_refl _) _
            rw [← hw4]
            have x0 := (cell_of_row w4 w3.heap.size 0 _ _ _ hbx).trans rfl
            have xf := frozen_of_row w4 w3.heap.size 0 _ _ hbx
            have HBX := Lib.hid hbx
            have HBL := Lib.hid hbl
            clear hbx hbl hw4
            go_upto_region 12 with (fail)
            obtain ⟨w5, hw5⟩ : ∃ y : World, y = w4.setCell ⟨w3.heap.size, 0, none⟩ (.string (strB nm)) := ⟨_, rfl⟩
            have hbx5 : w5.heap[w3.heap.size]? = some (.cells #[.string (strB nm), .slice ba f.b.length bc, .int .i64 f.safe] 78 (0, 0)) := by
              rw [hw5, row_setCell HBX.out 0 (.string (strB nm))]
              rfl
            have hbl5 : Below w3.heap.size w3 w5 := by
              rw [hw5]
              exact HBL.out.trans ((mod_cell w3.heap.size 0 w4 (.string (strB nm))).below (fun k e => Nat.le_of_eq e.symm) HBL.out.size)
            rw [← hw5]
            have y0 := (cell_of_row w5 w3.heap.size 0 _ _ _ hbx5).trans rfl
            have y1 := (cell_of_row w5 w3.heap.size 1 _ _ _ hbx5).trans rfl
            have y2 := (cell_of_row w5 w3.heap.size 2 _ _ _ hbx5).trans rfl
            have HBL5 := Lib.hid hbl5
            have hl5 : Led F R { s.beg with L := delV (delV s.L nm) f.name } w w5 := HL2.out.trans (HL3.out.trans ⟨HL3.out.ref.below hbl5, Mod.of_below hbl5⟩)
            have HL5 := Lib.hid hl5
            have hput := rput_ref hl5.ref ((HFB.out.del HSO.out nm).del hso2 f.name) (sorted_delV f.name hso2) (fun k hk => hup k (by have := hl5.mod.size; omega)) ⟨nm, f.b, f.safe⟩ ba bc (below_row hbl5 HR3.out) HF4.out (none_del (findV_delV s.L nm))
            have HPUT := Lib.hid hput
            clear hbx5 hbl5 hl5 hput hw5 x0 xf
            go_wp2_with (first
              | (go_at_call 55; refine HPUT.out.mono ?_; rintro e w6 ⟨rfl, hl6⟩; have HL6 := Lib.hid hl6; clear hl6))
            go_ret2
            refine ⟨rfl, HL5.out.trans ⟨HL6.out.ref.as ?_, HL6.out.mod⟩⟩
            rw [HNM.out]
            show _ = { s.beg with L := renV s.L f old nm, failing := s.failing }
            unfold renV
            rw [if_neg HNE.out]
            rfl
        · rw [hg] at HB
          have HG := Lib.hid hg
          clear hg hgo
          cases ho : odd s.keeping
          · rw [ho] at hro
            clear ho
            have HRO := Lib.hid hro
            clear hro
            simp only [Bool.true_and, Bool.false_and, Bool.and_true, Bool.and_false, Bool.not_true, Bool.not_false, Bool.false_eq_true, if_true, if_false, ite_self]
            go_enter Tryd.func36, Tryd.ntmps36
            go_upto_region 6 with (first
              | (go_at_call 54; refine HC.out.mono ?_; rintro e w' ⟨rfl, hw⟩; obtain rfl := hw.symm)
              | (go_at_call 52; refine (HN.out _).mono ?_; rintro e w' ⟨rfl, hw⟩; obtain rfl := hw.symm)
              | (go_at_call 53; refine HB.out.mono ?_; rintro e w1 ⟨rfl, hl1⟩; have HL1 := Lib.hid hl1; clear hl1))
            have c4 : w1.cell? ⟨R, 4, none⟩ = some (.int .i64 s.keeping) := HL1.out.ref.keeps
            have hro := HRO.out
            go_wp2
            go_ret2
            exact ⟨rfl, HL1.out⟩
          · rw [ho] at hro
            clear ho
            have HRO := Lib.hid hro
            clear hro
            simp only [Bool.true_and, Bool.false_and, Bool.and_true, Bool.and_false, Bool.not_true, Bool.not_false, Bool.false_eq_true, if_true, if_false, ite_self]
            go_enter Tryd.func36, Tryd.ntmps36
            go_upto_region 6 with (first
              | (go_at_call 54; refine HC.out.mono ?_; rintro e w' ⟨rfl, hw⟩; obtain rfl := hw.symm)
              | (go_at_call 52; refine (HN.out _).mono ?_; rintro e w' ⟨rfl, hw⟩; obtain rfl := hw.symm)
              | (go_at_call 53; refine HB.out.mono ?_; rintro e w1 ⟨rfl, hl1⟩; have HL1 := Lib.hid hl1; clear hl1))
            have c4 : w1.cell? ⟨R, 4, none⟩ = some (.int .i64 s.keeping) := HL1.out.ref.keeps
            have hro := HRO.out
            have heq := HEQ.out
            have hso2 : Sorted (delV s.L nm) := sorted_delV nm HSO.out
            have hfd : findV (delV s.L nm) old = some f := by rw [findV_delV_ne HNE.out]; exact HX.out
            have HTL : Hid (∀ w2, Led F R { s.beg with L := delV s.L nm } w w2 → ∃ i3 : Nat, Calls Tryd.prog 54 #[.pointer (some ⟨R, 0, none⟩), .string (strB old)] w2 (fun e w' => e = .returned (.int .i64 i3) ∧ w' = w2) ∧
                Calls Tryd.prog 56 #[.pointer (some ⟨R, 0, none⟩), .int .i64 (i3 : Nat)] w2 (TakenAny F R { s.beg with L := delV s.L nm } i3 f w2)) := Lib.hid (fun w2 hl => by
              rcases first_of hso2 old with ⟨hx3, _⟩ | ⟨i3, f3, hx3, hn3, hf3, hi3, h3⟩
              · rw [hfd] at hx3
                cases hx3
              · rw [hfd] at hx3
                obtain rfl := Option.some.inj hx3
                refine ⟨i3, rfind_some hl.ref (HFB.out.del HSO.out nm) old i3 hi3 h3, rtake_ref hl.ref (HFB.out.del HSO.out nm) hso2 (fun k hk => hup k (by have := hl.mod.size; omega)) hf3⟩)
            rcases first_of HSO.out nm with ⟨hx2, h2⟩ | ⟨i2, f2, hx2, hn2, hf2, hi2, h2⟩
            · have HC2 := Lib.hid (rfind_none HL1.out.ref HFB.out nm h2)
              have HL2 : Hid (Led F R { s.beg with L := delV s.L nm } w w1) := Lib.hid ⟨HL1.out.ref.as (by rw [delV_none hx2]; rfl), HL1.out.mod⟩
              clear hx2 h2
              go_upto_region 10 with (first
                | (go_at_call 54; refine HC2.out.mono ?_; rintro e w' ⟨rfl, hw⟩; obtain rfl := hw.symm))
              obtain ⟨i3, hf3, ht3⟩ := HTL.out w1 HL2.out
              have HF3 := Lib.hid hf3
              have HT3 := Lib.hid ht3
              clear hf3 ht3
              go_upto_region 11 with (first
                | (go_at_call 54; refine HF3.out.mono ?_; rintro e w' ⟨rfl, hw⟩; obtain rfl := hw.symm)
                | (go_at_call 56; refine HT3.out.mono ?_; rintro e w3 ⟨ba, bc, rfl, hl3, hr3, hf3⟩; have HL3 := Lib.hid hl3; have HR3 := Lib.hid hr3; have HF4 := Lib.hid hf3; clear hl3 hr3 hf3))
              obtain ⟨w4, hw4⟩ : ∃ y : World, y = w3.alloc (.cells #[.string (strB f.name), .slice ba f.b.length bc, .int .i64 f.safe] 78) := ⟨_, rfl⟩
              have hbx : w4.heap[w3.heap.size]? = some (.cells #[.string (strB f.name), .slice ba f.b.length bc, .int .i64 f.safe] 78 (0, 0)) := by rw [hw4]; exact heap_alloc_new w3 _
              have hbl : Below w3.heap.size w3 w4 := by rw [hw4]; exact (Below.refl _ w3).alloc (Nat.le_refl _) _
              rw [← hw4]
              have x0 := (cell_of_row w4 w3.heap.size 0 _ _ _ hbx).trans rfl
              have xf := frozen_of_row w4 w3.heap.size 0 _ _ hbx
              have HBX := Lib.hid hbx
              have HBL := Lib.hid hbl
              clear hbx hbl hw4
              go_upto_region 12 with (fail)
              obtain ⟨w5, hw5⟩ : ∃ y : World, y = w4.setCell ⟨w3.heap.size, 0, none⟩ (.string (strB nm)) := ⟨_, rfl⟩
              have hbx5 : w5.heap[w3.heap.size]? = some (.cells #[.string (strB nm), .slice ba f.b.length bc, .int .i64 f.safe] 78 (0, 0)) := by
                rw [hw5, row_setCell HBX.out 0 (.string (strB nm))]
                rfl
              have hbl5 : Below w3.heap.size w3 w5 := by
                rw [hw5]
                exact HBL.out.trans ((mod_cell w3.heap.size 0 w4 (.string (strB nm))).below (fun k e => Nat.le_of_eq e.symm) HBL.out.size)
              rw [← hw5]
              have y0 := (cell_of_row w5 w3.heap.size 0 _ _ _ hbx5).trans rfl
              have y1 := (cell_of_row w5 w3.heap.size 1 _ _ _ hbx5).trans rfl
              have y2 := (cell_of_row w5 w3.heap.size 2 _ _ _ hbx5).trans rfl
              have HBL5 := Lib.hid hbl5
              have hl5 : Led F R { s.beg with L := delV (delV s.L nm) f.name } w w5 := HL2.out.trans (HL3.out.trans ⟨HL3.out.ref.below hbl5, Mod.of_below hbl5⟩)
              have HL5 := Lib.hid hl5
              have hput := rput_ref hl5.ref ((HFB.out.del HSO.out nm).del hso2 f.name) (sorted_delV f.name hso2) (fun k hk => hup k (by have := hl5.mod.size; omega)) ⟨nm, f.b, f.safe⟩ ba bc (below_row hbl5 HR3.out) HF4.out (none_del (findV_delV s.L nm))
              have HPUT := Lib.hid hput
              clear hbx5 hbl5 hl5 hput hw5 x0 xf
              go_wp2_with (first
                | (go_at_call 55; refine HPUT.out.mono ?_; rintro e w6 ⟨rfl, hl6⟩; have HL6 := Lib.hid hl6; clear hl6))
              go_ret2
              refine ⟨rfl, HL5.out.trans ⟨HL6.out.ref.as ?_, HL6.out.mod⟩⟩
              rw [HNM.out]
              show _ = { s.beg with L := renV s.L f old nm, failing := s.failing }
              unfold renV
              rw [if_neg HNE.out]
              rfl
            · have HC2 := Lib.hid (rfind_some HL1.out.ref HFB.out nm i2 hi2 h2)
              have HT2 := Lib.hid (rtake_ref HL1.out.ref HFB.out HSO.out (fun k hk => hup k (by have := HL1.out.mod.size; omega)) hf2)
              have HN2 := Lib.hid hn2
              clear hx2 h2 hf2 hn2
              go_upto_region 10 with (first
                | (go_at_call 54; refine HC2.out.mono ?_; rintro e w' ⟨rfl, hw⟩; obtain rfl := hw.symm)
                | (go_at_call 56; refine HT2.out.mono ?_; rintro e w2 ⟨ba2, bc2, rfl, hl2, _, _⟩; have HL2 : Hid (Led F R { s.beg with L := delV s.L nm } w w2) := Lib.hid (HL1.out.trans ⟨hl2.ref.as (by rw [HN2.out]; rfl), hl2.mod⟩); clear hl2))
              obtain ⟨i3, hf3, ht3⟩ := HTL.out w2 HL2.out
              have HF3 := Lib.hid hf3
              have HT3 := Lib.hid ht3
              clear hf3 ht3
              go_upto_region 11 with (first
                | (go_at_call 54; refine HF3.out.mono ?_; rintro e w' ⟨rfl, hw⟩; obtain rfl := hw.symm)
                | (go_at_call 56; refine HT3.out.mono ?_; rintro e w3 ⟨ba, bc, rfl, hl3, hr3, hf3⟩; have HL3 := Lib.hid hl3; have HR3 := Lib.hid hr3; have HF4 := Lib.hid hf3; clear hl3 hr3 hf3))
              obtain ⟨w4, hw4⟩ : ∃ y : World, y = w3.alloc (.cells #[.string (strB f.name), .slice ba f.b.length bc, .int .i64 f.safe] 78) := ⟨_, rfl⟩
              have hbx : w4.heap[w3.heap.size]? = some (.cells #[.string (strB f.name), .slice ba f.b.length bc, .int .i64 f.safe] 78 (0, 0)) := by rw [hw4]; exact heap_alloc_new w3 _
              have hbl : Below w3.heap.size w3 w4 := by rw [hw4]; exact (Below.refl _ w3).alloc (Nat.le_refl _) _
              rw [← hw4]
              have x0 := (cell_of_row w4 w3.heap.size 0 _ _ _ hbx).trans rfl
              have xf := frozen_of_row w4 w3.heap.size 0 _ _ hbx
              have HBX := Lib.hid hbx
              have HBL := Lib.hid hbl
              clear hbx hbl hw4
              go_upto_region 12 with (fail)
              obtain ⟨w5, hw5⟩ : ∃ y : World, y = w4.setCell ⟨w3.heap.size, 0, none⟩ (.string (strB nm)) := ⟨_, rfl⟩
              have hbx5 : w5.heap[w3.heap.size]? = some (.cells #[.string (strB nm), .slice ba f.b.length bc, .int .i64 f.safe] 78 (0, 0)) := by
                rw [hw5, row_setCell HBX.out 0 (.string (strB nm))]
                rfl
              have hbl5 : Below w3.heap.size w3 w5 := by
                rw [hw5]
                exact HBL.out.trans ((mod_cell w3.heap.size 0 w4 (.string (strB nm))).below (fun k e => Nat.le_of_eq e.symm) HBL.out.size)
              rw [← hw5]
              have y0 := (cell_of_row w5 w3.heap.size 0 _ _ _ hbx5).trans rfl
              have y1 := (cell_of_row w5 w3.heap.size 1 _ _ _ hbx5).trans rfl
              have y2 := (cell_of_row w5 w3.heap.size 2 _ _ _ hbx5).trans rfl
              have HBL5 := Lib.hid hbl5
              have hl5 : Led F R { s.beg with L := delV (delV s.L nm) f.name } w w5 := HL2.out.trans (HL3.out.trans ⟨HL3.out.ref.below hbl5, Mod.of_below hbl5⟩)
              have HL5 := Lib.hid hl5
              have hput := rput_ref hl5.ref ((HFB.out.del HSO.out nm).del hso2 f.name) (sorted_delV f.name hso2) (fun k hk => hup k (by have := hl5.mod.size; omega)) ⟨nm, f.b, f.safe⟩ ba bc (below_row hbl5 HR3.out) HF4.out (none_del (findV_delV s.L nm))
              have HPUT := Lib.hid hput
              clear hbx5 hbl5 hl5 hput hw5 x0 xf
              go_wp2_with (first
                | (go_at_call 55; refine HPUT.out.mono ?_; rintro e w6 ⟨rfl, hl6⟩; have HL6 := Lib.hid hl6; clear hl6))
              go_ret2
              refine ⟨rfl, HL5.out.trans ⟨HL6.out.ref.as ?_, HL6.out.mod⟩⟩
              rw [HNM.out]
              show _ = { s.beg with L := renV s.L f old nm, failing := s.failing }
              unfold renV
              rw [if_neg HNE.out]
              rfl

end Go.Proofs.YtjbhdidjkdlceaaDoor
