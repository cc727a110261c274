/- The reference: append of files; take. -/
import Derived.Test.YtjbhdidjkdlceaaDoorRefB
import Derived.Deep.RegionLaw

/- The reference: append of files; take. -/
namespace Go.Proofs.YtjbhdidjkdlceaaDoor
open Go.RowKit Go.Maps
set_option linter.unusedVariables false

theorem info78 : (Tryd.prog.info? 78).map (fun i => (i.zero, i.size, i.bytes)) = some (some (.agg #[.string ByteArray.empty, .slice none 0 0, .int .i64 0]), 3, 48) := by kernel_rfl

def RB.one (f : RB) : Prop := f.bv.oneCell' = true
theorem rcells_one {fs : List RB} (h : ∀ f ∈ fs, f.one) : ∀ u ∈ rcells fs, u.oneCell' = true := by
  intro u hu
  obtain ⟨f, hf, hu⟩ := List.mem_flatMap.1 hu
  simp only [RB.cells, List.mem_cons, List.not_mem_nil, or_false] at hu
  rcases hu with rfl | rfl | rfl
  · rfl
  · exact h f hf
  · rfl
theorem rcells_append (a b : List RB) : rcells (a ++ b) = rcells a ++ rcells b := by
  unfold rcells
  rw [List.flatMap_append]
theorem RAt.ones {F : Nat → Prop} {R : Nat} {fs : List RB} {lv : Value} {s : RS} {w : World} (h : RAt F R fs lv s w) : ∀ f ∈ fs, f.one := fun f hf => by
  obtain ⟨a, c, e⟩ := slice_form (h.files f hf)
  unfold RB.one
  rw [e]
  rfl

theorem run_append_files (ty : TypeId) (w0 : World) (av : Value) (As news : List RB) (ad : Addr) (rc : Nat)
    (hrow : w0.ownsRow 0 78 3 av As.length (rcells As)) (hl : As.length + news.length ≤ 400000) (h1 : ∀ f ∈ news, f.one) (hb : ∀ j u, (rcells news)[j]? = some u → w0.cell? (ad.add j) = some u) :
    ∃ aa ac w', (Builtin.append_ #[31, 31] ty #[av, .slice (some ad) news.length rc]).run Tryd.prog w0 = .ok (.slice aa (As.length + news.length) ac) w' ∧ w'.ownsRow 0 78 3 (.slice aa (As.length + news.length) ac) (As.length + news.length) (rcells (As ++ news)) ∧ w0.grownBy w' av.ownBlock ∧
      ∀ t, (Value.slice aa (As.length + news.length) ac).ownBlock = some t → av.ownBlock = some t ∨ w0.heap.size ≤ t := by
  obtain ⟨i0, hin, hz0, hz1, hz2⟩ := info_parts info78
  obtain ⟨v', w', hr, hown, hg, _, hat⟩ := run_append_own_at (P := Tryd.prog) w0 0 31 ty 78 i0 _ 3 48 Tryd.underlying31 hin hz0 hz1 hz2 rfl (by decide) av As.length (rcells As) hrow ad news.length rc (rcells news) (rcells_length news) hb (rcells_one h1) (by unfold maxLen; omega) (by omega) (Nat.zero_le _)
  obtain ⟨aa, ac, rfl⟩ := slice_form hown
  rw [← rcells_append] at hown
  refine ⟨aa, ac, w', hr, hown, hg, fun t ht => ?_⟩
  rcases hat with hat | hat
  · exact .inl (by rw [← hat]; exact ht)
  · rw [hat] at ht
    simp only [Option.some.injEq] at ht
    exact .inr (by omega)

theorem step_append_files {ops : Array Oper} {o : Oper} {a : Act} {K : Act → World → Prop} {Q : Exit → Act → World → Prop} {E : Prop} (hgd : o.guard = none) (s xo : Operand) (ho : o.op = .call { callee := .builtin .append, args := #[s, xo], argTypes := #[31, 31] })
    (w0 : World) (av : Value) (As news : List RB) (m n k : Nat) (hm : As.length = m) (hn : news.length = n) (hk : m + n = k) (ad : Addr) (rc : Nat) (hs : a.eval s = av)
    (hrow : w0.ownsRow 0 78 3 av As.length (rcells As)) (hl : k ≤ 400000) (hx : a.eval xo = .slice (some ad) n rc) (h1 : ∀ f ∈ news, f.one) (hb : ∀ j u, (rcells news)[j]? = some u → w0.cell? (ad.add j) = some u)
    (h : ∀ aa ac w', w'.ownsRow 0 78 3 (.slice aa k ac) k (rcells (As ++ news)) → w0.grownBy w' av.ownBlock → (∀ t, (Value.slice aa k ac).ownBlock = some t → av.ownBlock = some t ∨ w0.heap.size ≤ t) → K (a.put o.dst (.slice aa k ac)) w') :
    if Region.wanted o (yielded ops a.tmps) = true then Oper.wp Tryd.prog o a w0 K Q else E := by
  have hw : Region.wanted o (yielded ops a.tmps) = true := by simp [Region.wanted, hgd]
  rw [if_pos hw]
  subst hm hn hk
  obtain ⟨aa, ac, w', hr, q1, q2, q3⟩ := run_append_files o.type w0 av As news ad rc hrow hl h1 hb
  unfold Oper.wp execOp
  simp only [ho, resolve, invoke, builtin, Sem.run_bind, Sem.run_pure, Result.andThen_ok, List.map_toArray, List.map_cons, List.map_nil, hs, hx, hr]
  exact h aa ac w' q1 q2 q3

/-- A part of a list's cells. -/
theorem RAt.part {F : Nat → Prop} {R : Nat} {fs : List RB} {g lc n : Nat} {s : RS} {w : World} (h : RAt F R fs (.slice (some ⟨g, 0, none⟩) n lc) s w) (hn : n = fs.length) (a b : List RB) (m : List RB) (he : fs = a ++ m ++ b) (k : Nat) (hk : k = a.length * 3) : ∀ j u, (rcells m)[j]? = some u → w.cell? ((⟨g, k, none⟩ : Addr).add j) = some u := by
  subst hn hk
  intro j u hu
  have hj : j < (rcells m).length := (List.getElem?_eq_some_iff.1 hu).1
  rw [rcells_length] at hj
  have hl : fs.length = a.length + m.length + b.length := by rw [he, List.length_append, List.length_append]
  rw [Addr.add_lit, h.row.cellAt _ (by omega), he, rcells_append, rcells_append, List.append_assoc, List.getElem?_append_right (by rw [rcells_length]; omega), List.getElem?_append_left (by rw [rcells_length, rcells_length]; omega), rcells_length]
  rw [← hu]
  congr 1
  omega

/-- Another list in the reference's first cell. -/
theorem RAt.relist {F : Nat → Prop} {R : Nat} {fs fs' : List RB} {lv lv' : Value} {s : RS} {w : World} (h : RAt F R fs lv s w) (hfiles : ∀ f ∈ fs', w.ownsRow 0 5 1 f.bv f.v.b.length (f.v.b.map bv)) (hB : ∀ f ∈ fs', ∀ k, f.bv.ownBlock = some k → F k)
    (hrow : w.ownsRow 0 78 3 lv' fs'.length (rcells fs')) (hF : ∀ k, lv'.ownBlock = some k → F k) : RAt F R fs' lv' s (w.setCell ⟨R, 0, none⟩ lv') ∧ Mod (fun t => t = R) w (w.setCell ⟨R, 0, none⟩ lv') := by
  have m := mod_cell R 0 w lv'
  refine ⟨⟨row_setCell h.box 0 lv', m.row hrow (fun k hk e => ?_), fun f hf => m.row (hfiles f hf) (fun k hk e => own_ne (hfiles f hf) h.box (by decide) (e ▸ hk)), h.footR, hF, hB⟩, m⟩
  subst e
  rcases hrow.2 with ⟨e1, _⟩ | ⟨g, cap, cur, e1, _, hg, _⟩
  · rw [e1] at hk
    cases hk
  · rw [e1] at hk
    simp [Value.ownBlock] at hk
    subst hk
    rw [h.box] at hg
    simp at hg

set_option maxHeartbeats 3200000 in
theorem rtake_law {F : Nat → Prop} {R : Nat} {s : RS} {i : Nat} {f : VF} {w : World} {fs : List RB} {r : RB} {g lc : Nat} {ba : Option Addr} {bc : Nat} (h : Opened F R s i f w fs r g lc ba bc) (hs : fs.length ≤ 100000) (hup : ∀ k, w.heap.size ≤ k → F k) :
    Calls Tryd.prog 56 #[.pointer (some ⟨R, 0, none⟩), .int .i64 i] w fun e w' => e = .returned (.agg #[.string (strB f.name), .slice ba f.b.length bc, .int .i64 f.safe]) ∧ ∃ lv', RAt F R (fs.eraseIdx i) lv' s w' ∧ Mod F w w' ∧ w'.ownsRow 0 5 1 (.slice ba f.b.length bc) f.b.length (f.b.map bv) := by
  have H := Lib.hid h
  have c0 := h.c0
  have k0 := h.k0
  have k1 := h.k1
  have k2 := h.k2
  have hlt := h.lt
  have hR : R < w.heap.size := lt_of_block h.ref.box
  have hg : g < w.heap.size := (h.ref.row.lt g rfl).2
  clear h
  go_enter Tryd.func56, Tryd.ntmps56
  go_upto_region 2 with (fail)
  obtain ⟨wq, hwq⟩ : ∃ y : World, y = ((w.alloc (.cells #[.string ⟨#[]⟩, .slice none 0 0, .int .i64 0] 78)).alloc (.cells #[.string (strB f.name), .slice ba f.b.length bc, .int .i64 f.safe] 78)) := ⟨_, rfl⟩
  have hbel : Below w.heap.size w wq := by rw [hwq]; exact ((Below.refl _ w).alloc (Nat.le_refl _) _).alloc (by simp) _
  have hq := H.out.ref.below hbel
  have hsz : wq.heap.size = w.heap.size + 1 + 1 := by rw [hwq]; simp
  have b1 : wq.heap[w.heap.size + 1]? = some (.cells #[.string (strB f.name), .slice ba f.b.length bc, .int .i64 f.safe] 78 (0, 0)) := by
    rw [hwq]
    have := heap_alloc_new (w.alloc (.cells #[.string ⟨#[]⟩, .slice none 0 0, .int .i64 0] 78)) (.cells #[.string (strB f.name), .slice ba f.b.length bc, .int .i64 f.safe] 78)
    simpa using this
  have b0 : wq.heap[w.heap.size]? = some (.cells #[.string ⟨#[]⟩, .slice none 0 0, .int .i64 0] 78 (0, 0)) := by
    rw [hwq]
    rw [heap_alloc_old _ _ (by simp)]
    exact heap_alloc_new w _
  have c0 := (rcell hq.box).1
  have fR := (rcell hq.box).2.2.2.2.2.2 0
  have hRq : R < wq.heap.size := by omega
  rw [← hwq]
  clear hwq k0 k1 k2 hg
  have HQ := Lib.hid hq
  have HSZ := Lib.hid hsz
  have HB0 := Lib.hid b0
  have HB1 := Lib.hid b1
  have HBEL := Lib.hid hbel
  have e0 : (wq.alloc (.cells #[] 78)).cell? ⟨R, 0, none⟩ = some (.slice (some ⟨g, 0, none⟩) fs.length lc) := by
    rw [World.cell?_alloc_lt _ _ _ hRq]
    exact c0
  have i1 : (0 : Int) ≤ i := by omega
  have i2 : (i : Int) ≤ lc := by
    rcases hq.row.2 with ⟨e1, _⟩ | ⟨g', cap, cur, e1, _, _, e2, _⟩
    · cases e1
    · simp only [Value.slice.injEq, true_and] at e1
      obtain ⟨_, rfl⟩ := e1
      omega
  have i3 : ((i : Int)).toNat = i := by omega
  have i4 : IntKind.i64.wrap ((i : Int) + 1) = (i : Int) + 1 := IntWalk.i64_in _ (by omega)
  have i5 : ((i : Int) + 1).toNat = i + 1 := by omega
  have hbA : Below wq.heap.size wq (wq.alloc (.cells #[] 78)).drew := ((Below.refl _ wq).alloc (Nat.le_refl _) _).drew
  have HA := Lib.hid hbA
  clear hq hsz b0 b1 hbel hR hbA
  have HR : Hid (R < w.heap.size) := Lib.hid (lt_of_block H.out.ref.box)
  have he : (wq.alloc (.cells #[] 78)).drew.ownsRow 0 78 3 (.slice (some ⟨wq.heap.size, 0, none⟩) 0 0) 0 (rcells []) := World.ownsRow_lit (w := wq) (size := 3) (base := 0) (e := 78) #[] 0 (Nat.zero_le _) (by unfold maxLen; omega) rfl
  have HE := Lib.hid he
  have HONE := Lib.hid HQ.out.ones
  have HP1 := Lib.hid ((HQ.out.below (HA.out)).part rfl [] (fs.drop i) (fs.take i) (by simp) 0 rfl)
  have i6 : ((fs.length : Int)).toNat = fs.length := by omega
  have i7 : (i : Int) + 1 ≤ fs.length := by omega
  have i8 : (fs.length : Int) ≤ lc := by
    rcases HQ.out.row.2 with ⟨e1, _⟩ | ⟨g', cap, cur, e1, _, _, e2, _⟩
    · cases e1
    · simp only [Value.slice.injEq, true_and] at e1
      obtain ⟨_, rfl⟩ := e1
      omega
  have hlen1 : (fs.take i).length = i := by rw [List.length_take]; omega
  have hlen2 : (fs.drop (i + 1)).length = fs.length - (i + 1) := List.length_drop
  have HL1 := Lib.hid hlen1
  have HL2 := Lib.hid hlen2
  clear he hlen1 hlen2
  have i9 : (0 : Int) ≤ (i : Int) + 1 := by omega
  by_cases hcap : lc = i + 1
  · have hcapT : (lc = i + 1) = True := eq_true hcap
    have HCAP := Lib.hid hcap
    clear hcap
    go_region_law (first
      | (refine step_append_files rfl (.tmp 14) (.tmp 20) rfl (wq.alloc (.cells #[] 78)).drew (.slice (some ⟨wq.heap.size, 0, none⟩) 0 0) [] (fs.take i) 0 i i rfl HL1.out (by omega) ⟨g, 0, none⟩ lc rfl HE.out (by omega) rfl (fun f hf => HONE.out f (List.mem_of_mem_take hf)) HP1.out ?_; intro aa ac w8 q1 q2 q3; have hb8 : Below wq.heap.size wq w8 := HA.out.trans (by have m := Mod.grown (S := fun t => wq.heap.size ≤ t) q2 (fun t ht => by simp [Value.ownBlock] at ht; omega); exact m.below (fun t h => h) HA.out.size); have hq8 := HQ.out.below hb8; have e8 := (rcell hq8.box).1; have f8 := (rcell hq8.box).2.2.2.2.2.2 0; have HP2 : Hid (∀ j u, (rcells (fs.drop (i + 1)))[j]? = some u → w8.cell? ((⟨g, 0, none⟩ : Addr).add j) = some u) := Lib.hid (by have hd : fs.drop (i + 1) = [] := List.drop_eq_nil_of_le (by have := HCAP.out; omega); rw [hd]; intro j u hu; cases hu); have HB8 := Lib.hid hb8; have HQ8 := Lib.hid hq8; have HW1 := Lib.hid q1; have HW3 := Lib.hid q3; clear hb8 hq8 q1 q2 q3)
      | (refine step_append_files rfl (.tmp 21) (.tmp 28) rfl w8 (.slice aa i ac) (fs.take i) (fs.drop (i + 1)) i (fs.length - (i + 1)) (fs.length - 1) HL1.out HL2.out (by omega) ⟨g, 0, none⟩ (lc - (i + 1)) rfl (by rw [HL1.out]; exact HW1.out) (by omega) rfl (fun f hf => HONE.out f (List.mem_of_mem_drop hf)) HP2.out ?_; intro ab bd w9 q1 q2 q3; have hb9 : Below wq.heap.size wq w9 := HB8.out.trans (by have m := Mod.grown (S := fun t => wq.heap.size ≤ t) q2 (fun t ht => by rcases HW3.out t ht with h1 | h1; (simp [Value.ownBlock] at h1; omega); (have := HA.out.size; omega)); exact m.below (fun t h => h) HB8.out.size); have hq9 := HQ.out.below hb9; have e9 := (rcell hq9.box).1; have f9 := (rcell hq9.box).2.2.2.2.2.2 0; have HB9 := Lib.hid hb9; have HQ9 := Lib.hid hq9; have HW4 := Lib.hid q1; have HW5 := Lib.hid q3; clear hb9 hq9 q1 q2 q3))
    all_goals
      have hG : RAt (fun k => F k ∧ k ≠ w.heap.size ∧ k ≠ w.heap.size + 1) R fs (.slice (some ⟨g, 0, none⟩) fs.length lc) s w9 := (H.out.ref.mono (fun k hk hlt => ⟨hk, by omega, by omega⟩)).below (HBEL.out.trans (HB9.out.mono (by have := HSZ.out; omega)))
      have hrow := HW4.out
      have her : fs.take i ++ fs.drop (i + 1) = fs.eraseIdx i := (List.eraseIdx_eq_take_drop_succ fs i).symm
      rw [her] at hrow
      have hle : (fs.eraseIdx i).length = fs.length - 1 := List.length_eraseIdx_of_lt hlt
      rw [← hle] at hrow
      have hd := hG.relist (fun f hf => hG.files f (List.mem_of_mem_eraseIdx hf)) (fun f hf => hG.footB f (List.mem_of_mem_eraseIdx hf)) hrow (fun k hk => by
        have h1 : wq.heap.size ≤ k := by
          rcases HW5.out k (by rw [hle] at hk; exact hk) with h2 | h2
          · rcases HW3.out k h2 with h3 | h3
            · simp [Value.ownBlock] at h3
              omega
            · have := HA.out.size
              omega
          · have := HB8.out.size
            omega
        have := HSZ.out
        exact ⟨hup k (by omega), by omega, by omega⟩)
      rw [hle] at hd
      obtain ⟨w10, hw10⟩ : ∃ y : World, y = w9.setCell ⟨R, 0, none⟩ (.slice ab (fs.length - 1) bd) := ⟨_, rfl⟩
      rw [← hw10] at hd
      have b1 : w10.heap[w.heap.size + 1]? = some (.cells #[.string (strB f.name), .slice ba f.b.length bc, .int .i64 f.safe] 78 (0, 0)) := hd.2.keep ((HB9.out.block _ (lt_of_block HB1.out)).trans HB1.out) (fun e => by have := HR.out; omega)
      have b0 : w10.heap[w.heap.size]? = some (.cells #[.string ⟨#[]⟩, .slice none 0 0, .int .i64 0] 78 (0, 0)) := hd.2.keep ((HB9.out.block _ (lt_of_block HB0.out)).trans HB0.out) (fun e => by have := HR.out; omega)
      have HD := Lib.hid hd
      have HBB0 := Lib.hid b0
      have t0 := (cell_of_row w10 (w.heap.size + 1) 0 _ _ _ b1).trans rfl
      have t1 := (cell_of_row w10 (w.heap.size + 1) 1 _ _ _ b1).trans rfl
      have t2 := (cell_of_row w10 (w.heap.size + 1) 2 _ _ _ b1).trans rfl
      have r0 := (cell_of_row w10 w.heap.size 0 _ _ _ b0).trans rfl
      have r1 := (cell_of_row w10 w.heap.size 1 _ _ _ b0).trans rfl
      have r2 := (cell_of_row w10 w.heap.size 2 _ _ _ b0).trans rfl
      have rf : ∀ j, w10.frozen? ⟨w.heap.size, j, none⟩ = false := fun j => frozen_of_row w10 _ _ _ _ b0
      rw [← hw10]
      clear hG hrow her hle hd b0 b1 hw10
      go_wp2
      have mR : Mod (fun t => t = w.heap.size) w10 (((w10.setCell ⟨w.heap.size, 0, none⟩ (.string (strB f.name))).setCell ⟨w.heap.size, 1, none⟩ (.slice ba f.b.length bc)).setCell ⟨w.heap.size, 2, none⟩ (.int .i64 f.safe)) := ((mod_cell _ _ _ _).trans (mod_cell _ _ _ _)).trans (mod_cell _ _ _ _)
      have hfin := row_setCell (row_setCell (row_setCell HBB0.out 0 (.string (strB f.name))) 1 (.slice ba f.b.length bc)) 2 (.int .i64 f.safe)
      refine bodyPost_ret (results_cell_row rfl _ _ w.heap.size 78 #[.string (strB f.name), .slice ba f.b.length bc, .int .i64 f.safe] (0, 0) _ rfl (by simpa using hfin) Tryd.underlying78 rfl (by kernel_rfl)) rfl ?_
      refine ⟨rfl, _, (HD.out.1.keep mR (fun k hk _ e => hk.2.1 e)).mono (fun k hk _ => hk.1), ?_, ?_⟩
      · exact (((Mod.of_below HBEL.out).trans (Mod.of_below HB9.out)).trans (HD.out.2.mono (fun t _ e => by rw [e]; exact H.out.ref.footR))).trans (mR.mono (fun t _ e => hup t (by omega)))
      · have h0 := H.out.ref.files r (List.mem_of_getElem? H.out.at')
        rw [H.out.rbv, H.out.v] at h0
        have hlt0 := h0.lt
        have h9 := below_row (HBEL.out.trans (HB9.out.mono (by have := HSZ.out; omega))) h0
        exact mR.row (HD.out.2.row h9 (fun k hk e => own_ne h9 HQ9.out.box (by decide) (e ▸ hk))) (fun k hk e => by have := (hlt0 k hk).2; omega)
  · have hcapF : (lc = i + 1) = False := eq_false hcap
    clear hcap
    go_region_law (first
      | (refine step_append_files rfl (.tmp 14) (.tmp 20) rfl (wq.alloc (.cells #[] 78)).drew (.slice (some ⟨wq.heap.size, 0, none⟩) 0 0) [] (fs.take i) 0 i i rfl HL1.out (by omega) ⟨g, 0, none⟩ lc rfl HE.out (by omega) rfl (fun f hf => HONE.out f (List.mem_of_mem_take hf)) HP1.out ?_; intro aa ac w8 q1 q2 q3; have hb8 : Below wq.heap.size wq w8 := HA.out.trans (by have m := Mod.grown (S := fun t => wq.heap.size ≤ t) q2 (fun t ht => by simp [Value.ownBlock] at ht; omega); exact m.below (fun t h => h) HA.out.size); have hq8 := HQ.out.below hb8; have e8 := (rcell hq8.box).1; have f8 := (rcell hq8.box).2.2.2.2.2.2 0; have HP2 : Hid (∀ j u, (rcells (fs.drop (i + 1)))[j]? = some u → w8.cell? ((⟨g, (i + 1) * 3, none⟩ : Addr).add j) = some u) := Lib.hid (hq8.part rfl (fs.take (i + 1)) [] (fs.drop (i + 1)) (by simp) ((i + 1) * 3) (by rw [List.length_take]; omega)); have HB8 := Lib.hid hb8; have HQ8 := Lib.hid hq8; have HW1 := Lib.hid q1; have HW3 := Lib.hid q3; clear hb8 hq8 q1 q2 q3)
      | (refine step_append_files rfl (.tmp 21) (.tmp 28) rfl w8 (.slice aa i ac) (fs.take i) (fs.drop (i + 1)) i (fs.length - (i + 1)) (fs.length - 1) HL1.out HL2.out (by omega) ⟨g, (i + 1) * 3, none⟩ (lc - (i + 1)) rfl (by rw [HL1.out]; exact HW1.out) (by omega) rfl (fun f hf => HONE.out f (List.mem_of_mem_drop hf)) HP2.out ?_; intro ab bd w9 q1 q2 q3; have hb9 : Below wq.heap.size wq w9 := HB8.out.trans (by have m := Mod.grown (S := fun t => wq.heap.size ≤ t) q2 (fun t ht => by rcases HW3.out t ht with h1 | h1; (simp [Value.ownBlock] at h1; omega); (have := HA.out.size; omega)); exact m.below (fun t h => h) HB8.out.size); have hq9 := HQ.out.below hb9; have e9 := (rcell hq9.box).1; have f9 := (rcell hq9.box).2.2.2.2.2.2 0; have HB9 := Lib.hid hb9; have HQ9 := Lib.hid hq9; have HW4 := Lib.hid q1; have HW5 := Lib.hid q3; clear hb9 hq9 q1 q2 q3))
    all_goals
      have hG : RAt (fun k => F k ∧ k ≠ w.heap.size ∧ k ≠ w.heap.size + 1) R fs (.slice (some ⟨g, 0, none⟩) fs.length lc) s w9 := (H.out.ref.mono (fun k hk hlt => ⟨hk, by omega, by omega⟩)).below (HBEL.out.trans (HB9.out.mono (by have := HSZ.out; omega)))
      have hrow := HW4.out
      have her : fs.take i ++ fs.drop (i + 1) = fs.eraseIdx i := (List.eraseIdx_eq_take_drop_succ fs i).symm
      rw [her] at hrow
      have hle : (fs.eraseIdx i).length = fs.length - 1 := List.length_eraseIdx_of_lt hlt
      rw [← hle] at hrow
      have hd := hG.relist (fun f hf => hG.files f (List.mem_of_mem_eraseIdx hf)) (fun f hf => hG.footB f (List.mem_of_mem_eraseIdx hf)) hrow (fun k hk => by
        have h1 : wq.heap.size ≤ k := by
          rcases HW5.out k (by rw [hle] at hk; exact hk) with h2 | h2
          · rcases HW3.out k h2 with h3 | h3
            · simp [Value.ownBlock] at h3
              omega
            · have := HA.out.size
              omega
          · have := HB8.out.size
            omega
        have := HSZ.out
        exact ⟨hup k (by omega), by omega, by omega⟩)
      rw [hle] at hd
      obtain ⟨w10, hw10⟩ : ∃ y : World, y = w9.setCell ⟨R, 0, none⟩ (.slice ab (fs.length - 1) bd) := ⟨_, rfl⟩
      rw [← hw10] at hd
      have b1 : w10.heap[w.heap.size + 1]? = some (.cells #[.string (strB f.name), .slice ba f.b.length bc, .int .i64 f.safe] 78 (0, 0)) := hd.2.keep ((HB9.out.block _ (lt_of_block HB1.out)).trans HB1.out) (fun e => by have := HR.out; omega)
      have b0 : w10.heap[w.heap.size]? = some (.cells #[.string ⟨#[]⟩, .slice none 0 0, .int .i64 0] 78 (0, 0)) := hd.2.keep ((HB9.out.block _ (lt_of_block HB0.out)).trans HB0.out) (fun e => by have := HR.out; omega)
      have HD := Lib.hid hd
      have HBB0 := Lib.hid b0
      have t0 := (cell_of_row w10 (w.heap.size + 1) 0 _ _ _ b1).trans rfl
      have t1 := (cell_of_row w10 (w.heap.size + 1) 1 _ _ _ b1).trans rfl
      have t2 := (cell_of_row w10 (w.heap.size + 1) 2 _ _ _ b1).trans rfl
      have r0 := (cell_of_row w10 w.heap.size 0 _ _ _ b0).trans rfl
      have r1 := (cell_of_row w10 w.heap.size 1 _ _ _ b0).trans rfl
      have r2 := (cell_of_row w10 w.heap.size 2 _ _ _ b0).trans rfl
      have rf : ∀ j, w10.frozen? ⟨w.heap.size, j, none⟩ = false := fun j => frozen_of_row w10 _ _ _ _ b0
      rw [← hw10]
      clear hG hrow her hle hd b0 b1 hw10
      go_wp2
      have mR : Mod (fun t => t = w.heap.size) w10 (((w10.setCell ⟨w.heap.size, 0, none⟩ (.string (strB f.name))).setCell ⟨w.heap.size, 1, none⟩ (.slice ba f.b.length bc)).setCell ⟨w.heap.size, 2, none⟩ (.int .i64 f.safe)) := ((mod_cell _ _ _ _).trans (mod_cell _ _ _ _)).trans (mod_cell _ _ _ _)
      have hfin := row_setCell (row_setCell (row_setCell HBB0.out 0 (.string (strB f.name))) 1 (.slice ba f.b.length bc)) 2 (.int .i64 f.safe)
      refine bodyPost_ret (results_cell_row rfl _ _ w.heap.size 78 #[.string (strB f.name), .slice ba f.b.length bc, .int .i64 f.safe] (0, 0) _ rfl (by simpa using hfin) Tryd.underlying78 rfl (by kernel_rfl)) rfl ?_
      refine ⟨rfl, _, (HD.out.1.keep mR (fun k hk _ e => hk.2.1 e)).mono (fun k hk _ => hk.1), ?_, ?_⟩
      · exact (((Mod.of_below HBEL.out).trans (Mod.of_below HB9.out)).trans (HD.out.2.mono (fun t _ e => by rw [e]; exact H.out.ref.footR))).trans (mR.mono (fun t _ e => hup t (by omega)))
      · have h0 := H.out.ref.files r (List.mem_of_getElem? H.out.at')
        rw [H.out.rbv, H.out.v] at h0
        have hlt0 := h0.lt
        have h9 := below_row (HBEL.out.trans (HB9.out.mono (by have := HSZ.out; omega))) h0
        exact mR.row (HD.out.2.row h9 (fun k hk e => own_ne h9 HQ9.out.box (by decide) (e ▸ hk))) (fun k hk e => by have := (hlt0 k hk).2; omega)

end Go.Proofs.YtjbhdidjkdlceaaDoor
