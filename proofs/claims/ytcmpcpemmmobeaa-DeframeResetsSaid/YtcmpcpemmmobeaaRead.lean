/- lamplighterref05.Read, by its contract. -/
import Derived.Test.YtcmpcpemmmobeaaSmall
namespace Go.Proofs.Ytcmpcpemmmobeaa
set_option linter.unusedVariables false
open Go.RowKit

def rcells (fv h j o b : Value) : Array Value := #[fv, h, j, o, b]

theorem rcell {w : World} {T : Nat} {fv h j o b : Value} (k : w.heap[T]? = some (.cells (rcells fv h j o b) 34 (0, 0))) :
    w.cell? ⟨T, 0, none⟩ = some fv ∧ w.cell? ⟨T, 1, none⟩ = some h ∧ w.cell? ⟨T, 2, none⟩ = some j ∧ w.cell? ⟨T, 3, none⟩ = some o ∧ w.cell? ⟨T, 4, none⟩ = some b ∧ ∀ i, w.frozen? ⟨T, i, none⟩ = false := by
  refine ⟨?_, ?_, ?_, ?_, ?_, ?_⟩ <;> simp [World.cell?, World.frozen?, k, rcells]

/-- Where Read stands behind some of the bytes. -/
structure RSt (B T nb : Nat) (fv nv : Value) (e : Bool) (now : List UInt8) (s : St) (w wr : World) : Prop where
  bel : Below B w wr
  cells : wr.heap[T]? = some (.cells (rcells fv (.int .i64 0) (.int .i64 s.junk) (.int .i64 s.over) (.int .i64 s.broken)) 34 (0, 0))
  res : wr.heap[B]? = some (.cells (rcells (.slice none 0 0) (.int .i64 0) (.int .i64 0) (.int .i64 0) (.int .i64 0)) 34 (0, 0))
  row : wr.ownsRow nb 5 1 nv now.length (now.map bv)
  none : now = [] → nv = .slice none 0 0
  low : B ≤ nb
  nbw : nb ≤ wr.heap.size
  found : Found wr 0 nb fv s.frames
  fresh : ∀ t, fv.ownBlock = some t → B ≤ t
  rel : s.inn = true → e = s.fin ∧ now = s.now

theorem RSt.next {B T nb : Nat} {fv nv nv' : Value} {e e' : Bool} {now now' : List UInt8} {s s' : St} {w wr wr' : World} (h : RSt B T nb fv nv e now s w wr) (hBT : B < T) (M : Mod (fun t => t = T ∨ nv.ownBlock = some t) wr wr')
    (hc : wr'.heap[T]? = some (.cells (rcells fv (.int .i64 0) (.int .i64 s'.junk) (.int .i64 s'.over) (.int .i64 s'.broken)) 34 (0, 0))) (hf : s'.frames = s.frames) (hrow : wr'.ownsRow nb 5 1 nv' now'.length (now'.map bv))
    (hnone : now' = [] → nv' = .slice Option.none 0 0) (hrel : s'.inn = true → e' = s'.fin ∧ now' = s'.now) : RSt B T nb fv nv' e' now' s' w wr' := by
  have hnT := own_ne h.row h.cells (by decide)
  have hnB := own_ne h.row h.res (by decide)
  refine ⟨h.bel.trans (M.below (fun k hk => ?_) ?_), hc, M.keep h.res (fun hs => ?_), hrow, hnone, h.low, Nat.le_trans h.nbw M.size, ?_, h.fresh, hrel⟩
  · rcases hk with hk | hk
    · omega
    · have := (h.row.lt k hk).1
      have := h.low
      omega
  · have := lt_of_block h.res
    omega
  · rcases hs with hs | hs
    · omega
    · exact hnB hs
  · rw [hf]
    obtain ⟨vs, h1, h2⟩ := h.found
    refine h.found.keep M ?_ ?_
    · intro t ht hs
      rcases hs with rfl | hs
      · exact own_ne h1 h.cells (by decide) ht
      · exact rows_apart h1 h.row (by decide) t ht hs
    · intro v x hv t ht hs
      rcases hs with rfl | hs
      · exact own_ne hv.row h.cells (by decide) ht
      · have := hv.low t ht
        have := (h.row.lt t hs).1
        omega

theorem mod_below {B : Nat} {w w' : World} (h : Below B w w') : Mod (fun t => B ≤ t) w w' := ⟨h.os, h.tape, h.output, h.size, fun k _ hs => h.block k (by omega)⟩

/-- A row of bytes, grown by some. -/
structure Grew (nb : Nat) (nv : Value) (now news : List UInt8) (w w' : World) (nv' : Value) : Prop where
  mod : Mod (fun t => nv.ownBlock = some t) w w'
  row : w'.ownsRow nb 5 1 nv' (now ++ news).length ((now ++ news).map bv)
  hat : ∀ t, nv'.ownBlock = some t → nv.ownBlock = some t ∨ w.heap.size ≤ t

theorem Grew.trans {nb : Nat} {nv nv' nv2 : Value} {now news more : List UInt8} {w w' w2 : World} (h : Grew nb nv now news w w' nv') (k : Grew nb nv' (now ++ news) more w' w2 nv2) : Grew nb nv now (news ++ more) w w2 nv2 := by
  refine ⟨h.mod.chain k.mod ?_, by rw [← List.append_assoc]; exact k.row, ?_⟩
  · intro t hlt ht
    rcases h.hat t ht with h1 | h1
    · exact h1
    · omega
  · intro t ht
    rcases k.hat t ht with h1 | h1
    · exact h.hat t h1
    · have := h.mod.size
      exact .inr (by omega)

theorem bv28 : Value.int .u8 28 = bv 28 := rfl

/-- 'append(now, c)'. -/
theorem wpList_now {ops : Array Oper} {rest : List Oper} {o : Oper} {a : Act} {Q : Exit → Act → World → Prop} (hgd : o.guard = none) (s x : Operand)
    (ho : o.op = .call { callee := .builtin .append, args := #[s, x], argTypes := #[30, 30] }) (w0 : World) (nb : Nat) (nv : Value) (now : List UInt8) (c : UInt8) (u : Value) (hu : u = bv c) (hs : a.eval s = nv)
    (hrow : w0.ownsRow nb 5 1 nv now.length (now.map bv)) (hnb : nb ≤ w0.heap.size) (hl : now.length ≤ 200000) (hx : a.eval x = .slice (some ⟨w0.heap.size, 0, none⟩) 1 1)
    (h : ∀ g cap w', Grew nb nv now [c] w0 w' (.slice (some ⟨g, 0, none⟩) (now.length + 1) cap) → wpList Try.prog ops Q rest (a.put o.dst (.slice (some ⟨g, 0, none⟩) (now.length + 1) cap)) w') :
    wpList Try.prog ops Q (o :: rest) a (w0.alloc (.cells #[u] 5)) := by
  obtain ⟨i0, hin, hz0, hz1, hz2⟩ := info_parts info5
  subst hu
  refine wpList_append_lies _ hgd s x 30 ho nb 5 i0 (.int .u8 0) 1 1 Try.underlying30 hin hz0 hz1 hz2 rfl (by decide) nv now.length (now.map bv) hs (hrow.alloc _) ⟨w0.heap.size, 0, none⟩ 1 1 [bv c] hx rfl
    (World.news_of_block (heap_alloc_new w0 (.cells #[bv c] 5))) (by simp [Value.oneCell']) (by decide) (by unfold maxLen; omega) (by omega) (by simp; omega) _ rfl ?_
  intro g cap w' hown hg hat _
  refine h g cap w' ⟨(Mod.of_below ((Below.refl _ w0).alloc (Nat.le_refl _) _)).trans (Mod.grown hg (fun k hk => hk)), ?_, ?_⟩
  · simpa using hown
  · intro t ht
    simp only [Value.ownBlock, Option.some.injEq] at ht
    subst ht
    rcases hat with hat | hat
    · exact .inl hat
    · simp at hat
      exact .inr (by omega)

theorem rst_init (w : World) : RSt w.heap.size (w.heap.size + 1) w.heap.size (.slice none 0 0) (.slice none 0 0) false [] St.init w
    ((w.alloc (.cells (rcells (.slice none 0 0) (.int .i64 0) (.int .i64 0) (.int .i64 0) (.int .i64 0)) 34)).alloc (.cells (rcells (.slice none 0 0) (.int .i64 0) (.int .i64 0) (.int .i64 0) (.int .i64 0)) 34)) := by
  have hb := ((Below.refl w.heap.size w).alloc (Nat.le_refl _) (.cells (rcells (.slice none 0 0) (.int .i64 0) (.int .i64 0) (.int .i64 0) (.int .i64 0)) 34)).alloc (by simp) (.cells (rcells (.slice none 0 0) (.int .i64 0) (.int .i64 0) (.int .i64 0) (.int .i64 0)) 34)
  refine ⟨hb, ?_, ?_, World.ownsRow_nil _ _ _ _, fun _ => rfl, Nat.le_refl _, hb.size, found_nil _ _ _, ?_, ?_⟩
  · have := heap_alloc_new (w.alloc (.cells (rcells (.slice none 0 0) (.int .i64 0) (.int .i64 0) (.int .i64 0) (.int .i64 0)) 34)) (.cells (rcells (.slice none 0 0) (.int .i64 0) (.int .i64 0) (.int .i64 0) (.int .i64 0)) 34)
    simpa [St.init] using this
  · exact (Below.heap_alloc _ _ _ (by simp)).trans (heap_alloc_new _ _)
  · intro t ht
    simp [Value.ownBlock] at ht
  · simp [St.init]

/-- What Read tells. -/
structure ReadTold (S : St) (w : World) (e : Ending) (w' : World) : Prop where
  bel : Below w.heap.size w w'
  told : ∃ fa fc nb, e = .returned (.agg #[.slice fa S.frames.length fc, .int .i64 S.held, .int .i64 S.junk, .int .i64 S.over, .int .i64 S.broken]) ∧ Found w' 0 nb (.slice fa S.frames.length fc) S.frames ∧
    (∀ t, (Value.slice fa S.frames.length fc).ownBlock = some t → w.heap.size ≤ t)

theorem ret5 {w : World} {R : Nat} {a0 a1 a2 a3 a4 u0 u1 u2 u3 u4 : Value} (h : w.heap[R]? = some (.cells (rcells a0 a1 a2 a3 a4) 34 (0, 0))) :
    (((((w.setCell ⟨R, 0, none⟩ u0).setCell ⟨R, 1, none⟩ u1).setCell ⟨R, 2, none⟩ u2).setCell ⟨R, 3, none⟩ u3).setCell ⟨R, 4, none⟩ u4).heap[R]? = some (.cells (rcells u0 u1 u2 u3 u4) 34 (0, 0)) := by
  simpa [rcells] using row_setCell (row_setCell (row_setCell (row_setCell (row_setCell h 0 u0) 1 u1) 2 u2) 3 u3) 4 u4

theorem mod5 (T R : Nat) (w : World) (u0 u1 u2 u3 u4 : Value) : Mod (fun t => t = T ∨ t = R) w (((((w.setCell ⟨R, 0, none⟩ u0).setCell ⟨R, 1, none⟩ u1).setCell ⟨R, 2, none⟩ u2).setCell ⟨R, 3, none⟩ u3).setCell ⟨R, 4, none⟩ u4) :=
  ((((Mod.setCell (a := ⟨R, 0, none⟩) (.inr rfl) _).trans (Mod.setCell (a := ⟨R, 1, none⟩) (.inr rfl) _)).trans (Mod.setCell (a := ⟨R, 2, none⟩) (.inr rfl) _)).trans (Mod.setCell (a := ⟨R, 3, none⟩) (.inr rfl) _)).trans (Mod.setCell (a := ⟨R, 4, none⟩) (.inr rfl) _)

theorem mod1 {T R : Nat} {w : World} (u : Value) : Mod (fun t => t = T ∨ t = R) w (w.setCell ⟨T, 1, none⟩ u) := Mod.setCell (a := ⟨T, 1, none⟩) (.inl rfl) _

theorem hR1 {w : World} {R : Nat} {o : Obj} (h : w.heap[R]? = some o) (u : Value) : (w.setCell ⟨R + 1, 1, none⟩ u).heap[R]? = some o := (Below.heap_setCell _ _ _ _ (by simp)).trans h

theorem read_end {T nb : Nat} {fv nv : Value} {e : Bool} {now : List UInt8} {S : St} {w wr W : World} (h : RSt w.heap.size T nb fv nv e now S w wr) (hBT : w.heap.size < T) (M : Mod (fun t => t = T ∨ t = w.heap.size) wr W) : Below w.heap.size w W ∧ Found W 0 nb fv S.frames := by
  refine ⟨h.bel.trans (M.below (fun k hk => by omega) h.bel.size), ?_⟩
  obtain ⟨vs, h1, h2⟩ := h.found
  refine h.found.keep M ?_ ?_
  · intro t ht hs
    rcases hs with rfl | rfl
    · exact own_ne h1 h.cells (by decide) ht
    · exact own_ne h1 h.res (by decide) ht
  · intro v x hv t ht hs
    rcases hs with rfl | rfl
    · exact own_ne hv.row h.cells (by decide) ht
    · exact own_ne hv.row h.res (by decide) ht

theorem tail_rst {B T nb : Nat} {fv nv xv : Value} {e : Bool} {now : List UInt8} {s : St} {w wr w1 w2 : World} {vs : List Value} {o : Obj} {g cap : Nat} (h : RSt B T nb fv nv e now s w wr) (hBT : B < T) (hin : s.inn = true) (hfv : wr.ownsRow 0 30 1 fv s.frames.length vs) (hr : Rows wr 0 nb vs s.frames)
    (HB : Below wr.heap.size wr w1) (HX : w1.ownsRow wr.heap.size 5 1 xv s.now.length (s.now.map bv)) (HG : (w1.alloc o).grownBy w2 fv.ownBlock)
    (HO : w2.ownsRow 0 30 1 (.slice (some ⟨g, 0, none⟩) (s.frames.length + 1) cap) (s.frames.length + 1) (vs ++ [xv])) (hat : fv.ownBlock = some g ∨ g = (w1.alloc o).heap.size) :
    RSt B T (w2.setCell ⟨T, 0, none⟩ (.slice (some ⟨g, 0, none⟩) (s.frames.length + 1) cap)).heap.size (.slice (some ⟨g, 0, none⟩) (s.frames.length + 1) cap) (.slice none 0 0) true [] ({ s with frames := s.frames ++ [s.now] }.out) w (w2.setCell ⟨T, 0, none⟩ (.slice (some ⟨g, 0, none⟩) (s.frames.length + 1) cap)) := by
  have hT1 := (HB.block T (lt_of_block h.cells)).trans h.cells
  have hfv1 := below_row HB hfv
  have hTg : fv.ownBlock ≠ some T := own_ne hfv h.cells (by decide)
  have hT2 : w2.heap[T]? = some (.cells (rcells fv (.int .i64 0) (.int .i64 s.junk) (.int .i64 s.over) (.int .i64 s.broken)) 34 (0, 0)) :=
    (HG.block T (by have := lt_of_block hT1; simp; omega) (fun he => hTg he.symm)).trans ((Below.heap_alloc _ _ _ (lt_of_block hT1)).trans hT1)
  have M1 : Mod (fun t => t = T ∨ fv.ownBlock = some t) w1 (w2.setCell ⟨T, 0, none⟩ (.slice (some ⟨g, 0, none⟩) (s.frames.length + 1) cap)) :=
    (Mod.of_below ((Below.refl _ w1).alloc (Nat.le_refl _) o)).trans ((Mod.grown HG (fun k hk => .inr hk)).trans (Mod.setCell (a := ⟨T, 0, none⟩) (.inl rfl) _))
  have M : Mod (fun t => t = T ∨ fv.ownBlock = some t) wr (w2.setCell ⟨T, 0, none⟩ (.slice (some ⟨g, 0, none⟩) (s.frames.length + 1) cap)) := (Mod.of_below HB).trans M1
  have hgT : g ≠ T := by
    rcases hat with hat | hat
    · intro e
      exact hTg (e ▸ hat)
    · have := lt_of_block hT1
      simp at hat
      omega
  have hgB : B ≤ g := by
    rcases hat with hat | hat
    · exact h.fresh g hat
    · have := HB.size
      have := h.nbw
      have := h.low
      simp at hat
      omega
  have M2 : Mod (fun t => t = T) w2 (w2.setCell ⟨T, 0, none⟩ (.slice (some ⟨g, 0, none⟩) (s.frames.length + 1) cap)) := Mod.setCell (S := fun t => t = T) (a := ⟨T, 0, none⟩) rfl _
  have hB : B < wr.heap.size := lt_of_block h.res
  refine ⟨h.bel.trans (M.below (fun k hk => ?_) (by omega)), ?_, M.keep h.res (fun hs => ?_), World.ownsRow_nil _ _ _ _, fun _ => rfl, by have := M.size; omega, Nat.le_refl _, ?_, ?_, ?_⟩
  · rcases hk with hk | hk
    · omega
    · exact h.fresh k hk
  · exact row_setCell hT2 0 _
  · rcases hs with hs | hs
    · omega
    · exact own_ne hfv h.res (by decide) hs
  · refine ⟨vs ++ [xv], ?_, ?_⟩
    · have := M2.row HO (fun k hk => by simp only [Value.ownBlock, Option.some.injEq] at hk; omega)
      simpa [St.out] using this
    · refine Rows.snoc ?_ (Rows.imp ?_ hr)
      · have hx := M1.row HX (fun t ht hs => by
          rcases hs with rfl | hs
          · exact own_ne HX hT1 (by decide) ht
          · exact rows_apart HX hfv1 (by decide) t ht hs)
        exact ⟨hx.mono (Nat.zero_le _), fun t ht => (hx.lt t ht).2⟩
      · intro v x hv
        have hx := M.row hv.row (fun t ht hs => by
          rcases hs with rfl | hs
          · exact own_ne hv.row h.cells (by decide) ht
          · exact rows_apart hv.row hfv (by decide) t ht hs)
        exact ⟨hx, fun t ht => (hx.lt t ht).2⟩
  · intro t ht
    simp only [Value.ownBlock, Option.some.injEq] at ht
    omega
  · simp [St.out]

/-- append of nil, at a step of a region that draws its order. -/
theorem step_append_none {ops : Array Oper} {o : Oper} {a : Act} {w : World} {K : Act → World → Prop} {Q : Exit → Act → World → Prop} {E : Prop} (hgd : o.guard = Option.none) (s x : Operand)
    (ho : o.op = .call { callee := .builtin .append, args := #[s, x], argTypes := #[30, 30] }) (base : Nat) (i : TypeInfo) (hi : Try.prog.info? 5 = some i)
    (v : Value) (n : Nat) (xs : List Value) (hs : a.eval s = v) (hown : w.ownsRow base 5 i.size v n xs) (hx : a.eval x = .slice Option.none 0 0)
    (h : K (a.put o.dst v) w) : if Region.wanted o (yielded ops a.tmps) = true then Oper.wp Try.prog o a w K Q else E := by
  have hw : Region.wanted o (yielded ops a.tmps) = true := by simp [Region.wanted, hgd]
  rw [if_pos hw]
  have hrun := run_append_owned_none (P := Try.prog) (w := w) base 30 o.type 5 i i.size Try.underlying30 hi v n xs hown
  unfold Oper.wp
  simp [execOp, ho, resolve, invoke, builtin, hs, hx, hrun, Result.andThen]
  exact h

theorem tail_below {w w1 : World} (hg : (w.drew.alloc (.cells #[] 5)).grownBy w1 (Value.slice (some ⟨w.heap.size, 0, none⟩) 0 0).ownBlock) : Below w.heap.size w w1 := by
  refine ((Below.refl _ w).alloc (Nat.le_refl _) (.cells #[] 5)).trans ?_
  have h2 : (w.alloc (.cells #[] 5)).grownBy w1 (Value.slice (some ⟨w.heap.size, 0, none⟩) 0 0).ownBlock := ⟨hg.os, hg.tape, hg.output, hg.size, hg.block⟩
  exact (Mod.grown (S := fun t => t = w.heap.size) h2 (fun t ht => by simpa [Value.ownBlock, eq_comm] using ht)).below (fun k hk => by omega) (by simp)

set_option maxHeartbeats 4000000 in
theorem read_any (most : Nat) (bs : List UInt8) (n : Nat) (hbn : bs.length = n) (hn : n ≤ 100000) (hm : most ≤ 100000) (a : Option Addr) (c : Nat) (w : World) (hb : BytesAt w a bs) (hap : bs ≠ [] → ∀ ad, a = some ad → ad.block < w.heap.size) :
    Calls Try.prog 10 #[.slice a n c, .int .i64 most] w (ReadTold (St.init.steps most bs) w) := by
  have HB := Lib.hid hb
  have HA := Lib.hid hap
  have HN := Lib.hid hbn
  clear hb hap hbn
  go_enter Try.func10, Try.ntmps10
  go_wp2
  go_loopw [6, 7, 8, 9] (fun i6 i7 i8 i wr => ∃ j : Nat, ∃ e : Bool, ∃ now, ∃ nb fv nv, j ≤ n ∧ i = .int .i64 j ∧ i6 = .bool (St.init.steps most (bs.take j)).inn ∧ i7 = .bool e ∧ ((St.init.steps most (bs.take j)).inn = true → i8 = nv) ∧ RSt w.heap.size (w.heap.size + 1) nb fv nv e now (St.init.steps most (bs.take j)) w wr) (fun _ _ _ i _ => n - (intOf i).toNat)
  case atStart => exact ⟨0, false, [], w.heap.size, .slice none 0 0, .slice none 0 0, Nat.zero_le _, rfl, rfl, rfl, fun _ => rfl, rst_init w⟩
  case round =>
    obtain ⟨j, e, now, nb, fv, nv, hj, rfl, h6, rfl, h8, hrst⟩ := hrel
    obtain ⟨na, nc, hnv⟩ := slice_form hrst.row
    subst hnv
    obtain ⟨S, hS⟩ : ∃ S, S = St.init.steps most (bs.take j) := ⟨_, rfl⟩
    rw [← hS] at h6 h8 hrst
    have hgood : S.Good most := hS ▸ St.good_steps _ (St.good_init _)
    have hcount := St.count_steps most (bs.take j) St.init
    rw [← hS] at hcount
    have hcount2 : S.count ≤ n ∧ S.frames.length ≤ n := by
      have e0 : St.init.count = 0 ∧ St.init.frames.length = 0 := ⟨rfl, rfl⟩
      have e1 : (bs.take j).length ≤ j := by simp; omega
      omega
    have hcc : S.junk ≤ n ∧ S.over ≤ n ∧ S.broken ≤ n := by
      unfold St.count at hcount2
      omega
    obtain ⟨hcj, hco, hcb⟩ := hcc
    have hbk : BytesAt wr a bs := HB.out.keep (mod_below hrst.bel) (fun hne ad hd hs => by have := HA.out hne ad hd; omega)
    have HBK := Lib.hid hbk
    have HR := Lib.hid hrst
    have HG := Lib.hid hgood
    have HSE := Lib.hid hS
    have hT := lt_of_block hrst.cells
    obtain ⟨k0, k1, k2, k3, k4, kf⟩ := rcell hrst.cells
    clear hbk hrst hgood hS hcount
    by_cases hlt : j < n
    · obtain ⟨y, hy⟩ : ∃ y, bs[j]? = some y := ⟨bs[j]'(by rw [HN.out]; exact hlt), List.getElem?_eq_getElem _⟩
      obtain ⟨b, off, rfl, hcell⟩ := HBK.out.cells j y hy
      have hstep : St.init.steps most (bs.take (j + 1)) = S.step most y := by rw [HSE.out, ← St.steps_snoc, List.take_add_one, hy]; rfl
      have HST := Lib.hid hstep
      have e11 : ((y.toNat : Int) == 11) = (y == 11) := byte_eq y 11
      have e13 : ((y.toNat : Int) == 13) = (y == 13) := byte_eq y 13
      have e28 : ((y.toNat : Int) == 28) = (y == 28) := byte_eq y 28
      have hbv : bv y = .int .u8 y.toNat := rfl
      rw [hbv] at hcell
      obtain ⟨x, hx⟩ : ∃ x : Int, x = y.toNat := ⟨_, rfl⟩
      rw [← hx] at e11 e13 e28 hcell
      have HX := Lib.hid hx
      clear hy hstep hbv hx
      cases hin : S.inn with
      | false =>
        rw [hin] at h6
        subst h6
        clear h8
        have HIN := Lib.hid hin
        clear hin
        by_cases h1 : (y == 11) = true
        · have t11 := e11.trans h1
          have hs : S.step most y = S.start := by simp [St.step, HIN.out, h1]
          have HS2 := Lib.hid (HST.out.trans hs)
          clear e11 e13 e28 h1 hs
          go_wp2
          go_roundw
          case rel =>
            refine ⟨j + 1, false, [], nb, fv, _, by omega, by go_num, by rw [HS2.out]; rfl, rfl, fun _ => rfl, ?_⟩
            rw [HS2.out]
            exact HR.out.next (by omega) (Mod.refl _ _) HR.out.cells rfl (World.ownsRow_nil _ _ _ _) (fun _ => rfl) (fun _ => ⟨rfl, rfl⟩)
          case measure => simp [intOf]; omega
        · rw [Bool.not_eq_true] at h1
          have t11 := e11.trans h1
          have f2 := kf 2
          have hs : S.step most y = { S with junk := S.junk + 1 } := by simp [St.step, HIN.out, h1]
          have HS2 := Lib.hid (HST.out.trans hs)
          clear e11 e13 e28 h1 hs
          go_wp2
          go_roundw
          case rel =>
            refine ⟨j + 1, e, now, nb, fv, .slice na now.length nc, by omega, by go_num, by rw [HS2.out]; simp [HIN.out], rfl, fun h => absurd h (by rw [HS2.out]; simp [HIN.out]), ?_⟩
            rw [HS2.out]
            have M : Mod (fun t => t = w.heap.size + 1 ∨ (Value.slice na now.length nc).ownBlock = some t) wr (wr.setCell ⟨w.heap.size + 1, 2, none⟩ (.int .i64 (S.junk + 1))) := Mod.setCell (a := ⟨w.heap.size + 1, 2, none⟩) (.inl rfl) _
            exact HR.out.next (by omega) M (row_setCell HR.out.cells 2 _) rfl
              ((Mod.setCell (S := fun t => t = w.heap.size + 1) (a := ⟨w.heap.size + 1, 2, none⟩) rfl _).row HR.out.row (fun k hk hkD => own_ne HR.out.row HR.out.cells (by decide) (hkD ▸ hk))) HR.out.none (fun h => by simp [HIN.out] at h)
          case measure => simp [intOf]; omega
      | true =>
        obtain ⟨he, hnow⟩ := HR.out.rel hin
        subst he
        subst hnow
        rw [hin] at h6
        subst h6
        have hi8 := h8 hin
        subst hi8
        clear h8
        have hgm := HG.out.most
        have HIN := Lib.hid hin
        clear hin
        by_cases h1 : (y == 11) = true
        · have t11 := e11.trans h1
          have f4 := kf 4
          have hs : S.step most y = { S with broken := S.broken + 1 }.start := by simp [St.step, HIN.out, h1]
          have HS2 := Lib.hid (HST.out.trans hs)
          clear e11 e13 e28 h1 hs
          go_wp2
          go_roundw
          case rel =>
            refine ⟨j + 1, false, [], nb, fv, _, by omega, by go_num, by rw [HS2.out]; rfl, rfl, fun _ => rfl, ?_⟩
            rw [HS2.out]
            exact HR.out.next (by omega) (Mod.setCell (a := ⟨w.heap.size + 1, 4, none⟩) (.inl rfl) _) (row_setCell HR.out.cells 4 _) rfl (World.ownsRow_nil _ _ _ _) (fun _ => rfl) (fun _ => ⟨rfl, rfl⟩)
          case measure => simp [intOf]; omega
        · rw [Bool.not_eq_true] at h1
          have t11 := e11.trans h1
          have HNN : Hid True := trivial
          cases hfin : S.fin with
          | true =>
            have HFIN := Lib.hid hfin
            clear hfin
            by_cases h3 : (y == 13) = true
            · have t13 := e13.trans h3
              have hs : S.step most y = { S with frames := S.frames ++ [S.now] }.out := by simp [St.step, HIN.out, HFIN.out, h1, h3]
              have HS2 := Lib.hid (HST.out.trans hs)
              obtain ⟨vs, hfv, hrows⟩ := HR.out.found
              obtain ⟨fa, fc, rfl⟩ := slice_form hfv
              have HFV := Lib.hid hfv
              have HRW := Lib.hid hrows
              obtain ⟨i0, hi0, hz0, hz1, hz2⟩ := info_parts info30
              obtain ⟨i1, hi1, hy0, hy1, hy2⟩ := info_parts info5
              have kf0 := kf 0
              clear e11 e13 e28 h1 h3 hs hfv hrows kf k1 k2 k3 k4 HNN
              have hown0 : (wr.drew.alloc (.cells #[] 5)).ownsRow wr.heap.size 5 1 (.slice (some ⟨wr.heap.size, 0, none⟩) 0 0) 0 [] := World.ownsRow_made wr.drew #[] 0 (Nat.le_refl _) (Nat.zero_le _) rfl
              have HO0 := Lib.hid hown0
              clear hown0
              by_cases hnow : S.now = []
              · have hv0 := HR.out.none hnow
                simp only [Value.slice.injEq] at hv0
                obtain ⟨rfl, hl0, rfl⟩ := hv0
                have hx0 : (wr.alloc (.cells #[] 5)).ownsRow wr.heap.size 5 1 (.slice (some ⟨wr.heap.size, 0, none⟩) 0 0) S.now.length (S.now.map bv) := by rw [hnow]; exact HO0.out
                have HX1 := Lib.hid hx0
                have HB1 := Lib.hid (show Below wr.heap.size wr (wr.alloc (.cells #[] 5)) from (Below.refl _ wr).alloc (Nat.le_refl _) (.cells #[] 5))
                have hT1 := (HB1.out.block _ (lt_of_block HR.out.cells)).trans HR.out.cells
                have hT2 : ((wr.alloc (.cells #[] 5)).alloc (.cells #[.slice (some ⟨wr.heap.size, 0, none⟩) 0 0] 30)).heap[w.heap.size + 1]? = _ := (Below.heap_alloc _ _ _ (lt_of_block hT1)).trans hT1
                have HT2 := Lib.hid hT2
                have hk1 := (rcell hT1).1
                have hk2 := (rcell hT2).1
                have hFA : (((wr.alloc (.cells #[] 5)).alloc (.cells #[.slice (some ⟨wr.heap.size, 0, none⟩) 0 0] 30)).drew).ownsRow 0 30 1 (.slice fa S.frames.length fc) S.frames.length vs := (HFV.out.alloc (.cells #[] 5)).alloc _
                have HFA := Lib.hid hFA
                have hNB : ∀ t u, [Value.slice (some ⟨wr.heap.size, 0, none⟩) 0 0][t]? = some u → (((wr.alloc (.cells #[] 5)).alloc (.cells #[.slice (some ⟨wr.heap.size, 0, none⟩) 0 0] 30)).drew).cell? ((⟨wr.heap.size + 1, 0, none⟩ : Addr).add t) = some u := by
                  have hh := heap_alloc_new (wr.alloc (.cells #[] 5)) (.cells #[.slice (some ⟨wr.heap.size, 0, none⟩) 0 0] 30)
                  rw [show (wr.alloc (.cells #[] 5)).heap.size = wr.heap.size + 1 by simp] at hh
                  exact World.news_of_block (w := ((wr.alloc (.cells #[] 5)).alloc (.cells #[.slice (some ⟨wr.heap.size, 0, none⟩) 0 0] 30)).drew) hh
                have HNB := Lib.hid hNB
                have HDN := Lib.hid (own_ne HFV.out HR.out.cells (by decide))
                clear hnow hx0 hT1 hT2 hFA hNB
                go_upto_region 20 with (fail)
                rw [hl0]
                have HL0 := Lib.hid hl0
                clear hl0
                go_region_law (first
                  | (refine step_append_lies _ rfl (.tmp 42) (.tmp 46) 22 rfl 0 30 i0 (.slice none 0 0) 1 24 Try.underlying22 hi0 hz0 hz1 hz2 rfl (by decide) (.slice fa S.frames.length fc) S.frames.length vs rfl HFA.out ⟨wr.heap.size + 1, 0, none⟩ 1 1 [.slice (some ⟨wr.heap.size, 0, none⟩) 0 0] rfl rfl HNB.out (by simp [Value.oneCell']) (by decide) (by unfold maxLen; omega) (by omega) (Nat.zero_le _) _ rfl ?_; intro g cap w2 hown hg hat hlt; have hd2 := (hg.block (w.heap.size + 1) (lt_of_block HT2.out) (fun he => HDN.out he.symm)).trans HT2.out; have f02 := (rcell hd2).2.2.2.2.2 0; have c02 := (rcell hd2).1; have HD2 := Lib.hid hd2; have HO := Lib.hid hown; have HGW : Hid (((wr.alloc (.cells #[] 5)).alloc (.cells #[.slice (some ⟨wr.heap.size, 0, none⟩) 0 0] 30)).grownBy w2 (Value.slice fa S.frames.length fc).ownBlock) := Lib.hid ⟨hg.os, hg.tape, hg.output, hg.size, hg.block⟩; have HAT := Lib.hid hat; clear hown hg hat hd2)
                  | fail)
                all_goals
                  go_wp2
                  go_roundw
                  case rel =>
                    refine ⟨j + 1, true, [], (w2.setCell ⟨w.heap.size + 1, 0, none⟩ (.slice (some ⟨g, 0, none⟩) (S.frames.length + 1) cap)).heap.size, .slice (some ⟨g, 0, none⟩) (S.frames.length + 1) cap, .slice none 0 0, by omega, by go_num, by rw [HS2.out]; rfl, rfl, fun h => absurd h (by rw [HS2.out]; simp [St.out]), ?_⟩
                    rw [HS2.out]
                    exact tail_rst HR.out (by omega) HIN.out HFV.out HRW.out HB1.out HX1.out HGW.out HO.out HAT.out
                  case measure => simp [intOf]; omega
              · obtain ⟨g0, cap0, hv0, _, _⟩ := HR.out.row.form (List.length_pos_iff.2 hnow)
                simp only [Value.slice.injEq] at hv0
                obtain ⟨rfl, _, rfl⟩ := hv0
                have hnews : ∀ t u, (S.now.map bv)[t]? = some u → (wr.drew.alloc (.cells #[] 5)).cell? ((⟨g0, 0, none⟩ : Addr).add t) = some u := (HR.out.row.alloc _).cells rfl
                have HNW := Lib.hid hnews
                have hpos : 0 < S.now.length := List.length_pos_iff.2 hnow
                have hka : (wr.drew.alloc (.cells #[] 5)).cell? ⟨w.heap.size + 1, 0, none⟩ = some (.slice fa S.frames.length fc) := (rcell (w := wr.drew.alloc (.cells #[] 5)) ((Below.heap_alloc _ _ _ (lt_of_block HR.out.cells)).trans HR.out.cells)).1
                clear hnews hnow
                go_upto_region 20 with (fail)
                go_region_law (first
                  | (refine step_append_lies _ rfl (.tmp 43) (.tmp 44) 30 rfl wr.heap.size 5 i1 (.int .u8 0) 1 1 Try.underlying30 hi1 hy0 hy1 hy2 rfl (by decide) (.slice (some ⟨wr.heap.size, 0, none⟩) 0 0) 0 [] rfl HO0.out ⟨g0, 0, none⟩ S.now.length nc (S.now.map bv) rfl (by simp) HNW.out (by intro u hu; obtain ⟨c, _, rfl⟩ := List.mem_map.1 hu; rfl) hpos (by unfold maxLen; omega) (by omega) (by simp) _ rfl ?_; intro g1 cap1 w1 hown1 hg1 _ _; have HB1 := Lib.hid (tail_below hg1); have hx1 : w1.ownsRow wr.heap.size 5 1 (.slice (some ⟨g1, 0, none⟩) S.now.length cap1) S.now.length (S.now.map bv) := (by simpa using hown1); have HX1 := Lib.hid hx1; clear hx1; have hT1 := (HB1.out.block _ (lt_of_block HR.out.cells)).trans HR.out.cells; have HT1 := Lib.hid hT1; have k01 := (rcell hT1).1; have k02 : (w1.alloc (.cells #[.slice (some ⟨g1, 0, none⟩) S.now.length cap1] 30)).cell? ⟨w.heap.size + 1, 0, none⟩ = some (.slice fa S.frames.length fc) := (rcell ((Below.heap_alloc _ _ _ (lt_of_block hT1)).trans hT1)).1; clear hown1 hg1 hT1)
                  | (refine step_append_lies _ rfl (.tmp 42) (.tmp 46) 22 rfl 0 30 i0 (.slice none 0 0) 1 24 Try.underlying22 hi0 hz0 hz1 hz2 rfl (by decide) (.slice fa S.frames.length fc) S.frames.length vs rfl ((below_row HB1.out HFV.out).alloc _) ⟨w1.heap.size, 0, none⟩ 1 1 [.slice (some ⟨g1, 0, none⟩) S.now.length cap1] rfl rfl (World.news_of_block (heap_alloc_new w1 (.cells #[.slice (some ⟨g1, 0, none⟩) S.now.length cap1] 30))) (by simp [Value.oneCell']) (by decide) (by unfold maxLen; omega) (by omega) (Nat.zero_le _) _ rfl ?_; intro g cap w2 hown hg hat hlt; have hd2 := (hg.block (w.heap.size + 1) (by have := lt_of_block HT1.out; simp; omega) (fun he => own_ne HFV.out HR.out.cells (by decide) he.symm)).trans ((Below.heap_alloc _ _ _ (lt_of_block HT1.out)).trans HT1.out); have f02 := (rcell hd2).2.2.2.2.2 0; have c02 := (rcell hd2).1; have HD2 := Lib.hid hd2; have HO := Lib.hid hown; have HGW := Lib.hid hg; have HAT := Lib.hid hat; clear hown hg hat hd2))
                all_goals
                  go_wp2
                  go_roundw
                  case rel =>
                    refine ⟨j + 1, true, [], (w2.setCell ⟨w.heap.size + 1, 0, none⟩ (.slice (some ⟨g, 0, none⟩) (S.frames.length + 1) cap)).heap.size, .slice (some ⟨g, 0, none⟩) (S.frames.length + 1) cap, .slice none 0 0, by omega, by go_num, by rw [HS2.out]; rfl, rfl, fun h => absurd h (by rw [HS2.out]; simp [St.out]), ?_⟩
                    rw [HS2.out]
                    exact tail_rst HR.out (by omega) HIN.out HFV.out HRW.out HB1.out HX1.out HGW.out HO.out HAT.out
                  case measure => simp [intOf]; omega
            · rw [Bool.not_eq_true] at h3
              have t13 := e13.trans h3
              by_cases h2 : (y == 28) = true
              · have t28 := e28.trans h2
                clear e11 e13 e28
                go_wp2_with (at_builtin; refine wpList_now rfl _ _ rfl wr nb (.slice na S.now.length nc) S.now 28 (.int .u8 28) bv28 rfl HR.out.row HR.out.nbw (by omega) rfl ?_)
                intro g cap w2 hgr
                have HGR := Lib.hid hgr
                clear hgr
                have hT2 := (HGR.out.mod.keep HR.out.cells (own_ne HR.out.row HR.out.cells (by decide)))
                have HT2 := Lib.hid hT2
                obtain ⟨m0, m1, m2, m3, m4, mf⟩ := rcell hT2
                have mf3 := mf 3
                clear hT2 mf m0 m1 m2 m4
                by_cases hover : most < S.now.length + 1
                · have hs : S.step most y = { S with over := S.over + 1 }.out := by simp [St.step, St.next, HIN.out, HFIN.out, h1, h2, h3, hover]
                  have HS2 := Lib.hid (HST.out.trans hs)
                  clear h1 hs HNN
                  go_wp2
                  go_roundw
                  case rel =>
                    refine ⟨j + 1, _, S.now ++ [28], nb, fv, _, by omega, by go_num, by rw [HS2.out]; rfl, rfl, fun _ => rfl, ?_⟩
                    rw [HS2.out]
                    have M : Mod (fun t => t = w.heap.size + 1) w2 (w2.setCell ⟨w.heap.size + 1, 3, none⟩ (.int .i64 (S.over + 1))) := Mod.setCell (S := fun t => t = w.heap.size + 1) (a := ⟨w.heap.size + 1, 3, none⟩) rfl _
                    exact HR.out.next (by omega) ((HGR.out.mod.mono (fun k _ hk => .inr hk)).trans (M.mono (fun k _ hk => .inl hk))) (row_setCell HT2.out 3 _) rfl
                      (by have := M.row HGR.out.row (fun k hk hkD => own_ne HGR.out.row HT2.out (by decide) (hkD ▸ hk)); simpa using this) (fun h => by simp at h) (fun h => by simp [St.out] at h)
                  case measure => simp [intOf]; omega
                · have hs : S.step most y = { S with fin := true, now := S.now ++ [28] } := by simp [St.step, St.next, HIN.out, HFIN.out, h1, h2, h3, hover]
                  have HS2 := Lib.hid (HST.out.trans hs)
                  clear h1 hs HNN
                  go_wp2
                  go_roundw
                  case rel =>
                    refine ⟨j + 1, true, S.now ++ [28], nb, fv, _, by omega, by go_num, by rw [HS2.out]; simp [HIN.out], rfl, fun _ => rfl, ?_⟩
                    rw [HS2.out]
                    exact HR.out.next (by omega) (HGR.out.mod.mono (fun k _ hk => .inr hk)) HT2.out rfl (by simpa using HGR.out.row) (fun h => by simp at h) (fun _ => ⟨rfl, rfl⟩)
                  case measure => simp [intOf]; omega
              · rw [Bool.not_eq_true] at h2
                have t28 := e28.trans h2
                clear e11 e13 e28
                go_wp2_with (at_builtin; refine wpList_now rfl _ _ rfl wr nb (.slice na S.now.length nc) S.now 28 (.int .u8 28) bv28 rfl HR.out.row HR.out.nbw (by omega) rfl ?_)
                intro g1 cap1 w1 hgr
                have HGR1 := Lib.hid hgr
                clear hgr
                go_wp2_with (at_builtin; refine wpList_now rfl _ _ rfl w1 nb (.slice (some ⟨g1, 0, none⟩) (S.now.length + 1) cap1) (S.now ++ [28]) y _ (by rw [HX.out]) rfl HGR1.out.row (Nat.le_trans HR.out.nbw HGR1.out.mod.size) (by simp; omega) rfl ?_)
                intro g cap w2 hgr
                have HGR := Lib.hid (HGR1.out.trans hgr)
                clear hgr
                have hT2 := (HGR.out.mod.keep HR.out.cells (own_ne HR.out.row HR.out.cells (by decide)))
                have HT2 := Lib.hid hT2
                obtain ⟨m0, m1, m2, m3, m4, mf⟩ := rcell hT2
                have mf3 := mf 3
                clear hT2 mf m0 m1 m2 m4
                by_cases hover : most < S.now.length + 2
                · have hs : S.step most y = { S with over := S.over + 1 }.out := by simp [St.step, St.next, HIN.out, HFIN.out, h1, h2, h3, hover]
                  have HS2 := Lib.hid (HST.out.trans hs)
                  clear h1 hs HNN
                  go_wp2
                  go_roundw
                  case rel =>
                    refine ⟨j + 1, _, S.now ++ [28, y], nb, fv, _, by omega, by go_num, by rw [HS2.out]; rfl, rfl, fun _ => rfl, ?_⟩
                    rw [HS2.out]
                    have M : Mod (fun t => t = w.heap.size + 1) w2 (w2.setCell ⟨w.heap.size + 1, 3, none⟩ (.int .i64 (S.over + 1))) := Mod.setCell (S := fun t => t = w.heap.size + 1) (a := ⟨w.heap.size + 1, 3, none⟩) rfl _
                    exact HR.out.next (by omega) ((HGR.out.mod.mono (fun k _ hk => .inr hk)).trans (M.mono (fun k _ hk => .inl hk))) (row_setCell HT2.out 3 _) rfl
                      (by have := M.row HGR.out.row (fun k hk hkD => own_ne HGR.out.row HT2.out (by decide) (hkD ▸ hk)); simpa using this) (fun h => by simp at h) (fun h => by simp [St.out] at h)
                  case measure => simp [intOf]; omega
                · have hs : S.step most y = { S with fin := false, now := S.now ++ [28, y] } := by simp [St.step, St.next, HIN.out, HFIN.out, h1, h2, h3, hover]
                  have HS2 := Lib.hid (HST.out.trans hs)
                  clear h1 hs HNN
                  go_wp2
                  go_roundw
                  case rel =>
                    refine ⟨j + 1, false, S.now ++ [28, y], nb, fv, _, by omega, by go_num, by rw [HS2.out]; simp [HIN.out], rfl, fun _ => rfl, ?_⟩
                    rw [HS2.out]
                    exact HR.out.next (by omega) (HGR.out.mod.mono (fun k _ hk => .inr hk)) HT2.out rfl (by simpa using HGR.out.row) (fun h => by simp at h) (fun _ => ⟨rfl, rfl⟩)
                  case measure => simp [intOf]; omega
          | false =>
            have HFIN := Lib.hid hfin
            clear hfin
            by_cases h2 : (y == 28) = true
            · have t28 := e28.trans h2
              have hs : S.step most y = { S with fin := true } := by
                have hy : y = 28 := by simpa using h2
                subst hy
                simp [St.step, St.next, HIN.out, HFIN.out]
                omega
              have HS2 := Lib.hid (HST.out.trans hs)
              clear e11 e13 e28 h1 h2 hs
              go_wp2
              go_roundw
              case rel =>
                refine ⟨j + 1, true, S.now, nb, fv, _, by omega, by go_num, by rw [HS2.out]; simp [HIN.out], rfl, fun _ => rfl, ?_⟩
                rw [HS2.out]
                exact HR.out.next (by omega) (Mod.refl _ _) HR.out.cells rfl HR.out.row HR.out.none (fun _ => ⟨rfl, rfl⟩)
              case measure => simp [intOf]; omega
            · rw [Bool.not_eq_true] at h2
              have t28 := e28.trans h2
              clear e11 e13 e28
              go_wp2_with (at_builtin; refine wpList_now rfl _ _ rfl wr nb (.slice na S.now.length nc) S.now y _ (by rw [HX.out]) rfl HR.out.row HR.out.nbw (by omega) rfl ?_)
              intro g cap w2 hgr
              have HGR := Lib.hid hgr
              clear hgr
              have hT2 := (HGR.out.mod.keep HR.out.cells (own_ne HR.out.row HR.out.cells (by decide)))
              have HT2 := Lib.hid hT2
              obtain ⟨m0, m1, m2, m3, m4, mf⟩ := rcell hT2
              have mf3 := mf 3
              clear hT2 mf m0 m1 m2 m4
              by_cases hover : most < S.now.length + 1
              · have hs : S.step most y = { S with over := S.over + 1 }.out := by simp [St.step, St.next, HIN.out, HFIN.out, h1, h2, hover]
                have HS2 := Lib.hid (HST.out.trans hs)
                clear h1 hs HNN
                go_wp2
                go_roundw
                case rel =>
                  refine ⟨j + 1, _, S.now ++ [y], nb, fv, _, by omega, by go_num, by rw [HS2.out]; rfl, rfl, fun _ => rfl, ?_⟩
                  rw [HS2.out]
                  have M : Mod (fun t => t = w.heap.size + 1) w2 (w2.setCell ⟨w.heap.size + 1, 3, none⟩ (.int .i64 (S.over + 1))) := Mod.setCell (S := fun t => t = w.heap.size + 1) (a := ⟨w.heap.size + 1, 3, none⟩) rfl _
                  exact HR.out.next (by omega) ((HGR.out.mod.mono (fun k _ hk => .inr hk)).trans (M.mono (fun k _ hk => .inl hk))) (row_setCell HT2.out 3 _) rfl
                    (by have := M.row HGR.out.row (fun k hk hkD => own_ne HGR.out.row HT2.out (by decide) (hkD ▸ hk)); simpa using this) (fun h => by simp at h) (fun h => by simp [St.out] at h)
                case measure => simp [intOf]; omega
              · have hs : S.step most y = { S with fin := false, now := S.now ++ [y] } := by simp [St.step, St.next, HIN.out, HFIN.out, h1, h2, hover]
                have HS2 := Lib.hid (HST.out.trans hs)
                clear h1 hs HNN
                go_wp2
                go_roundw
                case rel =>
                  refine ⟨j + 1, false, S.now ++ [y], nb, fv, _, by omega, by go_num, by rw [HS2.out]; simp [HIN.out], rfl, fun _ => rfl, ?_⟩
                  rw [HS2.out]
                  exact HR.out.next (by omega) (HGR.out.mod.mono (fun k _ hk => .inr hk)) HT2.out rfl (by simpa using HGR.out.row) (fun h => by simp at h) (fun _ => ⟨rfl, rfl⟩)
                case measure => simp [intOf]; omega
    · have : j = n := by omega
      subst this
      have hall : bs.take j = bs := List.take_of_length_le (by rw [HN.out]; exact Nat.le_refl _)
      have hse := HSE.out
      rw [hall] at hse
      have HE := Lib.hid hse.symm
      obtain ⟨vs, hfv, hrows⟩ := HR.out.found
      obtain ⟨fa, fc, rfl⟩ := slice_form hfv
      have hRB := HR.out.res
      have f1 := kf 1
      obtain ⟨r0, r1, r2, r3, r4, rf⟩ := rcell hRB
      have rf0 := rf 0
      have rf1 := rf 1
      have rf2 := rf 2
      have rf3 := rf 3
      have rf4 := rf 4
      have HRB := Lib.hid hRB
      clear hall hse hfv hrows hRB kf rf
      cases hin : S.inn with
      | false =>
        rw [hin] at h6
        subst h6
        clear h8
        have HIN := Lib.hid hin
        clear hin
        go_wp2
        have d := ret5 (u0 := .slice fa S.frames.length fc) (u1 := .int .i64 0) (u2 := .int .i64 S.junk) (u3 := .int .i64 S.over) (u4 := .int .i64 S.broken) HRB.out
        obtain ⟨d0, d1, d2, d3, d4, _⟩ := rcell d
        obtain ⟨e1, e2⟩ := read_end HR.out (by omega) (Mod.trans (Mod.refl _ _) (mod5 (w.heap.size + 1) w.heap.size _ (.slice fa S.frames.length fc) (.int .i64 0) (.int .i64 S.junk) (.int .i64 S.over) (.int .i64 S.broken)))
        refine bodyPost_ret (v := .agg #[.slice fa S.frames.length fc, .int .i64 0, .int .i64 S.junk, .int .i64 S.over, .int .i64 S.broken]) (by simp [results, Try.results10, go_sem, d0, d1, d2, d3, d4]) rfl ?_
        rw [HE.out]
        exact ⟨e1, fa, fc, nb, by simp [St.held, HIN.out], e2, HR.out.fresh⟩
      | true =>
        obtain ⟨he, hnow⟩ := HR.out.rel hin
        subst he
        subst hnow
        rw [hin] at h6
        subst h6
        have hi8 := h8 hin
        subst hi8
        clear h8
        have hgm := HG.out.most
        have HIN := Lib.hid hin
        clear hin
        cases hfin : S.fin with
        | false =>
          have HFIN := Lib.hid hfin
          clear hfin
          go_wp2
          obtain ⟨q0, q1, q2, q3, q4, _⟩ := rcell (hR1 HRB.out (.int .i64 (1 + (S.now.length : Int))))
          have d := ret5 (u0 := .slice fa S.frames.length fc) (u1 := .int .i64 (1 + (S.now.length : Int))) (u2 := .int .i64 S.junk) (u3 := .int .i64 S.over) (u4 := .int .i64 S.broken) (hR1 HRB.out (.int .i64 (1 + (S.now.length : Int))))
          obtain ⟨d0, d1, d2, d3, d4, _⟩ := rcell d
          obtain ⟨e1, e2⟩ := read_end HR.out (by omega) (Mod.trans (mod1 _) (mod5 (w.heap.size + 1) w.heap.size _ (.slice fa S.frames.length fc) (.int .i64 (1 + (S.now.length : Int))) (.int .i64 S.junk) (.int .i64 S.over) (.int .i64 S.broken)))
          refine bodyPost_ret (v := .agg #[.slice fa S.frames.length fc, .int .i64 (1 + (S.now.length : Int)), .int .i64 S.junk, .int .i64 S.over, .int .i64 S.broken]) (by simp [results, Try.results10, go_sem, d0, d1, d2, d3, d4]) rfl ?_
          rw [HE.out]
          exact ⟨e1, fa, fc, nb, by simp [St.held, HIN.out, HFIN.out, Int.add_comm], e2, HR.out.fresh⟩
        | true =>
          have HFIN := Lib.hid hfin
          clear hfin
          go_wp2
          obtain ⟨q0, q1, q2, q3, q4, _⟩ := rcell (hR1 (hR1 HRB.out (.int .i64 (1 + (S.now.length : Int)))) (.int .i64 (1 + (S.now.length : Int) + 1)))
          have d := ret5 (u0 := .slice fa S.frames.length fc) (u1 := .int .i64 (1 + (S.now.length : Int) + 1)) (u2 := .int .i64 S.junk) (u3 := .int .i64 S.over) (u4 := .int .i64 S.broken) (hR1 (hR1 HRB.out (.int .i64 (1 + (S.now.length : Int)))) (.int .i64 (1 + (S.now.length : Int) + 1)))
          obtain ⟨d0, d1, d2, d3, d4, _⟩ := rcell d
          obtain ⟨e1, e2⟩ := read_end HR.out (by omega) (Mod.trans ((mod1 _).trans (mod1 _)) (mod5 (w.heap.size + 1) w.heap.size _ (.slice fa S.frames.length fc) (.int .i64 (1 + (S.now.length : Int) + 1)) (.int .i64 S.junk) (.int .i64 S.over) (.int .i64 S.broken)))
          refine bodyPost_ret (v := .agg #[.slice fa S.frames.length fc, .int .i64 (1 + (S.now.length : Int) + 1), .int .i64 S.junk, .int .i64 S.over, .int .i64 S.broken]) (by simp [results, Try.results10, go_sem, d0, d1, d2, d3, d4]) rfl ?_
          rw [HE.out]
          exact ⟨e1, fa, fc, nb, by simp [St.held, HIN.out, HFIN.out, Int.add_comm, Int.add_left_comm], e2, HR.out.fresh⟩

end Go.Proofs.Ytcmpcpemmmobeaa
