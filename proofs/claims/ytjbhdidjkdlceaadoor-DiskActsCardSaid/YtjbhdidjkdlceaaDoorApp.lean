/- append of bytes, as an operation and as a step of a region that draws its order. -/
import Derived.Test.YtjbhdidjkdlceaaDoorOps
namespace Go.Proofs.YtjbhdidjkdlceaaDoor
open Go.RowKit Go.Maps
set_option linter.unusedVariables false

theorem BytesAt.below {B : Nat} {w w' : World} {a : Option Addr} {x : List UInt8} (h : BytesAt w a x) (hB : w.heap.size ≤ B) (m : Below B w w') : BytesAt w' a x := by
  refine ⟨fun i y hy => ?_⟩
  obtain ⟨b, off, rfl, hc⟩ := h.cells i y hy
  refine ⟨b, off, rfl, (World.cell?_of_block (m.block b ?_)).trans hc⟩
  have := World.block_lt_of_cell? w _ hc
  simp at this
  omega

/-- What came in lies below what was made. -/
theorem BytesAt.old {w : World} {a : Option Addr} {x : List UInt8} (h : BytesAt w a x) (hne : x ≠ []) : ∀ ad, a = some ad → ad.block < w.heap.size := by
  cases x with
  | nil => exact absurd rfl hne
  | cons c cs =>
    obtain ⟨b, off, rfl, hc⟩ := h.cells 0 c rfl
    intro ad had
    simp only [Option.some.injEq] at had
    subst had
    exact World.block_lt_of_cell? w _ hc

/-- A row of bytes, grown by some. -/
structure Grew (nb : Nat) (nv : Value) (now news : List UInt8) (w w' : World) (nv' : Value) : Prop where
  mod : Mod (fun t => nv.ownBlock = some t) w w'
  row : w'.ownsRow nb 5 1 nv' (now ++ news).length ((now ++ news).map bv)
  hat : ∀ t, nv'.ownBlock = some t → nv.ownBlock = some t ∨ w.heap.size ≤ t

theorem Grew.trans {nb : Nat} {nv nv' nv2 : Value} {now news more : List UInt8} {w w' w2 : World} (h : Grew nb nv now news w w' nv') (k : Grew nb nv' (now ++ news) more w' w2 nv2) : Grew nb nv now (news ++ more) w w2 nv2 := by
  refine ⟨h.mod.chain k.mod ?_, by rw [← List.append_assoc]; exact k.row, ?_⟩
  · intro t hlt ht
    rcases h.hat t ht with h1 | h1
    · exact h1
    · omega
  · intro t ht
    rcases k.hat t ht with h1 | h1
    · exact h.hat t h1
    · have := h.mod.size
      exact .inr (by omega)

/-- append of bytes, nil or not, empty or not: the run. -/
theorem run_append_bytes (ty : TypeId) (w0 : World) (base : Nat) (av : Value) (As x : List UInt8) (ra : Option Addr) (rc : Nat)
    (hrow : w0.ownsRow base 5 1 av As.length (As.map bv)) (hbase : base ≤ w0.heap.size) (hl : As.length + x.length ≤ 400000) (hb : BytesAt w0 ra x) (hnil : ra = none → rc = 0) :
    ∃ aa ac w', (Builtin.append_ #[34, 34] ty #[av, .slice ra x.length rc]).run Tryd.prog w0 = .ok (.slice aa (As ++ x).length ac) w' ∧ Grew base av As x w0 w' (.slice aa (As ++ x).length ac) := by
  obtain ⟨i0, hin, hz0, hz1, hz2⟩ := info_parts info5
  cases ra with
  | none =>
    have hx0 : x = [] := by
      cases x with
      | nil => rfl
      | cons c cs =>
        obtain ⟨b, off, he, _⟩ := hb.cells 0 c rfl
        cases he
    subst hx0
    obtain ⟨aa, ac, hv⟩ := slice_form hrow
    have hrow' := hrow
    rw [← hz1] at hrow
    have hrun := run_append_owned_none (P := Tryd.prog) (w := w0) base 34 ty 5 i0 i0.size Tryd.underlying34 hin av As.length (As.map bv) hrow
    rw [hnil rfl]
    have hv2 : av = .slice aa (As ++ []).length ac := by rw [hv]; simp
    refine ⟨aa, ac, w0, ?_, Mod.refl _ _, by rw [← hv2]; simpa using hrow', fun t ht => .inl (by rw [hv2]; exact ht)⟩
    rw [← hv2]
    exact hrun
  | some ad =>
    obtain ⟨v', w', hr, hown, hg, _, hat⟩ := run_append_own_at (P := Tryd.prog) w0 base 34 ty 5 i0 (.int .u8 0) 1 1 Tryd.underlying34 hin hz0 hz1 hz2 rfl (by decide) av As.length (As.map bv) hrow ad x.length rc (x.map bv) (by simp)
      (by
        intro j u hu
        rw [List.getElem?_map] at hu
        cases hy : x[j]? with
        | none => simp [hy] at hu
        | some y =>
          obtain ⟨b, off, he, hc⟩ := hb.cells j y hy
          cases he
          rw [Addr.add_lit, hc]
          simpa [hy] using hu)
      (by
        intro u hu
        obtain ⟨c, _, rfl⟩ := List.mem_map.1 hu
        rfl) (by unfold maxLen; omega) (by omega) hbase
    obtain ⟨aa, ac, rfl⟩ := slice_form hown
    have e : As.length + x.length = (As ++ x).length := by simp
    rw [e] at hown hat hr
    refine ⟨aa, ac, w', hr, Mod.grown hg (fun k hk => hk), by simpa using hown, fun t ht => ?_⟩
    rcases hat with hat | hat
    · exact .inl (by rw [← hat]; exact ht)
    · rw [hat] at ht
      simp only [Option.some.injEq] at ht
      exact .inr (by omega)

theorem wp_append_bytes {o : Oper} {a : Act} {K : Act → World → Prop} {Q : Exit → Act → World → Prop} (s xo : Operand) (ho : o.op = .call { callee := .builtin .append, args := #[s, xo], argTypes := #[34, 34] })
    (w0 : World) (base : Nat) (av : Value) (As x : List UInt8) (n : Nat) (hn : x.length = n) (ra : Option Addr) (rc : Nat) (hs : a.eval s = av)
    (hrow : w0.ownsRow base 5 1 av As.length (As.map bv)) (hbase : base ≤ w0.heap.size) (hl : As.length + n ≤ 400000) (hx : a.eval xo = .slice ra n rc) (hb : BytesAt w0 ra x) (hnil : ra = none → rc = 0)
    (h : ∀ aa ac w', Grew base av As x w0 w' (.slice aa (As.length + n) ac) → K (a.put o.dst (.slice aa (As.length + n) ac)) w') : Oper.wp Tryd.prog o a w0 K Q := by
  subst hn
  obtain ⟨aa, ac, w', hr, hg⟩ := run_append_bytes o.type w0 base av As x ra rc hrow hbase hl hb hnil
  rw [List.length_append] at hr hg
  unfold Oper.wp execOp
  simp only [ho, resolve, invoke, builtin, Sem.run_bind, Sem.run_pure, Result.andThen_ok, List.map_toArray, List.map_cons, List.map_nil, hs, hx, hr]
  exact h aa ac w' hg

theorem wpList_append_bytes {ops : Array Oper} {rest : List Oper} {o : Oper} {a : Act} {Q : Exit → Act → World → Prop} (hgd : o.guard = none) (s xo : Operand) (ho : o.op = .call { callee := .builtin .append, args := #[s, xo], argTypes := #[34, 34] })
    (w0 : World) (base : Nat) (av : Value) (As x : List UInt8) (n : Nat) (hn : x.length = n) (ra : Option Addr) (rc : Nat) (hs : a.eval s = av)
    (hrow : w0.ownsRow base 5 1 av As.length (As.map bv)) (hbase : base ≤ w0.heap.size) (hl : As.length + n ≤ 400000) (hx : a.eval xo = .slice ra n rc) (hb : BytesAt w0 ra x) (hnil : ra = none → rc = 0)
    (h : ∀ aa ac w', Grew base av As x w0 w' (.slice aa (As.length + n) ac) → wpList Tryd.prog ops Q rest (a.put o.dst (.slice aa (As.length + n) ac)) w') : wpList Tryd.prog ops Q (o :: rest) a w0 :=
  wpList_plain hgd fun _ hK => wp_append_bytes s xo ho w0 base av As x n hn ra rc hs hrow hbase hl hx hb hnil fun aa ac w' hg => hK _ _ (h aa ac w' hg)

theorem step_append_bytes {ops : Array Oper} {o : Oper} {a : Act} {K : Act → World → Prop} {Q : Exit → Act → World → Prop} {E : Prop} (hgd : o.guard = none) (s xo : Operand) (ho : o.op = .call { callee := .builtin .append, args := #[s, xo], argTypes := #[34, 34] })
    (w0 : World) (base : Nat) (av : Value) (As x : List UInt8) (n : Nat) (hn : x.length = n) (ra : Option Addr) (rc : Nat) (hs : a.eval s = av)
    (hrow : w0.ownsRow base 5 1 av As.length (As.map bv)) (hbase : base ≤ w0.heap.size) (hl : As.length + n ≤ 400000) (hx : a.eval xo = .slice ra n rc) (hb : BytesAt w0 ra x) (hnil : ra = none → rc = 0)
    (h : ∀ aa ac w', Grew base av As x w0 w' (.slice aa (As.length + n) ac) → K (a.put o.dst (.slice aa (As.length + n) ac)) w') : if Region.wanted o (yielded ops a.tmps) = true then Oper.wp Tryd.prog o a w0 K Q else E := by
  have hw : Region.wanted o (yielded ops a.tmps) = true := by simp [Region.wanted, hgd]
  rw [if_pos hw]
  exact wp_append_bytes s xo ho w0 base av As x n hn ra rc hs hrow hbase hl hx hb hnil h

end Go.Proofs.YtjbhdidjkdlceaaDoor
