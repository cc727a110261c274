/- GuardDeferred: functions that are deferred, in a row, and the law's walk. -/
import Derived.Test.YtehlacbebahmdaaAlive
import Derived.Deep.QuietTactic
import Derived.BigQuiet
import Derived.Deep.Cut
namespace Go.Proofs.Ytehlacbebahmdaa
open Go.RowKit

/-- Behind a guard: but for its own two variables nothing has turned. -/
structure Left (b : Nat) (w w' : World) : Prop where
  os : w'.os = w.os
  tape : w'.tape = w.tape
  output : w'.output = w.output
  size : w.heap.size ≤ w'.heap.size
  block : ∀ k, k < w.heap.size → k ≠ b → k ≠ b + 1 → w'.heap[k]? = w.heap[k]?

set_option maxHeartbeats 400000 in
theorem run_lost2 (f : FuncId) (cap : Array Value) (op : Int) (w : World) (Q : World → Prop) (hcall : ∀ w, (callFunc f cap).run Try.prog w = .ok (.enter f cap) w)
    (h : Calls Try.prog f cap (inRun w) fun e w1 => e = lostAt op ∧ Q w1 ∧ Above w.heap.size (inRun w) w1) :
    Calls Try.prog 18 #[.func (.func f) #[] cap] w fun e w' => e = .returned (.tuple #[.agg #[.int .i64 op], .bool true]) ∧ ∃ w1, Q w1 ∧ Left w.heap.size w1 w' := by
  have H := Lib.hid h
  clear h
  go_enter_defers Try.func18, Try.ntmps18
  go_wp2_with fail
  refine (H.out).mono ?_
  rintro e w1 ⟨rfl, hq, ha⟩
  have k1 : w1.heap[w.heap.size]? = some (.cells #[.int .i64 0] 28 (0, 0)) := (ha.block _ (Nat.le_refl _) (by rw [inRun_size]; omega)).trans (inRun_first w)
  have k2 : w1.heap[w.heap.size + 1]? = some (.cells #[.bool false] 4 (0, 0)) := (ha.block _ (by omega) (by rw [inRun_size]; omega)).trans (inRun_second w)
  have HQ := Lib.hid hq
  have K1 := Lib.hid k1
  have K2 := Lib.hid k2
  clear k1 k2 hq ha H
  go_wp2
  refine leaves_cons (f := 37) (args := #[.pointer (some ⟨w.heap.size, 0, none⟩), .pointer (some ⟨w.heap.size + 1, 0, none⟩)]) (by simp) (by simp [go_sem]) ?_
  refine (catch_crash w.heap.size (w.heap.size + 1) op _ _ [] w1 K1.out K2.out (Nat.lt_succ_self _)).mono ?_
  rintro e u' w'' ⟨rfl, rfl, hc⟩
  have d1 := cell_of_one hc.first
  have d2 := cell_of_one hc.second
  refine ⟨.tuple #[.agg #[.int .i64 op], .bool true], ?_, ?_⟩
  · simp [results, Try.results18, go_sem, d1, d2]
  · exact ⟨rfl, w1, HQ.out, hc.os, hc.tape, hc.output, hc.size, hc.block⟩

theorem calls19 (cap : Array Value) (w : World) : (callFunc 19 cap).run Try.prog w = .ok (.enter 19 cap) w := by simp [go_sem]

theorem info3 : (Try.prog.info? 3).map (fun i => (i.zero, i.size, i.bytes)) = some (some (.int .i64 0), 1, 8) := by kernel_rfl

/-- What the deferred functions have gathered: the numbers xs, in a row of the call's own; but for that row's variable nothing below base has turned. -/
structure Gathered (ob base : Nat) (w0 : World) (xs : List Int) (w : World) : Prop where
  os : w.os = w0.os
  tape : w.tape = w0.tape
  output : w.output = w0.output
  size : base ≤ w.heap.size
  block : ∀ k, k < base → k ≠ ob → w.heap[k]? = w0.heap[k]?
  row : ∃ v, w.heap[ob]? = some (.cells #[v] 38 (0, 0)) ∧ w.ownsRow base 3 1 v xs.length (xs.map (Value.int .i64))

/-- Storing a slice's value into its variable, whatever the slice. -/
theorem slice_form {base : Nat} {e : TypeId} {size : Nat} {w : World} {v : Value} {n : Nat} {xs : List Value} (h : w.ownsRow base e size v n xs) : ∃ a l c, v = .slice a l c := by
  obtain ⟨_, ⟨rfl, _⟩ | ⟨g, cap, cur, rfl, _⟩⟩ := h
  · exact ⟨_, _, _, rfl⟩
  · exact ⟨_, _, _, rfl⟩

set_option maxHeartbeats 800000 in
/-- A deferred function lays its number behind the others. -/
theorem gather (ob ib base : Nat) (i : Int) (w0 : World) (xs : List Int) (u : FrameMode) (w : World) (hl : xs.length ≤ 100) (hob : ob < base) (hib : ib < base) (hne : ib ≠ ob) (hi : w0.heap[ib]? = some (.cells #[.int .i64 i] 3 (0, 0)))
    (hG : Gathered ob base w0 xs w) :
    CallsD Try.prog 20 #[.pointer (some ⟨ob, 0, none⟩), .pointer (some ⟨ib, 0, none⟩)] u w fun e u' w' => u' = u ∧ (e = .returned (.tuple #[]) ∧ Gathered ob base w0 (xs ++ [i]) w') := by
  obtain ⟨i0, hin, hz0, hz1, hz2⟩ := info_parts info3
  obtain ⟨v, hv, hrow⟩ := hG.row
  obtain ⟨sa, sl, sc, rfl⟩ := slice_form hrow
  have co := cell_of_one hv
  have ci := cell_of_one ((hG.block ib hib hne).trans hi)
  have hsz := hG.size
  have HR := Lib.hid hrow
  have HV := Lib.hid hv
  have HG := Lib.hid hG
  clear hrow hv hi hG
  go_enter_d Try.func20, Try.ntmps20
  go_wp2_with (at_builtin; refine wpList_append_own _ rfl _ _ 38 rfl base 3 i0 (.int .i64 0) 1 8 Try.underlying38 hin hz0 hz1 hz2 rfl (by decide) _ _ _ rfl (HR.out.alloc _) ⟨w.heap.size, 0, none⟩ 1 1 [.int .i64 i] rfl rfl ?c1 ?c2 ?c3 ?c4 ?c5 ?_)
  case c1 =>
    intro j u hj
    rcases j with _ | j
    · simp at hj
      subst hj
      simp [Addr.add]
    · simp at hj
  case c2 => simp [Value.oneCell']
  case c3 => unfold maxLen; omega
  case c4 => omega
  case c5 => simp; omega
  intro v' w2 hown hg _
  obtain ⟨sa', sl', sc', rfl⟩ := slice_form hown
  have hg2 : w2.heap[ob]? = some (.cells #[.slice sa sl sc] 38 (0, 0)) := by
    refine (hg.block ob (by simp; omega) ?_).trans ((Below.heap_alloc _ _ _ (by omega)).trans HV.out)
    intro e
    have := (HR.out.lt ob e.symm).1
    omega
  have co2 := cell_of_one hg2
  have fo2 := free_of_one hg2
  have HO := Lib.hid hown
  have HGR := Lib.hid hg
  have HG2 := Lib.hid hg2
  clear hown hg hg2 co
  go_wp2
  go_end0
  refine ⟨rfl, ⟨HGR.out.os.trans HG.out.os, HGR.out.tape.trans HG.out.tape, HGR.out.output.trans HG.out.output, ?_, fun k hk hko => ?_, _, one_setCell HG2.out, ?_⟩⟩
  · have := HGR.out.size
    simp [World.setCell] at *
    omega
  · refine (Below.heap_setCell _ _ _ _ hko).trans ((HGR.out.block k (by simp; omega) ?_).trans ((Below.heap_alloc _ _ _ (by omega)).trans (HG.out.block k hk hko)))
    intro e
    have := (HR.out.lt k e.symm).1
    omega
  · have h := ownsRow_setCell_below HO.out (a := ⟨ob, 0, none⟩) hob (.slice sa' sl' sc')
    simpa using h

/-- The deferred calls, the last one laid first: ib are their numbers' variables. -/
def defs (ob : Nat) : List Nat → List Deferred
  | [] => []
  | b :: r => { target := .fn (.func 20) #[.pointer (some ⟨ob, 0, none⟩), .pointer (some ⟨b, 0, none⟩)], args := #[] } :: defs ob r

def IdxAt (ob base : Nat) (w0 : World) : List Nat → Prop
  | [] => True
  | b :: r => (w0.heap[b]? = some (.cells #[.int .i64 r.length] 3 (0, 0)) ∧ b < base ∧ b ≠ ob) ∧ IdxAt ob base w0 r

def downTo : Nat → List Int
  | 0 => []
  | n + 1 => (n : Int) :: downTo n

theorem downTo_length (n : Nat) : (downTo n).length = n := by induction n with
  | zero => rfl
  | succ n ih => simp [downTo, ih]

theorem downTo_get (n i : Nat) (h : i < n) : (downTo n)[i]? = some ((n : Int) - 1 - i) := by
  induction n generalizing i with
  | zero => omega
  | succ n ih =>
    cases i with
    | zero => simp [downTo]
    | succ i =>
      rw [downTo, List.getElem?_cons_succ, ih i (by omega)]
      congr 1
      omega

theorem leaves_defs (fn : Func) (tmps : Array Value) (ob base : Nat) (w0 : World) (op : Int) (hob : ob < base) : ∀ (ib : List Nat) (xs : List Int) (w : World), xs.length + ib.length ≤ 100 → IdxAt ob base w0 ib → Gathered ob base w0 xs w →
    Leaves Try.prog fn tmps (fun e w' => e = lostAt op ∧ Gathered ob base w0 (xs ++ downTo ib.length) w') (defs ob ib) (.panicking [{ v := .iface 28 (.agg #[.int .i64 op]), recovered := false }]) w := by
  intro ib
  induction ib with
  | nil =>
    intro xs w _ _ hG
    exact ⟨rfl, by simpa [downTo] using hG⟩
  | cons b r ih =>
    intro xs w hl hI hG
    simp only [List.length_cons] at hl
    obtain ⟨⟨h1, h2, h3⟩, hI2⟩ := hI
    refine leaves_cons (f := 20) (args := #[.pointer (some ⟨ob, 0, none⟩), .pointer (some ⟨b, 0, none⟩)]) (by simp) (by simp [go_sem]) ?_
    refine (gather ob b base r.length w0 xs _ w (by omega) hob h2 h3 h1 hG).mono ?_
    rintro e u' w' ⟨rfl, rfl, hG2⟩
    have h := ih (xs ++ [(r.length : Int)]) w' (by simp; omega) hI2 hG2
    have e : xs ++ [(r.length : Int)] ++ downTo r.length = xs ++ downTo (b :: r).length := by simp [downTo]
    rw [e] at h
    exact h

theorem idx_alloc {ob : Nat} {w : World} (o : Obj) : ∀ ib, IdxAt ob w.heap.size w ib → IdxAt ob (w.heap.size + 1) (w.alloc o) ib
  | [], _ => trivial
  | _ :: r, ⟨⟨h1, h2, h3⟩, h4⟩ => ⟨⟨(Below.heap_alloc _ _ _ h2).trans h1, by omega, h3⟩, idx_alloc o r h4⟩

theorem leaves_mono {P : Program} {fn : Func} {tmps : Array Value} {R R' : Ending → World → Prop} (hR : ∀ e w, R e w → R' e w) : ∀ (ds : List Deferred) (u : FrameMode) (w : World), Leaves P fn tmps R ds u w → Leaves P fn tmps R' ds u w := by
  intro ds
  induction ds with
  | nil =>
    intro u w h
    cases u with
    | run => exact h.elim
    | returning =>
      obtain ⟨v, h1, h2⟩ := h
      exact ⟨v, h1, hR _ _ h2⟩
    | panicking ch => exact hR _ _ h
  | cons d ds ih =>
    intro u w h
    obtain ⟨hu, fv, cap, f, args, h1, h2, h3⟩ := h
    refine ⟨hu, fv, cap, f, args, h1, h2, h3.mono fun e u' w' hq => ?_⟩
    cases e with
    | returned v => exact ih _ _ hq
    | panicked ch => exact ih _ _ hq
    | outgrown => exact hR _ _ hq

/-- At the head of the loop that defers. -/
def DefRel (kb ob opb k : Nat) (w wr : World) (a : Act) : Prop :=
  ∃ (ib : List Nat) (u3 u6 u7 u8 u9 : Value), ib.length ≤ k ∧
    a = { tmps := #[.pointer (some ⟨kb, 0, none⟩), .pointer (some ⟨ob, 0, none⟩), .pointer (some ⟨opb, 0, none⟩), u3, .int .i64 k, .int .i64 ib.length, u6, u7, u8, u9, undef, undef], defers := defs ob ib } ∧
    Below w.heap.size w wr ∧ IdxAt ob wr.heap.size wr ib

def slot5 (a : Act) : Nat := (intOf (a.tmps.getD 5 undef)).toNat

set_option maxHeartbeats 800000 in
theorem deferred_fn (kb ob opb k : Nat) (op : Int) (w : World) (hk : k ≤ 50) (h1 : w.heap[kb]? = some (.cells #[.int .i64 k] 3 (0, 0))) (h2 : w.heap[ob]? = some (.cells #[.slice none 0 0] 38 (0, 0))) (h3 : w.heap[opb]? = some (.cells #[.int .i64 op] 3 (0, 0))) :
    Calls Try.prog 19 #[.pointer (some ⟨kb, 0, none⟩), .pointer (some ⟨ob, 0, none⟩), .pointer (some ⟨opb, 0, none⟩)] w fun e w' => e = lostAt op ∧ ∃ w0, Below w.heap.size w w0 ∧ Gathered ob w0.heap.size w0 (downTo k) w' := by
  have c1 := cell_of_one h1
  have H1 := Lib.hid h1
  have H2 := Lib.hid h2
  have H3 := Lib.hid h3
  clear h1 h2 h3
  go_enter_defers Try.func19, Try.ntmps19
  go_wp2
  refine wp_loop (fun a wr => DefRel kb ob opb k w wr a) (fun a _ => k - slot5 a) ?_ ?_
  · exact ⟨[], undef, undef, undef, undef, undef, by simp, rfl, Below.refl _ _, trivial⟩
  · rintro a wr ⟨ib, u3, u6, u7, u8, u9, hl, rfl, hb, hI⟩
    have HB := Lib.hid hb
    have HI := Lib.hid hI
    have hsz := hb.size
    have k3 := (hb.block opb (lt_of_block H3.out)).trans H3.out
    have c3 := cell_of_one k3
    clear hb hI k3
    by_cases hlt : ib.length < k
    · have hob : ob < wr.heap.size := by have := lt_of_block H2.out; omega
      go_wp2
      refine ⟨⟨wr.heap.size :: ib, .pointer (some ⟨wr.heap.size, 0, none⟩), .bool true, .int .i64 ib.length, .func (.func 20) #[] #[.pointer (some ⟨ob, 0, none⟩), .pointer (some ⟨wr.heap.size, 0, none⟩)], .int .i64 (ib.length + 1), by simp; omega, by simp [defs], HB.out.alloc hsz _, ⟨heap_alloc_new _ _, by simp, by omega⟩, ?_⟩, ?_⟩
      · have h := idx_alloc (.cells #[.int .i64 (ib.length : Int)] 3) ib HI.out
        simpa using h
      · simp [slot5, intOf]
        omega
    · have hk2 : ib.length = k := by omega
      have hob : ob < wr.heap.size := by have := lt_of_block H2.out; omega
      have HK := Lib.hid hk2
      clear hk2
      go_wp2_with fail
      refine (lose_any _ _).mono ?_
      rintro e w' ⟨rfl, rfl⟩
      go_wp2
      have hG : Gathered ob wr.heap.size wr [] wr := ⟨rfl, rfl, rfl, Nat.le_refl _, fun _ _ _ => rfl, _, (HB.out.block _ (lt_of_block H2.out)).trans H2.out, World.ownsRow_nil _ _ _ _⟩
      have h := leaves_defs Try.f19 (#[.pointer (some ⟨kb, 0, none⟩), .pointer (some ⟨ob, 0, none⟩), .pointer (some ⟨opb, 0, none⟩), u3, .int .i64 k, .int .i64 ib.length, .bool false, u7, u8, u9, .int .i64 op, undef]) ob wr.heap.size wr op hob ib [] wr (by simp; omega) HI.out hG
      exact leaves_mono (fun e w' hx => ⟨hx.1, wr, HB.out, by have hg := hx.2; rw [HK.out] at hg; simpa using hg⟩) _ _ _ h

theorem row_form {base : Nat} {e : TypeId} {size : Nat} {w : World} {v : Value} {n : Nat} {xs : List Value} (h : w.ownsRow base e size v n xs) (hn : 0 < n) :
    ∃ g cap, v = .slice (some ⟨g, 0, none⟩) n cap ∧ base ≤ g ∧ g < w.heap.size := by
  rcases h.2 with ⟨_, h0⟩ | ⟨g, cap, cur, hv, hb, hg, _⟩
  · omega
  · exact ⟨g, cap, hv, hb, lt_of_block hg⟩

theorem left_row {b base : Nat} {e : TypeId} {size : Nat} {w w' : World} {v : Value} {n : Nat} {xs : List Value} (h : w.ownsRow base e size v n xs) (hl : Left b w w') (hb : b + 2 ≤ base) : w'.ownsRow base e size v n xs := by
  obtain ⟨h1, h2⟩ := h
  refine ⟨h1, ?_⟩
  rcases h2 with h2 | ⟨g, cap, cur, hv, hg, hh, r⟩
  · exact .inl h2
  · exact .inr ⟨g, cap, cur, hv, hg, (hl.block g (lt_of_block hh) (by omega) (by omega)).trans hh, r⟩

theorem below_drewN {B : Nat} {a w : World} (h : Below B a w) (n : Nat) : Below B a (w.drewN n) := ⟨h.os, h.tape, h.output, h.size, h.block⟩

/-- Behind the guard round the deferred functions. -/
structure Ran (kb ob opb k : Nat) (op : Int) (w w3 : World) : Prop where
  mod : ∀ i, i < w.heap.size → i ≠ ob → w3.heap[i]? = w.heap[i]?
  os : w3.os = w.os
  tape : w3.tape = w.tape
  output : w3.output = w.output
  size : w.heap.size + 2 ≤ w3.heap.size
  row : ∃ v base, w.heap.size ≤ base ∧ base ≤ w3.heap.size ∧ w3.heap[ob]? = some (.cells #[v] 38 (0, 0)) ∧ w3.ownsRow base 3 1 v k ((downTo k).map (Value.int .i64))

theorem deferred_run (kb ob opb k : Nat) (op : Int) (w : World) (hk : k ≤ 50) (h1 : w.heap[kb]? = some (.cells #[.int .i64 k] 3 (0, 0))) (h2 : w.heap[ob]? = some (.cells #[.slice none 0 0] 38 (0, 0))) (h3 : w.heap[opb]? = some (.cells #[.int .i64 op] 3 (0, 0))) :
    Calls Try.prog 18 #[.func (.func 19) #[] #[.pointer (some ⟨kb, 0, none⟩), .pointer (some ⟨ob, 0, none⟩), .pointer (some ⟨opb, 0, none⟩)]] w fun e w3 =>
      e = .returned (.tuple #[.agg #[.int .i64 op], .bool true]) ∧ Ran kb ob opb k op w w3 := by
  have b1 := below_inRun w
  have l1 := lt_of_block h1
  have l2 := lt_of_block h2
  have l3 := lt_of_block h3
  have hz := inRun_size w
  refine (run_lost2 19 _ op w (fun w' => ∃ w0, Below (inRun w).heap.size (inRun w) w0 ∧ Gathered ob w0.heap.size w0 (downTo k) w') (fun w => calls19 _ w)
    ((deferred_fn kb ob opb k op (inRun w) hk ((b1.block _ l1).trans h1) ((b1.block _ l2).trans h2) ((b1.block _ l3).trans h3)).mono ?_)).mono ?_
  · rintro e w' ⟨rfl, w0, hb, hg⟩
    refine ⟨rfl, ⟨w0, hb, hg⟩, ?_, fun i hi hlt => ?_⟩
    · have := hg.size; have := hb.size; omega
    · exact (hg.block i (by have := hb.size; omega) (by omega)).trans (hb.block i hlt)
  · rintro e w3 ⟨rfl, w', ⟨w0, hb, hg⟩, hl⟩
    have hs1 := hb.size
    have hs2 := hg.size
    have hs3 := hl.size
    obtain ⟨v, hv, hrow⟩ := hg.row
    rw [downTo_length] at hrow
    refine ⟨rfl, fun i hi hne => ?_, ?_, ?_, ?_, by omega, v, w0.heap.size, by omega, by omega, (hl.block ob (by omega) (by omega) (by omega)).trans hv, left_row hrow hl (by omega)⟩
    · exact (hl.block i (by omega) (by omega) (by omega)).trans ((hg.block i (by omega) hne).trans ((hb.block i (by omega)).trans (b1.block i hi)))
    · exact hl.os.trans (hg.os.trans (hb.os.trans b1.os))
    · exact hl.tape.trans (hg.tape.trans (hb.tape.trans b1.tape))
    · exact hl.output.trans (hg.output.trans (hb.output.trans b1.output))

set_option maxRecDepth 100000 in
set_option maxHeartbeats 1000000 in
theorem deferred_walk (n op : Int) (w : World) (hn : 0 ≤ n ∧ n ≤ 255) :
    Calls Try.prog 6 #[.int .u8 n, .int .i64 op] w fun e w' => e = .returned (.bool true) ∧ Below w.heap.size w w' := by
  obtain ⟨k, hk⟩ : ∃ k : Nat, n % 40 = k := ⟨(n % 40).toNat, by omega⟩
  have hk40 : k < 40 := by omega
  have HK := Lib.hid hk
  clear hk
  obtain ⟨i0, hin, hz0, hz1, hz2⟩ := info_parts info3
  go_enter Try.func6, Try.ntmps6
  go_wp2_with fail
  refine (alive_any _).mono ?_
  rintro e w1 ⟨rfl, h1⟩
  have hop : w1.heap[w.heap.size]? = some (.cells #[.int .i64 op] 3 (0, 0)) := (h1.block _ (by simp)).trans (heap_alloc_new _ _)
  have hop1 := lt_of_block hop
  have HOP := Lib.hid hop
  have H1 := Lib.hid h1
  clear h1 hop
  go_wp2_with fail
  rw [HK.out]
  clear HK
  have q1 : ((w1.alloc (.cells #[.int .i64 k] 3)).alloc (.cells #[.slice none 0 0] 38)).heap[w1.heap.size]? = some (.cells #[.int .i64 k] 3 (0, 0)) := (Below.heap_alloc _ _ _ (by simp)).trans (heap_alloc_new _ _)
  have q2 : ((w1.alloc (.cells #[.int .i64 k] 3)).alloc (.cells #[.slice none 0 0] 38)).heap[w1.heap.size + 1]? = some (.cells #[.slice none 0 0] 38 (0, 0)) := by
    have h := heap_alloc_new (w1.alloc (.cells #[.int .i64 k] 3)) (.cells #[.slice none 0 0] 38)
    have e : (w1.alloc (.cells #[.int .i64 k] 3)).heap.size = w1.heap.size + 1 := by simp
    rw [e] at h
    exact h
  have q3 : ((w1.alloc (.cells #[.int .i64 k] 3)).alloc (.cells #[.slice none 0 0] 38)).heap[w.heap.size]? = some (.cells #[.int .i64 op] 3 (0, 0)) := (Below.heap_alloc _ _ _ (by simp; omega)).trans ((Below.heap_alloc _ _ _ hop1).trans HOP.out)
  refine (deferred_run w1.heap.size (w1.heap.size + 1) w.heap.size k op _ (by omega) q1 q2 q3).mono ?_
  rintro e w3 ⟨rfl, hr⟩
  have hs3 : w1.heap.size + 4 ≤ w3.heap.size := by have := hr.size; simp at this; omega
  have r1 := (hr.mod w1.heap.size (by simp; omega) (by omega)).trans q1
  have r3 := (hr.mod w.heap.size (by simp; omega) (by omega)).trans q3
  have HB3 : Hid (Below w.heap.size w w3) := Lib.hid ⟨hr.os.trans (H1.out.os), hr.tape.trans (H1.out.tape), hr.output.trans (H1.out.output), by omega, fun i hi => (hr.mod i (by simp; omega) (by omega)).trans ((Below.heap_alloc _ _ _ (by simp; omega)).trans ((Below.heap_alloc _ _ _ (by omega)).trans ((H1.out.block i (by simp; omega)).trans (Below.heap_alloc _ _ _ hi))))⟩
  obtain ⟨v, base, hb1, hb2, hv, hrow⟩ := hr.row
  obtain ⟨sa, sl, sc, rfl⟩ := slice_form hrow
  have hb1 : w1.heap.size + 2 ≤ base := by simpa using hb1
  have up : ∀ i, i < w3.heap.size → ∀ (x y : Value), ((w3.alloc (.cells #[x] 28)).alloc (.cells #[y] 3)).heap[i]? = w3.heap[i]? := fun i hi x y =>
    (Below.heap_alloc _ _ _ (by simp; omega)).trans (Below.heap_alloc _ _ _ hi)
  have cv := cell_of_one ((Below.heap_alloc w3 (.cells #[.int .i64 op] 28) _ (by omega)).trans hv)
  have R1 := Lib.hid r1
  have R3 := Lib.hid r3
  have HV := Lib.hid hv
  have HRW := Lib.hid hrow
  have UP := Lib.hid up
  clear q1 q2 q3 hr r1 r3 hv hrow up
  go_wp2_with (at_builtin; refine wpList_append_own _ rfl _ _ 38 rfl base 3 i0 (.int .i64 0) 1 8 Try.underlying38 hin hz0 hz1 hz2 rfl (by decide) _ _ _ rfl ((HRW.out.alloc _).alloc _) ⟨w3.heap.size + 1, 0, none⟩ 1 1 [.int .i64 (-1)] rfl rfl ?c1 ?c2 ?c3 ?c4 ?c5 ?_)
  case c1 =>
    intro j u hj
    rcases j with _ | j
    · simp at hj
      subst hj
      simp [Addr.add]
    · simp at hj
  case c2 => simp [Value.oneCell']
  case c3 => unfold maxLen; omega
  case c4 => omega
  case c5 => simp; omega
  intro v' w4 hown hg _
  obtain ⟨g, gcap, rfl, hgb, hgs⟩ := row_form hown (by omega)
  have hsl : ∀ i, (Value.slice sa sl sc).ownBlock = some i → base ≤ i ∧ i < w3.heap.size := fun i hi => HRW.out.lt i hi
  have t1 : w4.heap[w1.heap.size]? = some (.cells #[.int .i64 k] 3 (0, 0)) := (hg.block _ (by simp; omega) (fun e => by have := hsl _ e.symm; omega)).trans ((UP.out _ (by omega) _ _).trans R1.out)
  have t3 : w4.heap[w.heap.size]? = some (.cells #[.int .i64 op] 3 (0, 0)) := (hg.block _ (by simp; omega) (fun e => by have := hsl _ e.symm; omega)).trans ((UP.out _ (by omega) _ _).trans R3.out)
  have t5 : w4.heap[w3.heap.size]? = some (.cells #[.int .i64 op] 28 (0, 0)) := (hg.block _ (by simp; omega) (fun e => by have := hsl _ e.symm; omega)).trans ((Below.heap_alloc _ _ _ (by simp)).trans (heap_alloc_new _ _))
  have t6 : w4.heap[w1.heap.size + 1]? = some (.cells #[.slice sa sl sc] 38 (0, 0)) := (hg.block _ (by simp; omega) (fun e => by have := hsl _ e.symm; omega)).trans ((UP.out _ (by omega) _ _).trans HV.out)
  have HB4 : Hid (Below w.heap.size w w4) := Lib.hid (HB3.out.trans ((((Below.refl w.heap.size w3).alloc (by omega) _).alloc (by simp; omega) _).grown hg (by simp; omega) (fun i hi => by have := hsl i hi; omega)))
  obtain ⟨W, hW⟩ : ∃ W : World, W = w4.setCell ⟨w1.heap.size + 1, 0, none⟩ (.slice (some ⟨g, 0, none⟩) (k + 1) gcap) := ⟨_, rfl⟩
  have e1 : W.cell? ⟨w1.heap.size, 0, none⟩ = some (.int .i64 k) := by rw [hW]; exact cell_of_one ((Below.heap_setCell _ _ _ _ (by simp)).trans t1)
  have e3 : W.cell? ⟨w.heap.size, 0, none⟩ = some (.int .i64 op) := by rw [hW]; exact cell_of_one ((Below.heap_setCell _ _ _ _ (by simp; omega)).trans t3)
  have e5 : W.cell? ⟨w3.heap.size, 0, none⟩ = some (.int .i64 op) := by rw [hW]; exact cell_of_one ((Below.heap_setCell _ _ _ _ (by simp; omega)).trans t5)
  have e6 : W.cell? ⟨w1.heap.size + 1, 0, none⟩ = some (.slice (some ⟨g, 0, none⟩) (k + 1) gcap) := by rw [hW]; exact cell_of_one (one_setCell t6)
  have hrw : ∀ j, j < (k + 1) * 1 → W.cell? ⟨g, j, none⟩ = ((downTo k).map (Value.int .i64) ++ [.int .i64 (-1)])[j]? := by
    intro j hj
    rw [hW]
    exact (ownsRow_setCell_below hown (a := ⟨w1.heap.size + 1, 0, none⟩) (by simp; omega) _).cellAt j hj
  have e7 : W.cell? ⟨g, k, none⟩ = some (.int .i64 (-1)) := by
    rw [hrw k (by omega), List.getElem?_append_right (by simp [downTo_length])]
    simp [downTo_length]
  have e8 : Hid (∀ j, j < k → W.cell? ⟨g, j, none⟩ = some (.int .i64 ((k : Int) - 1 - j))) := Lib.hid (by
    intro j hj
    rw [hrw j (by omega), List.getElem?_append_left (by simpa [downTo_length] using hj), List.getElem?_map, downTo_get k j hj]
    rfl)
  have HBW : Hid (Below w.heap.size w W) := Lib.hid (by rw [hW]; exact HB4.out.setCell (by simp; omega) _)
  have c6 := cell_of_one t6
  have f6 := free_of_one t6
  clear hown hg hsl t1 t3 t5 t6 hrw hgs cv
  have HW := Lib.hid hW
  clear hW
  go_upto_region 7 with (fail)
  rw [← HW.out]
  clear c6 f6
  go_wp2_with fail
  go_loopw [46] (fun i wr => ∃ j : Nat, j ≤ k ∧ i = .int .i64 j ∧ ∃ n, wr = W.drewN n) (fun i _ => k - (intOf i).toNat)
  case atStart => exact ⟨0, Nat.zero_le _, rfl, 0, rfl⟩
  case round =>
    obtain ⟨j, hj, rfl, nd, rfl⟩ := hrel
    by_cases hlt : j < k
    · have e9 := e8.out j hlt
      have s1 : IntKind.i64.wrap ((k : Int) - 1) = (k : Int) - 1 := IntWalk.i64_in _ (by omega)
      have s2 : IntKind.i64.wrap ((k : Int) - 1 - j) = (k : Int) - 1 - j := IntWalk.i64_in _ (by omega)
      go_wp2
      go_quiet (fail)
      clear s1 s2
      go_wp2
      go_roundw
      case rel => exact ⟨j + 1, by omega, by go_num, _, rfl⟩
      case measure => simp [intOf]; omega
    · go_wp2
      go_ret
      exact ⟨rfl, below_drewN HBW.out _⟩

/-- GuardDeferred, whatever its numbers. -/
theorem guardDeferred_walk {W : World} (n : Int) (wn : (Lit.int .u8 n).wf = true) (op : Int) (_wm : (Lit.int .i64 op).wf = true) :
    Calls Try.prog 6 #[.int .u8 n, .int .i64 op] W fun e w' => e = .returned (.bool true) ∧ Below W.heap.size W w' := by
  refine deferred_walk n op W ?_
  have h := wn
  simp only [Lit.wf, Bool.and_eq_true, decide_eq_true_eq] at h
  have hmin : IntKind.u8.min = 0 := rfl
  have hmax : IntKind.u8.max = 255 := rfl
  omega

end Go.Proofs.Ytehlacbebahmdaa
