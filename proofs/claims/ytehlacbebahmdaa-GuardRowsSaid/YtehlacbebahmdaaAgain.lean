/- GuardAgain: its closure, and the law's walk. -/
import Derived.Test.YtehlacbebahmdaaAlive
import Derived.Test.YtehlacbebahmdaaSteps
import Derived.Deep.QuietTactic
import Derived.BigQuiet
namespace Go.Proofs.Ytehlacbebahmdaa
open Go.RowKit

/-- The steps of an argument: whatever is read of them. -/
def StepsAt (w : World) (a : Option Addr) (len : Nat) (K N : Nat → Int) : Prop :=
  len = 0 ∨ ∃ b off, a = some ⟨b, off, none⟩ ∧ b < w.heap.size ∧
    ∀ i, i < len → w.cell? ⟨b, off + i * 2, none⟩ = some (.int .i64 (K i)) ∧ w.cell? ⟨b, off + i * 2 + 1, none⟩ = some (.int .i64 (N i))

/-- The closure of GuardAgain at a step that loses the power. -/
theorem again_lost (c s : Nat) (x k n : Int) (w : World) (hc : w.heap[c]? = some (.cells #[.int .i64 x] 3 (0, 0))) (hs : w.heap[s]? = some (.cells #[.int .i64 k, .int .i64 n] 26 (0, 0))) (hne : c ≠ s)
    (h0 : 0 ≤ x) (h1 : x ≤ 1000) (hk : (k == 1) = true) :
    Calls Try.prog 11 #[.pointer (some ⟨c, 0, none⟩), .pointer (some ⟨s, 0, none⟩)] w fun e w' => e = lostAt n ∧ w' = w.setCell ⟨c, 0, none⟩ (.int .i64 (x + 1)) := by
  have cc := cell_of_one hc
  have fc := free_of_one hc
  have hs' : (w.setCell ⟨c, 0, none⟩ (.int .i64 (x + 1))).heap[s]? = some (.cells #[.int .i64 k, .int .i64 n] 26 (0, 0)) := (Below.heap_setCell _ _ _ _ (fun e => hne e.symm)).trans hs
  have s0 : (w.setCell ⟨c, 0, none⟩ (.int .i64 (x + 1))).cell? ⟨s, 0, none⟩ = some (.int .i64 k) := by simp [World.cell?, hs']
  have s1 : (w.setCell ⟨c, 0, none⟩ (.int .i64 (x + 1))).cell? ⟨s, 1, none⟩ = some (.int .i64 n) := by simp [World.cell?, hs']
  clear hc hs hs'
  go_enter Try.func11, Try.ntmps11
  go_wp2
  exact ⟨rfl, rfl, rfl⟩

/-- The closure of GuardAgain at any other step. -/
theorem again_ret (c s : Nat) (x k n : Int) (w : World) (hc : w.heap[c]? = some (.cells #[.int .i64 x] 3 (0, 0))) (hs : w.heap[s]? = some (.cells #[.int .i64 k, .int .i64 n] 26 (0, 0))) (hne : c ≠ s)
    (h0 : 0 ≤ x) (h1 : x ≤ 1000) (hk : (k == 1) = false) :
    Calls Try.prog 11 #[.pointer (some ⟨c, 0, none⟩), .pointer (some ⟨s, 0, none⟩)] w fun e w' => e = .returned (.tuple #[]) ∧ w' = w.setCell ⟨c, 0, none⟩ (.int .i64 (x + 1)) := by
  have cc := cell_of_one hc
  have fc := free_of_one hc
  have hs' : (w.setCell ⟨c, 0, none⟩ (.int .i64 (x + 1))).heap[s]? = some (.cells #[.int .i64 k, .int .i64 n] 26 (0, 0)) := (Below.heap_setCell _ _ _ _ (fun e => hne e.symm)).trans hs
  have s0 : (w.setCell ⟨c, 0, none⟩ (.int .i64 (x + 1))).cell? ⟨s, 0, none⟩ = some (.int .i64 k) := by simp [World.cell?, hs']
  have s1 : (w.setCell ⟨c, 0, none⟩ (.int .i64 (x + 1))).cell? ⟨s, 1, none⟩ = some (.int .i64 n) := by simp [World.cell?, hs']
  clear hc hs hs'
  go_enter Try.func11, Try.ntmps11
  go_wp2
  go_end0
  exact ⟨rfl, rfl⟩

/-- Of more than a hundred steps: the example's answer. -/
theorem again_long (a : Option Addr) (len cap : Nat) (w : World) (hlen : 100 < len) :
    Calls Try.prog 3 #[.slice a len cap] w fun e w' => e = .returned (.bool true) ∧ Below w.heap.size w w' := by
  go_enter Try.func3, Try.ntmps3
  go_wp2_with fail
  refine (alive_any _).mono ?_
  rintro e w1 ⟨rfl, h1⟩
  go_wp2_with fail
  refine (alive_any _).mono ?_
  rintro e w2 ⟨rfl, h2⟩
  go_wp2
  go_ret
  exact ⟨rfl, h1.trans (h2.mono h1.size)⟩

theorem info1 : (Try.prog.info? 1).map (fun i => (i.zero, i.size, i.bytes)) = some (some .nilFunc, 1, 8) := by kernel_rfl

/-- A function of a row that is made of steps: function f, with a counter's variable and a step's. -/
def fnOf (f c s : Nat) : Value := .func (.func f) #[] #[.pointer (some ⟨c, 0, none⟩), .pointer (some ⟨s, 0, none⟩)]

/-- The row so far: bs are the steps' variables. -/
structure Built (f c base : Nat) (K N : Nat → Int) (w0 : World) (bs : List Nat) (v : Value) (wr : World) : Prop where
  row : wr.ownsRow base 1 1 v bs.length (bs.map (fnOf f c))
  steps : ∀ j s, bs[j]? = some s → wr.heap[s]? = some (.cells #[.int .i64 (K j), .int .i64 (N j)] 26 (0, 0)) ∧ base ≤ s
  below : Below base w0 wr

theorem built_nil (f c base : Nat) (K N : Nat → Int) (w0 : World) : Built f c base K N w0 [] (.slice none 0 0) w0 :=
  ⟨World.ownsRow_nil _ _ _ _, fun j s h => by simp at h, Below.refl _ _⟩

theorem own_ne {base : Nat} {w : World} {v : Value} {n : Nat} {xs : List Value} {s : Nat} {cs : Array Value} {t : TypeId} (h : w.ownsRow base 1 1 v n xs) (hs : w.heap[s]? = some (.cells cs t (0, 0))) (ht : t ≠ 1) : some s ≠ v.ownBlock := by
  intro e
  obtain ⟨_, ⟨rfl, _⟩ | ⟨g, cap, cur, rfl, _, hg, _⟩⟩ := h
  · simp [Value.ownBlock] at e
  · simp only [Value.ownBlock, Option.some.injEq] at e
    subst e
    rw [hg] at hs
    simp at hs
    exact ht hs.2.symm

theorem built_step {f c base : Nat} {K N : Nat → Int} {w0 : World} {bs : List Nat} {v v' : Value} {wr w' : World} {o : Obj} (h : Built f c base K N w0 bs v wr) (hbase : base ≤ wr.heap.size)
    (hrow : w'.ownsRow base 1 1 v' (bs.length + 1) (bs.map (fnOf f c) ++ [fnOf f c wr.heap.size]))
    (hg : ((wr.alloc (.cells #[.int .i64 (K bs.length), .int .i64 (N bs.length)] 26)).alloc o).grownBy w' v.ownBlock) : Built f c base K N w0 (bs ++ [wr.heap.size]) v' w' := by
  have h2 : ∀ k, k < wr.heap.size → ((wr.alloc (.cells #[.int .i64 (K bs.length), .int .i64 (N bs.length)] 26)).alloc o).heap[k]? = wr.heap[k]? := fun k hk =>
    (Below.heap_alloc _ _ _ (by simp; omega)).trans (Below.heap_alloc _ _ _ hk)
  have h3 : ((wr.alloc (.cells #[.int .i64 (K bs.length), .int .i64 (N bs.length)] 26)).alloc o).heap[wr.heap.size]? = some (.cells #[.int .i64 (K bs.length), .int .i64 (N bs.length)] 26 (0, 0)) :=
    (Below.heap_alloc _ _ _ (by simp)).trans (heap_alloc_new _ _)
  refine ⟨by simpa using hrow, fun j s hj => ?_, ?_⟩
  · rw [List.getElem?_append] at hj
    by_cases hlt : j < bs.length
    · rw [if_pos hlt] at hj
      obtain ⟨h4, h5⟩ := h.steps j s hj
      have hs := lt_of_block h4
      exact ⟨(hg.block s (by simp; omega) (own_ne h.row h4 (by decide))).trans ((h2 s hs).trans h4), h5⟩
    · rw [if_neg hlt] at hj
      have hj0 : j = bs.length := by
        by_cases e : j - bs.length = 0
        · omega
        · simp [e] at hj
      subst hj0
      simp at hj
      subst hj
      refine ⟨(hg.block _ (by simp; omega) ?_).trans h3, hbase⟩
      intro e
      obtain ⟨_, ⟨rfl, _⟩ | ⟨g, cap, cur, rfl, _, hgg, _⟩⟩ := h.row
      · simp [Value.ownBlock] at e
      · have := lt_of_block hgg
        simp only [Value.ownBlock, Option.some.injEq] at e
        omega
  · refine h.below.trans ((((Below.refl base wr).alloc hbase _).alloc (by simp; omega) _).grown hg (by simp; omega) ?_)
    intro k hk
    exact (h.row.lt k hk).1

/-- At a step of GuardAgain's row: guard.Run of its function. -/
theorem again_run (c s : Nat) (B : Nat) (x k n : Int) (w : World) (hB : B ≤ w.heap.size) (hcB : c < B) (hc : w.heap[c]? = some (.cells #[.int .i64 x] 3 (0, 0))) (hs : w.heap[s]? = some (.cells #[.int .i64 k, .int .i64 n] 26 (0, 0)))
    (h0 : 0 ≤ x) (h1 : x ≤ 1000) :
    Calls Try.prog 18 #[fnOf 11 c s] w fun e w' => Above B w w' ∧ w.grownBy w' (some c) ∧ w'.heap[c]? = some (.cells #[.int .i64 (x + 1)] 3 (0, 0)) ∧
      ((k = 1 ∧ e = .returned (.tuple #[.agg #[.int .i64 n], .bool true])) ∨ (k ≠ 1 ∧ e = .returned (.tuple #[.agg #[.int .i64 0], .bool false]))) := by
  have hne : c ≠ s := by
    rintro rfl
    rw [hc] at hs
    simp at hs
  have hcw := lt_of_block hc
  have hc1 := (inRun_old w c hcw).trans hc
  have hs1 := (inRun_old w s (lt_of_block hs)).trans hs
  have fin : ∀ w', Below w.heap.size ((inRun w).setCell ⟨c, 0, none⟩ (.int .i64 (x + 1))) w' → w.grownBy w' (some c) ∧ w'.heap[c]? = some (.cells #[.int .i64 (x + 1)] 3 (0, 0)) := by
    intro w' hw
    have hb := below_inRun w
    refine ⟨⟨hw.os.trans hb.os, hw.tape.trans hb.tape, hw.output.trans hb.output, ?_, fun i hi hne => ?_⟩, (hw.block c hcw).trans (one_setCell hc1)⟩
    · have := hw.size
      have := hb.size
      simp [World.setCell] at *
      omega
    · exact (hw.block i hi).trans ((Below.heap_setCell _ _ _ _ (fun e => hne (by rw [e]))).trans (inRun_old w i hi))
  by_cases hk : k = 1
  · refine (run_lost B 11 _ n w hB (fun w1 => w1 = (inRun w).setCell ⟨c, 0, none⟩ (.int .i64 (x + 1))) (fun w => calls11 _ w)
      ((again_lost c s x k n _ hc1 hs1 hne h0 h1 (by simpa using hk)).mono ?_)).mono ?_
    · rintro e w1 ⟨rfl, rfl⟩
      exact ⟨rfl, rfl, above_setCell hcB _⟩
    · rintro e w' ⟨rfl, ha, w1, rfl, hw⟩
      obtain ⟨f1, f2⟩ := fin w' hw
      exact ⟨ha, f1, f2, .inl ⟨hk, rfl⟩⟩
  · refine (run_ret B 11 _ w hB (fun w1 => w1 = (inRun w).setCell ⟨c, 0, none⟩ (.int .i64 (x + 1))) (fun w => calls11 _ w)
      ((again_ret c s x k n _ hc1 hs1 hne h0 h1 (by simpa using hk)).mono ?_)).mono ?_
    · rintro e w1 ⟨rfl, rfl⟩
      exact ⟨rfl, rfl, above_setCell hcB _⟩
    · rintro e w' ⟨rfl, ha, w1, rfl, hw⟩
      obtain ⟨f1, f2⟩ := fin w' hw
      exact ⟨ha, f1, f2, .inr ⟨hk, rfl⟩⟩

theorem grown_below {w w1 w2 : World} {row : Option Nat} (h : w.grownBy w1 row) (hb : Below w.heap.size w1 w2) : w.grownBy w2 row :=
  ⟨hb.os.trans h.os, hb.tape.trans h.tape, hb.output.trans h.output, Nat.le_trans h.size hb.size, fun k hk hne => (hb.block k hk).trans (h.block k hk hne)⟩
theorem grown_grown {w w1 w2 : World} {row : Option Nat} (h : w.grownBy w1 row) (hb : w1.grownBy w2 row) : w.grownBy w2 row :=
  ⟨hb.os.trans h.os, hb.tape.trans h.tape, hb.output.trans h.output, Nat.le_trans h.size hb.size, fun k hk hne => (hb.block k (Nat.lt_of_lt_of_le hk h.size) hne).trans (h.block k hk hne)⟩

theorem grown_drewN {w w1 : World} {row : Option Nat} (h : w.grownBy w1 row) (n : Nat) : w.grownBy (w1.drewN n) row := ⟨h.os, h.tape, h.output, h.size, h.block⟩

/-- guard.Row of GuardAgain's functions. -/
theorem again_row (c g off len cap : Nat) (x : Int) (S : Nat → Nat) (K N : Nat → Int) (w : World) (hlen : len ≤ 100) (hcg : c ≠ g) (hc : w.heap[c]? = some (.cells #[.int .i64 x] 3 (0, 0))) (h0 : 0 ≤ x) (h1 : x ≤ 500)
    (hcell : ∀ j, j < len → w.cell? ⟨g, off + j, none⟩ = some (fnOf 11 c (S j)))
    (hstep : ∀ j, j < len → w.heap[S j]? = some (.cells #[.int .i64 (K j), .int .i64 (N j)] 26 (0, 0))) :
    Calls Try.prog 12 #[.slice (some ⟨g, off, none⟩) len cap] w fun e w' => w.grownBy w' (some c) ∧
      ((e = .returned (.tuple #[.int .i64 len, .agg #[.int .i64 0], .bool false]) ∧ w'.heap[c]? = some (.cells #[.int .i64 (x + len)] 3 (0, 0))) ∨
        ∃ j : Nat, j < len ∧ e = .returned (.tuple #[.int .i64 j, .agg #[.int .i64 (N j)], .bool true]) ∧ K j = 1 ∧ w'.heap[c]? = some (.cells #[.int .i64 (x + j + 1)] 3 (0, 0))) := by
  have hcw := lt_of_block hc
  have hSne : ∀ j, j < len → some (S j) ≠ some c := by
    intro j hj e
    simp only [Option.some.injEq] at e
    have h := hstep j hj
    rw [e, hc] at h
    simp at h
  have inv0 : w.grownBy w (some c) ∧ w.heap[c]? = some (.cells #[.int .i64 (x + (0 : Nat))] 3 (0, 0)) := ⟨⟨rfl, rfl, rfl, Nat.le_refl _, fun _ _ _ => rfl⟩, by simpa using hc⟩
  refine (row_any g off len cap (fun j => fnOf 11 c (S j)) w (fun j w1 => w.grownBy w1 (some c) ∧ w1.heap[c]? = some (.cells #[.int .i64 (x + j)] 3 (0, 0)))
    (fun j op w1 => w.grownBy w1 (some c) ∧ w1.heap[c]? = some (.cells #[.int .i64 (x + j + 1)] 3 (0, 0)) ∧ K j = 1 ∧ op = N j) (fun _ _ => False) (by omega) ?_ ?_ ?_ ?_ inv0).mono ?_
  · rintro j w1 hj ⟨hg, _⟩
    exact hg.cell (hcell j hj) (by simpa using fun e : g = c => hcg e.symm)
  · rintro j w1 w2 ⟨hg, hx⟩ hb
    exact ⟨grown_below hg hb, (hb.block c hcw).trans hx⟩
  · rintro j op w1 w2 ⟨hg, hx, hr⟩ hb
    exact ⟨grown_below hg hb, (hb.block c hcw).trans hx, hr⟩
  · rintro j w1 hj hsz ⟨hg, hx⟩
    have hs := hstep j hj
    refine (again_run c (S j) w.heap.size (x + j) (K j) (N j) w1 hsz hcw hx ((hg.block _ (lt_of_block hs) (hSne j hj)).trans hs) (by omega) (by omega)).mono ?_
    rintro e w2 ⟨ha, hg2, hx2, ⟨hk, rfl⟩ | ⟨hk, rfl⟩⟩
    · exact ⟨ha, .inr (.inl ⟨_, rfl, grown_grown hg hg2, hx2, hk, rfl⟩)⟩
    · exact ⟨ha, .inl ⟨rfl, grown_grown hg hg2, by rw [hx2]; simp [Int.add_assoc]⟩⟩
  · rintro e w' ⟨_, ⟨he, hg, hx⟩ | ⟨j, op, hj, he, hg, hx, hk, rfl⟩ | ⟨_, _, h⟩⟩
    · exact ⟨hg, .inl ⟨he, hx⟩⟩
    · exact ⟨hg, .inr ⟨j, hj, he, hk, hx⟩⟩
    · exact h.elim

set_option maxRecDepth 100000 in
set_option maxHeartbeats 1000000 in
theorem again_short (b off len cap : Nat) (K N : Nat → Int) (w : World) (hlen : len ≤ 100) (hb : b < w.heap.size)
    (hc : ∀ i, i < len → w.cell? ⟨b, off + i * 2, none⟩ = some (.int .i64 (K i)) ∧ w.cell? ⟨b, off + i * 2 + 1, none⟩ = some (.int .i64 (N i))) :
    Calls Try.prog 3 #[.slice (some ⟨b, off, none⟩) len cap] w fun e w' => e = .returned (.bool true) ∧ Below w.heap.size w w' := by
  have HC := Lib.hid hc
  clear hc
  obtain ⟨i0, hi, hz0, hz1, hz2⟩ := info_parts info1
  go_enter Try.func3, Try.ntmps3
  go_wp2_with fail
  refine (alive_any _).mono ?_
  rintro e w1 ⟨rfl, h1⟩
  have h1s := h1.size
  go_wp2_with fail
  go_loopw [4, 21] (fun v i wr => ∃ bs : List Nat, bs.length ≤ len ∧ i = .int .i64 bs.length ∧ Built 11 w1.heap.size (w1.heap.size + 1) K N (w1.alloc (.cells #[.int .i64 0] 3)) bs v wr) (fun _ i _ => len - (intOf i).toNat)
  case atStart => exact ⟨[], by simp, rfl, built_nil _ _ _ _ _ _⟩
  case round =>
    obtain ⟨bs, hbl, rfl, hB⟩ := hrel
    have hwr : w1.heap.size + 1 ≤ wr.heap.size := by have := hB.below.size; simpa using this
    have HB := Lib.hid hB
    clear hB
    by_cases hlt : bs.length < len
    · obtain ⟨g1, g2⟩ := HC.out _ hlt
      have g1 := (HB.out.below.cell (p := ⟨b, off + bs.length * 2, none⟩) (show b < _ by omega)).trans ((World.cell?_alloc_past _ _ _ (show b < _ by omega)).trans ((h1.cell (p := ⟨b, off + bs.length * 2, none⟩) hb).trans g1))
      have g2 := (HB.out.below.cell (p := ⟨b, off + bs.length * 2 + 1, none⟩) (show b < _ by omega)).trans ((World.cell?_alloc_past _ _ _ (show b < _ by omega)).trans ((h1.cell (p := ⟨b, off + bs.length * 2 + 1, none⟩) hb).trans g2))
      go_wp2_with (at_builtin; refine wpList_append_own _ rfl _ _ 24 rfl (w1.heap.size + 1) 1 i0 .nilFunc 1 8 Try.underlying24 hi hz0 hz1 hz2 rfl (by decide) _ _ _ rfl ((HB.out.row.alloc _).alloc _) ⟨wr.heap.size + 1, 0, none⟩ 1 1 [fnOf 11 w1.heap.size wr.heap.size] rfl rfl ?c1 ?c2 ?c3 ?c4 ?c5 ?_)
      case c1 =>
        intro j u hj
        rcases j with _ | j
        · simp at hj
          subst hj
          simp [fnOf, Addr.add]
        · simp at hj
      case c2 => simp [fnOf, Value.oneCell']
      case c3 => unfold maxLen; omega
      case c4 => omega
      case c5 => simp; omega
      intro v' w2 hown' hgrow _
      have HB2 := Lib.hid (built_step HB.out hwr hown' hgrow)
      clear hown' hgrow HB g1 g2
      go_wp2
      go_roundw
      case rel => exact ⟨bs ++ [wr.heap.size], by simp; omega, by simp, HB2.out⟩
      case measure => simp [intOf]; omega
    · have hbl2 : bs.length = len := by omega
      obtain ⟨hrl, hrow⟩ := HB.out.row
      rcases hrow with ⟨rfl, h00⟩ | ⟨g, gcap, cur, rfl, hgb, hg, hgc, hgm, hgs, hgt⟩
      · have hl0 : len = 0 := by omega
        have hcc : wr.cell? ⟨w1.heap.size, 0, none⟩ = some (.int .i64 0) :=
          cell_of_one ((HB.out.below.block _ (by simp)).trans (heap_alloc_new _ _))
        have hbw := Lib.hid HB.out.below
        clear hrl h00 hbl2
        subst hl0
        have hb0 : bs.length = 0 := by omega
        go_wp2_with fail
        refine wp_loop_rounds 1 ?_
        rw [rounds_succ]
        go_wp2
        go_ret
        exact ⟨rfl, h1.trans ((((Below.refl _ _).alloc (Nat.le_refl _) _).trans (hbw.out.mono (by omega))).mono h1s)⟩
      · have hcw : wr.heap[w1.heap.size]? = some (.cells #[.int .i64 0] 3 (0, 0)) := (HB.out.below.block _ (by simp)).trans (heap_alloc_new _ _)
        have hgcell : ∀ j s, bs[j]? = some s → wr.cell? ⟨g, j, none⟩ = some (fnOf 11 w1.heap.size s) := by
          intro j s hj
          have hjl : j < bs.length := (List.getElem?_eq_some_iff.1 hj).1
          have e : (cur.toList.take (bs.length * 1))[j]? = some (fnOf 11 w1.heap.size s) := by rw [hgt, List.getElem?_map, hj]; rfl
          rw [List.getElem?_take] at e
          simp only [Nat.mul_one, hjl, if_true, Array.getElem?_toList] at e
          simp [World.cell?, hg, e]
        have HG := Lib.hid hgcell
        have HCW := Lib.hid hcw
        have hbw := Lib.hid HB.out.below
        have HST := Lib.hid HB.out.steps
        clear hg hgt hgs hrl hgcell hcw HB
        rw [hbl2]
        have HBL := Lib.hid hbl2
        have hbl3 : len ≤ bs.length := by omega
        clear hbl2
        obtain ⟨wo, hwo⟩ : ∃ wo : World, wo = wr := ⟨_, rfl⟩
        subst hwo
        go_wp2_with fail
        go_loopw [7] (fun i wt => ∃ a : Nat, i = .int .i64 a ∧ wo.grownBy wt (some w1.heap.size) ∧ ((a ≤ len ∧ wt.heap[w1.heap.size]? = some (.cells #[.int .i64 a] 3 (0, 0))) ∨ (a = len + 1 ∧ wt.heap[w1.heap.size]? = some (.cells #[.int .i64 len] 3 (0, 0))))) (fun i _ => len + 1 - (intOf i).toNat)
        case atStart => exact ⟨0, rfl, ⟨rfl, rfl, rfl, Nat.le_refl _, fun _ _ _ => rfl⟩, .inl ⟨by omega, HCW.out⟩⟩
        case round =>
          obtain ⟨at0, rfl, hgw, hat⟩ := hrel
          have HGW := Lib.hid hgw
          have HAT := Lib.hid hat
          have hle : at0 ≤ len + 1 := by rcases hat with h | h <;> omega
          clear hgw hat
          by_cases halt : at0 < len
          · have hcx : wr.heap[w1.heap.size]? = some (.cells #[.int .i64 at0] 3 (0, 0)) := by
              rcases HAT.out with h | h
              · exact h.2
              · omega
            have hstep : ∀ j, j < len - at0 → wr.heap[bs.getD (at0 + j) 0]? = some (.cells #[.int .i64 (K (at0 + j)), .int .i64 (N (at0 + j))] 26 (0, 0)) := by
              intro j hj
              have e : bs[at0 + j]? = some (bs.getD (at0 + j) 0) := by
                rw [List.getD_eq_getElem?_getD, List.getElem?_eq_getElem (by omega)]; rfl
              obtain ⟨h4, h5⟩ := HST.out _ _ e
              exact (HGW.out.block _ (lt_of_block h4) (by simp only [ne_eq, Option.some.injEq]; omega)).trans h4
            have hcell : ∀ j, j < len - at0 → wr.cell? ⟨g, at0 + j, none⟩ = some (fnOf 11 w1.heap.size (bs.getD (at0 + j) 0)) := by
              intro j hj
              have e : bs[at0 + j]? = some (bs.getD (at0 + j) 0) := by
                rw [List.getD_eq_getElem?_getD, List.getElem?_eq_getElem (by omega)]; rfl
              exact HGW.out.cell (HG.out _ _ e) (by simp only [ne_eq, Option.some.injEq]; omega)
            have HR := Lib.hid (again_row w1.heap.size g at0 (len - at0) (gcap - at0) at0 (fun j => bs.getD (at0 + j) 0) (fun j => K (at0 + j)) (fun j => N (at0 + j)) wr (by omega) (by omega) hcx (by omega) (by omega) hcell hstep)
            clear hcx hstep hcell
            go_wp2_with fail
            refine HR.out.mono ?_
            rintro e w2 ⟨hg2, hcase⟩
            have hwo2 := (grown_grown HGW.out hg2)
            have HG2 := Lib.hid hwo2
            have HCS := Lib.hid hcase
            have h2s := hwo2.size
            clear hg2 hwo2 hcase HR
            rcases HCS.out with ⟨he, hx⟩ | ⟨j, hj, he, hk, hx⟩
            · subst he
              have HX := Lib.hid hx
              clear hx HCS
              have e1 : ((len - at0 : Nat) : Int) = (len : Int) - at0 := by omega
              rw [e1]
              clear e1
              have d1 : decide ((len : Int) - at0 < 0) = false := by simp; omega
              go_wp2
              go_quiet (fail)
              go_wp2
              go_roundw
              case rel => exact ⟨len + 1, by go_num, grown_drewN (grown_below HG2.out ((Below.refl _ _).alloc h2s _)) _, .inr ⟨rfl, (Below.heap_alloc _ _ _ (lt_of_block HX.out)).trans (HX.out.trans (by rw [show (at0 : Int) + ((len - at0 : Nat) : Int) = len by omega]))⟩⟩
              case measure => simp [intOf]; omega
            · subst he
              have HX := Lib.hid hx
              have HK := Lib.hid hk
              obtain ⟨g1, g2⟩ := HC.out (at0 + j) (by omega)
              have up : ∀ o : Nat, w2.cell? ⟨b, o, none⟩ = w.cell? ⟨b, o, none⟩ := fun o =>
                (World.cell?_of_block (HG2.out.block b (by have := hbw.out.size; simp at this; omega) (by simp only [ne_eq, Option.some.injEq]; omega))).trans
                  ((hbw.out.cell (show b < _ by omega)).trans ((World.cell?_alloc_past _ _ _ (show b < _ by omega)).trans (h1.cell (p := ⟨b, o, none⟩) hb)))
              have hbw2 : b < w2.heap.size := by have := hbw.out.size; simp at this; omega
              have k1 := (World.cell?_alloc_past (w := w2) (.cells #[.int .i64 (N (at0 + j))] 28) b (off + (at0 + j) * 2) hbw2).trans ((up (off + (at0 + j) * 2)).trans g1)
              have k2 := (World.cell?_alloc_past (w := w2) (.cells #[.int .i64 (N (at0 + j))] 28) b (off + (at0 + j) * 2 + 1) hbw2).trans ((up (off + (at0 + j) * 2 + 1)).trans g2)
              have d1 : decide ((len : Int) - at0 < j) = false := by simp; omega
              have d2 : decide ((j : Int) < len - at0) = true := by simp; omega
              have d3 : (K (at0 + j) != 1) = false := by simp [HK.out]
              clear hx HCS hk g1 g2 up
              go_wp2
              have s1 : IntKind.i64.wrap ((len : Int) - at0) = (len : Int) - at0 := IntWalk.i64_in _ (by omega)
              have s2 : IntKind.i64.wrap ((at0 : Int) + j) = (at0 : Int) + j := IntWalk.i64_in _ (by omega)
              have s3 : ((at0 : Int) + j).toNat = at0 + j := by omega
              have s4 : 0 ≤ (at0 : Int) + j := by omega
              have s5 : (at0 : Int) + j < len := by omega
              go_quiet (fail)
              clear s1 s2 s3
              go_wp2
              go_roundw
              case rel => exact ⟨at0 + j + 1, by go_num, grown_drewN (grown_below HG2.out ((Below.refl _ _).alloc h2s _)) _, .inl ⟨by omega, (Below.heap_alloc _ _ _ (lt_of_block HX.out)).trans (HX.out.trans (by rw [show ((at0 + j + 1 : Nat) : Int) = (at0 : Int) + j + 1 by omega]))⟩⟩
              case measure => simp [intOf]; omega
          · have hcx : wr.cell? ⟨w1.heap.size, 0, none⟩ = some (.int .i64 len) := by
              refine cell_of_one (t := 3) ?_
              rcases HAT.out with h | h
              · have e : at0 = len := by omega
                rw [← e]
                exact h.2
              · exact h.2
            go_wp2
            go_ret
            refine ⟨rfl, h1.trans (Below.mono (B := w1.heap.size) ?_ h1s)⟩
            have hb2 : Below w1.heap.size w1 wo := ((Below.refl _ _).alloc (Nat.le_refl _) _).trans (hbw.out.mono (by omega))
            exact hb2.grown HGW.out (by omega) (by simp)

set_option maxRecDepth 100000 in
set_option maxHeartbeats 1000000 in
theorem again_zero (a : Option Addr) (cap : Nat) (w : World) :
    Calls Try.prog 3 #[.slice a 0 cap] w fun e w' => e = .returned (.bool true) ∧ Below w.heap.size w w' := by
  go_enter Try.func3, Try.ntmps3
  go_wp2_with fail
  refine (alive_any _).mono ?_
  rintro e w1 ⟨rfl, h1⟩
  have h1s := h1.size
  go_wp2_with fail
  refine wp_loop_rounds 1 ?_
  rw [rounds_succ]
  go_wp2
  refine wp_loop_rounds 1 ?_
  rw [rounds_succ]
  go_wp2
  go_ret
  exact ⟨rfl, h1.alloc h1s _⟩

/-- GuardAgain, whatever its steps. -/
theorem guardAgain_walk {H : Type} {enc : TypeId × Value → H} {W : World} {d : DataW H} {p : List MemPlace} (a : Option Addr) (len cap : Nat)
    (h : DataW.Trod enc Try.prog W 0 (fun _ => true) true 22 (.slice a len cap) d p) :
    Calls Try.prog 3 #[.slice a len cap] W fun e w' => e = .returned (.bool true) ∧ Below W.heap.size W w' := by
  by_cases hlen : 100 < len
  · exact again_long a len cap W hlen
  · rcases steps_open h with rfl | ⟨b, off, K, N, rfl, hb, hc⟩
    · exact again_zero a cap W
    · exact again_short b off len cap K N W (by omega) hb (fun i hi => ⟨(hc i hi).1, (hc i hi).2.1⟩)

end Go.Proofs.Ytehlacbebahmdaa
