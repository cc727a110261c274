/- GuardRows: its closure, the document's answer for a row, and the law's walk. -/
import Derived.Test.YtehlacbebahmdaaAgain
namespace Go.Proofs.Ytehlacbebahmdaa
open Go.RowKit

/-- What the first k steps add. -/
def sumTo (N : Nat → Int) : Nat → Int
  | 0 => 0
  | k + 1 => sumTo N k + (N k).tmod 1000

theorem tmod_bd (n : Int) : -1000 < n.tmod 1000 ∧ n.tmod 1000 < 1000 := by
  constructor
  · exact Int.neg_lt_of_neg_lt (by have := Int.tmod_lt_of_pos (-n) (show (0 : Int) < 1000 by decide); rw [Int.neg_tmod] at this; exact this)
  · exact Int.tmod_lt_of_pos n (by decide)

theorem sumTo_bd (N : Nat → Int) (k : Nat) : -1000 * (k : Int) ≤ sumTo N k ∧ sumTo N k ≤ 1000 * (k : Int) := by
  induction k with
  | zero => simp [sumTo]
  | succ k ih =>
    have := tmod_bd (N k)
    simp only [sumTo]
    omega

/-- The closure of GuardRows at a step that loses the power. -/
theorem rows_lost (c s : Nat) (x k n : Int) (w : World) (hc : w.heap[c]? = some (.cells #[.int .i64 x] 3 (0, 0))) (hs : w.heap[s]? = some (.cells #[.int .i64 k, .int .i64 n] 26 (0, 0))) (hne : c ≠ s)
    (h0 : -1000000 ≤ x) (h1 : x ≤ 1000000) (hk : (k == 1) = true) :
    Calls Try.prog 13 #[.pointer (some ⟨c, 0, none⟩), .pointer (some ⟨s, 0, none⟩)] w fun e w' => e = lostAt n ∧ w' = w.setCell ⟨c, 0, none⟩ (.int .i64 (x + n.tmod 1000)) := by
  have cc := cell_of_one hc
  have fc := free_of_one hc
  have hs' : (w.setCell ⟨c, 0, none⟩ (.int .i64 (x + n.tmod 1000))).heap[s]? = some (.cells #[.int .i64 k, .int .i64 n] 26 (0, 0)) := (Below.heap_setCell _ _ _ _ (fun e => hne e.symm)).trans hs
  have s0 : (w.setCell ⟨c, 0, none⟩ (.int .i64 (x + n.tmod 1000))).cell? ⟨s, 0, none⟩ = some (.int .i64 k) := by simp [World.cell?, hs']
  have s1 : (w.setCell ⟨c, 0, none⟩ (.int .i64 (x + n.tmod 1000))).cell? ⟨s, 1, none⟩ = some (.int .i64 n) := by simp [World.cell?, hs']
  have s2 : w.cell? ⟨s, 1, none⟩ = some (.int .i64 n) := by simp [World.cell?, hs]
  obtain ⟨b1, b2⟩ := tmod_bd n
  clear hc hs hs'
  go_enter Try.func13, Try.ntmps13
  go_wp2_with fail
  refine (lose_any _ _).mono ?_
  rintro e w' ⟨rfl, rfl⟩
  go_wp2
  exact ⟨rfl, rfl, rfl⟩

/-- The closure of GuardRows at any other step. -/
theorem rows_ret (c s : Nat) (x k n : Int) (w : World) (hc : w.heap[c]? = some (.cells #[.int .i64 x] 3 (0, 0))) (hs : w.heap[s]? = some (.cells #[.int .i64 k, .int .i64 n] 26 (0, 0))) (hne : c ≠ s)
    (h0 : -1000000 ≤ x) (h1 : x ≤ 1000000) (hk : (k == 1) = false) :
    Calls Try.prog 13 #[.pointer (some ⟨c, 0, none⟩), .pointer (some ⟨s, 0, none⟩)] w fun e w' => e = .returned (.tuple #[]) ∧ w' = w.setCell ⟨c, 0, none⟩ (.int .i64 (x + n.tmod 1000)) := by
  have cc := cell_of_one hc
  have fc := free_of_one hc
  have hs' : (w.setCell ⟨c, 0, none⟩ (.int .i64 (x + n.tmod 1000))).heap[s]? = some (.cells #[.int .i64 k, .int .i64 n] 26 (0, 0)) := (Below.heap_setCell _ _ _ _ (fun e => hne e.symm)).trans hs
  have s0 : (w.setCell ⟨c, 0, none⟩ (.int .i64 (x + n.tmod 1000))).cell? ⟨s, 0, none⟩ = some (.int .i64 k) := by simp [World.cell?, hs']
  have s2 : w.cell? ⟨s, 1, none⟩ = some (.int .i64 n) := by simp [World.cell?, hs]
  obtain ⟨b1, b2⟩ := tmod_bd n
  clear hc hs hs'
  go_enter Try.func13, Try.ntmps13
  go_wp2
  go_end0
  exact ⟨rfl, rfl⟩

/-- The document's answer. -/
def RefTold (len : Nat) (K N : Nat → Int) (w : World) (e : Ending) (w' : World) : Prop :=
  Below w.heap.size w w' ∧ ((∃ j : Nat, j < len ∧ K j = 1 ∧ (∀ t, t < j → K t ≠ 1) ∧ e = .returned (.tuple #[.int .i64 j, .int .i64 (N j), .bool true, .int .i64 (sumTo N (j + 1))])) ∨
    ((∀ t, t < len → K t ≠ 1) ∧ e = .returned (.tuple #[.int .i64 len, .int .i64 0, .bool false, .int .i64 (sumTo N len)])))

theorem results_tmp4 {fn : Func} {t u v x : Tmp} (h : fn.results = #[.tmp t, .tmp u, .tmp v, .tmp x]) (tmps : Array Value) (P : Program) (w : World) :
    (results fn tmps).run P w = .ok (.tuple #[tmps.getD t undef, tmps.getD u undef, tmps.getD v undef, tmps.getD x undef]) w := by simp [results, h]

set_option maxHeartbeats 1000000 in
theorem ref_row (b off len cap : Nat) (K N : Nat → Int) (w : World) (hlen : len ≤ 300)
    (hc : ∀ i, i < len → w.cell? ⟨b, off + i * 2, none⟩ = some (.int .i64 (K i)) ∧ w.cell? ⟨b, off + i * 2 + 1, none⟩ = some (.int .i64 (N i))) :
    Calls Try.prog 15 #[.slice (some ⟨b, off, none⟩) len cap] w (RefTold len K N w) := by
  have HC := Lib.hid hc
  clear hc
  go_enter Try.func15, Try.ntmps15
  go_wp2
  go_loop [6, 7] (fun s i => ∃ k : Nat, k ≤ len ∧ i = .int .i64 k ∧ s = .int .i64 (sumTo N k) ∧ Hid (∀ t, t < k → K t ≠ 1)) (fun _ i => len - (intOf i).toNat)
  case atStart => exact ⟨0, Nat.zero_le _, rfl, rfl, Lib.hid (fun t ht => by omega)⟩
  case round =>
    obtain ⟨k, hk, rfl, rfl, hno⟩ := hrel
    obtain ⟨s1, s2⟩ := sumTo_bd N k
    obtain ⟨m1, m2⟩ := tmod_bd (N k)
    by_cases hlt : k < len
    · obtain ⟨g1, g2⟩ := HC.out k hlt
      by_cases hk1 : K k = 1
      · have t1 : (K k == 1) = true := by simpa using hk1
        have HK := Lib.hid hk1
        clear hk1
        go_wp2
        go_region
        go_wp2
        refine bodyPost_ret (results_tmp4 rfl _ _ _) rfl ?_
        exact ⟨(Below.refl _ _).drew, .inl ⟨k, hlt, HK.out, hno.out, rfl⟩⟩
      · have t1 : (K k == 1) = false := by simpa using hk1
        have HK := Lib.hid hk1
        clear hk1
        go_wp2
        go_round
        case rel =>
          refine ⟨k + 1, by omega, by go_num, rfl, Lib.hid (fun t ht => ?_)⟩
          by_cases e : t = k
          · subst e; exact HK.out
          · exact hno.out t (by omega)
        case measure => simp [intOf]; omega
    · have : k = len := by omega
      subst this
      go_wp2
      refine bodyPost_ret (results_tmp4 rfl _ _ _) rfl ?_
      exact ⟨Below.refl _ _, .inr ⟨hno.out, rfl⟩⟩

/-- At a step of GuardRows' row: guard.Run of its function. -/
theorem rows_run (c s : Nat) (B : Nat) (x k n : Int) (w : World) (hB : B ≤ w.heap.size) (hcB : c < B) (hc : w.heap[c]? = some (.cells #[.int .i64 x] 3 (0, 0))) (hs : w.heap[s]? = some (.cells #[.int .i64 k, .int .i64 n] 26 (0, 0)))
    (h0 : -1000000 ≤ x) (h1 : x ≤ 1000000) :
    Calls Try.prog 18 #[fnOf 13 c s] w fun e w' => Above B w w' ∧ w.grownBy w' (some c) ∧ w'.heap[c]? = some (.cells #[.int .i64 (x + n.tmod 1000)] 3 (0, 0)) ∧
      ((k = 1 ∧ e = .returned (.tuple #[.agg #[.int .i64 n], .bool true])) ∨ (k ≠ 1 ∧ e = .returned (.tuple #[.agg #[.int .i64 0], .bool false]))) := by
  have hne : c ≠ s := by
    rintro rfl
    rw [hc] at hs
    simp at hs
  have hcw := lt_of_block hc
  have hc1 := (inRun_old w c hcw).trans hc
  have hs1 := (inRun_old w s (lt_of_block hs)).trans hs
  have fin : ∀ w', Below w.heap.size ((inRun w).setCell ⟨c, 0, none⟩ (.int .i64 (x + n.tmod 1000))) w' → w.grownBy w' (some c) ∧ w'.heap[c]? = some (.cells #[.int .i64 (x + n.tmod 1000)] 3 (0, 0)) := by
    intro w' hw
    have hb := below_inRun w
    refine ⟨⟨hw.os.trans hb.os, hw.tape.trans hb.tape, hw.output.trans hb.output, ?_, fun i hi hne => ?_⟩, (hw.block c hcw).trans (one_setCell hc1)⟩
    · have := hw.size
      have := hb.size
      simp [World.setCell] at *
      omega
    · exact (hw.block i hi).trans ((Below.heap_setCell _ _ _ _ (fun e => hne (by rw [e]))).trans (inRun_old w i hi))
  by_cases hk : k = 1
  · refine (run_lost B 13 _ n w hB (fun w1 => w1 = (inRun w).setCell ⟨c, 0, none⟩ (.int .i64 (x + n.tmod 1000))) (fun w => calls13 _ w)
      ((rows_lost c s x k n _ hc1 hs1 hne h0 h1 (by simpa using hk)).mono ?_)).mono ?_
    · rintro e w1 ⟨rfl, rfl⟩
      exact ⟨rfl, rfl, above_setCell hcB _⟩
    · rintro e w' ⟨rfl, ha, w1, rfl, hw⟩
      obtain ⟨f1, f2⟩ := fin w' hw
      exact ⟨ha, f1, f2, .inl ⟨hk, rfl⟩⟩
  · refine (run_ret B 13 _ w hB (fun w1 => w1 = (inRun w).setCell ⟨c, 0, none⟩ (.int .i64 (x + n.tmod 1000))) (fun w => calls13 _ w)
      ((rows_ret c s x k n _ hc1 hs1 hne h0 h1 (by simpa using hk)).mono ?_)).mono ?_
    · rintro e w1 ⟨rfl, rfl⟩
      exact ⟨rfl, rfl, above_setCell hcB _⟩
    · rintro e w' ⟨rfl, ha, w1, rfl, hw⟩
      obtain ⟨f1, f2⟩ := fin w' hw
      exact ⟨ha, f1, f2, .inr ⟨hk, rfl⟩⟩

/-- guard.Row of GuardRows' functions. -/
theorem rows_row (c g len cap : Nat) (S : Nat → Nat) (K N : Nat → Int) (w : World) (hlen : len ≤ 300) (hcg : c ≠ g) (hc : w.heap[c]? = some (.cells #[.int .i64 0] 3 (0, 0)))
    (hcell : ∀ j, j < len → w.cell? ⟨g, 0 + j, none⟩ = some (fnOf 13 c (S j)))
    (hstep : ∀ j, j < len → w.heap[S j]? = some (.cells #[.int .i64 (K j), .int .i64 (N j)] 26 (0, 0))) :
    Calls Try.prog 12 #[.slice (some ⟨g, 0, none⟩) len cap] w fun e w' => w.grownBy w' (some c) ∧
      ((e = .returned (.tuple #[.int .i64 len, .agg #[.int .i64 0], .bool false]) ∧ w'.heap[c]? = some (.cells #[.int .i64 (sumTo N len)] 3 (0, 0)) ∧ ∀ t, t < len → K t ≠ 1) ∨
        ∃ j : Nat, j < len ∧ e = .returned (.tuple #[.int .i64 j, .agg #[.int .i64 (N j)], .bool true]) ∧ K j = 1 ∧ w'.heap[c]? = some (.cells #[.int .i64 (sumTo N (j + 1))] 3 (0, 0)) ∧ ∀ t, t < j → K t ≠ 1) := by
  have hcw := lt_of_block hc
  have hSne : ∀ j, j < len → some (S j) ≠ some c := by
    intro j hj e
    simp only [Option.some.injEq] at e
    have h := hstep j hj
    rw [e, hc] at h
    simp at h
  have inv0 : w.grownBy w (some c) ∧ w.heap[c]? = some (.cells #[.int .i64 (sumTo N 0)] 3 (0, 0)) ∧ ∀ t, t < 0 → K t ≠ 1 := ⟨⟨rfl, rfl, rfl, Nat.le_refl _, fun _ _ _ => rfl⟩, hc, fun t ht => by omega⟩
  refine (row_any g 0 len cap (fun j => fnOf 13 c (S j)) w (fun j w1 => w.grownBy w1 (some c) ∧ w1.heap[c]? = some (.cells #[.int .i64 (sumTo N j)] 3 (0, 0)) ∧ ∀ t, t < j → K t ≠ 1)
    (fun j op w1 => w.grownBy w1 (some c) ∧ w1.heap[c]? = some (.cells #[.int .i64 (sumTo N (j + 1))] 3 (0, 0)) ∧ K j = 1 ∧ op = N j ∧ ∀ t, t < j → K t ≠ 1) (fun _ _ => False) (by omega) ?_ ?_ ?_ ?_ inv0).mono ?_
  · rintro j w1 hj ⟨hg, _⟩
    exact hg.cell (hcell j hj) (by simpa using fun e : g = c => hcg e.symm)
  · rintro j w1 w2 ⟨hg, hx, hr⟩ hb
    exact ⟨grown_below hg hb, (hb.block c hcw).trans hx, hr⟩
  · rintro j op w1 w2 ⟨hg, hx, hr⟩ hb
    exact ⟨grown_below hg hb, (hb.block c hcw).trans hx, hr⟩
  · rintro j w1 hj hsz ⟨hg, hx, hno⟩
    have hs := hstep j hj
    have := sumTo_bd N j
    refine (rows_run c (S j) w.heap.size (sumTo N j) (K j) (N j) w1 hsz hcw hx ((hg.block _ (lt_of_block hs) (hSne j hj)).trans hs) (by omega) (by omega)).mono ?_
    rintro e w2 ⟨ha, hg2, hx2, ⟨hk, rfl⟩ | ⟨hk, rfl⟩⟩
    · exact ⟨ha, .inr (.inl ⟨_, rfl, grown_grown hg hg2, hx2, hk, rfl, hno⟩)⟩
    · refine ⟨ha, .inl ⟨rfl, grown_grown hg hg2, hx2, fun t ht => ?_⟩⟩
      by_cases e : t = j
      · subst e; exact hk
      · exact hno t (by omega)
  · rintro e w' ⟨_, ⟨he, hg, hx, hno⟩ | ⟨j, op, hj, he, hg, hx, hk, rfl, hno⟩ | ⟨_, _, h⟩⟩
    · exact ⟨hg, .inl ⟨he, hx, hno⟩⟩
    · exact ⟨hg, .inr ⟨j, hj, he, hk, hx, hno⟩⟩
    · exact h.elim

/-- Of more than three hundred steps: the example's answer. -/
theorem rows_long (a : Option Addr) (len cap : Nat) (w : World) (hlen : 300 < len) :
    Calls Try.prog 4 #[.slice a len cap] w fun e w' => e = .returned (.bool true) ∧ Below w.heap.size w w' := by
  go_enter Try.func4, Try.ntmps4
  go_wp2_with fail
  refine (alive_any _).mono ?_
  rintro e w1 ⟨rfl, h1⟩
  go_wp2_with fail
  refine (alive_any _).mono ?_
  rintro e w2 ⟨rfl, h2⟩
  go_wp2
  go_ret
  exact ⟨rfl, h1.trans (h2.mono h1.size)⟩

set_option maxRecDepth 100000 in
set_option maxHeartbeats 1000000 in
theorem rows_short (b off len cap : Nat) (K N : Nat → Int) (w : World) (hlen : len ≤ 300) (hpos : 0 < len) (hb : b < w.heap.size)
    (hc : ∀ i, i < len → w.cell? ⟨b, off + i * 2, none⟩ = some (.int .i64 (K i)) ∧ w.cell? ⟨b, off + i * 2 + 1, none⟩ = some (.int .i64 (N i))) :
    Calls Try.prog 4 #[.slice (some ⟨b, off, none⟩) len cap] w fun e w' => e = .returned (.bool true) ∧ Below w.heap.size w w' := by
  have HC := Lib.hid hc
  clear hc
  obtain ⟨i0, hi, hz0, hz1, hz2⟩ := info_parts info1
  go_enter Try.func4, Try.ntmps4
  go_wp2_with fail
  refine (alive_any _).mono ?_
  rintro e w1 ⟨rfl, h1⟩
  have h1s := h1.size
  go_wp2_with fail
  go_loopw [4, 24] (fun v i wr => ∃ bs : List Nat, bs.length ≤ len ∧ i = .int .i64 bs.length ∧ Built 13 w1.heap.size (w1.heap.size + 1) K N (w1.alloc (.cells #[.int .i64 0] 3)) bs v wr) (fun _ i _ => len - (intOf i).toNat)
  case atStart => exact ⟨[], by simp, rfl, built_nil _ _ _ _ _ _⟩
  case round =>
    obtain ⟨bs, hbl, rfl, hB⟩ := hrel
    have hwr : w1.heap.size + 1 ≤ wr.heap.size := by have := hB.below.size; simpa using this
    have HB := Lib.hid hB
    clear hB
    by_cases hlt : bs.length < len
    · obtain ⟨g1, g2⟩ := HC.out _ hlt
      have g1 := (HB.out.below.cell (p := ⟨b, off + bs.length * 2, none⟩) (show b < _ by omega)).trans ((World.cell?_alloc_past _ _ _ (show b < _ by omega)).trans ((h1.cell (p := ⟨b, off + bs.length * 2, none⟩) hb).trans g1))
      have g2 := (HB.out.below.cell (p := ⟨b, off + bs.length * 2 + 1, none⟩) (show b < _ by omega)).trans ((World.cell?_alloc_past _ _ _ (show b < _ by omega)).trans ((h1.cell (p := ⟨b, off + bs.length * 2 + 1, none⟩) hb).trans g2))
      go_wp2_with (at_builtin; refine wpList_append_own _ rfl _ _ 24 rfl (w1.heap.size + 1) 1 i0 .nilFunc 1 8 Try.underlying24 hi hz0 hz1 hz2 rfl (by decide) _ _ _ rfl ((HB.out.row.alloc _).alloc _) ⟨wr.heap.size + 1, 0, none⟩ 1 1 [fnOf 13 w1.heap.size wr.heap.size] rfl rfl ?c1 ?c2 ?c3 ?c4 ?c5 ?_)
      case c1 =>
        intro j u hj
        rcases j with _ | j
        · simp at hj
          subst hj
          simp [fnOf, Addr.add]
        · simp at hj
      case c2 => simp [fnOf, Value.oneCell']
      case c3 => unfold maxLen; omega
      case c4 => omega
      case c5 => simp; omega
      intro v' w2 hown' hgrow _
      have HB2 := Lib.hid (built_step HB.out hwr hown' hgrow)
      clear hown' hgrow HB g1 g2
      go_wp2
      go_roundw
      case rel => exact ⟨bs ++ [wr.heap.size], by simp; omega, by simp, HB2.out⟩
      case measure => simp [intOf]; omega
    · have hbl2 : bs.length = len := by omega
      obtain ⟨hrl, hrow⟩ := HB.out.row
      rcases hrow with ⟨rfl, h00⟩ | ⟨g, gcap, cur, rfl, hgb, hg, hgc, hgm, hgs, hgt⟩
      · omega
      · have hcw : wr.heap[w1.heap.size]? = some (.cells #[.int .i64 0] 3 (0, 0)) := (HB.out.below.block _ (by simp)).trans (heap_alloc_new _ _)
        have hgcell : ∀ j, j < len → wr.cell? ⟨g, 0 + j, none⟩ = some (fnOf 13 w1.heap.size (bs.getD j 0)) := by
          intro j hj
          have hj0 : bs[j]? = some (bs.getD j 0) := by
            rw [List.getD_eq_getElem?_getD, List.getElem?_eq_getElem (by omega)]; rfl
          have e : (cur.toList.take (bs.length * 1))[j]? = some (fnOf 13 w1.heap.size (bs.getD j 0)) := by rw [hgt, List.getElem?_map, hj0]; rfl
          rw [List.getElem?_take] at e
          simp only [Nat.mul_one, hbl2, hj, if_true, Array.getElem?_toList] at e
          simp [World.cell?, hg, e]
        have hstep : ∀ j, j < len → wr.heap[bs.getD j 0]? = some (.cells #[.int .i64 (K j), .int .i64 (N j)] 26 (0, 0)) := by
          intro j hj
          have hj0 : bs[j]? = some (bs.getD j 0) := by
            rw [List.getD_eq_getElem?_getD, List.getElem?_eq_getElem (by omega)]; rfl
          exact (HB.out.steps _ _ hj0).1
        have HR := Lib.hid (rows_row w1.heap.size g len gcap (fun j => bs.getD j 0) K N wr hlen (by omega) hcw hgcell hstep)
        have hbw := Lib.hid HB.out.below
        clear hg hgt hgs hrl hgcell hcw hstep HB
        rw [hbl2]
        clear hbl2
        go_wp2_with fail
        refine HR.out.mono ?_
        rintro e w2 ⟨hg2, hcase⟩
        have HG2 := Lib.hid hg2
        have HCS := Lib.hid hcase
        have h2s := hg2.size
        have HB2 : Hid (Below w.heap.size w w2) := Lib.hid (h1.trans (Below.mono (B := w1.heap.size) ((((Below.refl _ _).alloc (Nat.le_refl _) _).trans (hbw.out.mono (by omega))).grown hg2 (by omega) (by simp)) h1s))
        clear hg2 hcase HR
        have up : Hid (∀ o : Nat, w2.cell? ⟨b, o, none⟩ = w.cell? ⟨b, o, none⟩) := Lib.hid (fun o => HB2.out.cell (p := ⟨b, o, none⟩) hb)
        have hw2 : b < w2.heap.size := by have := HB2.out.size; omega
        have hin : ∀ (x : Value) i, i < len → (w2.alloc (.cells #[x] 28)).cell? ⟨b, off + i * 2, none⟩ = some (.int .i64 (K i)) ∧ (w2.alloc (.cells #[x] 28)).cell? ⟨b, off + i * 2 + 1, none⟩ = some (.int .i64 (N i)) := fun x i hi =>
          ⟨(World.cell?_alloc_past _ _ _ hw2).trans ((up.out _).trans (HC.out i hi).1), (World.cell?_alloc_past _ _ _ hw2).trans ((up.out _).trans (HC.out i hi).2)⟩
        have HIN := Lib.hid hin
        clear hin
        rcases HCS.out with ⟨he, hx, hno⟩ | ⟨j, hj, he, hk, hx, hno⟩
        · subst he
          have HX := Lib.hid hx
          have HNO := Lib.hid hno
          clear hx HCS hno
          go_wp2_with fail
          refine (ref_row b off len cap K N _ hlen (HIN.out _)).mono ?_
          rintro e w3 ⟨hb3, hcase⟩
          have HCS := Lib.hid hcase
          clear hcase
          rcases HCS.out with ⟨j', hj', hk', hno', he⟩ | ⟨hno', he⟩
          · exact absurd hk' (HNO.out _ hj')
          · subst he
            clear HCS hno'
            have cx := cell_of_one ((hb3.block _ (by have := lt_of_block HX.out; simp; omega)).trans ((Below.heap_alloc _ _ _ (lt_of_block HX.out)).trans HX.out))
            have c8 := cell_of_one ((hb3.block _ (by simp)).trans (heap_alloc_new w2 (.cells #[.int .i64 0] 28)))
            go_wp2
            go_ret
            exact ⟨rfl, HB2.out.trans ((((Below.refl w2.heap.size w2).alloc (Nat.le_refl _) _).trans (hb3.mono (by simp))).mono HB2.out.size)⟩
        · subst he
          have HX := Lib.hid hx
          have HK := Lib.hid hk
          have HNO := Lib.hid hno
          clear hx HCS hk hno
          go_wp2_with fail
          refine (ref_row b off len cap K N _ hlen (HIN.out _)).mono ?_
          rintro e w3 ⟨hb3, hcase⟩
          have HCS := Lib.hid hcase
          clear hcase
          rcases HCS.out with ⟨j', hj', hk', hno', he⟩ | ⟨hno', he⟩
          · have hjj : j' = j := by
              rcases Nat.lt_trichotomy j' j with h | h | h
              · exact absurd hk' (HNO.out _ h)
              · exact h
              · exact absurd HK.out (hno' _ h)
            subst hjj
            subst he
            clear HCS hk' hno'
            have cx := cell_of_one ((hb3.block _ (by have := lt_of_block HX.out; simp; omega)).trans ((Below.heap_alloc _ _ _ (lt_of_block HX.out)).trans HX.out))
            have c8 := cell_of_one ((hb3.block _ (by simp)).trans (heap_alloc_new w2 (.cells #[.int .i64 (N j')] 28)))
            go_wp2
            go_ret
            exact ⟨rfl, HB2.out.trans ((((Below.refl w2.heap.size w2).alloc (Nat.le_refl _) _).trans (hb3.mono (by simp))).mono HB2.out.size)⟩
          · exact absurd HK.out (hno' _ hj)

set_option maxHeartbeats 400000 in
theorem row_nil (w : World) : Calls Try.prog 12 #[.slice none 0 0] w fun e w' => e = .returned (.tuple #[.int .i64 0, .agg #[.int .i64 0], .bool false]) ∧ Below w.heap.size w w' := by
  go_enter Try.func12, Try.ntmps12
  go_wp2
  refine wp_loop_rounds 1 ?_
  rw [rounds_succ]
  go_wp2
  refine bodyPost_ret (v := .tuple #[.int .i64 0, .agg #[.int .i64 0], .bool false]) (by simp [results, Try.results12, go_sem]) rfl ⟨rfl, ?_⟩
  exact (Below.refl _ _).alloc (Nat.le_refl _) _

set_option maxHeartbeats 400000 in
theorem ref_zero (a : Option Addr) (cap : Nat) (w : World) : Calls Try.prog 15 #[.slice a 0 cap] w fun e w' => e = .returned (.tuple #[.int .i64 0, .int .i64 0, .bool false, .int .i64 0]) ∧ w = w' := by
  go_enter Try.func15, Try.ntmps15
  go_wp2
  refine wp_loop_rounds 1 ?_
  rw [rounds_succ]
  go_wp2
  refine bodyPost_ret (results_tmp4 rfl _ _ _) rfl ?_
  exact ⟨rfl, rfl⟩

set_option maxRecDepth 100000 in
set_option maxHeartbeats 1000000 in
theorem rows_zero (a : Option Addr) (cap : Nat) (w : World) :
    Calls Try.prog 4 #[.slice a 0 cap] w fun e w' => e = .returned (.bool true) ∧ Below w.heap.size w w' := by
  go_enter Try.func4, Try.ntmps4
  go_wp2_with fail
  refine (alive_any _).mono ?_
  rintro e w1 ⟨rfl, h1⟩
  have h1s := h1.size
  go_wp2_with fail
  refine wp_loop_rounds 1 ?_
  rw [rounds_succ]
  go_wp2_with fail
  refine (row_nil _).mono ?_
  rintro e w2 ⟨rfl, h2⟩
  have h2s : w1.heap.size < w2.heap.size := by have := h2.size; simp at this; omega
  have cx := cell_of_one ((h2.block _ (by simp)).trans (heap_alloc_new w1 (.cells #[.int .i64 0] 3)))
  go_wp2_with fail
  refine (ref_zero a cap _).mono ?_
  rintro e w3 ⟨rfl, rfl⟩
  go_wp2
  go_ret
  exact ⟨rfl, h1.trans (((((Below.refl w1.heap.size w1).alloc (Nat.le_refl _) _).trans (h2.mono (by simp))).alloc (by omega) _).mono h1s)⟩

/-- GuardRows, whatever its steps. -/
theorem guardRows_walk {H : Type} {enc : TypeId × Value → H} {W : World} {d : DataW H} {p : List MemPlace} (a : Option Addr) (len cap : Nat)
    (h : DataW.Trod enc Try.prog W 0 (fun _ => true) true 22 (.slice a len cap) d p) :
    Calls Try.prog 4 #[.slice a len cap] W fun e w' => e = .returned (.bool true) ∧ Below W.heap.size W w' := by
  by_cases hlen : 300 < len
  · exact rows_long a len cap W hlen
  · by_cases h0 : len = 0
    · subst h0
      exact rows_zero a cap W
    · rcases steps_open h with h0' | ⟨b, off, K, N, rfl, hb, hc⟩
      · exact absurd h0' h0
      · exact rows_short b off len cap K N W (by omega) (by omega) hb (fun i hi => ⟨(hc i hi).1, (hc i hi).2.1⟩)

end Go.Proofs.Ytehlacbebahmdaa
