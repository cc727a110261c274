/- guard.Run by a step, and guard.Row, by their contracts. -/
import Derived.Test.YtehlacbebahmdaaRun
namespace Go.Proofs.Ytehlacbebahmdaa
open Go.RowKit

/-- From block B on what was there is as it was. -/
structure Above (B : Nat) (w w' : World) : Prop where
  size : w.heap.size ≤ w'.heap.size
  block : ∀ k, B ≤ k → k < w.heap.size → w'.heap[k]? = w.heap[k]?

theorem Above.refl (B : Nat) (w : World) : Above B w w := ⟨Nat.le_refl _, fun _ _ _ => rfl⟩
theorem Above.trans {B : Nat} {a b c : World} (h : Above B a b) (k : Above B b c) : Above B a c :=
  ⟨Nat.le_trans h.size k.size, fun i hb hi => (k.block i hb (Nat.lt_of_lt_of_le hi h.size)).trans (h.block i hb hi)⟩
theorem Above.of_below {B : Nat} {w w' : World} (h : Below w.heap.size w w') : Above B w w' := ⟨h.size, fun k _ hk => h.block k hk⟩

theorem inRun_size (w : World) : (inRun w).heap.size = w.heap.size + 2 := by simp [inRun]
theorem inRun_old (w : World) (k : Nat) (h : k < w.heap.size) : (inRun w).heap[k]? = w.heap[k]? := by
  unfold inRun
  rw [Below.heap_alloc _ _ _ (by simp; omega), Below.heap_alloc _ _ _ h]
theorem inRun_first (w : World) : (inRun w).heap[w.heap.size]? = some (.cells #[.int .i64 0] 28 (0, 0)) := by
  unfold inRun
  rw [Below.heap_alloc _ _ _ (by simp)]
  exact heap_alloc_new _ _
theorem inRun_second (w : World) : (inRun w).heap[w.heap.size + 1]? = some (.cells #[.bool false] 4 (0, 0)) := by
  have h := heap_alloc_new (w.alloc (.cells #[.int .i64 0] 28)) (.cells #[.bool false] 4)
  have e : (w.alloc (.cells #[.int .i64 0] 28)).heap.size = w.heap.size + 1 := by simp
  rw [e] at h
  exact h
theorem below_inRun (w : World) : Below w.heap.size w (inRun w) := ((Below.refl _ _).alloc (Nat.le_refl _) _).alloc (by simp) _

/-- guard.Run, of a function that writes no block from B on that was there: what it returned, or with which crash, and nothing of its own turned. -/
theorem run_step (B : Nat) (f : FuncId) (cap : Array Value) (w : World) (hB : B ≤ w.heap.size) (Q : Ending → World → Prop) (hcall : ∀ w, (callFunc f cap).run Try.prog w = .ok (.enter f cap) w)
    (hways : ∀ e w1, Q e w1 → (∃ v, e = .returned v) ∨ ∃ t x, e = .panicked [{ v := .iface t x, recovered := false }] ∧ (t = 28 → ∃ op, x = .agg #[.int .i64 op]))
    (h : Calls Try.prog f cap (inRun w) fun e w1 => Q e w1 ∧ Above B (inRun w) w1) :
    Calls Try.prog 18 #[.func (.func f) #[] cap] w fun e w' => RunTold Q w.heap.size e w' ∧ Above B w w' := by
  have key := inRun_size w
  have fit : Fits w (fun e w1 => Q e w1 ∧ Above B (inRun w) w1) :=
    ⟨fun e w1 hq => hways e w1 hq.1, fun e w1 hq => by have := hq.2.size; omega,
      fun e w1 hq => (hq.2.block _ (by omega) (by omega)).trans (inRun_first w), fun e w1 hq => (hq.2.block _ (by omega) (by omega)).trans (inRun_second w)⟩
  have hab : ∀ w1 w', Above B (inRun w) w1 → Below w.heap.size w1 w' → Above B w w' := fun w1 w' ha hb =>
    ⟨by have := ha.size; have := hb.size; omega, fun k hk hlt => (hb.block k hlt).trans ((ha.block k hk (by omega)).trans (inRun_old w k hlt))⟩
  refine (run_any f cap w _ hcall h fit).mono fun e w' hr => ?_
  rcases hr with ⟨v, w1, hq, he, hb⟩ | ⟨op, w1, hq, he, hb⟩ | ⟨t, x, w1, ht, hq, he, hb⟩
  · exact ⟨.inl ⟨v, w1, hq.1, he, hb⟩, hab _ _ hq.2 hb⟩
  · exact ⟨.inr (.inl ⟨op, w1, hq.1, he, hb⟩), hab _ _ hq.2 hb⟩
  · exact ⟨.inr (.inr ⟨t, x, w1, ht, hq.1, he, hb⟩), hab _ _ hq.2 hb⟩

/-- What guard.Run tells of the function at place j of a row. -/
def StepTold (Inv : Nat → World → Prop) (Stop : Nat → Int → World → Prop) (Pan : List PanicEntry → World → Prop) (B j : Nat) (w : World) (e : Ending) (w' : World) : Prop :=
  Above B w w' ∧ ((e = .returned (.tuple #[.agg #[.int .i64 0], .bool false]) ∧ Inv (j + 1) w') ∨
    (∃ op, e = .returned (.tuple #[.agg #[.int .i64 op], .bool true]) ∧ Stop j op w') ∨ (∃ ch, e = .panicked ch ∧ Pan ch w'))

/-- What guard.Row tells. -/
def RowTold (Inv : Nat → World → Prop) (Stop : Nat → Int → World → Prop) (Pan : List PanicEntry → World → Prop) (len : Nat) (w : World) (e : Ending) (w' : World) : Prop :=
  w.heap.size ≤ w'.heap.size ∧ ((e = .returned (.tuple #[.int .i64 len, .agg #[.int .i64 0], .bool false]) ∧ Inv len w') ∨
    (∃ (j : Nat) (op : Int), j < len ∧ e = .returned (.tuple #[.int .i64 j, .agg #[.int .i64 op], .bool true]) ∧ Stop j op w') ∨ (∃ ch, e = .panicked ch ∧ Pan ch w'))

set_option maxHeartbeats 1000000 in
theorem row_any (sb off len cap : Nat) (F : Nat → Value) (w : World) (Inv : Nat → World → Prop) (Stop : Nat → Int → World → Prop) (Pan : List PanicEntry → World → Prop)
    (hlen : len ≤ 1000000)
    (hcell : ∀ j w1, j < len → Inv j w1 → w1.cell? ⟨sb, off + j, none⟩ = some (F j))
    (hsteady : ∀ j w1 w2, Inv j w1 → Below w.heap.size w1 w2 → Inv j w2)
    (hstop : ∀ j op w1 w2, Stop j op w1 → Below w.heap.size w1 w2 → Stop j op w2)
    (hstep : ∀ j w1, j < len → w.heap.size ≤ w1.heap.size → Inv j w1 → Calls Try.prog 18 #[F j] w1 (StepTold Inv Stop Pan w.heap.size j w1))
    (hinv : Inv 0 w) :
    Calls Try.prog 12 #[.slice (some ⟨sb, off, none⟩) len cap] w (RowTold Inv Stop Pan len w) := by
  have Hc := Lib.hid hcell
  have Hs := Lib.hid hsteady
  have Hp := Lib.hid hstop
  have Hstep := Lib.hid hstep
  have Hi := Lib.hid hinv
  clear hcell hsteady hstop hstep hinv
  go_enter Try.func12, Try.ntmps12
  go_wp2
  go_loopw [11] (fun i wr => ∃ j : Nat, j ≤ len ∧ i = .int .i64 j ∧ Inv j wr ∧ Above w.heap.size (w.alloc (.cells #[.int .i64 0] 28)) wr) (fun i _ => len - (intOf i).toNat)
  case atStart => exact ⟨0, Nat.zero_le _, rfl, Hs.out 0 _ _ Hi.out ((Below.refl _ _).alloc (Nat.le_refl _) _), Above.refl _ _⟩
  case round =>
    obtain ⟨j, hj, rfl, hI, hA⟩ := hrel
    have hsz := hA.size
    have k3 : wr.heap[w.heap.size]? = some (.cells #[.int .i64 0] 28 (0, 0)) := (hA.block _ (Nat.le_refl _) (by simp)).trans (heap_alloc_new _ _)
    have c3 := cell_of_one k3
    have f3 := free_of_one k3
    have HI := Lib.hid hI
    have HA := Lib.hid hA
    have K3 := Lib.hid k3
    have hwr : w.heap.size < wr.heap.size := lt_of_block k3
    clear hI hA k3 hsz
    by_cases hlt : j < len
    · have hce := Hc.out j wr hlt HI.out
      go_wp2_with fail
      refine (Hstep.out j wr hlt (by omega) HI.out).mono ?_
      rintro e w1 ⟨ha, hcase⟩
      have k3 := (ha.block _ (Nat.le_refl _) hwr).trans K3.out
      have c31 := cell_of_one k3
      have f31 := free_of_one k3
      have K31 := Lib.hid k3
      have HA1 := Lib.hid ha
      have HC := Lib.hid hcase
      clear k3 ha hcase c3 f3 hce
      rcases HC.out with ⟨he, hi⟩ | ⟨op, he, hs⟩ | ⟨ch, he, hp⟩
      · subst he
        have HI1 := Lib.hid hi
        clear HC hi
        go_wp2
        go_roundw
        case rel => exact ⟨j + 1, by omega, by go_num, Hs.out _ _ _ HI1.out ((Below.refl _ _).alloc (by have := HA1.out.size; omega) _), HA.out.trans (HA1.out.trans (Above.of_below ((Below.refl _ _).alloc (Nat.le_refl _) _)))⟩
        case measure => simp [intOf]; omega
      · subst he
        have HS1 := Lib.hid hs
        clear HC hs
        go_wp2
        have hlt1 : w.heap.size < w1.heap.size := lt_of_block K31.out
        have k32 : (w1.alloc (.cells #[.int .i64 op] 28)).heap[w.heap.size]? = some (.cells #[.int .i64 0] 28 (0, 0)) := (Below.heap_alloc _ _ _ hlt1).trans K31.out
        have c32 := cell_of_one k32
        have f32 := free_of_one k32
        have K32 := Lib.hid k32
        clear k32
        go_region
        go_wp2
        refine bodyPost_ret (v := .tuple #[.int .i64 j, .agg #[.int .i64 op], .bool true]) ?_ rfl ⟨?_, .inr (.inl ⟨j, op, hlt, rfl, ?_⟩)⟩
        · have d : ((w1.setCell ⟨w.heap.size, 0, none⟩ (.int .i64 op)).alloc (.cells #[.int .i64 op] 28)).cell? ⟨w.heap.size, 0, none⟩ = some (.int .i64 op) :=
            cell_of_one ((Below.heap_alloc _ _ _ (by simpa [World.setCell] using hlt1)).trans (one_setCell K31.out))
          simp [results, Try.results12, go_sem, d]
        · have := HA1.out.size
          simp
          omega
        · exact Hp.out _ _ _ _ HS1.out ((((Below.refl w.heap.size w1).setCell (p := ⟨w.heap.size, 0, none⟩) (Nat.le_refl _) _).alloc (by simp [World.setCell]; omega) _).drew)
      · subst he
        have HS1 := Lib.hid hp
        clear HC hp
        go_wp2
        exact ⟨rfl, by have := HA1.out.size; omega, .inr (.inr ⟨ch, rfl, HS1.out⟩)⟩
    · have : j = len := by omega
      subst this
      go_wp2
      refine bodyPost_ret (v := .tuple #[.int .i64 j, .agg #[.int .i64 0], .bool false]) ?_ rfl ⟨?_, .inl ⟨rfl, ?_⟩⟩
      · have d := cell_of_one (one_setCell (u := .int .i64 0) K3.out)
        simp [results, Try.results12, go_sem, d]
      · simp
        omega
      · exact Hs.out _ _ _ HI.out ((Below.refl w.heap.size wr).setCell (p := ⟨w.heap.size, 0, none⟩) (Nat.le_refl _) _)

end Go.Proofs.Ytehlacbebahmdaa
