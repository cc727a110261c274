/- GuardRuns: its functions, and the law's walk. -/
import Derived.Test.YtehlacbebahmdaaDo
import Derived.Test.YtehlacbebahmdaaNested
namespace Go.Proofs.Ytehlacbebahmdaa
open Go.RowKit

theorem calls21 (cap : Array Value) (w : World) : (callFunc 21 cap).run Try.prog w = .ok (.enter 21 cap) w := by simp [go_sem]

set_option maxHeartbeats 400000 in
theorem runs_ended (eb : Nat) (y : Int) (u : FrameMode) (w : World) (h : w.heap[eb]? = some (.cells #[.int .i64 y] 3 (0, 0))) (h0 : 0 ≤ y) (h1 : y ≤ 1000) :
    CallsD Try.prog 22 #[.pointer (some ⟨eb, 0, none⟩)] u w fun e u' w' => u' = u ∧ (e = .returned (.tuple #[]) ∧ w' = w.setCell ⟨eb, 0, none⟩ (.int .i64 (y + 1))) := by
  have c := cell_of_one h
  have f := free_of_one h
  clear h
  go_enter_d Try.func22, Try.ntmps22
  go_wp2
  go_end0
  exact ⟨rfl, rfl⟩

/-- What stands ahead of a call of the function: ended, done, lose, op. -/
structure RunsAt (eb db lb ob : Nat) (y x : Int) (lose : Bool) (op : Int) (w : World) : Prop where
  he : w.heap[eb]? = some (.cells #[.int .i64 y] 3 (0, 0))
  hd : w.heap[db]? = some (.cells #[.int .i64 x] 3 (0, 0))
  hl : w.heap[lb]? = some (.cells #[.bool lose] 4 (0, 0))
  ho : w.heap[ob]? = some (.cells #[.int .i64 op] 3 (0, 0))

theorem runsAt_below {eb db lb ob : Nat} {y x : Int} {lose : Bool} {op : Int} {w w' : World} (h : RunsAt eb db lb ob y x lose op w) (hb : Below w.heap.size w w') : RunsAt eb db lb ob y x lose op w' :=
  ⟨(hb.block _ (lt_of_block h.he)).trans h.he, (hb.block _ (lt_of_block h.hd)).trans h.hd, (hb.block _ (lt_of_block h.hl)).trans h.hl, (hb.block _ (lt_of_block h.ho)).trans h.ho⟩

set_option maxHeartbeats 800000 in
theorem runs_lose (eb db lb ob : Nat) (y x op : Int) (w : World) (hA : RunsAt eb db lb ob y x true op w) (h1 : eb ≠ db) (h2 : eb ≠ ob) (h3 : db ≠ ob) (hx : 0 ≤ x ∧ x ≤ 100) (hy : 0 ≤ y ∧ y ≤ 100) :
    Calls Try.prog 21 #[.pointer (some ⟨eb, 0, none⟩), .pointer (some ⟨db, 0, none⟩), .pointer (some ⟨lb, 0, none⟩), .pointer (some ⟨ob, 0, none⟩)] w fun e w' =>
      e = lostAt op ∧ Mod (Two eb db) w w' ∧ RunsAt eb db lb ob (y + 1) (x + 1) true op w' := by
  obtain ⟨he, hd, hl, ho⟩ := hA
  have hlne : lb ≠ eb ∧ lb ≠ db := by
    constructor
    · rintro rfl; rw [he] at hl; simp at hl
    · rintro rfl; rw [hd] at hl; simp at hl
  have cd := cell_of_one hd
  have fd := free_of_one hd
  have kl : (w.setCell ⟨db, 0, none⟩ (.int .i64 (x + 1))).heap[lb]? = some (.cells #[.bool true] 4 (0, 0)) := (Below.heap_setCell _ _ _ _ (by simpa using hlne.2)).trans hl
  have ko : (w.setCell ⟨db, 0, none⟩ (.int .i64 (x + 1))).heap[ob]? = some (.cells #[.int .i64 op] 3 (0, 0)) := (Below.heap_setCell _ _ _ _ (by simpa using h3.symm)).trans ho
  have ke : (w.setCell ⟨db, 0, none⟩ (.int .i64 (x + 1))).heap[eb]? = some (.cells #[.int .i64 y] 3 (0, 0)) := (Below.heap_setCell _ _ _ _ (by simpa using h1)).trans he
  have cl := cell_of_one kl
  have co := cell_of_one ko
  have HD := Lib.hid hd
  have KL := Lib.hid kl
  have KO := Lib.hid ko
  have KE := Lib.hid ke
  obtain ⟨hx0, hx1⟩ := hx
  clear he hd hl ho kl ko ke
  go_enter_defers Try.func21, Try.ntmps21
  go_wp2
  refine leaves_cons (f := 22) (args := #[.pointer (some ⟨eb, 0, none⟩)]) (by simp) (by simp [go_sem]) ?_
  refine (runs_ended eb y _ _ KE.out hy.1 (by omega)).mono ?_
  rintro e u' w' ⟨rfl, rfl, rfl⟩
  refine ⟨rfl, (Mod.setCell (.inr rfl) _).trans (Mod.setCell (.inl rfl) _), one_setCell KE.out, ?_, ?_, ?_⟩
  · exact (Below.heap_setCell _ _ _ _ (by simpa using h1.symm)).trans (one_setCell HD.out)
  · exact (Below.heap_setCell _ _ _ _ (by simpa using hlne.1)).trans KL.out
  · exact (Below.heap_setCell _ _ _ _ (by simpa using h2.symm)).trans KO.out

set_option maxHeartbeats 800000 in
theorem runs_keep (eb db lb ob : Nat) (y x op : Int) (w : World) (hA : RunsAt eb db lb ob y x false op w) (h1 : eb ≠ db) (h2 : eb ≠ ob) (h3 : db ≠ ob) (hx : 0 ≤ x ∧ x ≤ 100) (hy : 0 ≤ y ∧ y ≤ 100) :
    Calls Try.prog 21 #[.pointer (some ⟨eb, 0, none⟩), .pointer (some ⟨db, 0, none⟩), .pointer (some ⟨lb, 0, none⟩), .pointer (some ⟨ob, 0, none⟩)] w fun e w' =>
      e = .returned (.tuple #[]) ∧ Mod (Two eb db) w w' ∧ RunsAt eb db lb ob (y + 1) (x + 1 + 1) false op w' := by
  obtain ⟨he, hd, hl, ho⟩ := hA
  have hlne : lb ≠ eb ∧ lb ≠ db := by
    constructor
    · rintro rfl; rw [he] at hl; simp at hl
    · rintro rfl; rw [hd] at hl; simp at hl
  have cd := cell_of_one hd
  have fd := free_of_one hd
  have kl : (w.setCell ⟨db, 0, none⟩ (.int .i64 (x + 1))).heap[lb]? = some (.cells #[.bool false] 4 (0, 0)) := (Below.heap_setCell _ _ _ _ (by simpa using hlne.2)).trans hl
  have ko : (w.setCell ⟨db, 0, none⟩ (.int .i64 (x + 1))).heap[ob]? = some (.cells #[.int .i64 op] 3 (0, 0)) := (Below.heap_setCell _ _ _ _ (by simpa using h3.symm)).trans ho
  have ke : (w.setCell ⟨db, 0, none⟩ (.int .i64 (x + 1))).heap[eb]? = some (.cells #[.int .i64 y] 3 (0, 0)) := (Below.heap_setCell _ _ _ _ (by simpa using h1)).trans he
  have kd := one_setCell (u := .int .i64 (x + 1)) hd
  have cl := cell_of_one kl
  have cd2 := cell_of_one kd
  have fd2 := free_of_one kd
  have KD := Lib.hid kd
  have KL := Lib.hid kl
  have KO := Lib.hid ko
  have KE := Lib.hid ke
  obtain ⟨hx0, hx1⟩ := hx
  clear he hd hl ho kl ko ke kd
  go_enter_defers Try.func21, Try.ntmps21
  go_wp2
  have KE2 : ((w.setCell ⟨db, 0, none⟩ (.int .i64 (x + 1))).setCell ⟨db, 0, none⟩ (.int .i64 (x + 1 + 1))).heap[eb]? = some (.cells #[.int .i64 y] 3 (0, 0)) := (Below.heap_setCell _ _ _ _ (by simpa using h1)).trans KE.out
  refine leaves_cons (f := 22) (args := #[.pointer (some ⟨eb, 0, none⟩)]) (by simp) (by simp [go_sem]) ?_
  refine (runs_ended eb y _ _ KE2 hy.1 (by omega)).mono ?_
  rintro e u' w' ⟨rfl, rfl, rfl⟩
  refine ⟨.tuple #[], by simp [results, Try.results21, go_sem], rfl, ((Mod.setCell (.inr rfl) _).trans (Mod.setCell (.inr rfl) _)).trans (Mod.setCell (.inl rfl) _), one_setCell KE2, ?_, ?_, ?_⟩
  · exact (Below.heap_setCell _ _ _ _ (by simpa using h1.symm)).trans (one_setCell KD.out)
  · exact (Below.heap_setCell _ _ _ _ (by simpa using hlne.1)).trans ((Below.heap_setCell _ _ _ _ (by simpa using hlne.2)).trans KL.out)
  · exact (Below.heap_setCell _ _ _ _ (by simpa using h2.symm)).trans ((Below.heap_setCell _ _ _ _ (by simpa using h3.symm)).trans KO.out)

def capOf (eb db lb ob : Nat) : Array Value := #[.pointer (some ⟨eb, 0, none⟩), .pointer (some ⟨db, 0, none⟩), .pointer (some ⟨lb, 0, none⟩), .pointer (some ⟨ob, 0, none⟩)]

/-- GuardRuns' second function: the first one, and an error's number. -/
theorem runs2_lose (eb db lb ob fb nb : Nat) (y x op : Int) (w : World) (hf : w.heap[fb]? = some (.cells #[.func (.func 21) #[] (capOf eb db lb ob)] 1 (0, 0))) (hA : RunsAt eb db lb ob y x true op w) (h1 : eb ≠ db) (h2 : eb ≠ ob) (h3 : db ≠ ob) (hx : 0 ≤ x ∧ x ≤ 100) (hy : 0 ≤ y ∧ y ≤ 100) :
    Calls Try.prog 24 #[.pointer (some ⟨fb, 0, none⟩), .pointer (some ⟨nb, 0, none⟩)] w fun e w' =>
      e = lostAt op ∧ Mod (Two eb db) w w' ∧ RunsAt eb db lb ob (y + 1) (x + 1) true op w' := by
  have c := cell_of_one hf
  have HA := Lib.hid hA
  clear hf hA
  unfold capOf at c
  go_enter Try.func24, Try.ntmps24
  go_wp2_with fail
  refine (runs_lose eb db lb ob y x op _ HA.out h1 h2 h3 hx hy).mono ?_
  rintro e w' ⟨rfl, hm, hr⟩
  have HM := Lib.hid hm
  have HR := Lib.hid hr
  clear hm hr
  go_wp2
  exact ⟨rfl, rfl, HM.out, HR.out⟩

theorem runs2_keep (eb db lb ob fb nb : Nat) (y x op n : Int) (w : World) (hf : w.heap[fb]? = some (.cells #[.func (.func 21) #[] (capOf eb db lb ob)] 1 (0, 0))) (hn : w.heap[nb]? = some (.cells #[.int .u8 n] 5 (0, 0))) (hn0 : 0 ≤ n ∧ n ≤ 255)
    (hA : RunsAt eb db lb ob y x false op w) (h1 : eb ≠ db) (h2 : eb ≠ ob) (h3 : db ≠ ob) (hx : 0 ≤ x ∧ x ≤ 100) (hy : 0 ≤ y ∧ y ≤ 100) :
    Calls Try.prog 24 #[.pointer (some ⟨fb, 0, none⟩), .pointer (some ⟨nb, 0, none⟩)] w fun e w' =>
      e = .returned (.int .i64 n) ∧ Mod (Two eb db) w w' ∧ RunsAt eb db lb ob (y + 1) (x + 1 + 1) false op w' := by
  have c := cell_of_one hf
  have hnn : nb ≠ eb ∧ nb ≠ db := by
    constructor
    · rintro rfl; rw [hA.he] at hn; simp at hn
    · rintro rfl; rw [hA.hd] at hn; simp at hn
  have HN := Lib.hid hn
  have HA := Lib.hid hA
  obtain ⟨hn1, hn2⟩ := hn0
  clear hf hA hn
  unfold capOf at c
  go_enter Try.func24, Try.ntmps24
  go_wp2_with fail
  refine (runs_keep eb db lb ob y x op _ HA.out h1 h2 h3 hx hy).mono ?_
  rintro e w' ⟨rfl, hm, hr⟩
  have c2 := cell_of_one ((hm.block nb (lt_of_block HN.out) (by rintro (h | h); exact hnn.1 h; exact hnn.2 h)).trans HN.out)
  have HM := Lib.hid hm
  have HR := Lib.hid hr
  clear hm hr
  go_wp2
  go_ret
  exact ⟨rfl, HM.out, HR.out⟩

/-- All that GuardRuns' functions hold. -/
structure RunsAll (eb db lb ob fb nb : Nat) (y x : Int) (lose : Bool) (op n : Int) (w : World) : Prop where
  at_ : RunsAt eb db lb ob y x lose op w
  hf : w.heap[fb]? = some (.cells #[.func (.func 21) #[] (capOf eb db lb ob)] 1 (0, 0))
  hn : w.heap[nb]? = some (.cells #[.int .u8 n] 5 (0, 0))

theorem runsAll_below {eb db lb ob fb nb : Nat} {y x : Int} {lose : Bool} {op n : Int} {w w' : World} (h : RunsAll eb db lb ob fb nb y x lose op n w) (hb : Below w.heap.size w w') : RunsAll eb db lb ob fb nb y x lose op n w' :=
  ⟨runsAt_below h.at_ hb, (hb.block _ (lt_of_block h.hf)).trans h.hf, (hb.block _ (lt_of_block h.hn)).trans h.hn⟩

theorem runsAll_mod {eb db lb ob fb nb : Nat} {y x y' x' : Int} {lose : Bool} {op n : Int} {w w' : World} (h : RunsAll eb db lb ob fb nb y x lose op n w) (hm : Mod (Two eb db) w w') (hr : RunsAt eb db lb ob y' x' lose op w') : RunsAll eb db lb ob fb nb y' x' lose op n w' := by
  refine ⟨hr, (hm.block _ (lt_of_block h.hf) ?_).trans h.hf, (hm.block _ (lt_of_block h.hn) ?_).trans h.hn⟩
  · rintro (e | e)
    · have h1 := h.hf; rw [e, h.at_.he] at h1; simp at h1
    · have h1 := h.hf; rw [e, h.at_.hd] at h1; simp at h1
  · rintro (e | e)
    · have h1 := h.hn; rw [e, h.at_.he] at h1; simp at h1
    · have h1 := h.hn; rw [e, h.at_.hd] at h1; simp at h1

theorem mod_below {S : Nat → Prop} {w w1 w' : World} {B : Nat} (h : Mod S w w1) (hb : Below B w1 w') (hB : w.heap.size ≤ B) : Mod S w w' :=
  ⟨hb.os.trans h.os, hb.tape.trans h.tape, hb.output.trans h.output, Nat.le_trans h.size hb.size, fun k hk hs => (hb.block k (by omega)).trans (h.block k hk hs)⟩

theorem runs_run_lose (eb db lb ob fb nb : Nat) (y x op n : Int) (w : World) (hA : RunsAll eb db lb ob fb nb y x true op n w) (h1 : eb ≠ db) (h2 : eb ≠ ob) (h3 : db ≠ ob) (hx : 0 ≤ x ∧ x ≤ 100) (hy : 0 ≤ y ∧ y ≤ 100) :
    Calls Try.prog 18 #[.func (.func 21) #[] (capOf eb db lb ob)] w fun e w' => e = .returned (.tuple #[.agg #[.int .i64 op], .bool true]) ∧ Mod (Two eb db) w w' ∧ RunsAll eb db lb ob fb nb (y + 1) (x + 1) true op n w' := by
  have hS : ∀ k, Two eb db k → k < w.heap.size := by
    rintro k (rfl | rfl)
    · exact lt_of_block hA.at_.he
    · exact lt_of_block hA.at_.hd
  have hA1 := runsAll_below hA (below_inRun w)
  refine (run_lost w.heap.size 21 _ op w (Nat.le_refl _) (fun w1 => Mod (Two eb db) (inRun w) w1 ∧ RunsAt eb db lb ob (y + 1) (x + 1) true op w1) (fun w => calls21 _ w)
    ((runs_lose eb db lb ob y x op _ hA1.at_ h1 h2 h3 hx hy).mono fun e w1 ⟨he, hm, hr⟩ => ⟨he, ⟨hm, hr⟩, hm.above hS⟩)).mono ?_
  rintro e w' ⟨rfl, _, w1, ⟨hm, hr⟩, hb⟩
  have hmw : Mod (Two eb db) w w' := mod_below ((Mod.inRun _ w).trans hm) hb (Nat.le_refl _)
  have hmw1 : Mod (Two eb db) w w1 := (Mod.inRun _ w).trans hm
  have hr2 : RunsAt eb db lb ob (y + 1) (x + 1) true op w' :=
    ⟨(hb.block _ (lt_of_block hA.at_.he)).trans hr.he, (hb.block _ (lt_of_block hA.at_.hd)).trans hr.hd, (hb.block _ (lt_of_block hA.at_.hl)).trans hr.hl, (hb.block _ (lt_of_block hA.at_.ho)).trans hr.ho⟩
  exact ⟨rfl, hmw, runsAll_mod hA hmw hr2⟩

theorem runs_run_keep (eb db lb ob fb nb : Nat) (y x op n : Int) (w : World) (hA : RunsAll eb db lb ob fb nb y x false op n w) (h1 : eb ≠ db) (h2 : eb ≠ ob) (h3 : db ≠ ob) (hx : 0 ≤ x ∧ x ≤ 100) (hy : 0 ≤ y ∧ y ≤ 100) :
    Calls Try.prog 18 #[.func (.func 21) #[] (capOf eb db lb ob)] w fun e w' => e = .returned (.tuple #[.agg #[.int .i64 0], .bool false]) ∧ Mod (Two eb db) w w' ∧ RunsAll eb db lb ob fb nb (y + 1) (x + 1 + 1) false op n w' := by
  have hS : ∀ k, Two eb db k → k < w.heap.size := by
    rintro k (rfl | rfl)
    · exact lt_of_block hA.at_.he
    · exact lt_of_block hA.at_.hd
  have hA1 := runsAll_below hA (below_inRun w)
  refine (run_ret w.heap.size 21 _ w (Nat.le_refl _) (fun w1 => Mod (Two eb db) (inRun w) w1 ∧ RunsAt eb db lb ob (y + 1) (x + 1 + 1) false op w1) (fun w => calls21 _ w)
    ((runs_keep eb db lb ob y x op _ hA1.at_ h1 h2 h3 hx hy).mono fun e w1 ⟨he, hm, hr⟩ => ⟨he, ⟨hm, hr⟩, hm.above hS⟩)).mono ?_
  rintro e w' ⟨rfl, _, w1, ⟨hm, hr⟩, hb⟩
  have hmw : Mod (Two eb db) w w' := mod_below ((Mod.inRun _ w).trans hm) hb (Nat.le_refl _)
  have hr2 : RunsAt eb db lb ob (y + 1) (x + 1 + 1) false op w' :=
    ⟨(hb.block _ (lt_of_block hA.at_.he)).trans hr.he, (hb.block _ (lt_of_block hA.at_.hd)).trans hr.hd, (hb.block _ (lt_of_block hA.at_.hl)).trans hr.hl, (hb.block _ (lt_of_block hA.at_.ho)).trans hr.ho⟩
  exact ⟨rfl, hmw, runsAll_mod hA hmw hr2⟩

theorem runs_do_lose (eb db lb ob fb nb : Nat) (y x op n : Int) (w : World) (hA : RunsAll eb db lb ob fb nb y x true op n w) (h1 : eb ≠ db) (h2 : eb ≠ ob) (h3 : db ≠ ob) (hx : 0 ≤ x ∧ x ≤ 100) (hy : 0 ≤ y ∧ y ≤ 100) :
    Calls Try.prog 23 #[.func (.func 24) #[] #[.pointer (some ⟨fb, 0, none⟩), .pointer (some ⟨nb, 0, none⟩)]] w fun e w' => e = .returned (.tuple #[.int .i64 0, .agg #[.int .i64 op], .bool true]) ∧ Mod (Two eb db) w w' ∧ RunsAll eb db lb ob fb nb (y + 1) (x + 1) true op n w' := by
  have hS : ∀ k, Two eb db k → k < w.heap.size := by
    rintro k (rfl | rfl)
    · exact lt_of_block hA.at_.he
    · exact lt_of_block hA.at_.hd
  have hbb := (below_inDo (.func (.func 24) #[] #[.pointer (some ⟨fb, 0, none⟩), .pointer (some ⟨nb, 0, none⟩)]) w).trans ((below_inRun (inDo (.func (.func 24) #[] #[.pointer (some ⟨fb, 0, none⟩), .pointer (some ⟨nb, 0, none⟩)]) w)).mono (by rw [inDo_size]; omega))
  have hA1 := runsAll_below hA hbb
  refine (do_lost 24 _ op w (fun w1 => Mod (Two eb db) w w1 ∧ RunsAt eb db lb ob (y + 1) (x + 1) true op w1) (fun w => calls24 _ w)
    ((runs2_lose eb db lb ob fb nb y x op _ hA1.hf hA1.at_ h1 h2 h3 hx hy).mono fun e w1 ⟨he, hm, hr⟩ => ⟨he, ⟨(Mod.of_below hbb).trans hm, hr⟩, hm.above hS⟩)).mono ?_
  rintro e w' ⟨rfl, w1, ⟨hm, hr⟩, hb⟩
  have hmw : Mod (Two eb db) w w' := mod_below hm hb (Nat.le_refl _)
  have hr2 : RunsAt eb db lb ob (y + 1) (x + 1) true op w' :=
    ⟨(hb.block _ (lt_of_block hA.at_.he)).trans hr.he, (hb.block _ (lt_of_block hA.at_.hd)).trans hr.hd, (hb.block _ (lt_of_block hA.at_.hl)).trans hr.hl, (hb.block _ (lt_of_block hA.at_.ho)).trans hr.ho⟩
  exact ⟨rfl, hmw, runsAll_mod hA hmw hr2⟩

theorem runs_do_keep (eb db lb ob fb nb : Nat) (y x op n : Int) (w : World) (hn : 0 ≤ n ∧ n ≤ 255) (hA : RunsAll eb db lb ob fb nb y x false op n w) (h1 : eb ≠ db) (h2 : eb ≠ ob) (h3 : db ≠ ob) (hx : 0 ≤ x ∧ x ≤ 100) (hy : 0 ≤ y ∧ y ≤ 100) :
    Calls Try.prog 23 #[.func (.func 24) #[] #[.pointer (some ⟨fb, 0, none⟩), .pointer (some ⟨nb, 0, none⟩)]] w fun e w' => e = .returned (.tuple #[.int .i64 n, .agg #[.int .i64 0], .bool false]) ∧ Mod (Two eb db) w w' ∧ RunsAll eb db lb ob fb nb (y + 1) (x + 1 + 1) false op n w' := by
  have hS : ∀ k, Two eb db k → k < w.heap.size := by
    rintro k (rfl | rfl)
    · exact lt_of_block hA.at_.he
    · exact lt_of_block hA.at_.hd
  have hbb := (below_inDo (.func (.func 24) #[] #[.pointer (some ⟨fb, 0, none⟩), .pointer (some ⟨nb, 0, none⟩)]) w).trans ((below_inRun (inDo (.func (.func 24) #[] #[.pointer (some ⟨fb, 0, none⟩), .pointer (some ⟨nb, 0, none⟩)]) w)).mono (by rw [inDo_size]; omega))
  have hA1 := runsAll_below hA hbb
  refine (do_ret 24 _ n w (fun w1 => Mod (Two eb db) w w1 ∧ RunsAt eb db lb ob (y + 1) (x + 1 + 1) false op w1) (fun w => calls24 _ w)
    ((runs2_keep eb db lb ob fb nb y x op n _ hA1.hf hA1.hn hn hA1.at_ h1 h2 h3 hx hy).mono fun e w1 ⟨he, hm, hr⟩ => ⟨he, ⟨(Mod.of_below hbb).trans hm, hr⟩, hm.above hS⟩)).mono ?_
  rintro e w' ⟨rfl, w1, ⟨hm, hr⟩, hb⟩
  have hmw : Mod (Two eb db) w w' := mod_below hm hb (Nat.le_refl _)
  have hr2 : RunsAt eb db lb ob (y + 1) (x + 1 + 1) false op w' :=
    ⟨(hb.block _ (lt_of_block hA.at_.he)).trans hr.he, (hb.block _ (lt_of_block hA.at_.hd)).trans hr.hd, (hb.block _ (lt_of_block hA.at_.hl)).trans hr.hl, (hb.block _ (lt_of_block hA.at_.ho)).trans hr.ho⟩
  exact ⟨rfl, hmw, runsAll_mod hA hmw hr2⟩

/-- The world ahead of the law's calls. -/
theorem runs_start (op n : Int) (lose : Bool) (w w1 : World) (h1 : Below (((w.alloc (.cells #[.int .i64 op] 3)).alloc (.cells #[.int .u8 n] 5)).alloc (.cells #[.bool lose] 4)).heap.size (((w.alloc (.cells #[.int .i64 op] 3)).alloc (.cells #[.int .u8 n] 5)).alloc (.cells #[.bool lose] 4)) w1) :
    w.heap.size + 3 ≤ w1.heap.size ∧ Below w.heap.size w w1 ∧
    RunsAll (w1.heap.size + 1) w1.heap.size (w.heap.size + 1 + 1) w.heap.size (w1.heap.size + 1 + 1) (w.heap.size + 1) 0 0 lose op n (((w1.alloc (.cells #[.int .i64 0] 3)).alloc (.cells #[.int .i64 0] 3)).alloc (.cells #[.func (.func 21) #[] (capOf (w1.heap.size + 1) w1.heap.size (w.heap.size + 1 + 1) w.heap.size)] 1)) := by
  have hs := h1.size
  simp at hs
  have up : ∀ i, i < w1.heap.size → ∀ v, (((w1.alloc (.cells #[.int .i64 0] 3)).alloc (.cells #[.int .i64 0] 3)).alloc (.cells #[v] 1)).heap[i]? = w1.heap[i]? := fun i hi v =>
    (Below.heap_alloc _ _ _ (by simp; omega)).trans ((Below.heap_alloc _ _ _ (by simp; omega)).trans (Below.heap_alloc _ _ _ hi))
  have a0 : w1.heap[w.heap.size]? = some (.cells #[.int .i64 op] 3 (0, 0)) := (h1.block _ (by simp; omega)).trans ((Below.heap_alloc _ _ _ (by simp; omega)).trans ((Below.heap_alloc _ _ _ (by simp)).trans (heap_alloc_new _ _)))
  have a1 : w1.heap[w.heap.size + 1]? = some (.cells #[.int .u8 n] 5 (0, 0)) := by
    have h := heap_alloc_new (w.alloc (.cells #[.int .i64 op] 3)) (.cells #[.int .u8 n] 5)
    have e : (w.alloc (.cells #[.int .i64 op] 3)).heap.size = w.heap.size + 1 := by simp
    rw [e] at h
    exact (h1.block _ (by simp)).trans ((Below.heap_alloc _ _ _ (by simp)).trans h)
  have a2 : w1.heap[w.heap.size + 1 + 1]? = some (.cells #[.bool lose] 4 (0, 0)) := by
    have h := heap_alloc_new ((w.alloc (.cells #[.int .i64 op] 3)).alloc (.cells #[.int .u8 n] 5)) (.cells #[.bool lose] 4)
    have e : ((w.alloc (.cells #[.int .i64 op] 3)).alloc (.cells #[.int .u8 n] 5)).heap.size = w.heap.size + 1 + 1 := by simp
    rw [e] at h
    exact (h1.block _ (by simp)).trans h
  refine ⟨by omega, ?_, ⟨⟨?_, ?_, (up _ (by omega) _).trans a2, (up _ (by omega) _).trans a0⟩, ?_, (up _ (by omega) _).trans a1⟩⟩
  · exact ((((Below.refl w.heap.size w).alloc (Nat.le_refl _) _).alloc (by simp) _).alloc (by simp; omega) _).trans (h1.mono (by simp; omega))
  · have h := heap_alloc_new (w1.alloc (.cells #[.int .i64 0] 3)) (.cells #[.int .i64 0] 3)
    have e : (w1.alloc (.cells #[.int .i64 0] 3)).heap.size = w1.heap.size + 1 := by simp
    rw [e] at h
    exact (Below.heap_alloc _ _ _ (by simp)).trans h
  · exact (Below.heap_alloc _ _ _ (by simp; omega)).trans ((Below.heap_alloc _ _ _ (by simp)).trans (heap_alloc_new _ _))
  · have h := heap_alloc_new ((w1.alloc (.cells #[.int .i64 0] 3)).alloc (.cells #[.int .i64 0] 3)) (.cells #[.func (.func 21) #[] (capOf (w1.heap.size + 1) w1.heap.size (w.heap.size + 1 + 1) w.heap.size)] 1)
    have e : ((w1.alloc (.cells #[.int .i64 0] 3)).alloc (.cells #[.int .i64 0] 3)).heap.size = w1.heap.size + 1 + 1 := by simp
    rw [e] at h
    exact h

set_option maxRecDepth 100000 in
set_option maxHeartbeats 1000000 in
theorem runs_walk_lose (op n : Int) (w : World) :
    Calls Try.prog 7 #[.int .i64 op, .int .u8 n, .bool true] w fun e w' => e = .returned (.bool true) ∧ Below w.heap.size w w' := by
  go_enter Try.func7, Try.ntmps7
  go_wp2_with fail
  refine (alive_any _).mono ?_
  rintro e w1 ⟨rfl, h1⟩
  obtain ⟨hs1, hb1, hA⟩ := runs_start op n true w w1 h1
  have HB1 := Lib.hid hb1
  have HA := Lib.hid hA
  clear h1 hb1 hA
  go_wp2_with fail
  refine (runs_run_lose _ _ _ _ _ _ 0 0 op n _ HA.out (by omega) (by omega) (by omega) (by omega) (by omega)).mono ?_
  rintro e w2 ⟨rfl, hm2, hA2⟩
  have hs2 : w1.heap.size + 3 ≤ w2.heap.size := by have := hm2.size; simp at this; omega
  have HM2 := Lib.hid hm2
  have HA2 := Lib.hid (runsAll_below hA2 ((Below.refl w2.heap.size w2).alloc (Nat.le_refl _) (.cells #[.int .i64 op] 28)))
  clear hm2 hA2 HA
  go_wp2_with fail
  refine (runs_do_lose _ _ _ _ _ _ (0 + 1) (0 + 1) op n _ HA2.out (by omega) (by omega) (by omega) (by omega) (by omega)).mono ?_
  rintro e w3 ⟨rfl, hm3, hA3⟩
  have hs3 : w2.heap.size + 1 ≤ w3.heap.size := by have := hm3.size; simp at this; omega
  have k10 : w3.heap[w2.heap.size]? = some (.cells #[.int .i64 op] 28 (0, 0)) := (hm3.block _ (by simp) (by rintro (h | h) <;> omega)).trans (heap_alloc_new _ _)
  have hA4 := runsAll_below hA3 ((Below.refl w3.heap.size w3).alloc (Nat.le_refl _) (.cells #[.int .i64 op] 28))
  have HM3 := Lib.hid hm3
  have c10 := cell_of_one ((Below.heap_alloc w3 (.cells #[.int .i64 op] 28) _ (by omega)).trans k10)
  have ce := cell_of_one hA4.at_.he
  have cd := cell_of_one hA4.at_.hd
  have cl := cell_of_one hA4.at_.hl
  have co := cell_of_one hA4.at_.ho
  clear hm3 hA3 hA4 k10 HA2
  go_wp2
  go_ret
  exact ⟨rfl, (HB1.out.trans (((((Below.refl w.heap.size w1).alloc (by omega) _).alloc (by simp; omega) _).alloc (by simp; omega) _).trans (HM2.out.below (by rintro k (rfl | rfl) <;> omega) (by simp; omega)))).trans ((((Below.refl w.heap.size w2).alloc (by omega) _).trans (HM3.out.below (by rintro k (rfl | rfl) <;> omega) (by simp; omega))).alloc (by omega) _)⟩

set_option maxRecDepth 100000 in
set_option maxHeartbeats 1000000 in
theorem runs_walk_keep (op n : Int) (hn : 0 ≤ n ∧ n ≤ 255) (w : World) :
    Calls Try.prog 7 #[.int .i64 op, .int .u8 n, .bool false] w fun e w' => e = .returned (.bool true) ∧ Below w.heap.size w w' := by
  go_enter Try.func7, Try.ntmps7
  go_wp2_with fail
  refine (alive_any _).mono ?_
  rintro e w1 ⟨rfl, h1⟩
  obtain ⟨hs1, hb1, hA⟩ := runs_start op n false w w1 h1
  have HB1 := Lib.hid hb1
  have HA := Lib.hid hA
  clear h1 hb1 hA
  go_wp2_with fail
  refine (runs_run_keep _ _ _ _ _ _ 0 0 op n _ HA.out (by omega) (by omega) (by omega) (by omega) (by omega)).mono ?_
  rintro e w2 ⟨rfl, hm2, hA2⟩
  have hs2 : w1.heap.size + 3 ≤ w2.heap.size := by have := hm2.size; simp at this; omega
  have HM2 := Lib.hid hm2
  have HA2 := Lib.hid (runsAll_below hA2 ((Below.refl w2.heap.size w2).alloc (Nat.le_refl _) (.cells #[.int .i64 0] 28)))
  clear hm2 hA2 HA
  go_wp2_with fail
  refine (runs_do_keep _ _ _ _ _ _ (0 + 1) (0 + 1 + 1) op n _ hn HA2.out (by omega) (by omega) (by omega) (by omega) (by omega)).mono ?_
  rintro e w3 ⟨rfl, hm3, hA3⟩
  have hs3 : w2.heap.size + 1 ≤ w3.heap.size := by have := hm3.size; simp at this; omega
  have k10 : w3.heap[w2.heap.size]? = some (.cells #[.int .i64 0] 28 (0, 0)) := (hm3.block _ (by simp) (by rintro (h | h) <;> omega)).trans (heap_alloc_new _ _)
  have hA4 := runsAll_below hA3 ((Below.refl w3.heap.size w3).alloc (Nat.le_refl _) (.cells #[.int .i64 0] 28))
  have HM3 := Lib.hid hm3
  have c10 := cell_of_one ((Below.heap_alloc w3 (.cells #[.int .i64 0] 28) _ (by omega)).trans k10)
  have ce := cell_of_one hA4.at_.he
  have cd := cell_of_one hA4.at_.hd
  have cl := cell_of_one hA4.at_.hl
  have co := cell_of_one hA4.at_.ho
  have cn := cell_of_one hA4.hn
  obtain ⟨hn0, hn1⟩ := hn
  clear hm3 hA3 hA4 k10 HA2
  go_wp2
  go_ret
  exact ⟨rfl, (HB1.out.trans (((((Below.refl w.heap.size w1).alloc (by omega) _).alloc (by simp; omega) _).alloc (by simp; omega) _).trans (HM2.out.below (by rintro k (rfl | rfl) <;> omega) (by simp; omega)))).trans ((((Below.refl w.heap.size w2).alloc (by omega) _).trans (HM3.out.below (by rintro k (rfl | rfl) <;> omega) (by simp; omega))).alloc (by omega) _)⟩

/-- GuardRuns, whatever its arguments. -/
theorem guardRuns_walk {W : World} (op : Int) (_wo : (Lit.int .i64 op).wf = true) (n : Int) (wn : (Lit.int .u8 n).wf = true) (lose : Bool) :
    Calls Try.prog 7 #[.int .i64 op, .int .u8 n, .bool lose] W fun e w' => e = .returned (.bool true) ∧ Below W.heap.size W w' := by
  have h := wn
  simp only [Lit.wf, Bool.and_eq_true, decide_eq_true_eq] at h
  have hmin : IntKind.u8.min = 0 := rfl
  have hmax : IntKind.u8.max = 255 := rfl
  cases lose with
  | true => exact runs_walk_lose op n W
  | false => exact runs_walk_keep op n (by omega) W

end Go.Proofs.Ytehlacbebahmdaa
