/- guard.Do, by its contracts. -/
import Derived.Test.YtehlacbebahmdaaAlive
namespace Go.Proofs.Ytehlacbebahmdaa
open Go.RowKit

theorem calls24 (cap : Array Value) (w : World) : (callFunc 24 cap).run Try.prog w = .ok (.enter 24 cap) w := by simp [go_sem]
theorem calls29 (cap : Array Value) (w : World) : (callFunc 29 cap).run Try.prog w = .ok (.enter 29 cap) w := by simp [go_sem]
theorem calls38 (cap : Array Value) (w : World) : (callFunc 38 cap).run Try.prog w = .ok (.enter 38 cap) w := by simp [go_sem]

/-- The world in which guard.Do calls guard.Run. -/
def inDo (v : Value) (w : World) : World := ((w.alloc (.cells #[v] 43)).alloc (.cells #[.int .i64 0] 40)).alloc (.cells #[.int .i64 0] 28)

theorem inDo_size (v : Value) (w : World) : (inDo v w).heap.size = w.heap.size + 3 := by simp [inDo]
theorem below_inDo (v : Value) (w : World) : Below w.heap.size w (inDo v w) := (((Below.refl _ _).alloc (Nat.le_refl _) _).alloc (by simp) _).alloc (by simp; omega) _
theorem inDo_0 (v : Value) (w : World) : (inDo v w).heap[w.heap.size]? = some (.cells #[v] 43 (0, 0)) := by
  unfold inDo
  rw [Below.heap_alloc _ _ _ (by simp; omega), Below.heap_alloc _ _ _ (by simp)]
  exact heap_alloc_new _ _
theorem inDo_1 (v : Value) (w : World) : (inDo v w).heap[w.heap.size + 1]? = some (.cells #[.int .i64 0] 40 (0, 0)) := by
  unfold inDo
  rw [Below.heap_alloc _ _ _ (by simp)]
  have h := heap_alloc_new (w.alloc (.cells #[v] 43)) (.cells #[.int .i64 0] 40)
  have e : (w.alloc (.cells #[v] 43)).heap.size = w.heap.size + 1 := by simp
  rw [e] at h
  exact h
theorem inDo_2 (v : Value) (w : World) : (inDo v w).heap[w.heap.size + 2]? = some (.cells #[.int .i64 0] 28 (0, 0)) := by
  unfold inDo
  have h := heap_alloc_new ((w.alloc (.cells #[v] 43)).alloc (.cells #[.int .i64 0] 40)) (.cells #[.int .i64 0] 28)
  have e : ((w.alloc (.cells #[v] 43)).alloc (.cells #[.int .i64 0] 40)).heap.size = w.heap.size + 2 := by simp
  rw [e] at h
  exact h

set_option maxHeartbeats 400000 in
theorem do1_panics (b0 b1 : Nat) (f : FuncId) (cap : Array Value) (ch : List PanicEntry) (w : World) (Q : World → Prop) (hb : w.heap[b0]? = some (.cells #[.func (.func f) #[] cap] 43 (0, 0)))
    (hcall : ∀ w, (callFunc f cap).run Try.prog w = .ok (.enter f cap) w) (h : Calls Try.prog f cap w fun e w1 => e = .panicked ch ∧ Q w1) :
    Calls Try.prog 38 #[.pointer (some ⟨b0, 0, none⟩), .pointer (some ⟨b1, 0, none⟩)] w fun e w1 => e = .panicked ch ∧ Q w1 := by
  have c := cell_of_one hb
  have H := Lib.hid h
  clear hb h
  go_enter Try.func38, Try.ntmps38
  go_wp2_with fail
  refine (H.out).mono ?_
  rintro e w1 ⟨rfl, hq⟩
  have HQ := Lib.hid hq
  clear hq H
  go_wp2
  exact ⟨rfl, rfl, HQ.out⟩

set_option maxHeartbeats 400000 in
theorem do1_ret (b0 b1 : Nat) (f : FuncId) (cap : Array Value) (x : Int) (w : World) (Q : World → Prop) (hb : w.heap[b0]? = some (.cells #[.func (.func f) #[] cap] 43 (0, 0)))
    (hcall : ∀ w, (callFunc f cap).run Try.prog w = .ok (.enter f cap) w)
    (h : Calls Try.prog f cap w fun e w1 => e = .returned (.int .i64 x) ∧ Q w1 ∧ w1.heap[b1]? = some (.cells #[.int .i64 0] 40 (0, 0))) :
    Calls Try.prog 38 #[.pointer (some ⟨b0, 0, none⟩), .pointer (some ⟨b1, 0, none⟩)] w fun e w' => e = .returned (.tuple #[]) ∧ ∃ w1, Q w1 ∧ w1.heap[b1]? = some (.cells #[.int .i64 0] 40 (0, 0)) ∧ w' = w1.setCell ⟨b1, 0, none⟩ (.int .i64 x) := by
  have c := cell_of_one hb
  have H := Lib.hid h
  clear hb h
  go_enter Try.func38, Try.ntmps38
  go_wp2_with fail
  refine (H.out).mono ?_
  rintro e w1 ⟨rfl, hq, hb1⟩
  have HQ := Lib.hid hq
  have HB := Lib.hid hb1
  have c1 := cell_of_one hb1
  have f1 := free_of_one hb1
  clear hq H hb1
  go_wp2
  go_end0
  exact ⟨rfl, w1, HQ.out, HB.out, rfl⟩

theorem do_end (n : Nat) (x y : Value) (a b : Int) (w : World) (h1 : w.heap[n + 1]? = some (.cells #[x] 40 (0, 0))) (h2 : w.heap[n + 2]? = some (.cells #[y] 28 (0, 0))) :
    (((w.setCell ⟨n + 1 + 1, 0, none⟩ (.int .i64 a)).setCell ⟨n + 1, 0, none⟩ (.int .i64 b)).setCell ⟨n + 1 + 1, 0, none⟩ (.int .i64 a)).cell? ⟨n + 1, 0, none⟩ = some (.int .i64 b) ∧
    (((w.setCell ⟨n + 1 + 1, 0, none⟩ (.int .i64 a)).setCell ⟨n + 1, 0, none⟩ (.int .i64 b)).setCell ⟨n + 1 + 1, 0, none⟩ (.int .i64 a)).cell? ⟨n + 1 + 1, 0, none⟩ = some (.int .i64 a) ∧
    Below n w (((w.setCell ⟨n + 1 + 1, 0, none⟩ (.int .i64 a)).setCell ⟨n + 1, 0, none⟩ (.int .i64 b)).setCell ⟨n + 1 + 1, 0, none⟩ (.int .i64 a)).drew := by
  refine ⟨?_, ?_, ?_⟩
  · exact cell_of_one ((Below.heap_setCell _ _ _ _ (by simp)).trans (one_setCell ((Below.heap_setCell _ _ _ _ (by simp)).trans h1)))
  · exact cell_of_one (one_setCell ((Below.heap_setCell _ _ _ _ (by simp)).trans (one_setCell h2)))
  · exact ((((Below.refl n w).setCell (p := ⟨n + 1 + 1, 0, none⟩) (show n ≤ n + 1 + 1 by omega) _).setCell (p := ⟨n + 1, 0, none⟩) (show n ≤ n + 1 by omega) _).setCell (p := ⟨n + 1 + 1, 0, none⟩) (show n ≤ n + 1 + 1 by omega) _).drew

set_option maxRecDepth 100000 in
set_option maxHeartbeats 800000 in
theorem do_lost (f : FuncId) (cap : Array Value) (op : Int) (w : World) (Q : World → Prop) (hcall : ∀ w, (callFunc f cap).run Try.prog w = .ok (.enter f cap) w)
    (h : Calls Try.prog f cap (inRun (inDo (.func (.func f) #[] cap) w)) fun e w1 => e = lostAt op ∧ Q w1 ∧ Above w.heap.size (inRun (inDo (.func (.func f) #[] cap) w)) w1) :
    Calls Try.prog 23 #[.func (.func f) #[] cap] w fun e w' => e = .returned (.tuple #[.int .i64 0, .agg #[.int .i64 op], .bool true]) ∧ ∃ w1, Q w1 ∧ Below w.heap.size w1 w' := by
  have hz := inDo_size (.func (.func f) #[] cap) w
  have hzr := inRun_size (inDo (.func (.func f) #[] cap) w)
  have e0 := (inRun_old (inDo (.func (.func f) #[] cap) w) w.heap.size (by omega)).trans (inDo_0 _ _)
  have e1 := (inRun_old (inDo (.func (.func f) #[] cap) w) (w.heap.size + 1) (by omega)).trans (inDo_1 _ _)
  have e2 := (inRun_old (inDo (.func (.func f) #[] cap) w) (w.heap.size + 2) (by omega)).trans (inDo_2 _ _)
  have HR := Lib.hid (run_lost (inDo (.func (.func f) #[] cap) w).heap.size 38 _ op (inDo (.func (.func f) #[] cap) w) (Nat.le_refl _) (fun w1 => Q w1 ∧ Above w.heap.size (inRun (inDo (.func (.func f) #[] cap) w)) w1) (fun w => calls38 _ w)
    ((do1_panics w.heap.size (w.heap.size + 1) f cap _ _ (fun w1 => Q w1 ∧ Above w.heap.size (inRun (inDo (.func (.func f) #[] cap) w)) w1) e0 hcall h).mono (fun e w1 ⟨he, hq, ha⟩ => ⟨he, ⟨hq, ha⟩, ⟨ha.size, fun k hk hlt => ha.block k (by omega) hlt⟩⟩)))
  clear h hcall
  have E1 := Lib.hid e1
  have E2 := Lib.hid e2
  clear e0 e1 e2
  go_enter Try.func23, Try.ntmps23
  go_wp2_with fail
  refine (HR.out).mono ?_
  rintro e w' ⟨rfl, _, w1, ⟨hq, ha⟩, hb⟩
  have g1 := (hb.block (w.heap.size + 1) (by omega)).trans ((ha.block _ (by omega) (by omega)).trans E1.out)
  have g2 := (hb.block (w.heap.size + 2) (by omega)).trans ((ha.block _ (by omega) (by omega)).trans E2.out)
  have c1 := cell_of_one g1
  have c2 := cell_of_one g2
  have f1 := free_of_one g1
  have f2 := free_of_one g2
  have G1 := Lib.hid g1
  have G2 := Lib.hid g2
  have HQ := Lib.hid hq
  have HB := Lib.hid (hb.mono (B' := w.heap.size) (by omega))
  clear g1 g2 hq ha hb HR
  go_wp2
  go_region
  all_goals go_wp2
  obtain ⟨d1, d2, d3⟩ := do_end w.heap.size _ _ op 0 w' G1.out G2.out
  refine bodyPost_ret (v := .tuple #[.int .i64 0, .agg #[.int .i64 op], .bool true]) ?_ rfl ⟨rfl, w1, HQ.out, HB.out.trans d3⟩
  simp [results, Try.results23, go_sem, d1, d2]

set_option maxRecDepth 100000 in
set_option maxHeartbeats 800000 in
theorem do_ret (f : FuncId) (cap : Array Value) (x : Int) (w : World) (Q : World → Prop) (hcall : ∀ w, (callFunc f cap).run Try.prog w = .ok (.enter f cap) w)
    (h : Calls Try.prog f cap (inRun (inDo (.func (.func f) #[] cap) w)) fun e w1 => e = .returned (.int .i64 x) ∧ Q w1 ∧ Above w.heap.size (inRun (inDo (.func (.func f) #[] cap) w)) w1) :
    Calls Try.prog 23 #[.func (.func f) #[] cap] w fun e w' => e = .returned (.tuple #[.int .i64 x, .agg #[.int .i64 0], .bool false]) ∧ ∃ w1, Q w1 ∧ Below w.heap.size w1 w' := by
  have hz := inDo_size (.func (.func f) #[] cap) w
  have hzr := inRun_size (inDo (.func (.func f) #[] cap) w)
  have e0 := (inRun_old (inDo (.func (.func f) #[] cap) w) w.heap.size (by omega)).trans (inDo_0 _ _)
  have e1 := (inRun_old (inDo (.func (.func f) #[] cap) w) (w.heap.size + 1) (by omega)).trans (inDo_1 _ _)
  have e2 := (inRun_old (inDo (.func (.func f) #[] cap) w) (w.heap.size + 2) (by omega)).trans (inDo_2 _ _)
  have HR := Lib.hid (run_ret (inDo (.func (.func f) #[] cap) w).heap.size 38 _ (inDo (.func (.func f) #[] cap) w) (Nat.le_refl _)
    (fun w2 => ∃ w1, Q w1 ∧ Above w.heap.size (inRun (inDo (.func (.func f) #[] cap) w)) w1 ∧ w1.heap[w.heap.size + 1]? = some (.cells #[.int .i64 0] 40 (0, 0)) ∧ w2 = w1.setCell ⟨w.heap.size + 1, 0, none⟩ (.int .i64 x)) (fun w => calls38 _ w)
    ((do1_ret w.heap.size (w.heap.size + 1) f cap x _ (fun w1 => Q w1 ∧ Above w.heap.size (inRun (inDo (.func (.func f) #[] cap) w)) w1) e0 hcall
      (h.mono fun e w1 ⟨he, hq, ha⟩ => ⟨he, ⟨hq, ha⟩, (ha.block _ (by omega) (by omega)).trans e1⟩)).mono
      (fun e w2 ⟨he, w1, ⟨hq, ha⟩, hb1, hw⟩ => ⟨he, ⟨w1, hq, ha, hb1, hw⟩, by
        subst hw
        exact ⟨by simpa [World.setCell] using ha.size, fun k hk hlt => (Below.heap_setCell _ _ _ _ (by simp; omega)).trans (ha.block k (by omega) hlt)⟩⟩)))
  clear h hcall
  have E2 := Lib.hid e2
  clear e0 e1 e2
  go_enter Try.func23, Try.ntmps23
  go_wp2_with fail
  refine (HR.out).mono ?_
  rintro e w' ⟨rfl, _, w2, ⟨w1, hq, ha, hb1, rfl⟩, hb⟩
  have g1 := (hb.block (w.heap.size + 1) (by omega)).trans (one_setCell hb1)
  have g2 := (hb.block (w.heap.size + 2) (by omega)).trans ((Below.heap_setCell _ _ _ _ (by simp)).trans ((ha.block _ (by omega) (by omega)).trans E2.out))
  have c1 := cell_of_one g1
  have c2 := cell_of_one g2
  have f1 := free_of_one g1
  have f2 := free_of_one g2
  have G1 := Lib.hid g1
  have G2 := Lib.hid g2
  have HQ := Lib.hid hq
  have HB : Hid (Below w.heap.size w1 w') := Lib.hid (((Below.refl w.heap.size w1).setCell (p := ⟨w.heap.size + 1, 0, none⟩) (Nat.le_succ _) _).trans (hb.mono (B' := w.heap.size) (by omega)))
  clear g1 g2 hq ha hb HR hb1
  go_wp2
  go_region
  all_goals go_wp2
  obtain ⟨d1, d2, d3⟩ := do_end w.heap.size _ _ 0 x w' G1.out G2.out
  refine bodyPost_ret (v := .tuple #[.int .i64 x, .agg #[.int .i64 0], .bool false]) ?_ rfl ⟨rfl, w1, HQ.out, HB.out.trans d3⟩
  simp [results, Try.results23, go_sem, d1, d2]

set_option maxRecDepth 100000 in
set_option maxHeartbeats 800000 in
theorem do_other (f : FuncId) (cap : Array Value) (t : TypeId) (x : Value) (ht : ¬ t = 28) (w : World) (Q : World → Prop) (hcall : ∀ w, (callFunc f cap).run Try.prog w = .ok (.enter f cap) w)
    (h : Calls Try.prog f cap (inRun (inDo (.func (.func f) #[] cap) w)) fun e w1 => e = .panicked [{ v := .iface t x, recovered := false }] ∧ Q w1 ∧ Above w.heap.size (inRun (inDo (.func (.func f) #[] cap) w)) w1) :
    Calls Try.prog 23 #[.func (.func f) #[] cap] w fun e w' => e = .panicked [{ v := .iface t x, recovered := false }, { v := .iface t x, recovered := true }] ∧ ∃ w1, Q w1 ∧ Below w.heap.size w1 w' := by
  have hz := inDo_size (.func (.func f) #[] cap) w
  have e0 := (inRun_old (inDo (.func (.func f) #[] cap) w) w.heap.size (by omega)).trans (inDo_0 _ _)
  have HR := Lib.hid (run_other (inDo (.func (.func f) #[] cap) w).heap.size 38 _ t x ht (inDo (.func (.func f) #[] cap) w) (Nat.le_refl _) (fun w1 => Q w1 ∧ Above w.heap.size (inRun (inDo (.func (.func f) #[] cap) w)) w1) (fun w => calls38 _ w)
    ((do1_panics w.heap.size (w.heap.size + 1) f cap _ _ (fun w1 => Q w1 ∧ Above w.heap.size (inRun (inDo (.func (.func f) #[] cap) w)) w1) e0 hcall h).mono (fun e w1 ⟨he, hq, ha⟩ => ⟨he, ⟨hq, ha⟩, ⟨ha.size, fun k hk hlt => ha.block k (by omega) hlt⟩⟩)))
  clear h hcall e0 ht
  go_enter Try.func23, Try.ntmps23
  go_wp2_with fail
  refine (HR.out).mono ?_
  rintro e w' ⟨rfl, _, w1, ⟨hq, ha⟩, hb⟩
  have HQ := Lib.hid hq
  have HB := Lib.hid (hb.mono (B' := w.heap.size) (by omega))
  clear hq ha hb HR
  go_wp2
  exact ⟨rfl, rfl, w1, HQ.out, HB.out⟩

set_option maxHeartbeats 400000 in
theorem do_nil (w : World) : Calls Try.prog 23 #[.nilFunc] w fun e w' => e = .returned (.tuple #[.int .i64 0, .agg #[.int .i64 0], .bool false]) ∧ Below w.heap.size w w' := by
  go_enter Try.func23, Try.ntmps23
  go_wp2
  go_region
  all_goals go_wp2
  refine bodyPost_ret (v := .tuple #[.int .i64 0, .agg #[.int .i64 0], .bool false]) ?_ rfl ⟨rfl, ?_⟩
  · simp [results, Try.results23, go_sem]
  · exact ((((Below.refl _ _).alloc (Nat.le_refl _) _).alloc (by simp) _).alloc (by simp; omega) _).drew

end Go.Proofs.Ytehlacbebahmdaa
