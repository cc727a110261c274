/- guard.Lost, guard.Run's deferred function, guard.Run, by their contracts. -/
import Derived.Test.YtehlacbebahmdaaRows
import Derived.WalkKit
import Derived.WalkSpells
import Derived.WalkLawsBesides
import Derived.Laws.EntriesVeiled
import Derived.Defers
import Derived.Recover
import Derived.OneCell
import Derived.Lib.Hide
namespace Go.Proofs.Ytehlacbebahmdaa
open Go.RowKit

theorem run_makeFunc_try (fn : Fn) (first cap : Array Value) (w : World) : (Instr.makeFunc fn first cap).run Try.prog w = .ok (.func fn first cap) w := rfl
attribute [go_sem] run_makeFunc_try

theorem run_eql_func_nil {P : Program} (t : TypeId) {ps rs : Array TypeId} {v : Bool} (fn : Fn) (first cap : Array Value) (w : World) (h : P.underlying t = some (.func ps rs v)) :
    (binOp .eql t (.func fn first cap) .nilFunc).run P w = .ok (.bool false) w := by
  have h9 : ∀ d, (Op.equalIn (d + 1) t (.func fn first cap) .nilFunc).run P w = .ok false w := fun d => by simp [Op.equalIn, run_underlying h]
  simp only [binOp]
  simp [Op.equal, Op.maxDepth, h9 9999]
theorem run_eql_nilFunc_nil {P : Program} (t : TypeId) {ps rs : Array TypeId} {v : Bool} (w : World) (h : P.underlying t = some (.func ps rs v)) :
    (binOp .eql t .nilFunc .nilFunc).run P w = .ok (.bool true) w := by
  have h9 : ∀ d, (Op.equalIn (d + 1) t .nilFunc .nilFunc).run P w = .ok true w := fun d => by simp [Op.equalIn, run_underlying h]
  simp only [binOp]
  simp [Op.equal, Op.maxDepth, h9 9999]
theorem eql_func1 (fn : Fn) (first cap : Array Value) (w : World) : (binOp .eql 1 (.func fn first cap) .nilFunc).run Try.prog w = .ok (.bool false) w :=
  run_eql_func_nil 1 fn first cap w Try.underlying1
attribute [go_sem] eql_func1
theorem eql_nil1 (w : World) : (binOp .eql 1 .nilFunc .nilFunc).run Try.prog w = .ok (.bool true) w := run_eql_nilFunc_nil 1 w Try.underlying1
attribute [go_sem] eql_nil1
theorem eql_func43 (fn : Fn) (first cap : Array Value) (w : World) : (binOp .eql 43 (.func fn first cap) .nilFunc).run Try.prog w = .ok (.bool false) w :=
  run_eql_func_nil 43 fn first cap w Try.underlying43
attribute [go_sem] eql_func43
theorem eql_nil43 (w : World) : (binOp .eql 43 .nilFunc .nilFunc).run Try.prog w = .ok (.bool true) w := run_eql_nilFunc_nil 43 w Try.underlying43
attribute [go_sem] eql_nil43

theorem ta_crash (x : Value) (w : World) : (Instr.typeAssert (.iface 28 x) 20 28 true).run Try.prog w = .ok (.tuple #[x, .bool true]) w := by
  simp [Instr.typeAssert, run_underlying Try.underlying28]
attribute [go_sem] ta_crash
theorem ta_nil (w : World) : (Instr.typeAssert .nilIface 20 28 true).run Try.prog w = .ok (.tuple #[.agg #[.int .i64 0], .bool false]) w := by kernel_rfl
attribute [go_sem] ta_nil
theorem ta_other (t : TypeId) (x : Value) (w : World) (h : ¬ t = 28) : (Instr.typeAssert (.iface t x) 20 28 true).run Try.prog w = .ok (.tuple #[.agg #[.int .i64 0], .bool false]) w := by
  have hz : ∀ w, (zeroValue 28).run Try.prog w = .ok (.agg #[.int .i64 0]) w := fun w => by kernel_rfl
  simp [Instr.typeAssert, run_underlying Try.underlying28, h, hz]

/-- Behind a guard's deferred function: the crash and the flag are laid, and nothing else that was there has turned. -/
structure Caught (b c : Nat) (w w' : World) (op : Int) (t : Bool) : Prop where
  os : w'.os = w.os
  tape : w'.tape = w.tape
  output : w'.output = w.output
  size : w.heap.size ≤ w'.heap.size
  old : b < w.heap.size
  block : ∀ k, k < w.heap.size → k ≠ b → k ≠ c → w'.heap[k]? = w.heap[k]?
  first : w'.heap[b]? = some (.cells #[.int .i64 op] 28 (0, 0))
  second : w'.heap[c]? = some (.cells #[.bool t] 4 (0, 0))

theorem Caught.below {b : Nat} {w w' : World} {op : Int} {t : Bool} (h : Caught b (b + 1) w w' op t) : Below b w w' :=
  ⟨h.os, h.tape, h.output, h.size, fun k hk => by
    by_cases hz : k < w.heap.size
    · exact h.block k hz (by omega) (by omega)
    · have := h.old
      omega⟩

theorem caught_mk {b c : Nat} {w w1 : World} {op : Int} {t : Bool} {v0 v1 : Value} (h : Below w.heap.size w w1) (hB : b < w.heap.size) (hne : b < c) (k1 : w1.heap[b]? = some (.cells #[v0] 28 (0, 0))) (k2 : w1.heap[c]? = some (.cells #[v1] 4 (0, 0))) :
    Caught b c w ((w1.setCell ⟨b, 0, none⟩ (.int .i64 op)).setCell ⟨c, 0, none⟩ (.bool t)) op t := by
  refine ⟨h.os, h.tape, h.output, by simpa [World.setCell] using h.size, hB, fun k hk hb hc => ?_, ?_, ?_⟩
  · rw [Below.heap_setCell _ _ _ _ (by simpa using hc), Below.heap_setCell _ _ _ _ (by simpa using hb)]
    exact h.block k hk
  · rw [Below.heap_setCell _ _ _ _ (by simp; omega)]
    exact one_setCell k1
  · exact one_setCell (by rw [Below.heap_setCell _ _ _ _ (by simp; omega)]; exact k2)

set_option maxHeartbeats 400000 in
theorem lost_crash (op : Int) (w : World) :
    Calls Try.prog 25 #[.iface 28 (.agg #[.int .i64 op])] w fun e w' => e = .returned (.tuple #[.agg #[.int .i64 op], .bool true]) ∧ Below w.heap.size w w' := by
  go_enter Try.func25, Try.ntmps25
  go_wp2
  refine bodyPost_ret (v := .tuple #[.agg #[.int .i64 op], .bool true]) (by simp [results, Try.results25, go_sem]) rfl ⟨rfl, ?_⟩
  exact ((Below.refl _ _).alloc (Nat.le_refl _) _).alloc (by simp) _

set_option maxHeartbeats 400000 in
theorem lost_nil (w : World) :
    Calls Try.prog 25 #[.nilIface] w fun e w' => e = .returned (.tuple #[.agg #[.int .i64 0], .bool false]) ∧ Below w.heap.size w w' := by
  go_enter Try.func25, Try.ntmps25
  go_wp2
  refine bodyPost_ret (v := .tuple #[.agg #[.int .i64 0], .bool false]) (by simp [results, Try.results25, go_sem]) rfl ⟨rfl, ?_⟩
  exact ((Below.refl _ _).alloc (Nat.le_refl _) _).alloc (by simp) _

set_option maxHeartbeats 400000 in
theorem lost_other (t : TypeId) (x : Value) (w : World) (h : ¬ t = 28) :
    Calls Try.prog 25 #[.iface t x] w fun e w' => e = .returned (.tuple #[.agg #[.int .i64 0], .bool false]) ∧ Below w.heap.size w w' := by
  have hta := fun w => ta_other t x w h
  clear h
  go_enter Try.func25, Try.ntmps25
  go_wp2
  refine bodyPost_ret (v := .tuple #[.agg #[.int .i64 0], .bool false]) (by simp [results, Try.results25, go_sem]) rfl ⟨rfl, ?_⟩
  exact ((Below.refl _ _).alloc (Nat.le_refl _) _).alloc (by simp) _

/-- guard.Run's deferred function in a frame that returns: nothing turns. -/
theorem catch_idle (p q : Addr) (w : World) :
    CallsD Try.prog 37 #[.pointer (some p), .pointer (some q)] .returning w fun e u' w' => e = .returned (.tuple #[]) ∧ u' = .returning ∧ w' = w := by
  refine callsD_of_wpS Try.func37 rfl fun c₀ cs hu => ?_
  apply wpS_seq
  apply wpS_region
  simp [wpOpsS, go_sem, recoverD, hu, Try.ntmps37, Exit.thenS]
  refine wpS_of_wp ?_
  go_wp2
  refine ⟨rfl, .returning, ?_, _, results_none rfl _ _ _, rfl, rfl, rfl⟩
  cases c₀
  simp_all

theorem catch_crash (b c : Nat) (op : Int) (v0 v1 : Value) (older : List PanicEntry) (w : World) (hb : w.heap[b]? = some (.cells #[v0] 28 (0, 0))) (hc : w.heap[c]? = some (.cells #[v1] 4 (0, 0))) (hne : b < c) :
    CallsD Try.prog 37 #[.pointer (some ⟨b, 0, none⟩), .pointer (some ⟨c, 0, none⟩)] (.panicking ({ v := .iface 28 (.agg #[.int .i64 op]), recovered := false } :: older)) w fun e u' w' =>
      e = .returned (.tuple #[]) ∧ u' = .panicking ({ v := .iface 28 (.agg #[.int .i64 op]), recovered := true } :: older) ∧
      Caught b c w w' op true := by
  have hB := lt_of_block hb
  have hC := lt_of_block hc
  have Hb := Lib.hid hb
  have Hc := Lib.hid hc
  clear hb hc
  refine callsD_of_wpS Try.func37 rfl fun c₀ cs hu => ?_
  apply wpS_seq
  apply wpS_region
  simp [wpOpsS, go_sem, recoverD, hu, Try.ntmps37, Exit.thenS]
  refine wpS_of_wp ?_
  clear hu
  change Code.wp _ _ _ { tmps := #[.pointer (some ⟨b, 0, none⟩), .pointer (some ⟨c, 0, none⟩), .iface 28 (.agg #[.int .i64 op]), .iface 28 (.agg #[.int .i64 op]), undef, undef, undef, undef, undef, undef, undef, undef, undef, undef], defers := [] } _
  go_wp2_with fail
  refine (lost_crash op _).mono ?_
  rintro e w1 ⟨rfl, hb1⟩
  have k1 := (hb1.block b hB).trans Hb.out
  have k2 := (hb1.block c hC).trans Hc.out
  have c1 := cell_of_one k1
  have f1 := free_of_one k1
  have c2 := cell_of_one k2
  have f2 := free_of_one k2
  have K1 := Lib.hid k1
  have K2 := Lib.hid k2
  clear k1 k2
  go_wp2
  refine ⟨rfl, _, rfl, _, results_none rfl _ _ _, rfl, rfl, ?_⟩
  exact caught_mk hb1 hB hne K1.out K2.out

/-- guard.Run's deferred function where the panic is none of a crash: it goes on, as it is. -/
theorem catch_other (b c : Nat) (t : TypeId) (x : Value) (v0 v1 : Value) (older : List PanicEntry) (w : World) (ht : ¬ t = 28) (hb : w.heap[b]? = some (.cells #[v0] 28 (0, 0))) (hc : w.heap[c]? = some (.cells #[v1] 4 (0, 0))) (hne : b < c) :
    CallsD Try.prog 37 #[.pointer (some ⟨b, 0, none⟩), .pointer (some ⟨c, 0, none⟩)] (.panicking ({ v := .iface t x, recovered := false } :: older)) w fun e u' w' =>
      e = .panicked [{ v := .iface t x, recovered := false }] ∧ u' = .panicking ({ v := .iface t x, recovered := true } :: older) ∧
      Caught b c w w' 0 false := by
  have hB := lt_of_block hb
  have hC := lt_of_block hc
  have Hb := Lib.hid hb
  have Hc := Lib.hid hc
  have Ht := Lib.hid ht
  clear hb hc ht
  refine callsD_of_wpS Try.func37 rfl fun c₀ cs hu => ?_
  apply wpS_seq
  apply wpS_region
  simp [wpOpsS, go_sem, recoverD, hu, Try.ntmps37, Exit.thenS]
  refine wpS_of_wp ?_
  clear hu
  change Code.wp _ _ _ { tmps := #[.pointer (some ⟨b, 0, none⟩), .pointer (some ⟨c, 0, none⟩), .iface t x, .iface t x, undef, undef, undef, undef, undef, undef, undef, undef, undef, undef], defers := [] } _
  go_wp2_with fail
  refine (lost_other t x _ Ht.out).mono ?_
  rintro e w1 ⟨rfl, hb1⟩
  have k1 := (hb1.block b hB).trans Hb.out
  have k2 := (hb1.block c hC).trans Hc.out
  have c1 := cell_of_one k1
  have f1 := free_of_one k1
  have c2 := cell_of_one k2
  have f2 := free_of_one k2
  have K1 := Lib.hid k1
  have K2 := Lib.hid k2
  clear k1 k2
  go_wp2
  exact ⟨rfl, _, rfl, rfl, rfl, caught_mk hb1 hB hne K1.out K2.out⟩

/-- What a function value does when it is called, of which guard.Run tells: it returns, or panics with a crash, or with something else. -/
def RunTold (R : Ending → World → Prop) (B : Nat) (e : Ending) (w' : World) : Prop :=
  (∃ v w1, R (.returned v) w1 ∧ e = .returned (.tuple #[.agg #[.int .i64 0], .bool false]) ∧ Below B w1 w') ∨
  (∃ op w1, R (.panicked [{ v := .iface 28 (.agg #[.int .i64 op]), recovered := false }]) w1 ∧ e = .returned (.tuple #[.agg #[.int .i64 op], .bool true]) ∧ Below B w1 w') ∨
  (∃ t x w1, ¬ t = 28 ∧ R (.panicked [{ v := .iface t x, recovered := false }]) w1 ∧ e = .panicked [{ v := .iface t x, recovered := false }, { v := .iface t x, recovered := true }] ∧ Below B w1 w')

/-- The world in which guard.Run calls its function: two variables more. -/
def inRun (w : World) : World := (w.alloc (.cells #[.int .i64 0] 28)).alloc (.cells #[.bool false] 4)

/-- What a function that guard.Run calls may do: it ends in one of three ways, and leaves Run's two variables alone. -/
structure Fits (w : World) (R : Ending → World → Prop) : Prop where
  ways : ∀ e w1, R e w1 → (∃ v, e = .returned v) ∨ ∃ t x, e = .panicked [{ v := .iface t x, recovered := false }] ∧ (t = 28 → ∃ op, x = .agg #[.int .i64 op])
  size : ∀ e w1, R e w1 → w.heap.size + 1 < w1.heap.size
  first : ∀ e w1, R e w1 → w1.heap[w.heap.size]? = some (.cells #[.int .i64 0] 28 (0, 0))
  second : ∀ e w1, R e w1 → w1.heap[w.heap.size + 1]? = some (.cells #[.bool false] 4 (0, 0))

set_option maxHeartbeats 400000 in
theorem run_nil (w : World) : Calls Try.prog 18 #[.nilFunc] w fun e w' => e = .returned (.tuple #[.agg #[.int .i64 0], .bool false]) ∧ Below w.heap.size w w' := by
  go_enter Try.func18, Try.ntmps18
  go_wp2
  refine bodyPost_ret (v := .tuple #[.agg #[.int .i64 0], .bool false]) (by simp [results, Try.results18, go_sem]) rfl ⟨rfl, ?_⟩
  exact ((Below.refl _ _).alloc (Nat.le_refl _) _).alloc (by simp) _

set_option maxHeartbeats 400000 in
theorem run_any (f : FuncId) (cap : Array Value) (w : World) (R : Ending → World → Prop) (hcall : ∀ w, (callFunc f cap).run Try.prog w = .ok (.enter f cap) w) (h : Calls Try.prog f cap (inRun w) R) (hR : Fits w R) :
    Calls Try.prog 18 #[.func (.func f) #[] cap] w (RunTold R w.heap.size) := by
  have H := Lib.hid h
  have HR := Lib.hid hR
  clear h hR
  go_enter_defers Try.func18, Try.ntmps18
  go_wp2_with fail
  refine (H.out).mono ?_
  intro e w1 hr
  have hsz := HR.out.size e w1 hr
  have k1 := HR.out.first e w1 hr
  have k2 := HR.out.second e w1 hr
  have Hr := Lib.hid hr
  have c1 := cell_of_one k1
  have f1 := free_of_one k1
  have c2 := cell_of_one k2
  have f2 := free_of_one k2
  have K1 := Lib.hid k1
  have K2 := Lib.hid k2
  have W := Lib.hid (HR.out.ways e w1 hr)
  clear k1 k2 hr HR H
  rcases W.out with ⟨v, he⟩ | ⟨t, x, he, hx⟩
  · subst he
    clear W
    go_wp2
    refine leaves_cons (f := 37) (args := #[.pointer (some ⟨w.heap.size, 0, none⟩), .pointer (some ⟨w.heap.size + 1, 0, none⟩)]) (by simp) (by simp [go_sem]) ?_
    refine (catch_idle ⟨w.heap.size, 0, none⟩ ⟨w.heap.size + 1, 0, none⟩ _).mono ?_
    rintro e u' w'' ⟨rfl, rfl, rfl⟩
    have d1 : ((w1.setCell ⟨w.heap.size, 0, none⟩ (.int .i64 0)).setCell ⟨w.heap.size + 1, 0, none⟩ (.bool false)).cell? ⟨w.heap.size, 0, none⟩ = some (.int .i64 0) :=
      cell_of_one (by rw [Below.heap_setCell _ _ _ _ (by simp)]; exact one_setCell K1.out)
    have d2 : ((w1.setCell ⟨w.heap.size, 0, none⟩ (.int .i64 0)).setCell ⟨w.heap.size + 1, 0, none⟩ (.bool false)).cell? ⟨w.heap.size + 1, 0, none⟩ = some (.bool false) :=
      cell_of_one (one_setCell (by rw [Below.heap_setCell _ _ _ _ (by simp)]; exact K2.out))
    refine ⟨.tuple #[.agg #[.int .i64 0], .bool false], ?_, ?_⟩
    · simp [results, Try.results18, go_sem, d1, d2]
    · refine .inl ⟨v, w1, Hr.out, rfl, ?_⟩
      exact ((Below.refl w.heap.size w1).setCell (p := ⟨w.heap.size, 0, none⟩) (Nat.le_refl _) _).setCell (p := ⟨w.heap.size + 1, 0, none⟩) (Nat.le_succ _) _
  · subst he
    clear W
    go_wp2
    by_cases ht : t = 28
    · obtain ⟨op, rfl⟩ := hx ht
      subst ht
      refine leaves_cons (f := 37) (args := #[.pointer (some ⟨w.heap.size, 0, none⟩), .pointer (some ⟨w.heap.size + 1, 0, none⟩)]) (by simp) (by simp [go_sem]) ?_
      refine (catch_crash w.heap.size (w.heap.size + 1) op _ _ [] w1 K1.out K2.out (Nat.lt_succ_self _)).mono ?_
      rintro e u' w'' ⟨rfl, rfl, hc⟩
      have d1 := cell_of_one hc.first
      have d2 := cell_of_one hc.second
      refine ⟨.tuple #[.agg #[.int .i64 op], .bool true], ?_, ?_⟩
      · simp [results, Try.results18, go_sem, d1, d2]
      · exact .inr (.inl ⟨op, w1, Hr.out, rfl, hc.below⟩)
    · refine leaves_cons (f := 37) (args := #[.pointer (some ⟨w.heap.size, 0, none⟩), .pointer (some ⟨w.heap.size + 1, 0, none⟩)]) (by simp) (by simp [go_sem]) ?_
      refine (catch_other w.heap.size (w.heap.size + 1) t x _ _ [] w1 ht K1.out K2.out (Nat.lt_succ_self _)).mono ?_
      rintro e u' w'' ⟨rfl, rfl, hc⟩
      exact .inr (.inr ⟨t, x, w1, ht, Hr.out, rfl, hc.below⟩)

end Go.Proofs.Ytehlacbebahmdaa
