/- GuardLost: the law's walk. -/
import Derived.Test.YtehlacbebahmdaaMeets
namespace Go.Proofs.Ytehlacbebahmdaa
open Go.RowKit

theorem calls33 (cap : Array Value) (w : World) : (callFunc 33 cap).run Try.prog w = .ok (.enter 33 cap) w := by simp [go_sem]

set_option maxHeartbeats 400000 in
theorem lost_fn (ob : Nat) (op : Int) (w : World) (hm : w.heap[ob]? = some (.cells #[.int .i64 op] 3 (0, 0))) :
    Calls Try.prog 33 #[.pointer (some ⟨ob, 0, none⟩)] w fun e w' => e = lostAt op ∧ w = w' := by
  have c := cell_of_one hm
  clear hm
  go_enter Try.func33, Try.ntmps33
  go_wp2_with fail
  refine (lose_any _ _).mono ?_
  rintro e w' ⟨rfl, rfl⟩
  go_wp2
  exact ⟨rfl, rfl, rfl⟩

theorem lost_meets (ob : Nat) (op : Int) (w : World) (hm : w.heap[ob]? = some (.cells #[.int .i64 op] 3 (0, 0))) :
    Calls Try.prog 32 #[.func (.func 33) #[] #[.pointer (some ⟨ob, 0, none⟩)]] w fun e w' => e = .returned (.iface 28 (.agg #[.int .i64 op])) ∧ Below w.heap.size w w' := by
  have hm1 := (Below.heap_alloc w (.cells #[.nilIface] 20) _ (lt_of_block hm)).trans hm
  refine (meets_any 33 _ 28 (.agg #[.int .i64 op]) .nilIface [] (.inl rfl) w (fun w1 => w1 = w.alloc (.cells #[.nilIface] 20)) (fun w => calls33 _ w)
    ((lost_fn ob op _ hm1).mono ?_)).mono ?_
  · rintro e w1 ⟨rfl, rfl⟩
    exact ⟨rfl, rfl, heap_alloc_new _ _⟩
  · rintro e w' ⟨rfl, w1, rfl, rfl⟩
    exact ⟨rfl, ((Below.refl w.heap.size w).alloc (Nat.le_refl _) _).setCell (p := ⟨w.heap.size, 0, none⟩) (Nat.le_refl _) _⟩

/-- What holds of an old block holds behind a call that turns nothing old, and behind a new block. -/
theorem keep_call {w w' : World} {b : Nat} {o : Obj} (h : w.heap[b]? = some o) (hb : Below w.heap.size w w') : w'.heap[b]? = some o := (hb.block b (lt_of_block h)).trans h
theorem keep_new {w : World} {b : Nat} {o : Obj} (h : w.heap[b]? = some o) (o' : Obj) : (w.alloc o').heap[b]? = some o := (Below.heap_alloc _ _ _ (lt_of_block h)).trans h
theorem below_call {B : Nat} {a w w' : World} (h : Below B a w) (hB : B ≤ w.heap.size) (hb : Below w.heap.size w w') : Below B a w' := h.trans (hb.mono hB)

set_option maxRecDepth 100000 in
set_option maxHeartbeats 2000000 in
theorem lost_walk (op : Int) (w : World) :
    Calls Try.prog 9 #[.int .i64 op] w fun e w' => e = .returned (.bool true) ∧ Below w.heap.size w w' := by
  go_enter Try.func9, Try.ntmps9
  go_wp2_with fail
  refine (lost_meets w.heap.size op _ (heap_alloc_new _ _)).mono ?_
  rintro e w1 ⟨rfl, hb⟩
  have B1 := Lib.hid (below_call ((Below.refl w.heap.size w).alloc (Nat.le_refl _) (.cells #[.int .i64 op] 3)) (by simp) hb)
  have K0 := Lib.hid (keep_call (heap_alloc_new w (.cells #[.int .i64 op] 3)) hb)
  clear hb
  go_wp2_with fail
  refine (lost_crash op _).mono ?_
  rintro e w2 ⟨rfl, hb⟩
  have B2 := Lib.hid ((below_call B1.out B1.out.size hb).alloc (Nat.le_trans B1.out.size hb.size) (.cells #[.int .i64 op] 28))
  have K1 := Lib.hid (keep_new (keep_call K0.out hb) (.cells #[.int .i64 op] 28))
  have L1 := Lib.hid (heap_alloc_new w2 (.cells #[.int .i64 op] 28))
  clear hb
  go_wp2_with fail
  refine (lost_nil _).mono ?_
  rintro e w3 ⟨rfl, hb⟩
  have B3 := Lib.hid ((below_call B2.out B2.out.size hb).alloc (Nat.le_trans B2.out.size hb.size) (.cells #[.int .i64 0] 28))
  have K2 := Lib.hid (keep_new (keep_call K1.out hb) (.cells #[.int .i64 0] 28))
  have L2 := Lib.hid (keep_new (keep_call L1.out hb) (.cells #[.int .i64 0] 28))
  clear hb
  go_wp2_with fail
  refine (run_nil _).mono ?_
  rintro e w4 ⟨rfl, hb⟩
  have B4 := Lib.hid ((below_call B3.out B3.out.size hb).alloc (Nat.le_trans B3.out.size hb.size) (.cells #[.int .i64 0] 28))
  have K3 := Lib.hid (keep_new (keep_call K2.out hb) (.cells #[.int .i64 0] 28))
  have L3 := Lib.hid (keep_new (keep_call L2.out hb) (.cells #[.int .i64 0] 28))
  have M3 := Lib.hid (heap_alloc_new w4 (.cells #[.int .i64 0] 28))
  clear hb
  go_wp2_with fail
  refine (do_nil _).mono ?_
  rintro e w5 ⟨rfl, hb⟩
  have B5 := Lib.hid ((below_call B4.out B4.out.size hb).alloc (Nat.le_trans B4.out.size hb.size) (.cells #[.int .i64 0] 28))
  have K4 := Lib.hid (keep_new (keep_call K3.out hb) (.cells #[.int .i64 0] 28))
  have L4 := Lib.hid (keep_new (keep_call L3.out hb) (.cells #[.int .i64 0] 28))
  have M4 := Lib.hid (keep_new (keep_call M3.out hb) (.cells #[.int .i64 0] 28))
  have N4 := Lib.hid (heap_alloc_new w5 (.cells #[.int .i64 0] 28))
  clear hb
  go_wp2_with fail
  refine (row_none _).mono ?_
  rintro e w6 ⟨rfl, hb⟩
  have B6 := Lib.hid (((below_call B5.out B5.out.size hb).alloc (Nat.le_trans B5.out.size hb.size) (.cells #[.int .i64 0] 28)))
  have K5 := Lib.hid (keep_new (keep_call K4.out hb) (.cells #[.int .i64 0] 28))
  have L5 := Lib.hid (keep_new (keep_call L4.out hb) (.cells #[.int .i64 0] 28))
  have M5 := Lib.hid (keep_new (keep_call M4.out hb) (.cells #[.int .i64 0] 28))
  have N5 := Lib.hid (keep_new (keep_call N4.out hb) (.cells #[.int .i64 0] 28))
  have O5 := Lib.hid (heap_alloc_new w6 (.cells #[.int .i64 0] 28))
  clear hb
  go_wp2_with fail
  have hnn : ((w6.alloc (.cells #[.int .i64 0] 28)).alloc (.cells #[.nilFunc, .nilFunc] 1)).heap[w6.heap.size + 1]? = some (.cells #[.nilFunc, .nilFunc] 1 (0, 0)) := by
    have h := heap_alloc_new (w6.alloc (.cells #[.int .i64 0] 28)) (.cells #[.nilFunc, .nilFunc] 1)
    have e : (w6.alloc (.cells #[.int .i64 0] 28)).heap.size = w6.heap.size + 1 := by simp
    rw [e] at h
    exact h
  refine (row_nils _ _ hnn).mono ?_
  rintro e w7 ⟨rfl, hb⟩
  have B7 := Lib.hid (((below_call (B6.out.alloc B6.out.size _) (Nat.le_trans B6.out.size (by simp)) hb).alloc (Nat.le_trans (Nat.le_trans B6.out.size (by simp)) hb.size) (.cells #[.int .i64 0] 28)))
  have K6 := Lib.hid (keep_new (keep_call (keep_new K5.out _) hb) (.cells #[.int .i64 0] 28))
  have L6 := Lib.hid (keep_new (keep_call (keep_new L5.out _) hb) (.cells #[.int .i64 0] 28))
  have M6 := Lib.hid (keep_new (keep_call (keep_new M5.out _) hb) (.cells #[.int .i64 0] 28))
  have N6 := Lib.hid (keep_new (keep_call (keep_new N5.out _) hb) (.cells #[.int .i64 0] 28))
  have O6 := Lib.hid (keep_new (keep_call (keep_new O5.out _) hb) (.cells #[.int .i64 0] 28))
  have P6 := Lib.hid (heap_alloc_new w7 (.cells #[.int .i64 0] 28))
  clear hb hnn
  go_wp2_with fail
  refine (alive_any _).mono ?_
  rintro e w8 ⟨rfl, hb⟩
  have B8 := Lib.hid (below_call B7.out B7.out.size hb)
  have ck := cell_of_one (keep_call K6.out hb)
  have cl := cell_of_one (keep_call L6.out hb)
  have cm := cell_of_one (keep_call M6.out hb)
  have cn := cell_of_one (keep_call N6.out hb)
  have co := cell_of_one (keep_call O6.out hb)
  have cp := cell_of_one (keep_call P6.out hb)
  clear hb
  go_wp2
  go_ret
  exact ⟨rfl, B8.out⟩

/-- GuardLost, whatever its number. -/
theorem guardLost_walk {W : World} (op : Int) (_wo : (Lit.int .i64 op).wf = true) :
    Calls Try.prog 9 #[.int .i64 op] W fun e w' => e = .returned (.bool true) ∧ Below W.heap.size W w' := lost_walk op W

end Go.Proofs.Ytehlacbebahmdaa
