/- meets (what a call panics with), by its contract; guard.Row of nothing. -/
import Derived.Test.YtehlacbebahmdaaDo
namespace Go.Proofs.Ytehlacbebahmdaa
open Go.RowKit

/-- meets' deferred function, where the call panicked. -/
theorem meets_catch (b : Nat) (t : TypeId) (x : Value) (v0 : Value) (older : List PanicEntry) (w : World) (hb : w.heap[b]? = some (.cells #[v0] 20 (0, 0))) :
    CallsD Try.prog 39 #[.pointer (some ⟨b, 0, none⟩)] (.panicking ({ v := .iface t x, recovered := false } :: older)) w fun e u' w' =>
      e = .returned (.tuple #[]) ∧ u' = .panicking ({ v := .iface t x, recovered := true } :: older) ∧ w' = w.setCell ⟨b, 0, none⟩ (.iface t x) := by
  have c := cell_of_one hb
  have f := free_of_one hb
  clear hb
  refine callsD_of_wpS Try.func39 rfl fun c₀ cs hu => ?_
  apply wpS_region
  simp [wpOpsS, go_sem, recoverD, hu, Try.ntmps39, c, f, bodyPostS, results, Try.results39]

theorem settle_clear (v w : Value) (older : List PanicEntry) (h : older = [] ∨ older = [{ v := w, recovered := true }]) : settle (.panicking ({ v := v, recovered := true } :: older)) = .returning := by
  rcases h with rfl | rfl <;> simp [settle]

set_option maxHeartbeats 400000 in
theorem meets_any (f : FuncId) (cap : Array Value) (t : TypeId) (x y : Value) (older : List PanicEntry) (ho : older = [] ∨ older = [{ v := y, recovered := true }]) (w : World) (Q : World → Prop) (hcall : ∀ w, (callFunc f cap).run Try.prog w = .ok (.enter f cap) w)
    (h : Calls Try.prog f cap (w.alloc (.cells #[.nilIface] 20)) fun e w1 => e = .panicked ({ v := .iface t x, recovered := false } :: older) ∧ Q w1 ∧ w1.heap[w.heap.size]? = some (.cells #[.nilIface] 20 (0, 0))) :
    Calls Try.prog 32 #[.func (.func f) #[] cap] w fun e w' => e = .returned (.iface t x) ∧ ∃ w1, Q w1 ∧ w' = w1.setCell ⟨w.heap.size, 0, none⟩ (.iface t x) := by
  have H := Lib.hid h
  have HO := Lib.hid ho
  clear h ho
  go_enter_defers Try.func32, Try.ntmps32
  go_wp2_with fail
  refine (H.out).mono ?_
  rintro e w1 ⟨rfl, hq, hb⟩
  have HQ := Lib.hid hq
  have HB := Lib.hid hb
  clear hq H hb
  go_wp2
  refine leaves_cons (f := 39) (args := #[.pointer (some ⟨w.heap.size, 0, none⟩)]) (by simp) (by simp [go_sem]) ?_
  refine (meets_catch w.heap.size t x _ older w1 HB.out).mono ?_
  rintro e u' w' ⟨rfl, rfl, rfl⟩
  have d := cell_of_one (one_setCell (u := .iface t x) HB.out)
  show Leaves _ _ _ _ _ (settle _) _
  rw [settle_clear _ y older HO.out]
  exact ⟨.iface t x, by simp [results, Try.results32, go_sem, d], rfl, w1, HQ.out, rfl⟩

set_option maxHeartbeats 400000 in
theorem row_none (w : World) : Calls Try.prog 12 #[.slice none 0 0] w fun e w' => e = .returned (.tuple #[.int .i64 0, .agg #[.int .i64 0], .bool false]) ∧ Below w.heap.size w w' := by
  go_enter Try.func12, Try.ntmps12
  go_wp2
  refine wp_loop_rounds 1 ?_
  rw [rounds_succ]
  go_wp2
  refine bodyPost_ret (v := .tuple #[.int .i64 0, .agg #[.int .i64 0], .bool false]) (by simp [results, Try.results12, go_sem]) rfl ⟨rfl, ?_⟩
  exact (Below.refl _ _).alloc (Nat.le_refl _) _

theorem row_nils (b : Nat) (w : World) (hb : w.heap[b]? = some (.cells #[.nilFunc, .nilFunc] 1 (0, 0))) :
    Calls Try.prog 12 #[.slice (some ⟨b, 0, none⟩) 2 2] w fun e w' => e = .returned (.tuple #[.int .i64 2, .agg #[.int .i64 0], .bool false]) ∧ Below w.heap.size w w' := by
  refine (row_any b 0 2 2 (fun _ => .nilFunc) w (fun _ w1 => Below w.heap.size w w1) (fun _ _ _ => False) (fun _ _ => False) (by omega) ?_ ?_ ?_ ?_ (Below.refl _ _)).mono ?_
  · intro j w1 hj h1
    have e := (h1.block b (lt_of_block hb)).trans hb
    rcases j with _ | _ | j
    · simp [World.cell?, e]
    · simp [World.cell?, e]
    · omega
  · intro j w1 w2 h1 h2
    exact h1.trans h2
  · intro j op w1 w2 h1 _
    exact h1
  · intro j w1 hj hsz h1
    refine (run_nil w1).mono ?_
    rintro e w' ⟨rfl, h2⟩
    exact ⟨Above.of_below h2, .inl ⟨rfl, h1.trans (h2.mono hsz)⟩⟩
  · rintro e w' ⟨_, ⟨he, h⟩ | ⟨_, _, _, _, h⟩ | ⟨_, _, h⟩⟩
    · exact ⟨he, h⟩
    · exact h.elim
    · exact h.elim

end Go.Proofs.Ytehlacbebahmdaa
