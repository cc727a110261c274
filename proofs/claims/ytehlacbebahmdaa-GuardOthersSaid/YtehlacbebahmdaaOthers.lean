/- GuardOthers: its functions by their contracts. -/
import Derived.Test.YtehlacbebahmdaaMeets
namespace Go.Proofs.Ytehlacbebahmdaa
open Go.RowKit

theorem calls26 (cap : Array Value) (w : World) : (callFunc 26 cap).run Try.prog w = .ok (.enter 26 cap) w := by simp [go_sem]
theorem calls27 (cap : Array Value) (w : World) : (callFunc 27 cap).run Try.prog w = .ok (.enter 27 cap) w := by simp [go_sem]
theorem calls28 (cap : Array Value) (w : World) : (callFunc 28 cap).run Try.prog w = .ok (.enter 28 cap) w := by simp [go_sem]
theorem calls30 (cap : Array Value) (w : World) : (callFunc 30 cap).run Try.prog w = .ok (.enter 30 cap) w := by simp [go_sem]

/-- What the functions hold: the value, the function that panics with it, the counter. -/
structure OthersAt (xb fb ab : Nat) (t : TypeId) (x : Value) (w : World) : Prop where
  hx : w.heap[xb]? = some (.cells #[.iface t x] 20 (0, 0))
  hf : w.heap[fb]? = some (.cells #[.func (.func 26) #[] #[.pointer (some ⟨xb, 0, none⟩)]] 1 (0, 0))
  ha : w.heap[ab]? = some (.cells #[.int .i64 0] 3 (0, 0))

theorem othersAt_below {xb fb ab : Nat} {t : TypeId} {x : Value} {w w' : World} (h : OthersAt xb fb ab t x w) (hb : Below w.heap.size w w') : OthersAt xb fb ab t x w' :=
  ⟨(hb.block _ (lt_of_block h.hx)).trans h.hx, (hb.block _ (lt_of_block h.hf)).trans h.hf, (hb.block _ (lt_of_block h.ha)).trans h.ha⟩

/-- The panic that goes on. -/
abbrev goesOn (t : TypeId) (x : Value) : Ending := .panicked [{ v := .iface t x, recovered := false }, { v := .iface t x, recovered := true }]

set_option maxHeartbeats 400000 in
theorem others_f (xb : Nat) (t : TypeId) (x : Value) (w : World) (hx : w.heap[xb]? = some (.cells #[.iface t x] 20 (0, 0))) :
    Calls Try.prog 26 #[.pointer (some ⟨xb, 0, none⟩)] w fun e w' => e = .panicked [{ v := .iface t x, recovered := false }] ∧ w = w' := by
  have c := cell_of_one hx
  clear hx
  go_enter Try.func26, Try.ntmps26
  go_wp2
  exact ⟨rfl, rfl, rfl⟩

theorem others_run (xb : Nat) (t : TypeId) (x : Value) (ht : ¬ t = 28) (w : World) (hx : w.heap[xb]? = some (.cells #[.iface t x] 20 (0, 0))) :
    Calls Try.prog 18 #[.func (.func 26) #[] #[.pointer (some ⟨xb, 0, none⟩)]] w fun e w' => e = goesOn t x ∧ Below w.heap.size w w' := by
  have hx1 := (inRun_old w _ (lt_of_block hx)).trans hx
  refine (run_other w.heap.size 26 _ t x ht w (Nat.le_refl _) (fun w1 => w1 = inRun w) (fun w => calls26 _ w) ((others_f xb t x _ hx1).mono ?_)).mono ?_
  · rintro e w1 ⟨rfl, rfl⟩
    exact ⟨rfl, rfl, Above.refl _ _⟩
  · rintro e w' ⟨rfl, _, w1, rfl, hb⟩
    exact ⟨rfl, (below_inRun w).trans hb⟩

set_option maxHeartbeats 400000 in
theorem others_27 (xb fb ab : Nat) (t : TypeId) (x : Value) (ht : ¬ t = 28) (w : World) (hA : OthersAt xb fb ab t x w) :
    Calls Try.prog 27 #[.pointer (some ⟨fb, 0, none⟩)] w fun e w' => e = goesOn t x ∧ Below w.heap.size w w' := by
  have c := cell_of_one hA.hf
  have HR := Lib.hid (others_run xb t x ht w hA.hx)
  clear hA ht
  go_enter Try.func27, Try.ntmps27
  go_wp2_with fail
  refine (HR.out).mono ?_
  rintro e w1 ⟨rfl, hb⟩
  have HB := Lib.hid hb
  clear hb HR
  go_wp2
  exact ⟨rfl, rfl, HB.out⟩

set_option maxHeartbeats 400000 in
theorem others_29 (xb fb : Nat) (t : TypeId) (x : Value) (w : World) (hx : w.heap[xb]? = some (.cells #[.iface t x] 20 (0, 0)))
    (hf : w.heap[fb]? = some (.cells #[.func (.func 26) #[] #[.pointer (some ⟨xb, 0, none⟩)]] 1 (0, 0))) :
    Calls Try.prog 29 #[.pointer (some ⟨fb, 0, none⟩)] w fun e w' => e = .panicked [{ v := .iface t x, recovered := false }] ∧ w = w' := by
  have c := cell_of_one hf
  have HR := Lib.hid (others_f xb t x w hx)
  clear hf hx
  go_enter Try.func29, Try.ntmps29
  go_wp2_with fail
  refine (HR.out).mono ?_
  rintro e w1 ⟨rfl, rfl⟩
  go_wp2
  exact ⟨rfl, rfl, rfl⟩

set_option maxHeartbeats 400000 in
theorem others_28 (xb fb ab : Nat) (t : TypeId) (x : Value) (ht : ¬ t = 28) (w : World) (hA : OthersAt xb fb ab t x w) :
    Calls Try.prog 28 #[.pointer (some ⟨fb, 0, none⟩)] w fun e w' => e = goesOn t x ∧ Below w.heap.size w w' := by
  have hbb := (below_inDo (.func (.func 29) #[] #[.pointer (some ⟨fb, 0, none⟩)]) w).trans ((below_inRun (inDo (.func (.func 29) #[] #[.pointer (some ⟨fb, 0, none⟩)]) w)).mono (by rw [inDo_size]; omega))
  have hA1 := othersAt_below hA hbb
  have HR := Lib.hid (do_other 29 #[.pointer (some ⟨fb, 0, none⟩)] t x ht w (fun w1 => w1 = inRun (inDo (.func (.func 29) #[] #[.pointer (some ⟨fb, 0, none⟩)]) w)) (fun w => calls29 _ w)
    ((others_29 xb fb t x _ hA1.hx hA1.hf).mono fun e w1 ⟨he, hw⟩ => ⟨he, hw.symm, hw ▸ Above.refl _ _⟩))
  have HBB := Lib.hid hbb
  clear hA hA1 ht hbb
  go_enter Try.func28, Try.ntmps28
  go_wp2_with fail
  refine (HR.out).mono ?_
  rintro e w2 ⟨rfl, w1, rfl, hb⟩
  have HB := Lib.hid (HBB.out.trans hb)
  clear hb HR
  go_wp2
  exact ⟨rfl, rfl, HB.out⟩

set_option maxHeartbeats 400000 in
theorem others_30 (xb fb ab : Nat) (t : TypeId) (x : Value) (ht : ¬ t = 28) (w : World) (hA : OthersAt xb fb ab t x w) :
    Calls Try.prog 30 #[.pointer (some ⟨fb, 0, none⟩), .pointer (some ⟨ab, 0, none⟩)] w fun e w' => e = goesOn t x ∧ Below w.heap.size w w' := by
  have c := cell_of_one hA.hf
  have hs : (w.alloc (.cells #[.func (.func 26) #[] #[.pointer (some ⟨xb, 0, none⟩)], .func (.func 31) #[] #[.pointer (some ⟨ab, 0, none⟩)]] 1)).heap[w.heap.size]? = _ := heap_alloc_new _ _
  have hA1 := othersAt_below hA ((Below.refl w.heap.size w).alloc (Nat.le_refl _) (.cells #[.func (.func 26) #[] #[.pointer (some ⟨xb, 0, none⟩)], .func (.func 31) #[] #[.pointer (some ⟨ab, 0, none⟩)]] 1))
  have HR : Hid (Calls Try.prog 12 #[.slice (some ⟨w.heap.size, 0, none⟩) 2 2] (w.alloc (.cells #[.func (.func 26) #[] #[.pointer (some ⟨xb, 0, none⟩)], .func (.func 31) #[] #[.pointer (some ⟨ab, 0, none⟩)]] 1)) fun e w' => e = goesOn t x ∧ Below w.heap.size w w') := by
    refine Lib.hid ?_
    generalize hW : w.alloc (.cells #[.func (.func 26) #[] #[.pointer (some ⟨xb, 0, none⟩)], .func (.func 31) #[] #[.pointer (some ⟨ab, 0, none⟩)]] 1) = W at *
    have hWs : W.heap.size = w.heap.size + 1 := by rw [← hW]; simp
    have hbW : Below w.heap.size w W := by rw [← hW]; exact (Below.refl w.heap.size w).alloc (Nat.le_refl _) _
    refine (row_any w.heap.size 0 2 2 (fun j => if j = 0 then .func (.func 26) #[] #[.pointer (some ⟨xb, 0, none⟩)] else .func (.func 31) #[] #[.pointer (some ⟨ab, 0, none⟩)]) W
      (fun j w1 => j = 0 ∧ Below W.heap.size W w1) (fun _ _ _ => False) (fun ch w1 => ch = [{ v := .iface t x, recovered := false }, { v := .iface t x, recovered := true }] ∧ Below w.heap.size w w1) (by omega) ?_ ?_ ?_ ?_ ⟨rfl, Below.refl _ _⟩).mono ?_
    · rintro j w1 hj ⟨rfl, h1⟩
      have e := (h1.block w.heap.size (by omega)).trans hs
      simp [World.cell?, e]
    · rintro j w1 w2 ⟨h0, h1⟩ h2
      exact ⟨h0, h1.trans h2⟩
    · intro j op w1 w2 h1 _
      exact h1
    · rintro j w1 hj hsz ⟨rfl, h1⟩
      simp only [if_true]
      refine (others_run xb t x ht w1 ((h1.block xb (lt_of_block hA1.hx)).trans hA1.hx)).mono ?_
      rintro e w' ⟨rfl, h2⟩
      exact ⟨Above.of_below h2, .inr (.inr ⟨_, rfl, rfl, hbW.trans ((h1.mono (by omega)).trans (h2.mono (by omega)))⟩)⟩
    · rintro e w' ⟨_, ⟨_, h, _⟩ | ⟨_, _, _, _, h⟩ | ⟨ch, he, hch, h⟩⟩
      · omega
      · exact h.elim
      · subst hch
        exact ⟨he, h⟩
  clear hA hA1 ht hs
  go_enter Try.func30, Try.ntmps30
  go_wp2_with fail
  refine (HR.out).mono ?_
  rintro e w1 ⟨rfl, hb⟩
  have HB := Lib.hid hb
  clear hb HR
  go_wp2
  exact ⟨rfl, rfl, HB.out⟩

/-- The three functions that are met. -/
def othersFn (fb ab : Nat) : Nat → Value
  | 0 => .func (.func 27) #[] #[.pointer (some ⟨fb, 0, none⟩)]
  | 1 => .func (.func 28) #[] #[.pointer (some ⟨fb, 0, none⟩)]
  | _ => .func (.func 30) #[] #[.pointer (some ⟨fb, 0, none⟩), .pointer (some ⟨ab, 0, none⟩)]

theorem others_meets1 (f : FuncId) (cap : Array Value) (t : TypeId) (x : Value) (w : World) (hcall : ∀ w, (callFunc f cap).run Try.prog w = .ok (.enter f cap) w)
    (h : Calls Try.prog f cap (w.alloc (.cells #[.nilIface] 20)) fun e w' => e = goesOn t x ∧ Below (w.alloc (.cells #[.nilIface] 20)).heap.size (w.alloc (.cells #[.nilIface] 20)) w') :
    Calls Try.prog 32 #[.func (.func f) #[] cap] w fun e w' => e = .returned (.iface t x) ∧ Below w.heap.size w w' := by
  refine (meets_any f cap t x (.iface t x) [{ v := .iface t x, recovered := true }] (.inr rfl) w (fun w1 => Below (w.alloc (.cells #[.nilIface] 20)).heap.size (w.alloc (.cells #[.nilIface] 20)) w1) hcall (h.mono ?_)).mono ?_
  · rintro e w1 ⟨rfl, hb⟩
    exact ⟨rfl, hb, (hb.block _ (by simp)).trans (heap_alloc_new _ _)⟩
  · rintro e w' ⟨rfl, w1, hb, rfl⟩
    exact ⟨rfl, (((Below.refl w.heap.size w).alloc (Nat.le_refl _) _).trans (hb.mono (by simp))).setCell (p := ⟨w.heap.size, 0, none⟩) (Nat.le_refl _) _⟩

theorem others_meets (xb fb ab k : Nat) (t : TypeId) (x : Value) (ht : ¬ t = 28) (w : World) (hA : OthersAt xb fb ab t x w) :
    Calls Try.prog 32 #[othersFn fb ab k] w fun e w' => e = .returned (.iface t x) ∧ Below w.heap.size w w' := by
  have hA1 := othersAt_below hA ((Below.refl w.heap.size w).alloc (Nat.le_refl _) (.cells #[.nilIface] 20))
  match k with
  | 0 => exact others_meets1 27 _ t x w (fun w => calls27 _ w) (others_27 xb fb ab t x ht _ hA1)
  | 1 => exact others_meets1 28 _ t x w (fun w => calls28 _ w) (others_28 xb fb ab t x ht _ hA1)
  | _ + 2 => exact others_meets1 30 _ t x w (fun w => calls30 _ w) (others_30 xb fb ab t x ht _ hA1)

theorem mi9 (x : Value) (w : World) : (Instr.makeInterface 9 x).run Try.prog w = .ok (.iface 9 x) w := by simp [Instr.makeInterface, run_underlying Try.underlying9]
attribute [go_sem] mi9
theorem mi3 (x : Value) (w : World) : (Instr.makeInterface 3 x).run Try.prog w = .ok (.iface 3 x) w := by simp [Instr.makeInterface, run_underlying Try.underlying3]
attribute [go_sem] mi3
theorem mi40 (x : Value) (w : World) : (Instr.makeInterface 40 x).run Try.prog w = .ok (.iface 40 x) w := by simp [Instr.makeInterface, run_underlying Try.underlying40]
attribute [go_sem] mi40
theorem mi45 (x : Value) (w : World) : (Instr.makeInterface 45 x).run Try.prog w = .ok (.iface 45 x) w := by simp [Instr.makeInterface, run_underlying Try.underlying45]
attribute [go_sem] mi45

theorem neq_same {t : TypeId} {x : Value} (hc : ((Try.prog.info? t).map (·.comparable)) = some true) (he : ∀ d w, (Op.equalIn (d + 1) t x x).run Try.prog w = .ok true w) (w : World) : (binOp .neq 20 (.iface t x) (.iface t x)).run Try.prog w = .ok (.bool false) w := by
  obtain ⟨i, hi, hic⟩ : ∃ i, Try.prog.info? t = some i ∧ i.comparable = true := by
    cases h : Try.prog.info? t with
    | none => simp [h] at hc
    | some i => exact ⟨i, rfl, by simpa [h] using hc⟩
  have h9 : ∀ d, (Op.equalIn (d + 1 + 1) 20 (.iface t x) (.iface t x)).run Try.prog w = .ok true w := fun d => by
    rw [Op.equalIn]
    simp [run_underlying Try.underlying20, typeInfo, hi, hic, he]
  simp only [binOp]
  simp [Op.equal, Op.maxDepth, h9 9998]

theorem same9 (s : ByteArray) (d : Nat) (w : World) : (Op.equalIn (d + 1) 9 (.string s) (.string s)).run Try.prog w = .ok true w := by
  have hs : (s == s) = true := by obtain ⟨a⟩ := s; show (a == a) = true; simp
  simp [Op.equalIn, run_underlying Try.underlying9, hs]
theorem same3 (n : Int) (d : Nat) (w : World) : (Op.equalIn (d + 1) 3 (.int .i64 n) (.int .i64 n)).run Try.prog w = .ok true w := by
  simp [Op.equalIn, run_underlying Try.underlying3]
theorem same40 (n : Int) (d : Nat) (w : World) : (Op.equalIn (d + 1) 40 (.int .i64 n) (.int .i64 n)).run Try.prog w = .ok true w := by
  simp [Op.equalIn, run_underlying Try.underlying40]
theorem same45 (b : Nat) (d : Nat) (w : World) : (Op.equalIn (d + 1) 45 (.pointer (some ⟨b, 0, none⟩)) (.pointer (some ⟨b, 0, none⟩))).run Try.prog w = .ok true w := by
  have hs : ∀ w, (sizeOf 28).run Try.prog w = .ok 1 w := fun w => by kernel_rfl
  simp [Op.equalIn, run_underlying Try.underlying45, hs, sameAddr]

end Go.Proofs.Ytehlacbebahmdaa
