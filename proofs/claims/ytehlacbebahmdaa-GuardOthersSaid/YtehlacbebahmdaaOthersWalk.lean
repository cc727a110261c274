/- GuardOthers: the law's walk. -/
import Derived.Test.YtehlacbebahmdaaOthers
import Derived.Deep.RegionWith
import Derived.Deep.Draws
namespace Go.Proofs.Ytehlacbebahmdaa
open Go.RowKit

theorem keep_block {w w' : World} {b : Nat} {o : Obj} (h : w.heap[b]? = some o) (hb : Below w.heap.size w w') : w'.heap[b]? = some o := (hb.block b (lt_of_block h)).trans h

theorem below_drewN {B : Nat} {a w : World} (h : Below B a w) (n : Nat) : Below B a (w.drewN n) := ⟨h.os, h.tape, h.output, h.size, h.block⟩

/-- The four values: each with its type. -/
def othersVal (s : ByteArray) (n : Int) (pb : Nat) : Nat → TypeId × Value
  | 0 => (9, .string s)
  | 1 => (3, .int .i64 n)
  | 2 => (40, .int .i64 (n.tmod 100))
  | _ => (45, .pointer (some ⟨pb, 0, none⟩))

theorem othersVal_ne (s : ByteArray) (n : Int) (pb j : Nat) : ¬ (othersVal s n pb j).1 = 28 := by
  match j with
  | 0 => simp [othersVal]
  | 1 => simp [othersVal]
  | 2 => simp [othersVal]
  | _ + 3 => simp [othersVal]

theorem othersVal_same (s : ByteArray) (n : Int) (pb j : Nat) (w : World) : (binOp .neq 20 (.iface (othersVal s n pb j).1 (othersVal s n pb j).2) (.iface (othersVal s n pb j).1 (othersVal s n pb j).2)).run Try.prog w = .ok (.bool false) w := by
  match j with
  | 0 => exact neq_same (by kernel_rfl) (same9 s) w
  | 1 => exact neq_same (by kernel_rfl) (same3 n) w
  | 2 => exact neq_same (by kernel_rfl) (same40 (n.tmod 100)) w
  | _ + 3 => exact neq_same (by kernel_rfl) (same45 pb) w

/-- The world ahead of the three calls. -/
def othersWorld (xb : Nat) (w : World) : World :=
  (((w.alloc (.cells #[.int .i64 0] 28)).alloc (.cells #[.func (.func 26) #[] #[.pointer (some ⟨xb, 0, none⟩)]] 1)).alloc (.cells #[.int .i64 0] 3)).alloc (.cells #[.func (.func 27) #[] #[.pointer (some ⟨w.heap.size + 1, 0, none⟩)], .func (.func 28) #[] #[.pointer (some ⟨w.heap.size + 1, 0, none⟩)], .func (.func 30) #[] #[.pointer (some ⟨w.heap.size + 1, 0, none⟩), .pointer (some ⟨w.heap.size + 1 + 1, 0, none⟩)]] 1)

theorem others_start (xb : Nat) (T : TypeId) (x : Value) (w : World) (hx : w.heap[xb]? = some (.cells #[.iface T x] 20 (0, 0))) :
    OthersAt xb (w.heap.size + 1) (w.heap.size + 1 + 1) T x (othersWorld xb w) ∧ Below w.heap.size w (othersWorld xb w) ∧
    (othersWorld xb w).heap[w.heap.size + 1 + 1 + 1]? = some (.cells #[othersFn (w.heap.size + 1) (w.heap.size + 1 + 1) 0, othersFn (w.heap.size + 1) (w.heap.size + 1 + 1) 1, othersFn (w.heap.size + 1) (w.heap.size + 1 + 1) 2] 1 (0, 0)) := by
  have hB : Below w.heap.size w (othersWorld xb w) := ((((Below.refl w.heap.size w).alloc (Nat.le_refl _) _).alloc (by simp) _).alloc (by simp; omega) _).alloc (by simp; omega) _
  refine ⟨⟨keep_block hx hB, ?_, ?_⟩, hB, ?_⟩
  · have h := heap_alloc_new (w.alloc (.cells #[.int .i64 0] 28)) (.cells #[.func (.func 26) #[] #[.pointer (some ⟨xb, 0, none⟩)]] 1)
    have e : (w.alloc (.cells #[.int .i64 0] 28)).heap.size = w.heap.size + 1 := by simp
    rw [e] at h
    exact (Below.heap_alloc _ _ _ (by simp)).trans ((Below.heap_alloc _ _ _ (by simp)).trans h)
  · have h := heap_alloc_new ((w.alloc (.cells #[.int .i64 0] 28)).alloc (.cells #[.func (.func 26) #[] #[.pointer (some ⟨xb, 0, none⟩)]] 1)) (.cells #[.int .i64 0] 3)
    have e : ((w.alloc (.cells #[.int .i64 0] 28)).alloc (.cells #[.func (.func 26) #[] #[.pointer (some ⟨xb, 0, none⟩)]] 1)).heap.size = w.heap.size + 1 + 1 := by simp
    rw [e] at h
    exact (Below.heap_alloc _ _ _ (by simp)).trans h
  · have h := heap_alloc_new (((w.alloc (.cells #[.int .i64 0] 28)).alloc (.cells #[.func (.func 26) #[] #[.pointer (some ⟨xb, 0, none⟩)]] 1)).alloc (.cells #[.int .i64 0] 3))
      (.cells #[othersFn (w.heap.size + 1) (w.heap.size + 1 + 1) 0, othersFn (w.heap.size + 1) (w.heap.size + 1 + 1) 1, othersFn (w.heap.size + 1) (w.heap.size + 1 + 1) 2] 1)
    have e : (((w.alloc (.cells #[.int .i64 0] 28)).alloc (.cells #[.func (.func 26) #[] #[.pointer (some ⟨xb, 0, none⟩)]] 1)).alloc (.cells #[.int .i64 0] 3)).heap.size = w.heap.size + 1 + 1 + 1 := by simp
    rw [e] at h
    exact h

theorem othersFn_form (fb ab k : Nat) : ∃ f cap, othersFn fb ab k = .func (.func f) #[] cap := by
  match k with
  | 0 => exact ⟨_, _, rfl⟩
  | 1 => exact ⟨_, _, rfl⟩
  | _ + 2 => exact ⟨_, _, rfl⟩

/-- Of a text of more than five hundred bytes: the example's answer. -/
theorem others_long (s : ByteArray) (n : Int) (w : World) (hs : 500 < s.size) :
    Calls Try.prog 8 #[.string s, .int .i64 n] w fun e w' => e = .returned (.bool true) ∧ Below w.heap.size w w' := by
  go_enter Try.func8, Try.ntmps8
  go_wp2_with fail
  refine (alive_any _).mono ?_
  rintro e w1 ⟨rfl, h1⟩
  go_wp2_with fail
  refine (alive_any _).mono ?_
  rintro e w2 ⟨rfl, h2⟩
  go_wp2
  go_ret
  exact ⟨rfl, h1.trans (h2.mono h1.size)⟩

set_option maxRecDepth 100000 in
set_option maxHeartbeats 1000000 in
theorem others_short (s : ByteArray) (n : Int) (w : World) (hs : s.size ≤ 500) (_hn : -9223372036854775808 ≤ n ∧ n ≤ 9223372036854775807) :
    Calls Try.prog 8 #[.string s, .int .i64 n] w fun e w' => e = .returned (.bool true) ∧ Below w.heap.size w w' := by
  go_enter Try.func8, Try.ntmps8
  go_wp2_with fail
  refine (alive_any _).mono ?_
  rintro e w1 ⟨rfl, h1⟩
  go_wp2_with fail
  have hv : ((w1.alloc (.cells #[.int .i64 n] 28)).alloc (.cells #[.iface 9 (.string s), .iface 3 (.int .i64 n), .iface 40 (.int .i64 (n.tmod 100)), .iface 45 (.pointer (some ⟨w1.heap.size, 0, none⟩))] 20)).heap[w1.heap.size + 1]? =
      some (.cells #[.iface 9 (.string s), .iface 3 (.int .i64 n), .iface 40 (.int .i64 (n.tmod 100)), .iface 45 (.pointer (some ⟨w1.heap.size, 0, none⟩))] 20 (0, 0)) := by
    have h := heap_alloc_new (w1.alloc (.cells #[.int .i64 n] 28)) (.cells #[.iface 9 (.string s), .iface 3 (.int .i64 n), .iface 40 (.int .i64 (n.tmod 100)), .iface 45 (.pointer (some ⟨w1.heap.size, 0, none⟩))] 20)
    have e : (w1.alloc (.cells #[.int .i64 n] 28)).heap.size = w1.heap.size + 1 := by simp
    rw [e] at h
    exact h
  have hB0 : Below w.heap.size w ((w1.alloc (.cells #[.int .i64 n] 28)).alloc (.cells #[.iface 9 (.string s), .iface 3 (.int .i64 n), .iface 40 (.int .i64 (n.tmod 100)), .iface 45 (.pointer (some ⟨w1.heap.size, 0, none⟩))] 20)) :=
    h1.trans ((((Below.refl w.heap.size w1).alloc h1.size _).alloc (Nat.le_trans h1.size (by simp)) _))
  have hX : ∀ j, j < 4 → (#[Value.iface 9 (.string s), .iface 3 (.int .i64 n), .iface 40 (.int .i64 (n.tmod 100)), .iface 45 (.pointer (some ⟨w1.heap.size, 0, none⟩))])[j]? = some (.iface (othersVal s n w1.heap.size j).1 (othersVal s n w1.heap.size j).2) := by
    intro j hj
    match j, hj with
    | 0, _ => rfl
    | 1, _ => rfl
    | 2, _ => rfl
    | 3, _ => rfl
  generalize hW0 : ((w1.alloc (.cells #[.int .i64 n] 28)).alloc (.cells #[.iface 9 (.string s), .iface 3 (.int .i64 n), .iface 40 (.int .i64 (n.tmod 100)), .iface 45 (.pointer (some ⟨w1.heap.size, 0, none⟩))] 20)) = W0 at *
  have HX := Lib.hid hX
  have HV := Lib.hid hv
  have HB0 := Lib.hid hB0
  have hsw : w.heap.size ≤ W0.heap.size := hB0.size
  clear hW0 hv hB0 h1 hX
  go_loopw [36] (fun i wr => ∃ j : Nat, j ≤ 4 ∧ i = .int .i64 j ∧ Below W0.heap.size W0 wr) (fun i _ => 4 - (intOf i).toNat)
  case atStart => exact ⟨0, by omega, rfl, Below.refl _ _⟩
  case round =>
    obtain ⟨j, hj, rfl, hbr⟩ := hrel
    have hbs := hbr.size
    by_cases hlt : j < 4
    · have hce : wr.cell? ⟨w1.heap.size + 1, j, none⟩ = some (.iface (othersVal s n w1.heap.size j).1 (othersVal s n w1.heap.size j).2) := by
        have e := keep_block HV.out hbr
        simp only [World.cell?, e]
        exact HX.out j hlt
      have hne := othersVal_ne s n w1.heap.size j
      have hsame := othersVal_same s n w1.heap.size j
      generalize (othersVal s n w1.heap.size j).1 = T at *
      generalize (othersVal s n w1.heap.size j).2 = x at *
      have HBR := Lib.hid hbr
      have HNE := Lib.hid hne
      clear hbr hne
      go_wp2_with fail
      refine (lost_other T x _ HNE.out).mono ?_
      rintro e w2 ⟨rfl, hb2⟩
      have hx2 := (hb2.block wr.heap.size (by simp)).trans (heap_alloc_new wr (.cells #[.iface T x] 20))
      have hs2 : wr.heap.size < w2.heap.size := lt_of_block hx2
      have HX2 := Lib.hid hx2
      have HB2 : Hid (Below W0.heap.size W0 w2) := Lib.hid (HBR.out.trans (((Below.refl W0.heap.size wr).alloc hbs _).trans (hb2.mono (by simp; omega))))
      clear hx2 hb2 hce
      go_wp2_with fail
      obtain ⟨hA, hbW, hG⟩ := others_start wr.heap.size T x w2 HX2.out
      unfold othersWorld at hA hbW hG
      generalize ((((w2.alloc (.cells #[.int .i64 0] 28)).alloc (.cells #[.func (.func 26) #[] #[.pointer (some ⟨wr.heap.size, 0, none⟩)]] 1)).alloc (.cells #[.int .i64 0] 3)).alloc (.cells #[.func (.func 27) #[] #[.pointer (some ⟨w2.heap.size + 1, 0, none⟩)], .func (.func 28) #[] #[.pointer (some ⟨w2.heap.size + 1, 0, none⟩)], .func (.func 30) #[] #[.pointer (some ⟨w2.heap.size + 1, 0, none⟩), .pointer (some ⟨w2.heap.size + 1 + 1, 0, none⟩)]] 1)) = W1 at *
      have HA := Lib.hid hA
      have HG := Lib.hid hG
      have HB3 : Hid (Below W0.heap.size W0 W1) := Lib.hid (HB2.out.trans (hbW.mono HB2.out.size))
      have hs3 : W0.heap.size ≤ W1.heap.size := HB3.out.size
      clear hA hbW hG
      obtain ⟨wro, hwro⟩ : ∃ wo : World, wo = wr := ⟨_, rfl⟩
      subst hwro
      go_loopw [52] (fun i wt => ∃ k : Nat, k ≤ 3 ∧ i = .int .i64 k ∧ ∃ n, ∃ w3, wt = w3.drewN n ∧ Below W1.heap.size W1 w3) (fun i _ => 3 - (intOf i).toNat)
      case atStart => exact ⟨0, by omega, rfl, 0, W1, rfl, Below.refl _ _⟩
      case round =>
        obtain ⟨k, hk, rfl, nd, w3, rfl, hb3⟩ := hrel
        by_cases hlk : k < 3
        · have hce : w3.cell? ⟨w2.heap.size + 1 + 1 + 1, k, none⟩ = some (othersFn (w2.heap.size + 1) (w2.heap.size + 1 + 1) k) := by
            have e := keep_block HG.out hb3
            simp only [World.cell?, e]
            match k, hlk with
            | 0, _ => rfl
            | 1, _ => rfl
            | 2, _ => rfl
          have hA3 := othersAt_below HA.out hb3
          have HM : Hid (∀ w4, Below w3.heap.size w3 w4 → Calls Try.prog 32 #[othersFn (w2.heap.size + 1) (w2.heap.size + 1 + 1) k] w4 fun e w' => e = .returned (.iface T x) ∧ Below w4.heap.size w4 w') :=
            Lib.hid (fun w4 h4 => others_meets wro.heap.size (w2.heap.size + 1) (w2.heap.size + 1 + 1) k T x HNE.out w4 (othersAt_below hA3 h4))
          have hx3 := cell_of_one hA3.hx
          have HX3 := Lib.hid hA3.hx
          have H3 := Lib.hid hb3
          obtain ⟨f, cap, hf⟩ := othersFn_form (w2.heap.size + 1) (w2.heap.size + 1 + 1) k
          rw [hf] at hce HM
          clear hA3 hb3 hf
          go_wp2_with fail
          go_region_with (first
            | (go_at_call 32; go_must (refine (HM.out _ ?_).mono ?_; (first | exact below_drewN (Below.refl _ _) _ | exact Below.drew (below_drewN (Below.refl _ _) _)); rintro e w4 ⟨rfl, hb4⟩; have hx4 := cell_of_one (keep_block (w := w3.drewN (nd + 1)) HX3.out hb4))))
          all_goals go_wp2
          all_goals go_roundw
          all_goals first
            | exact ⟨k + 1, by omega, by go_num, 0, w4, rfl, H3.out.trans ((below_drewN (Below.refl _ _) (nd + 1)).trans (hb4.mono H3.out.size))⟩
            | (simp [intOf]; omega)
        · have ca := cell_of_one (othersAt_below HA.out hb3).ha
          go_wp2
          go_roundw
          case rel => exact ⟨j + 1, by omega, by go_num, below_drewN (HB3.out.trans (hb3.mono hs3)) _⟩
          case measure => simp [intOf]; omega
    · go_wp2
      go_ret
      exact ⟨rfl, HB0.out.trans (hbr.mono hsw)⟩

/-- GuardOthers, whatever its arguments. -/
theorem guardOthers_walk {W : World} (s : ByteArray) (_ws : s.size ≤ maxLen) (n : Int) (wn : (Lit.int .i64 n).wf = true) :
    Calls Try.prog 8 #[.string s, .int .i64 n] W fun e w' => e = .returned (.bool true) ∧ Below W.heap.size W w' := by
  have h := wn
  simp only [Lit.wf, Bool.and_eq_true, decide_eq_true_eq] at h
  have hmin : IntKind.i64.min = -9223372036854775808 := rfl
  have hmax : IntKind.i64.max = 9223372036854775807 := rfl
  by_cases hs : 500 < s.size
  · exact others_long s n W hs
  · exact others_short s n W (by omega) (by omega)

end Go.Proofs.Ytehlacbebahmdaa
