/- Of no disk nothing is told: its methods at nil, by their contracts. -/
import Derived.Test.YtjbhdidjkdlceaaDoorBase
namespace Go.Proofs.YtjbhdidjkdlceaaDoor
open Go.RowKit

theorem nil_append (name : ByteArray) (v : Value) (w : World) : Calls Tryd.prog 17 #[.pointer none, .string name, v] w fun e w' => e = .returned (.tuple #[.int .i64 0, .int .i64 1]) ∧ Below w.heap.size w w' := by
  go_enter Tryd.func17, Tryd.ntmps17
  go_wp2
  go_ret2
  exact ⟨by simp, Below.refl _ _⟩

theorem nil_read (name : ByteArray) (w : World) : Calls Tryd.prog 18 #[.pointer none, .string name] w fun e w' => e = .returned (.tuple #[.slice none 0 0, .int .i64 1]) ∧ Below w.heap.size w w' := by
  go_enter Tryd.func18, Tryd.ntmps18
  go_wp2
  go_ret2
  exact ⟨by simp, Below.refl _ _⟩

theorem nil_truncate (name : ByteArray) (n : Int) (w : World) : Calls Tryd.prog 19 #[.pointer none, .string name, .int .i64 n] w fun e w' => e = .returned (.int .i64 1) ∧ Below w.heap.size w w' := by
  go_enter Tryd.func19, Tryd.ntmps19
  go_wp2
  go_ret
  exact ⟨by simp, ((Below.refl _ w).alloc (Nat.le_refl _) _).alloc (by simp) _⟩

theorem nil_sync (name : ByteArray) (w : World) : Calls Tryd.prog 20 #[.pointer none, .string name] w fun e w' => e = .returned (.int .i64 1) ∧ Below w.heap.size w w' := by
  go_enter Tryd.func20, Tryd.ntmps20
  go_wp2
  go_ret
  exact ⟨by simp, Below.refl _ _⟩

theorem nil_rename (old name : ByteArray) (w : World) : Calls Tryd.prog 21 #[.pointer none, .string old, .string name] w fun e w' => e = .returned (.int .i64 1) ∧ Below w.heap.size w w' := by
  go_enter Tryd.func21, Tryd.ntmps21
  go_wp2
  go_ret
  exact ⟨by simp, (((Below.refl _ w).alloc (Nat.le_refl _) _).alloc (by simp) _).alloc (by simp; omega) _⟩

theorem nil_remove (name : ByteArray) (w : World) : Calls Tryd.prog 22 #[.pointer none, .string name] w fun e w' => e = .returned (.int .i64 1) ∧ Below w.heap.size w w' := by
  go_enter Tryd.func22, Tryd.ntmps22
  go_wp2
  go_ret
  exact ⟨by simp, ((Below.refl _ w).alloc (Nat.le_refl _) _).alloc (by simp) _⟩

theorem nil_setRoom (n : Int) (w : World) : Calls Tryd.prog 23 #[.pointer none, .int .i64 n] w fun e w' => e = .returned (.int .i64 1) ∧ Below w.heap.size w w' := by
  go_enter Tryd.func23, Tryd.ntmps23
  go_wp2
  go_ret
  exact ⟨by simp, Below.refl _ _⟩

theorem nil_fail (n : Int) (w : World) : Calls Tryd.prog 24 #[.pointer none, .int .i64 n] w fun e w' => e = .returned (.int .i64 1) ∧ Below w.heap.size w w' := by
  go_enter Tryd.func24, Tryd.ntmps24
  go_wp2
  go_ret
  exact ⟨by simp, Below.refl _ _⟩

theorem nil_arm (n k : Int) (w : World) : Calls Tryd.prog 25 #[.pointer none, .int .i64 n, .int .i64 k] w fun e w' => e = .returned (.int .i64 1) ∧ Below w.heap.size w w' := by
  go_enter Tryd.func25, Tryd.ntmps25
  go_wp2
  go_ret
  exact ⟨by simp, Below.refl _ _⟩

theorem nil_power (k : Int) (w : World) : Calls Tryd.prog 26 #[.pointer none, .int .i64 k] w fun e w' => e = .returned (.int .i64 1) ∧ Below w.heap.size w w' := by
  go_enter Tryd.func26, Tryd.ntmps26
  go_wp2
  go_ret
  exact ⟨by simp, Below.refl _ _⟩

theorem nil_synced (name : ByteArray) (w : World) : Calls Tryd.prog 27 #[.pointer none, .string name] w fun e w' => e = .returned (.int .i64 0) ∧ Below w.heap.size w w' := by
  go_enter Tryd.func27, Tryd.ntmps27
  go_wp2
  go_ret
  exact ⟨by simp, Below.refl _ _⟩

theorem nil_names  (w : World) : Calls Tryd.prog 28 #[.pointer none] w fun e w' => e = .returned (.slice none 0 0) ∧ Below w.heap.size w w' := by
  go_enter Tryd.func28, Tryd.ntmps28
  go_wp2
  go_ret
  exact ⟨by simp, Below.refl _ _⟩

theorem nil_used  (w : World) : Calls Tryd.prog 29 #[.pointer none] w fun e w' => e = .returned (.int .i64 0) ∧ Below w.heap.size w w' := by
  go_enter Tryd.func29, Tryd.ntmps29
  go_wp2
  go_ret
  exact ⟨by simp, Below.refl _ _⟩

theorem nil_room  (w : World) : Calls Tryd.prog 30 #[.pointer none] w fun e w' => e = .returned (.int .i64 0) ∧ Below w.heap.size w w' := by
  go_enter Tryd.func30, Tryd.ntmps30
  go_wp2
  go_ret
  exact ⟨by simp, Below.refl _ _⟩

theorem nil_ops  (w : World) : Calls Tryd.prog 31 #[.pointer none] w fun e w' => e = .returned (.int .i64 0) ∧ Below w.heap.size w w' := by
  go_enter Tryd.func31, Tryd.ntmps31
  go_wp2
  go_ret
  exact ⟨by simp, Below.refl _ _⟩

end Go.Proofs.YtjbhdidjkdlceaaDoor
