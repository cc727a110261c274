/- disk.named, by its contract: whether a text is a name. -/
import Derived.Test.YtjbhdidjkdlceaaDoorLib
namespace Go.Proofs.YtjbhdidjkdlceaaDoor
open Go.RowKit
set_option linter.unusedVariables false

def isName (l : List UInt8) : Bool := !l.isEmpty && decide (l.length ≤ 32) && l.all (signs.contains ·)

theorem dropWhile_nil {l : List UInt8} {p : UInt8 → Bool} : l.dropWhile p = [] ↔ l.all p = true := by
  induction l with
  | nil => simp
  | cons a l ih =>
    by_cases h : p a = true
    · simp [List.dropWhile_cons, h, ih]
    · simp [List.dropWhile_cons, h]

theorem trim_nil (l cs : List UInt8) : Lib.trimS l cs = [] ↔ l.all (cs.contains ·) = true := by
  unfold Lib.trimS Lib.trimLeftS Lib.trimRightS
  rw [dropWhile_nil]
  constructor
  · intro h
    by_cases hn : l.reverse.dropWhile (cs.contains ·) = []
    · have := dropWhile_nil.1 hn
      simpa using this
    · exfalso
      have hh := List.head_dropWhile_not (cs.contains ·) hn
      rw [List.all_reverse] at h
      have := List.all_eq_true.1 h _ (List.head_mem hn)
      rw [this] at hh
      cases hh
  · intro h
    have : l.reverse.dropWhile (cs.contains ·) = [] := dropWhile_nil.2 (by simpa using h)
    rw [this]
    rfl

set_option maxHeartbeats 400000 in
theorem named_any (s : ByteArray) (hs : s.size ≤ 9223372036854775807) (w : World) : Calls Tryd.prog 40 #[.string s] w fun e w' => e = .returned (.bool (isName s.data.toList)) ∧ Below w.heap.size w w' := by
  obtain ⟨r, hr⟩ : ∃ r : ByteArray, r = ⟨(Lib.trimS s.data.toList signs).toArray⟩ := ⟨_, rfl⟩
  have ht := trim_any s w hs
  rw [← hr] at ht
  have HT := Lib.hid ht
  have HR := Lib.hid hr
  clear ht hr
  go_enter Tryd.func40, Tryd.ntmps40
  go_wp2_with (go_at_call 57; refine HT.out.mono ?_; rintro e w' ⟨rfl, hb⟩; have HB := Lib.hid hb; clear hb)
  all_goals go_ret
  · rename_i h
    rw [ByteArray.toList_eq] at h
    refine ⟨?_, Below.refl _ _⟩
    have h1 : isName s.data.toList = false := by
      unfold isName
      rw [h]
      rfl
    rw [h1]
    rfl
  · rename_i hne hle
    refine ⟨?_, HB.out⟩
    have h1 : r.data.toList.isEmpty = s.data.toList.all (signs.contains ·) := by
      rw [HR.out]
      simp only [List.toList_toArray]
      rw [Bool.eq_iff_iff, List.isEmpty_iff]
      exact trim_nil _ _
    have h2 : decide (s.data.toList.length ≤ 32) = true := by
      simp only [Array.length_toList, decide_eq_true_eq]
      have : s.size = s.data.size := rfl
      omega
    have h3 : isName s.data.toList = (!s.toList.isEmpty && r.toList.isEmpty) := by
      unfold isName
      rw [h2, ByteArray.toList_eq, ByteArray.toList_eq, h1, Bool.and_true]
    rw [h3]
    rfl
  · rename_i hne hle
    refine ⟨?_, Below.refl _ _⟩
    have h2 : decide (s.data.toList.length ≤ 32) = false := by
      simp only [Array.length_toList, decide_eq_false_iff_not]
      have : s.size = s.data.size := rfl
      omega
    have h1 : isName s.data.toList = false := by
      unfold isName
      rw [h2, Bool.and_false, Bool.false_and]
    rw [h1]
    rfl

end Go.Proofs.YtjbhdidjkdlceaaDoor
