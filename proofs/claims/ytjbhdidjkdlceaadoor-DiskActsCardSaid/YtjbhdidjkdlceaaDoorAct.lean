/- call, of any act, by its contract. -/
import Derived.Test.YtjbhdidjkdlceaaDoorCalls
namespace Go.Proofs.YtjbhdidjkdlceaaDoor
open Go.RowKit Go.Maps
set_option linter.unusedVariables false

theorem outOf_zero {g : Bool} {op e0 : Int} : ∀ n e, outOf g op e0 = .told n e → n = 0 := by
  intro n e h
  cases g
  · have : Out.told 0 e0 = .told n e := h
    cases this
    rfl
  · have : Out.gone op = .told n e := h
    cases this

theorem truncate_zero {s : PS} {nm : List UInt8} {x : Int} : ∀ n e, (s.truncate nm x).1 = .told n e → n = 0 := by
  intro n e h
  unfold PS.truncate at h
  split at h
  · cases h; rfl
  · split at h
    · cases h; rfl
    · exact outOf_zero n e h
theorem sync_zero {s : PS} {nm : List UInt8} : ∀ n e, (s.sync nm).1 = .told n e → n = 0 := by
  intro n e h
  unfold PS.sync at h
  split at h
  · cases h; rfl
  · exact outOf_zero n e h
theorem remove_zero {s : PS} {nm : List UInt8} : ∀ n e, (s.remove nm).1 = .told n e → n = 0 := by
  intro n e h
  unfold PS.remove at h
  split at h
  · cases h; rfl
  · exact outOf_zero n e h
theorem rename_zero {s : PS} {a b : List UInt8} : ∀ n e, (s.rename a b).1 = .told n e → n = 0 := by
  intro n e h
  unfold PS.rename at h
  split at h
  · cases h; rfl
  · split at h
    · cases h; rfl
    · exact outOf_zero n e h
theorem setRoom_zero {s : PS} {x : Int} : ∀ n e, (s.setRoom x).1 = .told n e → n = 0 := by
  intro n e h
  unfold PS.setRoom at h
  split at h <;> (cases h; rfl)
theorem failing_zero {s : PS} {x : Int} : ∀ n e, (s.failing x).1 = .told n e → n = 0 := by
  intro n e h
  unfold PS.failing at h
  split at h <;> (cases h; rfl)
theorem arming_zero {s : PS} {x y : Int} : ∀ n e, (s.arming x y).1 = .told n e → n = 0 := by
  intro n e h
  unfold PS.arming at h
  split at h <;> (cases h; rfl)
theorem power_zero {s : PS} {x : Int} : ∀ n e, (s.power x).1 = .told n e → n = 0 := by
  intro n e h
  cases h
  rfl

/-- An act, as values, in plain words. -/
def paOf (k n kp : Int) (A B : ByteArray) (bs : List UInt8) : PA := ⟨k, n, kp, A.data.toList, B.data.toList, bs⟩

set_option maxRecDepth 100000 in
theorem call_law {X : Nat → Prop} {D M : Nat} {s : PS} {w : World} (h : Room X D M s w) (k n kp : Int) (A B : ByteArray) (hA : A.size ≤ 9223372036854775807) (hB : B.size ≤ 9223372036854775807) (bs : List UInt8) (m : Nat) (hm : bs.length = m) (hm0 : m ≤ 100000) (ra : Option Addr) (rc : Nat) (hcap : m ≤ rc)
    (hb : BytesAt w ra bs) (hap : bs ≠ [] → ∀ ad, ra = some ad → X ad.block) (hnil : ra = none → rc = 0) :
    Calls Tryd.prog 14 #[.pointer (some ⟨D, 0, none⟩), .agg (cA k n kp A B ra m rc)] w fun e w' => e = .returned (s.act (paOf k n kp A B bs)).1.end4 ∧ Went X D M (s.act (paOf k n kp A B bs)).2 w w' := by
  have hb0 := inCall_below (cA k n kp A B ra m rc) w
  have hR : Room (own X w) D M s (inCall (cA k n kp A B ra m rc) w) := by
    refine ⟨h.lies.keep (Mod.of_below hb0) (fun k hk => ?_), h.ok, fun k hk => ?_⟩
    · rcases hk with hk | hk
      · exact .inl hk
      · exact .inr hk.1
    · rw [inCall_size]
      rcases hk with hk | hk
      · have := h.old k hk
        omega
      · omega
  by_cases h0 : k = 0
  · subst h0
    have e1 : s.act (paOf 0 n kp A B bs) = s.append A.data.toList bs := rfl
    rw [e1]
    exact call_0 h.old _ n kp A B ra m rc (append_law hR A hA bs m hm hm0 ra rc hcap (hb.below (Nat.le_refl _) hb0) (fun hne ad had => .inl (hap hne ad had)) hnil)
  by_cases h1 : k = 1
  · subst h1
    have e1 : s.act (paOf 1 n kp A B bs) = s.truncate A.data.toList n := rfl
    rw [e1]
    exact call_1 h.old _ truncate_zero n kp A B ra m rc (truncate_law hR A hA n)
  by_cases h2 : k = 2
  · subst h2
    have e1 : s.act (paOf 2 n kp A B bs) = s.sync A.data.toList := rfl
    rw [e1]
    exact call_2 h.old _ sync_zero n kp A B ra m rc (sync_law hR A hA)
  by_cases h3 : k = 3
  · subst h3
    have e1 : s.act (paOf 3 n kp A B bs) = s.rename A.data.toList B.data.toList := rfl
    rw [e1]
    exact call_3 h.old _ rename_zero n kp A B ra m rc (rename_law hR A B hA hB)
  by_cases h4 : k = 4
  · subst h4
    have e1 : s.act (paOf 4 n kp A B bs) = s.remove A.data.toList := rfl
    rw [e1]
    exact call_4 h.old _ remove_zero n kp A B ra m rc (remove_law hR A hA)
  by_cases h5 : k = 5
  · subst h5
    have e1 : s.act (paOf 5 n kp A B bs) = s.setRoom n := rfl
    rw [e1]
    exact call_5 h.old _ setRoom_zero n kp A B ra m rc (setRoom_law hR n)
  by_cases h6 : k = 6
  · subst h6
    have e1 : s.act (paOf 6 n kp A B bs) = s.failing n := rfl
    rw [e1]
    exact call_6 h.old _ failing_zero n kp A B ra m rc (failing_law hR n)
  by_cases h7 : k = 7
  · subst h7
    have e1 : s.act (paOf 7 n kp A B bs) = s.arming n kp := rfl
    rw [e1]
    exact call_7 h.old _ arming_zero n kp A B ra m rc (arming_law hR n kp)
  by_cases h8 : k = 8
  · subst h8
    have e1 : s.act (paOf 8 n kp A B bs) = s.power kp := rfl
    rw [e1]
    exact call_8 h.old _ power_zero n kp A B ra m rc (power_law hR kp)
  have e1 : s.act (paOf k n kp A B bs) = (.told 0 0, s) := by
    unfold PS.act paOf
    simp only [h0, h1, h2, h3, h4, h5, h6, h7, h8, if_false]
  rw [e1]
  exact call_other h.old k n kp (by omega) A B ra m rc s h.lies

end Go.Proofs.YtjbhdidjkdlceaaDoor
