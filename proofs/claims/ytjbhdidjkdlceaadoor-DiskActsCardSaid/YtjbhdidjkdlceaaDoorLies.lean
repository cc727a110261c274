/- The disk's methods by their contracts, in plain words. X: memory that is not the disk's. -/
import Derived.Test.YtjbhdidjkdlceaaDoorStep
import Derived.Test.YtjbhdidjkdlceaaDoorPowers
import Derived.Test.YtjbhdidjkdlceaaDoorLost
namespace Go.Proofs.YtjbhdidjkdlceaaDoor
open Go.RowKit Go.Maps
set_option linter.unusedVariables false

/-- A disk that reads as s lies at D, and not in X. -/
structure Lies (X : Nat → Prop) (D M : Nat) (s : PS) (w : World) : Prop where
  ex : ∃ fs, vs fs = s.L ∧ Disk w D M fs s.room s.used s.ops s.arm s.keep s.fail ∧ ∀ k, Foot D M fs k → ¬ X k

/-- Of what was there only what is not of X has turned; the disk reads as s. -/
structure Went (X : Nat → Prop) (D M : Nat) (s : PS) (w w' : World) : Prop where
  lies : Lies X D M s w'
  mod : Mod (fun k => ¬ X k) w w'

theorem Lies.keep {X X' : Nat → Prop} {D M : Nat} {s : PS} {w w' : World} (h : Lies X D M s w) (m : Mod X w w') (hX : ∀ k, X' k → X k ∨ w.heap.size ≤ k) : Lies X' D M s w' := by
  obtain ⟨fs, h1, h2, h3⟩ := h.ex
  refine ⟨fs, h1, h2.keep m h3, fun k hk hx => ?_⟩
  rcases hX k hx with h4 | h4
  · exact h3 k hk h4
  · have := h2.old hk
    omega

theorem Lies.below {X : Nat → Prop} {D M : Nat} {s : PS} {w w' : World} (h : Lies X D M s w) (m : Below w.heap.size w w') : Lies X D M s w' := by
  obtain ⟨fs, h1, h2, h3⟩ := h.ex
  exact ⟨fs, h1, h2.below m, h3⟩

theorem Went.of_below {X : Nat → Prop} {D M : Nat} {s : PS} {w w' : World} (h : Lies X D M s w) (m : Below w.heap.size w w') : Went X D M s w w' := ⟨h.below m, Mod.of_below m⟩

theorem Went.trans {X : Nat → Prop} {D M : Nat} {s s' : PS} {w w1 w2 : World} (h : Went X D M s w w1) (k : Went X D M s' w1 w2) : Went X D M s' w w2 := ⟨k.lies, h.mod.trans k.mod⟩

theorem went_of_did {X : Nat → Prop} {D M : Nat} {fs fs' : List PF} {s : PS} {w w' : World} (hX : ∀ k, X k → k < w.heap.size) (hF : ∀ k, Foot D M fs k → ¬ X k) (h : Did D M fs fs' s.room s.used s.ops s.arm s.keep s.fail w w') (hv : vs fs' = s.L) : Went X D M s w w' := by
  refine ⟨⟨fs', hv, h.disk, fun k hk hx => ?_⟩, h.mod.mono (fun t _ ht => hF t ht)⟩
  rcases h.foot k hk with h1 | h1
  · exact hF k h1 hx
  · have := hX k hx
    omega

/-- A call as it ends. -/
def Out.end1 : Out → Ending
  | .told _ e => .returned (.int .i64 e)
  | .gone op => goneAt op
def Out.end2 : Out → Ending
  | .told n e => .returned (.tuple #[.int .i64 n, .int .i64 e])
  | .gone op => goneAt op

theorem endAt_out (g : Bool) (op e : Int) : endAt g op (.int .i64 e) = (outOf g op e).end1 := by
  cases g <;> rfl

theorem findF_some {fs : List PF} {L : List VF} {nm : List UInt8} {f : VF} (hv : vs fs = L) (h : findV L nm = some f) : ∃ g, findF fs nm = some g ∧ g.v = f := by
  rw [← hv, findV_vs] at h
  cases hg : findF fs nm with
  | none => rw [hg] at h; cases h
  | some g =>
    rw [hg] at h
    exact ⟨g, rfl, Option.some.inj h⟩
theorem findF_no {fs : List PF} {L : List VF} {nm : List UInt8} (hv : vs fs = L) (h : findV L nm = none) : findF fs nm = none := by
  rw [← hv, findV_vs] at h
  cases hg : findF fs nm with
  | none => rfl
  | some g => rw [hg] at h; cases h

theorem changed_went {X : Nat → Prop} {D M : Nat} {fs fs' : List PF} {s : PS} {L' : List VF} {used' fail' : Int} {w w' : World} (hX : ∀ k, X k → k < w.heap.size) (hF : ∀ k, Foot D M fs k → ¬ X k) (hv : vs fs = s.L) (hv' : vs fs' = L')
    (h : Changed s.gone D M fs fs' s.room s.used used' (s.ops + 1) s.arm s.keep fail' w w') : Went X D M (s.change L' used' fail') w w' := by
  refine went_of_did (fs := fs) hX hF h ?_
  unfold PS.change
  show vs (if (s.gone && !odd s.keep) = true then fs else fs') = if (s.gone && !odd s.keep) = true then s.L else L'
  split
  · exact hv
  · exact hv'

/-- What each contract asks. -/
structure Room (X : Nat → Prop) (D M : Nat) (s : PS) (w : World) : Prop where
  lies : Lies X D M s w
  ok : Ok 100000 100000 s
  old : ∀ k, X k → k < w.heap.size

theorem lens_of {s : PS} (hok : Ok 100000 100000 s) {fs : List PF} (hv : vs fs = s.L) : ∀ f ∈ fs, f.b.length ≤ 100000 := fun f hf => by
  have h1 : f.v ∈ s.L := by rw [← hv]; exact List.mem_map.2 ⟨f, hf, rfl⟩
  have := len_le_totV h1
  exact Nat.le_trans this hok.tot

theorem used_of {s : PS} (hok : Ok 100000 100000 s) : 0 ≤ s.used ∧ s.used ≤ 1000000000 := by
  have h1 := hok.used
  have h2 := hok.tot
  omega
theorem ops_of {s : PS} (hok : Ok 100000 100000 s) : 0 ≤ s.ops ∧ s.ops ≤ 1000000 := by
  have h1 := hok.ops
  omega
theorem num_of {s : PS} (hok : Ok 100000 100000 s) {fs : List PF} (hv : vs fs = s.L) : fs.length ≤ 1000000 := by
  have h1 := hok.num
  rw [← hv] at h1
  unfold vs at h1
  rw [List.length_map] at h1
  omega

theorem truncate_law {X : Nat → Prop} {D M : Nat} {s : PS} {w : World} (h : Room X D M s w) (nm : ByteArray) (hs : nm.size ≤ 9223372036854775807) (n : Int) :
    Calls Tryd.prog 19 #[.pointer (some ⟨D, 0, none⟩), .string nm, .int .i64 n] w fun e w' => e = (s.truncate nm.data.toList n).1.end1 ∧ Went X D M (s.truncate nm.data.toList n).2 w w' := by
  obtain ⟨fs, hv, hd, hF⟩ := h.lies.ex
  unfold PS.truncate
  cases hf : findV s.L nm.data.toList with
  | none =>
    refine (truncate_none D M fs _ _ _ _ _ _ nm hs n (findF_no hv hf) w hd).mono ?_
    rintro e w' ⟨rfl, hb⟩
    exact ⟨rfl, Went.of_below h.lies hb⟩
  | some f =>
    obtain ⟨g, hg, rfl⟩ := findF_some hv hf
    by_cases hn : n < 0 ∨ (g.v.b.length : Int) < n
    · simp only [hn, if_true]
      refine (truncate_range D M fs _ _ _ _ _ _ nm hs n g hg hn w hd).mono ?_
      rintro e w' ⟨rfl, hb⟩
      exact ⟨rfl, Went.of_below h.lies hb⟩
    · simp only [hn, if_false]
      have hn0 : 0 ≤ n := by omega
      have hn1 : n ≤ g.b.length := by
        have : ¬ ((g.b.length : Int) < n) := fun h1 => hn (.inr h1)
        omega
      have hl := lens_of h.ok hv g (List.mem_of_find?_eq_some hg)
      have hcast : ((n.toNat : Nat) : Int) = n := by omega
      have := truncate_found D M fs s.room s.used s.ops s.arm s.keep s.fail (ops_of h.ok) s.gone rfl (used_of h.ok) nm hs n.toNat g hg (by omega) (by omega) w hd
      rw [hcast] at this
      refine this.mono ?_
      rintro e w' ⟨rfl, hc⟩
      refine ⟨endAt_out _ _ _, changed_went h.old hF hv ?_ hc⟩
      rw [setV_vs, hv]
      rfl

theorem sync_law {X : Nat → Prop} {D M : Nat} {s : PS} {w : World} (h : Room X D M s w) (nm : ByteArray) (hs : nm.size ≤ 9223372036854775807) :
    Calls Tryd.prog 20 #[.pointer (some ⟨D, 0, none⟩), .string nm] w fun e w' => e = (s.sync nm.data.toList).1.end1 ∧ Went X D M (s.sync nm.data.toList).2 w w' := by
  obtain ⟨fs, hv, hd, hF⟩ := h.lies.ex
  unfold PS.sync
  cases hf : findV s.L nm.data.toList with
  | none =>
    refine (sync_none D M fs _ _ _ _ _ _ nm hs (findF_no hv hf) w hd).mono ?_
    rintro e w' ⟨rfl, hb⟩
    exact ⟨rfl, Went.of_below h.lies hb⟩
  | some f =>
    obtain ⟨g, hg, rfl⟩ := findF_some hv hf
    cases hfl : s.fail == 1 with
    | true =>
      simp only [if_true]
      refine (sync_fails D M fs s.room s.used s.ops s.arm s.keep s.fail (ops_of h.ok) s.gone rfl hfl h.ok.fail nm hs g hg w hd).mono ?_
      rintro e w' ⟨rfl, hc⟩
      exact ⟨endAt_out _ _ _, changed_went h.old hF hv hv hc⟩
    | false =>
      simp only [Bool.false_eq_true, if_false]
      refine (sync_gn D M fs s.room s.used s.ops s.arm s.keep s.fail (ops_of h.ok) s.gone rfl hfl h.ok.fail nm hs g hg w hd).mono ?_
      rintro e w' ⟨rfl, hc⟩
      refine ⟨endAt_out _ _ _, changed_went h.old hF hv ?_ hc⟩
      rw [setV_vs, hv]
      rfl

theorem lenOf_vs {fs : List PF} {L : List VF} (hv : vs fs = L) (nm : List UInt8) : lenOf fs nm = lenV L nm := by
  unfold lenOf lenV
  rw [← hv, findV_vs]
  cases findF fs nm <;> rfl
theorem safeOf_vs {fs : List PF} {L : List VF} (hv : vs fs = L) (nm : List UInt8) : safeOf fs nm = safeV L nm := by
  unfold safeOf safeV
  rw [← hv, findV_vs]
  cases findF fs nm <;> rfl

theorem remove_law {X : Nat → Prop} {D M : Nat} {s : PS} {w : World} (h : Room X D M s w) (nm : ByteArray) (hs : nm.size ≤ 9223372036854775807) :
    Calls Tryd.prog 22 #[.pointer (some ⟨D, 0, none⟩), .string nm] w fun e w' => e = (s.remove nm.data.toList).1.end1 ∧ Went X D M (s.remove nm.data.toList).2 w w' := by
  obtain ⟨fs, hv, hd, hF⟩ := h.lies.ex
  unfold PS.remove
  cases hf : findV s.L nm.data.toList with
  | none =>
    refine (remove_none D M fs _ _ _ _ _ _ nm hs (findF_no hv hf) w hd).mono ?_
    rintro e w' ⟨rfl, hb⟩
    exact ⟨rfl, Went.of_below h.lies hb⟩
  | some f =>
    obtain ⟨g, hg, rfl⟩ := findF_some hv hf
    have hl := lens_of h.ok hv
    refine (remove_found D M fs s.room s.used s.ops s.arm s.keep s.fail (ops_of h.ok) s.gone rfl (used_of h.ok) (fun f hf => Nat.le_trans (hl f hf) (by omega)) nm hs g hg w hd).mono ?_
    rintro e w' ⟨rfl, hc⟩
    rw [lenOf_vs hv] at hc
    refine ⟨endAt_out _ _ _, changed_went h.old hF hv ?_ hc⟩
    rw [delV_vs, hv]

theorem rename_law {X : Nat → Prop} {D M : Nat} {s : PS} {w : World} (h : Room X D M s w) (old nm : ByteArray) (hs : old.size ≤ 9223372036854775807) (ht : nm.size ≤ 9223372036854775807) :
    Calls Tryd.prog 21 #[.pointer (some ⟨D, 0, none⟩), .string old, .string nm] w fun e w' => e = (s.rename old.data.toList nm.data.toList).1.end1 ∧ Went X D M (s.rename old.data.toList nm.data.toList).2 w w' := by
  obtain ⟨fs, hv, hd, hF⟩ := h.lies.ex
  unfold PS.rename
  cases hf : findV s.L old.data.toList with
  | none =>
    refine (rename_none D M fs _ _ _ _ _ _ old nm hs (findF_no hv hf) w hd).mono ?_
    rintro e w' ⟨rfl, hb⟩
    exact ⟨rfl, Went.of_below h.lies hb⟩
  | some f =>
    obtain ⟨g, hg, rfl⟩ := findF_some hv hf
    by_cases hn : isName nm.data.toList = false
    · simp only [hn, if_true]
      refine (rename_bad D M fs _ _ _ _ _ _ old nm hs ht hn g hg w hd).mono ?_
      rintro e w' ⟨rfl, hb⟩
      exact ⟨rfl, Went.of_below h.lies hb⟩
    · have hn' : isName nm.data.toList = true := by simpa using hn
      simp only [hn, if_false]
      have hl := lens_of h.ok hv
      refine (rename_found D M fs s.room s.used s.ops s.arm s.keep s.fail (ops_of h.ok) s.gone rfl (used_of h.ok) (fun f hf => Nat.le_trans (hl f hf) (by omega)) (num_of h.ok hv) old nm hs ht hn' g hg w hd).mono ?_
      rintro e w' ⟨rfl, hc⟩
      have e1 : renUsed fs s.used old.data.toList nm.data.toList = if old.data.toList = nm.data.toList then s.used else s.used - lenV s.L nm.data.toList := by
        unfold renUsed
        rw [lenOf_vs hv]
      rw [e1] at hc
      refine ⟨endAt_out _ _ _, changed_went h.old hF hv ?_ hc⟩
      unfold renF renV
      split
      · exact hv
      · rw [insV_vs, delV_vs, delV_vs, hv]
        rfl

theorem went_turned {X : Nat → Prop} {D M : Nat} {fs : List PF} {s : PS} {w w' : World} (hX : ∀ k, X k → k < w.heap.size) (hF : ∀ k, Foot D M fs k → ¬ X k) (h : Turned D M fs s.room s.used s.ops s.arm s.keep s.fail w w') (hv : vs fs = s.L) : Went X D M s w w' :=
  went_of_did hX hF (Did.of_turned h) hv

theorem setRoom_law {X : Nat → Prop} {D M : Nat} {s : PS} {w : World} (h : Room X D M s w) (n : Int) :
    Calls Tryd.prog 23 #[.pointer (some ⟨D, 0, none⟩), .int .i64 n] w fun e w' => e = (s.setRoom n).1.end1 ∧ Went X D M (s.setRoom n).2 w w' := by
  obtain ⟨fs, hv, hd, hF⟩ := h.lies.ex
  unfold PS.setRoom
  by_cases hn : n < 0 ∨ 1073741824 < n
  · simp only [hn, if_true]
    refine (setRoom_bad D M n hn w).mono ?_
    rintro e w' ⟨rfl, rfl⟩
    exact ⟨rfl, Went.of_below h.lies (Below.refl _ _)⟩
  · simp only [hn, if_false]
    refine (setRoom_any D M fs s.room s.used s.ops s.arm s.keep s.fail n (by omega) (by omega) w hd).mono ?_
    rintro e w' ⟨rfl, hc⟩
    exact ⟨rfl, went_turned h.old hF hc hv⟩

theorem failing_law {X : Nat → Prop} {D M : Nat} {s : PS} {w : World} (h : Room X D M s w) (n : Int) :
    Calls Tryd.prog 24 #[.pointer (some ⟨D, 0, none⟩), .int .i64 n] w fun e w' => e = (s.failing n).1.end1 ∧ Went X D M (s.failing n).2 w w' := by
  obtain ⟨fs, hv, hd, hF⟩ := h.lies.ex
  unfold PS.failing
  by_cases hn : n < 1
  · simp only [hn, if_true]
    refine (fail_bad D n hn w).mono ?_
    rintro e w' ⟨rfl, rfl⟩
    exact ⟨rfl, Went.of_below h.lies (Below.refl _ _)⟩
  · simp only [hn, if_false]
    refine (fail_any D M fs s.room s.used s.ops s.arm s.keep s.fail n (by omega) w hd).mono ?_
    rintro e w' ⟨rfl, hc⟩
    exact ⟨rfl, went_turned h.old hF hc hv⟩

theorem arming_law {X : Nat → Prop} {D M : Nat} {s : PS} {w : World} (h : Room X D M s w) (n k : Int) :
    Calls Tryd.prog 25 #[.pointer (some ⟨D, 0, none⟩), .int .i64 n, .int .i64 k] w fun e w' => e = (s.arming n k).1.end1 ∧ Went X D M (s.arming n k).2 w w' := by
  obtain ⟨fs, hv, hd, hF⟩ := h.lies.ex
  unfold PS.arming
  by_cases hn : n < 1
  · simp only [hn, if_true]
    refine (arm_bad D n k hn w).mono ?_
    rintro e w' ⟨rfl, rfl⟩
    exact ⟨rfl, Went.of_below h.lies (Below.refl _ _)⟩
  · simp only [hn, if_false]
    refine (arm_any D M fs s.room s.used s.ops s.arm s.keep s.fail (ops_of h.ok) n k (by omega) w hd).mono ?_
    rintro e w' ⟨rfl, hc⟩
    exact ⟨rfl, went_turned h.old hF hc hv⟩

theorem power_law {X : Nat → Prop} {D M : Nat} {s : PS} {w : World} (h : Room X D M s w) (k : Int) :
    Calls Tryd.prog 26 #[.pointer (some ⟨D, 0, none⟩), .int .i64 k] w fun e w' => e = (s.power k).1.end1 ∧ Went X D M (s.power k).2 w w' := by
  obtain ⟨fs, hv, hd, hF⟩ := h.lies.ex
  have hv2 : vs (fs.map (fun f => cutTo f (keepOf k f) (keepOf k f))) = s.L.map (cutW k) := by
    rw [← hv]
    unfold vs
    rw [List.map_map, List.map_map]
    rfl
  have ht : totF fs = totV s.L := by unfold totF; rw [hv]
  have ht2 : totF (fs.map (fun f => cutTo f (keepOf k f) (keepOf k f))) = totV (s.L.map (cutW k)) := by unfold totF; rw [hv2]
  have htot := h.ok.tot
  have := power_any D M fs s.room s.used s.ops s.arm s.keep s.fail k (used_of h.ok) (by omega) w hd
  rw [ht2, ht] at this
  refine this.mono ?_
  rintro e w' ⟨rfl, hc⟩
  exact ⟨rfl, went_of_did (s := (s.power k).2) h.old hF hc hv2⟩

theorem grow_some {fs fs' : List PF} {L : List VF} {nm bs : List UInt8} {blk : Nat} {nv : Value} {g : PF} (hv : vs fs = L) (hg : findF fs nm = some g) (h : fs' = setF fs ⟨nm, blk, nv, g.b ++ bs, g.safe⟩) : vs fs' = grow L nm bs := by
  have h1 : findV L nm = some g.v := by rw [← hv, findV_vs, hg]; rfl
  unfold grow
  rw [h1, h, setV_vs, hv]
  rfl
theorem grow_none {fs fs' : List PF} {L : List VF} {nm bs : List UInt8} {blk : Nat} {nv : Value} (hv : vs fs = L) (hg : findF fs nm = none) (h : fs' = insF ⟨nm, blk, nv, bs, 0⟩ fs) : vs fs' = grow L nm bs := by
  have h1 : findV L nm = none := by rw [← hv, findV_vs, hg]; rfl
  unfold grow
  rw [h1, h, insV_vs, hv]
  rfl

theorem append_law {X : Nat → Prop} {D M : Nat} {s : PS} {w : World} (h : Room X D M s w) (nm : ByteArray) (hs : nm.size ≤ 9223372036854775807) (bs : List UInt8) (m : Nat) (hm : bs.length = m) (hm0 : m ≤ 100000) (ra : Option Addr) (rc : Nat) (hcap : m ≤ rc)
    (hb : BytesAt w ra bs) (hap : bs ≠ [] → ∀ ad, ra = some ad → X ad.block) (hnil : ra = none → rc = 0) :
    Calls Tryd.prog 17 #[.pointer (some ⟨D, 0, none⟩), .string nm, .slice ra m rc] w fun e w' => e = (s.append nm.data.toList bs).1.end2 ∧ Went X D M (s.append nm.data.toList bs).2 w w' := by
  obtain ⟨fs, hv, hd, hF⟩ := h.lies.ex
  have hD : bs ≠ [] → ∀ ad, ra = some ad → ad.block ≠ D := fun hne ad had e => hF D (.inl rfl) (e ▸ hap hne ad had)
  have hM : bs ≠ [] → ∀ ad, ra = some ad → ad.block ≠ M := fun hne ad had e => hF M (.inr (.inl rfl)) (e ▸ hap hne ad had)
  have hl := lens_of h.ok hv
  unfold PS.append
  by_cases hn : isName nm.data.toList = false
  · simp only [hn, if_true]
    refine (append_bad D nm hs hn _ w).mono ?_
    rintro e w' ⟨rfl, hb⟩
    exact ⟨rfl, Went.of_below h.lies hb⟩
  · have hn' : isName nm.data.toList = true := by simpa using hn
    simp only [hn, if_false]
    rw [hm]
    have hl0 : (0 : Int) ≤ laid0 s m := by unfold laid0; omega
    cases hg : s.gone with
    | false =>
      have hk : ((laid s m : Nat) : Int) = max 0 (min (m : Int) (s.room - s.used)) := by
        unfold laid
        rw [hg]
        simp only [Bool.false_eq_true, if_false]
        unfold laid0
        omega
      simp only [Bool.false_eq_true, if_false]
      cases hf : findF fs nm.data.toList with
      | some f =>
        refine (append_found D M fs s.room s.used s.ops s.arm s.keep s.fail (ops_of h.ok) h.ok.room (used_of h.ok) hg nm hs hn' f hf bs m hm hm0 ra rc hcap w hd hb hD hnil hl (laid s m) hk).mono ?_
        rintro e w' ⟨he, fs', blk, nv, -, h2, hdid⟩
        exact ⟨he, went_of_did h.old hF hdid (grow_some hv hf (h2 f hf))⟩
      | none =>
        refine (append_new D M fs s.room s.used s.ops s.arm s.keep s.fail (ops_of h.ok) h.ok.room (used_of h.ok) hg nm hs hn' hf (num_of h.ok hv) bs m hm hm0 ra rc hcap w hd hb hD hM hnil (laid s m) hk).mono ?_
        rintro e w' ⟨he, fs', blk, nv, h2, -, hdid⟩
        exact ⟨he, went_of_did h.old hF hdid (grow_none hv hf (h2 hf))⟩
    | true =>
      have hk0 : (((laid0 s m).toNat : Nat) : Int) = max 0 (min (m : Int) (s.room - s.used)) := by
        have : laid0 s m = max 0 (min (m : Int) (s.room - s.used)) := rfl
        omega
      have hk : ((laid s m : Nat) : Int) = max 0 (min (((laid0 s m).toNat : Nat) : Int) s.keep) := by
        unfold laid
        rw [hg]
        simp only [if_true]
        omega
      simp only [if_true]
      cases hf : findF fs nm.data.toList with
      | some f =>
        refine (lost_found D M fs s.room s.used s.ops s.arm s.keep s.fail (ops_of h.ok) h.ok.room (used_of h.ok) hg nm hs hn' f hf bs m hm hm0 ra rc hcap w hd hb hD hnil hl _ (laid s m) hk0 hk).mono ?_
        rintro e w' ⟨he, fs', blk, nv, -, h2, hdid⟩
        exact ⟨he, went_of_did h.old hF hdid (grow_some hv hf (h2 f hf))⟩
      | none =>
        refine (lost_new D M fs s.room s.used s.ops s.arm s.keep s.fail (ops_of h.ok) h.ok.room (used_of h.ok) hg nm hs hn' hf (num_of h.ok hv) bs m hm hm0 ra rc hcap w hd hb hD hM hnil _ (laid s m) hk0 hk).mono ?_
        rintro e w' ⟨he, fs', blk, nv, h2, -, hdid⟩
        exact ⟨he, went_of_did h.old hF hdid (grow_none hv hf (h2 hf))⟩

end Go.Proofs.YtjbhdidjkdlceaaDoor
