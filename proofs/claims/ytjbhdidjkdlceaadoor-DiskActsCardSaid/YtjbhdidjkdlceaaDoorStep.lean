/- The disk in plain words, call by call: what each tells and what it leaves; the bounds that hold throughout. -/
import Derived.Test.YtjbhdidjkdlceaaDoorView
import Derived.Test.YtjbhdidjkdlceaaDoorPower
namespace Go.Proofs.YtjbhdidjkdlceaaDoor
open Go.RowKit Go.Maps
set_option linter.unusedVariables false

structure PS where
  L : List VF
  room : Int
  used : Int
  ops : Int
  arm : Int
  keep : Int
  fail : Int

inductive Out where
  | told (n e : Int)
  | gone (op : Int)

def PS.gone (s : PS) : Bool := s.ops + 1 == s.arm
def outOf (g : Bool) (op e : Int) : Out := if g then .gone op else .told 0 e

def PS.change (s : PS) (L' : List VF) (used' fail' : Int) : PS :=
  { s with L := if s.gone && !odd s.keep then s.L else L', used := if s.gone && !odd s.keep then s.used else used', ops := s.ops + 1, arm := if s.gone then 0 else s.arm, fail := fail' }

def laid0 (s : PS) (m : Nat) : Int := max 0 (min (m : Int) (s.room - s.used))
def laid (s : PS) (m : Nat) : Nat := (if s.gone then max 0 (min (laid0 s m) s.keep) else laid0 s m).toNat
def grow (L : List VF) (nm bs : List UInt8) : List VF :=
  match findV L nm with
  | some f => setV L ⟨nm, f.b ++ bs, f.safe⟩
  | none => insV ⟨nm, bs, 0⟩ L

def PS.append (s : PS) (nm bs : List UInt8) : Out × PS :=
  if isName nm = false then (.told 0 16, s) else
  (if s.gone then .gone (s.ops + 1) else .told (laid s bs.length) (errOf (laid s bs.length) bs.length),
   { s with L := grow s.L nm (bs.take (laid s bs.length)), used := s.used + laid s bs.length, ops := s.ops + 1, arm := if s.gone then 0 else s.arm })

def PS.truncate (s : PS) (nm : List UInt8) (n : Int) : Out × PS :=
  match findV s.L nm with
  | none => (.told 0 6, s)
  | some f => if n < 0 ∨ (f.b.length : Int) < n then (.told 0 3, s) else
    (outOf s.gone (s.ops + 1) 0, s.change (setV s.L ⟨f.name, f.b.take n.toNat, min f.safe n.toNat⟩) (s.used - (f.b.length - n)) s.fail)

def PS.sync (s : PS) (nm : List UInt8) : Out × PS :=
  match findV s.L nm with
  | none => (.told 0 6, s)
  | some f => (outOf s.gone (s.ops + 1) (if s.fail == 1 then 5 else 0), s.change (if s.fail == 1 then s.L else setV s.L ⟨f.name, f.b, f.b.length⟩) s.used (max 0 (s.fail - 1)))

def lenV (L : List VF) (nm : List UInt8) : Nat := ((findV L nm).map (·.b.length)).getD 0
def safeV (L : List VF) (nm : List UInt8) : Nat := ((findV L nm).map (·.safe)).getD 0

def renV (L : List VF) (f : VF) (old nm : List UInt8) : List VF := if old = nm then L else insV ⟨nm, f.b, f.safe⟩ (delV (delV L nm) old)
def PS.rename (s : PS) (old nm : List UInt8) : Out × PS :=
  match findV s.L old with
  | none => (.told 0 6, s)
  | some f => if isName nm = false then (.told 0 16, s) else
    (outOf s.gone (s.ops + 1) 0, s.change (renV s.L f old nm) (if old = nm then s.used else s.used - lenV s.L nm) s.fail)

def PS.remove (s : PS) (nm : List UInt8) : Out × PS :=
  match findV s.L nm with
  | none => (.told 0 6, s)
  | some _ => (outOf s.gone (s.ops + 1) 0, s.change (delV s.L nm) (s.used - lenV s.L nm) s.fail)

def PS.setRoom (s : PS) (n : Int) : Out × PS := if n < 0 ∨ 1073741824 < n then (.told 0 3, s) else (.told 0 0, { s with room := n })
def PS.failing (s : PS) (n : Int) : Out × PS := if n < 1 then (.told 0 3, s) else (.told 0 0, { s with fail := n })
def PS.arming (s : PS) (n k : Int) : Out × PS := if n < 1 then (.told 0 3, s) else (.told 0 0, { s with arm := s.ops + min n 1099511627776, keep := k })

def keepW (keep : Int) (f : VF) : Nat := f.safe + (max 0 (min keep ((f.b.length : Int) - f.safe))).toNat
def cutW (keep : Int) (f : VF) : VF := ⟨f.name, f.b.take (keepW keep f), keepW keep f⟩
def PS.power (s : PS) (k : Int) : Out × PS := (.told 0 0, { s with L := s.L.map (cutW k), used := s.used - totV s.L + totV (s.L.map (cutW k)), arm := 0, fail := 0 })

/-- A call, in plain words. -/
structure PA where
  kind : Int
  n : Int
  keep : Int
  a : List UInt8
  b : List UInt8
  data : List UInt8

def PS.act (s : PS) (a : PA) : Out × PS :=
  if a.kind = 0 then s.append a.a a.data
  else if a.kind = 1 then s.truncate a.a a.n
  else if a.kind = 2 then s.sync a.a
  else if a.kind = 3 then s.rename a.a a.b
  else if a.kind = 4 then s.remove a.a
  else if a.kind = 5 then s.setRoom a.n
  else if a.kind = 6 then s.failing a.n
  else if a.kind = 7 then s.arming a.n a.keep
  else if a.kind = 8 then s.power a.keep
  else (.told 0 0, s)

/-- What holds throughout: a: how many calls at most; t: how many bytes. -/
structure Ok (a t : Nat) (s : PS) : Prop where
  sorted : Sorted s.L
  named : ∀ f ∈ s.L, isName f.name = true
  safe : ∀ f ∈ s.L, f.safe ≤ f.b.length
  used : s.used = totV s.L
  tot : totV s.L ≤ t
  num : s.L.length ≤ a
  ops : 0 ≤ s.ops ∧ s.ops ≤ a
  room : 0 ≤ s.room ∧ s.room ≤ 1073741824
  fail : 0 ≤ s.fail ∧ s.fail ≤ 9223372036854775807

theorem Ok.mono {a t a' t' : Nat} {s : PS} (h : Ok a t s) (ha : a ≤ a') (ht : t ≤ t') : Ok a' t' s :=
  ⟨h.sorted, h.named, h.safe, h.used, Nat.le_trans h.tot ht, Nat.le_trans h.num ha, ⟨h.ops.1, by have := h.ops.2; omega⟩, h.room, h.fail⟩

theorem len_le_totV {L : List VF} {f : VF} (hf : f ∈ L) : f.b.length ≤ totV L := by
  induction L with
  | nil => simp at hf
  | cons a L ih =>
    unfold totV at ih ⊢
    simp only [List.map_cons, List.sum_cons]
    rcases List.mem_cons.1 hf with rfl | hf
    · omega
    · have := ih hf
      omega

theorem mem_setV {L : List VF} {f' g : VF} (h : g ∈ setV L f') : g = f' ∨ g ∈ L := by
  obtain ⟨g0, hg0, rfl⟩ := List.mem_map.1 h
  split
  · exact .inl rfl
  · exact .inr hg0

theorem mem_delV {L : List VF} {nm : List UInt8} {g : VF} (h : g ∈ delV L nm) : g ∈ L := (List.mem_filter.1 h).1

theorem length_insV (f : VF) (L : List VF) : (insV f L).length = L.length + 1 := by
  induction L with
  | nil => rfl
  | cons a L ih =>
    unfold insV
    split
    · simp
    · simp [ih]

theorem findV_delV_ne {L : List VF} {a b : List UInt8} (hab : a ≠ b) : findV (delV L b) a = findV L a := by
  unfold findV delV
  induction L with
  | nil => rfl
  | cons g L ih =>
    rw [List.filter_cons]
    by_cases hg : g.name = b
    · have e1 : (!(g.name == b)) = false := by simpa using hg
      have e2 : (g.name == a) = false := by rw [hg]; simpa using fun e => hab e.symm
      rw [e1, List.find?_cons, e2]
      exact ih
    · have e1 : (!(g.name == b)) = true := by simpa using hg
      rw [if_pos e1, List.find?_cons, List.find?_cons, ih]

theorem lenV_some {L : List VF} {nm : List UInt8} {f : VF} (h : findV L nm = some f) : lenV L nm = f.b.length := by unfold lenV; rw [h]; rfl
theorem lenV_none {L : List VF} {nm : List UInt8} (h : findV L nm = none) : lenV L nm = 0 := by unfold lenV; rw [h]; rfl

theorem tot_del {L : List VF} (h : Sorted L) (nm : List UInt8) : totV (delV L nm) + lenV L nm = totV L := by
  cases hf : findV L nm with
  | none => rw [lenV_none hf, delV_none hf]; rfl
  | some f =>
    rw [lenV_some hf]
    obtain ⟨hm, rfl⟩ := findV_mem hf
    exact tot_delV h hm

theorem keepW_le {k : Int} {f : VF} (h : f.safe ≤ f.b.length) : keepW k f ≤ f.b.length ∧ f.safe ≤ keepW k f := by
  unfold keepW
  omega

/-- What the power's going leaves. -/
theorem Ok.change {a t : Nat} {s : PS} (h : Ok a t s) (L' : List VF) (used' fail' : Int) (h1 : Sorted L') (h2 : ∀ f ∈ L', isName f.name = true) (h3 : ∀ f ∈ L', f.safe ≤ f.b.length) (h4 : used' = totV L') (h5 : totV L' ≤ t) (h6 : L'.length ≤ a) (h7 : 0 ≤ fail' ∧ fail' ≤ 9223372036854775807) : Ok (a + 1) t (s.change L' used' fail') := by
  have ho := h.ops
  unfold PS.change
  cases s.gone && !odd s.keep with
  | true => exact ⟨h.sorted, h.named, h.safe, h.used, h.tot, Nat.le_succ_of_le h.num, ⟨by show 0 ≤ s.ops + 1; omega, by show s.ops + 1 ≤ _; omega⟩, h.room, h7⟩
  | false => exact ⟨h1, h2, h3, h4, h5, Nat.le_succ_of_le h6, ⟨by show 0 ≤ s.ops + 1; omega, by show s.ops + 1 ≤ _; omega⟩, h.room, h7⟩

theorem laid_le (s : PS) (m : Nat) : laid s m ≤ m := by
  unfold laid laid0
  split <;> omega

theorem Ok.append {a t : Nat} {s : PS} (h : Ok a t s) (nm bs : List UInt8) : Ok (a + 1) (t + bs.length) (s.append nm bs).2 := by
  have ho := h.ops
  have hu := h.used
  have ht := h.tot
  have hn := h.num
  unfold PS.append
  by_cases hnm : isName nm = false
  · rw [if_pos hnm]
    exact h.mono (Nat.le_succ _) (Nat.le_add_right _ _)
  · rw [if_neg hnm]
    have hnm' : isName nm = true := by simpa using hnm
    have hk := laid_le s bs.length
    have hlen : (bs.take (laid s bs.length)).length = laid s bs.length := by rw [List.length_take]; omega
    cases hf : findV s.L nm with
    | none =>
      have e : grow s.L nm (bs.take (laid s bs.length)) = insV ⟨nm, bs.take (laid s bs.length), 0⟩ s.L := by unfold grow; rw [hf]
      have etot : totV (insV ⟨nm, bs.take (laid s bs.length), 0⟩ s.L) = laid s bs.length + totV s.L := by rw [tot_insV]; simp only [hlen]
      refine ⟨?_, ?_, ?_, ?_, ?_, ?_, ⟨by show 0 ≤ s.ops + 1; omega, by show s.ops + 1 ≤ _; omega⟩, h.room, h.fail⟩
      · show Sorted (grow _ _ _)
        rw [e]
        exact sorted_insV h.sorted hf
      · intro f hfm
        have hfm' : f ∈ grow s.L nm (bs.take (laid s bs.length)) := hfm
        rw [e] at hfm'
        rcases mem_insV.1 hfm' with rfl | h1
        · exact hnm'
        · exact h.named f h1
      · intro f hfm
        have hfm' : f ∈ grow s.L nm (bs.take (laid s bs.length)) := hfm
        rw [e] at hfm'
        rcases mem_insV.1 hfm' with rfl | h1
        · exact Nat.zero_le _
        · exact h.safe f h1
      · show s.used + laid s bs.length = totV (grow _ _ _)
        rw [e, etot]
        omega
      · show totV (grow _ _ _) ≤ _
        rw [e, etot]
        omega
      · show (grow s.L nm (bs.take (laid s bs.length))).length ≤ _
        rw [e, length_insV]
        omega
    | some f =>
      obtain ⟨hm, hfn⟩ := findV_mem hf
      have e : grow s.L nm (bs.take (laid s bs.length)) = setV s.L ⟨nm, f.b ++ bs.take (laid s bs.length), f.safe⟩ := by unfold grow; rw [hf]
      have etot := tot_setV h.sorted (f := f) (f' := ⟨nm, f.b ++ bs.take (laid s bs.length), f.safe⟩) hm hfn.symm
      simp only [List.length_append, hlen] at etot
      refine ⟨?_, ?_, ?_, ?_, ?_, ?_, ⟨by show 0 ≤ s.ops + 1; omega, by show s.ops + 1 ≤ _; omega⟩, h.room, h.fail⟩
      · show Sorted (grow _ _ _)
        rw [e]
        exact sorted_setV h.sorted
      · intro g hgm
        have hgm' : g ∈ grow s.L nm (bs.take (laid s bs.length)) := hgm
        rw [e] at hgm'
        rcases mem_setV hgm' with rfl | h1
        · exact hnm'
        · exact h.named g h1
      · intro g hgm
        have hgm' : g ∈ grow s.L nm (bs.take (laid s bs.length)) := hgm
        rw [e] at hgm'
        rcases mem_setV hgm' with rfl | h1
        · have := h.safe f hm
          show f.safe ≤ (f.b ++ bs.take (laid s bs.length)).length
          rw [List.length_append]
          omega
        · exact h.safe g h1
      · show s.used + laid s bs.length = totV (grow _ _ _)
        rw [e]
        omega
      · show totV (grow _ _ _) ≤ _
        rw [e]
        omega
      · show (grow s.L nm (bs.take (laid s bs.length))).length ≤ _
        rw [e]
        unfold setV
        rw [List.length_map]
        omega

theorem Ok.truncate {a t : Nat} {s : PS} (h : Ok a t s) (nm : List UInt8) (n : Int) : Ok (a + 1) t (s.truncate nm n).2 := by
  have hu := h.used
  have ht := h.tot
  unfold PS.truncate
  cases hf : findV s.L nm with
  | none => exact h.mono (Nat.le_succ _) (Nat.le_refl _)
  | some f =>
    obtain ⟨hm, hfn⟩ := findV_mem hf
    by_cases hn : n < 0 ∨ (f.b.length : Int) < n
    · simp only [hn, if_true]
      exact h.mono (Nat.le_succ _) (Nat.le_refl _)
    · simp only [hn, if_false]
      have hlen : (f.b.take n.toNat).length = n.toNat := by rw [List.length_take]; omega
      have etot := tot_setV h.sorted (f := f) (f' := ⟨f.name, f.b.take n.toNat, min f.safe n.toNat⟩) hm rfl
      simp only [hlen] at etot
      refine h.change _ _ _ (sorted_setV h.sorted) (fun g hg => ?_) (fun g hg => ?_) (by omega) (by omega) (by unfold setV; rw [List.length_map]; exact h.num) h.fail
      · rcases mem_setV hg with rfl | h1
        · exact h.named f hm
        · exact h.named g h1
      · rcases mem_setV hg with rfl | h1
        · show min f.safe n.toNat ≤ (f.b.take n.toNat).length
          omega
        · exact h.safe g h1

theorem Ok.sync {a t : Nat} {s : PS} (h : Ok a t s) (nm : List UInt8) : Ok (a + 1) t (s.sync nm).2 := by
  have hu := h.used
  have ht := h.tot
  have hfl := h.fail
  unfold PS.sync
  cases hf : findV s.L nm with
  | none => exact h.mono (Nat.le_succ _) (Nat.le_refl _)
  | some f =>
    obtain ⟨hm, hfn⟩ := findV_mem hf
    simp only
    cases s.fail == 1 with
    | true => exact h.change _ _ _ h.sorted h.named h.safe h.used h.tot h.num (by omega)
    | false =>
      have etot := tot_setV h.sorted (f := f) (f' := ⟨f.name, f.b, f.b.length⟩) hm rfl
      simp only at etot
      refine h.change (setV s.L ⟨f.name, f.b, f.b.length⟩) _ _ (sorted_setV h.sorted) (fun g hg => ?_) (fun g hg => ?_) (by omega) (by omega) (by unfold setV; rw [List.length_map]; exact h.num) (by omega)
      · rcases mem_setV hg with rfl | h1
        · exact h.named f hm
        · exact h.named g h1
      · rcases mem_setV hg with rfl | h1
        · exact Nat.le_refl _
        · exact h.safe g h1

theorem Ok.remove {a t : Nat} {s : PS} (h : Ok a t s) (nm : List UInt8) : Ok (a + 1) t (s.remove nm).2 := by
  have hu := h.used
  have ht := h.tot
  unfold PS.remove
  cases hf : findV s.L nm with
  | none => exact h.mono (Nat.le_succ _) (Nat.le_refl _)
  | some f =>
    have etot := tot_del h.sorted nm
    exact h.change _ _ _ (sorted_delV nm h.sorted) (fun g hg => h.named g (mem_delV hg)) (fun g hg => h.safe g (mem_delV hg)) (by omega) (by omega) (Nat.le_trans (List.length_filter_le _ _) h.num) h.fail

theorem Ok.rename {a t : Nat} {s : PS} (h : Ok a t s) (old nm : List UInt8) : Ok (a + 1) t (s.rename old nm).2 := by
  have hu := h.used
  have ht := h.tot
  unfold PS.rename
  cases hf : findV s.L old with
  | none => exact h.mono (Nat.le_succ _) (Nat.le_refl _)
  | some f =>
    obtain ⟨hm, hfn⟩ := findV_mem hf
    by_cases hnm : isName nm = false
    · simp only [hnm, if_true]
      exact h.mono (Nat.le_succ _) (Nat.le_refl _)
    · have hnm' : isName nm = true := by simpa using hnm
      simp only [hnm, if_false]
      by_cases he : old = nm
      · have e1 : renV s.L f old nm = s.L := by simp [renV, he]
        rw [e1, if_pos he]
        exact h.change _ _ _ h.sorted h.named h.safe h.used h.tot h.num h.fail
      · have e1 : renV s.L f old nm = insV ⟨nm, f.b, f.safe⟩ (delV (delV s.L nm) old) := by simp [renV, he]
        rw [e1, if_neg he]
        have hs1 := sorted_delV nm h.sorted
        have hs2 := sorted_delV old hs1
        have hn2 : findV (delV (delV s.L nm) old) nm = none := (findV_delV_ne (fun e => he e.symm)).trans (findV_delV _ _)
        have hf1 : findV (delV s.L nm) old = some f := (findV_delV_ne he).trans hf
        have t1 := tot_del h.sorted nm
        have t2 := tot_del hs1 old
        rw [lenV_some hf1] at t2
        have t3 := tot_insV ⟨nm, f.b, f.safe⟩ (delV (delV s.L nm) old)
        simp only at t3
        have hlen : (delV (delV s.L nm) old).length + 1 ≤ s.L.length := by
          have hm1 := (findV_mem hf1).1
          have h1 : (delV (delV s.L nm) old).length < (delV s.L nm).length := by
            unfold delV
            refine List.length_filter_lt_length_iff_exists.2 ⟨f, ?_, ?_⟩
            · exact hm1
            · simp [hfn]
          have h2 : (delV s.L nm).length ≤ s.L.length := List.length_filter_le _ _
          omega
        refine h.change _ _ _ (sorted_insV hs2 hn2) (fun g hg => ?_) (fun g hg => ?_) (by omega) (by omega) (by rw [length_insV]; exact Nat.le_trans hlen h.num) h.fail
        · rcases mem_insV.1 hg with rfl | h1
          · exact hnm'
          · exact h.named g (mem_delV (mem_delV h1))
        · rcases mem_insV.1 hg with rfl | h1
          · exact h.safe f hm
          · exact h.safe g (mem_delV (mem_delV h1))

theorem tot_cut (k : Int) (L : List VF) : totV (L.map (cutW k)) ≤ totV L := by
  induction L with
  | nil => exact Nat.le_refl _
  | cons a L ih =>
    unfold totV at ih ⊢
    simp only [List.map_cons, List.sum_cons]
    refine Nat.add_le_add ?_ ih
    show (a.b.take _).length ≤ a.b.length
    rw [List.length_take]
    omega

theorem sorted_cut {L : List VF} (k : Int) (h : Sorted L) : Sorted (L.map (cutW k)) := by
  unfold Sorted
  rw [List.pairwise_map]
  exact h

theorem Ok.power {a t : Nat} {s : PS} (h : Ok a t s) (k : Int) : Ok (a + 1) t (s.power k).2 := by
  have hu := h.used
  have hc := tot_cut k s.L
  refine ⟨sorted_cut k h.sorted, fun f hf => ?_, fun f hf => ?_, ?_, Nat.le_trans hc h.tot, ?_, ⟨h.ops.1, by have := h.ops.2; show s.ops ≤ _; omega⟩, h.room, ⟨Int.le_refl 0, (by decide : (0 : Int) ≤ 9223372036854775807)⟩⟩
  · obtain ⟨g, hg, rfl⟩ := List.mem_map.1 hf
    exact h.named g hg
  · obtain ⟨g, hg, rfl⟩ := List.mem_map.1 hf
    have := keepW_le (k := k) (h.safe g hg)
    show keepW k g ≤ (g.b.take (keepW k g)).length
    rw [List.length_take]
    omega
  · show s.used - totV s.L + totV (s.L.map (cutW k)) = totV (s.L.map (cutW k))
    omega
  · show (s.L.map (cutW k)).length ≤ _
    rw [List.length_map]
    exact Nat.le_succ_of_le h.num

theorem Ok.act {a t : Nat} {s : PS} (h : Ok a t s) (p : PA) (hn : p.n ≤ 9223372036854775807) : Ok (a + 1) (t + p.data.length) (s.act p).2 := by
  have h0 := h.mono (Nat.le_succ a) (Nat.le_add_right t p.data.length)
  have up : ∀ {s' : PS}, Ok (a + 1) t s' → Ok (a + 1) (t + p.data.length) s' := fun k => k.mono (Nat.le_refl _) (Nat.le_add_right _ _)
  unfold PS.act
  split
  · exact h.append _ _
  split
  · exact up (h.truncate _ _)
  split
  · exact up (h.sync _)
  split
  · exact up (h.rename _ _)
  split
  · exact up (h.remove _)
  split
  · unfold PS.setRoom
    split
    · exact h0
    · exact ⟨h0.sorted, h0.named, h0.safe, h0.used, h0.tot, h0.num, h0.ops, ⟨by show 0 ≤ p.n; omega, by show p.n ≤ _; omega⟩, h0.fail⟩
  split
  · unfold PS.failing
    split
    · exact h0
    · exact ⟨h0.sorted, h0.named, h0.safe, h0.used, h0.tot, h0.num, h0.ops, h0.room, ⟨by show 0 ≤ p.n; omega, hn⟩⟩
  split
  · unfold PS.arming
    split
    · exact h0
    · exact ⟨h0.sorted, h0.named, h0.safe, h0.used, h0.tot, h0.num, h0.ops, h0.room, h0.fail⟩
  split
  · exact up (h.power _)
  · exact h0

end Go.Proofs.YtjbhdidjkdlceaaDoor
