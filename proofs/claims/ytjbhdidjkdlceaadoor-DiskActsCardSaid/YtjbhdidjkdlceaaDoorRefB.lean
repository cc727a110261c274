/- The reference: Truncate, Sync. -/
import Derived.Test.YtjbhdidjkdlceaaDoorRefA
import Derived.StillTailTactics
import Derived.BigRegion

/- The reference: what is stored into a file's cells; Truncate. -/
namespace Go.Proofs.YtjbhdidjkdlceaaDoor
open Go.RowKit Go.Maps
set_option linter.unusedVariables false

theorem set_same {α : Type} {l : List α} {k : Nat} {a : α} (h : l[k]? = some a) : l.set k a = l := by
  apply List.ext_getElem?
  intro i
  rw [List.getElem?_set]
  split
  · rename_i e
    subst e
    rw [h]
    have : k < l.length := (List.getElem?_eq_some_iff.1 h).1
    simp [this]
  · rfl

theorem rcells_setB {fs : List RB} {j : Nat} {f : RB} (hf : fs[j]? = some f) (b' : List UInt8) (bv' : Value) : rcells (fs.set j ⟨⟨f.v.name, b', f.v.safe⟩, bv'⟩) = (rcells fs).set (j * 3 + 1) bv' := by
  obtain ⟨h0, h1, h2⟩ := rcells_at fs j f hf
  rw [rcells_set fs j f _ hf]
  show (((rcells fs).set (j * 3) (.string (strB f.v.name))).set (j * 3 + 1) bv').set (j * 3 + 2) (.int .i64 f.v.safe) = _
  rw [set_same h0, set_same]
  rw [List.getElem?_set_ne (by omega)]
  exact h2
theorem rcells_setS {fs : List RB} {j : Nat} {f : RB} (hf : fs[j]? = some f) (k : Nat) : rcells (fs.set j ⟨⟨f.v.name, f.v.b, k⟩, f.bv⟩) = (rcells fs).set (j * 3 + 2) (.int .i64 k) := by
  obtain ⟨h0, h1, h2⟩ := rcells_at fs j f hf
  rw [rcells_set fs j f _ hf]
  show (((rcells fs).set (j * 3) (.string (strB f.v.name))).set (j * 3 + 1) f.bv).set (j * 3 + 2) (.int .i64 k) = _
  rw [set_same h0, set_same h1]

/-- A file's bytes are others now. -/
theorem RAt.setB {F : Nat → Prop} {R : Nat} {fs : List RB} {lv : Value} {s : RS} {w : World} (h : RAt F R fs lv s w) {j : Nat} {f : RB} (hf : fs[j]? = some f) {g n c : Nat} (hlv : lv = .slice (some ⟨g, 0, none⟩) n c) {b' : List UInt8} {bv' : Value}
    (hrow : w.ownsRow 0 5 1 bv' b'.length (b'.map bv)) (hF : ∀ k, bv'.ownBlock = some k → F k) : RAt F R (fs.set j ⟨⟨f.v.name, b', f.v.safe⟩, bv'⟩) lv s (w.setCell ⟨g, j * 3 + 1, none⟩ bv') ∧ Mod F w (w.setCell ⟨g, j * 3 + 1, none⟩ bv') := by
  have hr := h.row
  have hFg : F g := h.footL g (by rw [hlv]; rfl)
  have m : Mod (fun t => lv.ownBlock = some t) w (w.setCell ⟨g, j * 3 + 1, none⟩ bv') := Mod.setCell (a := ⟨g, j * 3 + 1, none⟩) (by rw [hlv]; rfl) _
  have hn : n = fs.length := by
    obtain ⟨a, c', e⟩ := slice_form hr
    rw [hlv] at e
    simp only [Value.slice.injEq] at e
    exact e.2.1
  have hap : ∀ {v : Value} {n : Nat} {xs : List Value}, w.ownsRow 0 5 1 v n xs → (w.setCell ⟨g, j * 3 + 1, none⟩ bv').ownsRow 0 5 1 v n xs := fun hx => m.row hx (fun k hk hs => rows_apart hx hr (by decide) k hk hs)
  refine ⟨⟨m.keep h.box (fun e => ?_), ?_, fun x hx => ?_, h.footR, h.footL, fun x hx => ?_⟩, m.mono (fun t _ e => by rw [hlv] at e; simp [Value.ownBlock] at e; subst e; exact hFg)⟩
  · rcases hr.2 with ⟨e1, _⟩ | ⟨g', cap, cur, e1, _, hg, _⟩
    · rw [e1] at e
      cases e
    · rw [e1] at e
      simp [Value.ownBlock] at e
      subst e
      rw [h.box] at hg
      simp at hg
  · rw [hlv, hn] at hr
    have := (hr.stored (j * 3 + 1) bv').1
    rw [List.length_set, rcells_setB hf, hlv, hn]
    exact this
  · rcases List.mem_or_eq_of_mem_set hx with h1 | rfl
    · exact hap (h.files x h1)
    · exact hap hrow
  · rcases List.mem_or_eq_of_mem_set hx with h1 | rfl
    · exact h.footB x h1
    · exact hF

theorem RAt.setS {F : Nat → Prop} {R : Nat} {fs : List RB} {lv : Value} {s : RS} {w : World} (h : RAt F R fs lv s w) {j : Nat} {f : RB} (hf : fs[j]? = some f) {g n c : Nat} (hlv : lv = .slice (some ⟨g, 0, none⟩) n c) (k : Nat) :
    RAt F R (fs.set j ⟨⟨f.v.name, f.v.b, k⟩, f.bv⟩) lv s (w.setCell ⟨g, j * 3 + 2, none⟩ (.int .i64 k)) ∧ Mod F w (w.setCell ⟨g, j * 3 + 2, none⟩ (.int .i64 k)) := by
  have hr := h.row
  have hFg : F g := h.footL g (by rw [hlv]; rfl)
  have m : Mod (fun t => lv.ownBlock = some t) w (w.setCell ⟨g, j * 3 + 2, none⟩ (.int .i64 k)) := Mod.setCell (a := ⟨g, j * 3 + 2, none⟩) (by rw [hlv]; rfl) _
  have hn : n = fs.length := by
    obtain ⟨a, c', e⟩ := slice_form hr
    rw [hlv] at e
    simp only [Value.slice.injEq] at e
    exact e.2.1
  have hap : ∀ {v : Value} {n : Nat} {xs : List Value}, w.ownsRow 0 5 1 v n xs → (w.setCell ⟨g, j * 3 + 2, none⟩ (.int .i64 k)).ownsRow 0 5 1 v n xs := fun hx => m.row hx (fun k hk hs => rows_apart hx hr (by decide) k hk hs)
  have hfm := List.mem_of_getElem? hf
  refine ⟨⟨m.keep h.box (fun e => ?_), ?_, fun x hx => ?_, h.footR, h.footL, fun x hx => ?_⟩, m.mono (fun t _ e => by rw [hlv] at e; simp [Value.ownBlock] at e; subst e; exact hFg)⟩
  · rcases hr.2 with ⟨e1, _⟩ | ⟨g', cap, cur, e1, _, hg, _⟩
    · rw [e1] at e
      cases e
    · rw [e1] at e
      simp [Value.ownBlock] at e
      subst e
      rw [h.box] at hg
      simp at hg
  · rw [hlv, hn] at hr
    have := (hr.stored (j * 3 + 2) (.int .i64 k)).1
    rw [List.length_set, rcells_setS hf, hlv, hn]
    exact this
  · rcases List.mem_or_eq_of_mem_set hx with h1 | rfl
    · exact hap (h.files x h1)
    · exact hap (h.files f hfm)
  · rcases List.mem_or_eq_of_mem_set hx with h1 | rfl
    · exact h.footB x h1
    · exact h.footB f hfm

/-- A reslice of a row of one's own. -/
theorem row_take {w : World} {v : Value} {a : Option Addr} {n c : Nat} {xs : List Value} (h : w.ownsRow 0 5 1 (.slice a n c) n xs) {k : Nat} (hk : k ≤ n) : w.ownsRow 0 5 1 (.slice a k c) k (xs.take k) := by
  refine ⟨by rw [List.length_take, h.1]; omega, ?_⟩
  rcases h.2 with ⟨e1, e2⟩ | ⟨g, cap, cur, e1, e2, e3, e4, e5, e6, e7⟩
  · left
    simp only [Value.slice.injEq] at e1
    obtain ⟨rfl, _, rfl⟩ := e1
    have : k = 0 := by omega
    subst this
    exact ⟨rfl, rfl⟩
  · right
    simp only [Value.slice.injEq, true_and] at e1
    obtain ⟨rfl, rfl⟩ := e1
    refine ⟨g, c, cur, rfl, e2, e3, by omega, e5, e6, ?_⟩
    rw [← e7, List.take_take]
    congr 1
    omega

theorem Sorted.at_inj {L : List VF} (h : Sorted L) {i j : Nat} {f g : VF} (hf : L[i]? = some f) (hg : L[j]? = some g) (hn : f.name = g.name) : i = j := by
  have hp := List.pairwise_iff_getElem.1 h
  obtain ⟨hi, rfl⟩ := List.getElem?_eq_some_iff.1 hf
  obtain ⟨hj, rfl⟩ := List.getElem?_eq_some_iff.1 hg
  rcases Nat.lt_trichotomy i j with h1 | h1 | h1
  · exact absurd hn (before_ne (hp i j hi hj h1))
  · exact h1
  · exact absurd hn.symm (before_ne (hp j i hj hi h1))

theorem setV_at {L : List VF} (h : Sorted L) {i : Nat} {f f' : VF} (hf : L[i]? = some f) (hn : f'.name = f.name) : setV L f' = L.set i f' := by
  apply List.ext_getElem?
  intro j
  unfold setV
  rw [List.getElem?_map, List.getElem?_set]
  have hi : i < L.length := (List.getElem?_eq_some_iff.1 hf).1
  split
  · rename_i e
    subst e
    rw [hf]
    simp [hn, hi]
  · rename_i e
    cases hg : L[j]? with
    | none => rfl
    | some g =>
      have : (g.name == f'.name) = false := by
        rw [beq_eq_false_iff_ne, hn]
        exact fun e2 => e (h.at_inj hf hg e2.symm)
      simp only [Option.map_some, this, Bool.false_eq_true, if_false]

/-- Where a name stands in a sorted list. -/
theorem first_of {L : List VF} (h : Sorted L) (x : List UInt8) : (findV L x = none ∧ First L x L.length) ∨ ∃ i f, findV L x = some f ∧ f.name = x ∧ L[i]? = some f ∧ i < L.length ∧ First L x i := by
  cases hx : findV L x with
  | none =>
    left
    unfold findV at hx
    rw [List.find?_eq_none] at hx
    refine ⟨rfl, Nat.le_refl _, fun j g _ hg => by simpa using hx g (List.mem_of_getElem? hg), fun g hg => ?_⟩
    rw [List.getElem?_eq_none (Nat.le_refl _)] at hg
    cases hg
  | some f =>
    right
    obtain ⟨h1, h2⟩ := findV_mem hx
    obtain ⟨i, hi, hfi⟩ := List.mem_iff_getElem.1 h1
    have hf : L[i]? = some f := by rw [List.getElem?_eq_getElem hi, hfi]
    refine ⟨i, f, rfl, h2, hf, hi, Nat.le_of_lt hi, fun j g hj hg e => ?_, fun g hg => ?_⟩
    · have := h.at_inj hg hf (e.trans h2.symm)
      omega
    · rw [hf] at hg
      exact (Option.some.inj hg) ▸ h2

def RS.gone (s : RS) : Bool := s.armed == 1
def RS.chg (s : RS) (L' : List VF) (failing' : Int) : RS := { s.beg with L := if s.gone && !odd s.keeping then s.L else L', failing := failing' }

theorem rem_odd (k : Int) : (k.tmod 2 != 0) = odd k := by
  unfold odd
  rw [Bool.eq_iff_iff]
  simp
  rcases Int.le_total 0 k with h | h
  · rw [Int.tmod_eq_emod_of_nonneg h]
    omega
  · have : k.tmod 2 = -((-k).tmod 2) := by rw [Int.neg_tmod]; omega
    rw [this, Int.tmod_eq_emod_of_nonneg (by omega)]
    omega

theorem rfind_none {F : Nat → Prop} {R : Nat} {s : RS} {w : World} (h : Ref F R s w) (hs : Fine s) (x : List UInt8) (hx : First s.L x s.L.length) :
    Calls Tryd.prog 54 #[.pointer (some ⟨R, 0, none⟩), .string (strB x)] w fun e w' => e = .returned (.int .i64 (-1)) ∧ w' = w := by
  have := rfind_law h hs x _ hx
  have e : foundAt s.L.length s.L.length = -1 := by unfold foundAt; rw [if_neg (Nat.lt_irrefl _)]
  rw [e] at this
  exact this
theorem rfind_some {F : Nat → Prop} {R : Nat} {s : RS} {w : World} (h : Ref F R s w) (hs : Fine s) (x : List UInt8) (i : Nat) (hi : i < s.L.length) (hx : First s.L x i) :
    Calls Tryd.prog 54 #[.pointer (some ⟨R, 0, none⟩), .string (strB x)] w fun e w' => e = .returned (.int .i64 (i : Nat)) ∧ w' = w := by
  have := rfind_law h hs x _ hx
  have e : foundAt i s.L.length = i := by unfold foundAt; rw [if_pos hi]
  rw [e] at this
  exact this

end Go.Proofs.YtjbhdidjkdlceaaDoor

/- The reference: Truncate. -/
namespace Go.Proofs.YtjbhdidjkdlceaaDoor
open Go.RowKit Go.Maps
set_option linter.unusedVariables false

def RS.truncate (s : RS) (x : List UInt8) (n : Int) : (Int × Bool) × RS :=
  match findV s.L x with
  | none => ((6, false), s)
  | some f => if n < 0 ∨ (f.b.length : Int) < n then ((3, false), s) else
    ((0, s.gone), s.chg (setV s.L ⟨f.name, f.b.take n.toNat, min f.safe n.toNat⟩) s.failing)

/-- A file as it lies, and its place. -/
theorem RAt.file {F : Nat → Prop} {R : Nat} {fs : List RB} {lv : Value} {s : RS} {w : World} (h : RAt F R fs lv s w) (hv : fs.map (·.v) = s.L) {i : Nat} {f : VF} (hf : s.L[i]? = some f) : ∃ r a c, fs[i]? = some r ∧ r.v = f ∧ r.bv = .slice a f.b.length c := by
  rw [← hv, List.getElem?_map] at hf
  cases hr : fs[i]? with
  | none => rw [hr] at hf; cases hf
  | some r =>
    rw [hr] at hf
    obtain rfl := Option.some.inj hf
    obtain ⟨a, c, hb⟩ := slice_form (h.files r (List.mem_of_getElem? hr))
    exact ⟨r, a, c, rfl, rfl, hb⟩

/-- What a walk reads of file i. -/
structure Opened (F : Nat → Prop) (R : Nat) (s : RS) (i : Nat) (f : VF) (w : World) (fs : List RB) (r : RB) (g lc : Nat) (ba : Option Addr) (bc : Nat) : Prop where
  vs : fs.map (·.v) = s.L
  ref : RAt F R fs (.slice (some ⟨g, 0, none⟩) fs.length lc) s w
  at' : fs[i]? = some r
  v : r.v = f
  rbv : r.bv = .slice ba f.b.length bc
  lt : i < fs.length
  few : fs.length = s.L.length
  cap : f.b.length ≤ bc
  no : ba = none → f.b.length = 0 ∧ bc = 0
  at0 : ∀ ad, ba = some ad → ∃ b, ad = ⟨b, 0, none⟩
  c0 : w.cell? ⟨R, 0, none⟩ = some (.slice (some ⟨g, 0, none⟩) fs.length lc)
  k0 : w.cell? ⟨g, i * 3, none⟩ = some (.string (strB f.name))
  k1 : w.cell? ⟨g, i * 3 + 1, none⟩ = some (.slice ba f.b.length bc)
  k2 : w.cell? ⟨g, i * 3 + 2, none⟩ = some (.int .i64 f.safe)
  fr : ∀ j, w.frozen? ⟨g, j, none⟩ = false

theorem Ref.open {F : Nat → Prop} {R : Nat} {s : RS} {w : World} (h : Ref F R s w) {i : Nat} {f : VF} (hf : s.L[i]? = some f) : ∃ fs r g lc ba bc, Opened F R s i f w fs r g lc ba bc := by
  obtain ⟨fs, lv, hv, hr⟩ := h.ex
  obtain ⟨c0, _⟩ := rcell hr.box
  obtain ⟨r, ba, bc, hr1, rfl, hr3⟩ := hr.file hv hf
  obtain ⟨g, lc, hlv, _, _, _, k0, k1, k2, k3⟩ := hr.form hr1
  subst hlv
  have hrow := hr.files r (List.mem_of_getElem? hr1)
  rw [hr3] at hrow
  have hb : r.v.b.length ≤ bc ∧ (ba = none → r.v.b.length = 0 ∧ bc = 0) ∧ (∀ ad, ba = some ad → ∃ b, ad = ⟨b, 0, none⟩) := by
    rcases hrow.2 with ⟨e1, e2⟩ | ⟨b, cap, cur, e1, _, _, e2, _⟩
    · simp only [Value.slice.injEq] at e1
      obtain ⟨rfl, e3, rfl⟩ := e1
      exact ⟨by omega, (fun _ => ⟨e2, rfl⟩), (fun ad had => by cases had)⟩
    · simp only [Value.slice.injEq, true_and] at e1
      obtain ⟨rfl, rfl⟩ := e1
      exact ⟨e2, (fun hn => by cases hn), (fun ad had => ⟨b, by cases had; rfl⟩)⟩
  exact ⟨fs, r, g, lc, ba, bc, hv, hr, hr1, rfl, hr3, (List.getElem?_eq_some_iff.1 hr1).1, by rw [← hv, List.length_map], hb.1, hb.2.1, hb.2.2, c0, k0, by rw [← hr3]; exact k1, k2, k3⟩

theorem Ref.keeps {F : Nat → Prop} {R : Nat} {s : RS} {w : World} (h : Ref F R s w) : w.cell? ⟨R, 4, none⟩ = some (.int .i64 s.keeping) := by
  obtain ⟨fs, lv, hv, hr⟩ := h.ex
  exact (rcell hr.box).2.2.2.2.1

theorem RAt.as {F : Nat → Prop} {R : Nat} {fs : List RB} {lv : Value} {s s' : RS} {w : World} (h : RAt F R fs lv s w) (hn : nums lv s' = nums lv s) : RAt F R fs lv s' w := ⟨by rw [hn]; exact h.box, h.row, h.files, h.footR, h.footL, h.footB⟩

theorem Led.drewN {F : Nat → Prop} {R : Nat} {s : RS} {w w' : World} (h : Led F R s w w') (n : Nat) : Led F R s w (w'.drewN n) :=
  ⟨h.ref.keep (S := fun _ => False) ((Mod.refl _ w').drewN n) (fun _ _ _ => id), h.mod.drewN n⟩
theorem Led.drew {F : Nat → Prop} {R : Nat} {s : RS} {w w' : World} (h : Led F R s w w') : Led F R s w w'.drew := h.drewN 1
theorem Led.trans {F : Nat → Prop} {R : Nat} {s s' : RS} {w w1 w' : World} (h : Led F R s w w1) (k : Led F R s' w1 w') : Led F R s' w w' := ⟨k.ref, h.mod.trans k.mod⟩
theorem Led.refl {F : Nat → Prop} {R : Nat} {s : RS} {w : World} (h : Ref F R s w) : Led F R s w w := ⟨h, Mod.refl _ _⟩

/-- File i's bytes are others now. -/
def RS.setB (s : RS) (i : Nat) (f : VF) (b : List UInt8) : RS := { s with L := s.L.set i ⟨f.name, b, f.safe⟩ }
def RS.setS (s : RS) (i : Nat) (f : VF) (k : Nat) : RS := { s with L := s.L.set i ⟨f.name, f.b, k⟩ }

theorem Opened.setB {F : Nat → Prop} {R : Nat} {s : RS} {i : Nat} {f : VF} {w : World} {fs : List RB} {r : RB} {g lc : Nat} {ba : Option Addr} {bc : Nat} (h : Opened F R s i f w fs r g lc ba bc) {b : List UInt8} {v : Value} (hrow : w.ownsRow 0 5 1 v b.length (b.map bv)) (hF : ∀ k, v.ownBlock = some k → F k) :
    Led F R (s.setB i f b) w (w.setCell ⟨g, i * 3 + 1, none⟩ v) := by
  obtain ⟨q1, q2⟩ := h.ref.setB h.at' rfl hrow hF
  refine ⟨⟨_, _, ?_, q1.as rfl⟩, q2⟩
  show _ = s.L.set i _
  rw [List.map_set, h.vs]
  have := h.v
  subst this
  rfl
theorem Opened.cutB {F : Nat → Prop} {R : Nat} {s : RS} {i : Nat} {f : VF} {w : World} {fs : List RB} {r : RB} {g lc : Nat} {ba : Option Addr} {bc : Nat} (h : Opened F R s i f w fs r g lc ba bc) {N : Nat} (hN : N ≤ f.b.length) :
    Led F R (s.setB i f (f.b.take N)) w (w.setCell ⟨g, i * 3 + 1, none⟩ (.slice ba N bc)) := by
  have hm := List.mem_of_getElem? h.at'
  have hrow := h.ref.files r hm
  rw [h.rbv, h.v] at hrow
  have hl : (f.b.take N).length = N := by rw [List.length_take]; omega
  refine h.setB ?_ (fun k hk => h.ref.footB r hm k ?_)
  · rw [hl, List.map_take]
    exact row_take (v := .slice none 0 0) hrow hN
  · rw [h.rbv]
    cases ba with
    | none => exact hk
    | some ad => exact hk
theorem Opened.setS {F : Nat → Prop} {R : Nat} {s : RS} {i : Nat} {f : VF} {w : World} {fs : List RB} {r : RB} {g lc : Nat} {ba : Option Addr} {bc : Nat} (h : Opened F R s i f w fs r g lc ba bc) (k : Nat) :
    Led F R (s.setS i f k) w (w.setCell ⟨g, i * 3 + 2, none⟩ (.int .i64 k)) := by
  obtain ⟨q1, q2⟩ := h.ref.setS h.at' rfl k
  refine ⟨⟨_, _, ?_, q1.as rfl⟩, q2⟩
  show _ = s.L.set i _
  rw [List.map_set, h.vs]
  have := h.v
  subst this
  rfl

theorem Ref.as {F : Nat → Prop} {R : Nat} {s s' : RS} {w : World} (h : Ref F R s w) (e : s = s') : Ref F R s' w := e ▸ h

set_option maxHeartbeats 1600000 in
theorem rtruncate_law {F : Nat → Prop} {R : Nat} {s : RS} {w : World} (h : Ref F R s w) (hs : Fine s) (hso : Sorted s.L) (x : List UInt8) (n : Int) :
    Calls Tryd.prog 34 #[.pointer (some ⟨R, 0, none⟩), .string (strB x), .int .i64 n] w fun e w' => e = .returned (.tuple #[.int .i64 (s.truncate x n).1.1, .bool (s.truncate x n).1.2]) ∧ Led F R (s.truncate x n).2 w w' := by
  unfold RS.truncate
  rcases first_of hso x with ⟨hx, h1⟩ | ⟨i, f, hx, hnm, hf, hi, h1⟩
  · have HC := Lib.hid (rfind_none h hs x h1)
    rw [hx]
    simp only []
    have H := Lib.hid h
    clear h hs hso h1
    go_enter Tryd.func34, Tryd.ntmps34
    go_wp2_with (first
      | (go_at_call 54; refine HC.out.mono ?_; rintro e w' ⟨rfl, hw⟩; obtain rfl := hw.symm))
    go_ret2
    exact ⟨rfl, H.out, Mod.refl _ _⟩
  · have HC := Lib.hid (rfind_some h hs x i hi h1)
    obtain ⟨fs, r, g, lc, ba, bc, ho⟩ := h.open hf
    have c0 := ho.c0
    have k1 := ho.k1
    have hilt := ho.lt
    have hfn : fs.length ≤ 100000 := by rw [ho.few]; exact hs.num
    have hbl : f.b.length ≤ 100000 := Nat.le_trans (len_le_totV (List.mem_of_getElem? hf)) hs.tot
    rw [hx]
    simp only []
    clear ho
    by_cases hn : n < 0 ∨ (f.b.length : Int) < n
    · rw [if_pos hn]
      have H := Lib.hid h
      clear h hso h1 hf
      go_enter Tryd.func34, Tryd.ntmps34
      go_wp2_with (first
        | (go_at_call 54; refine HC.out.mono ?_; rintro e w' ⟨rfl, hw⟩; obtain rfl := hw.symm))
      all_goals go_ret2
      all_goals exact ⟨rfl, H.out, Mod.refl _ _⟩
    · rw [if_neg hn]
      have hn1 : (n < 0) = False := eq_false (fun e => hn (.inl e))
      have hn2 : ((f.b.length : Int) < n) = False := eq_false (fun e => hn (.inr e))
      have HB := Lib.hid (rbegin_law h hs)
      have HS := Lib.hid hs
      have HSO := Lib.hid hso
      have HF := Lib.hid hf
      clear h hs hso hf h1
      have hgo : s.gone = (s.armed == 1) := rfl
      unfold RS.chg
      rw [hgo]
      cases hg : (s.armed == 1)
      · rw [hg] at HB
        have HG := Lib.hid hg
        clear hg hgo
        simp only [Bool.false_and, Bool.false_eq_true, if_false]
        go_enter Tryd.func34, Tryd.ntmps34
        go_upto_region 7 with (first
          | (go_at_call 54; refine HC.out.mono ?_; rintro e w' ⟨rfl, hw⟩; obtain rfl := hw.symm)
          | (go_at_call 53; refine HB.out.mono ?_; rintro e w1 ⟨rfl, hl1⟩; have HL1 := Lib.hid hl1; clear hl1))
        have c4 : w1.cell? ⟨R, 4, none⟩ = some (.int .i64 s.keeping) := HL1.out.ref.keeps
        obtain ⟨fs1, r1, g1, lc1, ba1, bc1, ho1⟩ := HL1.out.ref.open (i := i) (f := f) HF.out
        have d0 := ho1.c0
        have m1 := ho1.k1
        have m2 := ho1.k2
        have fr := ho1.fr
        have ilt1 := ho1.lt
        have ifn1 : fs1.length ≤ 100000 := by rw [ho1.few]; exact HS.out.num
        have hcap := ho1.cap
        have HO1 := Lib.hid ho1
        have e1 : 0 ≤ n := by omega
        have e2 : n ≤ (bc1 : Int) := by omega
        obtain ⟨N, rfl⟩ : ∃ N : Nat, n = N := ⟨n.toNat, by omega⟩
        have hsome := ho1.at0
        have hno := ho1.no
        have HGET : Hid ((s.L.set i ⟨f.name, f.b.take N, f.safe⟩)[i]? = some ⟨f.name, f.b.take N, f.safe⟩) := Lib.hid (by rw [List.getElem?_set_self hi])
        have HSV : Hid (setV s.L ⟨f.name, f.b.take (N : Int).toNat, min f.safe (N : Int).toNat⟩ = s.L.set i ⟨f.name, f.b.take N, min f.safe N⟩) := Lib.hid (setV_at HSO.out HF.out rfl)
        clear c0 k1 hilt ho1
        have f1 := fr (i * 3 + 1)
        have f2 := fr (i * 3 + 2)
        clear fr
        go_wp2_with fail
        rcases ba1 with _ | ad
        · obtain ⟨z1, rfl⟩ := hno rfl
          have hN0 : N = 0 := by omega
          subst hN0
          clear hsome hno
          go_region
          have hl2 : Led F R (s.beg.setB i f (f.b.take 0)) w1 (w1.setCell ⟨g1, i * 3 + 1, none⟩ (.slice none 0 0)).drew := (HO1.out.cutB (by omega)).drew
          obtain ⟨w2, hw2⟩ : ∃ x : World, x = (w1.setCell ⟨g1, i * 3 + 1, none⟩ (.slice none 0 0)).drew := ⟨_, rfl⟩
          rw [← hw2] at hl2 ⊢
          have HL2 := Lib.hid hl2
          clear hl2 hw2 d0 m1 m2 f1 f2 c4
          have hf2 : (s.beg.setB i f (f.b.take 0)).L[i]? = some ⟨f.name, f.b.take 0, f.safe⟩ := HGET.out
          obtain ⟨fs2, r2, g2, lc2, ba2, bc2, ho2⟩ := HL2.out.ref.open hf2
          have d0 := ho2.c0
          have m2 : w2.cell? ⟨g2, i * 3 + 2, none⟩ = some (.int .i64 f.safe) := ho2.k2
          have f2 := ho2.fr (i * 3 + 2)
          have ilt2 := ho2.lt
          have ifn2 : fs2.length ≤ 100000 := by rw [ho2.few]; exact Nat.le_trans (Nat.le_of_eq List.length_set) HS.out.num
          have HO2 := Lib.hid ho2
          clear ho2 hf2 hcap ilt1 ifn1
          by_cases hsn : 0 < f.safe
          · have t5 : (0 < f.safe) = True := eq_true hsn
            go_wp2
            go_ret2
            refine ⟨rfl, (HL1.out.trans HL2.out).trans ⟨(HO2.out.setS 0).ref.as ?_, (HO2.out.setS 0).mod⟩⟩
            have e4 : min f.safe 0 = 0 := by omega
            rw [HSV.out]
            simp [RS.setS, RS.setB, RS.beg, List.set_set, e4]
          · have t5 : (0 < f.safe) = False := eq_false hsn
            go_wp2
            go_ret2
            refine ⟨rfl, HL1.out.trans ⟨HL2.out.ref.as ?_, HL2.out.mod⟩⟩
            have e4 : min f.safe 0 = f.safe := by omega
            rw [HSV.out]
            simp [RS.setB, RS.beg, e4]
        · obtain ⟨gb, rfl⟩ := hsome ad rfl
          clear hsome hno
          go_region
          have hl2 : Led F R (s.beg.setB i f (f.b.take N)) w1 (w1.setCell ⟨g1, i * 3 + 1, none⟩ (.slice (some ⟨gb, 0, none⟩) N bc1)).drew := (HO1.out.cutB (by omega)).drew
          obtain ⟨w2, hw2⟩ : ∃ x : World, x = (w1.setCell ⟨g1, i * 3 + 1, none⟩ (.slice (some ⟨gb, 0, none⟩) N bc1)).drew := ⟨_, rfl⟩
          rw [← hw2] at hl2 ⊢
          have HL2 := Lib.hid hl2
          clear hl2 hw2 d0 m1 m2 f1 f2 c4
          have hf2 : (s.beg.setB i f (f.b.take N)).L[i]? = some ⟨f.name, f.b.take N, f.safe⟩ := HGET.out
          obtain ⟨fs2, r2, g2, lc2, ba2, bc2, ho2⟩ := HL2.out.ref.open hf2
          have d0 := ho2.c0
          have m2 : w2.cell? ⟨g2, i * 3 + 2, none⟩ = some (.int .i64 f.safe) := ho2.k2
          have f2 := ho2.fr (i * 3 + 2)
          have ilt2 := ho2.lt
          have ifn2 : fs2.length ≤ 100000 := by rw [ho2.few]; exact Nat.le_trans (Nat.le_of_eq List.length_set) HS.out.num
          have HO2 := Lib.hid ho2
          clear ho2 hf2 hcap ilt1 ifn1
          by_cases hsn : N < f.safe
          · have t5 : (N < f.safe) = True := eq_true hsn
            go_wp2
            go_ret2
            refine ⟨rfl, (HL1.out.trans HL2.out).trans ⟨(HO2.out.setS N).ref.as ?_, (HO2.out.setS N).mod⟩⟩
            have e4 : min f.safe N = N := by omega
            rw [HSV.out]
            simp [RS.setS, RS.setB, RS.beg, List.set_set, e4]
          · have t5 : (N < f.safe) = False := eq_false hsn
            go_wp2
            go_ret2
            refine ⟨rfl, HL1.out.trans ⟨HL2.out.ref.as ?_, HL2.out.mod⟩⟩
            have e4 : min f.safe N = f.safe := by omega
            rw [HSV.out]
            simp [RS.setB, RS.beg, e4]
      · rw [hg] at HB
        have HG := Lib.hid hg
        clear hg hgo
        have hro := rem_odd s.keeping
        cases ho : odd s.keeping
        · rw [ho] at hro
          simp only [Bool.true_and, Bool.not_false, if_true]
          clear ho
          have HRO := Lib.hid hro
          clear hro
          go_enter Tryd.func34, Tryd.ntmps34
          go_upto_region 7 with (first
            | (go_at_call 54; refine HC.out.mono ?_; rintro e w' ⟨rfl, hw⟩; obtain rfl := hw.symm)
            | (go_at_call 53; refine HB.out.mono ?_; rintro e w1 ⟨rfl, hl1⟩; have HL1 := Lib.hid hl1; clear hl1))
          have c4 : w1.cell? ⟨R, 4, none⟩ = some (.int .i64 s.keeping) := HL1.out.ref.keeps
          have hro := HRO.out
          go_wp2
          go_ret2
          exact ⟨rfl, HL1.out⟩
        · rw [ho] at hro
          simp only [Bool.true_and, Bool.not_true, Bool.false_eq_true, if_false]
          clear ho
          have HRO := Lib.hid hro
          clear hro
          go_enter Tryd.func34, Tryd.ntmps34
          go_upto_region 7 with (first
            | (go_at_call 54; refine HC.out.mono ?_; rintro e w' ⟨rfl, hw⟩; obtain rfl := hw.symm)
            | (go_at_call 53; refine HB.out.mono ?_; rintro e w1 ⟨rfl, hl1⟩; have HL1 := Lib.hid hl1; clear hl1))
          have c4 : w1.cell? ⟨R, 4, none⟩ = some (.int .i64 s.keeping) := HL1.out.ref.keeps
          have hro := HRO.out
          obtain ⟨fs1, r1, g1, lc1, ba1, bc1, ho1⟩ := HL1.out.ref.open (i := i) (f := f) HF.out
          have d0 := ho1.c0
          have m1 := ho1.k1
          have m2 := ho1.k2
          have fr := ho1.fr
          have ilt1 := ho1.lt
          have ifn1 : fs1.length ≤ 100000 := by rw [ho1.few]; exact HS.out.num
          have hcap := ho1.cap
          have HO1 := Lib.hid ho1
          have e1 : 0 ≤ n := by omega
          have e2 : n ≤ (bc1 : Int) := by omega
          obtain ⟨N, rfl⟩ : ∃ N : Nat, n = N := ⟨n.toNat, by omega⟩
          have hsome := ho1.at0
          have hno := ho1.no
          have HGET : Hid ((s.L.set i ⟨f.name, f.b.take N, f.safe⟩)[i]? = some ⟨f.name, f.b.take N, f.safe⟩) := Lib.hid (by rw [List.getElem?_set_self hi])
          have HSV : Hid (setV s.L ⟨f.name, f.b.take (N : Int).toNat, min f.safe (N : Int).toNat⟩ = s.L.set i ⟨f.name, f.b.take N, min f.safe N⟩) := Lib.hid (setV_at HSO.out HF.out rfl)
          clear c0 k1 hilt ho1
          have f1 := fr (i * 3 + 1)
          have f2 := fr (i * 3 + 2)
          clear fr
          go_wp2_with fail
          rcases ba1 with _ | ad
          · obtain ⟨z1, rfl⟩ := hno rfl
            have hN0 : N = 0 := by omega
            subst hN0
            clear hsome hno
            go_region
            have hl2 : Led F R (s.beg.setB i f (f.b.take 0)) w1 (w1.setCell ⟨g1, i * 3 + 1, none⟩ (.slice none 0 0)).drew := (HO1.out.cutB (by omega)).drew
            obtain ⟨w2, hw2⟩ : ∃ x : World, x = (w1.setCell ⟨g1, i * 3 + 1, none⟩ (.slice none 0 0)).drew := ⟨_, rfl⟩
            rw [← hw2] at hl2 ⊢
            have HL2 := Lib.hid hl2
            clear hl2 hw2 d0 m1 m2 f1 f2 c4
            have hf2 : (s.beg.setB i f (f.b.take 0)).L[i]? = some ⟨f.name, f.b.take 0, f.safe⟩ := HGET.out
            obtain ⟨fs2, r2, g2, lc2, ba2, bc2, ho2⟩ := HL2.out.ref.open hf2
            have d0 := ho2.c0
            have m2 : w2.cell? ⟨g2, i * 3 + 2, none⟩ = some (.int .i64 f.safe) := ho2.k2
            have f2 := ho2.fr (i * 3 + 2)
            have ilt2 := ho2.lt
            have ifn2 : fs2.length ≤ 100000 := by rw [ho2.few]; exact Nat.le_trans (Nat.le_of_eq List.length_set) HS.out.num
            have HO2 := Lib.hid ho2
            clear ho2 hf2 hcap ilt1 ifn1
            by_cases hsn : 0 < f.safe
            · have t5 : (0 < f.safe) = True := eq_true hsn
              go_wp2
              go_ret2
              refine ⟨rfl, (HL1.out.trans HL2.out).trans ⟨(HO2.out.setS 0).ref.as ?_, (HO2.out.setS 0).mod⟩⟩
              have e4 : min f.safe 0 = 0 := by omega
              rw [HSV.out]
              simp [RS.setS, RS.setB, RS.beg, List.set_set, e4]
            · have t5 : (0 < f.safe) = False := eq_false hsn
              go_wp2
              go_ret2
              refine ⟨rfl, HL1.out.trans ⟨HL2.out.ref.as ?_, HL2.out.mod⟩⟩
              have e4 : min f.safe 0 = f.safe := by omega
              rw [HSV.out]
              simp [RS.setB, RS.beg, e4]
          · obtain ⟨gb, rfl⟩ := hsome ad rfl
            clear hsome hno
            go_region
            have hl2 : Led F R (s.beg.setB i f (f.b.take N)) w1 (w1.setCell ⟨g1, i * 3 + 1, none⟩ (.slice (some ⟨gb, 0, none⟩) N bc1)).drew := (HO1.out.cutB (by omega)).drew
            obtain ⟨w2, hw2⟩ : ∃ x : World, x = (w1.setCell ⟨g1, i * 3 + 1, none⟩ (.slice (some ⟨gb, 0, none⟩) N bc1)).drew := ⟨_, rfl⟩
            rw [← hw2] at hl2 ⊢
            have HL2 := Lib.hid hl2
            clear hl2 hw2 d0 m1 m2 f1 f2 c4
            have hf2 : (s.beg.setB i f (f.b.take N)).L[i]? = some ⟨f.name, f.b.take N, f.safe⟩ := HGET.out
            obtain ⟨fs2, r2, g2, lc2, ba2, bc2, ho2⟩ := HL2.out.ref.open hf2
            have d0 := ho2.c0
            have m2 : w2.cell? ⟨g2, i * 3 + 2, none⟩ = some (.int .i64 f.safe) := ho2.k2
            have f2 := ho2.fr (i * 3 + 2)
            have ilt2 := ho2.lt
            have ifn2 : fs2.length ≤ 100000 := by rw [ho2.few]; exact Nat.le_trans (Nat.le_of_eq List.length_set) HS.out.num
            have HO2 := Lib.hid ho2
            clear ho2 hf2 hcap ilt1 ifn1
            by_cases hsn : N < f.safe
            · have t5 : (N < f.safe) = True := eq_true hsn
              go_wp2
              go_ret2
              refine ⟨rfl, (HL1.out.trans HL2.out).trans ⟨(HO2.out.setS N).ref.as ?_, (HO2.out.setS N).mod⟩⟩
              have e4 : min f.safe N = N := by omega
              rw [HSV.out]
              simp [RS.setS, RS.setB, RS.beg, List.set_set, e4]
            · have t5 : (N < f.safe) = False := eq_false hsn
              go_wp2
              go_ret2
              refine ⟨rfl, HL1.out.trans ⟨HL2.out.ref.as ?_, HL2.out.mod⟩⟩
              have e4 : min f.safe N = f.safe := by omega
              rw [HSV.out]
              simp [RS.setB, RS.beg, e4]

end Go.Proofs.YtjbhdidjkdlceaaDoor

/- The reference: Sync. -/
namespace Go.Proofs.YtjbhdidjkdlceaaDoor
open Go.RowKit Go.Maps
set_option linter.unusedVariables false

theorem Ref.put {F : Nat → Prop} {R : Nat} {s s' : RS} {w : World} (h : Ref F R s w) (i : Nat) (v : Value) (hn : ∀ lv, (nums lv s).setIfInBounds i v = nums lv s') (hL : s'.L = s.L) : Led F R s' w (w.setCell ⟨R, i, none⟩ v) := by
  obtain ⟨fs, lv, hv, hr⟩ := h.ex
  have m := mod_cell R i w v
  refine ⟨⟨fs, lv, by rw [hL]; exact hv, hr.turn m ?_⟩, m.mono (fun t _ e => by rw [e]; exact hr.footR)⟩
  rw [row_setCell hr.box i v, hn]

theorem Ref.put5 {F : Nat → Prop} {R : Nat} {s : RS} {w : World} (h : Ref F R s w) (v : Int) : Led F R { s with failing := v } w (w.setCell ⟨R, 5, none⟩ (.int .i64 v)) := h.put 5 _ (fun lv => rfl) rfl
theorem Ref.put4 {F : Nat → Prop} {R : Nat} {s : RS} {w : World} (h : Ref F R s w) (v : Int) : Led F R { s with keeping := v } w (w.setCell ⟨R, 4, none⟩ (.int .i64 v)) := h.put 4 _ (fun lv => rfl) rfl
theorem Ref.put3 {F : Nat → Prop} {R : Nat} {s : RS} {w : World} (h : Ref F R s w) (v : Int) : Led F R { s with armed := v } w (w.setCell ⟨R, 3, none⟩ (.int .i64 v)) := h.put 3 _ (fun lv => rfl) rfl
theorem Ref.put1 {F : Nat → Prop} {R : Nat} {s : RS} {w : World} (h : Ref F R s w) (v : Int) : Led F R { s with size := v } w (w.setCell ⟨R, 1, none⟩ (.int .i64 v)) := h.put 1 _ (fun lv => rfl) rfl

/-- The six cells. -/
structure Cells (R : Nat) (s : RS) (w : World) : Prop where
  size : w.cell? ⟨R, 1, none⟩ = some (.int .i64 s.size)
  count : w.cell? ⟨R, 2, none⟩ = some (.int .i64 s.count)
  armed : w.cell? ⟨R, 3, none⟩ = some (.int .i64 s.armed)
  keeping : w.cell? ⟨R, 4, none⟩ = some (.int .i64 s.keeping)
  failing : w.cell? ⟨R, 5, none⟩ = some (.int .i64 s.failing)
  fr : ∀ i, w.frozen? ⟨R, i, none⟩ = false
theorem Ref.cells {F : Nat → Prop} {R : Nat} {s : RS} {w : World} (h : Ref F R s w) : Cells R s w := by
  obtain ⟨fs, lv, hv, hr⟩ := h.ex
  obtain ⟨c0, c1, c2, c3, c4, c5, c6⟩ := rcell hr.box
  exact ⟨c1, c2, c3, c4, c5, c6⟩

def RS.sync (s : RS) (x : List UInt8) : (Int × Bool) × RS :=
  match findV s.L x with
  | none => ((6, false), s)
  | some f => (if s.failing == 1 && !s.gone then (5, false) else (0, s.gone), s.chg (if s.failing == 1 then s.L else setV s.L ⟨f.name, f.b, f.b.length⟩) (max 0 (s.failing - 1)))

set_option maxHeartbeats 3200000 in
theorem rsync_law {F : Nat → Prop} {R : Nat} {s : RS} {w : World} (h : Ref F R s w) (hs : Fine s) (hso : Sorted s.L) (x : List UInt8) :
    Calls Tryd.prog 35 #[.pointer (some ⟨R, 0, none⟩), .string (strB x)] w fun e w' => e = .returned (.tuple #[.int .i64 (s.sync x).1.1, .bool (s.sync x).1.2]) ∧ Led F R (s.sync x).2 w w' := by
  unfold RS.sync
  rcases first_of hso x with ⟨hx, h1⟩ | ⟨i, f, hx, hnm, hf, hi, h1⟩
  · have HC := Lib.hid (rfind_none h hs x h1)
    rw [hx]
    simp only []
    have H := Lib.hid h
    clear h hs hso h1
    go_enter Tryd.func35, Tryd.ntmps35
    go_wp2_with (first
      | (go_at_call 54; refine HC.out.mono ?_; rintro e w' ⟨rfl, hw⟩; obtain rfl := hw.symm))
    go_ret2
    exact ⟨rfl, H.out, Mod.refl _ _⟩
  · have HC := Lib.hid (rfind_some h hs x i hi h1)
    have hbl : f.b.length ≤ 100000 := Nat.le_trans (len_le_totV (List.mem_of_getElem? hf)) hs.tot
    rw [hx]
    simp only []
    have HB := Lib.hid (rbegin_law h hs)
    have HS := Lib.hid hs
    have HSO := Lib.hid hso
    have HF := Lib.hid hf
    obtain ⟨q1, q2⟩ := hs.failing
    have hgo : s.gone = (s.armed == 1) := rfl
    have hro := rem_odd s.keeping
    unfold RS.chg
    rw [hgo]
    have HSV : Hid (setV s.L ⟨f.name, f.b, f.b.length⟩ = s.L.set i ⟨f.name, f.b, f.b.length⟩) := Lib.hid (setV_at HSO.out HF.out rfl)
    clear h hs hso hf h1 hnm
    rcases Int.lt_or_le 0 s.failing with hp | hp
    · by_cases hone : s.failing = 1
      · have HFA := Lib.hid hone
        have hfe : (s.failing == 1) = true := by rw [hone]; rfl
        clear hp hone q1 q2
        cases hg : (s.armed == 1)
        · rw [hg] at HB
          have HG := Lib.hid hg
          clear hg hgo hro
          simp only [hfe, Bool.true_and, Bool.false_and, Bool.and_true, Bool.and_false, Bool.not_true, Bool.not_false, Bool.false_eq_true, if_true, if_false, ite_self]
          clear hfe
          go_enter Tryd.func35, Tryd.ntmps35
          go_upto_region 5 with (first
            | (go_at_call 54; refine HC.out.mono ?_; rintro e w' ⟨rfl, hw⟩; obtain rfl := hw.symm)
            | (go_at_call 53; refine HB.out.mono ?_; rintro e w1 ⟨rfl, hl1⟩; have HL1 := Lib.hid hl1; clear hl1))
          have hce := HL1.out.ref.cells
          have c5 : w1.cell? ⟨R, 5, none⟩ = some (.int .i64 1) := by rw [← HFA.out]; exact hce.failing
          have f5 := hce.fr 5
          clear hce
          go_upto_region 8 with (fail)
          obtain ⟨w2, hw2⟩ : ∃ y : World, y = w1.setCell ⟨R, 5, none⟩ (.int .i64 (0)) := ⟨_, rfl⟩
          have hl2 : Led F R { s.beg with failing := max 0 (s.failing - 1) } w w2 := by
            rw [hw2]
            have e : max 0 (s.failing - 1) = 0 := by rw [HFA.out]; rfl
            rw [e]
            exact HL1.out.trans (HL1.out.ref.put5 _)
          rw [← hw2]
          have HL2 := Lib.hid hl2
          have c4 : w2.cell? ⟨R, 4, none⟩ = some (.int .i64 s.keeping) := hl2.ref.keeps
          clear hl2 hw2 c5 f5
          go_wp2
          go_ret2
          refine ⟨by simp [HFA.out], ⟨HL2.out.ref.as ?_, HL2.out.mod⟩⟩
          simp [RS.beg, HFA.out]
        · rw [hg] at HB
          have HG := Lib.hid hg
          clear hg hgo hro
          simp only [hfe, Bool.true_and, Bool.false_and, Bool.and_true, Bool.and_false, Bool.not_true, Bool.not_false, Bool.false_eq_true, if_true, if_false, ite_self]
          clear hfe
          go_enter Tryd.func35, Tryd.ntmps35
          go_upto_region 5 with (first
            | (go_at_call 54; refine HC.out.mono ?_; rintro e w' ⟨rfl, hw⟩; obtain rfl := hw.symm)
            | (go_at_call 53; refine HB.out.mono ?_; rintro e w1 ⟨rfl, hl1⟩; have HL1 := Lib.hid hl1; clear hl1))
          have hce := HL1.out.ref.cells
          have c5 : w1.cell? ⟨R, 5, none⟩ = some (.int .i64 1) := by rw [← HFA.out]; exact hce.failing
          have f5 := hce.fr 5
          clear hce
          go_upto_region 8 with (fail)
          obtain ⟨w2, hw2⟩ : ∃ y : World, y = w1.setCell ⟨R, 5, none⟩ (.int .i64 (0)) := ⟨_, rfl⟩
          have hl2 : Led F R { s.beg with failing := max 0 (s.failing - 1) } w w2 := by
            rw [hw2]
            have e : max 0 (s.failing - 1) = 0 := by rw [HFA.out]; rfl
            rw [e]
            exact HL1.out.trans (HL1.out.ref.put5 _)
          rw [← hw2]
          have HL2 := Lib.hid hl2
          have c4 : w2.cell? ⟨R, 4, none⟩ = some (.int .i64 s.keeping) := hl2.ref.keeps
          clear hl2 hw2 c5 f5
          go_wp2
          go_ret2
          refine ⟨by simp [HFA.out], ⟨HL2.out.ref.as ?_, HL2.out.mod⟩⟩
          simp [RS.beg, HFA.out]
      · have HFN : Hid ((s.failing == 1) = false) := Lib.hid (by rw [beq_eq_false_iff_ne]; exact hone)
        have hfn := HFN.out
        cases hg : (s.armed == 1)
        · rw [hg] at HB
          have HG := Lib.hid hg
          clear hg hgo hro
          simp only [HFN.out, Bool.true_and, Bool.false_and, Bool.and_true, Bool.and_false, Bool.not_true, Bool.not_false, Bool.false_eq_true, if_true, if_false, ite_self]
          go_enter Tryd.func35, Tryd.ntmps35
          go_upto_region 5 with (first
            | (go_at_call 54; refine HC.out.mono ?_; rintro e w' ⟨rfl, hw⟩; obtain rfl := hw.symm)
            | (go_at_call 53; refine HB.out.mono ?_; rintro e w1 ⟨rfl, hl1⟩; have HL1 := Lib.hid hl1; clear hl1))
          have hce := HL1.out.ref.cells
          have c5 : w1.cell? ⟨R, 5, none⟩ = some (.int .i64 s.failing) := hce.failing
          have f5 := hce.fr 5
          clear hce
          go_upto_region 8 with (fail)
          obtain ⟨w2, hw2⟩ : ∃ y : World, y = w1.setCell ⟨R, 5, none⟩ (.int .i64 (s.failing - 1)) := ⟨_, rfl⟩
          have hl2 : Led F R { s.beg with failing := max 0 (s.failing - 1) } w w2 := by
            rw [hw2]
            have e : max 0 (s.failing - 1) = s.failing - 1 := by omega
            rw [e]
            exact HL1.out.trans (HL1.out.ref.put5 _)
          rw [← hw2]
          have HL2 := Lib.hid hl2
          have c4 : w2.cell? ⟨R, 4, none⟩ = some (.int .i64 s.keeping) := hl2.ref.keeps
          clear hl2 hw2 c5 f5
          obtain ⟨fs1, r1, g1, lc1, ba1, bc1, ho1⟩ := HL2.out.ref.open (i := i) (f := f) HF.out
          have d0 := ho1.c0
          have m1 := ho1.k1
          have m2 := ho1.k2
          have f2 := ho1.fr (i * 3 + 2)
          have ilt1 := ho1.lt
          have ifn1 : fs1.length ≤ 100000 := by rw [ho1.few]; exact HS.out.num
          have HO1 := Lib.hid ho1
          clear ho1
          go_wp2_with fail
          go_region
          have hl3 : Led F R (RS.setS { s.beg with failing := max 0 (s.failing - 1) } i f f.b.length) w2 (w2.setCell ⟨g1, i * 3 + 2, none⟩ (.int .i64 f.b.length)).drew := (HO1.out.setS _).drew
          obtain ⟨w3, hw3⟩ : ∃ y : World, y = (w2.setCell ⟨g1, i * 3 + 2, none⟩ (.int .i64 f.b.length)).drew := ⟨_, rfl⟩
          rw [← hw3] at hl3 ⊢
          have HL3 := Lib.hid hl3
          clear hl3 hw3 d0 m1 m2 f2 c4
          go_wp2
          go_ret2
          refine ⟨by simp [HFN.out], ⟨(HL2.out.trans HL3.out).ref.as ?_, (HL2.out.trans HL3.out).mod⟩⟩
          rw [HSV.out]
          simp [RS.setS, RS.beg, HFN.out]
        · rw [hg] at HB
          have HG := Lib.hid hg
          clear hg hgo
          cases ho : odd s.keeping
          · rw [ho] at hro
            clear ho
            have HRO := Lib.hid hro
            clear hro
            simp only [HFN.out, Bool.true_and, Bool.false_and, Bool.and_true, Bool.and_false, Bool.not_true, Bool.not_false, Bool.false_eq_true, if_true, if_false, ite_self]
            go_enter Tryd.func35, Tryd.ntmps35
            go_upto_region 5 with (first
              | (go_at_call 54; refine HC.out.mono ?_; rintro e w' ⟨rfl, hw⟩; obtain rfl := hw.symm)
              | (go_at_call 53; refine HB.out.mono ?_; rintro e w1 ⟨rfl, hl1⟩; have HL1 := Lib.hid hl1; clear hl1))
            have hce := HL1.out.ref.cells
            have c5 : w1.cell? ⟨R, 5, none⟩ = some (.int .i64 s.failing) := hce.failing
            have f5 := hce.fr 5
            clear hce
            go_upto_region 8 with (fail)
            obtain ⟨w2, hw2⟩ : ∃ y : World, y = w1.setCell ⟨R, 5, none⟩ (.int .i64 (s.failing - 1)) := ⟨_, rfl⟩
            have hl2 : Led F R { s.beg with failing := max 0 (s.failing - 1) } w w2 := by
              rw [hw2]
              have e : max 0 (s.failing - 1) = s.failing - 1 := by omega
              rw [e]
              exact HL1.out.trans (HL1.out.ref.put5 _)
            rw [← hw2]
            have HL2 := Lib.hid hl2
            have c4 : w2.cell? ⟨R, 4, none⟩ = some (.int .i64 s.keeping) := hl2.ref.keeps
            clear hl2 hw2 c5 f5
            have hro := HRO.out
            go_wp2
            go_ret2
            refine ⟨by simp [HFN.out], ⟨HL2.out.ref.as ?_, HL2.out.mod⟩⟩
            simp [RS.beg, HFN.out]
          · rw [ho] at hro
            clear ho
            have HRO := Lib.hid hro
            clear hro
            simp only [HFN.out, Bool.true_and, Bool.false_and, Bool.and_true, Bool.and_false, Bool.not_true, Bool.not_false, Bool.false_eq_true, if_true, if_false, ite_self]
            go_enter Tryd.func35, Tryd.ntmps35
            go_upto_region 5 with (first
              | (go_at_call 54; refine HC.out.mono ?_; rintro e w' ⟨rfl, hw⟩; obtain rfl := hw.symm)
              | (go_at_call 53; refine HB.out.mono ?_; rintro e w1 ⟨rfl, hl1⟩; have HL1 := Lib.hid hl1; clear hl1))
            have hce := HL1.out.ref.cells
            have c5 : w1.cell? ⟨R, 5, none⟩ = some (.int .i64 s.failing) := hce.failing
            have f5 := hce.fr 5
            clear hce
            go_upto_region 8 with (fail)
            obtain ⟨w2, hw2⟩ : ∃ y : World, y = w1.setCell ⟨R, 5, none⟩ (.int .i64 (s.failing - 1)) := ⟨_, rfl⟩
            have hl2 : Led F R { s.beg with failing := max 0 (s.failing - 1) } w w2 := by
              rw [hw2]
              have e : max 0 (s.failing - 1) = s.failing - 1 := by omega
              rw [e]
              exact HL1.out.trans (HL1.out.ref.put5 _)
            rw [← hw2]
            have HL2 := Lib.hid hl2
            have c4 : w2.cell? ⟨R, 4, none⟩ = some (.int .i64 s.keeping) := hl2.ref.keeps
            clear hl2 hw2 c5 f5
            have hro := HRO.out
            obtain ⟨fs1, r1, g1, lc1, ba1, bc1, ho1⟩ := HL2.out.ref.open (i := i) (f := f) HF.out
            have d0 := ho1.c0
            have m1 := ho1.k1
            have m2 := ho1.k2
            have f2 := ho1.fr (i * 3 + 2)
            have ilt1 := ho1.lt
            have ifn1 : fs1.length ≤ 100000 := by rw [ho1.few]; exact HS.out.num
            have HO1 := Lib.hid ho1
            clear ho1
            go_wp2_with fail
            go_region
            have hl3 : Led F R (RS.setS { s.beg with failing := max 0 (s.failing - 1) } i f f.b.length) w2 (w2.setCell ⟨g1, i * 3 + 2, none⟩ (.int .i64 f.b.length)).drew := (HO1.out.setS _).drew
            obtain ⟨w3, hw3⟩ : ∃ y : World, y = (w2.setCell ⟨g1, i * 3 + 2, none⟩ (.int .i64 f.b.length)).drew := ⟨_, rfl⟩
            rw [← hw3] at hl3 ⊢
            have HL3 := Lib.hid hl3
            clear hl3 hw3 d0 m1 m2 f2 c4
            go_wp2
            go_ret2
            refine ⟨by simp [HFN.out], ⟨(HL2.out.trans HL3.out).ref.as ?_, (HL2.out.trans HL3.out).mod⟩⟩
            rw [HSV.out]
            simp [RS.setS, RS.beg, HFN.out]
    · have h0 : s.failing = 0 := by omega
      have HFA := Lib.hid h0
      have HFN : Hid ((s.failing == 1) = false) := Lib.hid (by rw [h0]; rfl)
      clear h0 hp q1 q2
      cases hg : (s.armed == 1)
      · rw [hg] at HB
        have HG := Lib.hid hg
        clear hg hgo hro
        simp only [HFN.out, Bool.true_and, Bool.false_and, Bool.and_true, Bool.and_false, Bool.not_true, Bool.not_false, Bool.false_eq_true, if_true, if_false, ite_self]
        go_enter Tryd.func35, Tryd.ntmps35
        go_upto_region 5 with (first
          | (go_at_call 54; refine HC.out.mono ?_; rintro e w' ⟨rfl, hw⟩; obtain rfl := hw.symm)
          | (go_at_call 53; refine HB.out.mono ?_; rintro e w1 ⟨rfl, hl1⟩; have HL1 := Lib.hid hl1; clear hl1))
        have hce := HL1.out.ref.cells
        have c5 : w1.cell? ⟨R, 5, none⟩ = some (.int .i64 0) := by rw [← HFA.out]; exact hce.failing
        have f5 := hce.fr 5
        clear hce
        go_upto_region 8 with (fail)
        obtain ⟨w2, hw2⟩ : ∃ y : World, y = w1 := ⟨_, rfl⟩
        have hl2 : Led F R { s.beg with failing := max 0 (s.failing - 1) } w w2 := by
          rw [hw2]
          refine ⟨HL1.out.ref.as ?_, HL1.out.mod⟩
          have e : max 0 (s.failing - 1) = s.failing := by rw [HFA.out]; rfl
          rw [e]
          rfl
        rw [← hw2]
        have HL2 := Lib.hid hl2
        have c4 : w2.cell? ⟨R, 4, none⟩ = some (.int .i64 s.keeping) := hl2.ref.keeps
        clear hl2 hw2 c5 f5
        obtain ⟨fs1, r1, g1, lc1, ba1, bc1, ho1⟩ := HL2.out.ref.open (i := i) (f := f) HF.out
        have d0 := ho1.c0
        have m1 := ho1.k1
        have m2 := ho1.k2
        have f2 := ho1.fr (i * 3 + 2)
        have ilt1 := ho1.lt
        have ifn1 : fs1.length ≤ 100000 := by rw [ho1.few]; exact HS.out.num
        have HO1 := Lib.hid ho1
        clear ho1
        go_wp2_with fail
        go_region
        have hl3 : Led F R (RS.setS { s.beg with failing := max 0 (s.failing - 1) } i f f.b.length) w2 (w2.setCell ⟨g1, i * 3 + 2, none⟩ (.int .i64 f.b.length)).drew := (HO1.out.setS _).drew
        obtain ⟨w3, hw3⟩ : ∃ y : World, y = (w2.setCell ⟨g1, i * 3 + 2, none⟩ (.int .i64 f.b.length)).drew := ⟨_, rfl⟩
        rw [← hw3] at hl3 ⊢
        have HL3 := Lib.hid hl3
        clear hl3 hw3 d0 m1 m2 f2 c4
        go_wp2
        go_ret2
        refine ⟨by simp [HFN.out], ⟨(HL2.out.trans HL3.out).ref.as ?_, (HL2.out.trans HL3.out).mod⟩⟩
        rw [HSV.out]
        simp [RS.setS, RS.beg, HFN.out]
      · rw [hg] at HB
        have HG := Lib.hid hg
        clear hg hgo
        cases ho : odd s.keeping
        · rw [ho] at hro
          clear ho
          have HRO := Lib.hid hro
          clear hro
          simp only [HFN.out, Bool.true_and, Bool.false_and, Bool.and_true, Bool.and_false, Bool.not_true, Bool.not_false, Bool.false_eq_true, if_true, if_false, ite_self]
          go_enter Tryd.func35, Tryd.ntmps35
          go_upto_region 5 with (first
            | (go_at_call 54; refine HC.out.mono ?_; rintro e w' ⟨rfl, hw⟩; obtain rfl := hw.symm)
            | (go_at_call 53; refine HB.out.mono ?_; rintro e w1 ⟨rfl, hl1⟩; have HL1 := Lib.hid hl1; clear hl1))
          have hce := HL1.out.ref.cells
          have c5 : w1.cell? ⟨R, 5, none⟩ = some (.int .i64 0) := by rw [← HFA.out]; exact hce.failing
          have f5 := hce.fr 5
          clear hce
          go_upto_region 8 with (fail)
          obtain ⟨w2, hw2⟩ : ∃ y : World, y = w1 := ⟨_, rfl⟩
          have hl2 : Led F R { s.beg with failing := max 0 (s.failing - 1) } w w2 := by
            rw [hw2]
            refine ⟨HL1.out.ref.as ?_, HL1.out.mod⟩
            have e : max 0 (s.failing - 1) = s.failing := by rw [HFA.out]; rfl
            rw [e]
            rfl
          rw [← hw2]
          have HL2 := Lib.hid hl2
          have c4 : w2.cell? ⟨R, 4, none⟩ = some (.int .i64 s.keeping) := hl2.ref.keeps
          clear hl2 hw2 c5 f5
          have hro := HRO.out
          go_wp2
          go_ret2
          refine ⟨by simp [HFN.out], ⟨HL2.out.ref.as ?_, HL2.out.mod⟩⟩
          simp [RS.beg, HFN.out]
        · rw [ho] at hro
          clear ho
          have HRO := Lib.hid hro
          clear hro
          simp only [HFN.out, Bool.true_and, Bool.false_and, Bool.and_true, Bool.and_false, Bool.not_true, Bool.not_false, Bool.false_eq_true, if_true, if_false, ite_self]
          go_enter Tryd.func35, Tryd.ntmps35
          go_upto_region 5 with (first
            | (go_at_call 54; refine HC.out.mono ?_; rintro e w' ⟨rfl, hw⟩; obtain rfl := hw.symm)
            | (go_at_call 53; refine HB.out.mono ?_; rintro e w1 ⟨rfl, hl1⟩; have HL1 := Lib.hid hl1; clear hl1))
          have hce := HL1.out.ref.cells
          have c5 : w1.cell? ⟨R, 5, none⟩ = some (.int .i64 0) := by rw [← HFA.out]; exact hce.failing
          have f5 := hce.fr 5
          clear hce
          go_upto_region 8 with (fail)
          obtain ⟨w2, hw2⟩ : ∃ y : World, y = w1 := ⟨_, rfl⟩
          have hl2 : Led F R { s.beg with failing := max 0 (s.failing - 1) } w w2 := by
            rw [hw2]
            refine ⟨HL1.out.ref.as ?_, HL1.out.mod⟩
            have e : max 0 (s.failing - 1) = s.failing := by rw [HFA.out]; rfl
            rw [e]
            rfl
          rw [← hw2]
          have HL2 := Lib.hid hl2
          have c4 : w2.cell? ⟨R, 4, none⟩ = some (.int .i64 s.keeping) := hl2.ref.keeps
          clear hl2 hw2 c5 f5
          have hro := HRO.out
          obtain ⟨fs1, r1, g1, lc1, ba1, bc1, ho1⟩ := HL2.out.ref.open (i := i) (f := f) HF.out
          have d0 := ho1.c0
          have m1 := ho1.k1
          have m2 := ho1.k2
          have f2 := ho1.fr (i * 3 + 2)
          have ilt1 := ho1.lt
          have ifn1 : fs1.length ≤ 100000 := by rw [ho1.few]; exact HS.out.num
          have HO1 := Lib.hid ho1
          clear ho1
          go_wp2_with fail
          go_region
          have hl3 : Led F R (RS.setS { s.beg with failing := max 0 (s.failing - 1) } i f f.b.length) w2 (w2.setCell ⟨g1, i * 3 + 2, none⟩ (.int .i64 f.b.length)).drew := (HO1.out.setS _).drew
          obtain ⟨w3, hw3⟩ : ∃ y : World, y = (w2.setCell ⟨g1, i * 3 + 2, none⟩ (.int .i64 f.b.length)).drew := ⟨_, rfl⟩
          rw [← hw3] at hl3 ⊢
          have HL3 := Lib.hid hl3
          clear hl3 hw3 d0 m1 m2 f2 c4
          go_wp2
          go_ret2
          refine ⟨by simp [HFN.out], ⟨(HL2.out.trans HL3.out).ref.as ?_, (HL2.out.trans HL3.out).mod⟩⟩
          rw [HSV.out]
          simp [RS.setS, RS.beg, HFN.out]

end Go.Proofs.YtjbhdidjkdlceaaDoor
