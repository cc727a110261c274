/- The disk in plain words: its files' names, bytes, and how many are safe; and the files as they lie, seen so. -/
import Derived.Test.YtjbhdidjkdlceaaDoorCut
namespace Go.Proofs.YtjbhdidjkdlceaaDoor
open Go.RowKit Go.Maps
set_option linter.unusedVariables false

structure VF where
  name : List UInt8
  b : List UInt8
  safe : Nat

def PF.v (f : PF) : VF := ⟨f.name, f.b, f.safe⟩
def vs (fs : List PF) : List VF := fs.map PF.v

def findV (L : List VF) (nm : List UInt8) : Option VF := L.find? (fun f => f.name == nm)
def setV (L : List VF) (f : VF) : List VF := L.map (fun g => if g.name == f.name then f else g)
def delV (L : List VF) (nm : List UInt8) : List VF := L.filter (fun f => !(f.name == nm))
def insV (f : VF) : List VF → List VF
  | [] => [f]
  | g :: r => if bytesBefore f.name g.name then f :: g :: r else g :: insV f r
def totV (L : List VF) : Nat := (L.map (fun f => f.b.length)).sum

theorem findV_vs (fs : List PF) (nm : List UInt8) : findV (vs fs) nm = (findF fs nm).map PF.v := by
  unfold findV vs findF
  rw [List.find?_map]
  rfl

theorem setV_vs (fs : List PF) (f : PF) : vs (setF fs f) = setV (vs fs) f.v := by
  unfold vs setF setV
  rw [List.map_map, List.map_map]
  refine List.map_congr_left fun g _ => ?_
  simp only [Function.comp_apply]
  have : g.v.name = g.name := rfl
  have h2 : f.v.name = f.name := rfl
  rw [this, h2]
  split <;> rfl

theorem delV_vs (fs : List PF) (nm : List UInt8) : vs (delF fs nm) = delV (vs fs) nm := by
  unfold vs delF delV
  rw [List.filter_map]
  rfl

theorem insV_vs (f : PF) (fs : List PF) : vs (insF f fs) = insV f.v (vs fs) := by
  induction fs with
  | nil => rfl
  | cons g fs ih =>
    have h1 : vs (g :: fs) = g.v :: vs fs := rfl
    rw [h1]
    unfold insF insV
    have e : (Lit.string f.name).before (.string g.name) = bytesBefore f.v.name g.v.name := rfl
    rw [e]
    split
    · rfl
    · show g.v :: vs (insF f fs) = _
      rw [ih]

theorem before_lt (a b : List UInt8) : bytesBefore a b = decide (a < b) := by
  induction a generalizing b with
  | nil =>
    cases b with
    | nil => rfl
    | cons y b => simp [bytesBefore]
  | cons x a ih =>
    cases b with
    | nil => simp [bytesBefore]
    | cons y b =>
      simp only [bytesBefore, ih]
      rw [Bool.eq_iff_iff]
      simp [List.cons_lt_cons_iff]

/-- Sorted by their names, none twice. -/
def Sorted (L : List VF) : Prop := L.Pairwise (fun f g => bytesBefore f.name g.name = true)

theorem Sorted.names {L : List VF} (h : Sorted L) : (L.map (·.name)).Pairwise (fun a b => a < b) := by
  rw [List.pairwise_map]
  refine List.Pairwise.imp ?_ h
  intro f g hfg
  rw [before_lt] at hfg
  simpa using hfg

theorem sorted_names {L : List VF} (h : Sorted L) {ss : List (List UInt8)} (hp : ss.Perm (L.map (·.name))) : ss.mergeSort (fun x y => decide (x ≤ y)) = L.map (·.name) := by
  have h1 : (ss.mergeSort (fun x y => decide (x ≤ y))).Perm (L.map (·.name)) := (List.mergeSort_perm _ _).trans hp
  have htr : ∀ a b c : List UInt8, decide (a ≤ b) = true → decide (b ≤ c) = true → decide (a ≤ c) = true := by
    intro a b c h1 h2
    simp only [decide_eq_true_eq] at *
    exact List.le_trans h1 h2
  have hto : ∀ a b : List UInt8, (decide (a ≤ b) || decide (b ≤ a)) = true := by
    intro a b
    have := List.le_total a b
    simpa using this
  have h2 : (ss.mergeSort (fun x y => decide (x ≤ y))).Pairwise (fun x y => decide (x ≤ y) = true) := List.pairwise_mergeSort htr hto _
  refine List.Perm.eq_of_pairwise (le := fun x y : List UInt8 => x ≤ y) ?_ ?_ ?_ h1
  · intro a b _ _ hab hba
    exact List.le_antisymm hab hba
  · exact h2.imp (fun h => by simpa using h)
  · exact h.names.imp (fun h => List.le_of_lt h)

theorem before_ne {a b : List UInt8} (h : bytesBefore a b = true) : a ≠ b := by
  rintro rfl
  rw [WideAt.bytes_irrefl] at h
  cases h

theorem mem_insV {f g : VF} {L : List VF} : g ∈ insV f L ↔ g = f ∨ g ∈ L := by
  induction L with
  | nil => simp [insV]
  | cons a L ih =>
    unfold insV
    split
    · simp
    · simp only [List.mem_cons, ih]
      constructor
      · rintro (h | h | h)
        · exact .inr (.inl h)
        · exact .inl h
        · exact .inr (.inr h)
      · rintro (h | h | h)
        · exact .inr (.inl h)
        · exact .inl h
        · exact .inr (.inr h)

theorem sorted_insV {f : VF} {L : List VF} (h : Sorted L) (hn : findV L f.name = none) : Sorted (insV f L) := by
  induction L with
  | nil => simp [insV, Sorted]
  | cons a L ih =>
    obtain ⟨ha, hL⟩ := List.pairwise_cons.1 h
    unfold findV at hn
    rw [List.find?_eq_none] at hn
    have hne : a.name ≠ f.name := by simpa using hn a (List.mem_cons_self ..)
    unfold insV
    split
    · rename_i hb
      refine List.pairwise_cons.2 ⟨fun g hg => ?_, h⟩
      rcases List.mem_cons.1 hg with rfl | hg
      · exact hb
      · exact WideShapes.bytes_trans _ _ _ hb (ha g hg)
    · rename_i hb
      refine List.pairwise_cons.2 ⟨fun g hg => ?_, ih hL (by
        unfold findV
        rw [List.find?_eq_none]
        exact fun x hx => hn x (List.mem_cons_of_mem _ hx))⟩
      rcases mem_insV.1 hg with rfl | hg
      · rcases WideAt.bytes_total _ _ hne with h1 | h1
        · exact h1
        · exact absurd h1 hb
      · exact ha g hg

theorem sorted_setV {f : VF} {L : List VF} (h : Sorted L) : Sorted (setV L f) := by
  unfold Sorted setV
  rw [List.pairwise_map]
  refine List.Pairwise.imp ?_ h
  intro a b hab
  have e : ∀ g : VF, (if (g.name == f.name) = true then f else g).name = g.name := by
    intro g
    split
    · rename_i hg
      exact (by simpa using hg : g.name = f.name).symm
    · rfl
  rw [e, e]
  exact hab

theorem sorted_delV {L : List VF} (nm : List UInt8) (h : Sorted L) : Sorted (delV L nm) := List.Pairwise.filter _ h

theorem map_name_setV (L : List VF) (f : VF) : (setV L f).map (·.name) = L.map (·.name) := by
  unfold setV
  rw [List.map_map]
  refine List.map_congr_left fun g _ => ?_
  simp only [Function.comp_apply]
  split
  · rename_i hg
    exact (by simpa using hg : g.name = f.name).symm
  · rfl

theorem findV_mem {L : List VF} {nm : List UInt8} {f : VF} (h : findV L nm = some f) : f ∈ L ∧ f.name = nm :=
  ⟨List.mem_of_find?_eq_some h, by simpa using List.find?_some h⟩

theorem tot_insV (f : VF) (L : List VF) : totV (insV f L) = f.b.length + totV L := by
  induction L with
  | nil => simp [insV, totV]
  | cons a L ih =>
    unfold insV
    split
    · simp [totV]
    · unfold totV at ih ⊢
      simp only [List.map_cons, List.sum_cons]
      rw [ih]
      omega

theorem Sorted.uniq {L : List VF} (h : Sorted L) {f g : VF} (hf : f ∈ L) (hg : g ∈ L) (hn : f.name = g.name) : f = g := by
  induction L with
  | nil => simp at hf
  | cons a L ih =>
    obtain ⟨ha, hL⟩ := List.pairwise_cons.1 h
    rcases List.mem_cons.1 hf with rfl | hf1
    · rcases List.mem_cons.1 hg with rfl | hg
      · rfl
      · exact absurd hn (before_ne (ha g hg))
    · rcases List.mem_cons.1 hg with rfl | hg
      · exact absurd hn.symm (before_ne (ha f hf1))
      · exact ih hL hf1 hg

theorem tot_setV {L : List VF} (h : Sorted L) {f f' : VF} (hf : f ∈ L) (hn : f'.name = f.name) : totV (setV L f') + f.b.length = totV L + f'.b.length := by
  induction L with
  | nil => simp at hf
  | cons a L ih =>
    obtain ⟨ha, hL⟩ := List.pairwise_cons.1 h
    have hid : ∀ M : List VF, (∀ g ∈ M, g.name ≠ f'.name) → setV M f' = M := by
      intro M hM
      unfold setV
      have := List.map_congr_left (f := fun g : VF => if g.name == f'.name then f' else g) (g := id) (l := M) (fun g hg => by
        rw [if_neg (by simpa using hM g hg)]
        rfl)
      rw [this, List.map_id]
    rcases List.mem_cons.1 hf with rfl | hf
    · have h1 : setV (f :: L) f' = f' :: L := by
        have h2 := hid L (fun g hg => by rw [hn]; exact (before_ne (ha g hg)).symm)
        unfold setV at h2 ⊢
        simp only [List.map_cons, hn, beq_self_eq_true, if_true]
        rw [hn] at h2
        rw [h2]
      rw [h1]
      simp only [totV, List.map_cons, List.sum_cons]
      omega
    · have h1 : setV (a :: L) f' = a :: setV L f' := by
        unfold setV
        rw [List.map_cons, if_neg (by rw [hn]; simpa using before_ne (ha f hf))]
      rw [h1]
      have := ih hL hf
      unfold totV at this ⊢
      simp only [List.map_cons, List.sum_cons]
      omega

theorem tot_delV {L : List VF} (h : Sorted L) {f : VF} (hf : f ∈ L) : totV (delV L f.name) + f.b.length = totV L := by
  induction L with
  | nil => simp at hf
  | cons a L ih =>
    obtain ⟨ha, hL⟩ := List.pairwise_cons.1 h
    rcases List.mem_cons.1 hf with rfl | hf
    · have h1 : delV (f :: L) f.name = L := by
        unfold delV
        rw [List.filter_cons, if_neg (by simp)]
        rw [List.filter_eq_self]
        intro g hg
        simpa using (before_ne (ha g hg)).symm
      rw [h1]
      simp only [totV, List.map_cons, List.sum_cons]
      omega
    · have h1 : delV (a :: L) f.name = a :: delV L f.name := by
        unfold delV
        rw [List.filter_cons, if_pos (by simpa using before_ne (ha f hf))]
      rw [h1]
      have := ih hL hf
      unfold totV at this ⊢
      simp only [List.map_cons, List.sum_cons]
      omega

theorem delV_none {L : List VF} {nm : List UInt8} (h : findV L nm = none) : delV L nm = L := by
  unfold findV at h
  unfold delV
  rw [List.find?_eq_none] at h
  rw [List.filter_eq_self]
  intro f hf
  simpa using h f hf

theorem findV_delV (L : List VF) (nm : List UInt8) : findV (delV L nm) nm = none := by
  unfold findV delV
  rw [List.find?_eq_none]
  intro f hf
  have := (List.mem_filter.1 hf).2
  simpa using this

end Go.Proofs.YtjbhdidjkdlceaaDoor
