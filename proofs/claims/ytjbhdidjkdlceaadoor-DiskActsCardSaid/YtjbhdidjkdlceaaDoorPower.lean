/- Power, by its contract. -/
import Derived.Test.YtjbhdidjkdlceaaDoorSmall
import Derived.Test.YtjbhdidjkdlceaaDoorView
import Derived.Maps.RangeWalk
namespace Go.Proofs.YtjbhdidjkdlceaaDoor
open Go.RowKit Go.Maps
set_option linter.unusedVariables false

def mkPtr (c : Option Nat) : Value := match c with | some F => .pointer (some ⟨F, 0, none⟩) | none => .pointer none
theorem ptr_inv (v : Value) (y : DataW Unit × List MemPlace) (h : ptrR v = some y) : ∃ c, v = mkPtr c := by
  unfold ptrR at h
  split at h
  · rename_i F
    exact ⟨some F, rfl⟩
  · exact ⟨none, rfl⟩
  · cases h
theorem key_inv (key : Value) (kl : Lit) (h : keyOf Tryd.prog 9 key = some kl) : ∃ x : ByteArray, key = .string x := by
  obtain ⟨s, rfl, _⟩ := WideMaps.string_of_keyOf Tryd.underlying9 h
  exact ⟨s, rfl⟩

/-- The files where some are still to be turned. -/
def halfway (keep : Int) (left : Lit → Bool) (fs : List PF) : List PF := fs.map (fun f => if left (.string f.name) then f else cutTo f (keepOf keep f) (keepOf keep f))

theorem halfway_all (keep : Int) (fs : List PF) : halfway keep (Maps.has (dataOf fs)) fs = fs := by
  unfold halfway
  have : ∀ f ∈ fs, (if Maps.has (dataOf fs) (.string f.name) then f else cutTo f (keepOf keep f) (keepOf keep f)) = f := by
    intro f hf
    rw [has_dataOf]
    have : (findF fs f.name).isSome = true := by
      unfold findF
      rw [List.find?_isSome]
      exact ⟨f, hf, by simp⟩
    rw [this]
    rfl
  rw [List.map_congr_left this]
  simp

theorem halfway_done (keep : Int) (left : Lit → Bool) (hl : ∀ kl, left kl = false) (fs : List PF) : halfway keep left fs = fs.map (fun f => cutTo f (keepOf keep f) (keepOf keep f)) := by
  unfold halfway
  refine List.map_congr_left fun f _ => ?_
  rw [hl]
  rfl

theorem dataOf_halfway (keep : Int) (left : Lit → Bool) (fs : List PF) : dataOf (halfway keep left fs) = dataOf fs := by
  unfold dataOf halfway
  simp only [DataW.map.injEq, List.map_map]
  refine List.map_congr_left fun f _ => ?_
  simp only [Function.comp_apply]
  split <;> rfl

theorem length_halfway (keep : Int) (left : Lit → Bool) (fs : List PF) : (halfway keep left fs).length = fs.length := by simp [halfway]

theorem halfway_step (keep : Int) (left : Lit → Bool) (fs : List PF) (f : PF) (hu : ∀ g ∈ fs, g.name = f.name → g = f) :
    halfway keep (fun z => left z && !z.sameKey (.string f.name)) fs = setF (halfway keep left fs) (cutTo f (keepOf keep f) (keepOf keep f)) := by
  unfold halfway setF
  rw [List.map_map]
  refine List.map_congr_left fun g hg => ?_
  simp only [Function.comp_apply]
  have hk : (Lit.string g.name).sameKey (.string f.name) = (g.name == f.name) := same_name g f.name
  have hn : (if left (.string g.name) then g else cutTo g (keepOf keep g) (keepOf keep g)).name = g.name := by split <;> rfl
  have hc : (cutTo f (keepOf keep f) (keepOf keep f)).name = f.name := rfl
  by_cases h : g.name = f.name
  · have := hu g hg h
    subst this
    have hk2 : (Lit.string g.name).sameKey (.string g.name) = true := by rw [hk]; simp
    simp only [hk2, Bool.not_true, Bool.and_false, Bool.false_eq_true, if_false]
    rw [if_pos (by rw [hn, hc]; simp)]
  · have h2 : (g.name == f.name) = false := by simpa using h
    rw [h2] at hk
    simp only [hk, Bool.not_false, Bool.and_true]
    have h3 : ((if left (Lit.string g.name) = true then g else cutTo g (keepOf keep g) (keepOf keep g)).name == (cutTo f (keepOf keep f) (keepOf keep f)).name) = false := by rw [hn, hc, h2]
    simp only [h3, Bool.false_eq_true, if_false]

theorem keepOf_int {keep : Int} {f : PF} : ((keepOf keep f : Nat) : Int) = f.safe + max 0 (min keep ((f.b.length : Int) - f.safe)) := by
  unfold keepOf
  omega

/-- How many bytes there are. -/
def totF (fs : List PF) : Nat := totV (vs fs)

theorem tot_setF {fs : List PF} (h : fs.Pairwise Apart) {f f' : PF} (hf : f ∈ fs) (hn : f'.name = f.name) : totF (setF fs f') + f.b.length = totF fs + f'.b.length := by
  induction fs with
  | nil => simp at hf
  | cons a fs ih =>
    obtain ⟨ha, hL⟩ := List.pairwise_cons.1 h
    have hid : ∀ M : List PF, (∀ g ∈ M, g.name ≠ f'.name) → setF M f' = M := by
      intro M hM
      unfold setF
      have := List.map_congr_left (f := fun g : PF => if g.name == f'.name then f' else g) (g := id) (l := M) (fun g hg => by
        rw [if_neg (by simpa using hM g hg)]
        rfl)
      rw [this, List.map_id]
    rcases List.mem_cons.1 hf with rfl | hf
    · have h1 : setF (f :: fs) f' = f' :: fs := by
        have h2 := hid fs (fun g hg => by rw [hn]; exact ((ha g hg).name).symm)
        unfold setF at h2 ⊢
        simp only [List.map_cons, hn, beq_self_eq_true, if_true]
        rw [hn] at h2
        rw [h2]
      rw [h1]
      simp only [totF, vs, totV, List.map_cons, List.sum_cons]
      show f'.b.length + _ + f.b.length = f.b.length + _ + f'.b.length
      omega
    · have h1 : setF (a :: fs) f' = a :: setF fs f' := by
        unfold setF
        rw [List.map_cons, if_neg (by rw [hn]; simpa using (ha f hf).name)]
      rw [h1]
      have := ih hL hf
      unfold totF vs totV at this ⊢
      simp only [List.map_cons, List.sum_cons]
      omega

theorem len_le_tot {fs : List PF} {f : PF} (hf : f ∈ fs) : f.b.length ≤ totF fs := by
  induction fs with
  | nil => simp at hf
  | cons a fs ih =>
    unfold totF vs totV at ih ⊢
    simp only [List.map_cons, List.sum_cons]
    rcases List.mem_cons.1 hf with rfl | hf
    · show f.b.length ≤ f.b.length + _
      omega
    · have := ih hf
      omega

theorem tot_halfway {keep : Int} {left : Lit → Bool} {fs : List PF} : totF (halfway keep left fs) ≤ totF fs := by
  induction fs with
  | nil => exact Nat.le_refl _
  | cons a fs ih =>
    unfold halfway totF vs totV at ih ⊢
    simp only [List.map_cons, List.sum_cons]
    refine Nat.add_le_add ?_ ih
    split
    · exact Nat.le_refl _
    · show (a.b.take _).length ≤ a.b.length
      rw [List.length_take]
      omega

theorem foot_halfway {D M : Nat} {keep : Int} {left : Lit → Bool} {fs : List PF} {k : Nat} (h : Foot D M (halfway keep left fs) k) : Foot D M fs k := by
  rcases h with h | h | ⟨g, hg, h⟩
  · exact .inl h
  · exact .inr (.inl h)
  · obtain ⟨f, hf, rfl⟩ := List.mem_map.1 hg
    refine .inr (.inr ⟨f, hf, ?_⟩)
    split at h
    · exact h
    · rcases h with h | h
      · exact .inl h
      · refine .inr ?_
        rw [← h]
        exact (cutV_block f.bv _).symm

theorem ranges_mod {S : Nat → Prop} {w w' : World} {R : Value → Option (DataW Unit × List MemPlace)} {b r n cnt : Nat} {D : DataW Unit} {left : Lit → Bool} (h : w.ranges Tryd.prog 9 R b r n D left cnt) (m : Mod S w w') (hb : ¬ S b) (hr : ¬ S r) : w'.ranges Tryd.prog 9 R b r n D left cnt := by
  obtain ⟨es, clock, since, seen, c0, hb', F, hs, hD, hr', rest⟩ := h
  exact ⟨es, clock, since, seen, c0, m.keep hb' hb, F, hs, hD, m.keep hr' hr, rest⟩

/-- The entry that came is a file. -/
theorem entry_file {fs : List PF} {kl : Lit} {x : ByteArray} {c : Option Nat} {y : DataW Unit × List MemPlace} (hk : keyOf Tryd.prog 9 (.string x) = some kl) (hv : ptrR (mkPtr c) = some y) (hat : ∀ zd, (dataOf fs).atKey kl zd = y.1) :
    ∃ f, findF fs x.data.toList = some f ∧ kl = .string f.name ∧ c = some f.blk := by
  obtain ⟨s, hs, hkl⟩ := WideMaps.string_of_keyOf Tryd.underlying9 hk
  cases hs
  have hkl' : kl = .string x.data.toList := hkl.1
  subst hkl'
  have h1 := hat .nil
  have h2 := hat (.lit (.bool true))
  rw [atKey_dataOf] at h1 h2
  cases hf : findF fs x.data.toList with
  | none =>
    rw [hf] at h1 h2
    rw [← h1] at h2
    cases h2
  | some f =>
    rw [hf] at h1
    have hn : f.name = x.data.toList := by simpa using List.find?_some hf
    refine ⟨f, rfl, by rw [hn], ?_⟩
    have hv' : ptrR (mkPtr c) = some (.lit (.int .i64 f.blk), y.2) := by
      rw [hv]
      exact congrArg some (Prod.ext h1.symm rfl)
    have := ptrR_inv hv'
    cases c with
    | none => cases this
    | some F =>
      unfold mkPtr at this
      cases this
      rfl

end Go.Proofs.YtjbhdidjkdlceaaDoor
