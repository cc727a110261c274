/- A file more, a file less: what is true of the disk behind it. -/
import Derived.Test.YtjbhdidjkdlceaaDoorAppend
namespace Go.Proofs.YtjbhdidjkdlceaaDoor
open Go.RowKit Go.Maps
set_option linter.unusedVariables false

theorem mem_insF {f g : PF} {fs : List PF} : g ∈ insF f fs ↔ g = f ∨ g ∈ fs := by
  induction fs with
  | nil => simp [insF]
  | cons a fs ih =>
    unfold insF
    split
    · simp
    · simp only [List.mem_cons, ih]
      constructor
      · rintro (h | h | h)
        · exact .inr (.inl h)
        · exact .inl h
        · exact .inr (.inr h)
      · rintro (h | h | h)
        · exact .inr (.inl h)
        · exact .inl h
        · exact .inr (.inr h)

theorem length_insF (f : PF) (fs : List PF) : (insF f fs).length = fs.length + 1 := by
  induction fs with
  | nil => rfl
  | cons a fs ih =>
    unfold insF
    split
    · simp
    · simp [ih]

theorem pairwise_insF {f : PF} {fs : List PF} (h : fs.Pairwise Apart) (hf : ∀ g ∈ fs, Apart f g) : (insF f fs).Pairwise Apart := by
  induction fs with
  | nil => simp [insF]
  | cons a fs ih =>
    obtain ⟨ha, hfs⟩ := List.pairwise_cons.1 h
    unfold insF
    split
    · exact List.pairwise_cons.2 ⟨hf, h⟩
    · refine List.pairwise_cons.2 ⟨fun g hg => ?_, ih hfs (fun g hg => hf g (List.mem_cons_of_mem _ hg))⟩
      rcases mem_insF.1 hg with rfl | hg
      · exact (hf a (List.mem_cons_self ..)).symm
      · exact ha g hg

theorem findF_none {fs : List PF} {nm : List UInt8} (h : findF fs nm = none) : ∀ g ∈ fs, g.name ≠ nm := by
  unfold findF at h
  rw [List.find?_eq_none] at h
  intro g hg
  simpa using h g hg

/-- A new file, empty. -/
theorem Disk.insert {w w' : World} {D M : Nat} {fs : List PF} {room used ops arm keep fail : Int} {nm : List UInt8} (h : Disk w D M fs room used ops arm keep fail) (hn : findF fs nm = none)
    (hg : (w.alloc (.cells #[.slice none 0 0, .int .i64 0] 83)).grownBy w' (some M)) (hown : w'.ownsMap Tryd.prog 9 ptrR M (fs.length + 1) ((dataOf fs).put (.string nm) (.lit (.int .i64 w.heap.size)))) :
    Disk w' D M (insF ⟨nm, w.heap.size, .slice none 0 0, [], 0⟩ fs) room used ops arm keep fail := by
  obtain ⟨n1, n2, n3⟩ := h.ne
  have m : Mod (fun t => t = M) w w' := (Mod.of_below ((Below.refl _ w).alloc (Nat.le_refl _) _)).trans (Mod.grown hg (fun k hk => by simp only [Option.some.injEq] at hk; exact hk.symm))
  have hMlt : M < w.heap.size := h.map.lt
  have hnew : w'.heap[w.heap.size]? = some (.cells #[.slice none 0 0, .int .i64 0] 83 (0, 0)) := by
    refine (hg.block _ (by simp) (by simp; omega)).trans ?_
    exact heap_alloc_new w _
  refine ⟨m.keep h.cells n1, ?_, fun g hg' => ?_, ?_⟩
  · have := put_dataOf fs ⟨nm, w.heap.size, .slice none 0 0, [], 0⟩
    simp only at this
    rw [this, delF_none hn] at hown
    rw [length_insF]
    exact hown
  · rcases mem_insF.1 hg' with rfl | hg'
    · exact ⟨hnew, World.ownsRow_nil _ _ _ _, Nat.le_refl _⟩
    · obtain ⟨a1, a2, a3, a4⟩ := n2 g hg'
      have hG := h.files g hg'
      exact ⟨m.keep hG.cells a2, m.row hG.row (fun k hk e => a4 (e ▸ hk)), hG.safe⟩
  · refine pairwise_insF h.apart fun g hg' => ⟨fun e => findF_none hn g hg' e.symm, ?_, ?_⟩
    · have := lt_of_block (h.files g hg').cells
      show w.heap.size ≠ g.blk
      omega
    · intro t ht
      simp [Value.ownBlock] at ht

theorem findF_insF {f : PF} {fs : List PF} (hn : findF fs f.name = none) : findF (insF f fs) f.name = some f := by
  unfold findF at *
  induction fs with
  | nil => simp [insF]
  | cons a fs ih =>
    have ha : (a.name == f.name) = false := by
      cases h : a.name == f.name with
      | false => rfl
      | true => simp [List.find?_cons, h] at hn
    have hn' : fs.find? (fun g => g.name == f.name) = none := by simpa [List.find?_cons, ha] using hn
    unfold insF
    split
    · simp
    · rw [List.find?_cons, ha]
      exact ih hn'

theorem setF_insF {f f' : PF} {fs : List PF} (hn : findF fs f.name = none) (he : f'.name = f.name) : setF (insF f fs) f' = insF f' fs := by
  unfold findF at hn
  induction fs with
  | nil => simp [insF, setF, he]
  | cons a fs ih =>
    have ha : (a.name == f.name) = false := by
      cases h : a.name == f.name with
      | false => rfl
      | true => simp [List.find?_cons, h] at hn
    have hn' : fs.find? (fun g => g.name == f.name) = none := by simpa [List.find?_cons, ha] using hn
    have hid : ∀ g ∈ fs, (if g.name == f'.name then f' else g) = g := fun g hg => by
      have := findF_none (fs := fs) hn' g hg
      rw [if_neg (by rw [he]; simpa using this)]
    unfold insF
    rw [he]
    split
    · have hmap : fs.map (fun g => if g.name == f.name then f' else g) = fs := by
        have := List.map_congr_left (f := fun g => if g.name == f.name then f' else g) (g := id) (l := fs) (fun g hg => by
          have := hid g hg
          rw [he] at this
          exact this)
        rw [this, List.map_id]
      unfold setF
      simp only [List.map_cons, he, beq_self_eq_true, if_true, ha, Bool.false_eq_true, if_false]
      rw [hmap]
    · unfold setF
      simp only [List.map_cons, he, ha, Bool.false_eq_true, if_false]
      congr 1
      have := ih hn'
      unfold setF at this
      rw [he] at this
      exact this

end Go.Proofs.YtjbhdidjkdlceaaDoor
