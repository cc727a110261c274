/- A file's bytes turned: what is true of the disk behind it. -/
import Derived.Test.YtjbhdidjkdlceaaDoorApp
namespace Go.Proofs.YtjbhdidjkdlceaaDoor
open Go.RowKit Go.Maps
set_option linter.unusedVariables false

def setF (fs : List PF) (f' : PF) : List PF := fs.map (fun g => if g.name == f'.name then f' else g)

theorem Disk.uniq {w : World} {D M : Nat} {fs : List PF} {room used ops arm keep fail : Int} (h : Disk w D M fs room used ops arm keep fail) {f g : PF} (hf : f ∈ fs) (hg : g ∈ fs) (hn : f.name = g.name) : f = g := by
  have key : ∀ (l : List PF), l.Pairwise Apart → f ∈ l → g ∈ l → f = g := by
    intro l hl
    induction l with
    | nil => intro h1; simp at h1
    | cons a l ih =>
      intro h1 h2
      obtain ⟨ha, hl'⟩ := List.pairwise_cons.1 hl
      rcases List.mem_cons.1 h1 with rfl | hf1
      · rcases List.mem_cons.1 h2 with rfl | h2
        · rfl
        · exact absurd hn (ha g h2).name
      · rcases List.mem_cons.1 h2 with rfl | h2
        · exact absurd hn.symm (ha f hf1).name
        · exact ih hl' hf1 h2
  exact key fs h.apart hf hg

theorem Disk.apartOf {w : World} {D M : Nat} {fs : List PF} {room used ops arm keep fail : Int} (h : Disk w D M fs room used ops arm keep fail) {f g : PF} (hf : f ∈ fs) (hg : g ∈ fs) (hn : g.name ≠ f.name) : Apart f g := by
  have key : ∀ (l : List PF), l.Pairwise Apart → f ∈ l → g ∈ l → Apart f g := by
    intro l hl
    induction l with
    | nil => intro h1; simp at h1
    | cons a l ih =>
      intro h1 h2
      obtain ⟨ha, hl'⟩ := List.pairwise_cons.1 hl
      rcases List.mem_cons.1 h1 with rfl | hf1
      · rcases List.mem_cons.1 h2 with rfl | h2
        · exact absurd rfl hn
        · exact ha g h2
      · rcases List.mem_cons.1 h2 with rfl | h2
        · exact (ha f hf1).symm
        · exact ih hl' hf1 h2
  exact key fs h.apart hf hg

theorem mem_setF {fs : List PF} {f' g : PF} (h : g ∈ setF fs f') : g = f' ∨ (g ∈ fs ∧ g.name ≠ f'.name) := by
  obtain ⟨g0, hg0, rfl⟩ := List.mem_map.1 h
  by_cases hn : g0.name = f'.name
  · left
    rw [if_pos (by simpa using hn)]
  · right
    rw [if_neg (by simpa using hn)]
    exact ⟨hg0, hn⟩

/-- A file with other bytes in other memory: what is asked of the world, and what holds of the disk. -/
theorem Disk.setFile {w w' : World} {D M : Nat} {fs : List PF} {room used ops arm keep fail : Int} {f f' : PF} (h : Disk w D M fs room used ops arm keep fail) (hf : f ∈ fs) (hn : f'.name = f.name) (hb : f'.blk = f.blk)
    (m : Mod (fun t => t = f.blk ∨ f.bv.ownBlock = some t) w w') (hF : FileAt w' f') (hat : ∀ t, f'.bv.ownBlock = some t → f.bv.ownBlock = some t ∨ w.heap.size ≤ t) : Disk w' D M (setF fs f') room used ops arm keep fail := by
  obtain ⟨n1, n2, n3⟩ := h.ne
  obtain ⟨a1, a2, a3, a4⟩ := n2 f hf
  have hdata : dataOf (setF fs f') = dataOf fs := by
    unfold dataOf setF
    simp only [DataW.map.injEq, List.map_map]
    refine List.map_congr_left fun g hg => ?_
    simp only [Function.comp_apply]
    by_cases hg2 : g.name = f'.name
    · rw [if_pos (by simpa using hg2)]
      have := h.uniq hf hg (by rw [hg2, hn])
      subst this
      simp [entry, hn, hb]
    · rw [if_neg (by simpa using hg2)]
  have hold : ∀ g ∈ fs, g.name ≠ f'.name → FileAt w' g := fun g hg hgn => by
    have hap := h.apartOf hf hg (by rw [← hn]; exact hgn)
    have hG := h.files g hg
    refine ⟨m.keep hG.cells (fun hs => ?_), m.row hG.row (fun k hk hs => ?_), hG.safe⟩
    · rcases hs with hs | hs
      · exact hap.blk hs.symm
      · exact n3 f hf g hg hs
    · rcases hs with hs | hs
      · exact n3 g hg f hf (hs ▸ hk)
      · exact hap.row k hs hk
  refine ⟨m.keep h.cells (fun hs => ?_), ?_, fun g hg => ?_, ?_⟩
  · rcases hs with hs | hs
    · exact a1 hs.symm
    · exact a3 hs
  · rw [hdata, show (setF fs f').length = fs.length by simp [setF]]
    obtain ⟨es, clock, h1, h2, h3, h4⟩ := h.map
    refine ⟨es, clock, m.keep h1 (fun hs => ?_), h2, h3, h4⟩
    rcases hs with hs | hs
    · exact a2 hs.symm
    · exact a4 hs
  · rcases mem_setF hg with rfl | ⟨hg, hgn⟩
    · exact hF
    · exact hold g hg hgn
  · unfold setF
    rw [List.pairwise_map]
    refine List.Pairwise.imp_of_mem ?_ h.apart
    intro g1 g2 hg1 hg2 hap
    have mk : ∀ g ∈ fs, g.name ≠ f'.name → Apart f' g := fun g hg hgn => by
      have hap := h.apartOf hf hg (by rw [← hn]; exact hgn)
      refine ⟨fun e => hgn e.symm, by rw [hb]; exact hap.blk, fun t ht hs => ?_⟩
      rcases hat t ht with h1 | h1
      · exact hap.row t h1 hs
      · have := ((h.files g hg).row.lt t hs).2
        omega
    by_cases e1 : g1.name = f'.name
    · by_cases e2 : g2.name = f'.name
      · exact absurd (e1.trans e2.symm) hap.name
      · rw [if_pos (by simpa using e1), if_neg (by simpa using e2)]
        exact mk g2 hg2 e2
    · by_cases e2 : g2.name = f'.name
      · rw [if_neg (by simpa using e1), if_pos (by simpa using e2)]
        exact (mk g1 hg1 e1).symm
      · rw [if_neg (by simpa using e1), if_neg (by simpa using e2)]
        exact hap

/-- What a call has done to the disk. -/
structure Did (D M : Nat) (fs fs' : List PF) (room used ops arm keep fail : Int) (w w' : World) : Prop where
  mod : Mod (Foot D M fs) w w'
  disk : Disk w' D M fs' room used ops arm keep fail
  foot : ∀ k, Foot D M fs' k → Foot D M fs k ∨ w.heap.size ≤ k

/-- Where the disk lies behind it. -/
theorem foot_setF {w : World} {D M : Nat} {fs : List PF} {f f' : PF} (hf : f ∈ fs) (hb : f'.blk = f.blk) (hat : ∀ t, f'.bv.ownBlock = some t → f.bv.ownBlock = some t ∨ w.heap.size ≤ t) {k : Nat} (hk : Foot D M (setF fs f') k) : Foot D M fs k ∨ w.heap.size ≤ k := by
  rcases hk with rfl | rfl | ⟨g, hg, hk⟩
  · exact .inl (.inl rfl)
  · exact .inl (.inr (.inl rfl))
  · rcases mem_setF hg with rfl | ⟨hg, _⟩
    · rcases hk with rfl | hk
      · exact .inl (.inr (.inr ⟨f, hf, .inl hb⟩))
      · rcases hat k hk with h1 | h1
        · exact .inl (.inr (.inr ⟨f, hf, .inr h1⟩))
        · exact .inr h1
    · exact .inl (.inr (.inr ⟨g, hg, hk⟩))

end Go.Proofs.YtjbhdidjkdlceaaDoor
