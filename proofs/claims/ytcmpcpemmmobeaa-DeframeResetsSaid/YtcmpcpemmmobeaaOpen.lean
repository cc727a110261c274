/- The arguments opened: rows of bytes. -/
import Derived.Test.YtcmpcpemmmobeaaFeeds
import Derived.ProofKit
import Derived.SizedLaws
import Derived.Deep.Slices
namespace Go.Proofs.Ytcmpcpemmmobeaa
set_option linter.unusedVariables false
open Go.RowKit Go.ChangeShapes Go.WideShapes Go.ChangeAt

theorem cells5 : Try.prog.cellsOf 5 = 1 := by kernel_rfl
theorem cells30 : Try.prog.cellsOf 30 = 1 := by kernel_rfl
theorem bytes5 : Try.prog.bytesOf 5 = 1 := by kernel_rfl
theorem bytes30 : Try.prog.bytesOf 30 = 24 := by kernel_rfl

theorem wf_u8 {n : Int} (h : (Lit.int .u8 n).wf = true) : 0 ≤ n ∧ n ≤ 255 := by
  simp only [Lit.wf, Bool.and_eq_true, decide_eq_true_eq] at h
  have h1 : IntKind.u8.min = 0 := rfl
  have h2 : IntKind.u8.max = 255 := rfl
  omega

theorem add_spot {W : World} {a : Addr} {v : Value} (h : W.cell? (a.add 0) = some v) : ∃ b off, a = ⟨b, off, none⟩ := by
  obtain ⟨b, off, spot⟩ := a
  have e : (⟨b, off, spot⟩ : Addr).add 0 = ⟨b, off, spot⟩ := by simp [Addr.add]
  rw [e] at h
  have hs := World.cell?_spot h
  subst hs
  exact ⟨b, off, rfl⟩

theorem bytes_open {H : Type} {enc : TypeId × Value → H} {W : World} {fuel : Nat} {v : Value} {x : DataW H × List MemPlace} (h : DataW.trod enc Try.prog W 0 (fun _ => true) true fuel 30 [v] = some x) (hw : ∀ n ∈ x.1.weights Try.prog 30, n ≤ reachBytes) :
    ∃ (ra : Option Addr) (rc : Nat) (bs : List UInt8), v = .slice ra bs.length rc ∧ BytesAt W ra bs ∧ (ra = none → rc = 0) ∧ bs.length ≤ 140737488355328 := by
  rcases open_ints Try.underlying30 Try.underlying5 cells5 h with ⟨hc, rfl⟩ | ⟨a, len, cap, zs, hc, _, hlc, _, hzl, rfl, hcell, hwf⟩
  · simp only [List.cons.injEq, and_true] at hc
    exact ⟨none, 0, [], hc, ⟨fun i y hy => by simp at hy⟩, fun _ => rfl, Nat.zero_le _⟩
  · simp only [List.cons.injEq, and_true] at hc
    simp only [if_true] at hzl
    have hwt := hw ((lits (H := H) .u8 (zs.take len)).length * 1 + (lits (H := H) .u8 (zs.drop len)).length * 1) (by
      simp [DataW.weights, Try.underlying30, bytes5])
    have hbl : ((zs.take len).map (fun z => UInt8.ofNat z.toNat)).length = len := by simp; omega
    refine ⟨some a, cap, (zs.take len).map (fun z => UInt8.ofNat z.toNat), ?_, ⟨fun i y hy => ?_⟩, ?_, ?_⟩
    · rw [hbl]
      exact hc
    · rw [List.getElem?_map] at hy
      have hil : i < len := by
        rcases Nat.lt_or_ge i len with h1 | h1
        · exact h1
        · rw [List.getElem?_eq_none (by simp; omega)] at hy
          simp at hy
      rw [List.getElem?_take_of_lt hil, List.getElem?_eq_getElem (by omega)] at hy
      simp only [Option.map_some, Option.some.injEq] at hy
      obtain ⟨b, off, rfl⟩ := add_spot (hcell 0 (by omega))
      have hk := hcell i (by omega)
      rw [Addr.add_lit] at hk
      refine ⟨b, off, rfl, hk.trans ?_⟩
      have hz := wf_u8 (hwf (zs[i]'(by omega)) (List.getElem_mem _))
      rw [List.getD, List.getElem?_eq_getElem (by omega), Option.getD_some, ← hy]
      generalize zs[i]'(by omega) = z at hz
      have e1 : ((UInt8.ofNat z.toNat).toNat : Int) = z := by
        rw [UInt8.toNat_ofNat']
        omega
      show some (Value.int .u8 z) = some (Value.int .u8 ((UInt8.ofNat z.toNat).toNat : Int))
      rw [e1]
    · intro he
      cases he
    · rw [hbl]
      have : (lits (H := H) .u8 (zs.take len)).length = len := by simp [lits]; omega
      unfold reachBytes at hwt
      omega

theorem weights_all {H : Type} {P : Program} {e : TypeId} {d : DataW H} {n : Nat} (hn : n ∈ d.weights P e) : ∀ {l : List (DataW H)}, d ∈ l → n ∈ DataW.weightsAll P e l
  | d0 :: l, hd => by
    simp only [DataW.weightsAll, List.mem_append]
    rcases List.mem_cons.1 hd with h | h
    · exact .inl (h ▸ hn)
    · exact .inr (weights_all hn h)
  | [], hd => by simp at hd

theorem rows_open {H : Type} {enc : TypeId × Value → H} {W : World} {a : Option Addr} {len cap : Nat} {d : DataW H} {p : List MemPlace} (h : DataW.Trod enc Try.prog W 0 (fun _ => true) true 22 (.slice a len cap) d p) (hw : ∀ n ∈ d.weights Try.prog 22, n ≤ reachBytes) :
    ∃ xs : List (List UInt8), xs.length = len ∧ RowsIn W a xs ∧ (∀ x ∈ xs, x.length ≤ 140737488355328) ∧ len ≤ 140737488355328 := by
  obtain ⟨fuel, hf⟩ := h
  rcases Deep.open_slice1 Try.underlying22 cells30 hf with ⟨hc, _⟩ | ⟨a', len', cap', m, n, V, D, Pl, hc, _, hlc, _, hm, hx, hV⟩
  · simp [Value.cells] at hc
    obtain ⟨rfl, rfl, rfl⟩ := hc
    exact ⟨[], rfl, ⟨fun i x hx => by simp at hx⟩, fun x hx => by simp at hx, Nat.zero_le _⟩
  · simp [Value.cells] at hc
    obtain ⟨rfl, rfl, rfl⟩ := hc
    simp only [Prod.mk.injEq] at hx
    obtain ⟨rfl, _⟩ := hx
    simp only [if_true] at hm
    have hall : ∀ i, i < len → ∃ x : List UInt8, ∃ ra rc, W.cell? (a'.add i) = some (.slice ra x.length rc) ∧ BytesAt W ra x ∧ (ra = none → rc = 0) ∧ x.length ≤ 140737488355328 := by
      intro i hi
      obtain ⟨h1, h2⟩ := hV i (by omega)
      obtain ⟨ra, rc, bs, hv, hb, hn, hl⟩ := bytes_open h2 (fun k hk => hw k (by
        simp only [DataW.weights, Try.underlying22, List.mem_cons, List.mem_append]
        exact .inr (.inl (weights_all hk (List.mem_map.2 ⟨i, List.mem_range.2 hi, rfl⟩)))))
      exact ⟨bs, ra, rc, hv ▸ h1, hb, hn, hl⟩
    obtain ⟨X, hX⟩ := Deep.choose_lt hall
    refine ⟨(List.range len).map X, by simp, ⟨fun i x hx => ?_⟩, fun x hx => ?_, ?_⟩
    · simp only [List.getElem?_map] at hx
      rcases Nat.lt_or_ge i len with hi | hi
      · rw [List.getElem?_range hi] at hx
        simp only [Option.map_some, Option.some.injEq] at hx
        subst hx
        obtain ⟨ra, rc, h1, h2, h3, _⟩ := hX i hi
        obtain ⟨_, _, h0, _⟩ := hX 0 (by omega)
        obtain ⟨b, off, rfl⟩ := add_spot h0
        have hk := h1
        rw [Addr.add_lit] at hk
        exact ⟨b, off, ra, rc, rfl, hk, h2, h3⟩
      · rw [List.getElem?_eq_none (by simpa using hi)] at hx
        simp at hx
    · obtain ⟨i, hi, rfl⟩ := List.mem_map.1 hx
      obtain ⟨_, _, _, _, _, h4⟩ := hX i (List.mem_range.1 hi)
      exact h4
    · have hwt := hw _ (by
        simp only [DataW.weights, Try.underlying22, List.mem_cons]
        exact .inl rfl)
      rw [bytes30] at hwt
      simp at hwt
      unfold reachBytes at hwt
      omega

/-- DeframeFeeds, whatever its arguments. -/
theorem deframeFeeds_walk {H : Type} {enc : TypeId × Value → H} {W : World} (n : Int) (_wn : (Lit.int .i64 n).wf = true) (a : Option Addr) (len cap : Nat) {d : DataW H} {p : List MemPlace} (h : DataW.Trod enc Try.prog W 0 (fun _ => true) true 22 (.slice a len cap) d p) (hw : ∀ k ∈ d.weights Try.prog 22, k ≤ reachBytes) :
    Calls Try.prog 3 #[.int .i64 n, .slice a len cap] W fun e w' => e = .returned (.bool true) ∧ Below W.heap.size W w' := by
  obtain ⟨xs, h1, h2, h3, h4⟩ := rows_open h hw
  exact deframeFeeds_rows n xs a len cap h1 h4 h3 h2

end Go.Proofs.Ytcmpcpemmmobeaa
