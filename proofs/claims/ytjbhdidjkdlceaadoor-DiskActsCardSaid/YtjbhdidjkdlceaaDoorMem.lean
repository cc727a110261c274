/- The disk as it lies: its files as a list, the map's reading, the footprint. -/
import Derived.Test.YtjbhdidjkdlceaaDoorNamed
namespace Go.Proofs.YtjbhdidjkdlceaaDoor
open Go.RowKit Go.Maps
set_option linter.unusedVariables false

/-- A file: its name, its block, its bytes' value, its bytes, how many are safe. -/
structure PF where
  name : List UInt8
  blk : Nat
  bv : Value
  b : List UInt8
  safe : Nat

/-- A pointer read as its block's number. -/
def ptrR (v : Value) : Option (DataW Unit × List MemPlace) :=
  match v with
  | .pointer (some ⟨F, 0, none⟩) => some (.lit (.int .i64 F), [])
  | .pointer none => some (.nil, [])
  | _ => none

theorem ptrR_mk (F : Nat) : ptrR (.pointer (some ⟨F, 0, none⟩)) = some (.lit (.int .i64 F), []) := rfl
theorem ptrR_nil : ptrR (.pointer none) = some (.nil, []) := rfl
theorem ptrR_inv {v : Value} {F : Nat} {ps : List MemPlace} (h : ptrR v = some (.lit (.int .i64 F), ps)) : v = .pointer (some ⟨F, 0, none⟩) := by
  unfold ptrR at h
  split at h
  · rename_i G
    simp only [Option.some.injEq, Prod.mk.injEq, DataW.lit.injEq, Lit.int.injEq, true_and] at h
    have : G = F := by omega
    rw [this]
  · simp at h
  · simp at h
theorem ptrR_inv_nil {v : Value} {ps : List MemPlace} (h : ptrR v = some (.nil, ps)) : v = .pointer none := by
  unfold ptrR at h
  split at h
  · simp at h
  · rfl
  · simp at h

def entry (f : PF) : Lit × DataW Unit := (.string f.name, .lit (.int .i64 f.blk))
def dataOf (fs : List PF) : DataW Unit := .map (fs.map entry)
def findF (fs : List PF) (nm : List UInt8) : Option PF := fs.find? (fun f => f.name == nm)
def delF (fs : List PF) (nm : List UInt8) : List PF := fs.filter (fun f => !(f.name == nm))
def insF (f : PF) : List PF → List PF
  | [] => [f]
  | g :: r => if (Lit.string f.name).before (.string g.name) then f :: g :: r else g :: insF f r

theorem same_name (f : PF) (nm : List UInt8) : (entry f).1.sameKey (.string nm) = (f.name == nm) := by
  simp [entry, Lit.sameKey]

theorem atKey_dataOf (fs : List PF) (nm : List UInt8) (z : DataW Unit) : (dataOf fs).atKey (.string nm) z = match findF fs nm with | some f => .lit (.int .i64 f.blk) | none => z := by
  unfold dataOf DataW.atKey findF
  simp only
  induction fs with
  | nil => rfl
  | cons f fs ih =>
    simp only [List.map_cons, List.find?_cons, same_name]
    cases h : f.name == nm with
    | true => rfl
    | false => exact ih

theorem has_dataOf (fs : List PF) (nm : List UInt8) : Maps.has (dataOf fs) (.string nm) = (findF fs nm).isSome := by
  unfold dataOf findF
  rw [Maps.has_eq]
  induction fs with
  | nil => rfl
  | cons f fs ih =>
    simp only [List.map_cons, List.any_cons, List.find?_cons, same_name]
    cases h : f.name == nm with
    | true => rfl
    | false => simpa using ih

theorem del_dataOf (fs : List PF) (nm : List UInt8) : (dataOf fs).del (.string nm) = dataOf (delF fs nm) := by
  unfold dataOf DataW.del delF
  simp only [DataW.map.injEq]
  induction fs with
  | nil => rfl
  | cons f fs ih =>
    simp only [List.map_cons, List.filter_cons, same_name]
    cases h : f.name == nm with
    | true => simpa using ih
    | false => simp [ih]

theorem insert_entry (f : PF) (fs : List PF) : DataW.insert (entry f) (fs.map entry) = (insF f fs).map entry := by
  induction fs with
  | nil => rfl
  | cons g fs ih =>
    simp only [List.map_cons, DataW.insert, insF]
    have e1 : (entry f).1 = .string f.name := rfl
    have e2 : (entry g).1 = .string g.name := rfl
    rw [e1, e2]
    cases h : (Lit.string f.name).before (.string g.name) with
    | true => simp
    | false => simp [ih]

theorem put_dataOf (fs : List PF) (f : PF) : (dataOf fs).put (.string f.name) (.lit (.int .i64 f.blk)) = dataOf (insF f (delF fs f.name)) := by
  have h := del_dataOf fs f.name
  unfold dataOf DataW.del at h
  simp only [DataW.map.injEq] at h
  unfold dataOf DataW.put
  simp only [DataW.map.injEq]
  rw [h]
  exact insert_entry f _

theorem delF_none {fs : List PF} {nm : List UInt8} (h : findF fs nm = none) : delF fs nm = fs := by
  unfold findF at h
  unfold delF
  rw [List.find?_eq_none] at h
  rw [List.filter_eq_self]
  intro f hf
  simpa using h f hf

theorem size_dataOf (fs : List PF) : Maps.size (dataOf fs) = fs.length := by simp [dataOf, Maps.size]

/-- The bound on a map's entries is its size. -/
theorem tight {P : Program} {k : TypeId} {R : Value → Option (DataW Unit × List MemPlace)} {w : World} {b n : Nat} {D : DataW Unit} (h : w.ownsMap P k R b n D) : w.ownsMap P k R b (Maps.size D) D := by
  obtain ⟨es, clock, h1, h2, h3, h4⟩ := h
  refine ⟨es, clock, h1, h2, ?_, h4⟩
  rw [h4]
  show es.size ≤ (List.foldr DataW.insert [] (es.toList.map (Go.WideElems.rg P k R))).length
  rw [length_read]
  exact Nat.le_refl _

/-- A file as it lies. -/
structure FileAt (w : World) (f : PF) : Prop where
  cells : w.heap[f.blk]? = some (.cells #[f.bv, .int .i64 f.safe] 83 (0, 0))
  row : w.ownsRow 0 5 1 f.bv f.b.length (f.b.map bv)
  safe : f.safe ≤ f.b.length

/-- Two files lie apart. -/
structure Apart (f g : PF) : Prop where
  name : f.name ≠ g.name
  blk : f.blk ≠ g.blk
  row : ∀ t, f.bv.ownBlock = some t → g.bv.ownBlock ≠ some t

theorem Apart.symm {f g : PF} (h : Apart f g) : Apart g f := ⟨h.name.symm, h.blk.symm, fun t hg hf => h.row t hf hg⟩

/-- The disk's seven fields. -/
def dcells (M : Nat) (room used ops arm keep fail : Int) : Array Value := #[.map (some M), .int .i64 room, .int .i64 used, .int .i64 ops, .int .i64 arm, .int .i64 keep, .int .i64 fail]

theorem dcell {w : World} {D M : Nat} {room used ops arm keep fail : Int} (h : w.heap[D]? = some (.cells (dcells M room used ops arm keep fail) 66 (0, 0))) :
    w.cell? ⟨D, 0, none⟩ = some (.map (some M)) ∧ w.cell? ⟨D, 1, none⟩ = some (.int .i64 room) ∧ w.cell? ⟨D, 2, none⟩ = some (.int .i64 used) ∧ w.cell? ⟨D, 3, none⟩ = some (.int .i64 ops) ∧ w.cell? ⟨D, 4, none⟩ = some (.int .i64 arm) ∧
    w.cell? ⟨D, 5, none⟩ = some (.int .i64 keep) ∧ w.cell? ⟨D, 6, none⟩ = some (.int .i64 fail) ∧ ∀ i, w.frozen? ⟨D, i, none⟩ = false := by
  refine ⟨?_, ?_, ?_, ?_, ?_, ?_, ?_, ?_⟩ <;> simp [World.cell?, World.frozen?, h, dcells]

/-- Where the disk lies. -/
def Foot (D M : Nat) (fs : List PF) (k : Nat) : Prop := k = D ∨ k = M ∨ ∃ f ∈ fs, k = f.blk ∨ f.bv.ownBlock = some k

/-- The disk as it lies. -/
structure Disk (w : World) (D M : Nat) (fs : List PF) (room used ops arm keep fail : Int) : Prop where
  cells : w.heap[D]? = some (.cells (dcells M room used ops arm keep fail) 66 (0, 0))
  map : w.ownsMap Tryd.prog 9 ptrR M fs.length (dataOf fs)
  files : ∀ f ∈ fs, FileAt w f
  apart : fs.Pairwise Apart

theorem Disk.keep {S : Nat → Prop} {w w' : World} {D M : Nat} {fs : List PF} {room used ops arm keep fail : Int} (h : Disk w D M fs room used ops arm keep fail) (m : Mod S w w') (hS : ∀ k, Foot D M fs k → ¬ S k) : Disk w' D M fs room used ops arm keep fail := by
  refine ⟨m.keep h.cells (hS D (.inl rfl)), ?_, fun f hf => ?_, h.apart⟩
  · obtain ⟨es, clock, h1, h2, h3, h4⟩ := h.map
    exact ⟨es, clock, m.keep h1 (hS M (.inr (.inl rfl))), h2, h3, h4⟩
  · have hF := h.files f hf
    exact ⟨m.keep hF.cells (hS _ (.inr (.inr ⟨f, hf, .inl rfl⟩))), m.row hF.row (fun k hk => hS k (.inr (.inr ⟨f, hf, .inr hk⟩))), hF.safe⟩

/-- All of it was there. -/
theorem Disk.old {w : World} {D M : Nat} {fs : List PF} {room used ops arm keep fail : Int} (h : Disk w D M fs room used ops arm keep fail) {k : Nat} (hk : Foot D M fs k) : k < w.heap.size := by
  rcases hk with rfl | rfl | ⟨f, hf, rfl | hk⟩
  · exact lt_of_block h.cells
  · exact h.map.lt
  · exact lt_of_block (h.files f hf).cells
  · exact ((h.files f hf).row.lt k hk).2

theorem Disk.below {w w' : World} {D M : Nat} {fs : List PF} {room used ops arm keep fail : Int} (h : Disk w D M fs room used ops arm keep fail) (m : Below w.heap.size w w') : Disk w' D M fs room used ops arm keep fail :=
  h.keep (S := fun _ => False) (Mod.of_below m) (fun _ _ h => h)

/-- Its blocks lie apart, by what they hold. -/
theorem Disk.ne {w : World} {D M : Nat} {fs : List PF} {room used ops arm keep fail : Int} (h : Disk w D M fs room used ops arm keep fail) : D ≠ M ∧ (∀ f ∈ fs, f.blk ≠ D ∧ f.blk ≠ M ∧ f.bv.ownBlock ≠ some D ∧ f.bv.ownBlock ≠ some M) ∧ (∀ f ∈ fs, ∀ g ∈ fs, f.bv.ownBlock ≠ some g.blk) := by
  obtain ⟨es, clock, hM, _⟩ := h.map
  refine ⟨?_, fun f hf => ⟨?_, ?_, own_ne (h.files f hf).row h.cells (by decide), ?_⟩, fun f hf g hg => own_ne (h.files f hf).row (h.files g hg).cells (by decide)⟩
  · rintro rfl
    rw [h.cells] at hM
    simp at hM
  · rintro rfl
    have := (h.files f hf).cells
    rw [h.cells] at this
    simp at this
  · rintro rfl
    have := (h.files f hf).cells
    rw [hM] at this
    simp at this
  · intro he
    obtain ⟨_, ⟨hv, _⟩ | ⟨g, cap, cur, hv, _, hg, _⟩⟩ := (h.files f hf).row
    · rw [hv] at he
      simp [Value.ownBlock] at he
    · rw [hv] at he
      simp only [Value.ownBlock, Option.some.injEq] at he
      subst he
      rw [hM] at hg
      simp at hg

theorem key_of {s : ByteArray} (hs : s.size ≤ maxLen) : keyOf Tryd.prog 9 (.string s) = some (.string s.data.toList) := Go.WideMaps.keyOf_string_mk Tryd.underlying9 hs
theorem keyed9 : Keyed Tryd.prog 9 := string_keyed Tryd.underlying9

end Go.Proofs.YtjbhdidjkdlceaaDoor
