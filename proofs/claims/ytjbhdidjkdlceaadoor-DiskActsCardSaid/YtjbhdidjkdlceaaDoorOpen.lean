/- The arguments opened: bytes, acts; as they lie in memory. -/
import Derived.Test.YtjbhdidjkdlceaaDoorAct
import Derived.ProofKit
import Derived.OpenShut
import Derived.SizedLaws
import Derived.Deep.Slices
import Derived.Deep.MidRow
namespace Go.Proofs.YtjbhdidjkdlceaaDoor
open Go.RowKit Go.Maps Go.ChangeShapes Go.WideShapes Go.ChangeAt
set_option linter.unusedVariables false

theorem cells5 : Tryd.prog.cellsOf 5 = 1 := by kernel_rfl
theorem cells34 : Tryd.prog.cellsOf 34 = 1 := by kernel_rfl
theorem cells3 : Tryd.prog.cellsOf 3 = 1 := by kernel_rfl
theorem cells9 : Tryd.prog.cellsOf 9 = 1 := by kernel_rfl
theorem cells36 : Tryd.prog.cellsOf 36 = 6 := by kernel_rfl
theorem bytes5 : Tryd.prog.bytesOf 5 = 1 := by kernel_rfl
theorem bytes36 : Tryd.prog.bytesOf 36 = 80 := by kernel_rfl

theorem wf_byte {n : Int} (h : (Lit.int .u8 n).wf = true) : 0 ≤ n ∧ n ≤ 255 := by
  simp only [Lit.wf, Bool.and_eq_true, decide_eq_true_eq] at h
  have h1 : IntKind.u8.min = 0 := rfl
  have h2 : IntKind.u8.max = 255 := rfl
  omega
theorem wf_i64 {n : Int} (h : (Lit.int .i64 n).wf = true) : -9223372036854775808 ≤ n ∧ n ≤ 9223372036854775807 := by
  simp only [Lit.wf, Bool.and_eq_true, decide_eq_true_eq] at h
  have h1 : IntKind.i64.min = -9223372036854775808 := rfl
  have h2 : IntKind.i64.max = 9223372036854775807 := rfl
  omega

theorem add_spot {W : World} {a : Addr} {v : Value} (h : W.cell? (a.add 0) = some v) : ∃ b off, a = ⟨b, off, none⟩ := by
  obtain ⟨b, off, spot⟩ := a
  have e : (⟨b, off, spot⟩ : Addr).add 0 = ⟨b, off, spot⟩ := by simp [Addr.add]
  rw [e] at h
  have hs := World.cell?_spot h
  subst hs
  exact ⟨b, off, rfl⟩

theorem bytes_open {H : Type} {enc : TypeId × Value → H} {W : World} {fuel : Nat} {v : Value} {x : DataW H × List MemPlace} (h : DataW.trod enc Tryd.prog W 0 (fun _ => true) true fuel 34 [v] = some x) (hw : ∀ n ∈ x.1.weights Tryd.prog 34, n ≤ reachBytes) :
    ∃ (ra : Option Addr) (rc : Nat) (bs : List UInt8), v = .slice ra bs.length rc ∧ BytesAt W ra bs ∧ (ra = none → rc = 0) ∧ bs.length ≤ rc ∧ bs.length ≤ 140737488355328 := by
  rcases open_ints Tryd.underlying34 Tryd.underlying5 cells5 h with ⟨hc, rfl⟩ | ⟨a, len, cap, zs, hc, _, hlc, hcm, hzl, rfl, hcell, hwf⟩
  · simp only [List.cons.injEq, and_true] at hc
    exact ⟨none, 0, [], hc, ⟨fun i y hy => by simp at hy⟩, fun _ => rfl, Nat.zero_le _, Nat.zero_le _⟩
  · simp only [List.cons.injEq, and_true] at hc
    simp only [if_true] at hzl
    have hwt := hw ((lits (H := H) .u8 (zs.take len)).length * 1 + (lits (H := H) .u8 (zs.drop len)).length * 1) (by
      simp [DataW.weights, Tryd.underlying34, bytes5])
    have hbl : ((zs.take len).map (fun z => UInt8.ofNat z.toNat)).length = len := by simp; omega
    refine ⟨some a, cap, (zs.take len).map (fun z => UInt8.ofNat z.toNat), ?_, ⟨fun i y hy => ?_⟩, ?_, ?_, ?_⟩
    · rw [hbl]
      exact hc
    · rw [List.getElem?_map] at hy
      have hil : i < len := by
        rcases Nat.lt_or_ge i len with h1 | h1
        · exact h1
        · rw [List.getElem?_eq_none (by simp; omega)] at hy
          simp at hy
      rw [List.getElem?_take_of_lt hil, List.getElem?_eq_getElem (by omega)] at hy
      simp only [Option.map_some, Option.some.injEq] at hy
      obtain ⟨b, off, rfl⟩ := add_spot (hcell 0 (by omega))
      have hk := hcell i (by omega)
      rw [Addr.add_lit] at hk
      refine ⟨b, off, rfl, hk.trans ?_⟩
      have hz := wf_byte (hwf (zs[i]'(by omega)) (List.getElem_mem _))
      rw [List.getD, List.getElem?_eq_getElem (by omega), Option.getD_some, ← hy]
      generalize zs[i]'(by omega) = z at hz
      have e1 : ((UInt8.ofNat z.toNat).toNat : Int) = z := by
        rw [UInt8.toNat_ofNat']
        omega
      show some (Value.int .u8 z) = some (Value.int .u8 ((UInt8.ofNat z.toNat).toNat : Int))
      rw [e1]
    · intro he
      cases he
    · rw [hbl]
      exact hlc
    · rw [hbl]
      have : (lits (H := H) .u8 (zs.take len)).length = len := by simp [lits]; omega
      unfold reachBytes at hwt
      omega

/-- An act, as values. -/
structure AV where
  k : Int
  n : Int
  kp : Int
  A : ByteArray
  B : ByteArray
  ra : Option Addr
  bs : List UInt8
  rc : Nat

instance : Inhabited AV := ⟨⟨0, 0, 0, ByteArray.empty, ByteArray.empty, none, [], 0⟩⟩

def AV.cs (x : AV) : Array Value := cA x.k x.n x.kp x.A x.B x.ra x.bs.length x.rc
def AV.pa (x : AV) : PA := paOf x.k x.n x.kp x.A x.B x.bs

/-- What an act that came in is. -/
structure AV.Fits (x : AV) (W : World) : Prop where
  bytes : BytesAt W x.ra x.bs
  nil : x.ra = none → x.rc = 0
  cap : x.bs.length ≤ x.rc
  len : x.bs.length ≤ 140737488355328
  a : x.A.size ≤ maxLen
  b : x.B.size ≤ maxLen
  n : x.n ≤ 9223372036854775807
  kp : -9223372036854775808 ≤ x.kp ∧ x.kp ≤ 9223372036854775807

theorem AV.Fits.keep {S : Nat → Prop} {x : AV} {w w' : World} (h : x.Fits w) (m : Mod S w w') (hS : ∀ k, k < w.heap.size → ¬ S k) : x.Fits w' :=
  ⟨h.bytes.keep m (fun hne ad had => hS _ (h.bytes.old hne ad had)), h.nil, h.cap, h.len, h.a, h.b, h.n, h.kp⟩

set_option maxRecDepth 100000 in
theorem act_open {H : Type} {enc : TypeId × Value → H} {W : World} {fuel : Nat} {cs : List Value} {x : DataW H × List MemPlace} (h : DataW.trod enc Tryd.prog W 0 (fun _ => true) true fuel 36 cs = some x) (hw : ∀ n ∈ x.1.weights Tryd.prog 36, n ≤ reachBytes) :
    ∃ a : AV, cs = a.cs.toList ∧ a.Fits W := by
  obtain ⟨xs, n, _, hxd, hl, hxl, hf⟩ := DataW.trod_struct Tryd.underlying36 h
  rw [cells36] at hl
  match cs, hl with
  | [v0, v1, v2, v3, v4, v5], _ =>
    have f0 := hf 0 _ rfl
    have f1 := hf 1 _ rfl
    have f2 := hf 2 _ rfl
    have f3 := hf 3 _ rfl
    have f4 := hf 4 _ rfl
    have f5 := hf 5 _ rfl
    have c3 := cells3
    have c9 := cells9
    have c34 := cells34
    change DataW.trod _ _ _ _ _ _ n 3 (([v0, v1, v2, v3, v4, v5].drop 0).take (Tryd.prog.cellsOf 3)) = _ at f0
    change DataW.trod _ _ _ _ _ _ n 3 (([v0, v1, v2, v3, v4, v5].drop 1).take (Tryd.prog.cellsOf 3)) = _ at f1
    change DataW.trod _ _ _ _ _ _ n 3 (([v0, v1, v2, v3, v4, v5].drop 2).take (Tryd.prog.cellsOf 3)) = _ at f2
    change DataW.trod _ _ _ _ _ _ n 9 (([v0, v1, v2, v3, v4, v5].drop 3).take (Tryd.prog.cellsOf 9)) = _ at f3
    change DataW.trod _ _ _ _ _ _ n 9 (([v0, v1, v2, v3, v4, v5].drop 4).take (Tryd.prog.cellsOf 9)) = _ at f4
    change DataW.trod _ _ _ _ _ _ n 34 (([v0, v1, v2, v3, v4, v5].drop 5).take (Tryd.prog.cellsOf 34)) = _ at f5
    rw [c3] at f0 f1 f2
    rw [c9] at f3 f4
    rw [c34] at f5
    change DataW.trod _ _ _ _ _ _ n 3 [v0] = _ at f0
    change DataW.trod _ _ _ _ _ _ n 3 [v1] = _ at f1
    change DataW.trod _ _ _ _ _ _ n 3 [v2] = _ at f2
    change DataW.trod _ _ _ _ _ _ n 9 [v3] = _ at f3
    change DataW.trod _ _ _ _ _ _ n 9 [v4] = _ at f4
    change DataW.trod _ _ _ _ _ _ n 34 [v5] = _ at f5
    have hx : xs.length = 6 := hxl
    rw [List.getElem?_eq_getElem (by omega)] at f0 f1 f2 f3 f4 f5
    obtain ⟨k, e0, _, _⟩ := DataW.trod_int Tryd.underlying3 f0
    obtain ⟨m, e1, _, w1⟩ := DataW.trod_int Tryd.underlying3 f1
    obtain ⟨kp, e2, _, w2⟩ := DataW.trod_int Tryd.underlying3 f2
    obtain ⟨A, e3, _, w3⟩ := DataW.trod_string Tryd.underlying9 f3
    obtain ⟨B, e4, _, w4⟩ := DataW.trod_string Tryd.underlying9 f4
    obtain ⟨ra, rc, bs, e5, hb, hn, hc, hm⟩ := bytes_open f5 (fun k hk => hw k (by
      rw [hxd]
      simp only [DataW.weights, Tryd.underlying36]
      exact DataW.weights_mem_each (j := 5) (t := 34) rfl (by rw [List.getElem?_map, List.getElem?_eq_getElem (by omega)]; rfl) k hk))
    simp only [List.cons.injEq, and_true] at e0 e1 e2 e3 e4
    subst e0 e1 e2 e3 e4 e5
    exact ⟨⟨k, m, kp, A, B, ra, bs, rc⟩, rfl, hb, hn, hc, hm, w3, w4, (wf_i64 w1).2, wf_i64 w2⟩

/-- Acts, as they lie at an address. -/
structure ActsAt (W : World) (a : Option Addr) (xs : List AV) : Prop where
  cells : ∀ (i : Nat) (x : AV), xs[i]? = some x → ∃ b off, a = some ⟨b, off, none⟩ ∧ W.rangeAt b (off + i * 6) x.cs.toList ∧ x.Fits W

theorem ActsAt.old {W : World} {a : Option Addr} {xs : List AV} (h : ActsAt W a xs) (hne : xs ≠ []) : ∀ ad, a = some ad → ad.block < W.heap.size := by
  cases xs with
  | nil => exact absurd rfl hne
  | cons x xs =>
    obtain ⟨b, off, rfl, hr, _⟩ := h.cells 0 x rfl
    intro ad had
    simp only [Option.some.injEq] at had
    subst had
    have := hr 0 (.int .i64 x.k) rfl
    exact World.block_lt_of_cell? W _ this

theorem ActsAt.keep {S : Nat → Prop} {W W' : World} {a : Option Addr} {xs : List AV} (h : ActsAt W a xs) (m : Mod S W W') (hS : ∀ k, k < W.heap.size → ¬ S k) : ActsAt W' a xs := by
  refine ⟨fun i x hx => ?_⟩
  obtain ⟨b, off, rfl, hr, hf⟩ := h.cells i x hx
  have hb : b < W.heap.size := h.old (by rintro rfl; simp at hx) ⟨b, off, none⟩ rfl
  exact ⟨b, off, rfl, fun j v hv => (World.cell?_of_block (m.block b hb (hS b hb))).trans (hr j v hv), hf.keep m hS⟩

theorem weights_all {H : Type} {P : Program} {e : TypeId} {d : DataW H} {n : Nat} (hn : n ∈ d.weights P e) : ∀ {l : List (DataW H)}, d ∈ l → n ∈ DataW.weightsAll P e l
  | d0 :: l, hd => by
    simp only [DataW.weightsAll, List.mem_append]
    rcases List.mem_cons.1 hd with h | h
    · exact .inl (h ▸ hn)
    · exact .inr (weights_all hn h)
  | [], hd => by simp at hd

theorem acts_open {H : Type} {enc : TypeId × Value → H} {W : World} {a : Option Addr} {len cap : Nat} {d : DataW H} {p : List MemPlace} (h : DataW.Trod enc Tryd.prog W 0 (fun _ => true) true 22 (.slice a len cap) d p) (hw : ∀ n ∈ d.weights Tryd.prog 22, n ≤ reachBytes) :
    ∃ xs : List AV, xs.length = len ∧ ActsAt W a xs ∧ len ≤ 140737488355328 := by
  obtain ⟨fuel, hf⟩ := h
  rcases Deep.open_slice Tryd.underlying22 hf with ⟨hc, _⟩ | ⟨a', len', cap', m, n, D, Pl, hc, _, hlc, hcm, hm, hx, hV⟩
  · simp [Value.cells] at hc
    obtain ⟨rfl, rfl, rfl⟩ := hc
    exact ⟨[], rfl, ⟨fun i x hx => by simp at hx⟩, Nat.zero_le _⟩
  · simp [Value.cells] at hc
    obtain ⟨rfl, rfl, rfl⟩ := hc
    simp only [if_true] at hm
    simp only [Prod.mk.injEq] at hx
    obtain ⟨rfl, _⟩ := hx
    have hall : ∀ i, i < len → ∃ x : AV, (∀ j v, x.cs.toList[j]? = some v → W.cell? ((a'.add (i * 6)).add j) = some v) ∧ x.Fits W := by
      intro i hi
      obtain ⟨cs', h1, h2⟩ := hV i (by omega)
      obtain ⟨x, rfl, hfit⟩ := act_open h2 (fun k hk => hw k (by
        simp only [DataW.weights, Tryd.underlying22, List.mem_cons, List.mem_append]
        exact .inr (.inl (weights_all hk (List.mem_map.2 ⟨i, List.mem_range.2 hi, rfl⟩)))))
      rw [cells36] at h1
      refine ⟨x, fun j v hv => ?_, hfit⟩
      have hlt : j < 6 := by
        have := (List.getElem?_eq_some_iff.1 hv).1
        have h6 : x.cs.toList.length = 6 := rfl
        omega
      exact ((World.cells?_some h1).2.2 j hlt).trans hv
    obtain ⟨X, hX⟩ := Deep.choose_lt hall
    have hwt := hw _ (by
      simp only [DataW.weights, Tryd.underlying22, List.mem_cons]
      exact .inl rfl)
    rw [bytes36] at hwt
    simp at hwt
    unfold reachBytes at hwt
    refine ⟨(List.range len).map X, by simp, ⟨fun i x hx => ?_⟩, by omega⟩
    rw [List.getElem?_map] at hx
    rcases Nat.lt_or_ge i len with hi | hi
    · rw [List.getElem?_range hi] at hx
      simp only [Option.map_some, Option.some.injEq] at hx
      subst hx
      obtain ⟨h1, h2⟩ := hX i hi
      obtain ⟨h0, _⟩ := hX 0 (by omega)
      have h00 := h0 0 _ rfl
      rw [Nat.zero_mul] at h00
      obtain ⟨b, off, rfl⟩ : ∃ b off, a' = ⟨b, off, none⟩ := by
        obtain ⟨b, off, spot⟩ := a'
        have e : ((⟨b, off, spot⟩ : Addr).add 0).add 0 = ⟨b, off, spot⟩ := by simp [Addr.add]
        rw [e] at h00
        have hs := World.cell?_spot h00
        subst hs
        exact ⟨b, off, rfl⟩
      refine ⟨b, off, rfl, fun j v hv => ?_, h2⟩
      have := h1 j v hv
      rw [Addr.add_lit, Addr.add_lit] at this
      exact this
    · rw [List.getElem?_eq_none (by simpa using hi)] at hx
      simp at hx

end Go.Proofs.YtjbhdidjkdlceaaDoor
