/- The reference: the document's disk as it lies; begin, find, Used, Name. -/
import Derived.Test.YtjbhdidjkdlceaaDoorRun
import Derived.Maps.AppendAt

/- The document's disk (the reference) as it lies. F: the blocks that are the reference's or not yet made. -/
namespace Go.Proofs.YtjbhdidjkdlceaaDoor
open Go.RowKit Go.Maps
set_option linter.unusedVariables false

/-- The reference in plain words. -/
structure RS where
  L : List VF
  size : Int
  count : Int
  armed : Int
  keeping : Int
  failing : Int

/-- A file and where its bytes lie. -/
structure RB where
  v : VF
  bv : Value

def RB.cells (f : RB) : List Value := [.string (strB f.v.name), f.bv, .int .i64 f.v.safe]
def rcells (fs : List RB) : List Value := fs.flatMap RB.cells
def nums (lv : Value) (s : RS) : Array Value := #[lv, .int .i64 s.size, .int .i64 s.count, .int .i64 s.armed, .int .i64 s.keeping, .int .i64 s.failing]

theorem rcells_length (fs : List RB) : (rcells fs).length = fs.length * 3 := by
  induction fs with
  | nil => rfl
  | cons f fs ih =>
    show (f.cells ++ rcells fs).length = _
    rw [List.length_append, ih, List.length_cons]
    show 3 + _ = _
    omega

theorem rcells_at (fs : List RB) (j : Nat) (f : RB) (hf : fs[j]? = some f) : (rcells fs)[j * 3]? = some (.string (strB f.v.name)) ∧ (rcells fs)[j * 3 + 1]? = some f.bv ∧ (rcells fs)[j * 3 + 2]? = some (.int .i64 f.v.safe) := by
  induction fs generalizing j with
  | nil => simp at hf
  | cons g fs ih =>
    have e : rcells (g :: fs) = g.cells ++ rcells fs := rfl
    have h3 : g.cells.length = 3 := rfl
    rw [e]
    cases j with
    | zero =>
      simp at hf
      subst hf
      exact ⟨rfl, rfl, rfl⟩
    | succ j =>
      simp at hf
      obtain ⟨h1, h2, h4⟩ := ih j hf
      refine ⟨?_, ?_, ?_⟩
      · rw [List.getElem?_append_right (by omega), h3]
        have : (j + 1) * 3 - 3 = j * 3 := by omega
        rw [this]
        exact h1
      · rw [List.getElem?_append_right (by omega), h3]
        have : (j + 1) * 3 + 1 - 3 = j * 3 + 1 := by omega
        rw [this]
        exact h2
      · rw [List.getElem?_append_right (by omega), h3]
        have : (j + 1) * 3 + 2 - 3 = j * 3 + 2 := by omega
        rw [this]
        exact h4

theorem rcells_set (fs : List RB) (j : Nat) (f g : RB) (hf : fs[j]? = some f) : rcells (fs.set j g) = (((rcells fs).set (j * 3) (.string (strB g.v.name))).set (j * 3 + 1) g.bv).set (j * 3 + 2) (.int .i64 g.v.safe) := by
  induction fs generalizing j with
  | nil => simp at hf
  | cons x fs ih =>
    have h3 : x.cells.length = 3 := rfl
    cases j with
    | zero =>
      simp at hf
      subst hf
      rfl
    | succ j =>
      simp at hf
      rw [List.set_cons_succ]
      show x.cells ++ rcells (fs.set j g) = _
      rw [ih j hf]
      show _ = (((x.cells ++ rcells fs).set _ _).set _ _).set _ _
      rw [List.set_append_right _ _ (by omega), List.set_append_right _ _ (by omega), List.set_append_right _ _ (by omega), h3]
      have e1 : (j + 1) * 3 - 3 = j * 3 := by omega
      have e2 : (j + 1) * 3 + 1 - 3 = j * 3 + 1 := by omega
      have e4 : (j + 1) * 3 + 2 - 3 = j * 3 + 2 := by omega
      rw [e1, e2, e4]

/-- The reference as it lies. -/
structure RAt (F : Nat → Prop) (R : Nat) (fs : List RB) (lv : Value) (s : RS) (w : World) : Prop where
  box : w.heap[R]? = some (.cells (nums lv s) 33 (0, 0))
  row : w.ownsRow 0 78 3 lv fs.length (rcells fs)
  files : ∀ f ∈ fs, w.ownsRow 0 5 1 f.bv f.v.b.length (f.v.b.map bv)
  footR : F R
  footL : ∀ k, lv.ownBlock = some k → F k
  footB : ∀ f ∈ fs, ∀ k, f.bv.ownBlock = some k → F k

/-- A disk of the reference that reads as s. -/
structure Ref (F : Nat → Prop) (R : Nat) (s : RS) (w : World) : Prop where
  ex : ∃ fs lv, fs.map (·.v) = s.L ∧ RAt F R fs lv s w

/-- What a call leaves: only blocks of F have turned. -/
structure Led (F : Nat → Prop) (R : Nat) (s : RS) (w w' : World) : Prop where
  ref : Ref F R s w'
  mod : Mod F w w'

theorem RAt.keep {S F : Nat → Prop} {R : Nat} {fs : List RB} {lv : Value} {s : RS} {w w' : World} (h : RAt F R fs lv s w) (m : Mod S w w') (hS : ∀ k, F k → k < w.heap.size → ¬ S k) : RAt F R fs lv s w' := by
  have hR : R < w.heap.size := lt_of_block h.box
  exact ⟨m.keep h.box (hS R h.footR hR), m.row h.row (fun k hk => hS k (h.footL k hk) (h.row.lt k hk).2), fun f hf => m.row (h.files f hf) (fun k hk => hS k (h.footB f hf k hk) ((h.files f hf).lt k hk).2), h.footR, h.footL, h.footB⟩
theorem RAt.below {F : Nat → Prop} {R : Nat} {fs : List RB} {lv : Value} {s : RS} {w w' : World} (h : RAt F R fs lv s w) (m : Below w.heap.size w w') : RAt F R fs lv s w' :=
  h.keep (Mod.of_below (S := fun _ => False) m) (fun _ _ _ => id)
theorem RAt.mono {F F' : Nat → Prop} {R : Nat} {fs : List RB} {lv : Value} {s : RS} {w : World} (h : RAt F R fs lv s w) (hF : ∀ k, F k → k < w.heap.size → F' k) : RAt F' R fs lv s w :=
  ⟨h.box, h.row, h.files, hF R h.footR (lt_of_block h.box), fun k hk => hF k (h.footL k hk) (h.row.lt k hk).2, fun f hf k hk => hF k (h.footB f hf k hk) ((h.files f hf).lt k hk).2⟩
theorem Ref.keep {S F : Nat → Prop} {R : Nat} {s : RS} {w w' : World} (h : Ref F R s w) (m : Mod S w w') (hS : ∀ k, F k → k < w.heap.size → ¬ S k) : Ref F R s w' := by
  obtain ⟨fs, lv, h1, h2⟩ := h.ex
  exact ⟨fs, lv, h1, h2.keep m hS⟩
theorem Ref.below {F : Nat → Prop} {R : Nat} {s : RS} {w w' : World} (h : Ref F R s w) (m : Below w.heap.size w w') : Ref F R s w' :=
  h.keep (Mod.of_below (S := fun _ => False) m) (fun _ _ _ => id)
theorem Ref.mono {F F' : Nat → Prop} {R : Nat} {s : RS} {w : World} (h : Ref F R s w) (hF : ∀ k, F k → k < w.heap.size → F' k) : Ref F' R s w := by
  obtain ⟨fs, lv, h1, h2⟩ := h.ex
  exact ⟨fs, lv, h1, h2.mono hF⟩

/-- Only the reference's own six cells have turned. -/
theorem RAt.turn {F : Nat → Prop} {R : Nat} {fs : List RB} {lv : Value} {s s' : RS} {w w' : World} (h : RAt F R fs lv s w) (m : Mod (fun t => t = R) w w') (hc : w'.heap[R]? = some (.cells (nums lv s') 33 (0, 0))) : RAt F R fs lv s' w' := by
  refine ⟨hc, m.row h.row (fun k hk e => ?_), fun f hf => m.row (h.files f hf) (fun k hk e => own_ne (h.files f hf) h.box (by decide) (e ▸ hk)), h.footR, h.footL, h.footB⟩
  subst e
  rcases h.row.2 with ⟨e1, _⟩ | ⟨g, cap, cur, e1, _, hg, _⟩
  · rw [e1] at hk
    cases hk
  · rw [e1] at hk
    simp [Value.ownBlock] at hk
    subst hk
    rw [h.box] at hg
    simp at hg

theorem rcell {w : World} {R : Nat} {lv : Value} {s : RS} (h : w.heap[R]? = some (.cells (nums lv s) 33 (0, 0))) :
    w.cell? ⟨R, 0, none⟩ = some lv ∧ w.cell? ⟨R, 1, none⟩ = some (.int .i64 s.size) ∧ w.cell? ⟨R, 2, none⟩ = some (.int .i64 s.count) ∧ w.cell? ⟨R, 3, none⟩ = some (.int .i64 s.armed) ∧
    w.cell? ⟨R, 4, none⟩ = some (.int .i64 s.keeping) ∧ w.cell? ⟨R, 5, none⟩ = some (.int .i64 s.failing) ∧ ∀ i, w.frozen? ⟨R, i, none⟩ = false := by
  refine ⟨?_, ?_, ?_, ?_, ?_, ?_, ?_⟩ <;> simp [World.cell?, World.frozen?, h, nums]

/-- The list's slice, where there is a file; a file's three cells. -/
theorem RAt.form {F : Nat → Prop} {R : Nat} {fs : List RB} {lv : Value} {s : RS} {w : World} (h : RAt F R fs lv s w) {j : Nat} {f : RB} (hf : fs[j]? = some f) : ∃ g c, lv = .slice (some ⟨g, 0, none⟩) fs.length c ∧ fs.length ≤ c ∧ F g ∧ g ≠ R ∧
    w.cell? ⟨g, j * 3, none⟩ = some (.string (strB f.v.name)) ∧ w.cell? ⟨g, j * 3 + 1, none⟩ = some f.bv ∧ w.cell? ⟨g, j * 3 + 2, none⟩ = some (.int .i64 f.v.safe) ∧ ∀ i, w.frozen? ⟨g, i, none⟩ = false := by
  have hj : j < fs.length := (List.getElem?_eq_some_iff.1 hf).1
  rcases h.row.2 with ⟨_, e1⟩ | ⟨g, cap, cur, e1, _, hg, e2, _⟩
  · omega
  · have hr := h.row
    rw [e1] at hr
    obtain ⟨c1, c2, c3⟩ := rcells_at fs j f hf
    refine ⟨g, cap, e1, e2, h.footL g (by rw [e1]; rfl), fun e => ?_, ?_, ?_, ?_, fun i => hr.frozenAt i⟩
    · subst e
      rw [h.box] at hg
      simp at hg
    · rw [hr.cellAt _ (by omega)]
      exact c1
    · rw [hr.cellAt _ (by omega)]
      exact c2
    · rw [hr.cellAt _ (by omega)]
      exact c3

theorem RAt.lv_form {F : Nat → Prop} {R : Nat} {fs : List RB} {lv : Value} {s : RS} {w : World} (h : RAt F R fs lv s w) : ∃ a c, lv = .slice a fs.length c := slice_form h.row

end Go.Proofs.YtjbhdidjkdlceaaDoor

/- The reference: begin, find, Used, Name by their contracts. -/
namespace Go.Proofs.YtjbhdidjkdlceaaDoor
open Go.RowKit Go.Maps
set_option linter.unusedVariables false

/-- A change begins. -/
def RS.beg (s : RS) : RS := { s with count := s.count + 1, armed := if s.armed = 0 then 0 else s.armed - 1 }

/-- What is asked of the numbers. -/
structure Fine (s : RS) : Prop where
  size : 0 ≤ s.size ∧ s.size ≤ 1073741824
  count : 0 ≤ s.count ∧ s.count ≤ 1000000
  armed : 0 ≤ s.armed ∧ s.armed ≤ 9223372036854775807
  failing : 0 ≤ s.failing ∧ s.failing ≤ 9223372036854775807
  num : s.L.length ≤ 100000
  tot : totV s.L ≤ 100000

set_option maxHeartbeats 400000 in
theorem rbegin_law {F : Nat → Prop} {R : Nat} {s : RS} {w : World} (h : Ref F R s w) (hs : Fine s) :
    Calls Tryd.prog 53 #[.pointer (some ⟨R, 0, none⟩)] w fun e w' => e = .returned (.bool (s.armed == 1)) ∧ Led F R s.beg w w' := by
  obtain ⟨fs, lv, hv, hr⟩ := h.ex
  obtain ⟨c0, c1, c2, c3, c4, c5, hf⟩ := rcell hr.box
  have f2 := hf 2
  have f3 := hf 3
  have H := Lib.hid hr
  have HV := Lib.hid hv
  obtain ⟨o1, o2⟩ := hs.count
  obtain ⟨o3, o4⟩ := hs.armed
  have HF := Lib.hid hr.footR
  clear h hf c0 c1 c4 c5 hr hv
  by_cases h0 : s.armed = 0
  · have h0' : (s.armed == 1) = false := by rw [h0]; rfl
    rw [h0] at c3
    rw [h0']
    have HH := Lib.hid h0
    clear h0 h0'
    go_enter Tryd.func53, Tryd.ntmps53
    go_wp2
    go_ret
    refine ⟨by simp, ⟨fs, lv, HV.out, H.out.turn (mod_cell R 2 w _) ?_⟩, (mod_cell R 2 w _).mono (fun t _ e => by rw [e]; exact HF.out)⟩
    have := row_setCell H.out.box 2 (.int .i64 (s.count + 1))
    rw [this]
    simp [nums, RS.beg, HH.out]
  · have h0' : (s.armed == 0) = false := by simpa using h0
    have HH := Lib.hid h0
    clear h0
    go_enter Tryd.func53, Tryd.ntmps53
    go_wp2
    go_ret
    have m1 := mod_cell R 2 w (.int .i64 (s.count + 1))
    have m2 := mod_cell R 3 (w.setCell ⟨R, 2, none⟩ (.int .i64 (s.count + 1))) (.int .i64 (s.armed - 1))
    have m := m1.trans m2
    refine ⟨?_, ⟨fs, lv, HV.out, H.out.turn m ?_⟩, m.mono (fun t _ e => by rw [e]; exact HF.out)⟩
    · have e : (s.armed - 1 == 0) = (s.armed == 1) := by rw [Bool.eq_iff_iff, beq_iff_eq, beq_iff_eq]; omega
      simp [e]
    · have := row_setCell (row_setCell H.out.box 2 (.int .i64 (s.count + 1))) 3 (.int .i64 (s.armed - 1))
      rw [this]
      simp [nums, RS.beg, HH.out]

def foundAt (n len : Nat) : Int := if n < len then n else -1

/-- Where a name's file stands: the first; the list's length: there is none. -/
structure First (L : List VF) (x : List UInt8) (n : Nat) : Prop where
  le : n ≤ L.length
  ahead : ∀ (j : Nat) (g : VF), j < n → L[j]? = some g → g.name ≠ x
  at' : ∀ (g : VF), L[n]? = some g → g.name = x

theorem strB_inj {x y : List UInt8} (h : strB x = strB y) : x = y := by
  have := congrArg ByteArray.toList h
  rwa [strB_list, strB_list] at this

set_option maxHeartbeats 800000 in
theorem rfind_law {F : Nat → Prop} {R : Nat} {s : RS} {w : World} (h : Ref F R s w) (hs : Fine s) (x : List UInt8) (n : Nat) (hn : First s.L x n) :
    Calls Tryd.prog 54 #[.pointer (some ⟨R, 0, none⟩), .string (strB x)] w fun e w' => e = .returned (.int .i64 (foundAt n s.L.length)) ∧ w' = w := by
  obtain ⟨fs, lv, hv, hr⟩ := h.ex
  obtain ⟨c0, c1, c2, c3, c4, c5, hf⟩ := rcell hr.box
  have hlen : fs.length = s.L.length := by rw [← hv, List.length_map]
  obtain ⟨a, c, hlv⟩ := hr.lv_form
  have hnum := hs.num
  have H := Lib.hid hr
  have HV := Lib.hid hv
  have HN := Lib.hid hn
  have HL := Lib.hid hlen
  have HLV := Lib.hid hlv
  rw [hlv] at c0
  clear h hf c1 c2 c3 c4 c5 hr hv hs hn hlv
  have hfn : fs.length ≤ 100000 := by omega
  clear hlen
  go_enter Tryd.func54, Tryd.ntmps54
  go_wp2_with fail
  go_loopw [5] (fun i wr => ∃ j : Nat, j ≤ n ∧ i = .int .i64 j ∧ wr = w) (fun i _ => fs.length - (intOf i).toNat)
  case atStart => exact ⟨0, Nat.zero_le _, rfl, rfl⟩
  case round =>
    obtain ⟨j, hj, rfl, rfl⟩ := hrel
    by_cases hlt : j < fs.length
    · obtain ⟨f, hf⟩ : ∃ f, fs[j]? = some f := ⟨fs[j], List.getElem?_eq_getElem hlt⟩
      have hfv : s.L[j]? = some f.v := by rw [← HV.out, List.getElem?_map, hf]; rfl
      obtain ⟨g, cc, hlv2, _, _, _, k0, _, _, _⟩ := H.out.form hf
      have := HLV.out.symm.trans hlv2
      simp only [Value.slice.injEq, true_and] at this
      obtain ⟨rfl, rfl⟩ := this
      by_cases hx : f.v.name = x
      · rw [hx] at k0
        have hjn : j = n := by
          rcases Nat.lt_or_ge j n with h1 | h1
          · exact absurd hx (HN.out.ahead j _ h1 hfv)
          · omega
        have hfo : foundAt n s.L.length = j := by
          unfold foundAt
          rw [if_pos (by rw [← HL.out]; omega), hjn]
        have hx2 : ((strB x).toList == (strB x).toList) = true := by simp
        clear hf hlv2 hx hjn
        go_wp2
        go_ret
        exact ⟨by rw [hfo]; rfl, rfl⟩
      · have hx2 : ((strB f.v.name).toList == (strB x).toList) = false := by
          rw [strB_list, strB_list, beq_eq_false_iff_ne]
          exact hx
        have hjn : j + 1 ≤ n := by
          rcases Nat.lt_or_ge j n with h1 | h1
          · exact h1
          · have : j = n := by omega
            subst this
            exact absurd (HN.out.at' _ hfv) hx
        clear hf hlv2 hx
        go_wp2
        go_roundw
        case rel => exact ⟨j + 1, hjn, by go_num, trivial⟩
        case measure => simp [intOf]; omega
    · have hfo : foundAt n s.L.length = -1 := by
        unfold foundAt
        rw [if_neg (by rw [← HL.out]; have := HN.out.le; omega)]
      go_wp2
      go_ret
      exact ⟨by rw [hfo]; rfl, rfl⟩

theorem totV_take_succ {L : List VF} {j : Nat} {f : VF} (hf : L[j]? = some f) : totV (L.take (j + 1)) = totV (L.take j) + f.b.length := by
  unfold totV
  rw [List.take_add_one, hf]
  simp
theorem totV_take_le (L : List VF) (j : Nat) : totV (L.take j) ≤ totV L := by
  unfold totV
  have h : L.map (fun f => f.b.length) = (L.take j).map (fun f => f.b.length) ++ (L.drop j).map (fun f => f.b.length) := by
    rw [← List.map_append, List.take_append_drop]
  rw [h, List.sum_append]
  exact Nat.le_add_right _ _

set_option maxHeartbeats 800000 in
theorem rused_law {F : Nat → Prop} {R : Nat} {s : RS} {w : World} (h : Ref F R s w) (hs : Fine s) :
    Calls Tryd.prog 39 #[.pointer (some ⟨R, 0, none⟩)] w fun e w' => e = .returned (.int .i64 (totV s.L : Nat)) ∧ w' = w := by
  obtain ⟨fs, lv, hv, hr⟩ := h.ex
  obtain ⟨c0, c1, c2, c3, c4, c5, hf⟩ := rcell hr.box
  have hlen : fs.length = s.L.length := by rw [← hv, List.length_map]
  obtain ⟨a, c, hlv⟩ := hr.lv_form
  have hnum := hs.num
  have htot := hs.tot
  have H := Lib.hid hr
  have HV := Lib.hid hv
  have HL := Lib.hid hlen
  have HLV := Lib.hid hlv
  rw [hlv] at c0
  clear h hf c1 c2 c3 c4 c5 hr hv hs hlv
  have hfn : fs.length ≤ 100000 := by omega
  clear hlen
  go_enter Tryd.func39, Tryd.ntmps39
  go_wp2_with fail
  go_loopw [3, 4] (fun t i wr => ∃ j : Nat, j ≤ fs.length ∧ i = .int .i64 j ∧ t = .int .i64 (totV (s.L.take j) : Nat) ∧ wr = w) (fun _ i _ => fs.length - (intOf i).toNat)
  case atStart => exact ⟨0, Nat.zero_le _, rfl, rfl, rfl⟩
  case round =>
    obtain ⟨j, hj, rfl, rfl, rfl⟩ := hrel
    by_cases hlt : j < fs.length
    · obtain ⟨f, hf⟩ : ∃ f, fs[j]? = some f := ⟨fs[j], List.getElem?_eq_getElem hlt⟩
      have hfv : s.L[j]? = some f.v := by rw [← HV.out, List.getElem?_map, hf]; rfl
      obtain ⟨g, cc, hlv2, _, _, _, _, k1, _, _⟩ := H.out.form hf
      have := HLV.out.symm.trans hlv2
      simp only [Value.slice.injEq, true_and] at this
      obtain ⟨rfl, rfl⟩ := this
      obtain ⟨ba, bc, hbv⟩ := slice_form (H.out.files f (List.mem_of_getElem? hf))
      rw [hbv] at k1
      have t1 := totV_take_succ hfv
      have t2 := totV_take_le s.L (j + 1)
      have T1 := Lib.hid t1
      have hb1 : totV (s.L.take j) + f.v.b.length ≤ 100000 := by omega
      clear hf hlv2 hbv hfv t1 t2
      go_wp2
      go_roundw
      case rel => exact ⟨j + 1, hlt, by go_num, by rw [T1.out]; go_num, trivial⟩
      case measure => simp [intOf]; omega
    · have : j = fs.length := by omega
      have ht : s.L.take j = s.L := List.take_of_length_le (by rw [← HL.out]; omega)
      rw [ht]
      go_wp2
      go_ret
      exact ⟨rfl, rfl⟩

end Go.Proofs.YtjbhdidjkdlceaaDoor

/- The reference: Name. -/
namespace Go.Proofs.YtjbhdidjkdlceaaDoor
open Go.RowKit Go.Maps
set_option linter.unusedVariables false

def okSign (c : UInt8) : Bool := (decide (97 ≤ c.toNat) && decide (c.toNat ≤ 122)) || (decide (48 ≤ c.toNat) && decide (c.toNat ≤ 57)) || c.toNat == 46
theorem okSign_eq (c : UInt8) : signs.contains c = okSign c := by
  have : ∀ n : Fin 256, signs.contains (UInt8.ofNat n.val) = okSign (UInt8.ofNat n.val) := by decide +kernel
  have h := this ⟨c.toNat, c.toNat_lt⟩
  simpa using h

theorem okSign_iff (c : UInt8) : okSign c = true ↔ (97 ≤ (c.toNat : Int) ∧ (c.toNat : Int) ≤ 122) ∨ (48 ≤ (c.toNat : Int) ∧ (c.toNat : Int) ≤ 57) ∨ (c.toNat : Int) = 46 := by
  unfold okSign
  simp only [Bool.or_eq_true, Bool.and_eq_true, decide_eq_true_eq, beq_iff_eq]
  omega

theorem isName_of (x : List UInt8) (h1 : 1 ≤ x.length) (h2 : x.length ≤ 32) : isName x = x.all okSign := by
  unfold isName
  have : x.isEmpty = false := by
    cases x with
    | nil => simp at h1
    | cons => rfl
  rw [this]
  simp only [Bool.not_false, Bool.true_and, decide_eq_true h2]
  congr 1
  funext c
  exact okSign_eq c

set_option maxHeartbeats 1600000 in
theorem rname_law (x : List UInt8) (hx : x.length ≤ 9223372036854775807) (w : World) : Calls Tryd.prog 52 #[.string (strB x)] w fun e w' => e = .returned (.bool (isName x)) ∧ w' = w := by
  have hsz : (strB x).size = x.length := by unfold strB; show x.toArray.size = _; simp
  rcases Nat.lt_or_ge x.length 1 with h1 | h1
  · have e : x = [] := List.eq_nil_of_length_eq_zero (by omega)
    subst e
    go_enter Tryd.func52, Tryd.ntmps52
    go_wp2
    go_ret
    exact ⟨rfl, rfl⟩
  · rcases Nat.lt_or_ge 32 x.length with h2 | h2
    · have e : isName x = false := by
        unfold isName
        have : decide (x.length ≤ 32) = false := by simpa using h2
        rw [this]
        simp
      have t1 : ((x.length : Int) < 1) = False := eq_false (by omega)
      have t2 : ((32 : Int) < x.length) = True := eq_true (by omega)
      go_enter Tryd.func52, Tryd.ntmps52
      go_wp2
      all_goals go_ret
      all_goals exact ⟨by rw [e]; rfl, rfl⟩
    · have e := isName_of x h1 h2
      have E := Lib.hid e
      clear e
      have t1 : ((x.length : Int) < 1) = False := eq_false (by omega)
      have t2 : ((32 : Int) < x.length) = False := eq_false (by omega)
      go_enter Tryd.func52, Tryd.ntmps52
      go_wp2_with fail
      go_loopw [3] (fun i wr => ∃ j : Nat, j ≤ x.length ∧ i = .int .i64 j ∧ (x.take j).all okSign = true ∧ wr = w) (fun i _ => x.length - (intOf i).toNat)
      case atStart => exact ⟨0, Nat.zero_le _, rfl, rfl, rfl⟩
      case round =>
        obtain ⟨j, hj, rfl, hall, rfl⟩ := hrel
        have HALL := Lib.hid hall
        clear hall
        by_cases hlt : j < x.length
        · obtain ⟨c, hc⟩ : ∃ c, x[j]? = some c := ⟨x[j], List.getElem?_eq_getElem hlt⟩
          have HC := Lib.hid hc
          have hb : (strB x).data[j]? = some c := by
            unfold strB
            simpa using hc
          clear hc
          have hcc : ∀ h, (strB x)[j]'h = c := fun h => by
            have h2 := Array.getElem?_eq_getElem (xs := (strB x).data) (i := j) h
            have h3 := hb.symm.trans h2
            exact (Option.some.inj h3).symm
          have HCC := Lib.hid hcc
          clear hb hcc
          go_wp2
          all_goals first
            | (go_roundw
               case rel =>
                 refine ⟨j + 1, hlt, by go_num, ?_, trivial⟩
                 rw [List.take_add_one, HC.out, List.all_append, HALL.out]
                 have hok : okSign c = true := by
                   rw [okSign_iff]
                   simp [HCC.out] at *
                   omega
                 simp [hok]
               case measure => simp [intOf]; omega)
            | (go_ret
               refine ⟨?_, rfl⟩
               have hok : ¬ okSign c = true := by
                 rw [okSign_iff]
                 simp [HCC.out] at *
                 omega
               have : x.all okSign = false := List.all_eq_false.2 ⟨c, List.mem_of_getElem? HC.out, hok⟩
               rw [E.out, this]
               rfl)
        · have : j = x.length := by omega
          go_wp2
          go_ret
          refine ⟨?_, rfl⟩
          have h := HALL.out
          rw [this, List.take_length] at h
          rw [E.out, h]
          rfl

end Go.Proofs.YtjbhdidjkdlceaaDoor
