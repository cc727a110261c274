/- most, New, Held, Junk, Over, Broken, Reset, same, great by their contracts. -/
import Derived.Test.YtcmpcpemmmobeaaFeed
import Derived.Laws.BytesArg
namespace Go.Proofs.Ytcmpcpemmmobeaa
set_option linter.unusedVariables false
open Go.RowKit

def mostOf (n : Int) : Nat := 1 + ((n % 18446744073709551616) % 200).toNat
theorem mostOf_room (n : Int) : 1 ≤ mostOf n ∧ mostOf n ≤ 200 := by unfold mostOf; omega

theorem most_eq (n : Int) : wrap64 (1 + wrap64 ((IntKind.u64.wrap n).tmod 200)) = mostOf n := by
  have h : IntKind.u64.wrap n = n % 18446744073709551616 := by simp [IntKind.wrap, IntKind.bits, IntKind.signed]
  rw [h, Int.tmod_eq_emod_of_nonneg (by omega)]
  unfold wrap64 mostOf
  omega

theorem most_any (n : Int) (w : World) : Calls Try.prog 8 #[.int .i64 n] w fun e w' => e = .returned (.int .i64 (mostOf n)) ∧ w' = w := by
  go_enter Try.func8, Try.ntmps8
  go_wp2
  go_ret
  simp [most_eq]

theorem new_any (m : Nat) (h1 : 1 ≤ m) (h2 : m ≤ 200) (w : World) : Calls Try.prog 7 #[.int .i64 m] w fun e w' => e = .returned (.tuple #[.pointer (some ⟨w.heap.size, 0, none⟩), .int .i64 0]) ∧ Below w.heap.size w w' ∧ DSt w' w.heap.size m 0 0 (.slice none 0 0) (.slice none 0 0) St.init := by
  go_enter Try.func7, Try.ntmps7
  go_wp2_with fail
  refine (outside_any w.heap.size _ _ _ _ _ _ _ _ _ (w.alloc (.cells #[.int .i64 m, .nilFunc, .bool false, .bool false, .slice none 0 0, .slice none 0 0, .int .i64 0, .int .i64 0, .int .i64 0] 42)) (heap_alloc_new _ _)).mono ?_
  rintro en w' ⟨rfl, ho, hd⟩
  have HO := Lib.hid ho
  have HD := Lib.hid hd
  clear ho hd
  go_wp2
  go_ret2
  have M : Mod (fun t => t = w.heap.size) w w' := (Mod.of_below ((Below.refl _ w).alloc (Nat.le_refl _) _)).trans (Mod.only HO.out rfl)
  refine ⟨by simp, M.below (fun k hk => by omega) (Nat.le_refl _), HD.out, World.ownsRow_nil _ _ _ _, fun _ => rfl, Nat.zero_le _, found_nil _ _ _, Nat.zero_le _⟩

set_option maxHeartbeats 400000 in
theorem held_any (D most lo nb : Nat) (nv fv : Value) (s : St) (hn : s.now.length ≤ 100000) (w : World) (h : DSt w D most lo nb nv fv s) : Calls Try.prog 12 #[.pointer (some ⟨D, 0, none⟩)] w fun e w' => e = .returned (.int .i64 s.held) ∧ w' = w := by
  obtain ⟨na, nc, rfl⟩ := slice_form h.row
  obtain ⟨c0, c1, c2, c3, c4, c5, c6, c7, c8, hfz⟩ := dcell h.cells
  clear h hfz c0 c1 c5 c6 c7 c8
  cases hin : s.inn with
  | false =>
    rw [hin] at c2
    have HIN := Lib.hid hin
    clear hin
    go_enter Try.func12, Try.ntmps12
    go_wp2
    go_ret
    simp [St.held, HIN.out]
  | true =>
    rw [hin] at c2
    have HIN := Lib.hid hin
    clear hin
    cases hfin : s.fin with
    | false =>
      rw [hfin] at c3
      have HFIN := Lib.hid hfin
      clear hfin
      go_enter Try.func12, Try.ntmps12
      go_wp2
      go_ret
      simp [St.held, HIN.out, HFIN.out]
    | true =>
      rw [hfin] at c3
      have HFIN := Lib.hid hfin
      clear hfin
      go_enter Try.func12, Try.ntmps12
      go_wp2
      go_ret
      simp [St.held, HIN.out, HFIN.out, Int.add_assoc]

theorem junk_any (D most lo nb : Nat) (nv fv : Value) (s : St) (w : World) (h : DSt w D most lo nb nv fv s) : Calls Try.prog 13 #[.pointer (some ⟨D, 0, none⟩)] w fun e w' => e = .returned (.int .i64 s.junk) ∧ w' = w := by
  obtain ⟨c0, c1, c2, c3, c4, c5, c6, c7, c8, hfz⟩ := dcell h.cells
  clear h hfz c0 c1 c2 c3 c4 c5 c7 c8
  go_enter Try.func13, Try.ntmps13
  go_wp2
  go_ret
  simp
theorem over_any (D most lo nb : Nat) (nv fv : Value) (s : St) (w : World) (h : DSt w D most lo nb nv fv s) : Calls Try.prog 14 #[.pointer (some ⟨D, 0, none⟩)] w fun e w' => e = .returned (.int .i64 s.over) ∧ w' = w := by
  obtain ⟨c0, c1, c2, c3, c4, c5, c6, c7, c8, hfz⟩ := dcell h.cells
  clear h hfz c0 c1 c2 c3 c4 c5 c6 c8
  go_enter Try.func14, Try.ntmps14
  go_wp2
  go_ret
  simp
theorem broken_any (D most lo nb : Nat) (nv fv : Value) (s : St) (w : World) (h : DSt w D most lo nb nv fv s) : Calls Try.prog 15 #[.pointer (some ⟨D, 0, none⟩)] w fun e w' => e = .returned (.int .i64 s.broken) ∧ w' = w := by
  obtain ⟨c0, c1, c2, c3, c4, c5, c6, c7, c8, hfz⟩ := dcell h.cells
  clear h hfz c0 c1 c2 c3 c4 c5 c6 c7
  go_enter Try.func15, Try.ntmps15
  go_wp2
  go_ret
  simp

theorem reset_any (D most lo nb : Nat) (nv fv : Value) (s : St) (w : World) (h : DSt w D most lo nb nv fv s) : Calls Try.prog 16 #[.pointer (some ⟨D, 0, none⟩)] w fun e w' => e = .returned (.tuple #[]) ∧ Told D most lo nv fv s.out w w' := by
  have HR := Lib.hid (outside_any D _ _ _ _ _ _ _ _ _ w h.cells)
  have HS := Lib.hid h
  clear h
  go_enter Try.func16, Try.ntmps16
  go_wp2_with fail
  refine HR.out.mono ?_
  rintro en w' ⟨rfl, ho, hd⟩
  have HO := Lib.hid ho
  have HD := Lib.hid hd
  clear ho hd
  go_wp2
  go_end0
  exact ⟨rfl, only_told HS.out HO.out rfl rfl (by simpa [St.out] using HD.out)⟩

/-- Rows of bytes, as they lie at an address. -/
structure RowsAt (w : World) (a : Option Addr) (xs : List (List UInt8)) : Prop where
  cells : ∀ (i : Nat) (x : List UInt8), xs[i]? = some x → ∃ b off ra rc, a = some ⟨b, off, none⟩ ∧ w.cell? ⟨b, off + i, none⟩ = some (.slice ra x.length rc) ∧ BytesAt w ra x

def strOf (x : List UInt8) : ByteArray := (x.map fun c => (c.toNat : Int)).foldl (fun r n => r.push (UInt8.ofNat n.toNat)) ByteArray.empty

theorem conv_of {w : World} {a : Option Addr} {x : List UInt8} (h : BytesAt w a x) (c : Nat) : (convert 30 9 (.slice a x.length c)).run Try.prog w = .ok (.string (strOf x)) w := by
  cases a with
  | none =>
    cases x with
    | nil => exact run_convert_bytes_nil w 30 5 Try.underlying30 Try.underlying5 _ _ 9 Try.underlying9
    | cons c0 cs =>
      obtain ⟨b, off, he, _⟩ := h.cells 0 c0 rfl
      cases he
  | some ad =>
    rw [run_convert_bytes_string w 30 9 5 _ _ _ Try.underlying30 Try.underlying5 Try.underlying9]
    refine run_bytesToString w ad x.length c (x.map fun c => (c.toNat : Int)) ?_
    have := run_loadCells_list (P := Try.prog) w ad (x.map bv) (fun j v hj => by
      rw [List.getElem?_map] at hj
      cases hx : x[j]? with
      | none => simp [hx] at hj
      | some y =>
        obtain ⟨b, off, he, hc⟩ := h.cells j y hx
        cases he
        rw [Addr.add_lit, hc]
        simpa [hx] using hj)
    simpa [Function.comp_def] using this

set_option maxHeartbeats 800000 in
/-- same, of rows that are the same. -/
theorem same_any (xs : List (List UInt8)) (n : Nat) (hn : xs.length = n) (hn0 : n ≤ 100000000) (a1 a2 : Option Addr) (c1 c2 : Nat) (w : World) (h1 : RowsAt w a1 xs) (h2 : RowsAt w a2 xs) :
    Calls Try.prog 11 #[.slice a1 n c1, .slice a2 n c2] w fun e w' => e = .returned (.bool true) ∧ ∃ m, w' = w.drewN m := by
  have H1 := Lib.hid h1
  have H2 := Lib.hid h2
  have HN := Lib.hid hn
  clear h1 h2 hn
  go_enter Try.func11, Try.ntmps11
  go_wp2
  go_loopw [13] (fun i wr => ∃ j : Nat, j ≤ n ∧ i = .int .i64 j ∧ ∃ m, wr = w.drewN m) (fun i _ => n - (intOf i).toNat)
  case atStart => exact ⟨0, Nat.zero_le _, rfl, 0, rfl⟩
  case round =>
    obtain ⟨j, hj, rfl, m, rfl⟩ := hrel
    by_cases hlt : j < n
    · obtain ⟨x, hx⟩ : ∃ x, xs[j]? = some x := ⟨xs[j]'(by rw [HN.out]; exact hlt), List.getElem?_eq_getElem _⟩
      obtain ⟨b1, o1, ra1, rc1, rfl, k1, B1⟩ := H1.out.cells j x hx
      obtain ⟨b2, o2, ra2, rc2, rfl, k2, B2⟩ := H2.out.cells j x hx
      have v1 := fun m => conv_of (w := w.drewN m) (a := ra1) (x := x) ⟨B1.cells⟩ rc1
      have v2 := fun m => conv_of (w := w.drewN m) (a := ra2) (x := x) ⟨B2.cells⟩ rc2
      have g0 : (0 : Int) ≤ j := by omega
      have g1 : (j : Int) < n := by omega
      clear hx B1 B2
      go_wp2
      go_quiet (fail)
      go_wp2
      go_roundw
      case rel => exact ⟨j + 1, by omega, by go_num, _, rfl⟩
      case measure => simp [intOf]; omega
    · have : j = n := by omega
      subst this
      go_wp2
      go_ret
      exact ⟨rfl, m, rfl⟩

/-- What great tells. -/
structure GreatTold (xs : List (List UInt8)) (n : Nat) (w : World) (e : Ending) (w' : World) : Prop where
  same : w' = w
  told : ∃ g : Bool, e = .returned (.bool g) ∧ (g = false → n ≤ 100 ∧ (xs.map List.length).sum ≤ 3000)

set_option maxHeartbeats 800000 in
/-- great: where it says no the pieces are few. -/
theorem great_any (xs : List (List UInt8)) (n : Nat) (hn : xs.length = n) (hn0 : n ≤ 140737488355328) (hx : ∀ x ∈ xs, x.length ≤ 140737488355328) (a : Option Addr) (c : Nat) (w : World) (h : RowsAt w a xs) :
    Calls Try.prog 6 #[.slice a n c] w (GreatTold xs n w) := by
  have H := Lib.hid h
  have HN := Lib.hid hn
  have HX := Lib.hid hx
  clear h hn hx
  go_enter Try.func6, Try.ntmps6
  go_wp2
  go_loopw [3, 8] (fun t i wr => ∃ j : Nat, ∃ z : Int, j ≤ n ∧ i = .int .i64 j ∧ t = .int .i64 z ∧ (j ≤ 100 → z = ((xs.take j).map List.length).sum ∧ ((xs.take j).map List.length).sum ≤ j * 140737488355328) ∧ wr = w) (fun _ i _ => n - (intOf i).toNat)
  case atStart => exact ⟨0, 0, Nat.zero_le _, rfl, rfl, fun _ => ⟨by simp, by simp⟩, rfl⟩
  case round =>
    obtain ⟨j, z, hj, rfl, rfl, hz, rfl⟩ := hrel
    have HZ := Lib.hid hz
    clear hz
    by_cases hlt : j < n
    · obtain ⟨x, hx⟩ : ∃ x, xs[j]? = some x := ⟨xs[j]'(by rw [HN.out]; exact hlt), List.getElem?_eq_getElem _⟩
      obtain ⟨b1, o1, ra1, rc1, rfl, k1, _⟩ := H.out.cells j x hx
      have hxl := HX.out x (List.mem_of_getElem? hx)
      have htake : xs.take (j + 1) = xs.take j ++ [x] := by rw [List.take_add_one, hx]; rfl
      have HTK := Lib.hid htake
      clear hx htake
      go_wp2
      go_roundw
      case rel =>
        refine ⟨j + 1, wrap64 (z + x.length), by omega, by go_num, ?_, fun h100 => ?_, trivial⟩
        · rfl
        · obtain ⟨h1, h2⟩ := HZ.out (by omega)
          rw [HTK.out]
          simp only [List.map_append, List.map_cons, List.map_nil, List.sum_append, List.sum_cons, List.sum_nil]
          generalize ((xs.take j).map List.length).sum = y at *
          constructor
          · rw [h1]
            unfold wrap64
            omega
          · omega
      case measure => simp [intOf]; omega
    · have : j = n := by omega
      subst this
      have hall : xs.take j = xs := List.take_of_length_le (by rw [HN.out]; exact Nat.le_refl _)
      have HALL := Lib.hid hall
      clear hall
      by_cases h100 : j ≤ 100
      · obtain ⟨h1, h2⟩ := HZ.out h100
        rw [HALL.out] at h1 h2
        have H1 := Lib.hid h1
        clear h1
        go_wp2
        all_goals go_ret
        all_goals refine ⟨rfl, _, rfl, fun hg => ?_⟩
        · simp at hg
          have := H1.out
          omega
      · have hd : decide ((100 : Int) < j) = true := decide_eq_true (by omega)
        go_wp2
        all_goals go_ret
        all_goals refine ⟨rfl, _, rfl, fun hg => ?_⟩
        all_goals simp at hg

end Go.Proofs.Ytcmpcpemmmobeaa
