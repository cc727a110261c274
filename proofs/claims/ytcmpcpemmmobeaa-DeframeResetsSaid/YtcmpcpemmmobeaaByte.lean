/- A byte more: take and skip by their contracts. -/
import Derived.Test.YtcmpcpemmmobeaaTake
namespace Go.Proofs.Ytcmpcpemmmobeaa
set_option linter.unusedVariables false
open Go.RowKit

theorem lit_cells (w : World) (cs : Array Value) (news : List UInt8) (h : cs.toList = news.map bv) (t : Nat) (u : Value) (hu : (news.map bv)[t]? = some u) : (w.alloc (.cells cs 5)).cell? ⟨w.heap.size, t, none⟩ = some u := by
  rw [cell_of_row _ _ _ cs 5 (0, 0) (heap_alloc_new w (.cells cs 5))]
  rw [← h] at hu
  simpa using hu

def St.lay (s : St) (most : Nat) (e : Bool) (news : List UInt8) : St :=
  if most < s.now.length + news.length then { s with over := s.over + 1 }.out else { s with fin := e, now := s.now ++ news }

/-- What lay leaves, told of the whole deframer. -/
theorem laid_told {D most lo nb : Nat} {nv fv : Value} {s : St} {w w0 w' : World} {e : Bool} {news : List UInt8} (h : DSt w D most lo nb nv fv s) (hin : s.inn = true) (hk : 0 < news.length) (M0 : Mod (fun t => t = D) w w0)
    (hL : Laid D nb most (nextIn D) (.bool true) (.bool e) nv fv (.int .i64 s.junk) s.over (.int .i64 s.broken) s.now news w0 w') :
    Told D most lo nv fv (s.lay most e news) w w' := by
  have M : Mod (fun t => t = D ∨ nv.ownBlock = some t) w w' := (M0.mono (fun k _ hk => .inl hk)).trans hL.mod
  have hfound := h.keep M
  refine ⟨M.mono (fun k _ hk => by rcases hk with hk | hk; exact .inl hk; exact .inr (.inl hk)), ?_⟩
  rcases hL.cells with ⟨hm, hc⟩ | ⟨hm, nv', hc, hrow, hnew⟩
  · rw [St.lay, if_pos hm]
    refine ⟨nb, .slice none 0 0, fv, ⟨?_, World.ownsRow_nil _ _ _ _, fun _ => rfl, Nat.le_trans h.nbw M.size, hfound, Nat.le_trans h.lob M.size⟩, ?_, fun t ht => .inl ht⟩
    · simpa [St.out] using hc
    · intro t ht
      simp [Value.ownBlock] at ht
  · rw [St.lay, if_neg (by omega)]
    refine ⟨nb, nv', fv, ⟨?_, ?_, ?_, Nat.le_trans h.nbw M.size, hfound, Nat.le_trans h.lob M.size⟩, ?_, fun t ht => .inl ht⟩
    · simpa [hin] using hc
    · simpa using hrow
    · intro he
      have : (s.now ++ news).length = 0 := by
        show (St.now { s with fin := e, now := s.now ++ news }).length = 0
        rw [he]
        rfl
      simp only [List.length_append] at this
      omega
    · intro t ht
      rcases hnew t ht with h1 | h1
      · exact .inl h1
      · have := M0.size
        exact .inr (by omega)

set_option maxHeartbeats 800000 in
/-- take: an End behind an End. -/
theorem take_end2 (D most lo nb : Nat) (nv fv : Value) (s : St) (hin : s.inn = true) (hfin : s.fin = true) (hn : s.now.length ≤ 100000) (hm : most ≤ 100000) (ho : s.over ≤ 1000000) (w : World) (h : DSt w D most lo nb nv fv s) :
    Calls Try.prog 20 #[.pointer (some ⟨D, 0, none⟩), .int .u8 28] w fun e w' => e = .returned (.tuple #[]) ∧ Told D most lo nv fv (s.lay most true [28]) w w' := by
  have hd := h.cells
  rw [hin, hfin] at hd
  simp only [if_true] at hd
  obtain ⟨c0, c1, c2, c3, c4, c5, c6, c7, c8, hfz⟩ := dcell hd
  have hDs := lt_of_block hd
  have hl := lay_any D nb most w.heap.size 1 (nextIn D) (.bool true) (.bool true) nv fv (.int .i64 s.junk) (.int .i64 s.broken) s.over ⟨by omega, by omega⟩ s.now [28] rfl (by decide) (by decide) hn hm (w.alloc (.cells #[.int .u8 28] 5))
    (by have := h.nbw; simp; omega) ((Below.heap_alloc _ _ _ hDs).trans hd) (h.row.alloc _) (lit_cells w _ _ rfl)
  have HL := Lib.hid hl
  have HS := Lib.hid h
  have HIN := Lib.hid hin
  clear h hd hfz c0 c1 c2 c4 c5 c6 c7 c8 hin hfin hl
  go_enter Try.func20, Try.ntmps20
  go_wp2_with fail
  refine HL.out.mono ?_
  rintro en w' ⟨rfl, hL⟩
  have HLD := Lib.hid hL
  clear hL
  go_wp2
  go_end0
  exact ⟨rfl, laid_told (news := [28]) HS.out HIN.out (Nat.succ_pos _) (Mod.of_below ((Below.refl _ w).alloc (Nat.le_refl _) _)) HLD.out⟩

set_option maxHeartbeats 800000 in
/-- take: an End. -/
theorem take_end1 (D most lo nb : Nat) (nv fv : Value) (s : St) (hin : s.inn = true) (hfin : s.fin = false) (w : World) (h : DSt w D most lo nb nv fv s) :
    Calls Try.prog 20 #[.pointer (some ⟨D, 0, none⟩), .int .u8 28] w fun e w' => e = .returned (.tuple #[]) ∧ Told D most lo nv fv { s with fin := true } w w' := by
  have hd := h.cells
  rw [hin, hfin] at hd
  simp only [if_true] at hd
  obtain ⟨c0, c1, c2, c3, c4, c5, c6, c7, c8, hfz⟩ := dcell hd
  have f3 := hfz 3
  have HS := Lib.hid h
  have HIN := Lib.hid hin
  have HD := Lib.hid hd
  clear h hd hfz c0 c1 c2 c4 c5 c6 c7 c8 hin hfin
  go_enter Try.func20, Try.ntmps20
  go_wp2
  go_end0
  have M : Mod (fun t => t = D) w (w.setCell ⟨D, 3, none⟩ (.bool true)) := Mod.setCell (S := fun t => t = D) (a := ⟨D, 3, none⟩) rfl _
  refine ⟨rfl, M.mono (fun k _ hk => .inl hk), nb, nv, fv, ⟨?_, M.row HS.out.row ?_, HS.out.none, Nat.le_trans HS.out.nbw M.size, HS.out.keep (M.mono (fun k _ hk => .inl hk)), Nat.le_trans HS.out.lob M.size⟩, fun t ht => .inl ht, fun t ht => .inl ht⟩
  · simpa [dcells, HIN.out] using row_setCell HD.out 3 (.bool true)
  · intro k hk hkD
    exact own_ne HS.out.row HS.out.cells (by decide) (hkD ▸ hk)

set_option maxHeartbeats 800000 in
/-- take: another byte. -/
theorem take_else (D most lo nb : Nat) (nv fv : Value) (s : St) (c : UInt8) (x : Int) (hx : x = c.toNat) (h11 : (x == 11) = false) (h28 : (x == 28) = false) (hin : s.inn = true) (hfin : s.fin = false) (hn : s.now.length ≤ 100000) (hm : most ≤ 100000) (ho : s.over ≤ 1000000) (w : World) (h : DSt w D most lo nb nv fv s) :
    Calls Try.prog 20 #[.pointer (some ⟨D, 0, none⟩), .int .u8 x] w fun e w' => e = .returned (.tuple #[]) ∧ Told D most lo nv fv (s.lay most false [c]) w w' := by
  have hd := h.cells
  rw [hin, hfin] at hd
  simp only [if_true] at hd
  obtain ⟨c0, c1, c2, c3, c4, c5, c6, c7, c8, hfz⟩ := dcell hd
  have hDs := lt_of_block hd
  have hl := lay_any D nb most w.heap.size 1 (nextIn D) (.bool true) (.bool false) nv fv (.int .i64 s.junk) (.int .i64 s.broken) s.over ⟨by omega, by omega⟩ s.now [c] rfl (by omega) (by omega) hn hm (w.alloc (.cells #[.int .u8 x] 5))
    (by have := h.nbw; simp; omega) ((Below.heap_alloc _ _ _ hDs).trans hd) (h.row.alloc _) (lit_cells w _ _ (by simp [bv, hx]))
  have HL := Lib.hid hl
  have HS := Lib.hid h
  have HIN := Lib.hid hin
  clear h hd hfz c0 c1 c2 c4 c5 c6 c7 c8 hin hfin hl hx
  go_enter Try.func20, Try.ntmps20
  go_wp2_with fail
  refine HL.out.mono ?_
  rintro en w' ⟨rfl, hL⟩
  have HLD := Lib.hid hL
  clear hL
  go_wp2
  go_end0
  exact ⟨rfl, laid_told (news := [c]) HS.out HIN.out (Nat.succ_pos _) (Mod.of_below ((Below.refl _ w).alloc (Nat.le_refl _) _)) HLD.out⟩

set_option maxHeartbeats 800000 in
/-- take: another byte behind an End. -/
theorem take_else2 (D most lo nb : Nat) (nv fv : Value) (s : St) (c : UInt8) (x : Int) (hx : x = c.toNat) (h11 : (x == 11) = false) (h13 : (x == 13) = false) (h28 : (x == 28) = false) (hin : s.inn = true) (hfin : s.fin = true) (hn : s.now.length ≤ 100000) (hm : most ≤ 100000) (ho : s.over ≤ 1000000) (w : World) (h : DSt w D most lo nb nv fv s) :
    Calls Try.prog 20 #[.pointer (some ⟨D, 0, none⟩), .int .u8 x] w fun e w' => e = .returned (.tuple #[]) ∧ Told D most lo nv fv (s.lay most false [28, c]) w w' := by
  have hd := h.cells
  rw [hin, hfin] at hd
  simp only [if_true] at hd
  obtain ⟨c0, c1, c2, c3, c4, c5, c6, c7, c8, hfz⟩ := dcell hd
  have f3 := hfz 3
  have M : Mod (fun t => t = D) w (w.setCell ⟨D, 3, none⟩ (.bool false)) := Mod.setCell (S := fun t => t = D) (a := ⟨D, 3, none⟩) rfl _
  have hd3 : (w.setCell ⟨D, 3, none⟩ (.bool false)).heap[D]? = some (.cells (dcells (.int .i64 most) (nextIn D) (.bool true) (.bool false) nv fv (.int .i64 s.junk) (.int .i64 s.over) (.int .i64 s.broken)) 42 (0, 0)) := by
    simpa [dcells] using row_setCell hd 3 (.bool false)
  have hDs := lt_of_block hd3
  have hrow := M.row h.row (fun k hk hkD => own_ne h.row h.cells (by decide) (hkD ▸ hk))
  have hl := lay_any D nb most (w.setCell ⟨D, 3, none⟩ (.bool false)).heap.size 2 (nextIn D) (.bool true) (.bool false) nv fv (.int .i64 s.junk) (.int .i64 s.broken) s.over ⟨by omega, by omega⟩ s.now [28, c] rfl (by omega) (by omega) hn hm ((w.setCell ⟨D, 3, none⟩ (.bool false)).alloc (.cells #[.int .u8 28, .int .u8 x] 5))
    (by have := h.nbw; have := M.size; simp at *; omega) ((Below.heap_alloc _ _ _ hDs).trans hd3) (hrow.alloc _) (lit_cells _ _ _ (by simp [bv, hx]))
  have hsz : (w.setCell ⟨D, 3, none⟩ (.bool false)).heap.size = w.heap.size := by simp
  rw [hsz] at hl
  have HL := Lib.hid hl
  have HS := Lib.hid h
  have HIN := Lib.hid hin
  have HM := Lib.hid M
  clear h hd hfz c0 c1 c2 c4 c5 c6 c7 c8 hin hfin hl hx hd3 hDs hrow M hsz
  go_enter Try.func20, Try.ntmps20
  go_wp2_with fail
  refine HL.out.mono ?_
  rintro en w' ⟨rfl, hL⟩
  have HLD := Lib.hid hL
  clear hL
  go_wp2
  go_end0
  exact ⟨rfl, laid_told (news := [28, c]) HS.out HIN.out (Nat.succ_pos _) (HM.out.trans (Mod.of_below ((Below.refl _ _).alloc (Nat.le_refl _) _))) HLD.out⟩

end Go.Proofs.Ytcmpcpemmmobeaa
