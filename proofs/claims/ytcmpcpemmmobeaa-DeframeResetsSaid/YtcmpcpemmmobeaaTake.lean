/- The deframer's memory; bytes.Clone, take and skip by their contracts. -/
import Derived.Test.YtcmpcpemmmobeaaBase
import Derived.Test.YtcmpcpemmmobeaaPlain
import Derived.Deep.RegionLaw
import Derived.Deep.RegionWith
import Derived.Deep.Draws
import Derived.Lib.SliceRun
import Derived.Deep.Onto
namespace Go.Proofs.Ytcmpcpemmmobeaa
set_option linter.unusedVariables false
open Go.RowKit

theorem Mod.row0 {S : Nat → Prop} {w w' : World} (h : Mod S w w') {base : Nat} {e : TypeId} {size : Nat} {v : Value} {n : Nat} {xs : List Value} (hr : w.ownsRow base e size v n xs) (hs : ∀ k, v.ownBlock = some k → S k → False) : w'.ownsRow base e size v n xs :=
  h.row hr hs

/-- Rows of different kinds lie apart. -/
theorem rows_apart {base base' : Nat} {e e' : TypeId} {s s' : Nat} {w : World} {v v' : Value} {n n' : Nat} {xs xs' : List Value} (h : w.ownsRow base e s v n xs) (h' : w.ownsRow base' e' s' v' n' xs') (he : e ≠ e') : ∀ t, v.ownBlock = some t → v'.ownBlock ≠ some t := by
  intro t ht ht'
  obtain ⟨_, ⟨rfl, _⟩ | ⟨g, cap, cur, rfl, _, hg, _⟩⟩ := h
  · simp [Value.ownBlock] at ht
  obtain ⟨_, ⟨rfl, _⟩ | ⟨g', cap', cur', rfl, _, hg', _⟩⟩ := h'
  · simp [Value.ownBlock] at ht'
  simp only [Value.ownBlock, Option.some.injEq] at ht ht'
  subst ht
  subst ht'
  rw [hg] at hg'
  simp at hg'
  exact he hg'.2

theorem below_row {w w' : World} (h : Below w.heap.size w w') {base : Nat} {e : TypeId} {size : Nat} {v : Value} {n : Nat} {xs : List Value} (hr : w.ownsRow base e size v n xs) : w'.ownsRow base e size v n xs :=
  (Mod.of_below (S := fun _ => False) h).row hr (fun _ _ => id)

theorem below_of_drew {w w1 : World} (h : Below w.drew.heap.size w.drew w1) : Below w.heap.size w w1 := ⟨h.os, h.tape, h.output, h.size, h.block⟩

/-- A frame's bytes, as they lie. -/
structure FrameV (w : World) (lo nb : Nat) (v : Value) (x : List UInt8) : Prop where
  row : w.ownsRow lo 5 1 v x.length (x.map bv)
  low : ∀ t, v.ownBlock = some t → t < nb

def Rows (w : World) (lo nb : Nat) : List Value → List (List UInt8) → Prop
  | [], [] => True
  | v :: vs, x :: xs => FrameV w lo nb v x ∧ Rows w lo nb vs xs
  | _, _ => False

theorem Rows.imp {w w' : World} {lo nb nb' : Nat} (h : ∀ v x, FrameV w lo nb v x → FrameV w' lo nb' v x) : ∀ {vs : List Value} {xs : List (List UInt8)}, Rows w lo nb vs xs → Rows w' lo nb' vs xs
  | [], [], _ => trivial
  | v :: vs, x :: xs, hr => ⟨h v x hr.1, Rows.imp h hr.2⟩
  | [], _ :: _, hr => hr.elim
  | _ :: _, [], hr => hr.elim
theorem Rows.snoc {w : World} {lo nb : Nat} {v : Value} {x : List UInt8} (hv : FrameV w lo nb v x) : ∀ {vs : List Value} {xs : List (List UInt8)}, Rows w lo nb vs xs → Rows w lo nb (vs ++ [v]) (xs ++ [x])
  | [], [], _ => ⟨hv, trivial⟩
  | _ :: _, _ :: _, hr => ⟨hr.1, Rows.snoc hv hr.2⟩
  | [], _ :: _, hr => hr.elim
  | _ :: _, [], hr => hr.elim
theorem Rows.len {w : World} {lo nb : Nat} : ∀ {vs : List Value} {xs : List (List UInt8)}, Rows w lo nb vs xs → vs.length = xs.length
  | [], [], _ => rfl
  | _ :: _, _ :: _, hr => by simp [Rows.len hr.2]
  | [], _ :: _, hr => hr.elim
  | _ :: _, [], hr => hr.elim
theorem Rows.get {w : World} {lo nb : Nat} : ∀ {vs : List Value} {xs : List (List UInt8)}, Rows w lo nb vs xs → ∀ (i : Nat) (v : Value) (x : List UInt8), vs[i]? = some v → xs[i]? = some x → FrameV w lo nb v x
  | [], [], _, i, v, x, h, _ => by simp at h
  | _ :: _, _ :: _, hr, 0, v, x, h, h' => by simp at h h'; exact h ▸ h' ▸ hr.1
  | _ :: _, _ :: _, hr, i + 1, v, x, h, h' => Rows.get hr.2 i v x (by simpa using h) (by simpa using h')
  | [], _ :: _, hr, _, _, _, _, _ => hr.elim
  | _ :: _, [], hr, _, _, _, _, _ => hr.elim

/-- What is found, as it lies. -/
def Found (w : World) (lo nb : Nat) (fv : Value) (fs : List (List UInt8)) : Prop := ∃ vs, w.ownsRow 0 30 1 fv fs.length vs ∧ Rows w lo nb vs fs

theorem found_nil (w : World) (lo nb : Nat) : Found w lo nb (.slice none 0 0) [] := ⟨[], World.ownsRow_nil _ _ _ _, trivial⟩

/-- The deframer as it lies. -/
structure DSt (w : World) (D most lo nb : Nat) (nv fv : Value) (s : St) : Prop where
  cells : w.heap[D]? = some (.cells (dcells (.int .i64 most) (if s.inn then nextIn D else nextOut D) (.bool s.inn) (.bool s.fin) nv fv (.int .i64 s.junk) (.int .i64 s.over) (.int .i64 s.broken)) 42 (0, 0))
  row : w.ownsRow nb 5 1 nv s.now.length (s.now.map bv)
  none : s.now = [] → nv = .slice none 0 0
  nbw : nb ≤ w.heap.size
  found : Found w lo nb fv s.frames
  lob : lo ≤ w.heap.size

theorem Found.keep {S : Nat → Prop} {w w' : World} {lo nb : Nat} {fv : Value} {fs : List (List UInt8)} (h : Found w lo nb fv fs) (m : Mod S w w') (hf : ∀ t, fv.ownBlock = some t → ¬ S t)
    (hx : ∀ v x, FrameV w lo nb v x → ∀ t, v.ownBlock = some t → ¬ S t) : Found w' lo nb fv fs := by
  obtain ⟨vs, h1, h2⟩ := h
  exact ⟨vs, m.row h1 hf, Rows.imp (fun v x hv => ⟨m.row hv.row (hx v x hv), hv.low⟩) h2⟩
theorem Found.up {w : World} {lo nb nb' : Nat} {fv : Value} {fs : List (List UInt8)} (h : Found w lo nb fv fs) (hn : nb ≤ nb') : Found w lo nb' fv fs := by
  obtain ⟨vs, h1, h2⟩ := h
  exact ⟨vs, h1, Rows.imp (fun v x hv => ⟨hv.row, fun t ht => Nat.lt_of_lt_of_le (hv.low t ht) hn⟩) h2⟩

/-- Nothing that is found lies in the deframer or in what is held. -/
theorem DSt.keep {w w' : World} {D most lo nb : Nat} {nv fv : Value} {s : St} (h : DSt w D most lo nb nv fv s) (m : Mod (fun t => t = D ∨ nv.ownBlock = some t) w w') : Found w' lo nb fv s.frames := by
  refine h.found.keep m ?_ ?_
  · obtain ⟨vs, h1, _⟩ := h.found
    intro t ht hs
    rcases hs with rfl | hs
    · exact own_ne h1 h.cells (by decide) ht
    · exact rows_apart h1 h.row (by decide) t ht hs
  · intro v x hv t ht hs
    rcases hs with rfl | hs
    · exact own_ne hv.row h.cells (by decide) ht
    · have := hv.low t ht
      have := (h.row.lt t hs).1
      omega

/-- What a byte leaves. -/
structure Told (D most lo : Nat) (nv fv : Value) (s' : St) (w w' : World) : Prop where
  mod : Mod (fun t => t = D ∨ nv.ownBlock = some t ∨ fv.ownBlock = some t) w w'
  st : ∃ nb' nv' fv', DSt w' D most lo nb' nv' fv' s' ∧ (∀ t, nv'.ownBlock = some t → nv.ownBlock = some t ∨ w.heap.size ≤ t) ∧ (∀ t, fv'.ownBlock = some t → fv.ownBlock = some t ∨ w.heap.size ≤ t)

theorem eql_bytes_none (n c : Nat) (w : World) : (binOp .eql 30 (.slice none n c) (.slice none 0 0)).run Try.prog w = .ok (.bool true) w := Lib.run_eql_slice_nil w 30 5 none n c 0 0 Try.underlying30
theorem eql_bytes_some (a : Addr) (n c : Nat) (w : World) : (binOp .eql 30 (.slice (some a) n c) (.slice none 0 0)).run Try.prog w = .ok (.bool false) w := Lib.run_eql_slice_nil w 30 5 (some a) n c 0 0 Try.underlying30
attribute [go_sem] eql_bytes_none eql_bytes_some

set_option maxHeartbeats 800000 in
/-- bytes.Clone. -/
theorem clone_any (nb : Nat) (nv : Value) (now : List UInt8) (w : World) (hrow : w.ownsRow nb 5 1 nv now.length (now.map bv)) (hnil : now = [] → nv = .slice none 0 0) (hn : now.length ≤ 100000) :
    Calls Try.prog 21 #[nv] w fun e w' => ∃ a c, e = .returned (.slice a now.length c) ∧ Below w.heap.size w w' ∧ w'.ownsRow w.heap.size 5 1 (.slice a now.length c) now.length (now.map bv) := by
  cases hnow : now with
  | nil =>
    subst hnow
    obtain rfl := hnil rfl
    go_enter Try.func21, Try.ntmps21
    go_wp2
    go_ret
    exact ⟨none, 0, rfl, Below.refl _ _, World.ownsRow_nil _ _ _ _⟩
  | cons c0 cs =>
    have hlen : 0 < now.length := by simp [hnow]
    rw [← hnow]
    obtain ⟨g0, cap0, rfl, hg0, hg1⟩ := hrow.form hlen
    obtain ⟨i0, hin, hz0, hz1, hz2⟩ := info_parts info5
    have hold : ∀ j u, (now.map bv)[j]? = some u → (w.alloc (.cells #[] 5)).cell? ((⟨g0, 0, none⟩ : Addr).add j) = some u := (hrow.alloc _).cells rfl
    have hown0 : (w.alloc (.cells #[] 5)).ownsRow w.heap.size 5 1 (.slice (some ⟨w.heap.size, 0, none⟩) 0 0) 0 [] := World.ownsRow_made w #[] 0 (Nat.le_refl _) (Nat.zero_le _) rfl
    have HO0 := Lib.hid hown0
    have HR := Lib.hid hrow
    have HC := Lib.hid hold
    clear hrow hold hnow hnil hown0
    go_enter Try.func21, Try.ntmps21
    go_wp2_with (at_builtin; refine wpList_append_lies _ rfl _ _ 30 rfl w.heap.size 5 i0 (.int .u8 0) 1 1 Try.underlying30 hin hz0 hz1 hz2 rfl (by decide) _ _ _ rfl HO0.out ⟨g0, 0, none⟩ now.length cap0 (now.map bv) rfl ?c1 HC.out ?c3 hlen ?c4 ?c5 ?c6 (w.heap.size + 1) ?c7 ?_)
    case c1 => simp
    case c3 =>
      intro u hu
      obtain ⟨c, _, rfl⟩ := List.mem_map.1 hu
      rfl
    case c4 => unfold maxLen; omega
    case c5 => omega
    case c6 => simp
    case c7 => simp
    intro g cap w1 hown hg _ _
    have HO := Lib.hid hown
    have HG := Lib.hid hg
    clear hown hg
    go_wp2
    go_ret
    refine ⟨some ⟨g, 0, none⟩, cap, by simp, ?_, by simpa using HO.out⟩
    refine ((Below.refl _ w).alloc (Nat.le_refl _) (.cells #[] 5)).trans ?_
    exact (Mod.grown (S := fun t => t = w.heap.size) HG.out (fun t ht => by simpa [Value.ownBlock, eq_comm] using ht)).below (fun k hk => by omega) (by simp)

theorem tail_told {D most lo nb : Nat} {nv fv xv : Value} {s : St} {w w1 w2 w' : World} {vs : List Value} {o : Obj} {g cap : Nat} (h : DSt w D most lo nb nv fv s) (hfv : w.ownsRow 0 30 1 fv s.frames.length vs) (hr : Rows w lo nb vs s.frames)
    (HB : Below w.heap.size w w1) (HX : w1.ownsRow w.heap.size 5 1 xv s.now.length (s.now.map bv)) (HG : (w1.alloc o).grownBy w2 fv.ownBlock)
    (HO : w2.ownsRow 0 30 1 (.slice (some ⟨g, 0, none⟩) (s.frames.length + 1) cap) (s.frames.length + 1) (vs ++ [xv])) (hat : fv.ownBlock = some g ∨ g = (w1.alloc o).heap.size)
    (HOO : Only D (w2.setCell ⟨D, 5, none⟩ (.slice (some ⟨g, 0, none⟩) (s.frames.length + 1) cap)) w')
    (hdd : w'.heap[D]? = some (.cells (dcells (.int .i64 most) (nextOut D) (.bool false) (.bool false) (.slice none 0 0) (.slice (some ⟨g, 0, none⟩) (s.frames.length + 1) cap) (.int .i64 s.junk) (.int .i64 s.over) (.int .i64 s.broken)) 42 (0, 0))) :
    Told D most lo nv fv ({ s with frames := s.frames ++ [s.now] }.out) w w' := by
  have hD1 := HB.block D (lt_of_block h.cells) |>.trans h.cells
  have hfv1 := below_row HB hfv
  have M1 : Mod (fun t => t = D ∨ fv.ownBlock = some t) w1 w' :=
    (Mod.of_below ((Below.refl _ w1).alloc (Nat.le_refl _) o)).trans ((Mod.grown HG (fun k hk => .inr hk)).trans ((Mod.setCell (a := ⟨D, 5, none⟩) (.inl rfl) _).trans (Mod.only HOO (.inl rfl))))
  have M : Mod (fun t => t = D ∨ fv.ownBlock = some t) w w' := (Mod.of_below HB).trans M1
  have hgD : g ≠ D := by
    rcases hat with hat | hat
    · intro e
      exact own_ne hfv h.cells (by decide) (e ▸ hat)
    · have := lt_of_block hD1
      simp at hat
      omega
  have M2 : Mod (fun t => t = D) w2 w' := (Mod.setCell (S := fun t => t = D) (a := ⟨D, 5, none⟩) rfl _).trans (Mod.only HOO rfl)
  refine ⟨M.mono (fun k _ hk => by rcases hk with hk | hk; exact .inl hk; exact .inr (.inr hk)), w'.heap.size, .slice none 0 0, .slice (some ⟨g, 0, none⟩) (s.frames.length + 1) cap, ⟨?_, ?_, fun _ => rfl, Nat.le_refl _, ?_, Nat.le_trans h.lob M.size⟩, ?_, ?_⟩
  · simpa [St.out] using hdd
  · exact World.ownsRow_nil _ _ _ _
  · refine ⟨vs ++ [xv], ?_, ?_⟩
    · have := M2.row HO (fun k hk => by simp only [Value.ownBlock, Option.some.injEq] at hk; omega)
      simpa [St.out] using this
    · refine Rows.snoc ?_ (Rows.imp ?_ hr)
      · have hx := M1.row HX (fun t ht hs => by
          rcases hs with rfl | hs
          · exact own_ne HX hD1 (by decide) ht
          · exact rows_apart HX hfv1 (by decide) t ht hs)
        exact ⟨hx.mono h.lob, fun t ht => (hx.lt t ht).2⟩
      · intro v x hv
        have hx := M.row hv.row (fun t ht hs => by
          rcases hs with rfl | hs
          · exact own_ne hv.row h.cells (by decide) ht
          · exact rows_apart hv.row hfv (by decide) t ht hs)
        exact ⟨hx, fun t ht => (hx.lt t ht).2⟩
  · intro t ht
    simp [Value.ownBlock] at ht
  · intro t ht
    simp only [Value.ownBlock, Option.some.injEq] at ht
    subst ht
    rcases hat with hat | hat
    · exact .inl hat
    · have := HB.size
      simp at hat
      exact .inr (by omega)

set_option maxHeartbeats 800000 in
/-- take: the tail behind an End. -/
theorem take_tail (D most lo nb : Nat) (nv fv : Value) (s : St) (hin : s.inn = true) (hfin : s.fin = true) (hn : s.now.length ≤ 100000) (hf : s.frames.length ≤ 100000) (w : World) (h : DSt w D most lo nb nv fv s) :
    Calls Try.prog 20 #[.pointer (some ⟨D, 0, none⟩), .int .u8 13] w fun e w' => e = .returned (.tuple #[]) ∧ Told D most lo nv fv ({ s with frames := s.frames ++ [s.now] }.out) w w' := by
  obtain ⟨vs, hfv, hrows⟩ := h.found
  obtain ⟨fa, fc, rfl⟩ := slice_form hfv
  obtain ⟨na, nc, rfl⟩ := slice_form h.row
  have hd := h.cells
  rw [hin, hfin] at hd
  simp only [if_true] at hd
  obtain ⟨c0, c1, c2, c3, c4, c5, c6, c7, c8, hfz⟩ := dcell hd
  have f5 := hfz 5
  have hDs := lt_of_block hd
  have HD := Lib.hid hd
  have HS := Lib.hid h
  have HF := Lib.hid hfv
  have HV := Lib.hid hrows
  obtain ⟨i0, hi0, hz0, hz1, hz2⟩ := info_parts info30
  clear h hfv hrows hd hfz c0 c1 c2 c6 c7 c8 hin hfin
  go_enter Try.func20, Try.ntmps20
  go_upto_region 5 with (fail)
  go_region_law (first
    | (go_simp; go_at_call 21; refine (clone_any nb _ s.now _ ?_ ?_ hn).mono ?_; exact HS.out.row; exact HS.out.none; rintro e w1 ⟨xa, xc, rfl, hb, hx⟩; have HB := Lib.hid hb; have HX := Lib.hid hx; have hd1 := (hb.block D hDs).trans HD.out; have HD1 := Lib.hid hd1; have c51 := (dcell hd1).2.2.2.2.2.1; have c5a : (w1.alloc (.cells #[.slice xa s.now.length xc] 30)).cell? ⟨D, 5, none⟩ = some (.slice fa s.frames.length fc) := (dcell ((Below.heap_alloc _ _ _ (lt_of_block hd1)).trans hd1)).2.2.2.2.2.1; clear hb hx hd1)
    | (have hw1 : w1.ownsRow 0 30 1 (.slice fa s.frames.length fc) s.frames.length vs := below_row HB.out HF.out; have HW1 := Lib.hid hw1; clear hw1; have HNW := Lib.hid (World.news_of_block (heap_alloc_new w1 (.cells #[.slice xa s.now.length xc] 30))); refine step_append_lies _ rfl (.tmp 33) (.tmp 39) 22 rfl 0 30 i0 (.slice none 0 0) 1 24 Try.underlying22 hi0 hz0 hz1 hz2 rfl (by decide) (.slice fa s.frames.length fc) s.frames.length vs rfl (HW1.out.alloc _) ⟨w1.heap.size, 0, none⟩ 1 1 [.slice xa s.now.length xc] rfl rfl HNW.out (by simp [Value.oneCell']) (by decide) (by unfold maxLen; omega) (by omega) (Nat.zero_le _) _ rfl ?_; intro g cap w2 hown hg hat hlt; have hd2 := (hg.block D (by have := lt_of_block HD1.out; simp; omega) (fun he => own_ne HW1.out HD1.out (by decide) he.symm)).trans ((Below.heap_alloc _ _ _ (lt_of_block HD1.out)).trans HD1.out); have f52 := (dcell hd2).2.2.2.2.2.2.2.2.2 5; have c52 := (dcell hd2).2.2.2.2.2.1; have HD2 := Lib.hid hd2; have HO := Lib.hid hown; have HG := Lib.hid hg; have HAT := Lib.hid hat; clear hown hg hat hd2))
  all_goals
    go_wp2_with fail
    refine (outside_any D _ _ _ _ _ _ _ _ _ (w2.setCell ⟨D, 5, none⟩ (.slice (some ⟨g, 0, none⟩) (s.frames.length + 1) cap)) (row_setCell HD2.out 5 _)).mono ?_
    rintro en w' ⟨rfl, hoo, hdd⟩
    have HOO := Lib.hid hoo
    have HDD := Lib.hid hdd
    clear hoo hdd
    go_wp2
    go_end0
    exact ⟨rfl, tail_told HS.out HF.out HV.out (below_of_drew HB.out) HX.out HG.out HO.out HAT.out HOO.out HDD.out⟩

end Go.Proofs.Ytcmpcpemmmobeaa
