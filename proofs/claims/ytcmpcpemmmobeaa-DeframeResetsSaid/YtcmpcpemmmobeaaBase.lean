/- Frames of memory, and the deframer's small methods (outside, begin) by their contracts. -/
import Derived.Test.YtcmpcpemmmobeaaRows
import Derived.WalkKit
import Derived.WalkSpells
import Derived.WalkLawsBesides
import Derived.Laws.EntriesVeiled
import Derived.OneCell
import Derived.Lib.Hide
import Derived.Deep.QuietTactic
import Derived.BigQuiet
import Derived.Deep.AppendLies
import Derived.Deep.Cut
namespace Go.Proofs.Ytcmpcpemmmobeaa
set_option linter.unusedVariables false
open Go.RowKit

theorem run_makeFunc_try (fn : Fn) (first cap : Array Value) (w : World) : (Instr.makeFunc fn first cap).run Try.prog w = .ok (.func fn first cap) w := rfl
attribute [go_sem] run_makeFunc_try

/-- Of what was there only the blocks of S have turned. -/
structure Mod (S : Nat → Prop) (w w' : World) : Prop where
  os : w'.os = w.os
  tape : w'.tape = w.tape
  output : w'.output = w.output
  size : w.heap.size ≤ w'.heap.size
  block : ∀ k, k < w.heap.size → ¬ S k → w'.heap[k]? = w.heap[k]?

theorem Mod.refl (S : Nat → Prop) (w : World) : Mod S w w := ⟨rfl, rfl, rfl, Nat.le_refl _, fun _ _ _ => rfl⟩
theorem Mod.trans {S : Nat → Prop} {a b c : World} (h : Mod S a b) (k : Mod S b c) : Mod S a c :=
  ⟨k.os.trans h.os, k.tape.trans h.tape, k.output.trans h.output, Nat.le_trans h.size k.size, fun i hi hs => (k.block i (Nat.lt_of_lt_of_le hi h.size) hs).trans (h.block i hi hs)⟩
theorem Mod.mono {S T : Nat → Prop} {w w' : World} (h : Mod S w w') (hS : ∀ k, k < w.heap.size → S k → T k) : Mod T w w' :=
  ⟨h.os, h.tape, h.output, h.size, fun k hk hT => h.block k hk (fun hs => hT (hS k hk hs))⟩
theorem Mod.of_below {S : Nat → Prop} {w w' : World} (h : Below w.heap.size w w') : Mod S w w' := ⟨h.os, h.tape, h.output, h.size, fun k hk _ => h.block k hk⟩
theorem Mod.setCell {S : Nat → Prop} {w : World} {a : Addr} (h : S a.block) (v : Value) : Mod S w (w.setCell a v) :=
  ⟨rfl, rfl, rfl, by simp [World.setCell], fun k _ hs => Below.heap_setCell _ _ _ _ (fun e => hs (e ▸ h))⟩
theorem Mod.grown {S : Nat → Prop} {w w' : World} {row : Option Nat} (h : w.grownBy w' row) (hS : ∀ k, row = some k → S k) : Mod S w w' :=
  ⟨h.os, h.tape, h.output, h.size, fun k hk hs => h.block k hk (fun e => hs (hS k e.symm))⟩
theorem Mod.below {S : Nat → Prop} {w w' : World} (h : Mod S w w') {B : Nat} (hB : ∀ k, S k → B ≤ k) (hBw : B ≤ w.heap.size) : Below B w w' :=
  ⟨h.os, h.tape, h.output, h.size, fun k hk => h.block k (by omega) (fun hs => by have := hB k hs; omega)⟩
theorem Mod.drewN {S : Nat → Prop} {w w' : World} (h : Mod S w w') (n : Nat) : Mod S w (w'.drewN n) := ⟨h.os, h.tape, h.output, h.size, h.block⟩
theorem Mod.keep {S : Nat → Prop} {w w' : World} (h : Mod S w w') {b : Nat} {o : Obj} (hb : w.heap[b]? = some o) (hs : ¬ S b) : w'.heap[b]? = some o := (h.block b (lt_of_block hb) hs).trans hb
theorem Mod.row {S : Nat → Prop} {w w' : World} (h : Mod S w w') {base : Nat} {e : TypeId} {size : Nat} {v : Value} {n : Nat} {xs : List Value} (hr : w.ownsRow base e size v n xs) (hs : ∀ k, v.ownBlock = some k → ¬ S k) : w'.ownsRow base e size v n xs := by
  obtain ⟨h1, h2⟩ := hr
  refine ⟨h1, ?_⟩
  rcases h2 with h2 | ⟨g, cap, cur, hv, hg, hh, r⟩
  · exact .inl h2
  · exact .inr ⟨g, cap, cur, hv, hg, h.keep hh (hs g (by rw [hv]; rfl)), r⟩

theorem below_drewN {B : Nat} {a w : World} (h : Below B a w) (n : Nat) : Below B a (w.drewN n) := ⟨h.os, h.tape, h.output, h.size, h.block⟩

/-- A block of many cells, one of them stored. -/
theorem row_setCell {w : World} {b : Nat} {cs : Array Value} {t : TypeId} {f : Nat × Nat} (h : w.heap[b]? = some (.cells cs t f)) (i : Nat) (v : Value) : (w.setCell ⟨b, i, none⟩ v).heap[b]? = some (.cells (cs.setIfInBounds i v) t f) := by
  have hlt := lt_of_block h
  have h' : w.heap[b] = .cells cs t f := by simpa [Array.getElem?_eq_getElem hlt] using h
  show (w.heap.modify b _)[b]? = _
  rw [Array.getElem?_eq_getElem (by simpa using hlt), Array.getElem_modify_self, h']
  rfl

/-- The deframer's nine fields. -/
def dcells (m nx i e nv fv j o b : Value) : Array Value := #[m, nx, i, e, nv, fv, j, o, b]

theorem dcell {w : World} {D : Nat} {m nx i e nv fv j o b : Value} (h : w.heap[D]? = some (.cells (dcells m nx i e nv fv j o b) 42 (0, 0))) :
    w.cell? ⟨D, 0, none⟩ = some m ∧ w.cell? ⟨D, 1, none⟩ = some nx ∧ w.cell? ⟨D, 2, none⟩ = some i ∧ w.cell? ⟨D, 3, none⟩ = some e ∧ w.cell? ⟨D, 4, none⟩ = some nv ∧ w.cell? ⟨D, 5, none⟩ = some fv ∧
    w.cell? ⟨D, 6, none⟩ = some j ∧ w.cell? ⟨D, 7, none⟩ = some o ∧ w.cell? ⟨D, 8, none⟩ = some b ∧ ∀ k, w.frozen? ⟨D, k, none⟩ = false := by
  refine ⟨?_, ?_, ?_, ?_, ?_, ?_, ?_, ?_, ?_, ?_⟩ <;> simp [World.cell?, World.frozen?, h, dcells]

/-- The deframer's methods write the deframer alone. -/
structure Only (D : Nat) (w w' : World) : Prop where
  grown : w.grownBy w' (some D)
  same : w'.heap.size = w.heap.size

theorem only_setCell (D i : Nat) (w : World) (v : Value) : Only D w (w.setCell ⟨D, i, none⟩ v) :=
  ⟨⟨rfl, rfl, rfl, by simp [World.setCell], fun k _ hs => Below.heap_setCell _ _ _ _ (fun e => hs (by rw [e]))⟩, by simp [World.setCell]⟩
theorem Only.trans {D : Nat} {a b c : World} (h : Only D a b) (k : Only D b c) : Only D a c :=
  ⟨⟨k.grown.os.trans h.grown.os, k.grown.tape.trans h.grown.tape, k.grown.output.trans h.grown.output, Nat.le_trans h.grown.size k.grown.size,
    fun i hi hs => (k.grown.block i (Nat.lt_of_lt_of_le hi h.grown.size) hs).trans (h.grown.block i hi hs)⟩, k.same.trans h.same⟩

def nextOut (D : Nat) : Value := .func (.func 18) #[.pointer (some ⟨D, 0, none⟩)] #[]
def nextIn (D : Nat) : Value := .func (.func 20) #[.pointer (some ⟨D, 0, none⟩)] #[]

set_option maxHeartbeats 400000 in
theorem outside_any (D : Nat) (m nx i e nv fv j o b : Value) (w : World) (h : w.heap[D]? = some (.cells (dcells m nx i e nv fv j o b) 42 (0, 0))) :
    Calls Try.prog 17 #[.pointer (some ⟨D, 0, none⟩)] w fun en w' => en = .returned (.tuple #[]) ∧ Only D w w' ∧
      w'.heap[D]? = some (.cells (dcells m (nextOut D) (.bool false) (.bool false) (.slice none 0 0) fv j o b) 42 (0, 0)) := by
  obtain ⟨c0, c1, c2, c3, c4, c5, c6, c7, c8, hf⟩ := dcell h
  have f1 := hf 1
  have f2 := hf 2
  have f3 := hf 3
  have f4 := hf 4
  have H := Lib.hid h
  clear h hf c0 c5 c6 c7 c8
  go_enter Try.func17, Try.ntmps17
  go_wp2
  go_end0
  refine ⟨rfl, (((only_setCell D 2 _ _).trans (only_setCell D 3 _ _)).trans (only_setCell D 4 _ _)).trans (only_setCell D 1 _ _), ?_⟩
  simpa [dcells, nextOut] using row_setCell (row_setCell (row_setCell (row_setCell H.out 2 (.bool false)) 3 (.bool false)) 4 (.slice none 0 0)) 1 (nextOut D)

set_option maxHeartbeats 400000 in
theorem begin_any (D : Nat) (m nx i e nv fv j o b : Value) (w : World) (h : w.heap[D]? = some (.cells (dcells m nx i e nv fv j o b) 42 (0, 0))) :
    Calls Try.prog 19 #[.pointer (some ⟨D, 0, none⟩)] w fun en w' => en = .returned (.tuple #[]) ∧ Only D w w' ∧
      w'.heap[D]? = some (.cells (dcells m (nextIn D) (.bool true) (.bool false) (.slice none 0 0) fv j o b) 42 (0, 0)) := by
  obtain ⟨c0, c1, c2, c3, c4, c5, c6, c7, c8, hf⟩ := dcell h
  have f1 := hf 1
  have f2 := hf 2
  have f3 := hf 3
  have f4 := hf 4
  have H := Lib.hid h
  clear h hf c0 c5 c6 c7 c8
  go_enter Try.func19, Try.ntmps19
  go_wp2
  go_end0
  refine ⟨rfl, (((only_setCell D 2 _ _).trans (only_setCell D 3 _ _)).trans (only_setCell D 4 _ _)).trans (only_setCell D 1 _ _), ?_⟩
  simpa [dcells, nextIn] using row_setCell (row_setCell (row_setCell (row_setCell H.out 2 (.bool true)) 3 (.bool false)) 4 (.slice none 0 0)) 1 (nextIn D)

set_option maxHeartbeats 400000 in
theorem skip_start (D : Nat) (c : Int) (hc : (c == 11) = true) (m nx i e nv fv j o b : Value) (w : World) (h : w.heap[D]? = some (.cells (dcells m nx i e nv fv j o b) 42 (0, 0))) :
    Calls Try.prog 18 #[.pointer (some ⟨D, 0, none⟩), .int .u8 c] w fun en w' => en = .returned (.tuple #[]) ∧ Only D w w' ∧
      w'.heap[D]? = some (.cells (dcells m (nextIn D) (.bool true) (.bool false) (.slice none 0 0) fv j o b) 42 (0, 0)) := by
  have HR := Lib.hid (begin_any D m nx i e nv fv j o b w h)
  clear h
  go_enter Try.func18, Try.ntmps18
  go_wp2_with fail
  refine (HR.out).mono ?_
  rintro en w' ⟨rfl, ho, hd⟩
  have HO := Lib.hid ho
  have HD := Lib.hid hd
  clear ho hd HR
  go_wp2
  refine bodyPost_ret (results_none rfl _ _ _) rfl ?_
  exact ⟨rfl, HO.out, HD.out⟩

set_option maxHeartbeats 400000 in
theorem skip_junk (D : Nat) (c : Int) (hc : (c == 11) = false) (m nx i e nv fv o b : Value) (j : Int) (hj : 0 ≤ j ∧ j ≤ 1000000) (w : World) (h : w.heap[D]? = some (.cells (dcells m nx i e nv fv (.int .i64 j) o b) 42 (0, 0))) :
    Calls Try.prog 18 #[.pointer (some ⟨D, 0, none⟩), .int .u8 c] w fun en w' => en = .returned (.tuple #[]) ∧ Only D w w' ∧
      w'.heap[D]? = some (.cells (dcells m nx i e nv fv (.int .i64 (j + 1)) o b) 42 (0, 0)) := by
  obtain ⟨c0, c1, c2, c3, c4, c5, c6, c7, c8, hf⟩ := dcell h
  have f6 := hf 6
  have H := Lib.hid h
  obtain ⟨hj0, hj1⟩ := hj
  clear h hf c0 c1 c2 c3 c4 c5 c7 c8
  go_enter Try.func18, Try.ntmps18
  go_wp2
  go_end0
  exact ⟨rfl, only_setCell D 6 _ _, by simpa [dcells] using row_setCell H.out 6 (.int .i64 (j + 1))⟩

set_option maxHeartbeats 400000 in
theorem take_start (D : Nat) (c : Int) (hc : (c == 11) = true) (m nx i e nv fv j o : Value) (b : Int) (hb : 0 ≤ b ∧ b ≤ 1000000) (w : World) (h : w.heap[D]? = some (.cells (dcells m nx i e nv fv j o (.int .i64 b)) 42 (0, 0))) :
    Calls Try.prog 20 #[.pointer (some ⟨D, 0, none⟩), .int .u8 c] w fun en w' => en = .returned (.tuple #[]) ∧ Only D w w' ∧
      w'.heap[D]? = some (.cells (dcells m (nextIn D) (.bool true) (.bool false) (.slice none 0 0) fv j o (.int .i64 (b + 1))) 42 (0, 0)) := by
  obtain ⟨c0, c1, c2, c3, c4, c5, c6, c7, c8, hf⟩ := dcell h
  have f8 := hf 8
  have h1 : (w.setCell ⟨D, 8, none⟩ (.int .i64 (b + 1))).heap[D]? = some (.cells (dcells m nx i e nv fv j o (.int .i64 (b + 1))) 42 (0, 0)) := by simpa [dcells] using row_setCell h 8 (.int .i64 (b + 1))
  have HR := Lib.hid (begin_any D m nx i e nv fv j o (.int .i64 (b + 1)) _ h1)
  obtain ⟨hb0, hb1⟩ := hb
  clear h h1 hf c0 c1 c2 c3 c4 c5 c6 c7
  go_enter Try.func20, Try.ntmps20
  go_wp2_with fail
  refine (HR.out).mono ?_
  rintro en w' ⟨rfl, ho, hd⟩
  have HO := Lib.hid ho
  have HD := Lib.hid hd
  clear ho hd HR
  go_wp2
  go_end0
  exact ⟨rfl, (only_setCell D 8 _ _).trans HO.out, HD.out⟩

/-- A byte, as a value. -/
abbrev bv (c : UInt8) : Value := .int .u8 c.toNat

theorem info5 : (Try.prog.info? 5).map (fun i => (i.zero, i.size, i.bytes)) = some (some (.int .u8 0), 1, 1) := by kernel_rfl
theorem info30 : (Try.prog.info? 30).map (fun i => (i.zero, i.size, i.bytes)) = some (some (.slice none 0 0), 1, 24) := by kernel_rfl

theorem Mod.only {S : Nat → Prop} {D : Nat} {w w' : World} (h : Only D w w') (hS : S D) : Mod S w w' :=
  Mod.grown h.grown (fun k hk => by simp only [Option.some.injEq] at hk; exact hk ▸ hS)

/-- What lay leaves. -/
structure Laid (D nb most : Nat) (nx i e nv fv j : Value) (o : Int) (b : Value) (now news : List UInt8) (w w' : World) : Prop where
  mod : Mod (fun t => t = D ∨ nv.ownBlock = some t) w w'
  cells : (most < now.length + news.length ∧ w'.heap[D]? = some (.cells (dcells (.int .i64 most) (nextOut D) (.bool false) (.bool false) (.slice none 0 0) fv j (.int .i64 (o + 1)) b) 42 (0, 0))) ∨
    (now.length + news.length ≤ most ∧ ∃ nv', w'.heap[D]? = some (.cells (dcells (.int .i64 most) nx i e nv' fv j (.int .i64 o) b) 42 (0, 0)) ∧
      w'.ownsRow nb 5 1 nv' (now.length + news.length) (now.map bv ++ news.map bv) ∧ ∀ t, nv'.ownBlock = some t → nv.ownBlock = some t ∨ w.heap.size ≤ t)

theorem slice_form {base : Nat} {e : TypeId} {size : Nat} {w : World} {v : Value} {n : Nat} {xs : List Value} (h : w.ownsRow base e size v n xs) : ∃ a c, v = .slice a n c := by
  obtain ⟨_, ⟨rfl, rfl⟩ | ⟨g, cap, cur, rfl, _⟩⟩ := h
  · exact ⟨_, _, rfl⟩
  · exact ⟨_, _, rfl⟩

theorem own_ne {base : Nat} {e : TypeId} {w : World} {v : Value} {n : Nat} {xs : List Value} {s : Nat} {cs : Array Value} {t : TypeId} (h : w.ownsRow base e 1 v n xs) (hs : w.heap[s]? = some (.cells cs t (0, 0))) (ht : t ≠ e) : v.ownBlock ≠ some s := by
  intro he
  obtain ⟨_, ⟨rfl, _⟩ | ⟨g, cap, cur, rfl, _, hg, _⟩⟩ := h
  · simp [Value.ownBlock] at he
  · simp only [Value.ownBlock, Option.some.injEq] at he
    subst he
    rw [hg] at hs
    simp at hs
    exact ht hs.2.symm

set_option maxHeartbeats 800000 in
theorem lay_any (D nb most B k : Nat) (nx i e nv fv j b : Value) (o : Int) (ho : 0 ≤ o ∧ o ≤ 1000000) (now news : List UInt8) (hk : news.length = k) (hk0 : 0 < k) (hk1 : k ≤ 2) (hn : now.length ≤ 100000) (hm : most ≤ 100000) (w : World)
    (hnb : nb ≤ w.heap.size) (h : w.heap[D]? = some (.cells (dcells (.int .i64 most) nx i e nv fv j (.int .i64 o) b) 42 (0, 0))) (hrow : w.ownsRow nb 5 1 nv now.length (now.map bv))
    (hB : ∀ t u, (news.map bv)[t]? = some u → w.cell? ⟨B, t, none⟩ = some u) :
    Calls Try.prog 22 #[.pointer (some ⟨D, 0, none⟩), .slice (some ⟨B, 0, none⟩) k k] w fun en w' => en = .returned (.tuple #[]) ∧ Laid D nb most nx i e nv fv j o b now news w w' := by
  obtain ⟨c0, c1, c2, c3, c4, c5, c6, c7, c8, hf⟩ := dcell h
  obtain ⟨sa, sc, rfl⟩ := slice_form hrow
  have hDne := own_ne hrow h (by decide)
  have hDs := lt_of_block h
  have H := Lib.hid h
  have HR := Lib.hid hrow
  have HB := Lib.hid hB
  obtain ⟨ho0, ho1⟩ := ho
  obtain ⟨i0, hin, hz0, hz1, hz2⟩ := info_parts info5
  have HNE := Lib.hid hDne
  clear h hf c0 c1 c2 c3 c5 c6 c7 c8 hrow hB hDne
  go_enter Try.func22, Try.ntmps22
  go_wp2_with (at_builtin; refine wpList_append_lies _ rfl _ _ 30 rfl nb 5 i0 (.int .u8 0) 1 1 Try.underlying30 hin hz0 hz1 hz2 rfl (by decide) _ _ _ rfl HR.out ⟨B, 0, none⟩ k k (news.map bv) rfl ?c1 ?c2 ?c3 hk0 ?c4 ?c5 hnb w.heap.size rfl ?_)
  case c1 => simp [hk]
  case c2 =>
    intro t u hu
    rw [Addr.add_lit, Nat.zero_add]
    exact HB.out t u hu
  case c3 =>
    intro u hu
    obtain ⟨c, _, rfl⟩ := List.mem_map.1 hu
    rfl
  case c4 => unfold maxLen; omega
  case c5 => omega
  intro g cap w1 hown hg hat hlt
  have hD1 : w1.heap[D]? = _ := (hg.block D hDs (fun he => HNE.out he.symm)).trans H.out
  obtain ⟨c0, c1, c2, c3, c4, c5, c6, c7, c8, hf⟩ := dcell hD1
  have f4 := hf 4
  have HD1 := Lib.hid hD1
  have HO := Lib.hid hown
  have HG := Lib.hid hg
  have HAT := Lib.hid hat
  clear hown hg hat hD1 c0 c1 c2 c3 c5 c6 c7 c8 hf
  go_upto_region 1 with (fail)
  obtain ⟨w2, hw2⟩ : ∃ w2 : World, w2 = w1.setCell ⟨D, 4, none⟩ (.slice (some ⟨g, 0, none⟩) (now.length + k) cap) := ⟨_, rfl⟩
  have HW2 := Lib.hid hw2
  have hd2 : w2.heap[D]? = some (.cells (dcells (.int .i64 most) nx i e (.slice (some ⟨g, 0, none⟩) (now.length + k) cap) fv j (.int .i64 o) b) 42 (0, 0)) := by
    rw [hw2]
    simpa [dcells] using row_setCell HD1.out 4 (.slice (some ⟨g, 0, none⟩) (now.length + k) cap)
  have HD2 := Lib.hid hd2
  have HMOD : Hid (Mod (fun t => t = D ∨ (Value.slice sa now.length sc).ownBlock = some t) w w2) := Lib.hid (by
    rw [hw2]
    exact (Mod.grown HG.out (fun t ht => .inr ht)).trans (Mod.setCell (a := ⟨D, 4, none⟩) (.inl rfl) _))
  have HROW : Hid (w2.ownsRow nb 5 1 (.slice (some ⟨g, 0, none⟩) (now.length + k) cap) (now.length + k) (now.map bv ++ news.map bv)) := Lib.hid (by
    rw [hw2]
    refine (Mod.setCell (S := fun t => t = D) (a := ⟨D, 4, none⟩) rfl _).row HO.out ?_
    intro t ht
    simp only [Value.ownBlock, Option.some.injEq] at ht
    subst ht
    rcases HAT.out with h | h
    · exact fun he => HNE.out (he ▸ h)
    · omega)
  obtain ⟨c0, c1, c2, c3, c4, c5, c6, c7, c8, hf⟩ := dcell hd2
  have f7 := hf 7
  clear hw2 hd2 hf c1 c2 c3 c5 c6 c8
  rw [← HW2.out]
  by_cases hover : most < now.length + k
  · have htest : decide ((most : Int) < ↑now.length + ↑k) = true := decide_eq_true (by omega)
    go_quiet (fail)
    go_wp2_with fail
    have hout := fun n => outside_any D _ _ _ _ _ _ _ _ _ ((w2.drewN n).setCell ⟨D, 7, none⟩ (.int .i64 (o + 1))) (row_setCell (w := w2.drewN n) HD2.out 7 (.int .i64 (o + 1)))
    refine (hout _).mono ?_
    rintro en w' ⟨rfl, hoo, hdd⟩
    have HOO := Lib.hid hoo
    have HDD := Lib.hid hdd
    clear hoo hdd hout
    go_wp2
    go_end0
    refine ⟨rfl, ((HMOD.out.drewN _).trans (Mod.setCell (a := ⟨D, 7, none⟩) (.inl rfl) _)).trans (Mod.only HOO.out (.inl rfl)), .inl ⟨by omega, HDD.out⟩⟩
  · have htest : decide ((most : Int) < ↑now.length + ↑k) = false := decide_eq_false (by omega)
    go_quiet (fail)
    go_wp2
    go_end0
    refine ⟨rfl, HMOD.out.drewN _, .inr ⟨by omega, _, HD2.out, ?_, ?_⟩⟩
    · rw [hk]
      exact HROW.out
    · intro t ht
      simp only [Value.ownBlock, Option.some.injEq] at ht
      subst ht
      rcases HAT.out with h | h
      · exact .inl h
      · exact .inr (by omega)

end Go.Proofs.Ytcmpcpemmmobeaa
