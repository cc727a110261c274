/- GuardNested: the chain of guards within guards, and the law's walk. -/
import Derived.Test.YtehlacbebahmdaaAlive
import Derived.Lib.MinMax
namespace Go.Proofs.Ytehlacbebahmdaa
open Go.RowKit

/-- Of what was there only the blocks of S have turned. -/
structure Mod (S : Nat → Prop) (w w' : World) : Prop where
  os : w'.os = w.os
  tape : w'.tape = w.tape
  output : w'.output = w.output
  size : w.heap.size ≤ w'.heap.size
  block : ∀ k, k < w.heap.size → ¬ S k → w'.heap[k]? = w.heap[k]?

theorem Mod.refl (S : Nat → Prop) (w : World) : Mod S w w := ⟨rfl, rfl, rfl, Nat.le_refl _, fun _ _ _ => rfl⟩
theorem Mod.trans {S : Nat → Prop} {a b c : World} (h : Mod S a b) (k : Mod S b c) : Mod S a c :=
  ⟨k.os.trans h.os, k.tape.trans h.tape, k.output.trans h.output, Nat.le_trans h.size k.size, fun i hi hs => (k.block i (Nat.lt_of_lt_of_le hi h.size) hs).trans (h.block i hi hs)⟩
theorem Mod.of_below {S : Nat → Prop} {w w' : World} (h : Below w.heap.size w w') : Mod S w w' := ⟨h.os, h.tape, h.output, h.size, fun k hk _ => h.block k hk⟩
theorem Mod.setCell {S : Nat → Prop} {w : World} {a : Addr} (h : S a.block) (v : Value) : Mod S w (w.setCell a v) :=
  ⟨rfl, rfl, rfl, by simp [World.setCell], fun k _ hs => Below.heap_setCell _ _ _ _ (fun e => hs (e ▸ h))⟩
theorem Mod.above {S : Nat → Prop} {w w' : World} (h : Mod S w w') {B : Nat} (hB : ∀ k, S k → k < B) : Above B w w' :=
  ⟨h.size, fun k hk hlt => h.block k hlt (fun hs => by have := hB k hs; omega)⟩
theorem Mod.below {S : Nat → Prop} {w w' : World} (h : Mod S w w') {B : Nat} (hB : ∀ k, S k → B ≤ k) (hBw : B ≤ w.heap.size) : Below B w w' :=
  ⟨h.os, h.tape, h.output, h.size, fun k hk => h.block k (by omega) (fun hs => by have := hB k hs; omega)⟩
theorem Mod.inRun (S : Nat → Prop) (w : World) : Mod S w (inRun w) := Mod.of_below (below_inRun w)

theorem calls16 (cap : Array Value) (w : World) : (callFunc 16 cap).run Try.prog w = .ok (.enter 16 cap) w := by simp [go_sem]
theorem calls17 (cap : Array Value) (w : World) : (callFunc 17 cap).run Try.prog w = .ok (.enter 17 cap) w := by simp [go_sem]

/-- The function behind so many guards: ins are the variables that hold the inner ones, the last one first. -/
def fOf (bm bt bb : Nat) : List Nat → Value
  | [] => .func (.func 16) #[] #[.pointer (some ⟨bm, 0, none⟩)]
  | b :: _ => .func (.func 17) #[] #[.pointer (some ⟨b, 0, none⟩), .pointer (some ⟨bm, 0, none⟩), .pointer (some ⟨bt, 0, none⟩), .pointer (some ⟨bb, 0, none⟩)]

def ChainAt (bm bt bb : Nat) (w : World) : List Nat → Prop
  | [] => True
  | b :: r => w.heap[b]? = some (.cells #[fOf bm bt bb r] 1 (0, 0)) ∧ ChainAt bm bt bb w r

/-- Met and behind. -/
def Two (bt bb : Nat) (k : Nat) : Prop := k = bt ∨ k = bb

theorem chain_mod {bm bt bb : Nat} {w w' : World} {x y : Value} (h : Mod (Two bt bb) w w') (ht : w.heap[bt]? = some (.cells #[x] 3 (0, 0))) (hb : w.heap[bb]? = some (.cells #[y] 3 (0, 0))) :
    ∀ ins, ChainAt bm bt bb w ins → ChainAt bm bt bb w' ins
  | [], _ => trivial
  | b :: r, ⟨h1, h2⟩ => by
    refine ⟨(h.block b (lt_of_block h1) ?_).trans h1, chain_mod h ht hb r h2⟩
    rintro (rfl | rfl)
    · rw [ht] at h1; simp at h1
    · rw [hb] at h1; simp at h1

/-- What stands ahead of a chain's call. -/
structure Ahead (bm bt bb : Nat) (m : Int) (ins : List Nat) (w : World) : Prop where
  chain : ChainAt bm bt bb w ins
  hm : w.heap[bm]? = some (.cells #[.int .i64 m] 3 (0, 0))
  ht : w.heap[bt]? = some (.cells #[.int .i64 0] 3 (0, 0))
  hb : w.heap[bb]? = some (.cells #[.int .i64 0] 3 (0, 0))

def NestTold (bt bb : Nat) (m : Int) (ins : List Nat) (w : World) (e : Ending) (w' : World) : Prop :=
  Mod (Two bt bb) w w' ∧
  ((ins = [] ∧ e = .returned (.tuple #[.agg #[.int .i64 m], .bool true]) ∧ w'.heap[bt]? = some (.cells #[.int .i64 0] 3 (0, 0)) ∧ w'.heap[bb]? = some (.cells #[.int .i64 0] 3 (0, 0))) ∨
   (ins ≠ [] ∧ e = .returned (.tuple #[.agg #[.int .i64 0], .bool false]) ∧ w'.heap[bt]? = some (.cells #[.int .i64 1] 3 (0, 0)) ∧ w'.heap[bb]? = some (.cells #[.int .i64 ins.length] 3 (0, 0))))

theorem ahead_mod {bm bt bb : Nat} {m : Int} {ins : List Nat} {w w' : World} (h : Ahead bm bt bb m ins w) (hb : Below w.heap.size w w') : Ahead bm bt bb m ins w' :=
  ⟨chain_mod (Mod.of_below hb) h.ht h.hb _ h.chain, (hb.block _ (lt_of_block h.hm)).trans h.hm, (hb.block _ (lt_of_block h.ht)).trans h.ht, (hb.block _ (lt_of_block h.hb)).trans h.hb⟩

set_option maxHeartbeats 400000 in
theorem nested0 (bm : Nat) (m : Int) (w : World) (hm : w.heap[bm]? = some (.cells #[.int .i64 m] 3 (0, 0))) :
    Calls Try.prog 16 #[.pointer (some ⟨bm, 0, none⟩)] w fun e w' => e = lostAt m ∧ w = w' := by
  have c := cell_of_one hm
  clear hm
  go_enter Try.func16, Try.ntmps16
  go_wp2_with fail
  refine (lose_any _ _).mono ?_
  rintro e w' ⟨rfl, rfl⟩
  go_wp2
  exact ⟨rfl, rfl, rfl⟩

set_option maxHeartbeats 400000 in
theorem nested_fn (bm bt bb b : Nat) (m : Int) (r : List Nat) (w : World) (hl : r.length ≤ 100) (hd : bm ≠ bt ∧ bm ≠ bb ∧ bt ≠ bb) (hA : Ahead bm bt bb m (b :: r) w)
    (ih : Calls Try.prog 18 #[fOf bm bt bb r] w (NestTold bt bb m r w)) :
    Calls Try.prog 17 #[.pointer (some ⟨b, 0, none⟩), .pointer (some ⟨bm, 0, none⟩), .pointer (some ⟨bt, 0, none⟩), .pointer (some ⟨bb, 0, none⟩)] w fun e w' =>
      e = .returned (.tuple #[]) ∧ Mod (Two bt bb) w w' ∧ w'.heap[bt]? = some (.cells #[.int .i64 1] 3 (0, 0)) ∧ w'.heap[bb]? = some (.cells #[.int .i64 ((b :: r).length : Nat)] 3 (0, 0)) := by
  have ci := cell_of_one hA.chain.1
  have IH := Lib.hid ih
  have HA := Lib.hid hA
  clear ih hA
  obtain ⟨hd1, hd2, hd3⟩ := hd
  go_enter Try.func17, Try.ntmps17
  go_wp2_with fail
  refine IH.out.mono ?_
  rintro e w1 ⟨hmod, hcase⟩
  have hmm := (hmod.block bm (lt_of_block HA.out.hm) (by rintro (h | h); exact hd1 h; exact hd2 h)).trans HA.out.hm
  have HM := Lib.hid hmod
  have HC := Lib.hid hcase
  clear hmod hcase IH
  rcases HC.out with ⟨rfl, he, h1, h2⟩ | ⟨hr, he, h1, h2⟩
  · subst he
    clear HC ci
    have cm := cell_of_one ((Below.heap_alloc w1 (.cells #[.int .i64 m] 28) _ (lt_of_block hmm)).trans hmm)
    have k1 := (Below.heap_alloc w1 (.cells #[.int .i64 m] 28) _ (lt_of_block h1)).trans h1
    have k2 := (Below.heap_alloc w1 (.cells #[.int .i64 m] 28) _ (lt_of_block h2)).trans h2
    have c1 := cell_of_one k1
    have f1 := free_of_one k1
    have k3 : ((w1.alloc (.cells #[.int .i64 m] 28)).setCell ⟨bt, 0, none⟩ (.int .i64 1)).heap[bb]? = _ := (Below.heap_setCell _ _ _ _ (fun e => hd3 e.symm)).trans k2
    have c2 := cell_of_one k3
    have f2 := free_of_one k3
    have K1 := Lib.hid k1
    have K3 := Lib.hid k3
    have hs1 := lt_of_block hmm
    clear hmm h1 h2 k1 k2 k3
    go_wp2
    go_end0
    refine ⟨rfl, HM.out.trans (((Mod.of_below ((Below.refl _ _).alloc (Nat.le_refl _) _)).trans (Mod.setCell (.inl rfl) _)).trans (Mod.setCell (.inr rfl) _)), ?_, one_setCell K3.out⟩
    exact (Below.heap_setCell _ _ _ _ hd3).trans (one_setCell K1.out)
  · subst he
    clear HC ci
    have k2 := (Below.heap_alloc w1 (.cells #[.int .i64 0] 28) _ (lt_of_block h2)).trans h2
    have k1 := (Below.heap_alloc w1 (.cells #[.int .i64 0] 28) _ (lt_of_block h1)).trans h1
    have c2 := cell_of_one k2
    have f2 := free_of_one k2
    have K1 := Lib.hid k1
    have K2 := Lib.hid k2
    clear hmm h1 h2 k1 k2
    go_wp2
    go_end0
    refine ⟨rfl, HM.out.trans ((Mod.of_below ((Below.refl _ _).alloc (Nat.le_refl _) _)).trans (Mod.setCell (.inr rfl) _)), ?_, ?_⟩
    · exact (Below.heap_setCell _ _ _ _ hd3).trans K1.out
    · have := one_setCell (u := .int .i64 ((r.length : Int) + 1)) K2.out
      simpa using this

/-- guard.Run of the function behind so many guards. -/
theorem nested_run (bm bt bb B : Nat) (m : Int) (hd : bm ≠ bt ∧ bm ≠ bb ∧ bt ≠ bb) (hB1 : bt < B) (hB2 : bb < B) : ∀ (ins : List Nat) (w : World), ins.length ≤ 100 → B ≤ w.heap.size → Ahead bm bt bb m ins w →
    Calls Try.prog 18 #[fOf bm bt bb ins] w (NestTold bt bb m ins w) := by
  have hS : ∀ k, Two bt bb k → k < B := by rintro k (rfl | rfl) <;> assumption
  intro ins
  induction ins with
  | nil =>
    intro w _ hB hA
    have hA1 := ahead_mod hA (below_inRun w)
    refine (run_lost B 16 _ m w hB (fun w1 => w1 = inRun w) (fun w => calls16 _ w) ((nested0 bm m _ hA1.hm).mono ?_)).mono ?_
    · rintro e w1 ⟨rfl, rfl⟩
      exact ⟨rfl, rfl, Above.refl _ _⟩
    · rintro e w' ⟨rfl, _, w1, rfl, hw⟩
      have hb : Below w.heap.size w w' := (below_inRun w).trans hw
      have h2 := ahead_mod hA hb
      exact ⟨Mod.of_below hb, .inl ⟨rfl, rfl, h2.ht, h2.hb⟩⟩
  | cons b r ih =>
    intro w hl hB hA
    simp only [List.length_cons] at hl
    have hA1 := ahead_mod hA (below_inRun w)
    have hB1 : B ≤ (inRun w).heap.size := by rw [inRun_size]; omega
    refine (run_ret B 17 _ w hB (fun w1 => Mod (Two bt bb) (inRun w) w1 ∧ w1.heap[bt]? = some (.cells #[.int .i64 1] 3 (0, 0)) ∧ w1.heap[bb]? = some (.cells #[.int .i64 ((b :: r).length : Nat)] 3 (0, 0))) (fun w => calls17 _ w)
      ((nested_fn bm bt bb b m r _ (by omega) hd hA1 (ih _ (by omega) hB1 ⟨hA1.chain.2, hA1.hm, hA1.ht, hA1.hb⟩)).mono ?_)).mono ?_
    · rintro e w1 ⟨rfl, hm, h1, h2⟩
      exact ⟨rfl, ⟨hm, h1, h2⟩, hm.above hS⟩
    · rintro e w' ⟨rfl, _, w1, ⟨hm, h1, h2⟩, hw⟩
      have hmw : Mod (Two bt bb) w w1 := (Mod.inRun _ w).trans hm
      have hw1 : Mod (Two bt bb) w w' := ⟨hw.os.trans hmw.os, hw.tape.trans hmw.tape, hw.output.trans hmw.output, Nat.le_trans hmw.size hw.size, fun k hk hs => (hw.block k hk).trans (hmw.block k hk hs)⟩
      exact ⟨hw1, .inr ⟨by simp, rfl, (hw.block _ (by omega)).trans h1, (hw.block _ (by omega)).trans h2⟩⟩

theorem fOf_form (bm bt bb : Nat) (ins : List Nat) : ∃ f cap, fOf bm bt bb ins = .func (.func f) #[] cap := by cases ins <;> exact ⟨_, _, rfl⟩

theorem chain_below {bm bt bb : Nat} {w w' : World} (h : Below w.heap.size w w') : ∀ ins, ChainAt bm bt bb w ins → ChainAt bm bt bb w' ins
  | [], _ => trivial
  | _ :: r, ⟨h1, h2⟩ => ⟨(h.block _ (lt_of_block h1)).trans h1, chain_below h r h2⟩

set_option maxHeartbeats 1000000 in
theorem nested_walk (n m : Int) (w : World) (hn : -9223372036854775808 ≤ n ∧ n ≤ 9223372036854775807) :
    Calls Try.prog 5 #[.int .i64 n, .int .i64 m] w fun e w' => e = .returned (.bool true) ∧ Below w.heap.size w w' := by
  obtain ⟨d, hd⟩ : ∃ d : Nat, max 0 n % 50 = d := ⟨(max 0 n % 50).toNat, by omega⟩
  have hd50 : d < 50 := by omega
  have HD := Lib.hid hd
  clear hd
  go_enter Try.func5, Try.ntmps5
  go_wp2_with fail
  refine (alive_any _).mono ?_
  rintro e w1 ⟨rfl, h1⟩
  have hbm : w1.heap[w.heap.size]? = some (.cells #[.int .i64 m] 3 (0, 0)) := (h1.block _ (by simp)).trans (heap_alloc_new _ _)
  have hbm1 := lt_of_block hbm
  have HBM := Lib.hid hbm
  have H1 := Lib.hid h1
  clear h1 hbm
  go_wp2_with fail
  rw [HD.out]
  clear HD
  go_loopw [8, 19] (fun v i wr => ∃ ins : List Nat, ins.length ≤ d ∧ i = .int .i64 ins.length ∧ v = fOf w.heap.size w1.heap.size (w1.heap.size + 1) ins ∧ ChainAt w.heap.size w1.heap.size (w1.heap.size + 1) wr ins ∧
    Below (w1.heap.size + 2) ((w1.alloc (.cells #[.int .i64 0] 3)).alloc (.cells #[.int .i64 0] 3)) wr) (fun _ i _ => d - (intOf i).toNat)
  case atStart => exact ⟨[], by simp, rfl, rfl, trivial, Below.refl _ _⟩
  case round =>
    obtain ⟨ins, hl, rfl, rfl, hch, hbe⟩ := hrel
    have hwr : w1.heap.size + 2 ≤ wr.heap.size := by have := hbe.size; simpa using this
    have HCH := Lib.hid hch
    have HBE := Lib.hid hbe
    clear hch hbe
    by_cases hlt : ins.length < d
    · obtain ⟨fi, cap, hf⟩ := fOf_form w.heap.size w1.heap.size (w1.heap.size + 1) ins
      rw [hf]
      have HF := Lib.hid hf
      clear hf
      go_wp2
      go_roundw
      case rel =>
        have hal : Below wr.heap.size wr (wr.alloc (.cells #[.func (.func fi) #[] cap] 1)) := (Below.refl _ _).alloc (Nat.le_refl _) _
        exact ⟨wr.heap.size :: ins, by simp; omega, by simp, rfl, ⟨by rw [HF.out]; exact heap_alloc_new _ _, chain_below hal _ HCH.out⟩, HBE.out.alloc hwr _⟩
      case measure => simp [intOf]; omega
    · have hld : ins.length = d := by omega
      have k0 : wr.heap[w.heap.size]? = some (.cells #[.int .i64 m] 3 (0, 0)) :=
        (HBE.out.block _ (by omega)).trans ((Below.heap_alloc _ _ _ (by simp; omega)).trans ((Below.heap_alloc _ _ _ hbm1).trans HBM.out))
      have k1 : wr.heap[w1.heap.size]? = some (.cells #[.int .i64 0] 3 (0, 0)) :=
        (HBE.out.block _ (by omega)).trans ((Below.heap_alloc _ _ _ (by simp)).trans (heap_alloc_new _ _))
      have k2 : wr.heap[w1.heap.size + 1]? = some (.cells #[.int .i64 0] 3 (0, 0)) := by
        have h := heap_alloc_new (w1.alloc (.cells #[.int .i64 0] 3)) (.cells #[.int .i64 0] 3)
        have e : (w1.alloc (.cells #[.int .i64 0] 3)).heap.size = w1.heap.size + 1 := by simp
        rw [e] at h
        exact (HBE.out.block _ (by omega)).trans h
      have HR := Lib.hid (nested_run w.heap.size w1.heap.size (w1.heap.size + 1) (w1.heap.size + 2) m (by omega) (by omega) (by omega) ins wr (by omega) hwr ⟨HCH.out, k0, k1, k2⟩)
      have K0 := Lib.hid k0
      have hbw : Hid (Below w.heap.size w wr) := Lib.hid ((((Below.refl w.heap.size w).alloc (Nat.le_refl _) _).trans (H1.out.mono (by simp))).trans ((((Below.refl w.heap.size w1).alloc (by omega) _).alloc (by simp; omega) _).trans (HBE.out.mono (by omega))))
      clear k0 k1 k2
      rw [hld]
      have hd0 : ins = [] ↔ d = 0 := by rw [← hld]; simp
      have HD0 := Lib.hid hd0
      have HLD := Lib.hid hld
      clear hld hlt hl hd0
      go_wp2_with fail
      refine HR.out.mono ?_
      rintro e w2 ⟨hm2, hcase⟩
      have hs2 := hm2.size
      have c0 := cell_of_one ((Below.heap_alloc w2 (.cells #[.int .i64 m] 28) _ (by omega)).trans ((hm2.block w.heap.size (lt_of_block K0.out) (by rintro (h | h) <;> omega)).trans K0.out))
      have HB2 : Hid (Below w.heap.size w w2) := Lib.hid (hbw.out.trans (hm2.below (by rintro k (rfl | rfl) <;> omega) (by omega)))
      have HCS := Lib.hid hcase
      clear hm2 hcase HR
      rcases HCS.out with ⟨h0, he, h1, h2⟩ | ⟨hr, he, h1, h2⟩
      · subst he
        have hd0 : d = 0 := HD0.out.1 h0
        clear HCS h1 h2 h0
        subst hd0
        go_wp2
        go_ret
        exact ⟨rfl, HB2.out.alloc (by omega) _⟩
      · subst he
        have hd0 : ¬ d = 0 := fun e => hr (HD0.out.2 e)
        have hd1 : ((d : Int) == 0) = false := by simpa using hd0
        rw [HLD.out] at h2
        have e1 := cell_of_one ((Below.heap_alloc w2 (.cells #[.int .i64 0] 28) _ (lt_of_block h1)).trans h1)
        have e2 := cell_of_one ((Below.heap_alloc w2 (.cells #[.int .i64 0] 28) _ (lt_of_block h2)).trans h2)
        clear HCS h1 h2 hr hd0 c0
        go_wp2
        go_ret
        exact ⟨rfl, HB2.out.alloc (by omega) _⟩

/-- GuardNested, whatever its numbers. -/
theorem guardNested_walk {W : World} (n : Int) (wn : (Lit.int .i64 n).wf = true) (m : Int) (_wm : (Lit.int .i64 m).wf = true) :
    Calls Try.prog 5 #[.int .i64 n, .int .i64 m] W fun e w' => e = .returned (.bool true) ∧ Below W.heap.size W w' := by
  refine nested_walk n m W ?_
  have h := wn
  simp only [Lit.wf, Bool.and_eq_true, decide_eq_true_eq] at h
  have hmin : IntKind.i64.min = -9223372036854775808 := rfl
  have hmax : IntKind.i64.max = 9223372036854775807 := rfl
  omega

end Go.Proofs.Ytehlacbebahmdaa
