/- DiskSafe: what lies where, behind the acts, behind the reads, behind the power's going. -/
import Derived.Test.YtjbhdidjkdlceaaDoorRun
import Derived.Maps.AppendAt
namespace Go.Proofs.YtjbhdidjkdlceaaDoor
open Go.RowKit Go.Maps
set_option linter.unusedVariables false

theorem info34 : (Tryd.prog.info? 34).map (fun i => (i.zero, i.size, i.bytes)) = some (some (.slice none 0 0), 1, 24) := by kernel_rfl
theorem info3 : (Tryd.prog.info? 3).map (fun i => (i.zero, i.size, i.bytes)) = some (some (.int .i64 0), 1, 8) := by kernel_rfl

/-- A disk of which nothing lies in what is made from now on. -/
theorem Lies.wide {X : Nat → Prop} {D M : Nat} {s : PS} {w : World} (h : Lies X D M s w) : Lies (fun k => X k ∨ w.heap.size ≤ k) D M s w := by
  obtain ⟨fs, h1, h2, h3⟩ := h.ex
  refine ⟨fs, h1, h2, fun k hk hx => ?_⟩
  rcases hx with hx | hx
  · exact h3 k hk hx
  · have := h2.old hk
    omega

/-- Reading the disk s, that lies in w0's memory: only what is new has turned. -/
structure Reads (w1 w0 : World) (s : PS) (w : World) : Prop where
  lies : Lies (fun k => k < w1.heap.size ∨ w0.heap.size ≤ k) (w1.heap.size + 1) w1.heap.size s w
  ok : Ok 100000 100000 s
  first : Below w1.heap.size w1 w0
  below : Below w0.heap.size w0 w

theorem Reads.of {w1 w0 : World} {s : PS} (h : At w1 s w0) : Reads w1 w0 s w0 := ⟨h.room.lies.wide, h.room.ok, h.below, Below.refl _ _⟩
theorem Reads.at {w1 w0 w : World} {s : PS} (h : Reads w1 w0 s w) : At w1 s w := by
  have hb : Below w1.heap.size w1 w := h.first.trans (h.below.mono h.first.size)
  exact ⟨⟨h.lies.mono (fun k hk => .inl hk), h.ok, fun k hk => Nat.lt_of_lt_of_le hk hb.size⟩, hb⟩
theorem Reads.more {w1 w0 w w' : World} {s : PS} (h : Reads w1 w0 s w) (k : Below w0.heap.size w w') : Reads w1 w0 s w' :=
  ⟨h.lies.keep (S_of k) (fun t ht => .inl ht), h.ok, h.first, h.below.trans k⟩
where S_of {w1 w0 w w' : World} (k : Below w0.heap.size w w') : Mod (fun t => t < w1.heap.size ∨ w0.heap.size ≤ t) w w' := ⟨k.os, k.tape, k.output, k.size, fun t ht hs => k.block t (Nat.lt_of_not_le fun h => hs (.inr h))⟩

/-- The files' names as they lie. -/
def nameV (f : VF) : Value := .string ⟨f.name.toArray⟩

/-- The reads of some files, gathered. -/
structure Gathered (B : Nat) (L : List VF) (j : Nat) (nv av sv : Value) (w : World) : Prop where
  names : w.ownsRow B 9 1 nv L.length (L.map nameV)
  all : ∃ vs : List Value, w.ownsRow B 34 1 av j vs ∧ ∀ (i : Nat) (v : Value), vs[i]? = some v → ∃ f a c, L[i]? = some f ∧ v = .slice a f.b.length c ∧ w.ownsRow B 5 1 (.slice a f.b.length c) f.b.length (f.b.map bv)
  safe : w.ownsRow B 3 1 sv j ((L.take j).map (fun f => Value.int .i64 f.safe))

theorem Gathered.keep {S : Nat → Prop} {B : Nat} {L : List VF} {j : Nat} {nv av sv : Value} {w w' : World} (h : Gathered B L j nv av sv w) (m : Mod S w w') (hS : ∀ k, B ≤ k → k < w.heap.size → ¬ S k) : Gathered B L j nv av sv w' := by
  have hk : ∀ {e : TypeId} {v : Value} {n : Nat} {xs : List Value}, w.ownsRow B e 1 v n xs → w'.ownsRow B e 1 v n xs := fun hr => m.row hr (fun k hk => hS k (hr.lt k hk).1 (hr.lt k hk).2)
  obtain ⟨vs, h1, h2⟩ := h.all
  refine ⟨hk h.names, ⟨vs, hk h1, fun i v hv => ?_⟩, hk h.safe⟩
  obtain ⟨f, a, c, g1, g2, g3⟩ := h2 i v hv
  exact ⟨f, a, c, g1, g2, hk g3⟩

theorem Gathered.below {B : Nat} {L : List VF} {j : Nat} {nv av sv : Value} {w w' : World} (h : Gathered B L j nv av sv w) (m : Below w.heap.size w w') : Gathered B L j nv av sv w' :=
  h.keep (Mod.of_below (S := fun _ => False) m) (fun _ _ _ => id)

/-- One file's bytes more. -/
theorem Gathered.all_more {B : Nat} {L : List VF} {j : Nat} {nv av sv : Value} {w w' : World} (h : Gathered B L j nv av sv w) {f : VF} (hf : L[j]? = some f) {a : Option Addr} {c : Nat} (hrow : w.ownsRow B 5 1 (.slice a f.b.length c) f.b.length (f.b.map bv))
    {av' : Value} (hg : w.grownBy w' av.ownBlock) {vs : List Value} (hv : w.ownsRow B 34 1 av j vs) (hv2 : ∀ (i : Nat) (v : Value), vs[i]? = some v → ∃ f a c, L[i]? = some f ∧ v = .slice a f.b.length c ∧ w.ownsRow B 5 1 (.slice a f.b.length c) f.b.length (f.b.map bv))
    (hn : w'.ownsRow B 34 1 av' (j + 1) (vs ++ [.slice a f.b.length c])) :
    w'.ownsRow B 9 1 nv L.length (L.map nameV) ∧ (∃ vs' : List Value, w'.ownsRow B 34 1 av' (j + 1) vs' ∧ ∀ (i : Nat) (v : Value), vs'[i]? = some v → ∃ f a c, L[i]? = some f ∧ v = .slice a f.b.length c ∧ w'.ownsRow B 5 1 (.slice a f.b.length c) f.b.length (f.b.map bv)) ∧
      w'.ownsRow B 3 1 sv j ((L.take j).map (fun f => Value.int .i64 f.safe)) := by
  have m : Mod (fun t => av.ownBlock = some t) w w' := Mod.grown hg (fun k hk => hk)
  have hlen : vs.length = j := by have := hv.1; omega
  have keep5 : ∀ {a c n} {xs : List Value}, w.ownsRow B 5 1 (.slice a n c) n xs → w'.ownsRow B 5 1 (.slice a n c) n xs := fun hr => m.row hr (fun k hk hs => rows_apart hr hv (by decide) k hk hs)
  refine ⟨m.row h.names (fun k hk hs => rows_apart h.names hv (by decide) k hk hs), ⟨_, hn, fun i v hi => ?_⟩, m.row h.safe (fun k hk hs => rows_apart h.safe hv (by decide) k hk hs)⟩
  rcases Nat.lt_or_ge i j with hij | hij
  · rw [List.getElem?_append_left (by omega)] at hi
    obtain ⟨f, a, c, g1, g2, g3⟩ := hv2 i v hi
    exact ⟨f, a, c, g1, g2, keep5 g3⟩
  · rw [List.getElem?_append_right (by omega), hlen] at hi
    have : i = j := by
      rcases Nat.lt_or_ge (i - j) 1 with h1 | h1
      · omega
      · rw [List.getElem?_eq_none (by simpa using h1)] at hi
        cases hi
    subst this
    simp at hi
    subst hi
    exact ⟨f, a, c, hf, rfl, keep5 hrow⟩

/-- The bytes are gathered, how many are safe is not yet. -/
structure Half (B : Nat) (L : List VF) (j : Nat) (nv av sv : Value) (w : World) : Prop where
  names : w.ownsRow B 9 1 nv L.length (L.map nameV)
  all : ∃ vs : List Value, w.ownsRow B 34 1 av (j + 1) vs ∧ ∀ (i : Nat) (v : Value), vs[i]? = some v → ∃ f a c, L[i]? = some f ∧ v = .slice a f.b.length c ∧ w.ownsRow B 5 1 (.slice a f.b.length c) f.b.length (f.b.map bv)
  safe : w.ownsRow B 3 1 sv j ((L.take j).map (fun f => Value.int .i64 f.safe))

theorem Half.keep {S : Nat → Prop} {B : Nat} {L : List VF} {j : Nat} {nv av sv : Value} {w w' : World} (h : Half B L j nv av sv w) (m : Mod S w w') (hS : ∀ k, B ≤ k → k < w.heap.size → ¬ S k) : Half B L j nv av sv w' := by
  have hk : ∀ {e : TypeId} {v : Value} {n : Nat} {xs : List Value}, w.ownsRow B e 1 v n xs → w'.ownsRow B e 1 v n xs := fun hr => m.row hr (fun k hk => hS k (hr.lt k hk).1 (hr.lt k hk).2)
  obtain ⟨vs, h1, h2⟩ := h.all
  refine ⟨hk h.names, ⟨vs, hk h1, fun i v hv => ?_⟩, hk h.safe⟩
  obtain ⟨f, a, c, g1, g2, g3⟩ := h2 i v hv
  exact ⟨f, a, c, g1, g2, hk g3⟩

theorem Half.more {B : Nat} {L : List VF} {j : Nat} {nv av sv sv' : Value} {w w' : World} (h : Half B L j nv av sv w) {f : VF} (hf : L[j]? = some f) (hg : w.grownBy w' sv.ownBlock)
    (hn : w'.ownsRow B 3 1 sv' (j + 1) ((L.take j).map (fun f => Value.int .i64 f.safe) ++ [.int .i64 f.safe])) : Gathered B L (j + 1) nv av sv' w' := by
  have m : Mod (fun t => sv.ownBlock = some t) w w' := Mod.grown hg (fun k hk => hk)
  have hk : ∀ {e : TypeId} {v : Value} {n : Nat} {xs : List Value}, e ≠ 3 → w.ownsRow B e 1 v n xs → w'.ownsRow B e 1 v n xs := fun he hr => m.row hr (fun k hk hs => rows_apart hr h.safe he k hk hs)
  obtain ⟨vs, h1, h2⟩ := h.all
  refine ⟨hk (by decide) h.names, ⟨vs, hk (by decide) h1, fun i v hv => ?_⟩, ?_⟩
  · obtain ⟨f, a, c, g1, g2, g3⟩ := h2 i v hv
    exact ⟨f, a, c, g1, g2, hk (by decide) g3⟩
  · rw [List.take_add_one, hf, Option.toList_some, List.map_append]
    exact hn

theorem Gathered.half {B : Nat} {L : List VF} {j : Nat} {nv av sv : Value} {w w' : World} (h : Gathered B L j nv av sv w) {f : VF} (hf : L[j]? = some f) {a : Option Addr} {c : Nat} (hrow : w.ownsRow B 5 1 (.slice a f.b.length c) f.b.length (f.b.map bv))
    {av' : Value} (hg : w.grownBy w' av.ownBlock) {vs : List Value} (hv : w.ownsRow B 34 1 av j vs) (hv2 : ∀ (i : Nat) (v : Value), vs[i]? = some v → ∃ f a c, L[i]? = some f ∧ v = .slice a f.b.length c ∧ w.ownsRow B 5 1 (.slice a f.b.length c) f.b.length (f.b.map bv))
    (hn : w'.ownsRow B 34 1 av' (j + 1) (vs ++ [.slice a f.b.length c])) : Half B L j nv av' sv w' := by
  obtain ⟨h1, h2, h3⟩ := h.all_more hf hrow hg hv hv2 hn
  exact ⟨h1, h2, h3⟩

theorem grown_below {B : Nat} {e : TypeId} {v : Value} {n : Nat} {xs : List Value} {w w' : World} (h : w.ownsRow B e 1 v n xs) (hB : B ≤ w.heap.size) (hg : w.grownBy w' v.ownBlock) : Below B w w' :=
  (Mod.grown (S := fun t => v.ownBlock = some t) hg (fun k hk => hk)).below (fun k hk => (h.lt k hk).1) hB

theorem findV_at {L : List VF} (h : Sorted L) {j : Nat} {f : VF} (hf : L[j]? = some f) : findV L f.name = some f := by
  have hm : f ∈ L := List.mem_of_getElem? hf
  cases hx : findV L f.name with
  | none =>
    unfold findV at hx
    rw [List.find?_eq_none] at hx
    have := hx f hm
    simp at this
  | some g =>
    obtain ⟨g1, g2⟩ := findV_mem hx
    rw [h.uniq g1 hm g2]

theorem safeV_at {L : List VF} (h : Sorted L) {j : Nat} {f : VF} (hf : L[j]? = some f) : safeV L f.name = f.safe := by
  unfold safeV
  rw [findV_at h hf]
  rfl

theorem name_size {s : PS} {a t : Nat} (h : Ok a t s) {j : Nat} {f : VF} (hf : s.L[j]? = some f) : f.name.length ≤ 32 := by
  have hn := h.named f (List.mem_of_getElem? hf)
  unfold isName at hn
  simp only [Bool.and_eq_true, decide_eq_true_eq] at hn
  exact hn.1.2

theorem cut_at {L : List VF} {k : Int} {j : Nat} {f : VF} (hf : L[j]? = some f) : (L.map (cutW k))[j]? = some (cutW k f) := by
  rw [List.getElem?_map, hf]
  rfl

theorem wpList_append_slice {ops : Array Oper} {rest : List Oper} {o : Oper} {a : Act} {Q : Exit → Act → World → Prop} (hgd : o.guard = none) (s xo : Operand) (ho : o.op = .call { callee := .builtin .append, args := #[s, xo], argTypes := #[61, 61] })
    (w0 : World) (B : Nat) (av : Value) (j : Nat) (vs : List Value) (hs : a.eval s = av) (hrow : w0.ownsRow B 34 1 av j vs) (hB : B ≤ w0.heap.size) (hj : j ≤ 1000) (g : Nat) (ra : Option Addr) (n rc : Nat) (hx : a.eval xo = .slice (some ⟨g, 0, none⟩) 1 1) (hc : w0.cell? ⟨g, 0, none⟩ = some (.slice ra n rc))
    (h : ∀ aa ac w', w'.ownsRow B 34 1 (.slice aa (j + 1) ac) (j + 1) (vs ++ [.slice ra n rc]) → w0.grownBy w' av.ownBlock → wpList Tryd.prog ops Q rest (a.put o.dst (.slice aa (j + 1) ac)) w') : wpList Tryd.prog ops Q (o :: rest) a w0 := by
  obtain ⟨i0, hin, hz0, hz1, hz2⟩ := info_parts info34
  refine wpList_append_own_at w0 hgd s xo 61 ho B 34 i0 (.slice none 0 0) 1 24 Tryd.underlying61 hin hz0 hz1 hz2 rfl (by decide) av j vs hs hrow ⟨g, 0, none⟩ 1 1 [.slice ra n rc] hx rfl (fun k u hu => ?_) (fun u hu => ?_) (by unfold maxLen; omega) (by omega) hB (fun v' w' h1 h2 _ _ => ?_)
  · rcases k with _ | k
    · simp at hu
      subst hu
      rw [Addr.add_lit]
      exact hc
    · simp at hu
  · simp only [List.mem_singleton] at hu
    subst hu
    rfl
  · obtain ⟨aa, ac, rfl⟩ := slice_form h1
    exact h aa ac w' h1 h2

theorem wpList_append_int {ops : Array Oper} {rest : List Oper} {o : Oper} {a : Act} {Q : Exit → Act → World → Prop} (hgd : o.guard = none) (s xo : Operand) (ho : o.op = .call { callee := .builtin .append, args := #[s, xo], argTypes := #[62, 62] })
    (w0 : World) (B : Nat) (av : Value) (j : Nat) (vs : List Value) (hs : a.eval s = av) (hrow : w0.ownsRow B 3 1 av j vs) (hB : B ≤ w0.heap.size) (hj : j ≤ 1000) (g : Nat) (z : Int) (hx : a.eval xo = .slice (some ⟨g, 0, none⟩) 1 1) (hc : w0.cell? ⟨g, 0, none⟩ = some (.int .i64 z))
    (h : ∀ aa ac w', w'.ownsRow B 3 1 (.slice aa (j + 1) ac) (j + 1) (vs ++ [.int .i64 z]) → w0.grownBy w' av.ownBlock → wpList Tryd.prog ops Q rest (a.put o.dst (.slice aa (j + 1) ac)) w') : wpList Tryd.prog ops Q (o :: rest) a w0 := by
  obtain ⟨i0, hin, hz0, hz1, hz2⟩ := info_parts info3
  refine wpList_append_own_at w0 hgd s xo 62 ho B 3 i0 (.int .i64 0) 1 8 Tryd.underlying62 hin hz0 hz1 hz2 rfl (by decide) av j vs hs hrow ⟨g, 0, none⟩ 1 1 [.int .i64 z] hx rfl (fun k u hu => ?_) (fun u hu => ?_) (by unfold maxLen; omega) (by omega) hB (fun v' w' h1 h2 _ _ => ?_)
  · rcases k with _ | k
    · simp at hu
      subst hu
      rw [Addr.add_lit]
      exact hc
    · simp at hu
  · simp only [List.mem_singleton] at hu
    subst hu
    rfl
  · obtain ⟨aa, ac, rfl⟩ := slice_form h1
    exact h aa ac w' h1 h2

theorem cut_facts (k : Int) {f : VF} (h : f.safe ≤ f.b.length) : f.safe ≤ keepW k f ∧ keepW k f ≤ f.b.length ∧ (k ≤ 0 → keepW k f = f.safe) ∧ ((f.b.length : Int) ≤ k → keepW k f = f.b.length) := by
  have := keepW_le (k := k) h
  refine ⟨this.2, this.1, fun hk => ?_, fun hk => ?_⟩ <;> unfold keepW <;> omega

theorem Reads.power {w3 wB w : World} {s : PS} (h : Reads w3 wB s w) (k : Int) (hok : Ok 100000 100000 (s.power k).2) :
    Calls Tryd.prog 26 #[.pointer (some ⟨w3.heap.size + 1, 0, none⟩), .int .i64 k] w fun e w' => e = .returned (.int .i64 0) ∧ Reads w3 w' (s.power k).2 w' ∧ Mod (fun t => ¬ (t < w3.heap.size ∨ (wB.heap.size ≤ t ∧ t < w.heap.size))) w w' := by
  have h1 := h.first.size
  have h2 := h.below.size
  have hr : Room (fun t => t < w3.heap.size ∨ (wB.heap.size ≤ t ∧ t < w.heap.size)) (w3.heap.size + 1) w3.heap.size s w := ⟨h.lies.mono (fun t ht => ht.imp id (fun h => h.1)), h.ok, fun t ht => by rcases ht with h3 | h3 <;> omega⟩
  refine (power_law hr k).mono ?_
  rintro e w' ⟨rfl, hw⟩
  refine ⟨rfl, Reads.of ⟨⟨hw.lies.mono (fun t ht => .inl ht), hok, fun t ht => ?_⟩, ?_⟩, hw.mod⟩
  · have := hw.mod.size
    omega
  · exact h.at.below.trans (hw.mod.below (fun t ht => Nat.le_of_not_lt (fun hlt => ht (.inl hlt))) (Nat.le_trans h1 h2))

theorem Gathered.cells {B N j ga ca gs cs : Nat} {L : List VF} {nv : Value} {w : World} (h : Gathered B L N nv (.slice (some ⟨ga, 0, none⟩) N ca) (.slice (some ⟨gs, 0, none⟩) N cs) w) {f : VF} (hf : L[j]? = some f) (hlt : j < N) :
    w.cell? ⟨gs, j, none⟩ = some (.int .i64 f.safe) ∧ ∃ a c, w.cell? ⟨ga, j, none⟩ = some (.slice a f.b.length c) ∧ BytesAt w a f.b ∧ f.b.length ≤ c ∧ (a = none → f.b.length = 0 ∧ c = 0) ∧ (∀ ad, a = some ad → ∃ g, ad = ⟨g, 0, none⟩) := by
  obtain ⟨vs, h1, h2⟩ := h.all
  have hs := h.safe
  constructor
  · rw [hs.cellAt j (by omega), List.getElem?_map, List.getElem?_take, if_pos hlt, hf]
    rfl
  · have hlen : vs.length = N := by have := h1.1; omega
    obtain ⟨v, hv⟩ : ∃ v, vs[j]? = some v := ⟨vs[j]'(by omega), List.getElem?_eq_getElem _⟩
    obtain ⟨f', a, c, g1, rfl, g3⟩ := h2 j v hv
    rw [hf] at g1
    obtain rfl := Option.some.inj g1
    refine ⟨a, c, (h1.cellAt j (by omega)).trans hv, bytes_of_row g3, ?_⟩
    rcases g3.2 with ⟨e1, e2⟩ | ⟨g, cap, cur, e1, _, _, e2, _⟩
    · simp only [Value.slice.injEq] at e1
      obtain ⟨rfl, e3, rfl⟩ := e1
      exact ⟨by omega, (fun _ => ⟨e2, rfl⟩), (fun ad had => by cases had)⟩
    · simp only [Value.slice.injEq, true_and] at e1
      obtain ⟨rfl, rfl⟩ := e1
      exact ⟨e2, (fun hn => by cases hn), (fun ad had => ⟨g, by cases had; rfl⟩)⟩

end Go.Proofs.YtjbhdidjkdlceaaDoor
