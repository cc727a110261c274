/- New, and what a disk tells, by contracts in plain words. -/
import Derived.Test.YtjbhdidjkdlceaaDoorLies
namespace Go.Proofs.YtjbhdidjkdlceaaDoor
open Go.RowKit Go.Maps Go.Sort Go.Shelf
set_option linter.unusedVariables false

theorem Lies.mono {X X' : Nat → Prop} {D M : Nat} {s : PS} {w : World} (h : Lies X D M s w) (hX : ∀ k, X' k → X k) : Lies X' D M s w := by
  obtain ⟨fs, h1, h2, h3⟩ := h.ex
  exact ⟨fs, h1, h2, fun k hk hx => h3 k hk (hX k hx)⟩

def newS (n : Int) : PS := ⟨[], n, 0, 0, 0, 0, 0⟩

theorem newS_ok {n : Int} (h1 : 0 ≤ n) (h2 : n ≤ 1073741824) : Ok 0 0 (newS n) :=
  ⟨List.Pairwise.nil, fun f hf => by simp [newS] at hf, fun f hf => by simp [newS] at hf, rfl, Nat.le_refl _, Nat.le_refl _, ⟨Int.le_refl 0, Int.le_refl 0⟩, ⟨h1, h2⟩, ⟨Int.le_refl 0, (by decide : (0 : Int) ≤ 9223372036854775807)⟩⟩

theorem new_law (n : Int) (h1 : 0 ≤ n) (h2 : n ≤ 1073741824) (w : World) :
    Calls Tryd.prog 12 #[.int .i64 n] w fun e w' => e = .returned (.tuple #[.pointer (some ⟨w.heap.size + 1, 0, none⟩), .int .i64 0]) ∧ Below w.heap.size w w' ∧ Lies (fun k => k < w.heap.size) (w.heap.size + 1) w.heap.size (newS n) w' := by
  refine (new_any n h1 h2 w).mono ?_
  rintro e w' ⟨rfl, hb, hd⟩
  refine ⟨rfl, hb, [], rfl, hd, fun k hk hx => ?_⟩
  rcases hk with h | h | ⟨f, hf, _⟩
  · omega
  · omega
  · cases hf

theorem strKeys_dataOf (fs : List PF) : strKeys (dataOf fs) = fs.map (·.name) := by
  unfold strKeys dataOf
  simp only [List.map_map]
  refine List.map_congr_left fun f _ => ?_
  simp only [Function.comp_apply, entry, strOf]

/-- What Names tells. -/
structure NamesTold (s : PS) (w : World) (e : Ending) (w' : World) : Prop where
  ex : ∃ (a : Option Addr) (c : Nat), e = .returned (.slice a s.L.length c) ∧ w'.ownsRow w.heap.size 9 1 (.slice a s.L.length c) s.L.length ((s.L.map (·.name)).map encStr)
  below : Below w.heap.size w w'

theorem names_law {X : Nat → Prop} {D M : Nat} {s : PS} {w : World} (h : Room X D M s w) :
    Calls Tryd.prog 28 #[.pointer (some ⟨D, 0, none⟩)] w (NamesTold s w) := by
  obtain ⟨fs, hv, hd, hF⟩ := h.lies.ex
  refine (names_any D M fs _ _ _ _ _ _ (num_of h.ok hv) w hd).mono ?_
  rintro e w' ⟨a, c, ss, rfl, hp, hr, hb⟩
  have hn : fs.map (·.name) = s.L.map (·.name) := by
    rw [← hv]
    unfold vs
    rw [List.map_map]
    rfl
  rw [strKeys_dataOf, hn] at hp
  have hlen : ss.length = s.L.length := by
    have := hp.length_eq
    rw [List.length_map] at this
    exact this
  rw [sorted_names h.ok.sorted hp, hlen] at hr
  rw [hlen]
  exact ⟨⟨a, c, rfl, hr⟩, hb⟩

/-- What Read tells of a file. -/
structure ReadTold (b : List UInt8) (w : World) (e : Ending) (w' : World) : Prop where
  ex : ∃ (a : Option Addr) (c : Nat), e = .returned (.tuple #[.slice a b.length c, .int .i64 0]) ∧ w'.ownsRow w.heap.size 5 1 (.slice a b.length c) b.length (b.map bv)
  below : Below w.heap.size w w'

theorem read_law {X : Nat → Prop} {D M : Nat} {s : PS} {w : World} (h : Room X D M s w) (nm : ByteArray) (hs : nm.size ≤ 9223372036854775807) (f : VF) (hf : findV s.L nm.data.toList = some f) :
    Calls Tryd.prog 18 #[.pointer (some ⟨D, 0, none⟩), .string nm] w (ReadTold f.b w) := by
  obtain ⟨fs, hv, hd, hF⟩ := h.lies.ex
  obtain ⟨g, hg, rfl⟩ := findF_some hv hf
  refine (read_found D M fs _ _ _ _ _ _ nm hs g hg (lens_of h.ok hv g (List.mem_of_find?_eq_some hg)) w hd).mono ?_
  rintro e w' ⟨a, c, rfl, hb, hr⟩
  exact ⟨⟨a, c, rfl, hr⟩, hb⟩

theorem read_law_none {X : Nat → Prop} {D M : Nat} {s : PS} {w : World} (h : Room X D M s w) (nm : ByteArray) (hs : nm.size ≤ 9223372036854775807) (hf : findV s.L nm.data.toList = none) :
    Calls Tryd.prog 18 #[.pointer (some ⟨D, 0, none⟩), .string nm] w fun e w' => e = .returned (.tuple #[.slice none 0 0, .int .i64 6]) ∧ w' = w := by
  obtain ⟨fs, hv, hd, hF⟩ := h.lies.ex
  exact read_none D M fs _ _ _ _ _ _ nm hs (findF_no hv hf) w hd

theorem synced_law {X : Nat → Prop} {D M : Nat} {s : PS} {w : World} (h : Room X D M s w) (nm : ByteArray) (hs : nm.size ≤ 9223372036854775807) :
    Calls Tryd.prog 27 #[.pointer (some ⟨D, 0, none⟩), .string nm] w fun e w' => e = .returned (.int .i64 (safeV s.L nm.data.toList)) ∧ w' = w := by
  obtain ⟨fs, hv, hd, hF⟩ := h.lies.ex
  have := synced_any D M fs _ _ _ _ _ _ nm hs w hd
  rw [safeOf_vs hv] at this
  exact this

theorem used_law {X : Nat → Prop} {D M : Nat} {s : PS} {w : World} (h : Room X D M s w) : Calls Tryd.prog 29 #[.pointer (some ⟨D, 0, none⟩)] w fun e w' => e = .returned (.int .i64 s.used) ∧ w' = w := by
  obtain ⟨fs, hv, hd, hF⟩ := h.lies.ex
  exact used_any D M fs _ _ _ _ _ _ w hd
theorem room_law {X : Nat → Prop} {D M : Nat} {s : PS} {w : World} (h : Room X D M s w) : Calls Tryd.prog 30 #[.pointer (some ⟨D, 0, none⟩)] w fun e w' => e = .returned (.int .i64 s.room) ∧ w' = w := by
  obtain ⟨fs, hv, hd, hF⟩ := h.lies.ex
  exact room_any D M fs _ _ _ _ _ _ w hd
theorem ops_law {X : Nat → Prop} {D M : Nat} {s : PS} {w : World} (h : Room X D M s w) : Calls Tryd.prog 31 #[.pointer (some ⟨D, 0, none⟩)] w fun e w' => e = .returned (.int .i64 s.ops) ∧ w' = w := by
  obtain ⟨fs, hv, hd, hF⟩ := h.lies.ex
  exact ops_any D M fs _ _ _ _ _ _ w hd

/-- Room, behind a call. -/
theorem Room.went {X : Nat → Prop} {D M : Nat} {s s' : PS} {w w' : World} (h : Room X D M s w) (k : Went X D M s' w w') (hok : Ok 100000 100000 s') : Room X D M s' w' :=
  ⟨k.lies, hok, fun t ht => Nat.lt_of_lt_of_le (h.old t ht) k.mod.size⟩
theorem Room.below {X : Nat → Prop} {D M : Nat} {s : PS} {w w' : World} (h : Room X D M s w) (m : Below w.heap.size w w') : Room X D M s w' :=
  ⟨h.lies.below m, h.ok, fun t ht => Nat.lt_of_lt_of_le (h.old t ht) m.size⟩
/-- .. and with one block more that is not the disk's. -/
theorem Room.more {X X' : Nat → Prop} {D M : Nat} {s : PS} {w w' : World} (h : Room X D M s w) (m : Below w.heap.size w w') (hX : ∀ k, X' k → X k ∨ (w.heap.size ≤ k ∧ k < w'.heap.size)) : Room X' D M s w' :=
  ⟨h.lies.keep (Mod.of_below m) (fun k hk => (hX k hk).imp id (·.1)), h.ok, fun t ht => by
    rcases hX t ht with h1 | h1
    · exact Nat.lt_of_lt_of_le (h.old t h1) m.size
    · exact h1.2⟩
theorem Room.less {X X' : Nat → Prop} {D M : Nat} {s : PS} {w : World} (h : Room X D M s w) (hX : ∀ k, X' k → X k) : Room X' D M s w := ⟨h.lies.mono hX, h.ok, fun k hk => h.old k (hX k hk)⟩

/-- Bytes as a string. -/
def strB (x : List UInt8) : ByteArray := ⟨x.toArray⟩

theorem strB_eq (x : List UInt8) : (x.map fun c => (c.toNat : Int)).foldl (fun r n => r.push (UInt8.ofNat n.toNat)) ByteArray.empty = strB x := by
  have h : ∀ (x : List UInt8) (acc : ByteArray), (x.map fun c => (c.toNat : Int)).foldl (fun r n => r.push (UInt8.ofNat n.toNat)) acc = ⟨acc.data ++ x.toArray⟩ := by
    intro x
    induction x with
    | nil =>
      intro acc
      simp
    | cons c x ih =>
      intro acc
      simp only [List.map_cons, List.foldl_cons]
      rw [ih]
      congr 1
      show acc.data.push _ ++ x.toArray = _
      have e : UInt8.ofNat (((c.toNat : Nat) : Int)).toNat = c := by simp
      rw [e]
      apply Array.ext'
      simp
  rw [h]
  unfold strB
  congr 1
  show (#[] : Array UInt8) ++ x.toArray = x.toArray
  simp

theorem conv_of {w : World} {a : Option Addr} {x : List UInt8} (h : BytesAt w a x) (c : Nat) : (convert 34 9 (.slice a x.length c)).run Tryd.prog w = .ok (.string (strB x)) w := by
  cases a with
  | none =>
    cases x with
    | nil => exact run_convert_bytes_nil w 34 5 Tryd.underlying34 Tryd.underlying5 _ _ 9 Tryd.underlying9
    | cons c0 cs =>
      obtain ⟨b, off, he, _⟩ := h.cells 0 c0 rfl
      cases he
  | some ad =>
    rw [run_convert_bytes_string w 34 9 5 _ _ _ Tryd.underlying34 Tryd.underlying5 Tryd.underlying9, ← strB_eq]
    refine run_bytesToString w ad x.length c (x.map fun c => (c.toNat : Int)) ?_
    have := run_loadCells_list (P := Tryd.prog) w ad (x.map bv) (fun j v hj => by
      rw [List.getElem?_map] at hj
      cases hx : x[j]? with
      | none => simp [hx] at hj
      | some y =>
        obtain ⟨b, off, he, hc⟩ := h.cells j y hx
        cases he
        rw [Addr.add_lit, hc]
        simpa [hx] using hj)
    simpa [Function.comp_def] using this

theorem strB_list (x : List UInt8) : (strB x).toList = x := by
  rw [ByteArray.toList_eq]
  rfl

end Go.Proofs.YtjbhdidjkdlceaaDoor
