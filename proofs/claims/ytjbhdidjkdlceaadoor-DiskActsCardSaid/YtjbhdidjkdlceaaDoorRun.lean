/- Acts on a disk, one behind the other: what holds ahead of each. -/
import Derived.Test.YtjbhdidjkdlceaaDoorMoves
import Derived.Test.YtjbhdidjkdlceaaDoorGreat
namespace Go.Proofs.YtjbhdidjkdlceaaDoor
open Go.RowKit Go.Maps
set_option linter.unusedVariables false

def roomOf (n : Int) : Int := wrap64 ((IntKind.u64.wrap n).tmod 4000)
theorem roomOf_fits (n : Int) : 0 ≤ roomOf n ∧ roomOf n ≤ 1073741824 := by
  have h : 0 ≤ IntKind.u64.wrap n := by
    simp [IntKind.wrap, IntKind.signed, IntKind.bits]
    omega
  unfold roomOf
  rw [Int.tmod_eq_emod_of_nonneg h]
  unfold wrap64
  omega

theorem room_of (n : Int) (w : World) : Calls Tryd.prog 13 #[.int .i64 n] w fun e w' => e = .returned (.int .i64 (roomOf n)) ∧ w' = w := by
  go_enter Tryd.func13, Tryd.ntmps13
  go_wp2
  go_ret
  exact ⟨rfl, rfl⟩

theorem append_of {s : PS} {nm bs : List UInt8} (hn : isName nm = true) : s.append nm bs =
    (if s.gone then .gone (s.ops + 1) else .told (laid s bs.length) (errOf (laid s bs.length) bs.length),
     { s with L := grow s.L nm (bs.take (laid s bs.length)), used := s.used + laid s bs.length, ops := s.ops + 1, arm := if s.gone then 0 else s.arm }) := by
  unfold PS.append
  rw [if_neg (by rw [hn]; decide)]

/-- How many bytes the first j acts bear. -/
def tk (xs : List AV) (j : Nat) : Nat := ((xs.take j).map (fun x => x.bs.length)).sum
theorem tk_succ {xs : List AV} {j : Nat} {x : AV} (h : xs[j]? = some x) : tk xs (j + 1) = tk xs j + x.bs.length := by
  unfold tk
  rw [List.take_add_one, h]
  simp
theorem tk_le (xs : List AV) (j : Nat) : tk xs j ≤ (xs.map (fun x => x.bs.length)).sum := by
  have h : xs.map (fun x => x.bs.length) = (xs.take j).map (fun x => x.bs.length) ++ (xs.drop j).map (fun x => x.bs.length) := by
    rw [← List.map_append, List.take_append_drop]
  rw [h, List.sum_append]
  exact Nat.le_add_right _ _

/-- A call of an act that came in. -/
theorem At.call {W w1 w : World} {s : PS} (h : At w1 s w) (hW : Below W.heap.size W w1) {x : AV} (hf : x.Fits W) (hm : x.bs.length ≤ 100000) (hok : Ok 100000 100000 (s.act x.pa).2) :
    Calls Tryd.prog 14 #[.pointer (some ⟨w1.heap.size + 1, 0, none⟩), .agg x.cs] w fun e w' => e = .returned (s.act x.pa).1.end4 ∧ At w1 (s.act x.pa).2 w' := by
  have hb : BytesAt w x.ra x.bs := hf.bytes.below (Nat.le_refl _) (hW.trans (h.below.mono hW.size))
  refine (call_law h.room x.k x.n x.kp x.A x.B hf.a hf.b x.bs x.bs.length rfl hm x.ra x.rc hf.cap hb (fun hne ad had => Nat.lt_of_lt_of_le (hf.bytes.old hne ad had) hW.size) hf.nil).mono ?_
  rintro e w' ⟨rfl, hw⟩
  exact ⟨rfl, h.went hw hok⟩

/-- The disk ahead of act j. -/
structure Ahead (w1 : World) (xs : List AV) (j : Nat) (s : PS) (w : World) : Prop where
  lies : At w1 s w
  ok : Ok j (tk xs j) s

/-- What is asked of the acts. -/
structure Few (W w1 : World) (a : Option Addr) (xs : List AV) : Prop where
  acts : ActsAt W a xs
  below : Below W.heap.size W w1
  few : xs.length ≤ 200
  bytes : (xs.map (fun x => x.bs.length)).sum ≤ 5000

theorem Few.bytes_of {W w1 : World} {a : Option Addr} {xs : List AV} (h : Few W w1 a xs) {j : Nat} {x : AV} (hx : xs[j]? = some x) : tk xs j + x.bs.length ≤ 5000 := by
  have h1 := tk_le xs (j + 1)
  rw [tk_succ hx] at h1
  exact Nat.le_trans h1 h.bytes

/-- Behind act j. -/
theorem Ahead.step {W w1 w : World} {a : Option Addr} {xs : List AV} {j : Nat} {s : PS} {x : AV} (h : Ahead w1 xs j s w) (f : Few W w1 a xs) (hx : xs[j]? = some x) : Ok (j + 1) (tk xs (j + 1)) (s.act x.pa).2 := by
  obtain ⟨b, o, _, _, hfit⟩ := f.acts.cells j x hx
  rw [tk_succ hx]
  exact h.ok.act x.pa hfit.n

theorem Ahead.call {W w1 w : World} {a : Option Addr} {xs : List AV} {j : Nat} {s : PS} {x : AV} (h : Ahead w1 xs j s w) (f : Few W w1 a xs) (hx : xs[j]? = some x) :
    Calls Tryd.prog 14 #[.pointer (some ⟨w1.heap.size + 1, 0, none⟩), .agg x.cs] w fun e w' => e = .returned (s.act x.pa).1.end4 ∧ Ahead w1 xs (j + 1) (s.act x.pa).2 w' := by
  obtain ⟨b, o, _, _, hfit⟩ := f.acts.cells j x hx
  have hok := h.step f hx
  have hb := f.bytes_of hx
  have hj : j < xs.length := (List.getElem?_eq_some_iff.1 hx).1
  have h200 := f.few
  refine (h.lies.call f.below hfit (by omega) (hok.mono (by omega) (by rw [tk_succ hx]; omega))).mono ?_
  rintro e w' ⟨rfl, hat⟩
  exact ⟨rfl, hat, hok⟩

theorem Ahead.more {w1 w w' : World} {xs : List AV} {j : Nat} {s : PS} (h : Ahead w1 xs j s w) (k : Below w.heap.size w w') : Ahead w1 xs j s w' := ⟨h.lies.more k, h.ok⟩

/-- The act's cells, ahead of it. -/
theorem Ahead.cells {W w1 w : World} {a : Option Addr} {xs : List AV} {j : Nat} {s : PS} {x : AV} (h : Ahead w1 xs j s w) (f : Few W w1 a xs) (hx : xs[j]? = some x) : ∃ b o, a = some ⟨b, o, none⟩ ∧
    w.cell? ⟨b, o + j * 6, none⟩ = some (.int .i64 x.k) ∧ w.cell? ⟨b, o + j * 6 + 1, none⟩ = some (.int .i64 x.n) ∧ w.cell? ⟨b, o + j * 6 + 2, none⟩ = some (.int .i64 x.kp) ∧
    w.cell? ⟨b, o + j * 6 + 3, none⟩ = some (.string x.A) ∧ w.cell? ⟨b, o + j * 6 + 4, none⟩ = some (.string x.B) ∧ w.cell? ⟨b, o + j * 6 + 5, none⟩ = some (.slice x.ra x.bs.length x.rc) := by
  have hbel : Below W.heap.size W w := f.below.trans (h.lies.below.mono f.below.size)
  obtain ⟨b, o, rfl, hr, _⟩ := (f.acts.keep (Mod.of_below (S := fun _ => False) hbel) (fun _ _ => id)).cells j x hx
  exact ⟨b, o, rfl, act6 hr⟩

/-- A call of an act that lies in a new block: the block stays. -/
theorem Ahead.call_box {W w1 wr wa : World} {a : Option Addr} {xs : List AV} {j : Nat} {s : PS} {x : AV} (h : Ahead w1 xs j s wr) (f : Few W w1 a xs) (hx : xs[j]? = some x) (hwa : wa = wr.alloc (.cells x.cs 36)) :
    Calls Tryd.prog 14 #[.pointer (some ⟨w1.heap.size + 1, 0, none⟩), .agg x.cs] wa fun e w' => e = .returned (s.act x.pa).1.end4 ∧ Ahead w1 xs (j + 1) (s.act x.pa).2 w' ∧ w'.heap[wr.heap.size]? = some (.cells x.cs 36 (0, 0)) := by
  obtain ⟨b, o, _, _, hfit⟩ := f.acts.cells j x hx
  have hok := h.step f hx
  have hb := f.bytes_of hx
  have hj : j < xs.length := (List.getElem?_eq_some_iff.1 hx).1
  have h200 := f.few
  have hbel : Below wr.heap.size wr wa := by rw [hwa]; exact (Below.refl _ _).alloc (Nat.le_refl _) _
  have hr := alloc_more h.lies.room (.cells x.cs 36)
  rw [← hwa] at hr
  have hbox : wa.heap[wr.heap.size]? = some (.cells x.cs 36 (0, 0)) := by rw [hwa]; exact heap_alloc_new _ _
  have hba : BytesAt wa x.ra x.bs := hfit.bytes.below (Nat.le_refl _) (f.below.trans ((h.lies.below.trans (hbel.mono h.lies.below.size)).mono f.below.size))
  have hok1 : Ok 100000 100000 (s.act x.pa).2 := hok.mono (by omega) (by rw [tk_succ hx]; omega)
  refine (call_law hr x.k x.n x.kp x.A x.B hfit.a hfit.b x.bs x.bs.length rfl (by omega) x.ra x.rc hfit.cap hba (fun hne ad had => .inl (Nat.lt_of_lt_of_le (hfit.bytes.old hne ad had) f.below.size)) hfit.nil).mono ?_
  rintro e w' ⟨rfl, hw⟩
  refine ⟨rfl, ⟨⟨(hr.went hw hok1).less (fun k hk => .inl hk), ?_⟩, hok⟩, hw.mod.keep hbox (fun hn => hn (.inr rfl))⟩
  have h1 := h.lies.below.size
  have h2 := hbel.size
  exact (h.lies.below.trans (hbel.mono h1)).trans (hw.mod.below (fun k hk => Nat.le_of_not_lt (fun hlt => hk (.inl hlt))) (Nat.le_trans h1 h2))

end Go.Proofs.YtjbhdidjkdlceaaDoor
