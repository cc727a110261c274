/- The reference: the two disks in plain words; same. -/
import Derived.Test.YtjbhdidjkdlceaaDoorRefE
import Derived.Test.YtjbhdidjkdlceaaDoorRefF
import Derived.Test.YtjbhdidjkdlceaaDoorSafe1
import Derived.BigQuiet

/- The document's disk beside the disk: what each tells, act by act, in plain words. -/
namespace Go.Proofs.YtjbhdidjkdlceaaDoor
open Go.RowKit Go.Maps
set_option linter.unusedVariables false

def RS.setRoom (s : RS) (n : Int) : (Int × Int × Bool) × RS := if n < 0 ∨ 1073741824 < n then ((0, 3, false), s) else ((0, 0, false), { s with size := n })
def RS.fail (s : RS) (n : Int) : (Int × Int × Bool) × RS := if n < 1 then ((0, 3, false), s) else ((0, 0, false), { s with failing := n })
def RS.arm (s : RS) (n k : Int) : (Int × Int × Bool) × RS := if n < 1 then ((0, 3, false), s) else ((0, 0, false), { s with armed := n, keeping := k })
def two (r : (Int × Bool) × RS) : (Int × Int × Bool) × RS := ((0, r.1.1, r.1.2), r.2)

/-- What the document says of a call. -/
def RS.act (s : RS) (a : PA) : (Int × Int × Bool) × RS :=
  if a.kind = 0 then s.append a.a a.data
  else if a.kind = 1 then two (s.truncate a.a a.n)
  else if a.kind = 2 then two (s.sync a.a)
  else if a.kind = 3 then two (s.rename a.a a.b)
  else if a.kind = 4 then two (s.remove a.a)
  else if a.kind = 5 then s.setRoom a.n
  else if a.kind = 6 then s.fail a.n
  else if a.kind = 7 then s.arm a.n a.keep
  else if a.kind = 8 then ((0, 0, false), s.power a.keep)
  else ((0, 0, false), s)

/-- The change at which the power goes: the two count it each in its own way. a: how many calls there were. -/
def ArmOk (a : Nat) (ops arm armed : Int) : Prop :=
  (armed = 0 ∧ arm ≤ ops) ∨ (1 ≤ armed ∧ arm = ops + armed) ∨ (1099511627776 - (a : Int) ≤ armed ∧ ops + 1099511627776 - (a : Int) ≤ arm)

/-- The document's disk reads as the disk. -/
structure Sim (a : Nat) (s : PS) (m : RS) : Prop where
  L : m.L = s.L
  size : m.size = s.room
  count : m.count = s.ops
  keeping : m.keeping = s.keep
  failing : m.failing = s.fail
  arm : ArmOk a s.ops s.arm m.armed
  armed : 0 ≤ m.armed ∧ m.armed ≤ 9223372036854775807

/-- Both tell the same. -/
structure Agree (a : Nat) (o : Out × PS) (r : (Int × Int × Bool) × RS) : Prop where
  out : (∃ n e, o.1 = .told n e ∧ r.1 = (n, e, false)) ∨ (∃ op, o.1 = .gone op ∧ r.1.2.2 = true ∧ op = r.2.count)
  sim : Sim a o.2 r.2

theorem ArmOk.mono {a b : Nat} {ops arm armed : Int} (h : ArmOk a ops arm armed) (hab : a ≤ b) : ArmOk b ops arm armed := by
  rcases h with h | h | h
  · exact .inl h
  · exact .inr (.inl h)
  · exact .inr (.inr (by omega))
theorem Sim.mono {a b : Nat} {s : PS} {m : RS} (h : Sim a s m) (hab : a ≤ b) : Sim b s m := ⟨h.L, h.size, h.count, h.keeping, h.failing, h.arm.mono hab, h.armed⟩

theorem Sim.gone {a : Nat} {s : PS} {m : RS} (h : Sim a s m) (ha : a ≤ 1000) : m.gone = s.gone := by
  unfold RS.gone PS.gone
  rw [Bool.eq_iff_iff, beq_iff_eq, beq_iff_eq]
  rcases h.arm with h1 | h1 | h1 <;> omega

/-- A change. -/
theorem Sim.next {a : Nat} {s : PS} {m : RS} (h : Sim a s m) (ha : a ≤ 1000) (h0 : 0 ≤ s.ops) {s' : PS} {m' : RS} (e1 : s'.room = s.room) (e2 : s'.ops = s.ops + 1) (e3 : s'.arm = if s.gone then 0 else s.arm) (e4 : s'.keep = s.keep)
    (f1 : m'.size = m.size) (f2 : m'.count = m.count + 1) (f3 : m'.armed = if m.armed = 0 then 0 else m.armed - 1) (f4 : m'.keeping = m.keeping) (hL : m'.L = s'.L) (hf : m'.failing = s'.fail) : Sim (a + 1) s' m' := by
  obtain ⟨b1, b2⟩ := h.armed
  refine ⟨hL, by rw [f1, e1, h.size], by rw [f2, e2, h.count], by rw [f4, e4, h.keeping], hf, ?_, ?_⟩
  · rw [e2, e3, f3]
    unfold PS.gone
    unfold ArmOk
    rcases h.arm with h1 | h1 | h1
    · rw [if_pos h1.1]
      left
      refine ⟨rfl, ?_⟩
      split <;> omega
    · rw [if_neg (by omega)]
      by_cases h2 : m.armed = 1
      · left
        rw [if_pos (by rw [beq_iff_eq]; omega)]
        omega
      · right; left
        rw [if_neg (by rw [beq_iff_eq]; omega)]
        omega
    · rw [if_neg (by omega), if_neg (by rw [beq_iff_eq]; omega)]
      right; right
      omega
  · rw [f3]
    split <;> omega

theorem Sim.chg {a : Nat} {s : PS} {m : RS} (h : Sim a s m) (ha : a ≤ 1000) (h0 : 0 ≤ s.ops) (L' : List VF) (used' fail' : Int) : Sim (a + 1) (s.change L' used' fail') (m.chg L' fail') := by
  refine h.next ha h0 rfl rfl rfl rfl rfl rfl rfl rfl ?_ rfl
  show (if m.gone && !odd m.keeping then m.L else L') = if s.gone && !odd s.keep then s.L else L'
  rw [h.gone ha, h.keeping, h.L]

theorem agree_out {g : Bool} {op e c : Int} (hc : op = c) : (∃ n e', outOf g op e = .told n e' ∧ ((0, (if g then 0 else e), g) : Int × Int × Bool) = (n, e', false)) ∨ (∃ op', outOf g op e = .gone op' ∧ g = true ∧ op' = c) := by
  cases g with
  | false => exact .inl ⟨0, e, rfl, rfl⟩
  | true => exact .inr ⟨op, rfl, rfl, hc⟩

theorem sim_append {a t : Nat} {s : PS} {m : RS} (h : Sim a s m) (ha : a ≤ 1000) (hok : Ok a t s) (nm bs : List UInt8) : Agree (a + 1) (s.append nm bs) (m.append nm bs) := by
  have hl : m.laid bs.length = laid s bs.length := by
    unfold RS.laid laid RS.laid0 laid0
    rw [h.gone ha, h.L, h.size, h.keeping, hok.used]
  unfold PS.append RS.append
  by_cases hn : isName nm = false
  · rw [if_pos hn, if_pos hn]
    exact ⟨.inl ⟨0, 16, rfl, rfl⟩, h.mono (Nat.le_succ a)⟩
  · rw [if_neg hn, if_neg hn, hl, h.gone ha]
    refine ⟨?_, h.next ha hok.ops.1 rfl rfl rfl rfl rfl rfl rfl rfl (by rw [h.L]) (by show m.failing = s.fail; exact h.failing)⟩
    cases s.gone with
    | false => exact .inl ⟨_, _, rfl, rfl⟩
    | true => exact .inr ⟨_, rfl, rfl, by show s.ops + 1 = m.count + 1; rw [h.count]⟩

theorem sim_truncate {a t : Nat} {s : PS} {m : RS} (h : Sim a s m) (ha : a ≤ 1000) (hok : Ok a t s) (nm : List UInt8) (n : Int) : Agree (a + 1) (s.truncate nm n) (two (m.truncate nm n)) := by
  unfold PS.truncate RS.truncate
  rw [h.L]
  cases hf : findV s.L nm with
  | none => exact ⟨.inl ⟨0, 6, rfl, rfl⟩, h.mono (Nat.le_succ a)⟩
  | some f =>
    simp only []
    split
    · exact ⟨.inl ⟨0, 3, rfl, rfl⟩, h.mono (Nat.le_succ a)⟩
    · rw [h.gone ha, h.failing]
      refine ⟨?_, h.chg ha hok.ops.1 _ _ _⟩
      have := agree_out (g := s.gone) (op := s.ops + 1) (e := 0) (c := m.count + 1) (by rw [h.count])
      simp only [ite_self] at this
      exact this

theorem sim_sync {a t : Nat} {s : PS} {m : RS} (h : Sim a s m) (ha : a ≤ 1000) (hok : Ok a t s) (nm : List UInt8) : Agree (a + 1) (s.sync nm) (two (m.sync nm)) := by
  unfold PS.sync RS.sync
  rw [h.L]
  cases hf : findV s.L nm with
  | none => exact ⟨.inl ⟨0, 6, rfl, rfl⟩, h.mono (Nat.le_succ a)⟩
  | some f =>
    simp only []
    rw [h.gone ha, h.failing]
    refine ⟨?_, h.chg ha hok.ops.1 _ _ _⟩
    show (∃ n e, outOf s.gone (s.ops + 1) (if s.fail == 1 then 5 else 0) = .told n e ∧ (two (if s.fail == 1 && !s.gone then (5, false) else (0, s.gone), m.chg _ _)).1 = (n, e, false)) ∨ (∃ op, outOf s.gone (s.ops + 1) (if s.fail == 1 then 5 else 0) = .gone op ∧ (two (if s.fail == 1 && !s.gone then (5, false) else (0, s.gone), m.chg _ _)).1.2.2 = true ∧ op = m.count + 1)
    cases s.gone with
    | false =>
      cases s.fail == 1 with
      | false => exact .inl ⟨0, 0, rfl, rfl⟩
      | true => exact .inl ⟨0, 5, rfl, rfl⟩
    | true =>
      right
      refine ⟨s.ops + 1, rfl, ?_, by rw [h.count]⟩
      cases s.fail == 1 <;> rfl

theorem sim_rename {a t : Nat} {s : PS} {m : RS} (h : Sim a s m) (ha : a ≤ 1000) (hok : Ok a t s) (old nm : List UInt8) : Agree (a + 1) (s.rename old nm) (two (m.rename old nm)) := by
  unfold PS.rename RS.rename
  rw [h.L]
  cases hf : findV s.L old with
  | none => exact ⟨.inl ⟨0, 6, rfl, rfl⟩, h.mono (Nat.le_succ a)⟩
  | some f =>
    simp only []
    split
    · exact ⟨.inl ⟨0, 16, rfl, rfl⟩, h.mono (Nat.le_succ a)⟩
    · rw [h.gone ha, h.failing]
      refine ⟨?_, h.chg ha hok.ops.1 _ _ _⟩
      have := agree_out (g := s.gone) (op := s.ops + 1) (e := 0) (c := m.count + 1) (by rw [h.count])
      simp only [ite_self] at this
      exact this

theorem sim_remove {a t : Nat} {s : PS} {m : RS} (h : Sim a s m) (ha : a ≤ 1000) (hok : Ok a t s) (nm : List UInt8) : Agree (a + 1) (s.remove nm) (two (m.remove nm)) := by
  unfold PS.remove RS.remove
  rw [h.L]
  cases hf : findV s.L nm with
  | none => exact ⟨.inl ⟨0, 6, rfl, rfl⟩, h.mono (Nat.le_succ a)⟩
  | some f =>
    simp only []
    rw [h.gone ha, h.failing]
    refine ⟨?_, h.chg ha hok.ops.1 _ _ _⟩
    have := agree_out (g := s.gone) (op := s.ops + 1) (e := 0) (c := m.count + 1) (by rw [h.count])
    simp only [ite_self] at this
    exact this

theorem sim_setRoom {a : Nat} {s : PS} {m : RS} (h : Sim a s m) (n : Int) : Agree a (s.setRoom n) (m.setRoom n) := by
  unfold PS.setRoom RS.setRoom
  split
  · exact ⟨.inl ⟨0, 3, rfl, rfl⟩, h⟩
  · exact ⟨.inl ⟨0, 0, rfl, rfl⟩, ⟨h.L, rfl, h.count, h.keeping, h.failing, h.arm, h.armed⟩⟩

theorem sim_fail {a : Nat} {s : PS} {m : RS} (h : Sim a s m) (n : Int) : Agree a (s.failing n) (m.fail n) := by
  unfold PS.failing RS.fail
  split
  · exact ⟨.inl ⟨0, 3, rfl, rfl⟩, h⟩
  · exact ⟨.inl ⟨0, 0, rfl, rfl⟩, ⟨h.L, h.size, h.count, h.keeping, rfl, h.arm, h.armed⟩⟩

theorem sim_arm {a : Nat} {s : PS} {m : RS} (h : Sim a s m) (n k : Int) (hn : n ≤ 9223372036854775807) : Agree a (s.arming n k) (m.arm n k) := by
  unfold PS.arming RS.arm
  split
  · exact ⟨.inl ⟨0, 3, rfl, rfl⟩, h⟩
  · refine ⟨.inl ⟨0, 0, rfl, rfl⟩, ⟨h.L, h.size, h.count, rfl, h.failing, ?_, ⟨by show 0 ≤ n; omega, hn⟩⟩⟩
    show ArmOk a s.ops (s.ops + min n 1099511627776) n
    unfold ArmOk
    omega

theorem sim_power {a : Nat} {s : PS} {m : RS} (h : Sim a s m) (h0 : 0 ≤ s.ops) (k : Int) : Agree a (s.power k) ((0, 0, false), m.power k) := by
  refine ⟨.inl ⟨0, 0, rfl, rfl⟩, ⟨?_, h.size, h.count, h.keeping, rfl, .inl ⟨rfl, h0⟩, ⟨Int.le_refl 0, by show (0 : Int) ≤ _; omega⟩⟩⟩
  show m.L.map (cutW k) = s.L.map (cutW k)
  rw [h.L]

theorem Agree.mono {a b : Nat} {o : Out × PS} {r : (Int × Int × Bool) × RS} (h : Agree a o r) (hab : a ≤ b) : Agree b o r := ⟨h.out, h.sim.mono hab⟩

/-- Any act. -/
theorem sim_act {a t : Nat} {s : PS} {m : RS} (h : Sim a s m) (ha : a ≤ 1000) (hok : Ok a t s) (p : PA) (hn : p.n ≤ 9223372036854775807) : Agree (a + 1) (s.act p) (m.act p) := by
  have h1 := Nat.le_succ a
  unfold PS.act RS.act
  by_cases h0 : p.kind = 0
  · rw [if_pos h0, if_pos h0]
    exact sim_append h ha hok _ _
  rw [if_neg h0, if_neg h0]
  by_cases h0 : p.kind = 1
  · rw [if_pos h0, if_pos h0]
    exact sim_truncate h ha hok _ _
  rw [if_neg h0, if_neg h0]
  by_cases h0 : p.kind = 2
  · rw [if_pos h0, if_pos h0]
    exact sim_sync h ha hok _
  rw [if_neg h0, if_neg h0]
  by_cases h0 : p.kind = 3
  · rw [if_pos h0, if_pos h0]
    exact sim_rename h ha hok _ _
  rw [if_neg h0, if_neg h0]
  by_cases h0 : p.kind = 4
  · rw [if_pos h0, if_pos h0]
    exact sim_remove h ha hok _
  rw [if_neg h0, if_neg h0]
  by_cases h0 : p.kind = 5
  · rw [if_pos h0, if_pos h0]
    exact (sim_setRoom h _).mono h1
  rw [if_neg h0, if_neg h0]
  by_cases h0 : p.kind = 6
  · rw [if_pos h0, if_pos h0]
    exact (sim_fail h _).mono h1
  rw [if_neg h0, if_neg h0]
  by_cases h0 : p.kind = 7
  · rw [if_pos h0, if_pos h0]
    exact (sim_arm h _ _ hn).mono h1
  rw [if_neg h0, if_neg h0]
  by_cases h0 : p.kind = 8
  · rw [if_pos h0, if_pos h0]
    exact (sim_power h hok.ops.1 _).mono h1
  rw [if_neg h0, if_neg h0]
  exact ⟨.inl ⟨0, 0, rfl, rfl⟩, h.mono h1⟩

/-- What the reference's walks ask. -/
theorem Sim.fine {a t : Nat} {s : PS} {m : RS} (h : Sim a s m) (hok : Ok a t s) (ha : a ≤ 1000) (ht : t ≤ 100000) : Fine m := by
  have h1 := hok.ops
  have h2 := hok.num
  have h3 := hok.tot
  refine ⟨by rw [h.size]; exact hok.room, by rw [h.count]; omega, h.armed, by rw [h.failing]; exact hok.fail, by rw [h.L]; omega, by rw [h.L]; omega⟩

end Go.Proofs.YtjbhdidjkdlceaaDoor

/- same, by its contract: a disk and the document's disk that reads as it. -/
namespace Go.Proofs.YtjbhdidjkdlceaaDoor
open Go.RowKit Go.Maps
set_option linter.unusedVariables false

/-- .. over it. -/
def mirror (s : PS) (armed : Int) : RS := ⟨s.L, s.room, s.ops, armed, s.keep, s.fail⟩
theorem Sim.mirror {a : Nat} {s : PS} {m : RS} (h : Sim a s m) : m = mirror s m.armed := by
  obtain ⟨L, size, count, armed, keeping, failing⟩ := m
  have h1 : L = s.L := h.L
  have h2 : size = s.room := h.size
  have h3 : count = s.ops := h.count
  have h4 : keeping = s.keep := h.keeping
  have h5 : failing = s.fail := h.failing
  subst h1 h2 h3 h4 h5
  rfl

theorem mirror_fine {s : PS} {armed : Int} (hok : Ok 100000 100000 s) (ha : 0 ≤ armed ∧ armed ≤ 9223372036854775807) : Fine (mirror s armed) := by
  have h1 := hok.ops
  have h2 := hok.num
  have h3 := hok.tot
  exact ⟨hok.room, ⟨h1.1, by show s.ops ≤ _; omega⟩, ha, hok.fail, h2, h3⟩

set_option maxRecDepth 100000 in
set_option maxHeartbeats 3200000 in
theorem same_law {X F : Nat → Prop} {D M R : Nat} {s : PS} {armed : Int} {w : World} (hr : Room X D M s w) (h : Ref F R (mirror s armed) w) (ha : 0 ≤ armed ∧ armed ≤ 9223372036854775807) :
    Calls Tryd.prog 16 #[.pointer (some ⟨D, 0, none⟩), .pointer (some ⟨R, 0, none⟩)] w fun e w' => e = .returned (.bool true) ∧ Below w.heap.size w w' := by
  have hfine : Fine (mirror s armed) := mirror_fine hr.ok ha
  obtain ⟨fs, lv, hv, hat⟩ := h.ex
  have hlen : fs.length = s.L.length := by rw [show s.L = (mirror s armed).L from rfl, ← hv, List.length_map]
  obtain ⟨la, lc, hlv⟩ := hat.lv_form
  subst hlv
  have hnum : s.L.length ≤ 100000 := hr.ok.num
  have htot : totV s.L ≤ 100000 := hr.ok.tot
  obtain ⟨y1, y2⟩ := hr.ok.room
  obtain ⟨y3, y4⟩ := hr.ok.ops
  have HR := Lib.hid hr
  have H := Lib.hid h
  have HAT := Lib.hid hat
  have HV : Hid (fs.map (·.v) = s.L) := Lib.hid hv
  have HFINE := Lib.hid hfine
  have HNM := Lib.hid (names_law hr)
  rw [hlen] at HAT
  have HLEN := Lib.hid hlen
  clear hr h hat hv hfine hlen ha
  go_enter Tryd.func16, Tryd.ntmps16
  go_upto_region 2 with (first
    | (go_at_call 28; refine HNM.out.mono ?_; rintro e w1 ⟨⟨na, nc, rfl, hrow1⟩, hb1⟩; have HB1 := Lib.hid hb1; have HROW1 := Lib.hid hrow1; clear hrow1 hb1))
  obtain ⟨c0, c1, c2, _, _, _, _⟩ := rcell (HAT.out.below HB1.out).box
  have hU : ∀ n, Calls Tryd.prog 39 #[.pointer (some ⟨R, 0, none⟩)] (w1.drewN n) fun e w' => e = .returned (.int .i64 (totV s.L : Nat)) ∧ w' = w1.drewN n := fun n => rused_law ((H.out.below HB1.out).keep (S := fun _ => False) ((Mod.refl _ w1).drewN n) (fun _ _ _ => id)) HFINE.out
  have hRn : ∀ n, Room X D M s (w1.drewN n) := fun n => (HR.out.below HB1.out).below (((Mod.refl (fun _ => False) w1).drewN n).below (fun _ h => h.elim) (Nat.le_refl _))
  have hU1 : ∀ n, Calls Tryd.prog 29 #[.pointer (some ⟨D, 0, none⟩)] (w1.drewN n) fun e w' => e = .returned (.int .i64 (totV s.L : Nat)) ∧ w' = w1.drewN n := fun n => by
    have := used_law (hRn n)
    rw [HR.out.ok.used] at this
    exact this
  have HU := Lib.hid hU
  have HU1 := Lib.hid hU1
  have HM1 : Hid (∀ n, Calls Tryd.prog 30 #[.pointer (some ⟨D, 0, none⟩)] (w1.drewN n) fun e w' => e = .returned (.int .i64 s.room) ∧ w' = w1.drewN n) := Lib.hid (fun n => room_law (hRn n))
  have HO1 : Hid (∀ n, Calls Tryd.prog 31 #[.pointer (some ⟨D, 0, none⟩)] (w1.drewN n) fun e w' => e = .returned (.int .i64 s.ops) ∧ w' = w1.drewN n) := Lib.hid (fun n => ops_law (hRn n))
  clear hU hU1 hRn
  have c0' : w1.cell? ⟨R, 0, none⟩ = some (.slice la s.L.length lc) := c0
  have c1' : w1.cell? ⟨R, 1, none⟩ = some (.int .i64 s.room) := c1
  have c2' : w1.cell? ⟨R, 2, none⟩ = some (.int .i64 s.ops) := c2
  clear c0 c1 c2
  go_quiet (first
    | (go_at_call 29; refine Calls.quiet_of_same (HU1.out _))
    | (go_at_call 30; refine Calls.quiet_of_same (HM1.out _))
    | (go_at_call 31; refine Calls.quiet_of_same (HO1.out _))
    | (go_at_call 39; refine Calls.quiet_of_same (HU.out _)))
  obtain ⟨w2, hw2⟩ : ∃ y : World, y = w1.drewN nq := ⟨_, rfl⟩
  rw [← hw2]
  have hbd : Below w.heap.size w1 w2 := by rw [hw2]; exact ((Mod.refl (fun _ => False) w1).drewN nq).below (fun _ h => h.elim) HB1.out.size
  have HB2 : Hid (Below w.heap.size w w2) := Lib.hid (HB1.out.trans hbd)
  have HROW2 : Hid (w2.ownsRow w.heap.size 9 1 (.slice na s.L.length nc) s.L.length (s.L.map nameV)) := Lib.hid (by
    have h1 : (s.L.map (·.name)).map encStr = s.L.map nameV := by
      rw [List.map_map]
      rfl
    have h2 := HROW1.out
    rw [h1] at h2
    rw [hw2]
    exact (Mod.refl (fun _ => False) w1).drewN nq |>.row h2 (fun _ _ => id))
  have c0 : w2.cell? ⟨R, 0, none⟩ = some (.slice la s.L.length lc) := (rcell (HAT.out.below HB2.out).box).1
  clear hw2 hbd HROW1 HB1 HU HU1 HM1 HO1 c0' c1' c2' HNM
  go_upto_region 4 with (fail)
  go_wp2_with fail
  go_loopw [50] (fun i wr => ∃ j : Nat, j ≤ s.L.length ∧ i = .int .i64 j ∧ Below w.heap.size w wr ∧ wr.ownsRow w.heap.size 9 1 (.slice na s.L.length nc) s.L.length (s.L.map nameV)) (fun i _ => s.L.length - (intOf i).toNat)
  case atStart => exact ⟨0, Nat.zero_le _, rfl, HB2.out, HROW2.out⟩
  case round =>
    obtain ⟨j, hj, rfl, hbw, hrw⟩ := hrel
    have HB := Lib.hid hbw
    have HRW := Lib.hid hrw
    clear hbw hrw
    by_cases hlt : j < s.L.length
    · obtain ⟨r, hr⟩ : ∃ r, fs[j]? = some r := ⟨fs[j]'(by rw [HLEN.out]; exact hlt), List.getElem?_eq_getElem _⟩
      have hf : s.L[j]? = some r.v := by rw [← HV.out, List.getElem?_map, hr]; rfl
      obtain ⟨g, cc, hlit, _, _, _, k0, k1, k2, _⟩ := (HAT.out.below HB.out).form hr
      simp only [Value.slice.injEq] at hlit
      obtain ⟨rfl, hx0, rfl⟩ := hlit
      clear hx0
      have hrow := (HAT.out.below HB.out).files r (List.mem_of_getElem? hr)
      obtain ⟨ba, bc, hbv⟩ := slice_form hrow
      rw [hbv] at k1 hrow
      obtain ⟨gn, cn, hnv, _, _⟩ := HRW.out.form (by omega)
      simp only [Value.slice.injEq, true_and] at hnv
      obtain ⟨rfl, rfl⟩ := hnv
      have hnm : wr.cell? ⟨gn, j, none⟩ = some (.string (strB r.v.name)) := by
        rw [HRW.out.cellAt j (by omega), List.getElem?_map, hf]
        rfl
      have HF := Lib.hid hf
      have HROW := Lib.hid hrow
      clear hr hf hrow hbv
      go_upto_region 7 with (fail)
      obtain ⟨wa, hwa⟩ : ∃ y : World, y = wr.alloc (.cells #[.string (strB r.v.name), .slice ba r.v.b.length bc, .int .i64 r.v.safe] 78) := ⟨_, rfl⟩
      have hba : Below wr.heap.size wr wa := by rw [hwa]; exact (Below.refl _ _).alloc (Nat.le_refl _) _
      have hbox : wa.heap[wr.heap.size]? = some (.cells #[.string (strB r.v.name), .slice ba r.v.b.length bc, .int .i64 r.v.safe] 78 (0, 0)) := by rw [hwa]; exact heap_alloc_new wr _
      have HBA : Hid (Below w.heap.size w wa) := Lib.hid (HB.out.trans (hba.mono HB.out.size))
      have HRWA : Hid (wa.ownsRow w.heap.size 9 1 (.slice (some ⟨gn, 0, none⟩) s.L.length nc) s.L.length (s.L.map nameV)) := Lib.hid (below_row hba HRW.out)
      have HROWA : Hid (wa.ownsRow 0 5 1 (.slice ba r.v.b.length bc) r.v.b.length (r.v.b.map bv)) := Lib.hid (below_row hba HROW.out)
      have HBOX := Lib.hid hbox
      have HNMA : Hid (∀ w', Below wa.heap.size wa w' → w'.cell? ⟨gn, j, none⟩ = some (.string (strB r.v.name))) := Lib.hid (fun w' hb' => by
        rw [(below_row hb' HRWA.out).cellAt j (by omega), List.getElem?_map, HF.out]
        rfl)
      have z0 : wa.cell? ⟨wr.heap.size, 0, none⟩ = some (.string (strB r.v.name)) := (cell_of_row wa wr.heap.size 0 _ _ _ hbox).trans rfl
      have hsz := name_size HR.out.ok HF.out
      have hbl : r.v.b.length ≤ 100000 := Nat.le_trans (len_le_totV (List.mem_of_getElem? HF.out)) htot
      have hsf := HR.out.ok.safe r.v (List.mem_of_getElem? HF.out)
      have hns : (strB r.v.name).size ≤ 9223372036854775807 := by
        have : (strB r.v.name).size = r.v.name.length := by unfold strB; show r.v.name.toArray.size = _; simp
        omega
      have HRD := Lib.hid (read_law (HR.out.below HBA.out) (strB r.v.name) hns r.v (findV_at HR.out.ok.sorted HF.out))
      have HSY : Hid (∀ w', Below w.heap.size w w' → Calls Tryd.prog 27 #[.pointer (some ⟨D, 0, none⟩), .string (strB r.v.name)] w' fun e w'' => e = .returned (.int .i64 r.v.safe) ∧ w'' = w') := Lib.hid (fun w' hb' => by
        have := synced_law (HR.out.below hb') (strB r.v.name) hns
        have e1 : safeV s.L (strB r.v.name).data.toList = r.v.safe := safeV_at HR.out.ok.sorted HF.out
        rw [e1] at this
        exact this)
      rw [← hwa]
      clear k0 k1 k2 hnm hwa hba hbox hsz hns c0
      go_upto_region 8 with (first
        | (go_at_call 18; refine HRD.out.mono ?_; rintro e w8 ⟨⟨ra, rc, rfl, hrow8⟩, hb8⟩; have HROW8 := Lib.hid hrow8; have HB8 := Lib.hid hb8; clear hrow8 hb8))
      have hb8 := (HB8.out.block _ (lt_of_block HBOX.out)).trans HBOX.out
      have t0 : w8.cell? ⟨wr.heap.size, 0, none⟩ = some (.string (strB r.v.name)) := (cell_of_row w8 wr.heap.size 0 _ _ _ hb8).trans rfl
      have t1 : w8.cell? ⟨wr.heap.size, 1, none⟩ = some (.slice ba r.v.b.length bc) := (cell_of_row w8 wr.heap.size 1 _ _ _ hb8).trans rfl
      have t2 : w8.cell? ⟨wr.heap.size, 2, none⟩ = some (.int .i64 r.v.safe) := (cell_of_row w8 wr.heap.size 2 _ _ _ hb8).trans rfl
      have hnm := HNMA.out w8 HB8.out
      have hcv1 : ∀ n, (convert 34 9 (.slice ra r.v.b.length rc)).run Tryd.prog (w8.drewN n) = .ok (.string (strB r.v.b)) (w8.drewN n) := fun n => conv_of (w := w8.drewN n) ((bytes_of_row HROW8.out).keep (S := fun _ => False) ((Mod.refl _ w8).drewN n) (fun _ _ _ => id)) rc
      have hcv2 : ∀ n, (convert 34 9 (.slice ba r.v.b.length bc)).run Tryd.prog (w8.drewN n) = .ok (.string (strB r.v.b)) (w8.drewN n) := fun n => conv_of (w := w8.drewN n) ((bytes_of_row (below_row HB8.out HROWA.out)).keep (S := fun _ => False) ((Mod.refl _ w8).drewN n) (fun _ _ _ => id)) bc
      have HB8W : Hid (Below w.heap.size w w8) := Lib.hid (HBA.out.trans (HB8.out.mono HBA.out.size))
      have hdr : ∀ n, Below w.heap.size w (w8.drewN n) := fun n => HB8W.out.trans (((Mod.refl (fun _ => False) w8).drewN n).below (fun _ h => h.elim) HB8W.out.size)
      have HDR := Lib.hid hdr
      have HRW8 : Hid (∀ n, (w8.drewN n).ownsRow w.heap.size 9 1 (.slice (some ⟨gn, 0, none⟩) s.L.length nc) s.L.length (s.L.map nameV)) := Lib.hid (fun n => (Mod.refl (fun _ => False) w8).drewN n |>.row (below_row HB8.out HRWA.out) (fun _ _ => id))
      clear hdr hb8 z0
      go_big_quiet (first
        | (go_at_call 27; refine Calls.quiet_of_same (HSY.out _ (HDR.out _))))
      go_wp2_with fail
      go_roundw
      case rel => exact ⟨j + 1, hlt, by go_num, HDR.out _, HRW8.out _⟩
      case measure => simp [intOf]; omega
    · go_wp2
      go_ret
      exact ⟨by simp, HB.out⟩

end Go.Proofs.YtjbhdidjkdlceaaDoor
