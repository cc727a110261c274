/- The power goes: crash, and change whether it goes or not, by their contracts. -/
import Derived.Test.YtjbhdidjkdlceaaDoorCut
namespace Go.Proofs.YtjbhdidjkdlceaaDoor
open Go.RowKit Go.Maps
set_option linter.unusedVariables false

/-- The panic of a crash. -/
abbrev goneAt (op : Int) : Ending := .panicked [{ v := .iface 69 (.agg #[.int .i64 op]), recovered := false }]

theorem mi69 (x : Value) (w : World) : (Instr.makeInterface 69 x).run Tryd.prog w = .ok (.iface 69 x) w := by
  simp [Instr.makeInterface, run_underlying Tryd.underlying69]
attribute [go_sem] mi69

def odd (keep : Int) : Bool := keep % 2 == 1

theorem and_one (k : Int) : bits BinOp.and IntKind.i64 k 1 = k % 2 := by
  have h1 : (BitVec.ofInt 64 k &&& BitVec.ofInt 64 1).toNat = (k % 2).toNat := by
    rw [BitVec.toNat_and]
    have h2 : (BitVec.ofInt 64 1).toNat = 1 := rfl
    rw [h2, Nat.and_one_is_mod, BitVec.toNat_ofInt]
    omega
  show IntKind.i64.wrap ((BitVec.ofInt 64 k &&& BitVec.ofInt 64 1).toNat : Int) = k % 2
  rw [h1]
  have : ((k % 2).toNat : Int) = k % 2 := by omega
  rw [this]
  exact IntWalk.i64_in _ (by omega)

theorem Did.of_turned {D M : Nat} {fs : List PF} {room used ops arm keep fail : Int} {w w' : World} (h : Turned D M fs room used ops arm keep fail w w') : Did D M fs fs room used ops arm keep fail w w' :=
  ⟨h.mod.mono (fun t _ ht => .inl ht), h.disk, fun k hk => .inl hk⟩

theorem Did.trans {D M : Nat} {fs fs' fs2 : List PF} {room used ops arm keep fail room' used' ops' arm' keep' fail' : Int} {w w1 w2 : World} (h : Did D M fs fs' room' used' ops' arm' keep' fail' w w1) (k : Did D M fs' fs2 room used ops arm keep fail w1 w2) : Did D M fs fs2 room used ops arm keep fail w w2 := by
  refine ⟨h.mod.chain k.mod (fun t hlt ht => ?_), k.disk, fun t ht => ?_⟩
  · rcases h.foot t ht with h1 | h1
    · exact h1
    · omega
  · rcases k.foot t ht with h1 | h1
    · exact h.foot t h1
    · exact .inr (Nat.le_trans h.mod.size h1)

/-- A call that makes memory, and does no more, ahead of it. -/
theorem Did.ahead {D M : Nat} {fs fs' : List PF} {room used ops arm keep fail : Int} {w w1 w2 : World} (h : Below w.heap.size w w1) (k : Did D M fs fs' room used ops arm keep fail w1 w2) : Did D M fs fs' room used ops arm keep fail w w2 := by
  refine ⟨(Mod.of_below h).trans k.mod, k.disk, fun t ht => ?_⟩
  rcases k.foot t ht with h1 | h1
  · exact .inl h1
  · exact .inr (Nat.le_trans h.size h1)

set_option maxHeartbeats 400000 in
theorem crash_any (D M : Nat) (fs : List PF) (room used ops arm keep fail : Int) (w : World) (h : Disk w D M fs room used ops arm keep fail) :
    Calls Tryd.prog 42 #[.pointer (some ⟨D, 0, none⟩)] w fun e w' => e = goneAt ops ∧ Turned D M fs room used ops 0 keep fail w w' := by
  obtain ⟨c0, c1, c2, c3, c4, c5, c6, hfz⟩ := dcell h.cells
  have f4 := hfz 4
  have H := Lib.hid h
  have M1 := mod_cell D 4 w (.int .i64 0)
  have hd := H.out.turn (room' := room) (used' := used) (ops' := ops) (arm' := 0) (keep' := keep) (fail' := fail) M1 (row_setCell H.out.cells 4 _)
  have c3' := (dcell hd.cells).2.2.2.1
  have HT := Lib.hid (Turned.mk M1 hd)
  clear h hfz c0 c1 c2 c5 c6 M1 hd c3
  go_enter Tryd.func42, Tryd.ntmps42
  go_wp2
  exact ⟨rfl, rfl, HT.out⟩

/-- What a change ends in. -/
def endAt (gn : Bool) (op : Int) (v : Value) : Ending := if gn then goneAt op else .returned v

/-- What a change has done. -/
def Changed (gn : Bool) (D M : Nat) (fs fs' : List PF) (room used used' ops arm keep fail : Int) (w w' : World) : Prop :=
  Did D M fs (if gn && !odd keep then fs else fs') room (if gn && !odd keep then used else used') ops (if gn then 0 else arm) keep fail w w'

theorem Changed.stay {D M : Nat} {fs fs' : List PF} {room used used' ops arm keep fail : Int} {w w' : World} (h : Did D M fs fs' room used' ops arm keep fail w w') : Changed false D M fs fs' room used used' ops arm keep fail w w' := h
theorem Changed.odd {D M : Nat} {fs fs' : List PF} {room used used' ops arm keep fail : Int} {w w' : World} (ho : odd keep = true) (h : Did D M fs fs' room used' ops 0 keep fail w w') : Changed true D M fs fs' room used used' ops arm keep fail w w' := by
  unfold Changed
  simpa [ho] using h
theorem Changed.even {D M : Nat} {fs fs' : List PF} {room used used' ops arm keep fail : Int} {w w' : World} (ho : YtjbhdidjkdlceaaDoor.odd keep = false) (h : Did D M fs fs room used ops 0 keep fail w w') : Changed true D M fs fs' room used used' ops arm keep fail w w' := by
  unfold Changed
  simpa [ho] using h
theorem Changed.ahead {gn : Bool} {D M : Nat} {fs fs' : List PF} {room used used' ops arm keep fail : Int} {w w1 w' : World} (h : Below w.heap.size w w1) (k : Changed gn D M fs fs' room used used' ops arm keep fail w1 w') : Changed gn D M fs fs' room used used' ops arm keep fail w w' := Did.ahead h k

set_option maxHeartbeats 1000000 in
/-- change: what is handed over is done, or not, and the power goes, or not. -/
theorem change_all (D M : Nat) (fs fs' : List PF) (room used used' ops arm keep fail : Int) (h0 : 0 ≤ ops ∧ ops ≤ 1000000) (gn : Bool) (hgone : (ops + 1 == arm) = gn) (g : FuncId) (cap : Array Value) (w : World) (h : Disk w D M fs room used ops arm keep fail)
    (hcall : ∀ w, (callFunc g cap).run Tryd.prog w = .ok (.enter g cap) w)
    (hdo : ∀ w1, Turned D M fs room used (ops + 1) arm keep fail w w1 → Calls Tryd.prog g cap w1 fun e w' => e = .returned (.tuple #[]) ∧ Did D M fs fs' room used' (ops + 1) arm keep fail w1 w') :
    Calls Tryd.prog 44 #[.pointer (some ⟨D, 0, none⟩), .func (.func g) #[] cap] w fun e w' => e = endAt gn (ops + 1) (.tuple #[]) ∧ Changed gn D M fs fs' room used used' (ops + 1) arm keep fail w w' := by
  have HB := Lib.hid (begin_any D M fs room used ops arm keep fail h0 w h)
  have HDO := Lib.hid hdo
  have hb := and_one keep
  rw [hgone] at HB
  clear h hdo hgone
  go_enter Tryd.func44, Tryd.ntmps44
  go_wp2_with fail
  refine HB.out.mono ?_
  rintro e w1 ⟨rfl, ht⟩
  have HT := Lib.hid ht
  obtain ⟨c0, c1, c2, c3, c4, c5, c6, hfz⟩ := dcell ht.disk.cells
  clear ht c0 c1 c2 c3 c4 c6 hfz
  cases gn with
  | false =>
    go_wp2_with fail
    refine (HDO.out w1 HT.out).mono ?_
    rintro e w2 ⟨rfl, hq⟩
    have HQ := Lib.hid hq
    clear hq
    go_wp2
    go_end0
    exact ⟨rfl, Changed.stay ((Did.of_turned HT.out).trans HQ.out)⟩
  | true =>
    cases ho : odd keep with
    | true =>
      have ho2 : (keep % 2 == 1) = true := ho
      have HO := Lib.hid ho
      go_wp2_with fail
      refine (HDO.out w1 HT.out).mono ?_
      rintro e w2 ⟨rfl, hq⟩
      have HQ := Lib.hid hq
      have HC := Lib.hid (crash_any D M fs' room used' (ops + 1) arm keep fail w2 hq.disk)
      clear hq
      go_wp2_with fail
      refine HC.out.mono ?_
      rintro e w3 ⟨rfl, ht3⟩
      have HT3 := Lib.hid ht3
      clear ht3
      go_wp2
      exact ⟨rfl, rfl, Changed.odd HO.out (((Did.of_turned HT.out).trans HQ.out).trans (Did.of_turned HT3.out))⟩
    | false =>
      have ho2 : (keep % 2 == 1) = false := ho
      have HO := Lib.hid ho
      have HC := Lib.hid (crash_any D M fs room used (ops + 1) arm keep fail w1 HT.out.disk)
      go_wp2_with fail
      refine HC.out.mono ?_
      rintro e w3 ⟨rfl, ht3⟩
      have HT3 := Lib.hid ht3
      clear ht3
      go_wp2
      exact ⟨rfl, rfl, Changed.even HO.out ((Did.of_turned HT.out).trans (Did.of_turned HT3.out))⟩

end Go.Proofs.YtjbhdidjkdlceaaDoor
