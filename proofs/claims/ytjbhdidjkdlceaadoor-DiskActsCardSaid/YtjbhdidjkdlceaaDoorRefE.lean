/- The reference: Append. -/
import Derived.Test.YtjbhdidjkdlceaaDoorRefD
import Derived.Deep.DeepCutAuto

/- The reference: Append in plain words. -/
namespace Go.Proofs.YtjbhdidjkdlceaaDoor
open Go.RowKit Go.Maps
set_option linter.unusedVariables false

/-- The list when the file is there. -/
def pre (L : List VF) (nm : List UInt8) : List VF :=
  match findV L nm with
  | some _ => L
  | none => insV ⟨nm, [], 0⟩ L

theorem setV_no {L : List VF} {f : VF} (h : findV L f.name = none) : setV L f = L := by
  unfold findV at h
  rw [List.find?_eq_none] at h
  unfold setV
  have := List.map_congr_left (f := fun g : VF => if g.name == f.name then f else g) (g := id) (l := L) (fun g hg => by
    rw [if_neg (h g hg)]
    rfl)
  rw [this, List.map_id]

theorem setV_fresh {L : List VF} {nm x : List UInt8} (h : findV L nm = none) : setV (insV ⟨nm, [], 0⟩ L) ⟨nm, x, 0⟩ = insV ⟨nm, x, 0⟩ L := by
  induction L with
  | nil => simp [insV, setV]
  | cons a L ih =>
    have h2 := h
    unfold findV at h2
    rw [List.find?_cons] at h2
    cases ha : (a.name == nm) with
    | true => rw [ha] at h2; cases h2
    | false =>
      rw [ha] at h2
      have hL : findV L nm = none := h2
      unfold insV
      show setV (if bytesBefore nm a.name then _ else _) _ = if bytesBefore nm a.name then _ else _
      split
      · have e := setV_no (f := ⟨nm, x, 0⟩) h
        unfold setV at e ⊢
        rw [List.map_cons, e]
        simp
      · have e := ih hL
        unfold setV at e ⊢
        rw [List.map_cons, e, if_neg (by simpa using ha)]

/-- What the list holds when the file is there. -/
structure Pre (L : List VF) (nm : List UInt8) (f : VF) : Prop where
  find : findV (pre L nm) nm = some f
  name : f.name = nm
  sorted : Sorted (pre L nm)
  tot : totV (pre L nm) = totV L
  num : (pre L nm).length ≤ L.length + 1
  set : ∀ x, setV (pre L nm) ⟨nm, f.b ++ x, f.safe⟩ = grow L nm x

theorem pre_ok {L : List VF} (h : Sorted L) (nm : List UInt8) : ∃ f, Pre L nm f := by
  cases hx : findV L nm with
  | some f =>
    have e : pre L nm = L := by unfold pre; rw [hx]
    refine ⟨f, by rw [e]; exact hx, (findV_mem hx).2, by rw [e]; exact h, by rw [e], by rw [e]; exact Nat.le_succ _, fun x => ?_⟩
    rw [e]
    unfold grow
    rw [hx]
  | none =>
    have e : pre L nm = insV ⟨nm, [], 0⟩ L := by unfold pre; rw [hx]
    have hso := sorted_insV (f := ⟨nm, [], 0⟩) h hx
    have hm : (⟨nm, [], 0⟩ : VF) ∈ insV ⟨nm, [], 0⟩ L := mem_insV.2 (.inl rfl)
    refine ⟨⟨nm, [], 0⟩, ?_, rfl, by rw [e]; exact hso, by rw [e, tot_insV]; simp, by rw [e, length_insV]; exact Nat.le_refl _, fun x => ?_⟩
    · rw [e]
      cases hf : findV (insV ⟨nm, [], 0⟩ L) nm with
      | none =>
        unfold findV at hf
        rw [List.find?_eq_none] at hf
        have := hf _ hm
        simp at this
      | some g =>
        obtain ⟨g1, g2⟩ := findV_mem hf
        rw [hso.uniq g1 hm g2]
    · rw [e]
      show setV _ ⟨nm, x, 0⟩ = _
      rw [setV_fresh hx]
      unfold grow
      rw [hx]

def RS.laid0 (s : RS) (m : Nat) : Int := max 0 (min (m : Int) (s.size - totV s.L))
def RS.laid (s : RS) (m : Nat) : Nat := (if s.gone then max 0 (min (s.laid0 m) s.keeping) else s.laid0 m).toNat
def RS.append (s : RS) (nm bs : List UInt8) : (Int × Int × Bool) × RS :=
  if isName nm = false then ((0, 16, false), s) else
  (if s.gone then (0, 0, true) else (s.laid bs.length, errOf (s.laid bs.length) bs.length, false), { s.beg with L := grow s.L nm (bs.take (s.laid bs.length)) })

end Go.Proofs.YtjbhdidjkdlceaaDoor

/- The reference: Append. -/
namespace Go.Proofs.YtjbhdidjkdlceaaDoor
open Go.RowKit Go.Maps
set_option linter.unusedVariables false

theorem Fine.list {s : RS} (h : Fine s) (L : List VF) (hn : L.length ≤ 100000) (ht : totV L ≤ 100000) : Fine { s with L := L } := ⟨h.size, h.count, h.armed, h.failing, hn, ht⟩

theorem step_append_bytes_k {ops : Array Oper} {o : Oper} {a : Act} {K : Act → World → Prop} {Q : Exit → Act → World → Prop} {E : Prop} (hgd : o.guard = none) (s xo : Operand) (ho : o.op = .call { callee := .builtin .append, args := #[s, xo], argTypes := #[34, 34] })
    (w0 : World) (base : Nat) (av : Value) (As x : List UInt8) (n k : Nat) (hn : x.length = n) (hk : As.length + n = k) (ra : Option Addr) (rc : Nat) (hs : a.eval s = av)
    (hrow : w0.ownsRow base 5 1 av As.length (As.map bv)) (hbase : base ≤ w0.heap.size) (hl : k ≤ 400000) (hx : a.eval xo = .slice ra n rc) (hb : BytesAt w0 ra x) (hnil : ra = none → rc = 0)
    (h : ∀ aa ac w', Grew base av As x w0 w' (.slice aa k ac) → K (a.put o.dst (.slice aa k ac)) w') : if Region.wanted o (yielded ops a.tmps) = true then Oper.wp Tryd.prog o a w0 K Q else E := by
  subst hk
  exact step_append_bytes hgd s xo ho w0 base av As x n hn ra rc hs hrow hbase hl hx hb hnil h

set_option maxRecDepth 100000 in
set_option maxHeartbeats 6400000 in
theorem rappend_law {F : Nat → Prop} {R : Nat} {s : RS} {w : World} (h : Ref F R s w) (hs : Fine s) (hc : s.count ≤ 1000) (hnum : s.L.length ≤ 1000) (hso : Sorted s.L) (hup : ∀ k, w.heap.size ≤ k → F k) (nm : List UInt8) (hnl : nm.length ≤ 9223372036854775807)
    (bs : List UInt8) (m : Nat) (hm : bs.length = m) (hm2 : m ≤ 100000) (ra : Option Addr) (rc : Nat) (hrc : m ≤ rc) (hb : BytesAt w ra bs) (hnot : bs ≠ [] → ∀ ad, ra = some ad → ¬ F ad.block) (hnil : ra = none → rc = 0) :
    Calls Tryd.prog 33 #[.pointer (some ⟨R, 0, none⟩), .string (strB nm), .slice ra m rc] w fun e w' => e = .returned (.tuple #[.int .i64 (s.append nm bs).1.1, .int .i64 (s.append nm bs).1.2.1, .bool (s.append nm bs).1.2.2]) ∧ Led F R (s.append nm bs).2 w w' := by
  unfold RS.append
  have HN : Hid (∀ w, Calls Tryd.prog 52 #[.string (strB nm)] w fun e w' => e = .returned (.bool (isName nm)) ∧ w' = w) := Lib.hid (fun w => rname_law nm hnl w)
  have hgo : s.gone = (s.armed == 1) := rfl
  cases hin : isName nm
  · rw [hin] at HN
    rw [if_pos rfl]
    have H := Lib.hid h
    clear h hs hso hin hb hm hgo
    go_enter Tryd.func33, Tryd.ntmps33
    go_wp2_with (first
      | (go_at_call 52; refine (HN.out _).mono ?_; rintro e w' ⟨rfl, hw⟩; obtain rfl := hw.symm))
    go_ret3
    exact ⟨rfl, H.out, Mod.refl _ _⟩
  · rw [hin] at HN
    simp only [Bool.true_eq_false, if_false]
    obtain ⟨f, hpre⟩ := pre_ok hso nm
    have HPRE := Lib.hid hpre
    have HB := Lib.hid (rbegin_law h hs)
    have HS := Lib.hid hs
    have HSO := Lib.hid hso
    have HFB : Hid (Fine s.beg) := Lib.hid (hs.beg hc)
    have hft : totV s.L ≤ 100000 := hs.tot
    have HF2 : Hid (Fine { s.beg with L := pre s.L nm }) := Lib.hid (HFB.out.list _ (by have := hpre.num; omega) (by rw [hpre.tot]; exact hs.tot))
    obtain ⟨z1, z2⟩ := hs.size
    have HM := Lib.hid hm
    have HBY : Hid (∀ w', Mod F w w' → BytesAt w' ra bs) := Lib.hid (fun w' mm => hb.keep mm hnot)
    rcases first_of hpre.sorted nm with ⟨hx3, _⟩ | ⟨i3, f3, hx3, hn3, hf3, hi3, h3⟩
    · rw [hpre.find] at hx3
      cases hx3
    rw [hpre.find] at hx3
    obtain rfl := Option.some.inj hx3
    have HF3 := Lib.hid hf3
    have HC3 : Hid (∀ w2, Ref F R { s.beg with L := pre s.L nm } w2 → Calls Tryd.prog 54 #[.pointer (some ⟨R, 0, none⟩), .string (strB nm)] w2 fun e w' => e = .returned (.int .i64 (i3 : Nat)) ∧ w' = w2) := Lib.hid (fun w2 hr => rfind_some hr HF2.out nm i3 hi3 h3)
    have HU : Hid (∀ w2, Ref F R { s.beg with L := pre s.L nm } w2 → Calls Tryd.prog 39 #[.pointer (some ⟨R, 0, none⟩)] w2 fun e w' => e = .returned (.int .i64 (totV s.L : Nat)) ∧ w' = w2) := Lib.hid (fun w2 hr => by
      have := rused_law hr HF2.out
      have e : totV ({ s.beg with L := pre s.L nm } : RS).L = totV s.L := HPRE.out.tot
      rw [e] at this
      exact this)
    have HUP := Lib.hid hup
    clear h hs hin hb hpre hf3 h3 hn3 hx3 hso hnot hm hup
    obtain ⟨G, hG⟩ : ∃ G : Bool, G = (s.armed == 1) := ⟨_, rfl⟩
    rw [← hG] at HB hgo
    have HGS : Hid (s.gone = G) := Lib.hid hgo
    rw [HGS.out]
    clear hG hgo
    obtain ⟨q, hq1, hq2⟩ : ∃ q : Int, (∀ w2, Ref F R s.beg w2 → Calls Tryd.prog 54 #[.pointer (some ⟨R, 0, none⟩), .string (strB nm)] w2 fun e w' => e = .returned (.int .i64 q) ∧ w' = w2) ∧ ((q < 0 ∧ findV s.L nm = none) ∨ (0 ≤ q ∧ ∃ g, findV s.L nm = some g)) := by
      rcases first_of HSO.out nm with ⟨hx2, h2⟩ | ⟨i2, f2, hx2, hn2, hf2, hi2, h2⟩
      · exact ⟨-1, fun w2 hr => rfind_none hr HFB.out nm h2, .inl ⟨by omega, hx2⟩⟩
      · exact ⟨i2, fun w2 hr => rfind_some hr HFB.out nm i2 hi2 h2, .inr ⟨by omega, f2, hx2⟩⟩
    have HQ1 := Lib.hid hq1
    have HQ2 := Lib.hid hq2
    clear hq1 hq2
    go_enter Tryd.func33, Tryd.ntmps33
    go_upto_if 20 with (first
      | (go_at_call 52; refine (HN.out _).mono ?_; rintro e w' ⟨rfl, hw⟩; obtain rfl := hw.symm)
      | (go_at_call 53; refine HB.out.mono ?_; rintro e w1 ⟨rfl, hl1⟩; have HL1 := Lib.hid hl1; clear hl1)
      | (go_at_call 54; refine (HQ1.out _ HL1.out.ref).mono ?_; rintro e w' ⟨rfl, hw⟩; obtain rfl := hw.symm))
    go_cut [] (fun wx => Led F R { s.beg with L := pre s.L nm } w wx)
    case first =>
      rcases HQ2.out with ⟨hq, hx2⟩ | ⟨hq, g2, hx2⟩
      · have HP := Lib.hid (rput_ref HL1.out.ref HFB.out HSO.out (fun k hk => HUP.out k (by have := HL1.out.mod.size; omega)) ⟨nm, [], 0⟩ none 0 (World.ownsRow_nil _ _ _ _) (fun k hk => by cases hk) hx2)
        have HX2 := Lib.hid hx2
        clear hx2
        go_wp2_with (first
          | (go_at_call 55; refine HP.out.mono ?_; rintro e w2 ⟨rfl, hl2⟩; have HL2 : Hid (Led F R { s.beg with L := pre s.L nm } w w2) := Lib.hid (HL1.out.trans ⟨hl2.ref.as (by unfold pre; rw [HX2.out]; rfl), hl2.mod⟩); clear hl2))
        go_meet
        exact HL2.out
      · have HL2 : Hid (Led F R { s.beg with L := pre s.L nm } w w1) := Lib.hid ⟨HL1.out.ref.as (by unfold pre; rw [hx2]; rfl), HL1.out.mod⟩
        clear hx2
        go_wp2_with fail
        go_meet
        exact HL2.out
    case rest =>
    obtain ⟨w2, hw2⟩ : ∃ y : World, y = wc := ⟨_, rfl⟩
    rw [← hw2] at hcut ⊢
    have HL2 := Lib.hid hcut
    clear hcut hw2
    go_upto_region 6 with (fail)
    have c1 : w2.cell? ⟨R, 1, none⟩ = some (.int .i64 s.size) := HL2.out.ref.cells.size
    have HUQ : Hid (∀ n, Calls Tryd.prog 39 #[.pointer (some ⟨R, 0, none⟩)] (w2.drewN n) fun e w' => e = .returned (.int .i64 (totV s.L : Nat)) ∧ w' = w2.drewN n) := Lib.hid (fun n => HU.out _ (HL2.out.drewN n).ref)
    go_quiet (first
      | (go_at_call 39; refine Calls.quiet_of_same (HUQ.out _)))
    obtain ⟨w3, hw3⟩ : ∃ y : World, y = w2.drewN nq := ⟨_, rfl⟩
    have hl3 : Led F R { s.beg with L := pre s.L nm } w w3 := by rw [hw3]; exact HL2.out.drewN nq
    rw [← hw3]
    have HL3 := Lib.hid hl3
    clear hw3 hl3 c1
    obtain ⟨T, hT⟩ : ∃ T : Nat, T = totV s.L := ⟨_, rfl⟩
    have HTT := Lib.hid hT
    rw [← hT] at hft ⊢
    clear hT
    go_upto_if 35 with (fail)
    go_cut [10] (fun s10 wx => s10 = .int .i64 (min (m : Int) (s.size - (T : Nat))) ∧ w3 = wx)
    case first =>
      go_wp2_with fail
      all_goals (go_meet; exact ⟨by simp only [Value.int.injEq, true_and]; omega, rfl⟩)
    case rest =>
    obtain ⟨rfl, rfl⟩ := hcut
    obtain ⟨n1, hn1⟩ : ∃ n1 : Int, n1 = min (m : Int) (s.size - (T : Nat)) := ⟨_, rfl⟩
    rw [← hn1]
    have HN1 := Lib.hid hn1
    have hn1b : n1 ≤ m := by omega
    clear hn1
    go_upto_if 39 with (fail)
    go_cut [10] (fun s10 wx => s10 = .int .i64 (max 0 n1) ∧ w3 = wx)
    case first =>
      go_wp2_with fail
      all_goals (go_meet; exact ⟨by simp only [Value.int.injEq, true_and]; omega, rfl⟩)
    case rest =>
    obtain ⟨rfl, rfl⟩ := hcut
    obtain ⟨n2, hn2⟩ : ∃ n2 : Int, n2 = max 0 n1 := ⟨_, rfl⟩
    rw [← hn2]
    have HN2 := Lib.hid hn2
    have hn2b : 0 ≤ n2 ∧ n2 ≤ m := by omega
    clear hn2 hn1b
    have c4 : w3.cell? ⟨R, 4, none⟩ = some (.int .i64 s.keeping) := HL3.out.ref.keeps
    go_upto_region 11 with (fail)
    obtain ⟨n3, hn3⟩ : ∃ n3 : Int, n3 = if G then min n2 s.keeping else n2 := ⟨_, rfl⟩
    have HLA : Hid (s.laid m = (max 0 n3).toNat) := Lib.hid (by unfold RS.laid RS.laid0; rw [HGS.out, hn3, HN2.out, HN1.out, HTT.out]; cases G <;> simp only [Bool.false_eq_true, if_false, if_true]; omega)
    have hn3b : n3 ≤ n2 := by rw [hn3]; split <;> omega
    have HN3 := Lib.hid hn3
    clear hn3
    go_cut [48] (fun s48 wx => s48 = .bool (G && decide (s.keeping < n2)) ∧ w3 = wx)
    case first =>
      cases G
      all_goals go_wp2_with fail
      all_goals (go_meet; exact ⟨by simp, rfl⟩)
    case rest =>
    obtain ⟨rfl, rfl⟩ := hcut
    go_upto_if 48 with (fail)
    go_cut [10] (fun s10 wx => s10 = .int .i64 n3 ∧ w3 = wx)
    case first =>
      cases G with
      | false =>
        simp only [Bool.false_and]
        go_wp2_with fail
        go_meet
        exact ⟨by rw [HN3.out]; simp, rfl⟩
      | true =>
        by_cases hk : s.keeping < n2
        · have hkt : (s.keeping < n2) = True := eq_true hk
          simp only [Bool.true_and, hkt, decide_true]
          go_wp2_with fail
          go_meet
          exact ⟨by rw [HN3.out]; simp only [if_true, Value.int.injEq, true_and]; omega, rfl⟩
        · have hkt : (s.keeping < n2) = False := eq_false hk
          simp only [Bool.true_and, hkt, decide_false]
          go_wp2_with fail
          go_meet
          exact ⟨by rw [HN3.out]; simp only [if_true, Value.int.injEq, true_and]; omega, rfl⟩
    case rest =>
    obtain ⟨rfl, rfl⟩ := hcut
    have hn3m : n3 ≤ m := by omega
    go_upto_if 54 with (fail)
    go_cut [10] (fun s10 wx => s10 = .int .i64 (max 0 n3) ∧ w3 = wx)
    case first =>
      go_wp2_with fail
      all_goals (go_meet; exact ⟨by simp only [Value.int.injEq, true_and]; omega, rfl⟩)
    case rest =>
    obtain ⟨rfl, rfl⟩ := hcut
    obtain ⟨N, hN⟩ : ∃ N : Nat, (N : Int) = max 0 n3 := ⟨(max 0 n3).toNat, by omega⟩
    rw [← hN] at HLA ⊢
    have hNm : N ≤ m := by omega
    have HLN : Hid (s.laid m = N) := Lib.hid (by rw [HLA.out]; omega)
    clear hN
    have HC4 := Lib.hid (HC3.out w3 HL3.out.ref)
    go_upto_region 16 with (first
      | (go_at_call 54; refine HC4.out.mono ?_; rintro e w' ⟨rfl, hw⟩; obtain rfl := hw.symm))
    obtain ⟨fs, r, g, lc, fa, fc, ho⟩ := HL3.out.ref.open HF3.out
    have c0 := ho.c0
    have k1 := ho.k1
    have fz := ho.fr (i3 * 3 + 1)
    have hlt := ho.lt
    have hfn : fs.length ≤ 100000 := by rw [ho.few]; exact HF2.out.num
    have hfb : f.b.length ≤ 100000 := Nat.le_trans (len_le_totV (List.mem_of_getElem? HF3.out)) HF2.out.tot
    have hR : R < w3.heap.size := lt_of_block ho.ref.box
    have hg : g < w3.heap.size := (ho.ref.row.lt g rfl).2
    have HQ := Lib.hid ho.ref
    have HO := Lib.hid ho
    have hrow := ho.ref.files r (List.mem_of_getElem? ho.at')
    rw [ho.rbv, ho.v] at hrow
    have HFN : Hid (fa = none → fc = 0) := Lib.hid (fun e => (HO.out.no e).2)
    have hbA : Below w3.heap.size w3 (w3.alloc (.cells #[] 5)).drew := ((Below.refl _ w3).alloc (Nat.le_refl _) _).drew
    have HA := Lib.hid hbA
    have HFY : Hid (BytesAt (w3.alloc (.cells #[] 5)).drew fa f.b) := Lib.hid ((bytes_of_row hrow).below (Nat.le_refl _) hbA)
    have he : (w3.alloc (.cells #[] 5)).drew.ownsRow w3.heap.size 5 1 (.slice (some ⟨w3.heap.size, 0, none⟩) 0 0) ([] : List UInt8).length (([] : List UInt8).map bv) := World.ownsRow_lit (w := w3) (size := 1) (base := w3.heap.size) (e := 5) #[] 0 (Nat.le_refl _) (by unfold maxLen; omega) rfl
    have HE := Lib.hid he
    have e0 : (w3.alloc (.cells #[] 5)).cell? ⟨R, 0, none⟩ = some (.slice (some ⟨g, 0, none⟩) fs.length lc) := by
      rw [World.cell?_alloc_lt _ _ _ hR]
      exact c0
    have e1 : (w3.alloc (.cells #[] 5)).cell? ⟨g, i3 * 3 + 1, none⟩ = some (.slice fa f.b.length fc) := by
      rw [World.cell?_alloc_lt _ _ _ hg]
      exact k1
    have HTK : Hid ((bs.take N).length = N) := Lib.hid (by rw [List.length_take, HM.out]; omega)
    have n0 : ((N : Int)).toNat = N := by omega
    have n1 : (0 : Int) ≤ N := by omega
    have n2 : (N : Int) ≤ rc := by omega
    clear ho hrow hbA he
    have hfin : ∀ (w9 : World) (v : Value), Below w3.heap.size w3 w9 → w9.ownsRow w3.heap.size 5 1 v (f.b ++ bs.take N).length ((f.b ++ bs.take N).map bv) → Led F R { s.beg with L := grow s.L nm (bs.take (s.laid m)) } w (w9.setCell ⟨g, i3 * 3 + 1, none⟩ v) := by
      intro w9 v hb9 hr9
      obtain ⟨q1, q2⟩ := (HQ.out.below hb9).setB HO.out.at' rfl (b' := f.b ++ bs.take N) (hr9.mono (Nat.zero_le _)) (fun k hk => HUP.out k (by have := (hr9.lt k hk).1; have := HL3.out.mod.size; omega))
      refine ⟨⟨_, _, ?_, q1.as rfl⟩, (HL3.out.mod.trans (Mod.of_below hb9)).trans q2⟩
      show _ = grow s.L nm (bs.take (s.laid m))
      rw [HLN.out, List.map_set, HO.out.vs]
      show (pre s.L nm).set i3 ⟨r.v.name, f.b ++ bs.take N, r.v.safe⟩ = _
      rw [HO.out.v, ← setV_at HPRE.out.sorted HF3.out (f' := ⟨f.name, f.b ++ bs.take N, f.safe⟩) rfl, HPRE.out.name, HPRE.out.set]
    have HFIN := Lib.hid hfin
    clear hfin
    go_cut [] (fun wx => Led F R { s.beg with L := grow s.L nm (bs.take (s.laid m)) } w wx)
    case first =>
      rcases ra with _ | ad
      · have hm0 : m = 0 := by
          have hz := HBY.out w (Mod.refl _ _)
          rw [← HM.out]
          cases hbs : bs with
          | nil => rfl
          | cons y ys =>
            obtain ⟨b, off, he, _⟩ := hz.cells 0 y (by rw [hbs]; rfl)
            cases he
        have hr0 := hnil rfl
        have hN0 : N = 0 := by omega
        subst hm0 hr0 hN0
        go_region_law (first
          | (refine step_append_bytes_k rfl (.tmp 63) (.tmp 71) rfl (w3.alloc (.cells #[] 5)).drew w3.heap.size (.slice (some ⟨w3.heap.size, 0, none⟩) 0 0) [] f.b f.b.length f.b.length rfl (Nat.zero_add _) fa fc rfl HE.out HA.out.size (by omega) rfl HFY.out HFN.out ?_; intro aa ac w8 hg8; have hb8 : Below w3.heap.size w3 w8 := HA.out.trans (hg8.mod.below (fun t ht => by simp [Value.ownBlock] at ht; omega) HA.out.size); have hq8 := HQ.out.below hb8; have e8 := (rcell hq8.box).1; obtain ⟨g8, lc8, hl8, _, _, _, _, k8, _, fz8⟩ := hq8.form HO.out.at'; simp only [Value.slice.injEq, true_and, Option.some.injEq, Addr.mk.injEq] at hl8; obtain ⟨⟨rfl, _⟩, rfl⟩ := hl8; rw [HO.out.rbv] at k8; have f8 := fz8 (i3 * 3 + 1); have HB8 := Lib.hid hb8; have HQ8 := Lib.hid hq8; have HG8 := Lib.hid hg8; have HBS8 : Hid (BytesAt w8 none (bs.take 0)) := Lib.hid ((HBY.out w8 (HL3.out.mod.trans (Mod.of_below hb8))).take 0); clear hb8 hq8 hg8 fz8)
          | (refine step_append_bytes_k rfl (.tmp 72) (.tmp 75) rfl w8 w3.heap.size (.slice aa f.b.length ac) f.b (bs.take 0) 0 (f.b.length + 0) HTK.out rfl none 0 rfl HG8.out.row HB8.out.size (by omega) rfl HBS8.out hnil ?_; intro ab ad9 w9 hg9; have hb9 : Below w3.heap.size w3 w9 := HB8.out.trans (hg9.mod.below (fun t ht => by rcases HG8.out.hat t ht with h1 | h1; (simp [Value.ownBlock] at h1; omega); (have := HA.out.size; omega)) HB8.out.size); have hq9 := HQ.out.below hb9; have e9 := (rcell hq9.box).1; obtain ⟨g9, lc9, hl9, _, _, _, _, k9, _, fz9⟩ := hq9.form HO.out.at'; simp only [Value.slice.injEq, true_and, Option.some.injEq, Addr.mk.injEq] at hl9; obtain ⟨⟨rfl, _⟩, rfl⟩ := hl9; rw [HO.out.rbv] at k9; have f9 := fz9 (i3 * 3 + 1); have HB9 := Lib.hid hb9; have HQ9 := Lib.hid hq9; have HG9 := Lib.hid hg9; clear hb9 hq9 hg9 fz9))
        all_goals (go_wp2_with fail; go_meet)
        all_goals (first | exact HFIN.out _ _ HB9.out (by rw [List.length_append, HTK.out] at *; exact HG9.out.row) | exact (HFIN.out _ _ HB9.out HG9.out.row))
      · skip
        go_region_law (first
          | (refine step_append_bytes_k rfl (.tmp 63) (.tmp 71) rfl (w3.alloc (.cells #[] 5)).drew w3.heap.size (.slice (some ⟨w3.heap.size, 0, none⟩) 0 0) [] f.b f.b.length f.b.length rfl (Nat.zero_add _) fa fc rfl HE.out HA.out.size (by omega) rfl HFY.out HFN.out ?_; intro aa ac w8 hg8; have hb8 : Below w3.heap.size w3 w8 := HA.out.trans (hg8.mod.below (fun t ht => by simp [Value.ownBlock] at ht; omega) HA.out.size); have hq8 := HQ.out.below hb8; have e8 := (rcell hq8.box).1; obtain ⟨g8, lc8, hl8, _, _, _, _, k8, _, fz8⟩ := hq8.form HO.out.at'; simp only [Value.slice.injEq, true_and, Option.some.injEq, Addr.mk.injEq] at hl8; obtain ⟨⟨rfl, _⟩, rfl⟩ := hl8; rw [HO.out.rbv] at k8; have f8 := fz8 (i3 * 3 + 1); have HB8 := Lib.hid hb8; have HQ8 := Lib.hid hq8; have HG8 := Lib.hid hg8; have HBS8 : Hid (BytesAt w8 (some ad) (bs.take N)) := Lib.hid ((HBY.out w8 (HL3.out.mod.trans (Mod.of_below hb8))).take N); clear hb8 hq8 hg8 fz8)
          | (refine step_append_bytes_k rfl (.tmp 72) (.tmp 75) rfl w8 w3.heap.size (.slice aa f.b.length ac) f.b (bs.take N) N (f.b.length + N) HTK.out rfl (some ad) rc rfl HG8.out.row HB8.out.size (by omega) rfl HBS8.out hnil ?_; intro ab ad9 w9 hg9; have hb9 : Below w3.heap.size w3 w9 := HB8.out.trans (hg9.mod.below (fun t ht => by rcases HG8.out.hat t ht with h1 | h1; (simp [Value.ownBlock] at h1; omega); (have := HA.out.size; omega)) HB8.out.size); have hq9 := HQ.out.below hb9; have e9 := (rcell hq9.box).1; obtain ⟨g9, lc9, hl9, _, _, _, _, k9, _, fz9⟩ := hq9.form HO.out.at'; simp only [Value.slice.injEq, true_and, Option.some.injEq, Addr.mk.injEq] at hl9; obtain ⟨⟨rfl, _⟩, rfl⟩ := hl9; rw [HO.out.rbv] at k9; have f9 := fz9 (i3 * 3 + 1); have HB9 := Lib.hid hb9; have HQ9 := Lib.hid hq9; have HG9 := Lib.hid hg9; clear hb9 hq9 hg9 fz9))
        all_goals (go_wp2_with fail; go_meet)
        all_goals (first | exact HFIN.out _ _ HB9.out (by rw [List.length_append, HTK.out] at *; exact HG9.out.row) | exact (HFIN.out _ _ HB9.out HG9.out.row))
    case rest =>
    have HL5 := Lib.hid hcut
    clear hcut
    cases G
    · by_cases hk : N < m
      · have hkt : (N < m) = True := eq_true hk
        go_wp2
        go_ret3
        refine ⟨?_, by rw [HM.out]; exact HL5.out⟩
        rw [HM.out, HLN.out]
        simp [errOf, hk]
      · have hkt : (N < m) = False := eq_false hk
        go_wp2
        go_ret3
        refine ⟨?_, by rw [HM.out]; exact HL5.out⟩
        rw [HM.out, HLN.out]
        simp [errOf, hk]
    · go_wp2
      go_ret3
      exact ⟨rfl, by rw [HM.out]; exact HL5.out⟩

end Go.Proofs.YtjbhdidjkdlceaaDoor
