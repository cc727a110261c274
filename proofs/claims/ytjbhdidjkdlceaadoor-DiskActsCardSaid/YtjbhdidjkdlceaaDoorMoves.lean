/- DiskMoves, whatever its arguments. -/
import Derived.Test.YtjbhdidjkdlceaaDoorOwn
namespace Go.Proofs.YtjbhdidjkdlceaaDoor
open Go.RowKit Go.Maps
set_option linter.unusedVariables false

def mS1 (a : List UInt8) (sf : Nat) (o : Int) : PS := ⟨[⟨[97], a, sf⟩], 1073741824, a.length, o, 0, 0, 0⟩
def mS2 (a b : List UInt8) (sf : Nat) (o : Int) : PS := ⟨[⟨[97], a, sf⟩, ⟨[98], b, 0⟩], 1073741824, (a.length : Int) + b.length, o, 0, 0, 0⟩
def mS3 (a : List UInt8) (sf : Nat) (o : Int) : PS := ⟨[⟨[98], a, sf⟩], 1073741824, a.length, o, 0, 0, 0⟩

theorem gone_zero {s : PS} (ha : s.arm = 0) (ho : 0 ≤ s.ops) : s.gone = false := by
  unfold PS.gone
  rw [beq_eq_false_iff_ne, ha]
  omega

theorem change_stay {s : PS} (h : s.gone = false) (L' : List VF) (u f : Int) : s.change L' u f = { s with L := L', used := u, ops := s.ops + 1, fail := f } := by
  unfold PS.change
  rw [h]
  rfl

theorem m_first (a : List UInt8) (h : a.length ≤ 1000) : (newS 1073741824).append [97] a = (.told a.length 0, mS1 a 0 1) := by
  rw [append_fits rfl rfl (by show (a.length : Int) ≤ 1073741824 - 0; omega)]
  simp [newS, mS1, grow, findV, insV]
theorem m_sync (a : List UInt8) : (mS1 a 0 1).sync [97] = (.told 0 0, mS1 a a.length 2) := by
  have hf : findV (mS1 a 0 1).L [97] = some ⟨[97], a, 0⟩ := rfl
  unfold PS.sync
  rw [hf]
  simp only
  rw [change_stay (gone_zero rfl (by show (0 : Int) ≤ 1; decide))]
  rfl
theorem m_second (a b : List UInt8) (sf : Nat) (o : Int) (ho : 0 ≤ o) (ha : a.length ≤ 1000) (hb : b.length ≤ 1000) : (mS1 a sf o).append [98] b = (.told b.length 0, mS2 a b sf (o + 1)) := by
  rw [append_fits rfl (gone_zero rfl ho) (by show (b.length : Int) ≤ 1073741824 - a.length; omega)]
  rfl
theorem m_same (a b : List UInt8) (sf : Nat) (o : Int) (ho : 0 ≤ o) : (mS2 a b sf o).rename [97] [97] = (.told 0 0, mS2 a b sf (o + 1)) := by
  have hf : findV (mS2 a b sf o).L [97] = some ⟨[97], a, sf⟩ := rfl
  have hg : (mS2 a b sf o).gone = false := gone_zero rfl ho
  unfold PS.rename
  rw [hf]
  simp only
  rw [if_neg (by decide), change_stay hg, hg]
  rfl
theorem m_other (a b : List UInt8) (sf : Nat) (o : Int) (ho : 0 ≤ o) : (mS2 a b sf o).rename [97] [98] = (.told 0 0, mS3 a sf (o + 1)) := by
  have hf : findV (mS2 a b sf o).L [97] = some ⟨[97], a, sf⟩ := rfl
  have hg : (mS2 a b sf o).gone = false := gone_zero rfl ho
  have hl : lenV (mS2 a b sf o).L [98] = b.length := rfl
  have hu : (mS2 a b sf o).used - (b.length : Int) = a.length := by
    show (a.length : Int) + b.length - b.length = a.length
    omega
  unfold PS.rename
  rw [hf]
  simp only
  rw [if_neg (by decide), if_neg (by decide), change_stay hg, hg, hl, hu]
  rfl

theorem mOk1 (a : List UInt8) (h : a.length ≤ 1000) : Ok 1 1000 (mS1 a 0 1) := by
  have := (newS_ok (n := 1073741824) (by decide) (by decide)).append [97] a
  rw [m_first a h] at this
  exact this.mono (Nat.le_refl _) (by omega)
theorem mOk2 (a : List UInt8) (h : a.length ≤ 1000) : Ok 2 1000 (mS1 a a.length 2) := by
  have := (mOk1 a h).sync [97]
  rw [m_sync a] at this
  exact this
theorem mOk3 {a b : List UInt8} {sf : Nat} {o : Int} (h : Ok 2 1000 (mS1 a sf o)) (ha : a.length ≤ 1000) (hb : b.length ≤ 1000) : Ok 3 2000 (mS2 a b sf (o + 1)) := by
  have := h.append [98] b
  rw [m_second a b sf o h.ops.1 ha hb] at this
  exact this.mono (Nat.le_refl _) (by omega)
theorem mOk4 {a b : List UInt8} {sf : Nat} {o : Int} (h : Ok 3 2000 (mS2 a b sf o)) : Ok 4 2000 (mS2 a b sf (o + 1)) := by
  have := h.rename [97] [97]
  rw [m_same a b sf o h.ops.1] at this
  exact this
theorem mOk5 {a b : List UInt8} {sf : Nat} {o : Int} (h : Ok 3 2000 (mS2 a b sf o)) : Ok 4 2000 (mS3 a sf (o + 1)) := by
  have := h.rename [97] [98]
  rw [m_other a b sf o h.ops.1] at this
  exact this

/-- The disk of a call, and nothing else that was there has turned. -/
structure At (W : World) (s : PS) (w : World) : Prop where
  room : Room (fun k => k < W.heap.size) (W.heap.size + 1) W.heap.size s w
  below : Below W.heap.size W w

theorem At.went {W : World} {s s' : PS} {w w' : World} (h : At W s w) (k : Went (fun k => k < W.heap.size) (W.heap.size + 1) W.heap.size s' w w') (hok : Ok 100000 100000 s') : At W s' w' :=
  ⟨h.room.went k hok, h.below.trans (k.mod.below (fun k hk => Nat.le_of_not_lt hk) h.below.size)⟩
theorem At.more {W : World} {s : PS} {w w' : World} (h : At W s w) (k : Below w.heap.size w w') : At W s w' := ⟨h.room.below k, h.below.trans (k.mono h.below.size)⟩

/-- Bytes that came in. -/
structure Came (W : World) (ra : Option Addr) (bs : List UInt8) (n rc : Nat) : Prop where
  len : bs.length = n
  bytes : BytesAt W ra bs
  nil : ra = none → rc = 0
  cap : n ≤ rc

theorem At.append {W : World} {s s' : PS} {w : World} (h : At W s w) {ra : Option Addr} {bs : List UInt8} {n rc : Nat} (c : Came W ra bs n rc) (hn : n ≤ 1000) (nm : ByteArray) (hs : nm.size ≤ 9223372036854775807) (e1 : s.append nm.data.toList bs = (.told bs.length 0, s')) (hok : Ok 100000 100000 s') :
    Calls Tryd.prog 17 #[.pointer (some ⟨W.heap.size + 1, 0, none⟩), .string nm, .slice ra n rc] w fun e w' => e = .returned (.tuple #[.int .i64 n, .int .i64 0]) ∧ At W s' w' := by
  have HA := append_law h.room nm hs bs n c.len (by omega) ra rc c.cap (c.bytes.below (Nat.le_refl _) h.below) (fun hne ad had => c.bytes.old hne ad had) c.nil
  rw [e1] at HA
  refine HA.mono ?_
  rintro e w' ⟨rfl, hw⟩
  exact ⟨by rw [c.len]; rfl, h.went hw hok⟩
theorem At.sync {W : World} {s s' : PS} {w : World} (h : At W s w) (nm : ByteArray) (hs : nm.size ≤ 9223372036854775807) (e1 : s.sync nm.data.toList = (.told 0 0, s')) (hok : Ok 100000 100000 s') :
    Calls Tryd.prog 20 #[.pointer (some ⟨W.heap.size + 1, 0, none⟩), .string nm] w fun e w' => e = .returned (.int .i64 0) ∧ At W s' w' := by
  have HA := sync_law h.room nm hs
  rw [e1] at HA
  refine HA.mono ?_
  rintro e w' ⟨rfl, hw⟩
  exact ⟨rfl, h.went hw hok⟩
theorem At.rename {W : World} {s s' : PS} {w : World} (h : At W s w) (old nm : ByteArray) (ho : old.size ≤ 9223372036854775807) (hs : nm.size ≤ 9223372036854775807) (e1 : s.rename old.data.toList nm.data.toList = (.told 0 0, s')) (hok : Ok 100000 100000 s') :
    Calls Tryd.prog 21 #[.pointer (some ⟨W.heap.size + 1, 0, none⟩), .string old, .string nm] w fun e w' => e = .returned (.int .i64 0) ∧ At W s' w' := by
  have HA := rename_law h.room old nm ho hs
  rw [e1] at HA
  refine HA.mono ?_
  rintro e w' ⟨rfl, hw⟩
  exact ⟨rfl, h.went hw hok⟩
/-- Read, and its bytes as a string. -/
theorem At.read {W : World} {s : PS} {w : World} (h : At W s w) (nm : ByteArray) (hs : nm.size ≤ 9223372036854775807) {f : VF} (hf : findV s.L nm.data.toList = some f) {n : Nat} (hn : f.b.length = n) :
    Calls Tryd.prog 18 #[.pointer (some ⟨W.heap.size + 1, 0, none⟩), .string nm] w fun e w' => ∃ a c, e = .returned (.tuple #[.slice a n c, .int .i64 0]) ∧ BytesAt w' a f.b ∧ At W s w' := by
  refine (read_law h.room nm hs f hf).mono ?_
  rintro e w' ⟨⟨a, c, rfl, hrow⟩, hb⟩
  exact ⟨a, c, by rw [hn], bytes_of_row hrow, h.more hb⟩
theorem At.unread {W : World} {s : PS} {w : World} (h : At W s w) (nm : ByteArray) (hs : nm.size ≤ 9223372036854775807) (hf : findV s.L nm.data.toList = none) :
    Calls Tryd.prog 18 #[.pointer (some ⟨W.heap.size + 1, 0, none⟩), .string nm] w fun e w' => e = .returned (.tuple #[.slice none 0 0, .int .i64 6]) ∧ w' = w := read_law_none h.room nm hs hf
theorem At.synced {W : World} {s : PS} {w : World} (h : At W s w) (nm : ByteArray) (hs : nm.size ≤ 9223372036854775807) {n : Nat} (hn : safeV s.L nm.data.toList = n) :
    Calls Tryd.prog 27 #[.pointer (some ⟨W.heap.size + 1, 0, none⟩), .string nm] w fun e w' => e = .returned (.int .i64 n) ∧ w' = w := by
  have := synced_law h.room nm hs
  rw [hn] at this
  exact this
theorem At.names {W : World} {s : PS} {w : World} (h : At W s w) {n : Nat} (hn : s.L.length = n) :
    Calls Tryd.prog 28 #[.pointer (some ⟨W.heap.size + 1, 0, none⟩)] w fun e w' => ∃ a c, e = .returned (.slice a n c) ∧ At W s w' := by
  refine (names_law h.room).mono ?_
  rintro e w' ⟨⟨a, c, rfl, _⟩, hb⟩
  exact ⟨a, c, by rw [hn], h.more hb⟩
theorem At.used {W : World} {s : PS} {w : World} (h : At W s w) {u : Int} (hu : s.used = u) : Calls Tryd.prog 29 #[.pointer (some ⟨W.heap.size + 1, 0, none⟩)] w fun e w' => e = .returned (.int .i64 u) ∧ w' = w := by
  have := used_law h.room
  rw [hu] at this
  exact this

theorem at_new (n : Int) (h1 : 0 ≤ n) (h2 : n ≤ 1073741824) (W : World) : Calls Tryd.prog 12 #[.int .i64 n] W fun e w' => e = .returned (.tuple #[.pointer (some ⟨W.heap.size + 1, 0, none⟩), .int .i64 0]) ∧ At W (newS n) w' := by
  refine (new_law n h1 h2 W).mono ?_
  rintro e w' ⟨rfl, hb, hl⟩
  exact ⟨rfl, ⟨hl, ok_big (newS_ok h1 h2) (by decide) (by decide), fun k hk => Nat.lt_of_lt_of_le hk hb.size⟩, hb⟩


set_option maxRecDepth 100000 in
set_option maxHeartbeats 2000000 in
theorem moves_t_t {W : World} (ra rb : Option Addr) (xs bs : List UInt8) (la lb rca rcb : Nat) (ca : Came W ra xs la rca) (cb : Came W rb bs lb rcb) (ha : la ≤ 1000) (hb : lb ≤ 1000) :
    Calls Tryd.prog 8 #[.slice ra la rca, .slice rb lb rcb, .agg #[.bool true, .bool true]] W fun e w' => e = .returned (.bool true) ∧ Below W.heap.size W w' := by
  have hla : xs.length ≤ 1000 := by rw [ca.len]; exact ha
  have hlb : bs.length ≤ 1000 := by rw [cb.len]; exact hb
  obtain ⟨w0, hw0⟩ : ∃ w0, w0 = W.alloc (.cells #[.bool true, .bool true] 59) := ⟨_, rfl⟩
  have hb0 : Below W.heap.size W w0 := by rw [hw0]; exact (Below.refl _ W).alloc (Nat.le_refl _) _
  have hbox : w0.heap[W.heap.size]? = some (.cells #[.bool true, .bool true] 59 (0, 0)) := by rw [hw0]; exact heap_alloc_new _ _
  have q0 : w0.cell? ⟨W.heap.size, 0, none⟩ = some (.bool true) := by rw [cell_of_row _ _ _ _ _ _ hbox]; rfl
  have q1 : w0.cell? ⟨W.heap.size, 1, none⟩ = some (.bool true) := by rw [cell_of_row _ _ _ _ _ _ hbox]; rfl
  have ca' : Came w0.drew ra xs la rca := ⟨ca.len, ca.bytes.below (Nat.le_refl _) (below_drewN hb0 1), ca.nil, ca.cap⟩
  have cb' : Came w0.drew rb bs lb rcb := ⟨cb.len, cb.bytes.below (Nat.le_refl _) (below_drewN hb0 1), cb.nil, cb.cap⟩
  obtain ⟨w1, hw1⟩ : ∃ w1, w1 = w0.drew := ⟨_, rfl⟩
  rw [← hw1] at ca' cb'
  have HB01 : Hid (Below W.heap.size W w1) := Lib.hid (by rw [hw1]; exact below_drewN hb0 1)
  have CA := Lib.hid ca'
  have CB := Lib.hid cb'
  have HN := Lib.hid (at_new 1073741824 (by decide) (by decide) w1)
  have HW0 := Lib.hid hw0
  have HW1 := Lib.hid hw1
  have HLA := Lib.hid hla
  have HLB := Lib.hid hlb
  clear hb0 hbox ca' cb' hw0 hw1 ca cb hla hlb
  have HK1 : Hid (∀ w, At w1 (newS 1073741824) w → Calls Tryd.prog 17 #[.pointer (some ⟨w1.heap.size + 1, 0, none⟩), .string ⟨#[97]⟩, .slice ra la rca] w fun e w' => e = .returned (.tuple #[.int .i64 la, .int .i64 0]) ∧ At w1 (mS1 xs 0 1) w') :=
    Lib.hid (fun w h => h.append CA.out ha ⟨#[97]⟩ (by decide) (m_first xs HLA.out) (ok_big (mOk1 xs HLA.out) (by decide) (by decide)))
  have HK2 : Hid (∀ w, At w1 (mS1 xs 0 1) w → Calls Tryd.prog 20 #[.pointer (some ⟨w1.heap.size + 1, 0, none⟩), .string ⟨#[97]⟩] w fun e w' => e = .returned (.int .i64 0) ∧ At w1 (mS1 xs xs.length 2) w') :=
    Lib.hid (fun w h => h.sync ⟨#[97]⟩ (by decide) (m_sync xs) (ok_big (mOk2 xs HLA.out) (by decide) (by decide)))
  have HK3 : Hid (∀ w, At w1 (mS1 xs xs.length 2) w → Calls Tryd.prog 17 #[.pointer (some ⟨w1.heap.size + 1, 0, none⟩), .string ⟨#[98]⟩, .slice rb lb rcb] w fun e w' => e = .returned (.tuple #[.int .i64 lb, .int .i64 0]) ∧ At w1 (mS2 xs bs xs.length (2 + 1)) w') :=
    Lib.hid (fun w h => h.append CB.out hb ⟨#[98]⟩ (by decide) (m_second xs bs xs.length 2 (by decide) HLA.out HLB.out) (ok_big (mOk3 (mOk2 xs HLA.out) HLA.out HLB.out) (by decide) (by decide)))
  have HK4 : Hid (∀ w, At w1 (mS2 xs bs xs.length (2 + 1)) w → Calls Tryd.prog 27 #[.pointer (some ⟨w1.heap.size + 1, 0, none⟩), .string ⟨#[97]⟩] w fun e w' => e = .returned (.int .i64 (xs.length : Nat)) ∧ w' = w) :=
    Lib.hid (fun w h => h.synced ⟨#[97]⟩ (by decide) rfl)
  have HK5 : Hid (∀ w, At w1 (mS2 xs bs xs.length (2 + 1)) w → Calls Tryd.prog 21 #[.pointer (some ⟨w1.heap.size + 1, 0, none⟩), .string ⟨#[97]⟩, .string ⟨#[97]⟩] w fun e w' => e = .returned (.int .i64 0) ∧ At w1 (mS2 xs bs xs.length (2 + 1 + 1)) w') :=
    Lib.hid (fun w h => h.rename ⟨#[97]⟩ ⟨#[97]⟩ (by decide) (by decide) (m_same xs bs xs.length (2 + 1) (by decide)) (ok_big (mOk4 (mOk3 (mOk2 xs HLA.out) HLA.out HLB.out)) (by decide) (by decide)))
  have HK6 : Hid (∀ w, At w1 (mS2 xs bs xs.length (2 + 1 + 1)) w → Calls Tryd.prog 18 #[.pointer (some ⟨w1.heap.size + 1, 0, none⟩), .string ⟨#[97]⟩] w fun e w' => ∃ a c, e = .returned (.tuple #[.slice a la c, .int .i64 0]) ∧ BytesAt w' a xs ∧ At w1 (mS2 xs bs xs.length (2 + 1 + 1)) w') :=
    Lib.hid (fun w h => h.read ⟨#[97]⟩ (by decide) (f := ⟨[97], xs, xs.length⟩) rfl CA.out.len)
  have HK7 : Hid (∀ w, At w1 (mS2 xs bs xs.length (2 + 1 + 1)) w → Calls Tryd.prog 27 #[.pointer (some ⟨w1.heap.size + 1, 0, none⟩), .string ⟨#[97]⟩] w fun e w' => e = .returned (.int .i64 (xs.length : Nat)) ∧ w' = w) :=
    Lib.hid (fun w h => h.synced ⟨#[97]⟩ (by decide) rfl)
  have HK8 : Hid (∀ w, At w1 (mS2 xs bs xs.length (2 + 1 + 1)) w → Calls Tryd.prog 18 #[.pointer (some ⟨w1.heap.size + 1, 0, none⟩), .string ⟨#[97]⟩] w fun e w' => ∃ a c, e = .returned (.tuple #[.slice a la c, .int .i64 0]) ∧ BytesAt w' a xs ∧ At w1 (mS2 xs bs xs.length (2 + 1 + 1)) w') :=
    Lib.hid (fun w h => h.read ⟨#[97]⟩ (by decide) (f := ⟨[97], xs, xs.length⟩) rfl CA.out.len)
  have HK9 : Hid (∀ w, At w1 (mS2 xs bs xs.length (2 + 1 + 1)) w → Calls Tryd.prog 28 #[.pointer (some ⟨w1.heap.size + 1, 0, none⟩)] w fun e w' => ∃ a c, e = .returned (.slice a 2 c) ∧ At w1 (mS2 xs bs xs.length (2 + 1 + 1)) w') :=
    Lib.hid (fun w h => h.names rfl)
  have HK10 : Hid (∀ w, At w1 (mS2 xs bs xs.length (2 + 1 + 1)) w → Calls Tryd.prog 29 #[.pointer (some ⟨w1.heap.size + 1, 0, none⟩)] w fun e w' => e = .returned (.int .i64 ((la : Int) + lb)) ∧ w' = w) :=
    Lib.hid (fun w h => h.used (by rw [← CA.out.len, ← CB.out.len]; rfl))
  go_enter Tryd.func8, Tryd.ntmps8
  go_upto_region 1 with (fail)
  rw [← HW0.out]
  go_region
  all_goals (
    rw [← HW1.out]
    go_wp2_with (first
      | (go_at_call 12; refine HN.out.mono ?_; rintro e w2 ⟨rfl, hat⟩; have HA0 := Lib.hid hat; clear hat)
      | (go_at_call 10; refine (alive_any _).mono ?_; rintro e w3 ⟨rfl, hb3⟩; have HA1 := Lib.hid (HA0.out.more hb3); clear hb3))
    refine (HK1.out _ HA1.out).mono ?_
    rintro e w4 ⟨rfl, hat⟩
    have HA2 := Lib.hid hat
    clear hat
    go_wp2_with fail
    refine (HK2.out _ HA2.out).mono ?_
    rintro e w5 ⟨rfl, hat⟩
    have HA2 := Lib.hid hat
    clear hat
    go_wp2_with fail
    refine (HK3.out _ HA2.out).mono ?_
    rintro e w6 ⟨rfl, hat⟩
    have HA3 := Lib.hid hat
    clear hat
    go_wp2_with fail
    refine (HK4.out _ HA3.out).mono ?_
    rintro e w7 ⟨rfl, rfl⟩
    go_wp2_with fail
    refine (HK5.out _ HA3.out).mono ?_
    rintro e w8 ⟨rfl, hat⟩
    have HA4 := Lib.hid hat
    clear hat
    go_wp2_with fail
    refine (HK6.out _ HA4.out).mono ?_
    rintro e w9 ⟨xa, xc, rfl, hby, hat⟩
    have HA5 := Lib.hid hat
    have hcv1 := conv_of hby xc
    have hcv2 := conv_of (CA.out.bytes.below (Nat.le_refl _) hat.below) rca
    rw [CA.out.len] at hcv1 hcv2
    clear hat hby
    go_wp2_with fail
    refine (HK7.out _ HA5.out).mono ?_
    rintro e w10 ⟨rfl, rfl⟩
    go_wp2_with fail
    refine (HK8.out _ HA5.out).mono ?_
    rintro e w11 ⟨ya, yc, rfl, hby2, hat⟩
    have HA6 := Lib.hid hat
    clear hat hby2
    go_wp2_with (first
      | (go_at_call 28; refine (HK9.out _ HA6.out).mono ?_; rintro e w12 ⟨na, nc, rfl, hat⟩; have HA7 := Lib.hid hat; clear hat)
      | (go_at_call 29; refine (HK10.out _ HA7.out).mono ?_; rintro e w13 ⟨rfl, rfl⟩))
    go_ret
    exact ⟨by simp, HB01.out.trans (HA7.out.below.mono HB01.out.size)⟩)

set_option maxRecDepth 100000 in
set_option maxHeartbeats 2000000 in
theorem moves_t_f {W : World} (ra rb : Option Addr) (xs bs : List UInt8) (la lb rca rcb : Nat) (ca : Came W ra xs la rca) (cb : Came W rb bs lb rcb) (ha : la ≤ 1000) (hb : lb ≤ 1000) :
    Calls Tryd.prog 8 #[.slice ra la rca, .slice rb lb rcb, .agg #[.bool true, .bool false]] W fun e w' => e = .returned (.bool true) ∧ Below W.heap.size W w' := by
  have hla : xs.length ≤ 1000 := by rw [ca.len]; exact ha
  have hlb : bs.length ≤ 1000 := by rw [cb.len]; exact hb
  obtain ⟨w0, hw0⟩ : ∃ w0, w0 = W.alloc (.cells #[.bool true, .bool false] 59) := ⟨_, rfl⟩
  have hb0 : Below W.heap.size W w0 := by rw [hw0]; exact (Below.refl _ W).alloc (Nat.le_refl _) _
  have hbox : w0.heap[W.heap.size]? = some (.cells #[.bool true, .bool false] 59 (0, 0)) := by rw [hw0]; exact heap_alloc_new _ _
  have q0 : w0.cell? ⟨W.heap.size, 0, none⟩ = some (.bool true) := by rw [cell_of_row _ _ _ _ _ _ hbox]; rfl
  have q1 : w0.cell? ⟨W.heap.size, 1, none⟩ = some (.bool false) := by rw [cell_of_row _ _ _ _ _ _ hbox]; rfl
  have ca' : Came w0.drew ra xs la rca := ⟨ca.len, ca.bytes.below (Nat.le_refl _) (below_drewN hb0 1), ca.nil, ca.cap⟩
  have cb' : Came w0.drew rb bs lb rcb := ⟨cb.len, cb.bytes.below (Nat.le_refl _) (below_drewN hb0 1), cb.nil, cb.cap⟩
  obtain ⟨w1, hw1⟩ : ∃ w1, w1 = w0.drew := ⟨_, rfl⟩
  rw [← hw1] at ca' cb'
  have HB01 : Hid (Below W.heap.size W w1) := Lib.hid (by rw [hw1]; exact below_drewN hb0 1)
  have CA := Lib.hid ca'
  have CB := Lib.hid cb'
  have HN := Lib.hid (at_new 1073741824 (by decide) (by decide) w1)
  have HW0 := Lib.hid hw0
  have HW1 := Lib.hid hw1
  have HLA := Lib.hid hla
  have HLB := Lib.hid hlb
  clear hb0 hbox ca' cb' hw0 hw1 ca cb hla hlb
  have HK1 : Hid (∀ w, At w1 (newS 1073741824) w → Calls Tryd.prog 17 #[.pointer (some ⟨w1.heap.size + 1, 0, none⟩), .string ⟨#[97]⟩, .slice ra la rca] w fun e w' => e = .returned (.tuple #[.int .i64 la, .int .i64 0]) ∧ At w1 (mS1 xs 0 1) w') :=
    Lib.hid (fun w h => h.append CA.out ha ⟨#[97]⟩ (by decide) (m_first xs HLA.out) (ok_big (mOk1 xs HLA.out) (by decide) (by decide)))
  have HK2 : Hid (∀ w, At w1 (mS1 xs 0 1) w → Calls Tryd.prog 20 #[.pointer (some ⟨w1.heap.size + 1, 0, none⟩), .string ⟨#[97]⟩] w fun e w' => e = .returned (.int .i64 0) ∧ At w1 (mS1 xs xs.length 2) w') :=
    Lib.hid (fun w h => h.sync ⟨#[97]⟩ (by decide) (m_sync xs) (ok_big (mOk2 xs HLA.out) (by decide) (by decide)))
  have HK3 : Hid (∀ w, At w1 (mS1 xs xs.length 2) w → Calls Tryd.prog 17 #[.pointer (some ⟨w1.heap.size + 1, 0, none⟩), .string ⟨#[98]⟩, .slice rb lb rcb] w fun e w' => e = .returned (.tuple #[.int .i64 lb, .int .i64 0]) ∧ At w1 (mS2 xs bs xs.length (2 + 1)) w') :=
    Lib.hid (fun w h => h.append CB.out hb ⟨#[98]⟩ (by decide) (m_second xs bs xs.length 2 (by decide) HLA.out HLB.out) (ok_big (mOk3 (mOk2 xs HLA.out) HLA.out HLB.out) (by decide) (by decide)))
  have HK4 : Hid (∀ w, At w1 (mS2 xs bs xs.length (2 + 1)) w → Calls Tryd.prog 27 #[.pointer (some ⟨w1.heap.size + 1, 0, none⟩), .string ⟨#[97]⟩] w fun e w' => e = .returned (.int .i64 (xs.length : Nat)) ∧ w' = w) :=
    Lib.hid (fun w h => h.synced ⟨#[97]⟩ (by decide) rfl)
  have HK5 : Hid (∀ w, At w1 (mS2 xs bs xs.length (2 + 1)) w → Calls Tryd.prog 21 #[.pointer (some ⟨w1.heap.size + 1, 0, none⟩), .string ⟨#[97]⟩, .string ⟨#[98]⟩] w fun e w' => e = .returned (.int .i64 0) ∧ At w1 (mS3 xs xs.length (2 + 1 + 1)) w') :=
    Lib.hid (fun w h => h.rename ⟨#[97]⟩ ⟨#[98]⟩ (by decide) (by decide) (m_other xs bs xs.length (2 + 1) (by decide)) (ok_big (mOk5 (mOk3 (mOk2 xs HLA.out) HLA.out HLB.out)) (by decide) (by decide)))
  have HK6 : Hid (∀ w, At w1 (mS3 xs xs.length (2 + 1 + 1)) w → Calls Tryd.prog 18 #[.pointer (some ⟨w1.heap.size + 1, 0, none⟩), .string ⟨#[98]⟩] w fun e w' => ∃ a c, e = .returned (.tuple #[.slice a la c, .int .i64 0]) ∧ BytesAt w' a xs ∧ At w1 (mS3 xs xs.length (2 + 1 + 1)) w') :=
    Lib.hid (fun w h => h.read ⟨#[98]⟩ (by decide) (f := ⟨[98], xs, xs.length⟩) rfl CA.out.len)
  have HK7 : Hid (∀ w, At w1 (mS3 xs xs.length (2 + 1 + 1)) w → Calls Tryd.prog 27 #[.pointer (some ⟨w1.heap.size + 1, 0, none⟩), .string ⟨#[98]⟩] w fun e w' => e = .returned (.int .i64 (xs.length : Nat)) ∧ w' = w) :=
    Lib.hid (fun w h => h.synced ⟨#[98]⟩ (by decide) rfl)
  have HK8 : Hid (∀ w, At w1 (mS3 xs xs.length (2 + 1 + 1)) w → Calls Tryd.prog 18 #[.pointer (some ⟨w1.heap.size + 1, 0, none⟩), .string ⟨#[97]⟩] w fun e w' => e = .returned (.tuple #[.slice none 0 0, .int .i64 6]) ∧ w' = w) :=
    Lib.hid (fun w h => h.unread ⟨#[97]⟩ (by decide) rfl)
  have HK9 : Hid (∀ w, At w1 (mS3 xs xs.length (2 + 1 + 1)) w → Calls Tryd.prog 28 #[.pointer (some ⟨w1.heap.size + 1, 0, none⟩)] w fun e w' => ∃ a c, e = .returned (.slice a 1 c) ∧ At w1 (mS3 xs xs.length (2 + 1 + 1)) w') :=
    Lib.hid (fun w h => h.names rfl)
  have HK10 : Hid (∀ w, At w1 (mS3 xs xs.length (2 + 1 + 1)) w → Calls Tryd.prog 29 #[.pointer (some ⟨w1.heap.size + 1, 0, none⟩)] w fun e w' => e = .returned (.int .i64 ((la : Int))) ∧ w' = w) :=
    Lib.hid (fun w h => h.used (by rw [← CA.out.len]; rfl))
  go_enter Tryd.func8, Tryd.ntmps8
  go_upto_region 1 with (fail)
  rw [← HW0.out]
  go_region
  all_goals (
    rw [← HW1.out]
    go_wp2_with (first
      | (go_at_call 12; refine HN.out.mono ?_; rintro e w2 ⟨rfl, hat⟩; have HA0 := Lib.hid hat; clear hat)
      | (go_at_call 10; refine (alive_any _).mono ?_; rintro e w3 ⟨rfl, hb3⟩; have HA1 := Lib.hid (HA0.out.more hb3); clear hb3))
    refine (HK1.out _ HA1.out).mono ?_
    rintro e w4 ⟨rfl, hat⟩
    have HA2 := Lib.hid hat
    clear hat
    go_wp2_with fail
    refine (HK2.out _ HA2.out).mono ?_
    rintro e w5 ⟨rfl, hat⟩
    have HA2 := Lib.hid hat
    clear hat
    go_wp2_with fail
    refine (HK3.out _ HA2.out).mono ?_
    rintro e w6 ⟨rfl, hat⟩
    have HA3 := Lib.hid hat
    clear hat
    go_wp2_with fail
    refine (HK4.out _ HA3.out).mono ?_
    rintro e w7 ⟨rfl, rfl⟩
    go_wp2_with fail
    refine (HK5.out _ HA3.out).mono ?_
    rintro e w8 ⟨rfl, hat⟩
    have HA4 := Lib.hid hat
    clear hat
    go_wp2_with fail
    refine (HK6.out _ HA4.out).mono ?_
    rintro e w9 ⟨xa, xc, rfl, hby, hat⟩
    have HA5 := Lib.hid hat
    have hcv1 := conv_of hby xc
    have hcv2 := conv_of (CA.out.bytes.below (Nat.le_refl _) hat.below) rca
    rw [CA.out.len] at hcv1 hcv2
    clear hat hby
    go_wp2_with fail
    refine (HK7.out _ HA5.out).mono ?_
    rintro e w10 ⟨rfl, rfl⟩
    go_wp2_with fail
    refine (HK8.out _ HA5.out).mono ?_
    rintro e w11 ⟨rfl, rfl⟩
    have HA6 := HA5
    go_wp2_with (first
      | (go_at_call 28; refine (HK9.out _ HA6.out).mono ?_; rintro e w12 ⟨na, nc, rfl, hat⟩; have HA7 := Lib.hid hat; clear hat)
      | (go_at_call 29; refine (HK10.out _ HA7.out).mono ?_; rintro e w13 ⟨rfl, rfl⟩))
    go_ret
    exact ⟨by simp, HB01.out.trans (HA7.out.below.mono HB01.out.size)⟩)

set_option maxRecDepth 100000 in
set_option maxHeartbeats 2000000 in
theorem moves_f_t {W : World} (ra rb : Option Addr) (xs bs : List UInt8) (la lb rca rcb : Nat) (ca : Came W ra xs la rca) (cb : Came W rb bs lb rcb) (ha : la ≤ 1000) (hb : lb ≤ 1000) :
    Calls Tryd.prog 8 #[.slice ra la rca, .slice rb lb rcb, .agg #[.bool false, .bool true]] W fun e w' => e = .returned (.bool true) ∧ Below W.heap.size W w' := by
  have hla : xs.length ≤ 1000 := by rw [ca.len]; exact ha
  have hlb : bs.length ≤ 1000 := by rw [cb.len]; exact hb
  obtain ⟨w0, hw0⟩ : ∃ w0, w0 = W.alloc (.cells #[.bool false, .bool true] 59) := ⟨_, rfl⟩
  have hb0 : Below W.heap.size W w0 := by rw [hw0]; exact (Below.refl _ W).alloc (Nat.le_refl _) _
  have hbox : w0.heap[W.heap.size]? = some (.cells #[.bool false, .bool true] 59 (0, 0)) := by rw [hw0]; exact heap_alloc_new _ _
  have q0 : w0.cell? ⟨W.heap.size, 0, none⟩ = some (.bool false) := by rw [cell_of_row _ _ _ _ _ _ hbox]; rfl
  have q1 : w0.cell? ⟨W.heap.size, 1, none⟩ = some (.bool true) := by rw [cell_of_row _ _ _ _ _ _ hbox]; rfl
  have ca' : Came w0.drew ra xs la rca := ⟨ca.len, ca.bytes.below (Nat.le_refl _) (below_drewN hb0 1), ca.nil, ca.cap⟩
  have cb' : Came w0.drew rb bs lb rcb := ⟨cb.len, cb.bytes.below (Nat.le_refl _) (below_drewN hb0 1), cb.nil, cb.cap⟩
  obtain ⟨w1, hw1⟩ : ∃ w1, w1 = w0.drew := ⟨_, rfl⟩
  rw [← hw1] at ca' cb'
  have HB01 : Hid (Below W.heap.size W w1) := Lib.hid (by rw [hw1]; exact below_drewN hb0 1)
  have CA := Lib.hid ca'
  have CB := Lib.hid cb'
  have HN := Lib.hid (at_new 1073741824 (by decide) (by decide) w1)
  have HW0 := Lib.hid hw0
  have HW1 := Lib.hid hw1
  have HLA := Lib.hid hla
  have HLB := Lib.hid hlb
  clear hb0 hbox ca' cb' hw0 hw1 ca cb hla hlb
  have HK1 : Hid (∀ w, At w1 (newS 1073741824) w → Calls Tryd.prog 17 #[.pointer (some ⟨w1.heap.size + 1, 0, none⟩), .string ⟨#[97]⟩, .slice ra la rca] w fun e w' => e = .returned (.tuple #[.int .i64 la, .int .i64 0]) ∧ At w1 (mS1 xs 0 1) w') :=
    Lib.hid (fun w h => h.append CA.out ha ⟨#[97]⟩ (by decide) (m_first xs HLA.out) (ok_big (mOk1 xs HLA.out) (by decide) (by decide)))
  have HK2 : Hid (∀ w, At w1 (mS1 xs 0 1) w → Calls Tryd.prog 20 #[.pointer (some ⟨w1.heap.size + 1, 0, none⟩), .string ⟨#[97]⟩] w fun e w' => e = .returned (.int .i64 0) ∧ At w1 (mS1 xs xs.length 2) w') :=
    Lib.hid (fun w h => h.sync ⟨#[97]⟩ (by decide) (m_sync xs) (ok_big (mOk2 xs HLA.out) (by decide) (by decide)))
  have HK3 : Hid (∀ w, At w1 (mS1 xs 0 1) w → Calls Tryd.prog 17 #[.pointer (some ⟨w1.heap.size + 1, 0, none⟩), .string ⟨#[98]⟩, .slice rb lb rcb] w fun e w' => e = .returned (.tuple #[.int .i64 lb, .int .i64 0]) ∧ At w1 (mS2 xs bs 0 (1 + 1)) w') :=
    Lib.hid (fun w h => h.append CB.out hb ⟨#[98]⟩ (by decide) (m_second xs bs 0 1 (by decide) HLA.out HLB.out) (ok_big (mOk3 ((mOk1 xs HLA.out).mono (by decide) (Nat.le_refl _)) HLA.out HLB.out) (by decide) (by decide)))
  have HK4 : Hid (∀ w, At w1 (mS2 xs bs 0 (1 + 1)) w → Calls Tryd.prog 27 #[.pointer (some ⟨w1.heap.size + 1, 0, none⟩), .string ⟨#[97]⟩] w fun e w' => e = .returned (.int .i64 (0 : Nat)) ∧ w' = w) :=
    Lib.hid (fun w h => h.synced ⟨#[97]⟩ (by decide) rfl)
  have HK5 : Hid (∀ w, At w1 (mS2 xs bs 0 (1 + 1)) w → Calls Tryd.prog 21 #[.pointer (some ⟨w1.heap.size + 1, 0, none⟩), .string ⟨#[97]⟩, .string ⟨#[97]⟩] w fun e w' => e = .returned (.int .i64 0) ∧ At w1 (mS2 xs bs 0 (1 + 1 + 1)) w') :=
    Lib.hid (fun w h => h.rename ⟨#[97]⟩ ⟨#[97]⟩ (by decide) (by decide) (m_same xs bs 0 (1 + 1) (by decide)) (ok_big (mOk4 (mOk3 ((mOk1 xs HLA.out).mono (by decide) (Nat.le_refl _)) HLA.out HLB.out)) (by decide) (by decide)))
  have HK6 : Hid (∀ w, At w1 (mS2 xs bs 0 (1 + 1 + 1)) w → Calls Tryd.prog 18 #[.pointer (some ⟨w1.heap.size + 1, 0, none⟩), .string ⟨#[97]⟩] w fun e w' => ∃ a c, e = .returned (.tuple #[.slice a la c, .int .i64 0]) ∧ BytesAt w' a xs ∧ At w1 (mS2 xs bs 0 (1 + 1 + 1)) w') :=
    Lib.hid (fun w h => h.read ⟨#[97]⟩ (by decide) (f := ⟨[97], xs, 0⟩) rfl CA.out.len)
  have HK7 : Hid (∀ w, At w1 (mS2 xs bs 0 (1 + 1 + 1)) w → Calls Tryd.prog 27 #[.pointer (some ⟨w1.heap.size + 1, 0, none⟩), .string ⟨#[97]⟩] w fun e w' => e = .returned (.int .i64 (0 : Nat)) ∧ w' = w) :=
    Lib.hid (fun w h => h.synced ⟨#[97]⟩ (by decide) rfl)
  have HK8 : Hid (∀ w, At w1 (mS2 xs bs 0 (1 + 1 + 1)) w → Calls Tryd.prog 18 #[.pointer (some ⟨w1.heap.size + 1, 0, none⟩), .string ⟨#[97]⟩] w fun e w' => ∃ a c, e = .returned (.tuple #[.slice a la c, .int .i64 0]) ∧ BytesAt w' a xs ∧ At w1 (mS2 xs bs 0 (1 + 1 + 1)) w') :=
    Lib.hid (fun w h => h.read ⟨#[97]⟩ (by decide) (f := ⟨[97], xs, 0⟩) rfl CA.out.len)
  have HK9 : Hid (∀ w, At w1 (mS2 xs bs 0 (1 + 1 + 1)) w → Calls Tryd.prog 28 #[.pointer (some ⟨w1.heap.size + 1, 0, none⟩)] w fun e w' => ∃ a c, e = .returned (.slice a 2 c) ∧ At w1 (mS2 xs bs 0 (1 + 1 + 1)) w') :=
    Lib.hid (fun w h => h.names rfl)
  have HK10 : Hid (∀ w, At w1 (mS2 xs bs 0 (1 + 1 + 1)) w → Calls Tryd.prog 29 #[.pointer (some ⟨w1.heap.size + 1, 0, none⟩)] w fun e w' => e = .returned (.int .i64 ((la : Int) + lb)) ∧ w' = w) :=
    Lib.hid (fun w h => h.used (by rw [← CA.out.len, ← CB.out.len]; rfl))
  go_enter Tryd.func8, Tryd.ntmps8
  go_upto_region 1 with (fail)
  rw [← HW0.out]
  go_region
  all_goals (
    rw [← HW1.out]
    go_wp2_with (first
      | (go_at_call 12; refine HN.out.mono ?_; rintro e w2 ⟨rfl, hat⟩; have HA0 := Lib.hid hat; clear hat)
      | (go_at_call 10; refine (alive_any _).mono ?_; rintro e w3 ⟨rfl, hb3⟩; have HA1 := Lib.hid (HA0.out.more hb3); clear hb3))
    refine (HK1.out _ HA1.out).mono ?_
    rintro e w4 ⟨rfl, hat⟩
    have HA2 := Lib.hid hat
    clear hat
    go_wp2_with fail
    refine (HK3.out _ HA2.out).mono ?_
    rintro e w6 ⟨rfl, hat⟩
    have HA3 := Lib.hid hat
    clear hat
    go_wp2_with fail
    refine (HK4.out _ HA3.out).mono ?_
    rintro e w7 ⟨rfl, rfl⟩
    go_wp2_with fail
    refine (HK5.out _ HA3.out).mono ?_
    rintro e w8 ⟨rfl, hat⟩
    have HA4 := Lib.hid hat
    clear hat
    go_wp2_with fail
    refine (HK6.out _ HA4.out).mono ?_
    rintro e w9 ⟨xa, xc, rfl, hby, hat⟩
    have HA5 := Lib.hid hat
    have hcv1 := conv_of hby xc
    have hcv2 := conv_of (CA.out.bytes.below (Nat.le_refl _) hat.below) rca
    rw [CA.out.len] at hcv1 hcv2
    clear hat hby
    go_wp2_with fail
    refine (HK7.out _ HA5.out).mono ?_
    rintro e w10 ⟨rfl, rfl⟩
    go_wp2_with fail
    refine (HK8.out _ HA5.out).mono ?_
    rintro e w11 ⟨ya, yc, rfl, hby2, hat⟩
    have HA6 := Lib.hid hat
    clear hat hby2
    go_wp2_with (first
      | (go_at_call 28; refine (HK9.out _ HA6.out).mono ?_; rintro e w12 ⟨na, nc, rfl, hat⟩; have HA7 := Lib.hid hat; clear hat)
      | (go_at_call 29; refine (HK10.out _ HA7.out).mono ?_; rintro e w13 ⟨rfl, rfl⟩))
    go_ret
    exact ⟨by simp, HB01.out.trans (HA7.out.below.mono HB01.out.size)⟩)

set_option maxRecDepth 100000 in
set_option maxHeartbeats 2000000 in
theorem moves_f_f {W : World} (ra rb : Option Addr) (xs bs : List UInt8) (la lb rca rcb : Nat) (ca : Came W ra xs la rca) (cb : Came W rb bs lb rcb) (ha : la ≤ 1000) (hb : lb ≤ 1000) :
    Calls Tryd.prog 8 #[.slice ra la rca, .slice rb lb rcb, .agg #[.bool false, .bool false]] W fun e w' => e = .returned (.bool true) ∧ Below W.heap.size W w' := by
  have hla : xs.length ≤ 1000 := by rw [ca.len]; exact ha
  have hlb : bs.length ≤ 1000 := by rw [cb.len]; exact hb
  obtain ⟨w0, hw0⟩ : ∃ w0, w0 = W.alloc (.cells #[.bool false, .bool false] 59) := ⟨_, rfl⟩
  have hb0 : Below W.heap.size W w0 := by rw [hw0]; exact (Below.refl _ W).alloc (Nat.le_refl _) _
  have hbox : w0.heap[W.heap.size]? = some (.cells #[.bool false, .bool false] 59 (0, 0)) := by rw [hw0]; exact heap_alloc_new _ _
  have q0 : w0.cell? ⟨W.heap.size, 0, none⟩ = some (.bool false) := by rw [cell_of_row _ _ _ _ _ _ hbox]; rfl
  have q1 : w0.cell? ⟨W.heap.size, 1, none⟩ = some (.bool false) := by rw [cell_of_row _ _ _ _ _ _ hbox]; rfl
  have ca' : Came w0.drew ra xs la rca := ⟨ca.len, ca.bytes.below (Nat.le_refl _) (below_drewN hb0 1), ca.nil, ca.cap⟩
  have cb' : Came w0.drew rb bs lb rcb := ⟨cb.len, cb.bytes.below (Nat.le_refl _) (below_drewN hb0 1), cb.nil, cb.cap⟩
  obtain ⟨w1, hw1⟩ : ∃ w1, w1 = w0.drew := ⟨_, rfl⟩
  rw [← hw1] at ca' cb'
  have HB01 : Hid (Below W.heap.size W w1) := Lib.hid (by rw [hw1]; exact below_drewN hb0 1)
  have CA := Lib.hid ca'
  have CB := Lib.hid cb'
  have HN := Lib.hid (at_new 1073741824 (by decide) (by decide) w1)
  have HW0 := Lib.hid hw0
  have HW1 := Lib.hid hw1
  have HLA := Lib.hid hla
  have HLB := Lib.hid hlb
  clear hb0 hbox ca' cb' hw0 hw1 ca cb hla hlb
  have HK1 : Hid (∀ w, At w1 (newS 1073741824) w → Calls Tryd.prog 17 #[.pointer (some ⟨w1.heap.size + 1, 0, none⟩), .string ⟨#[97]⟩, .slice ra la rca] w fun e w' => e = .returned (.tuple #[.int .i64 la, .int .i64 0]) ∧ At w1 (mS1 xs 0 1) w') :=
    Lib.hid (fun w h => h.append CA.out ha ⟨#[97]⟩ (by decide) (m_first xs HLA.out) (ok_big (mOk1 xs HLA.out) (by decide) (by decide)))
  have HK2 : Hid (∀ w, At w1 (mS1 xs 0 1) w → Calls Tryd.prog 20 #[.pointer (some ⟨w1.heap.size + 1, 0, none⟩), .string ⟨#[97]⟩] w fun e w' => e = .returned (.int .i64 0) ∧ At w1 (mS1 xs xs.length 2) w') :=
    Lib.hid (fun w h => h.sync ⟨#[97]⟩ (by decide) (m_sync xs) (ok_big (mOk2 xs HLA.out) (by decide) (by decide)))
  have HK3 : Hid (∀ w, At w1 (mS1 xs 0 1) w → Calls Tryd.prog 17 #[.pointer (some ⟨w1.heap.size + 1, 0, none⟩), .string ⟨#[98]⟩, .slice rb lb rcb] w fun e w' => e = .returned (.tuple #[.int .i64 lb, .int .i64 0]) ∧ At w1 (mS2 xs bs 0 (1 + 1)) w') :=
    Lib.hid (fun w h => h.append CB.out hb ⟨#[98]⟩ (by decide) (m_second xs bs 0 1 (by decide) HLA.out HLB.out) (ok_big (mOk3 ((mOk1 xs HLA.out).mono (by decide) (Nat.le_refl _)) HLA.out HLB.out) (by decide) (by decide)))
  have HK4 : Hid (∀ w, At w1 (mS2 xs bs 0 (1 + 1)) w → Calls Tryd.prog 27 #[.pointer (some ⟨w1.heap.size + 1, 0, none⟩), .string ⟨#[97]⟩] w fun e w' => e = .returned (.int .i64 (0 : Nat)) ∧ w' = w) :=
    Lib.hid (fun w h => h.synced ⟨#[97]⟩ (by decide) rfl)
  have HK5 : Hid (∀ w, At w1 (mS2 xs bs 0 (1 + 1)) w → Calls Tryd.prog 21 #[.pointer (some ⟨w1.heap.size + 1, 0, none⟩), .string ⟨#[97]⟩, .string ⟨#[98]⟩] w fun e w' => e = .returned (.int .i64 0) ∧ At w1 (mS3 xs 0 (1 + 1 + 1)) w') :=
    Lib.hid (fun w h => h.rename ⟨#[97]⟩ ⟨#[98]⟩ (by decide) (by decide) (m_other xs bs 0 (1 + 1) (by decide)) (ok_big (mOk5 (mOk3 ((mOk1 xs HLA.out).mono (by decide) (Nat.le_refl _)) HLA.out HLB.out)) (by decide) (by decide)))
  have HK6 : Hid (∀ w, At w1 (mS3 xs 0 (1 + 1 + 1)) w → Calls Tryd.prog 18 #[.pointer (some ⟨w1.heap.size + 1, 0, none⟩), .string ⟨#[98]⟩] w fun e w' => ∃ a c, e = .returned (.tuple #[.slice a la c, .int .i64 0]) ∧ BytesAt w' a xs ∧ At w1 (mS3 xs 0 (1 + 1 + 1)) w') :=
    Lib.hid (fun w h => h.read ⟨#[98]⟩ (by decide) (f := ⟨[98], xs, 0⟩) rfl CA.out.len)
  have HK7 : Hid (∀ w, At w1 (mS3 xs 0 (1 + 1 + 1)) w → Calls Tryd.prog 27 #[.pointer (some ⟨w1.heap.size + 1, 0, none⟩), .string ⟨#[98]⟩] w fun e w' => e = .returned (.int .i64 (0 : Nat)) ∧ w' = w) :=
    Lib.hid (fun w h => h.synced ⟨#[98]⟩ (by decide) rfl)
  have HK8 : Hid (∀ w, At w1 (mS3 xs 0 (1 + 1 + 1)) w → Calls Tryd.prog 18 #[.pointer (some ⟨w1.heap.size + 1, 0, none⟩), .string ⟨#[97]⟩] w fun e w' => e = .returned (.tuple #[.slice none 0 0, .int .i64 6]) ∧ w' = w) :=
    Lib.hid (fun w h => h.unread ⟨#[97]⟩ (by decide) rfl)
  have HK9 : Hid (∀ w, At w1 (mS3 xs 0 (1 + 1 + 1)) w → Calls Tryd.prog 28 #[.pointer (some ⟨w1.heap.size + 1, 0, none⟩)] w fun e w' => ∃ a c, e = .returned (.slice a 1 c) ∧ At w1 (mS3 xs 0 (1 + 1 + 1)) w') :=
    Lib.hid (fun w h => h.names rfl)
  have HK10 : Hid (∀ w, At w1 (mS3 xs 0 (1 + 1 + 1)) w → Calls Tryd.prog 29 #[.pointer (some ⟨w1.heap.size + 1, 0, none⟩)] w fun e w' => e = .returned (.int .i64 ((la : Int))) ∧ w' = w) :=
    Lib.hid (fun w h => h.used (by rw [← CA.out.len]; rfl))
  go_enter Tryd.func8, Tryd.ntmps8
  go_upto_region 1 with (fail)
  rw [← HW0.out]
  go_region
  all_goals (
    rw [← HW1.out]
    go_wp2_with (first
      | (go_at_call 12; refine HN.out.mono ?_; rintro e w2 ⟨rfl, hat⟩; have HA0 := Lib.hid hat; clear hat)
      | (go_at_call 10; refine (alive_any _).mono ?_; rintro e w3 ⟨rfl, hb3⟩; have HA1 := Lib.hid (HA0.out.more hb3); clear hb3))
    refine (HK1.out _ HA1.out).mono ?_
    rintro e w4 ⟨rfl, hat⟩
    have HA2 := Lib.hid hat
    clear hat
    go_wp2_with fail
    refine (HK3.out _ HA2.out).mono ?_
    rintro e w6 ⟨rfl, hat⟩
    have HA3 := Lib.hid hat
    clear hat
    go_wp2_with fail
    refine (HK4.out _ HA3.out).mono ?_
    rintro e w7 ⟨rfl, rfl⟩
    go_wp2_with fail
    refine (HK5.out _ HA3.out).mono ?_
    rintro e w8 ⟨rfl, hat⟩
    have HA4 := Lib.hid hat
    clear hat
    go_wp2_with fail
    refine (HK6.out _ HA4.out).mono ?_
    rintro e w9 ⟨xa, xc, rfl, hby, hat⟩
    have HA5 := Lib.hid hat
    have hcv1 := conv_of hby xc
    have hcv2 := conv_of (CA.out.bytes.below (Nat.le_refl _) hat.below) rca
    rw [CA.out.len] at hcv1 hcv2
    clear hat hby
    go_wp2_with fail
    refine (HK7.out _ HA5.out).mono ?_
    rintro e w10 ⟨rfl, rfl⟩
    go_wp2_with fail
    refine (HK8.out _ HA5.out).mono ?_
    rintro e w11 ⟨rfl, rfl⟩
    have HA6 := HA5
    go_wp2_with (first
      | (go_at_call 28; refine (HK9.out _ HA6.out).mono ?_; rintro e w12 ⟨na, nc, rfl, hat⟩; have HA7 := Lib.hid hat; clear hat)
      | (go_at_call 29; refine (HK10.out _ HA7.out).mono ?_; rintro e w13 ⟨rfl, rfl⟩))
    go_ret
    exact ⟨by simp, HB01.out.trans (HA7.out.below.mono HB01.out.size)⟩)

set_option maxRecDepth 100000 in
set_option maxHeartbeats 2000000 in
theorem moves_big {W : World} (ra rb : Option Addr) (la lb rca rcb : Nat) (x y : Bool) (hbig : 1000 < la ∨ 1000 < lb) :
    Calls Tryd.prog 8 #[.slice ra la rca, .slice rb lb rcb, .agg #[.bool x, .bool y]] W fun e w' => e = .returned (.bool true) ∧ Below W.heap.size W w' := by
  obtain ⟨w0, hw0⟩ : ∃ w0, w0 = W.alloc (.cells #[.bool x, .bool y] 59) := ⟨_, rfl⟩
  have hb0 : Below W.heap.size W w0 := by rw [hw0]; exact (Below.refl _ W).alloc (Nat.le_refl _) _
  have hbox : w0.heap[W.heap.size]? = some (.cells #[.bool x, .bool y] 59 (0, 0)) := by rw [hw0]; exact heap_alloc_new _ _
  have q0 : w0.cell? ⟨W.heap.size, 0, none⟩ = some (.bool x) := by rw [cell_of_row _ _ _ _ _ _ hbox]; rfl
  have q1 : w0.cell? ⟨W.heap.size, 1, none⟩ = some (.bool y) := by rw [cell_of_row _ _ _ _ _ _ hbox]; rfl
  obtain ⟨w1, hw1⟩ : ∃ w1, w1 = w0.drew := ⟨_, rfl⟩
  have HB := Lib.hid (show Below W.heap.size W w1 by rw [hw1]; exact below_drewN hb0 1)
  have HN := Lib.hid (at_new 1073741824 (by decide) (by decide) w1)
  have HW0 := Lib.hid hw0
  have HW1 := Lib.hid hw1
  clear hb0 hbox hw0 hw1
  go_enter Tryd.func8, Tryd.ntmps8
  go_upto_region 1 with (fail)
  rw [← HW0.out]
  go_region
  all_goals (
    rw [← HW1.out]
    go_wp2_with (first
      | (go_at_call 12; refine HN.out.mono ?_; rintro e w2 ⟨rfl, hat⟩; have HB := Lib.hid (HB.out.trans (hat.below.mono HB.out.size)); clear hat)
      | (go_at_call 10; refine (alive_any _).mono ?_; rintro e w3 ⟨rfl, hb3⟩; have HB := Lib.hid (HB.out.trans (hb3.mono HB.out.size)); clear hb3))
    all_goals (
      go_ret
      exact ⟨by simp, HB.out⟩))

theorem diskMoves_any {W : World} (ra rb : Option Addr) (xs bs : List UInt8) (la lb rca rcb : Nat) (ca : Came W ra xs la rca) (cb : Came W rb bs lb rcb) (x y : Bool) :
    Calls Tryd.prog 8 #[.slice ra la rca, .slice rb lb rcb, .agg #[.bool x, .bool y]] W fun e w' => e = .returned (.bool true) ∧ Below W.heap.size W w' := by
  by_cases hbig : 1000 < la ∨ 1000 < lb
  · exact moves_big ra rb la lb rca rcb x y hbig
  · cases x <;> cases y
    · exact moves_f_f ra rb xs bs la lb rca rcb ca cb (by omega) (by omega)
    · exact moves_f_t ra rb xs bs la lb rca rcb ca cb (by omega) (by omega)
    · exact moves_t_f ra rb xs bs la lb rca rcb ca cb (by omega) (by omega)
    · exact moves_t_t ra rb xs bs la lb rca rcb ca cb (by omega) (by omega)

theorem cells4 : Tryd.prog.cellsOf 4 = 1 := by kernel_rfl
theorem cells59 : Tryd.prog.cellsOf 59 = 2 := by kernel_rfl

set_option maxRecDepth 100000 in
theorem bools2_open {H : Type} {enc : TypeId × Value → H} {W : World} {v : Value} {d : DataW H} {p : List MemPlace} (h : DataW.Trod enc Tryd.prog W 0 (fun _ => true) true 59 v d p) : ∃ x y : Bool, v = .agg #[.bool x, .bool y] := by
  obtain ⟨fuel, hf⟩ := h
  obtain ⟨xs, m, _, _, hl, hxl, hel⟩ := DataW.trod_array Tryd.underlying59 hf
  rw [cells59] at hl
  have h0 := hel 0 (by decide)
  have h1 := hel 1 (by decide)
  rw [cells4] at h0 h1
  rw [List.getElem?_eq_getElem (by omega)] at h0 h1
  obtain ⟨x, e0, _⟩ := DataW.trod_bool Tryd.underlying4 h0
  obtain ⟨y, e1, _⟩ := DataW.trod_bool Tryd.underlying4 h1
  generalize hcs : v.cells.toList = cs at hl e0 e1
  match cs, hl with
  | [c0, c1], _ =>
    have e0' : [c0] = [Value.bool x] := e0
    have e1' : [c1] = [Value.bool y] := e1
    simp only [List.cons.injEq, and_true] at e0' e1'
    subst e0' e1'
    refine ⟨x, y, ?_⟩
    clear e0 e1 h0 h1 hel
    cases v with
    | agg ys =>
      have h2 : ys.toList = [.bool x, .bool y] := hcs
      have h3 : ys = #[.bool x, .bool y] := by
        apply Array.ext'
        exact h2
      rw [h3]
    | _ => simp [Value.cells] at hcs

theorem diskMoves_walk {H : Type} {enc : TypeId × Value → H} {W : World} (a : Option Addr) (len cap : Nat) {d : DataW H} {p : List MemPlace} (h : DataW.Trod enc Tryd.prog W 0 (fun _ => true) true 34 (.slice a len cap) d p) (hw : ∀ k ∈ d.weights Tryd.prog 34, k ≤ reachBytes)
    (a1 : Option Addr) (len1 cap1 : Nat) {d1 : DataW H} {p1 : List MemPlace} (h1 : DataW.Trod enc Tryd.prog W 0 (fun _ => true) true 34 (.slice a1 len1 cap1) d1 p1) (hw1 : ∀ k ∈ d1.weights Tryd.prog 34, k ≤ reachBytes)
    (v : Value) {P : Prop} (hv : P) {d2 : DataW H} {p2 : List MemPlace} (h2 : DataW.Trod enc Tryd.prog W 0 (fun _ => true) true 59 v d2 p2) : Calls Tryd.prog 8 #[.slice a len cap, .slice a1 len1 cap1, v] W fun e w' => e = .returned (.bool true) ∧ Below W.heap.size W w' := by
  obtain ⟨x, y, rfl⟩ := bools2_open h2
  obtain ⟨f0, g0⟩ := h
  obtain ⟨f1, g1⟩ := h1
  obtain ⟨ra, rc, bs, e0, b0, n0, c0, _⟩ := bytes_open g0 hw
  obtain ⟨rb, rd, cs, e1, b1, n1, c1, _⟩ := bytes_open g1 hw1
  simp only [Value.slice.injEq] at e0 e1
  obtain ⟨rfl, rfl, rfl⟩ := e0
  obtain ⟨rfl, rfl, rfl⟩ := e1
  exact diskMoves_any a a1 bs cs bs.length cs.length cap cap1 ⟨rfl, b0, n0, c0⟩ ⟨rfl, b1, n1, c1⟩ x y

end Go.Proofs.YtjbhdidjkdlceaaDoor
