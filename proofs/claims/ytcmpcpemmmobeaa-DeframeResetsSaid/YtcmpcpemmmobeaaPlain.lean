/- The deframer, in plain Lean: a step by a byte, and what is true of steps. -/
namespace Go.Proofs.Ytcmpcpemmmobeaa
set_option linter.unusedVariables false

structure St where
  inn : Bool
  fin : Bool
  now : List UInt8
  junk : Nat
  over : Nat
  broken : Nat
  frames : List (List UInt8)

def St.init : St := ⟨false, false, [], 0, 0, 0, []⟩

/-- What lies in a frame behind a byte of it. -/
def St.next (s : St) (c : UInt8) : List UInt8 :=
  if c == 28 then (if s.fin then s.now ++ [28] else s.now) else (if s.fin then s.now ++ [28, c] else s.now ++ [c])

def St.out (s : St) : St := { s with inn := false, fin := false, now := [] }
def St.start (s : St) : St := { s with inn := true, fin := false, now := [] }

def St.step (most : Nat) (s : St) (c : UInt8) : St :=
  if s.inn then
    if c == 11 then { s with broken := s.broken + 1 }.start
    else if s.fin && c == 13 then { s with frames := s.frames ++ [s.now] }.out
    else if most < (s.next c).length then { s with over := s.over + 1 }.out
    else { s with fin := c == 28, now := s.next c }
  else if c == 11 then s.start else { s with junk := s.junk + 1 }

def St.steps (most : Nat) (s : St) (cs : List UInt8) : St := cs.foldl (St.step most) s

theorem St.steps_append (most : Nat) (s : St) (a b : List UInt8) : s.steps most (a ++ b) = (s.steps most a).steps most b := List.foldl_append ..
theorem St.steps_snoc (most : Nat) (s : St) (a : List UInt8) (c : UInt8) : s.steps most (a ++ [c]) = (s.steps most a).step most c := by simp [St.steps]

/-- What is true of all states. -/
structure St.Good (most : Nat) (s : St) : Prop where
  most : s.now.length ≤ most
  out : s.inn = false → s.fin = false ∧ s.now = []

theorem St.good_init (most : Nat) : St.init.Good most := ⟨by simp [St.init], fun _ => ⟨rfl, rfl⟩⟩
theorem St.good_out (most : Nat) (s : St) : s.out.Good most := ⟨by simp [St.out], fun _ => ⟨rfl, rfl⟩⟩

theorem St.good_step {most : Nat} {s : St} (h : s.Good most) (c : UInt8) : (s.step most c).Good most := by
  unfold St.step
  split
  · split
    · exact ⟨by simp [St.start], by simp [St.start]⟩
    · split
      · exact good_out _ _
      · split
        · exact good_out _ _
        · rename_i hin _ _ hm
          exact ⟨by simpa using hm, by simp [hin]⟩
  · split
    · exact ⟨by simp [St.start], by simp [St.start]⟩
    · exact ⟨h.most, h.out⟩

theorem St.good_steps {most : Nat} (cs : List UInt8) : ∀ {s : St}, s.Good most → (s.steps most cs).Good most := by
  induction cs with
  | nil => exact fun h => h
  | cons c cs ih => exact fun h => ih (St.good_step h c)

/-- How much is counted. -/
def St.count (s : St) : Nat := s.junk + s.over + s.broken
theorem St.count_step (most : Nat) (s : St) (c : UInt8) : (s.step most c).count ≤ s.count + 1 ∧ (s.step most c).frames.length ≤ s.frames.length + 1 := by
  unfold St.step St.count
  split
  · split
    · simp [St.start]; omega
    · split
      · simp [St.out]
      · split
        · simp [St.out]; omega
        · simp
  · split
    · simp [St.start]
    · simp; omega

theorem St.count_steps (most : Nat) (cs : List UInt8) : ∀ s : St, (s.steps most cs).count ≤ s.count + cs.length ∧ (s.steps most cs).frames.length ≤ s.frames.length + cs.length := by
  induction cs with
  | nil => exact fun s => ⟨Nat.le_refl _, Nat.le_refl _⟩
  | cons c cs ih =>
    intro s
    have h1 := ih (s.step most c)
    have h2 := St.count_step most s c
    simp only [St.steps, List.foldl_cons, List.length_cons] at *
    omega

/-- Counts and frames of before, put ahead. -/
def St.past (j o b : Nat) (fs : List (List UInt8)) (s : St) : St := { s with junk := j + s.junk, over := o + s.over, broken := b + s.broken, frames := fs ++ s.frames }

theorem St.step_past (most j o b : Nat) (fs : List (List UInt8)) (s : St) (c : UInt8) : (s.past j o b fs).step most c = (s.step most c).past j o b fs := by
  have hn : (s.past j o b fs).next c = s.next c := rfl
  unfold St.step
  rw [hn]
  generalize s.next c = x
  obtain ⟨inn, fin, now, junk, over, broken, frames⟩ := s
  simp only [St.past]
  by_cases h1 : inn = true
  · by_cases h2 : (c == 11) = true
    · simp [h1, h2, St.start, Nat.add_assoc]
    · by_cases h3 : (fin && c == 13) = true
      · simp [h1, h2, h3, St.out]
      · by_cases h4 : most < x.length
        · simp [h1, h2, h3, h4, St.out, Nat.add_assoc]
        · simp [h1, h2, h3, h4]
  · by_cases h2 : (c == 11) = true
    · simp [h1, h2, St.start]
    · simp [h1, h2, Nat.add_assoc]

theorem St.steps_past (most j o b : Nat) (fs : List (List UInt8)) (cs : List UInt8) : ∀ s : St, (s.past j o b fs).steps most cs = (s.steps most cs).past j o b fs := by
  induction cs with
  | nil => exact fun _ => rfl
  | cons c cs ih => exact fun s => by simp only [St.steps, List.foldl_cons, St.step_past]; exact ih _

/-- The found frames are given away. -/
def St.given (s : St) : St := { s with frames := [] }
theorem St.past_given (s : St) : (s.given).past 0 0 0 s.frames = s := by simp [St.past, St.given]

/-- Feeding in pieces: what is found in a piece is what is more. -/
theorem St.steps_given (most : Nat) (s : St) (cs : List UInt8) : (s.steps most cs).frames = s.frames ++ (s.given.steps most cs).frames ∧ (s.given.steps most cs).given = (s.steps most cs).given := by
  have h := St.steps_past most 0 0 0 s.frames cs s.given
  rw [St.past_given] at h
  rw [h]
  simp [St.past, St.given]

/-- How many bytes are held. -/
def St.held (s : St) : Nat := if s.inn then s.now.length + 1 + (if s.fin then 1 else 0) else 0

end Go.Proofs.Ytcmpcpemmmobeaa
