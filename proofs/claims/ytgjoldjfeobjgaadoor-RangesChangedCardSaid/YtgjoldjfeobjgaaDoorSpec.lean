/-
  PLAIN: the parts of a text, the names, what is said of them; nothing of the program.
-/
import Derived.Test.YtgjoldjfeobjgaaDoorPlain
namespace Go.Proofs.YtgjoldjfeobjgaaDoor
namespace L
/-- The ordinals of a text from an offset on, behind count others; at most f of them. -/
def partsFrom (l : List UInt8) : Nat → Nat → Nat → List Part
  | 0, _, _ => []
  | f + 1, a, count =>
    if (first l a count).1.e ≠ 0 ∨ (first l a count).2 = l.length then [(first l a count).1]
    else if l[(first l a count).2]? = some 46 then (first l a count).1 :: partsFrom l f ((first l a count).2 + 1) (count + 1)
    else [(first l a count).1, ⟨0, (first l a count).2, 6⟩]
/-- The ordinals of a text, up to the first error. -/
def parts (l : List UInt8) : List Part := if l = [] then [] else partsFrom l 9 0 0

theorem first_end {l : List UInt8} {a count : Nat} (ha : a ≤ l.length) : (first l a count).2 ≤ l.length := by
  unfold first
  have := dc_len 7 (l.drop a)
  simp only [List.length_drop] at this
  split <;> simp only <;> omega
theorem first_count {l : List UInt8} {a count : Nat} (h : (first l a count).1.e = 0) : count ≠ 8 := by
  rintro rfl
  simp [first, firstE] at h
theorem first_at (l : List UInt8) (a count : Nat) : (first l a count).1.at_ = a := by
  unfold first; split <;> rfl
theorem parts_cons {l : List UInt8} {f a count o b e z : Nat} (hf : first l a count = (⟨o, b, e⟩, z)) (h : e ≠ 0 ∨ z = l.length) : partsFrom l (f + 1) a count = [⟨o, b, e⟩] := by
  rw [partsFrom, hf]; exact if_pos h
theorem parts_two {l : List UInt8} {f a count o b e z : Nat} (hf : first l a count = (⟨o, b, e⟩, z)) (h : e = 0) (h' : z ≠ l.length) (hd : l[z]? ≠ some 46) : partsFrom l (f + 1) a count = [⟨o, b, e⟩, ⟨0, z, 6⟩] := by
  rw [partsFrom, hf]; simp only; rw [if_neg (by simp [h, h']), if_neg hd]
theorem parts_more {l : List UInt8} {f a count o b e z : Nat} (hf : first l a count = (⟨o, b, e⟩, z)) (h : e = 0) (h' : z ≠ l.length) (hd : l[z]? = some 46) : partsFrom l (f + 1) a count = ⟨o, b, e⟩ :: partsFrom l f (z + 1) (count + 1) := by
  rw [partsFrom, hf]; simp only; rw [if_neg (by simp [h, h']), if_pos hd]
theorem parts_head {l : List UInt8} {f a count : Nat} (hf : 0 < f) : ∃ rest, partsFrom l f a count = (first l a count).1 :: rest := by
  cases f with
  | zero => omega
  | succ f =>
    unfold partsFrom
    split
    · exact ⟨_, rfl⟩
    · split <;> exact ⟨_, rfl⟩
theorem partsFrom_length (l : List UInt8) : ∀ f a count, (partsFrom l f a count).length ≤ f + 1
  | 0, _, _ => by simp [partsFrom]
  | f + 1, a, count => by
    unfold partsFrom
    have := partsFrom_length l f ((first l a count).2 + 1) (count + 1)
    split
    · simp
    · split <;> simp <;> omega
theorem partsFrom_pos (l : List UInt8) (f a count : Nat) (h : 0 < f) : 0 < (partsFrom l f a count).length := by
  cases f with
  | zero => omega
  | succ f =>
    unfold partsFrom
    split
    · simp
    · split <;> simp
theorem parts_length (l : List UInt8) : (parts l).length ≤ 10 := by
  unfold parts
  split
  · simp
  · exact partsFrom_length l 9 0 0
/-- The first part with an error. -/
def bad (l : List UInt8) : Option Part := (parts l).find? fun x => decide (x.e ≠ 0)
/-- Is it the text of a name? -/
def valid (l : List UInt8) : Bool := (bad l).isNone
theorem bad_some {l : List UInt8} {pre : List Part} {x : Part} (h : pre ++ [x] <+: parts l) (h0 : ∀ y ∈ pre, y.e = 0) (hx : x.e ≠ 0) : bad l = some x := by
  obtain ⟨r, hr⟩ := h
  unfold bad
  rw [← hr, List.append_assoc, List.find?_append, List.find?_eq_none.2 (fun y hy => by simp [h0 y hy])]
  simp [hx]
theorem bad_none {l : List UInt8} (h0 : ∀ y ∈ parts l, y.e = 0) : bad l = none :=
  List.find?_eq_none.2 (fun y hy => by simp [h0 y hy])
end L
end Go.Proofs.YtgjoldjfeobjgaaDoor
