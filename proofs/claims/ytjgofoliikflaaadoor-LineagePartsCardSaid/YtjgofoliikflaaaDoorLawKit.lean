/-
  What the law walks share: short names, same, the plain facts of Within.
-/
import Derived.Test.YtjgofoliikflaaaDoorKnown
import Derived.BigQuiet
namespace Go.Proofs.YtjgofoliikflaaaDoor
open Go.RowKit

/-- A name cut to 80 bytes. -/
def cut8 (s : ByteArray) : ByteArray := bs (s.data.toList.take 80)
theorem cut8_size (s : ByteArray) : (cut8 s).size ≤ 80 := by unfold cut8; rw [bs_size, List.length_take]; omega
theorem short_of {s t : ByteArray} (hs : s.size ≤ maxLen) (h : cut8 s = t) (w : World) :
    Calls Tryd.prog 21 #[.string s] w fun e w' => e = .returned (.string t) ∧ w = w' := by
  rw [← h]; exact short_any s hs w
theorem known_of {w : World} (he : Env w) (w' : World) (hb : Below w.heap.size w w') :
    Calls Tryd.prog 14 #[] w' fun e w'' => e = .returned (.bool true) ∧ Below w'.heap.size w' w'' :=
  known_any w' (he.below hb)
theorem within_of {a b : ByteArray} {r : Bool} (ha : a.size ≤ 1000) (hb : b.size ≤ 1000) (h : withinB a.data.toList b.data.toList = r) (w : World) :
    Calls Tryd.prog 22 #[.string a, .string b] w fun e w' => e = .returned (.bool r) ∧ Below w.heap.size w w' := by
  rw [← h]; exact within_any a b ha hb w
theorem refwithin_of {a b : ByteArray} {r : Bool} (ha : a.size ≤ 1000) (hb : b.size ≤ 1000) (h : withinB a.data.toList b.data.toList = r) (w : World) :
    Calls Tryd.prog 23 #[.string a, .string b] w fun e w' => e = .returned (.bool r) ∧ Below w.heap.size w w' := by
  cases h1 : L.valid a.data.toList with
  | false =>
    have : r = false := by rw [← h]; simp [withinB, h1]
    rw [this]; exact refwithin_no ha hb (.inl h1) w
  | true =>
    cases h2 : L.valid b.data.toList with
    | false =>
      have : r = false := by rw [← h]; simp [withinB, h2]
      rw [this]; exact refwithin_no ha hb (.inr h2) w
    | true =>
      obtain ⟨x, hx, rfl, ox⟩ := nm_of h1
      obtain ⟨y, hy, rfl, oy⟩ := nm_of h2
      rw [withinB_nm hx hy] at h
      rw [← h]
      have q1 := L.bad_text hx
      have q2 := L.bad_text hy
      exact refwithin_ok ha hb q1.1 q1.2 q2.1 q2.2 (by have := hx.1; omega) (by have := hy.1; omega) w

/-! ### The plain facts of Within -/
theorem withinB_valid {a b : List UInt8} (h : withinB a b = true) : L.valid a = true ∧ L.valid b = true := by
  unfold withinB at h
  cases h1 : L.valid a <;> cases h2 : L.valid b <;> simp_all
theorem withinB_self (a : List UInt8) : withinB a a = L.valid a := by simp [withinB]
theorem withinB_nil (a : List UInt8) : withinB a [] = L.valid a := by
  have : L.valid [] = true := by rfl
  simp [withinB, this]
theorem withinB_trans {a b c : ByteArray} (h1 : withinB a.data.toList b.data.toList = true) (h2 : withinB b.data.toList c.data.toList = true) : withinB a.data.toList c.data.toList = true := by
  obtain ⟨v1, v2⟩ := withinB_valid h1
  obtain ⟨_, v3⟩ := withinB_valid h2
  obtain ⟨x, hx, rfl, _⟩ := nm_of v1
  obtain ⟨y, hy, rfl, _⟩ := nm_of v2
  obtain ⟨z, hz, rfl, _⟩ := nm_of v3
  rw [withinB_nm hx hy, List.isPrefixOf_iff_prefix] at h1
  rw [withinB_nm hy hz, List.isPrefixOf_iff_prefix] at h2
  rw [withinB_nm hx hz, List.isPrefixOf_iff_prefix]
  exact h2.trans h1
theorem withinB_antisymm {a b : ByteArray} (h1 : withinB a.data.toList b.data.toList = true) (h2 : withinB b.data.toList a.data.toList = true) : a = b := by
  obtain ⟨v1, v2⟩ := withinB_valid h1
  obtain ⟨x, hx, rfl, _⟩ := nm_of v1
  obtain ⟨y, hy, rfl, _⟩ := nm_of v2
  rw [withinB_nm hx hy, List.isPrefixOf_iff_prefix] at h1
  rw [withinB_nm hy hx, List.isPrefixOf_iff_prefix] at h2
  rw [h1.eq_of_length_le h2.length_le]
theorem beq_of {a b : ByteArray} (h : a = b) : (a.toList == b.toList) = true := by rw [h]; simp

end Go.Proofs.YtjgofoliikflaaaDoor
