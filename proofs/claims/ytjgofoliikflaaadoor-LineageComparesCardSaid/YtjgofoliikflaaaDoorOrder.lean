/-
  PLAIN: the order of lists of numbers and of strings is total; what lies between.
-/
import Derived.Test.YtjgofoliikflaaaDoorLawKit
import Derived.Test.YtjgofoliikflaaaDoorRefCompare
import Derived.Test.YtjgofoliikflaaaDoorWalkCommon
namespace Go.Proofs.YtjgofoliikflaaaDoor
open Go.RowKit
namespace L
theorem cmpL_neg : ∀ x y, cmpL y x = - cmpL x y
  | [], [] => rfl
  | [], _ :: _ => rfl
  | _ :: _, [] => rfl
  | a :: x, b :: y => by
    unfold cmpL
    by_cases h1 : a < b
    · rw [if_pos h1, if_neg (by omega), if_pos h1]; rfl
    · by_cases h2 : b < a
      · rw [if_pos h2, if_neg h1, if_pos h2]
      · rw [if_neg h1, if_neg h2, if_neg h2, if_neg h1, cmpL_neg x y]
theorem cmpL_zero : ∀ x y, cmpL x y = 0 → x = y
  | [], [], _ => rfl
  | [], _ :: _, h => by simp [cmpL] at h
  | _ :: _, [], h => by simp [cmpL] at h
  | a :: x, b :: y, h => by
    unfold cmpL at h
    by_cases h1 : a < b
    · rw [if_pos h1] at h; simp at h
    · by_cases h2 : b < a
      · rw [if_neg h1, if_pos h2] at h; simp at h
      · rw [if_neg h1, if_neg h2] at h
        rw [cmpL_zero x y h, show a = b by omega]
theorem cmpL_le : ∀ {a b : Nat} {x y : List Nat}, cmpL (a :: x) (b :: y) ≤ 0 → a < b ∨ (a = b ∧ cmpL x y ≤ 0) := by
  intro a b x y h
  unfold cmpL at h
  by_cases h1 : a < b
  · exact .inl h1
  · by_cases h2 : b < a
    · rw [if_neg h1, if_pos h2] at h; simp at h
    · rw [if_neg h1, if_neg h2] at h
      exact .inr ⟨by omega, h⟩
theorem cmpL_trans : ∀ x y z, cmpL x y ≤ 0 → cmpL y z ≤ 0 → cmpL x z ≤ 0
  | [], _, [], _, _ => by simp [cmpL]
  | [], _, _ :: _, _, _ => by simp [cmpL]
  | _ :: _, [], _, h, _ => by simp [cmpL] at h
  | _ :: _, _ :: _, [], _, h => by simp [cmpL] at h
  | a :: x, b :: y, c :: z, h1, h2 => by
    unfold cmpL
    rcases cmpL_le h1 with h1 | ⟨e1, h1⟩
    · rcases cmpL_le h2 with h2 | ⟨e2, h2⟩
      · rw [if_pos (by omega)]; simp
      · rw [if_pos (by omega)]; simp
    · rcases cmpL_le h2 with h2 | ⟨e2, h2⟩
      · rw [if_pos (by omega)]; simp
      · rw [if_neg (by omega), if_neg (by omega)]
        exact cmpL_trans x y z h1 h2
theorem cmpL_below : ∀ {x y : List Nat}, x <+: y → cmpL x y ≤ 0
  | [], [], _ => by simp [cmpL]
  | [], _ :: _, _ => by simp [cmpL]
  | _ :: _, [], h => by simp at h
  | a :: x, b :: y, h => by
    obtain ⟨e, h'⟩ := List.cons_prefix_cons.1 h
    unfold cmpL
    rw [if_neg (by omega), if_neg (by omega)]
    exact cmpL_below h'
theorem cmpL_between : ∀ x y z, cmpL x y ≤ 0 → cmpL y z ≤ 0 → lcp x z <+: y
  | [], _, _, _, _ => by unfold lcp; exact List.nil_prefix
  | _ :: _, _, [], _, _ => by unfold lcp; exact List.nil_prefix
  | _ :: _, [], _ :: _, h, _ => by simp [cmpL] at h
  | a :: x, b :: y, c :: z, h1, h2 => by
    unfold lcp
    by_cases e : a = c
    · rw [if_pos e]
      rcases cmpL_le h1 with h1 | ⟨e1, h1⟩
      · rcases cmpL_le h2 with h2 | ⟨e2, h2⟩ <;> omega
      · rcases cmpL_le h2 with h2 | ⟨e2, h2⟩
        · omega
        · rw [← e1]
          exact (List.prefix_cons_inj a).2 (cmpL_between x y z h1 h2)
    · rw [if_neg e]; exact List.nil_prefix
theorem cmpL_one : ∀ x y, cmpL x y = -1 ∨ cmpL x y = 0 ∨ cmpL x y = 1
  | [], [] => by simp [cmpL]
  | [], _ :: _ => by simp [cmpL]
  | _ :: _, [] => by simp [cmpL]
  | a :: x, b :: y => by
    unfold cmpL
    by_cases h1 : a < b
    · simp [h1]
    · by_cases h2 : b < a
      · simp [h1, h2]
      · rw [if_neg h1, if_neg h2]; exact cmpL_one x y
end L

theorem u8lt (a b : UInt8) : a < b ↔ a.toNat < b.toNat := UInt8.lt_iff_toNat_lt
theorem lexT : ∀ a b : List UInt8, a < b ∨ a = b ∨ b < a
  | [], [] => .inr (.inl rfl)
  | [], _ :: _ => .inl (List.nil_lt_cons _ _)
  | _ :: _, [] => .inr (.inr (List.nil_lt_cons _ _))
  | x :: a, y :: b => by
    rcases Nat.lt_trichotomy x.toNat y.toNat with h | h | h
    · exact .inl (List.cons_lt_cons_iff.2 (.inl ((u8lt _ _).2 h)))
    · have e : x = y := UInt8.toNat_inj.1 h
      subst e
      rcases lexT a b with h | h | h
      · exact .inl (List.cons_lt_cons_iff.2 (.inr ⟨rfl, h⟩))
      · exact .inr (.inl (by rw [h]))
      · exact .inr (.inr (List.cons_lt_cons_iff.2 (.inr ⟨rfl, h⟩)))
    · exact .inr (.inr (List.cons_lt_cons_iff.2 (.inl ((u8lt _ _).2 h))))
theorem lexA : ∀ a b : List UInt8, a < b → b < a → False
  | [], [], h, _ => by simp at h
  | [], _ :: _, _, h => by simp at h
  | _ :: _, [], h, _ => by simp at h
  | x :: a, y :: b, h1, h2 => by
    rcases List.cons_lt_cons_iff.1 h1 with p1 | ⟨e1, p1⟩
    · rcases List.cons_lt_cons_iff.1 h2 with p2 | ⟨e2, p2⟩
      · have := (u8lt _ _).1 p1; have := (u8lt _ _).1 p2; omega
      · rw [e2] at p1; have := (u8lt _ _).1 p1; omega
    · rcases List.cons_lt_cons_iff.1 h2 with p2 | ⟨e2, p2⟩
      · rw [e1] at p2; have := (u8lt _ _).1 p2; omega
      · exact lexA a b p1 p2
theorem lexTr : ∀ a b c : List UInt8, a < b → b < c → a < c
  | _, [], _, h, _ => by simp at h
  | _, _ :: _, [], _, h => by simp at h
  | [], _ :: _, _ :: _, _, _ => List.nil_lt_cons _ _
  | x :: a, y :: b, z :: c, h1, h2 => by
    rw [List.cons_lt_cons_iff] at h1 h2 ⊢
    rw [u8lt] at h1 h2 ⊢
    rcases h1 with h1 | ⟨e1, h1⟩
    · rcases h2 with h2 | ⟨e2, h2⟩
      · left; omega
      · subst e2; left; exact h1
    · subst e1
      rcases h2 with h2 | ⟨e2, h2⟩
      · left; exact h2
      · right; exact ⟨e2, lexTr a b c h1 h2⟩
theorem cmpB_self (a : List UInt8) : cmpB a a = 0 := by
  unfold cmpB; rw [if_neg (fun h => lexA a a h h), if_pos rfl]
theorem cmpB_neg (a b : List UInt8) : cmpB b a = - cmpB a b := by
  unfold cmpB
  rcases lexT a b with h | h | h
  · rw [if_pos h, if_neg (fun h' => lexA a b h h'), if_neg (fun e => by subst e; exact lexA _ _ h h)]; rfl
  · subst h; rw [if_neg (fun h => lexA a a h h), if_pos rfl]; rfl
  · rw [if_pos h, if_neg (fun h' => lexA a b h' h), if_neg (fun e => by subst e; exact lexA _ _ h h)]
theorem cmpB_zero {a b : List UInt8} (h : cmpB a b = 0) : a = b := by
  unfold cmpB at h
  by_cases h1 : a < b
  · rw [if_pos h1] at h; simp at h
  · by_cases h2 : a = b
    · exact h2
    · rw [if_neg h1, if_neg h2] at h; simp at h
theorem cmpB_le {a b : List UInt8} (h : cmpB a b ≤ 0) : a < b ∨ a = b := by
  unfold cmpB at h
  by_cases h1 : a < b
  · exact .inl h1
  · by_cases h2 : a = b
    · exact .inr h2
    · rw [if_neg h1, if_neg h2] at h; simp at h
theorem cmpB_trans {a b c : List UInt8} (h1 : cmpB a b ≤ 0) (h2 : cmpB b c ≤ 0) : cmpB a c ≤ 0 := by
  rcases cmpB_le h1 with h1 | rfl
  · rcases cmpB_le h2 with h2 | rfl
    · unfold cmpB; rw [if_pos (lexTr _ _ _ h1 h2)]; simp
    · unfold cmpB; rw [if_pos h1]; simp
  · exact h2
theorem cmpB_one (a b : List UInt8) : cmpB a b = -1 ∨ cmpB a b = 0 ∨ cmpB a b = 1 := by
  unfold cmpB; split
  · simp
  · split <;> simp

/-! ### The order of strings -/
theorem cmpS_eq (a b : List UInt8) : cmpS a b = if L.valid a then (if L.valid b then L.cmpL (ordsOf a) (ordsOf b) else -1) else if L.valid b then 1 else cmpB a b := by
  unfold cmpS
  by_cases h : a = b
  · subst h
    rw [if_pos rfl, cmpL_self, cmpB_self]
    cases L.valid a <;> rfl
  · rw [if_neg h]
theorem cmpS_neg (a b : List UInt8) : cmpS b a = - cmpS a b := by
  rw [cmpS_eq, cmpS_eq a b, L.cmpL_neg (ordsOf a) (ordsOf b), cmpB_neg a b]
  cases L.valid a <;> cases L.valid b <;> simp
theorem cmpS_one (a b : List UInt8) : cmpS a b = -1 ∨ cmpS a b = 0 ∨ cmpS a b = 1 := by
  rw [cmpS_eq]
  have h1 := L.cmpL_one (ordsOf a) (ordsOf b)
  have h2 := cmpB_one a b
  cases L.valid a <;> cases L.valid b <;> simp [h1, h2]
theorem cmpS_self (a : List UInt8) : cmpS a a = 0 := by unfold cmpS; rw [if_pos rfl]
theorem ordsOf_inj {a b : ByteArray} (h1 : L.valid a.data.toList = true) (h2 : L.valid b.data.toList = true) (h : ordsOf a.data.toList = ordsOf b.data.toList) : a = b := by
  obtain ⟨x, hx, rfl, ox⟩ := nm_of h1
  obtain ⟨y, hy, rfl, oy⟩ := nm_of h2
  rw [ox, oy] at h
  rw [h]
theorem cmpS_zero {a b : ByteArray} (h : cmpS a.data.toList b.data.toList = 0) : a = b := by
  rw [cmpS_eq] at h
  cases h1 : L.valid a.data.toList <;> cases h2 : L.valid b.data.toList <;> simp [h1, h2] at h
  · rw [bs_eq a, cmpB_zero h]; exact (bs_eq b).symm
  · exact ordsOf_inj h1 h2 (L.cmpL_zero _ _ h)
theorem cmpS_trans {a b c : List UInt8} (h1 : cmpS a b ≤ 0) (h2 : cmpS b c ≤ 0) : cmpS a c ≤ 0 := by
  rw [cmpS_eq] at h1 h2 ⊢
  cases va : L.valid a <;> cases vb : L.valid b <;> cases vc : L.valid c <;> simp [va, vb, vc] at h1 h2 ⊢
  · exact cmpB_trans h1 h2
  · exact L.cmpL_trans _ _ _ h1 h2
theorem cmpS_within {a b : ByteArray} (h : withinB b.data.toList a.data.toList = true) : cmpS a.data.toList b.data.toList ≤ 0 := by
  obtain ⟨v1, v2⟩ := withinB_valid h
  obtain ⟨x, hx, rfl, ox⟩ := nm_of v1
  obtain ⟨y, hy, rfl, oy⟩ := nm_of v2
  rw [withinB_nm hx hy, List.isPrefixOf_iff_prefix] at h
  rw [cmpS_eq, v1, v2, ox, oy]
  exact L.cmpL_below h
theorem cmpS_between {a b c : ByteArray} (va : L.valid a.data.toList = true) (vc : L.valid c.data.toList = true) (h1 : cmpS a.data.toList b.data.toList ≤ 0) (h2 : cmpS b.data.toList c.data.toList ≤ 0) :
    withinB b.data.toList (commonS a.data.toList c.data.toList).data.toList = true := by
  rw [cmpS_eq] at h1 h2
  cases vb : L.valid b.data.toList with
  | false => simp [vb, vc] at h2
  | true =>
    simp only [va, vb, vc, if_true] at h1 h2
    obtain ⟨x, hx, rfl, ox⟩ := nm_of va
    obtain ⟨y, hy, rfl, oy⟩ := nm_of vb
    obtain ⟨z, hz, rfl, oz⟩ := nm_of vc
    rw [ox, oy] at h1
    rw [oy, oz] at h2
    rw [commonS_nm hx hz, withinB_nm hy (ok_prefix hx (L.lcp_prefix x z)), List.isPrefixOf_iff_prefix]
    exact L.cmpL_between x y z h1 h2
theorem compare_of {a b : ByteArray} {x : Int} (ha : a.size ≤ 1000) (hb : b.size ≤ 1000) (h : cmpS a.data.toList b.data.toList = x) (w : World) :
    Calls Tryd.prog 26 #[.string a, .string b] w fun e w' => e = .returned (.int .i64 x) ∧ Below w.heap.size w w' := by
  rw [← h]; exact compare_any a b ha hb w
theorem refcompare_of {a b : ByteArray} {x : Int} (ha : a.size ≤ 1000) (hb : b.size ≤ 1000) (h : cmpS a.data.toList b.data.toList = x) (w : World) :
    Calls Tryd.prog 27 #[.string a, .string b] w fun e w' => e = .returned (.int .i64 x) ∧ Below w.heap.size w w' := by
  rw [← h]; exact refcompare_any a b ha hb w
theorem beq_not {a b : ByteArray} (h : a ≠ b) : (a.toList == b.toList) = false := by
  rw [Lib.toList_data, Lib.toList_data, beq_eq_false_iff_ne]
  intro e
  exact h (by rw [bs_eq a, e]; exact (bs_eq b).symm)
end Go.Proofs.YtjgofoliikflaaaDoor
