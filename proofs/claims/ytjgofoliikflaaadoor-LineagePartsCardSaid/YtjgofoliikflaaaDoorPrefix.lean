/-
  PLAIN: prefixes, common prefixes and the order of lists of numbers.
-/
namespace Go.Proofs.YtjgofoliikflaaaDoor
namespace L
variable {x y : List Nat}
theorem pfx_len (h : x.length < y.length) : y.isPrefixOf x = false := by
  cases e : y.isPrefixOf x with
  | false => rfl
  | true => have := (List.isPrefixOf_iff_prefix.1 e).length_le; omega
theorem pfx_at {i : Nat} (h1 : i < y.length) (h2 : i < x.length) (h : x[i] ≠ y[i]) : y.isPrefixOf x = false := by
  cases e : y.isPrefixOf x with
  | false => rfl
  | true =>
    obtain ⟨r, rfl⟩ := List.isPrefixOf_iff_prefix.1 e
    rw [List.getElem_append_left h1] at h
    exact absurd rfl h
theorem pfx_all (_ : y.length ≤ x.length) (h : y.take y.length = x.take y.length) : y.isPrefixOf x = true := by
  rw [List.isPrefixOf_iff_prefix, List.prefix_iff_eq_take, ← h, List.take_length]
theorem take_same {i : Nat} (h1 : i < y.length) (h2 : i < x.length) (h : x[i] = y[i]) (ht : y.take i = x.take i) : y.take (i + 1) = x.take (i + 1) := by
  rw [List.take_succ_eq_append_getElem h1, List.take_succ_eq_append_getElem h2, ht, h]

/-- The longest common prefix. -/
def lcp : List Nat → List Nat → List Nat
  | a :: x, b :: y => if a = b then a :: lcp x y else []
  | _, _ => []
theorem lcp_comm : ∀ x y, lcp x y = lcp y x
  | [], [] => rfl
  | [], _ :: _ => rfl
  | _ :: _, [] => rfl
  | a :: x, b :: y => by
    unfold lcp
    by_cases h : a = b
    · subst h; rw [if_pos rfl, if_pos rfl, lcp_comm]
    · rw [if_neg h, if_neg (Ne.symm h)]
theorem lcp_prefix : ∀ x y, lcp x y <+: x
  | [], _ => by unfold lcp; exact List.prefix_refl _
  | _ :: _, [] => by unfold lcp; exact List.nil_prefix
  | a :: x, b :: y => by
    unfold lcp
    split
    · exact (List.prefix_cons_inj a).2 (lcp_prefix x y)
    · exact List.nil_prefix
theorem lcp_prefix' (x y : List Nat) : lcp x y <+: y := by rw [lcp_comm]; exact lcp_prefix y x
theorem lcp_most : ∀ {z x y : List Nat}, z <+: x → z <+: y → z <+: lcp x y
  | [], _, _, _, _ => List.nil_prefix
  | c :: z, x, y, hx, hy => by
    obtain ⟨r, rfl⟩ := hx
    obtain ⟨q, rfl⟩ := hy
    show c :: z <+: lcp (c :: (z ++ r)) (c :: (z ++ q))
    unfold lcp
    rw [if_pos rfl]
    exact (List.prefix_cons_inj c).2 (lcp_most (List.prefix_append _ _) (List.prefix_append _ _))
theorem lcp_take : ∀ (n : Nat) (x y : List Nat), x.take n = y.take n → n ≤ x.length → n ≤ y.length → (∀ (h1 : n < x.length) (h2 : n < y.length), x[n] ≠ y[n]) → lcp x y = x.take n
  | 0, [], _, _, _, _, _ => rfl
  | 0, _ :: _, [], _, _, _, _ => rfl
  | 0, a :: x, b :: y, _, _, _, h => by
    have := h (by simp) (by simp)
    unfold lcp
    rw [if_neg (by simpa using this)]; rfl
  | n + 1, [], _, _, h, _, _ => by simp at h
  | n + 1, _ :: _, [], _, _, h, _ => by simp at h
  | n + 1, a :: x, b :: y, h, h1, h2, h3 => by
    simp only [List.take_succ_cons, List.cons.injEq] at h
    unfold lcp
    rw [if_pos h.1, List.take_succ_cons, lcp_take n x y h.2 (by simpa using h1) (by simpa using h2) (fun q1 q2 => by
      have := h3 (by simpa using q1) (by simpa using q2)
      simpa using this)]
theorem lcp_of_prefix {x y : List Nat} (h : x <+: y) : lcp x y = x :=
  (lcp_prefix x y).eq_of_length_le (List.IsPrefix.length_le (lcp_most (List.prefix_refl x) h))

/-- The order of lists. -/
def cmpL : List Nat → List Nat → Int
  | [], [] => 0
  | [], _ :: _ => -1
  | _ :: _, [] => 1
  | a :: x, b :: y => if a < b then -1 else if b < a then 1 else cmpL x y
theorem cmpL_drop : ∀ (n : Nat) (x y : List Nat), x.take n = y.take n → n ≤ x.length → n ≤ y.length → cmpL x y = cmpL (x.drop n) (y.drop n)
  | 0, _, _, _, _, _ => rfl
  | n + 1, [], _, _, h, _ => by simp at h
  | n + 1, _ :: _, [], _, _, h => by simp at h
  | n + 1, a :: x, b :: y, h, h1, h2 => by
    simp only [List.take_succ_cons, List.cons.injEq] at h
    unfold cmpL
    rw [if_neg (by omega), if_neg (by omega), List.drop_succ_cons, List.drop_succ_cons]
    have := cmpL_drop n x y h.2 (by simpa using h1) (by simpa using h2)
    rw [this]
    cases x.drop n <;> cases y.drop n <;> rfl
theorem cmpL_lt {n : Nat} {x y : List Nat} (h : x.take n = y.take n) (h1 : n < x.length) (h2 : n < y.length) (hl : x[n] < y[n]) : cmpL x y = -1 := by
  rw [cmpL_drop n x y h (by omega) (by omega), List.drop_eq_getElem_cons h1, List.drop_eq_getElem_cons h2]
  unfold cmpL
  rw [if_pos hl]
theorem cmpL_gt {n : Nat} {x y : List Nat} (h : x.take n = y.take n) (h1 : n < x.length) (h2 : n < y.length) (hl : y[n] < x[n]) : cmpL x y = 1 := by
  rw [cmpL_drop n x y h (by omega) (by omega), List.drop_eq_getElem_cons h1, List.drop_eq_getElem_cons h2]
  unfold cmpL
  rw [if_neg (by omega), if_pos hl]
theorem cmpL_short {n : Nat} {x y : List Nat} (h : x.take n = y.take n) (h1 : n = x.length) (h2 : n < y.length) : cmpL x y = -1 := by
  subst h1
  rw [cmpL_drop _ x y h (by omega) (by omega), List.drop_eq_getElem_cons h2, List.drop_length]
  rfl
theorem cmpL_long {n : Nat} {x y : List Nat} (h : x.take n = y.take n) (h1 : n < x.length) (h2 : n = y.length) : cmpL x y = 1 := by
  subst h2
  rw [cmpL_drop _ x y h (by omega) (by omega), List.drop_eq_getElem_cons h1, List.drop_length]
  rfl
theorem cmpL_same {n : Nat} {x y : List Nat} (h : x.take n = y.take n) (h1 : n = x.length) (h2 : n = y.length) : cmpL x y = 0 := by
  rw [cmpL_drop n x y h (by omega) (by omega), h1, List.drop_length, ← h1, h2, List.drop_length]
  rfl
end L
end Go.Proofs.YtjgofoliikflaaaDoor
