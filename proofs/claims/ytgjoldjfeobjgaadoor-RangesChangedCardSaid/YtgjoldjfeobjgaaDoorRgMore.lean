/-
  PLAIN: the changed positions of two texts; the blocks of a set; nothing of the program.
-/
import Derived.Test.YtgjoldjfeobjgaaDoorRgComb
namespace Go.Proofs.YtgjoldjfeobjgaaDoor
namespace G
/-! ### Changed -/
def chgStep (b : Bool) (i : Nat) (out : List Rg) : List Rg :=
  if b then (match out.getLast? with
    | some q => if q.2 = (i : Int) then out.dropLast ++ [(q.1, (i : Int) + 1)] else out ++ [((i : Int), (i : Int) + 1)]
    | none => [((i : Int), (i : Int) + 1)])
  else out
def chg (d : Nat → Bool) : Nat → List Rg
  | 0 => []
  | n + 1 => chgStep (d n) n (chg d n)
/-- Is the last position so far a changed one? -/
def chgIn (d : Nat → Bool) : Nat → Bool
  | 0 => false
  | n + 1 => d n
theorem chg_succ (d : Nat → Bool) (n : Nat) : chg d (n + 1) = chgStep (d n) n (chg d n) := rfl
theorem chg_form (d : Nat → Bool) : ∀ n, Canon (-1) (chg d n) ∧ (∀ q ∈ chg d n, q.2 ≤ (n : Int)) ∧ (if chgIn d n then ∃ m f, chg d n = m ++ [(f, (n : Int))] else ∀ q ∈ chg d n, q.2 < (n : Int)) ∧
    ∀ x, mem (chg d n) x = (decide (0 ≤ x) && decide (x < (n : Int)) && d x.toNat)
  | 0 => ⟨trivial, by simp [chg], by simp [chgIn, chg], fun x => by
      by_cases h : 0 ≤ x
      · rw [decide_eq_false (show ¬ x < ((0 : Nat) : Int) by omega), Bool.and_false]; rfl
      · rw [decide_eq_false h]; rfl⟩
  | n + 1 => by
    obtain ⟨hc, hq, hi, hm⟩ := chg_form d n
    rw [chg_succ]
    have key : ∀ x, ((decide (0 ≤ x) && decide (x < ((n + 1 : Nat) : Int)) && d x.toNat)) = ((decide (0 ≤ x) && decide (x < (n : Int)) && d x.toNat) || (decide (x = (n : Int)) && d n)) := fun x => by
      by_cases h1 : x = (n : Int)
      · subst h1
        simp
        intro _
        omega
      · rw [decide_eq_false h1, Bool.false_and, Bool.or_false]
        congr 2
        rw [decide_eq_decide]; omega
    cases hd : d n with
    | false =>
      have e : chgStep false n (chg d n) = chg d n := rfl
      rw [e]
      refine ⟨hc, fun q h => by have := hq q h; omega, ?_, fun x => by rw [hm, key, hd, Bool.and_false, Bool.or_false]⟩
      rw [show chgIn d (n + 1) = false from hd]
      exact fun q h => by have := hq q h; omega
    | true =>
      rw [show chgIn d (n + 1) = true from hd]
      have hone : ∀ x : Int, (decide ((n : Int) ≤ x) && decide (x < (n : Int) + 1)) = decide (x = (n : Int)) := fun x => by
        rw [Bool.eq_iff_iff]; simp; omega
      cases hin : chgIn d n with
      | true =>
        rw [hin] at hi
        obtain ⟨m, f, he⟩ := (show ∃ m f, chg d n = m ++ [(f, (n : Int))] from hi)
        have e : chgStep true n (chg d n) = m ++ [(f, (n : Int) + 1)] := by
          rw [he]; simp [chgStep]
        rw [e]
        rw [he] at hc hq hm
        obtain ⟨l1, l2, l3⟩ := hc.last
        refine ⟨hc.prefix.append l1 l2 (by show f < (n : Int) + 1; have : f < (n : Int) := l3; omega), fun q h => ?_, ⟨m, f, by simp⟩, fun x => ?_⟩
        · rcases List.mem_append.1 h with h | h
          · have := hq q (by simp [h]); omega
          · rw [List.mem_singleton.1 h]; show (n : Int) + 1 ≤ _; omega
        · rw [key, ← hm, mem_append, mem_append, mem_one, mem_one, hd, Bool.and_true, Bool.or_assoc]
          congr 1
          have : f < (n : Int) := l3
          rw [Bool.eq_iff_iff]
          simp only [Bool.or_eq_true, Bool.and_eq_true, decide_eq_true_eq]
          omega
      | false =>
        rw [hin] at hi
        have hi : ∀ q ∈ chg d n, q.2 < (n : Int) := hi
        have e : chgStep true n (chg d n) = chg d n ++ [((n : Int), (n : Int) + 1)] := by
          unfold chgStep
          rw [if_pos rfl]
          rcases snoc_cases (chg d n) with h | ⟨m, q, h⟩
          · rw [h]; rfl
          · have := hi q (by rw [h]; simp)
            rw [h, getLast?_snoc]
            simp only
            rw [if_neg (by omega)]
        rw [e]
        refine ⟨hc.append (fun q h => hi q h) (by show (-1 : Int) < n; omega) (by show (n : Int) < n + 1; omega), fun q h => ?_, ⟨chg d n, n, by simp⟩, fun x => ?_⟩
        · rcases List.mem_append.1 h with h | h
          · have := hq q h; omega
          · rw [List.mem_singleton.1 h]; show (n : Int) + 1 ≤ _; omega
        · rw [key, mem_append, hm, mem_one, hd, Bool.and_true]
          show (_ || (decide ((n : Int) ≤ x) && decide (x < (n : Int) + 1))) = _
          rw [hone]
theorem chg_len (d : Nat → Bool) : ∀ n, (chg d n).length ≤ n
  | 0 => Nat.le_refl _
  | n + 1 => by
    have := chg_len d n
    rw [chg_succ]
    unfold chgStep
    split
    · rcases snoc_cases (chg d n) with h | ⟨m, q, h⟩
      · rw [h]; simp
      · rw [h] at this ⊢
        rw [getLast?_snoc]
        simp only
        split <;> simp at this ⊢ <;> omega
    · omega
/-- The step, where the last position was a changed one, and where it was not. -/
theorem chg_more {d : Nat → Bool} {n : Nat} (h : chgIn d n = true) (hd : d n = true) : ∃ m f, chg d n = m ++ [(f, (n : Int))] ∧ chg d (n + 1) = m ++ [(f, (n : Int) + 1)] := by
  have hi := (chg_form d n).2.2.1
  rw [h] at hi
  obtain ⟨m, f, he⟩ := (show ∃ m f, chg d n = m ++ [(f, (n : Int))] from hi)
  refine ⟨m, f, he, ?_⟩
  rw [chg_succ, hd, he]
  simp [chgStep]
theorem chg_new {d : Nat → Bool} {n : Nat} (h : chgIn d n = false) (hd : d n = true) : chg d (n + 1) = chg d n ++ [((n : Int), (n : Int) + 1)] ∧ ∀ q ∈ chg d n, q.2 < (n : Int) := by
  have hi := (chg_form d n).2.2.1
  rw [h] at hi
  have hi : ∀ q ∈ chg d n, q.2 < (n : Int) := hi
  refine ⟨?_, hi⟩
  rw [chg_succ, hd]
  unfold chgStep
  rw [if_pos rfl]
  rcases snoc_cases (chg d n) with h | ⟨m, q, h⟩
  · rw [h]; rfl
  · have := hi q (by rw [h]; simp)
    rw [h, getLast?_snoc]
    simp only
    rw [if_neg (by omega)]
theorem chg_same {d : Nat → Bool} {n : Nat} (hd : d n = false) : chg d (n + 1) = chg d n := by rw [chg_succ, hd]; rfl

/-! ### Blocks -/
def blkList (first last : Int) : List Int := (List.range (last - first + 1).toNat).map (fun i : Nat => first + (i : Int))
def bFirst (size next : Int) (r : Rg) : Int := max next (r.1 / size)
def bLast (size : Int) (r : Rg) : Int := (r.2 - 1) / size
def blks (size : Int) : List Rg → Int → List Int → Option (List Int)
  | [], _, acc => some acc
  | r :: l, next, acc => if 100000 - (acc.length : Int) ≤ bLast size r - bFirst size next r then none else blks size l (bLast size r + 1) (acc ++ blkList (bFirst size next r) (bLast size r))
theorem blkList_len (a b : Int) : (blkList a b).length = (b - a + 1).toNat := by simp [blkList]
theorem blkList_nil {a b : Int} (h : b < a) : blkList a b = [] := by
  unfold blkList; rw [show (b - a + 1).toNat = 0 by omega]; rfl
theorem blkList_snoc {a b : Int} (h : a ≤ b + 1) : blkList a (b + 1) = blkList a b ++ [b + 1] := by
  unfold blkList
  rw [show (b + 1 - a + 1).toNat = (b - a + 1).toNat + 1 by omega, List.range_succ, List.map_append]
  congr 1
  simp; omega
theorem mem_blkList {a b x : Int} : x ∈ blkList a b ↔ a ≤ x ∧ x ≤ b := by
  unfold blkList
  simp only [List.mem_map, List.mem_range]
  constructor
  · rintro ⟨i, hi, rfl⟩; omega
  · rintro ⟨h1, h2⟩; exact ⟨(x - a).toNat, by omega, by omega⟩
theorem blks_len {size : Int} : ∀ {l : List Rg} {next : Int} {acc out : List Int}, acc.length ≤ 100000 → blks size l next acc = some out → out.length ≤ 100000
  | [], _, acc, out, h, e => by cases e; exact h
  | r :: l, next, acc, out, h, e => by
    rw [blks] at e
    split at e
    · cases e
    · refine blks_len ?_ e
      rw [List.length_append, blkList_len]; omega
/-- What holds of the next block ahead of the ranges that are left. -/
def bAhead (size next : Int) (l : List Rg) : Prop := ∀ r ∈ l, next ≤ r.1 / size + 1
theorem div_mono {a b size : Int} (hs : 1 ≤ size) (h : a ≤ b) : a / size ≤ b / size := Int.ediv_le_ediv (by omega) h
theorem bAhead_next {size lo : Int} {r : Rg} {l : List Rg} (hs : 1 ≤ size) (hc : Canon lo (r :: l)) : bAhead size (bLast size r + 1) l := by
  intro q hq
  have h1 := (hc.2.2.from_gt q hq).1
  have h2 : (r.2 - 1) / size ≤ q.1 / size := div_mono hs (by omega)
  unfold bLast; omega
theorem b_enter {size next lo : Int} {r : Rg} {l : List Rg} (hs : 1 ≤ size) (hc : Canon lo (r :: l)) (ha : bAhead size next (r :: l)) : next - 1 ≤ bLast size r ∧ bFirst size next r ≤ bLast size r + 1 := by
  have h1 := ha r (by simp)
  have h2 : r.1 / size ≤ (r.2 - 1) / size := div_mono hs (by have := hc.2.1; omega)
  unfold bLast bFirst; omega
theorem blks_has {size : Int} (hs : 1 ≤ size) : ∀ {l : List Rg} {lo next : Int} {acc out : List Int}, Canon lo l → bAhead size next l → (next - 1 ∈ acc ∨ ∀ r ∈ l, next ≤ r.1 / size) → blks size l next acc = some out →
    (∀ x ∈ acc, x ∈ out) ∧ ∀ x, mem l x = true → x / size ∈ out
  | [], _, _, acc, out, _, _, _, e => by cases e; exact ⟨fun _ h => h, fun x h => by simp [mem] at h⟩
  | r :: l, lo, next, acc, out, hc, ha, hn, e => by
    rw [blks] at e
    split at e
    · cases e
    · have he := b_enter hs hc ha
      have h1 := ha r (by simp)
      have h2 : r.1 / size ≤ (r.2 - 1) / size := div_mono hs (by have := hc.2.1; omega)
      have hin : bLast size r ∈ acc ++ blkList (bFirst size next r) (bLast size r) := by
        by_cases hf : bFirst size next r ≤ bLast size r
        · exact List.mem_append_right _ (mem_blkList.2 ⟨hf, Int.le_refl _⟩)
        · have hnx : next = bLast size r + 1 := by simp only [bFirst, bLast] at hf he ⊢; omega
          rcases hn with h | h
          · exact List.mem_append_left _ (by rw [hnx] at h; simpa using h)
          · have := h r (by simp); simp only [bFirst, bLast] at hf; omega
      obtain ⟨k1, k2⟩ := blks_has hs (next := bLast size r + 1) hc.2.2 (bAhead_next hs hc) (.inl (by simpa using hin)) e
      refine ⟨fun x hx => k1 x (List.mem_append_left _ hx), fun x hx => ?_⟩
      rw [mem_cons] at hx
      rcases Bool.or_eq_true _ _ ▸ hx with hx | hx
      · have hx' : r.1 ≤ x ∧ x < r.2 := by simpa using hx
        have x1 : r.1 / size ≤ x / size := div_mono hs hx'.1
        have x2 : x / size ≤ (r.2 - 1) / size := div_mono hs (by omega)
        refine k1 _ ?_
        by_cases hf : bFirst size next r ≤ x / size
        · exact List.mem_append_right _ (mem_blkList.2 ⟨hf, x2⟩)
        · have hnx : next - 1 = x / size := by unfold bFirst at hf; omega
          rcases hn with h | h
          · exact List.mem_append_left _ (by rw [← hnx]; exact h)
          · have := h r (by simp); omega
      · exact k2 x hx
theorem blks_all {size : Int} (hs : 1 ≤ size) {l : List Rg} {out : List Int} (hc : Canon (-1) l) (e : blks size l 0 [] = some out) : ∀ x, mem l x = true → x / size ∈ out :=
  (blks_has hs hc (fun r hr => by have := hc.from_gt r hr; have := Int.ediv_nonneg (a := r.1) (b := size) (by omega) (by omega); omega) (.inr fun r hr => by have := hc.from_gt r hr; exact Int.ediv_nonneg (by omega) (by omega)) e).2
end G
end Go.Proofs.YtgjoldjfeobjgaaDoor
