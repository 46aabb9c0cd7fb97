/-
  PLAIN: sets of positions as lists of ranges; nothing of the program.
-/
namespace Go.Proofs.YtgjoldjfeobjgaaDoor
namespace G
/-- A range: from, to. -/
abbrev Rg := Int × Int
/-- Is a position in one of the ranges? -/
def mem (l : List Rg) (x : Int) : Bool := l.any fun r => decide (r.1 ≤ x) && decide (x < r.2)
theorem mem_iff {l : List Rg} {x : Int} : mem l x = true ↔ ∃ r ∈ l, r.1 ≤ x ∧ x < r.2 := by simp [mem, List.any_eq_true]
theorem mem_nil (x : Int) : mem [] x = false := rfl
theorem mem_cons (r : Rg) (l : List Rg) (x : Int) : mem (r :: l) x = ((decide (r.1 ≤ x) && decide (x < r.2)) || mem l x) := rfl
theorem mem_append (a b : List Rg) (x : Int) : mem (a ++ b) x = (mem a x || mem b x) := by simp [mem]
theorem mem_one (r : Rg) (x : Int) : mem [r] x = (decide (r.1 ≤ x) && decide (x < r.2)) := by simp [mem]
theorem mem_perm {a b : List Rg} (h : a.Perm b) (x : Int) : mem a x = mem b x := by
  rw [Bool.eq_iff_iff, mem_iff, mem_iff]
  exact ⟨fun ⟨r, h1, h2⟩ => ⟨r, h.mem_iff.1 h1, h2⟩, fun ⟨r, h1, h2⟩ => ⟨r, h.mem_iff.2 h1, h2⟩⟩

/-- The ranges are not empty, in order, and not adjacent; the first begins behind lo. -/
def Canon : Int → List Rg → Prop
  | _, [] => True
  | lo, r :: l => lo < r.1 ∧ r.1 < r.2 ∧ Canon r.2 l
theorem Canon.lo {lo lo' : Int} {l : List Rg} (h : Canon lo l) (hl : lo' ≤ lo) : Canon lo' l := by
  cases l with
  | nil => trivial
  | cons r l => exact ⟨by have := h.1; omega, h.2⟩
theorem Canon.mem_lo : ∀ {l : List Rg} {lo x : Int}, Canon lo l → mem l x = true → lo < x
  | [], _, _, _, h => by simp [mem] at h
  | r :: l, lo, x, hc, h => by
    rw [mem_cons] at h
    rcases Bool.or_eq_true _ _ ▸ h with h | h
    · have h2 : r.1 ≤ x ∧ x < r.2 := by simpa using h
      have := hc.1; omega
    · have h1 := hc.2.2.mem_lo h
      have := hc.1; have := hc.2.1; omega
theorem Canon.not_mem {l : List Rg} {lo x : Int} (h : Canon lo l) (hx : x ≤ lo) : mem l x = false := by
  cases hm : mem l x with
  | false => rfl
  | true => have := h.mem_lo hm; omega
theorem canon_unique : ∀ {a b : List Rg} {lo lo' : Int}, Canon lo a → Canon lo' b → (∀ x, mem a x = mem b x) → a = b
  | [], [], _, _, _, _, _ => rfl
  | [], s :: m, _, _, _, hb, h => by
    have := h s.1
    rw [mem_nil, mem_cons] at this
    simp [hb.2.1] at this
  | r :: l, [], _, _, ha, _, h => by
    have := h r.1
    rw [mem_nil, mem_cons] at this
    simp [ha.2.1] at this
  | r :: l, s :: m, lo, lo', ha, hb, h => by
    have hr : mem (r :: l) r.1 = true := by rw [mem_cons]; simp [ha.2.1]
    have hs : mem (s :: m) s.1 = true := by rw [mem_cons]; simp [hb.2.1]
    have ca : Canon (r.1 - 1) (r :: l) := ⟨by omega, ha.2⟩
    have cb : Canon (s.1 - 1) (s :: m) := ⟨by omega, hb.2⟩
    have e1 : r.1 = s.1 := by
      have h1 := cb.mem_lo ((h r.1).symm.trans hr)
      have h2 := ca.mem_lo ((h s.1).trans hs)
      omega
    have na : mem (r :: l) r.2 = false := by
      rw [mem_cons, ha.2.2.not_mem (Int.le_refl _)]; simp
    have nb : mem (s :: m) s.2 = false := by
      rw [mem_cons, hb.2.2.not_mem (Int.le_refl _)]; simp
    have e2 : r.2 = s.2 := by
      rcases Int.lt_trichotomy r.2 s.2 with hlt | heq | hgt
      · have := h r.2
        rw [na, mem_cons] at this
        have h1 := ha.2.1
        simp [show s.1 ≤ r.2 by omega, hlt] at this
      · exact heq
      · have := h s.2
        rw [nb, mem_cons] at this
        have h1 := hb.2.1
        simp [show r.1 ≤ s.2 by omega, hgt] at this
    have e : r = s := Prod.ext e1 e2
    subst e
    congr 1
    refine canon_unique ha.2.2 hb.2.2 fun x => ?_
    rcases Int.lt_or_le r.2 x with hx | hx
    · have := h x
      rw [mem_cons, mem_cons] at this
      simpa [show ¬ x < r.2 by omega] using this
    · rw [ha.2.2.not_mem hx, hb.2.2.not_mem hx]
theorem Canon.append : ∀ {l : List Rg} {lo : Int} {r : Rg}, Canon lo l → (∀ q ∈ l, q.2 < r.1) → lo < r.1 → r.1 < r.2 → Canon lo (l ++ [r])
  | [], _, _, _, _, h1, h2 => ⟨h1, h2, trivial⟩
  | q :: l, lo, r, hc, h, h1, h2 => ⟨hc.1, hc.2.1, hc.2.2.append (fun p hp => h p (List.mem_cons_of_mem _ hp)) (h q (by simp)) h2⟩
theorem Canon.prefix : ∀ {l m : List Rg} {lo : Int}, Canon lo (l ++ m) → Canon lo l
  | [], _, _, _ => trivial
  | _ :: _, _, _, h => ⟨h.1, h.2.1, Canon.prefix h.2.2⟩
theorem Canon.last : ∀ {l : List Rg} {lo : Int} {r : Rg}, Canon lo (l ++ [r]) → (∀ q ∈ l, q.2 < r.1) ∧ lo < r.1 ∧ r.1 < r.2
  | [], _, _, h => ⟨by simp, h.1, h.2.1⟩
  | q :: l, lo, r, h => by
    obtain ⟨h1, h2, h3⟩ := Canon.last h.2.2
    refine ⟨fun p hp => ?_, by have := h.1; have := h.2.1; omega, h3⟩
    rcases List.mem_cons.1 hp with rfl | hp
    · exact h2
    · exact h1 p hp
theorem Canon.le_last : ∀ {l : List Rg} {lo : Int} {r : Rg}, Canon lo (l ++ [r]) → ∀ q ∈ l, q.2 < r.1 := fun h => h.last.1
theorem Canon.from_gt : ∀ {l : List Rg} {lo : Int}, Canon lo l → ∀ q ∈ l, lo < q.1 ∧ q.1 < q.2
  | [], _, _, _, h => by simp at h
  | r :: l, lo, hc, q, hq => by
    rcases List.mem_cons.1 hq with rfl | hq
    · exact ⟨hc.1, hc.2.1⟩
    · have := Canon.from_gt hc.2.2 q hq
      have := hc.1; have := hc.2.1; omega

/-! ### Merging -/
/-- One more range onto merged ones. -/
def mstep (acc : List Rg) (r : Rg) : List Rg :=
  if r.1 = r.2 then acc else
  match acc.getLast? with
  | some q => if r.1 ≤ q.2 then acc.dropLast ++ [(q.1, max q.2 r.2)] else acc ++ [r]
  | none => [r]
def merge (l : List Rg) : List Rg := l.foldl mstep []
theorem getLast?_snoc {α : Type} (l : List α) (a : α) : (l ++ [a]).getLast? = some a := by simp
theorem snoc_cases {α : Type} (l : List α) : l = [] ∨ ∃ m a, l = m ++ [a] := by
  rcases List.eq_nil_or_concat l with h | ⟨m, a, h⟩
  · exact .inl h
  · exact .inr ⟨m, a, by simpa using h⟩
/-- What a step keeps, where the range does not begin before the last one. -/
theorem mstep_ok {lo : Int} {acc : List Rg} {r : Rg} (hc : Canon lo acc) (h1 : r.1 ≤ r.2) (h2 : lo < r.1) (h3 : ∀ q ∈ acc, q.1 ≤ r.1) :
    Canon lo (mstep acc r) ∧ (∀ x, mem (mstep acc r) x = (mem acc x || mem [r] x)) ∧ ∀ q ∈ mstep acc r, q.1 ≤ r.1 := by
  unfold mstep
  by_cases he : r.1 = r.2
  · rw [if_pos he]
    refine ⟨hc, fun x => ?_, h3⟩
    rw [mem_one]
    have : (decide (r.1 ≤ x) && decide (x < r.2)) = false := by
      rw [Bool.and_eq_false_iff]
      by_cases hx : r.1 ≤ x
      · right; simp; omega
      · left; simp; omega
    rw [this, Bool.or_false]
  rw [if_neg he]
  rcases snoc_cases acc with rfl | ⟨m, q, rfl⟩
  · simp only [List.getLast?_nil]
    exact ⟨⟨h2, by omega, trivial⟩, fun x => by rw [mem_nil, Bool.false_or], fun q hq => by rw [List.mem_singleton.1 hq]; exact Int.le_refl _⟩
  · rw [getLast?_snoc]
    simp only
    obtain ⟨l1, l2, l3⟩ := hc.last
    have hq := h3 q (by simp)
    by_cases hle : r.1 ≤ q.2
    · rw [if_pos hle, List.dropLast_concat]
      refine ⟨hc.prefix.append l1 l2 (by show q.1 < max q.2 r.2; omega), fun x => ?_, fun p hp => ?_⟩
      · rw [mem_append, mem_append, mem_one, mem_one, mem_one, Bool.or_assoc]
        congr 1
        rw [Bool.eq_iff_iff]
        simp only [Bool.or_eq_true, Bool.and_eq_true, decide_eq_true_eq]
        omega
      · rcases List.mem_append.1 hp with h | h
        · exact h3 p (by simp [h])
        · rw [List.mem_singleton.1 h]; exact hq
    · rw [if_neg hle]
      refine ⟨hc.append (fun p hp => ?_) h2 (by omega), fun x => by rw [mem_append m [q], mem_append, mem_append], fun p hp => ?_⟩
      · rcases List.mem_append.1 hp with h | h
        · have := l1 p h; omega
        · rw [List.mem_singleton.1 h]; omega
      · rcases List.mem_append.1 hp with h | h
        · exact h3 p h
        · rw [List.mem_singleton.1 h]; exact Int.le_refl _
theorem merge_ok_aux {lo : Int} : ∀ (l acc : List Rg), Canon lo acc → (∀ r ∈ l, lo < r.1 ∧ r.1 ≤ r.2) → (∀ q ∈ acc, ∀ r ∈ l, q.1 ≤ r.1) → l.Pairwise (fun a b => a.1 ≤ b.1) →
    Canon lo (l.foldl mstep acc) ∧ ∀ x, mem (l.foldl mstep acc) x = (mem acc x || mem l x)
  | [], acc, hc, _, _, _ => ⟨hc, fun x => by simp [mem]⟩
  | r :: l, acc, hc, hv, hq, hp => by
    have hr := hv r (by simp)
    obtain ⟨c, m, q⟩ := mstep_ok hc hr.2 hr.1 (fun p hp => hq p hp r (by simp))
    have hp' := List.pairwise_cons.1 hp
    obtain ⟨c', m'⟩ := merge_ok_aux l (mstep acc r) c (fun s hs => hv s (List.mem_cons_of_mem _ hs)) (fun p hp s hs => by have := q p hp; have := hp'.1 s hs; omega) hp'.2
    refine ⟨c', fun x => ?_⟩
    rw [List.foldl_cons, m', m, mem_one, mem_cons r l, Bool.or_assoc]
theorem merge_ok {lo : Int} {l : List Rg} (hv : ∀ r ∈ l, lo < r.1 ∧ r.1 ≤ r.2) (hp : l.Pairwise (fun a b => a.1 ≤ b.1)) : Canon lo (merge l) ∧ ∀ x, mem (merge l) x = mem l x := by
  obtain ⟨a, b⟩ := merge_ok_aux l [] trivial hv (by simp) hp
  exact ⟨a, fun x => by rw [merge, b, mem_nil, Bool.false_or]⟩
theorem mstep_len (acc : List Rg) (r : Rg) : (mstep acc r).length ≤ acc.length + 1 := by
  unfold mstep
  split
  · omega
  · rcases snoc_cases acc with rfl | ⟨m, q, rfl⟩
    · simp
    · rw [getLast?_snoc]; simp only; split <;> simp
theorem merge_len_aux : ∀ (l acc : List Rg), (l.foldl mstep acc).length ≤ acc.length + l.length
  | [], _ => by simp
  | r :: l, acc => by
    have := merge_len_aux l (mstep acc r)
    have := mstep_len acc r
    simp only [List.foldl_cons, List.length_cons]; omega
theorem merge_len (l : List Rg) : (merge l).length ≤ l.length := by have := merge_len_aux l []; simpa [merge] using this
theorem foldl_take_succ {α β : Type} (f : β → α → β) (b : β) (l : List α) (k : Nat) (h : k < l.length) : (l.take (k + 1)).foldl f b = f ((l.take k).foldl f b) l[k] := by
  rw [List.take_succ_eq_append_getElem h, List.foldl_append]; rfl

/-! ### Insertion in order, as the reference does it -/
def ins (l : List Rg) (r : Rg) : List Rg := l.takeWhile (fun q => decide (q.1 < r.1)) ++ r :: l.dropWhile (fun q => decide (q.1 < r.1))
def insAll (l : List Rg) : List Rg := l.foldl (fun acc r => if r.1 = r.2 then acc else ins acc r) []
def tidy (l : List Rg) : List Rg := merge (insAll l)
theorem ins_perm (l : List Rg) (r : Rg) : (ins l r).Perm (r :: l) := by
  unfold ins
  refine List.perm_middle.trans (List.Perm.cons r ?_)
  rw [List.takeWhile_append_dropWhile]
theorem dropWhile_head {l : List Rg} {p : Rg → Bool} {q : Rg} {m : List Rg} (h : l.dropWhile p = q :: m) : p q = false := by
  induction l with
  | nil => simp at h
  | cons a l ih =>
    rw [List.dropWhile_cons] at h
    split at h
    · exact ih h
    · rename_i hp
      injection h with h1 h2
      subst h1
      simpa using hp
theorem takeWhile_all {p : Rg → Bool} : ∀ {l : List Rg} {q : Rg}, q ∈ l.takeWhile p → p q = true
  | [], _, h => by simp at h
  | a :: l, q, h => by
    rw [List.takeWhile_cons] at h
    split at h
    · rename_i hp
      rcases List.mem_cons.1 h with rfl | h
      · exact hp
      · exact takeWhile_all h
    · simp at h
theorem ins_sorted {l : List Rg} {r : Rg} (h : l.Pairwise (fun a b => a.1 ≤ b.1)) : (ins l r).Pairwise (fun a b => a.1 ≤ b.1) := by
  unfold ins
  have hl : l.takeWhile (fun q => decide (q.1 < r.1)) ++ l.dropWhile (fun q => decide (q.1 < r.1)) = l := List.takeWhile_append_dropWhile
  have h' := h
  rw [← hl, List.pairwise_append] at h'
  have h1 : ∀ q ∈ l.takeWhile (fun q => decide (q.1 < r.1)), q.1 < r.1 := fun q hq => by
    have := takeWhile_all hq
    simpa using this
  have h2 : ∀ q ∈ l.dropWhile (fun q => decide (q.1 < r.1)), r.1 ≤ q.1 := by
    cases hd : l.dropWhile (fun q => decide (q.1 < r.1)) with
    | nil => simp
    | cons q m =>
      have h3 := dropWhile_head hd
      have h4 : r.1 ≤ q.1 := by simpa using h3
      have h5 := h'.2.1
      rw [hd, List.pairwise_cons] at h5
      intro p hp
      rcases List.mem_cons.1 hp with rfl | hp
      · exact h4
      · have := h5.1 p hp; omega
  rw [List.pairwise_append, List.pairwise_cons]
  refine ⟨h'.1, ⟨h2, h'.2.1⟩, fun a ha b hb => ?_⟩
  have := h1 a ha
  rcases List.mem_cons.1 hb with rfl | hb
  · omega
  · have := h2 b hb; omega
theorem insAll_aux {lo : Int} : ∀ (l acc : List Rg), (∀ r ∈ l, lo < r.1 ∧ r.1 ≤ r.2) → (∀ r ∈ acc, lo < r.1 ∧ r.1 ≤ r.2) → acc.Pairwise (fun a b => a.1 ≤ b.1) →
    (l.foldl (fun acc r => if r.1 = r.2 then acc else ins acc r) acc).Pairwise (fun a b => a.1 ≤ b.1) ∧ (∀ r ∈ l.foldl (fun acc r => if r.1 = r.2 then acc else ins acc r) acc, lo < r.1 ∧ r.1 ≤ r.2) ∧
      ∀ x, mem (l.foldl (fun acc r => if r.1 = r.2 then acc else ins acc r) acc) x = (mem acc x || mem l x)
  | [], acc, _, ha, hs => ⟨hs, ha, fun x => by simp [mem]⟩
  | r :: l, acc, hl, ha, hs => by
    have hr := hl r (by simp)
    have hl' : ∀ r ∈ l, lo < r.1 ∧ r.1 ≤ r.2 := fun s hs => hl s (List.mem_cons_of_mem _ hs)
    rw [List.foldl_cons]
    by_cases he : r.1 = r.2
    · rw [if_pos he]
      obtain ⟨a, b, c⟩ := insAll_aux l acc hl' ha hs
      refine ⟨a, b, fun x => ?_⟩
      rw [c, mem_cons]
      have : (decide (r.1 ≤ x) && decide (x < r.2)) = false := by
        rw [Bool.and_eq_false_iff]
        by_cases hx : r.1 ≤ x
        · right; simp; omega
        · left; simp; omega
      rw [this, Bool.false_or]
    · rw [if_neg he]
      obtain ⟨a, b, c⟩ := insAll_aux l (ins acc r) hl' (fun s hs => by
        rcases List.mem_cons.1 ((ins_perm acc r).mem_iff.1 hs) with rfl | hs
        · exact hr
        · exact ha s hs) (ins_sorted hs)
      refine ⟨a, b, fun x => ?_⟩
      rw [c, mem_perm (ins_perm acc r), mem_cons, mem_cons]
      cases mem acc x <;> cases (decide (r.1 ≤ x) && decide (x < r.2)) <;> cases mem l x <;> rfl
theorem tidy_ok {lo : Int} {l : List Rg} (h : ∀ r ∈ l, lo < r.1 ∧ r.1 ≤ r.2) : Canon lo (tidy l) ∧ ∀ x, mem (tidy l) x = mem l x := by
  obtain ⟨a, b, c⟩ := insAll_aux l [] h (by simp) List.Pairwise.nil
  obtain ⟨d, e⟩ := merge_ok (l := insAll l) b a
  exact ⟨d, fun x => by rw [tidy, e]; show mem (insAll l) x = _; rw [insAll, c, mem_nil, Bool.false_or]⟩
/-- Whatever order the ranges are sorted in, merging gives what the reference gives. -/
theorem merge_tidy {lo : Int} {l s : List Rg} (h : ∀ r ∈ l, lo < r.1 ∧ r.1 ≤ r.2) (hp : s.Perm l) (hs : s.Pairwise (fun a b => a.1 ≤ b.1)) : merge s = tidy l := by
  obtain ⟨a, b⟩ := tidy_ok h
  obtain ⟨c, d⟩ := merge_ok (l := s) (fun r hr => h r (hp.mem_iff.1 hr)) hs
  exact canon_unique c a fun x => by rw [b, d, mem_perm hp]
end G
end Go.Proofs.YtgjoldjfeobjgaaDoor
