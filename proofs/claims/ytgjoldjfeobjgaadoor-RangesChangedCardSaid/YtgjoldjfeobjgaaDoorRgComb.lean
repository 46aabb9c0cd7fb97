/-
  PLAIN: two sets combined: the sweep of the program, the cuts of the reference; nothing of the program.
-/
import Derived.Test.YtgjoldjfeobjgaaDoorRgPlain
namespace Go.Proofs.YtgjoldjfeobjgaaDoor
namespace G
/-- The ends of ranges, one behind the other. -/
def ends : List Rg → List Int
  | [] => []
  | r :: l => r.1 :: r.2 :: ends l
theorem ends_len : ∀ l : List Rg, (ends l).length = 2 * l.length
  | [] => rfl
  | r :: l => by simp [ends, ends_len l]; omega
theorem ends_even : ∀ (l : List Rg) (k : Nat), (ends l)[2 * k]? = l[k]?.map (·.1)
  | [], k => by simp [ends]
  | r :: l, 0 => by simp [ends]
  | r :: l, k + 1 => by
    rw [show 2 * (k + 1) = 2 * k + 1 + 1 by omega]
    simp [ends, ends_even l k]
theorem ends_odd : ∀ (l : List Rg) (k : Nat), (ends l)[2 * k + 1]? = l[k]?.map (·.2)
  | [], k => by simp [ends]
  | r :: l, 0 => by simp [ends]
  | r :: l, k + 1 => by
    rw [show 2 * (k + 1) + 1 = (2 * k + 1) + 1 + 1 by omega]
    simp [ends, ends_odd l k]
theorem mem_ends : ∀ {l : List Rg} {e : Int}, e ∈ ends l ↔ ∃ r ∈ l, e = r.1 ∨ e = r.2
  | [], e => by simp [ends]
  | r :: l, e => by simp [ends, mem_ends (l := l), or_assoc]
/-- Do an odd number of ends lie at or before a position? -/
def par (e : List Int) (x : Int) : Bool := e.foldr (fun a p => decide (a ≤ x) ^^ p) false
theorem par_nil (x : Int) : par [] x = false := rfl
theorem par_cons (a : Int) (e : List Int) (x : Int) : par (a :: e) x = (decide (a ≤ x) ^^ par e x) := rfl
theorem par_none {e : List Int} {x : Int} (h : ∀ a ∈ e, x < a) : par e x = false := by
  induction e with
  | nil => rfl
  | cons a e ih =>
    rw [par_cons, ih (fun b hb => h b (List.mem_cons_of_mem _ hb))]
    have := h a (by simp)
    simp; omega
theorem par_congr {e : List Int} {x y : Int} (h : ∀ a ∈ e, (a ≤ x ↔ a ≤ y)) : par e x = par e y := by
  induction e with
  | nil => rfl
  | cons a e ih =>
    rw [par_cons, par_cons, ih (fun b hb => h b (List.mem_cons_of_mem _ hb))]
    congr 1
    rw [decide_eq_decide]
    exact h a (by simp)
theorem canon_ends : ∀ {l : List Rg} {lo : Int}, Canon lo l → (ends l).Pairwise (· < ·) ∧ ∀ e ∈ ends l, lo < e
  | [], _, _ => ⟨List.Pairwise.nil, by simp [ends]⟩
  | r :: l, lo, h => by
    obtain ⟨h1, h2⟩ := canon_ends h.2.2
    have a := h.1
    have b := h.2.1
    refine ⟨?_, ?_⟩
    · simp only [ends, List.pairwise_cons]
      refine ⟨fun e he => ?_, fun e he => h2 e he, h1⟩
      rcases List.mem_cons.1 he with rfl | he
      · exact b
      · have := h2 e he; omega
    · intro e he
      simp only [ends, List.mem_cons] at he
      rcases he with rfl | rfl | he
      · exact a
      · omega
      · have := h2 e he; omega
theorem par_ends : ∀ {l : List Rg} {lo : Int}, Canon lo l → ∀ x, par (ends l) x = mem l x
  | [], _, _, _ => rfl
  | r :: l, lo, h, x => by
    rw [ends, par_cons, par_cons, par_ends h.2.2 x, mem_cons]
    have b := h.2.1
    by_cases h2 : r.2 ≤ x
    · rw [decide_eq_true h2, decide_eq_true (show r.1 ≤ x by omega), decide_eq_false (show ¬ x < r.2 by omega)]; simp
    · rw [decide_eq_false h2, h.2.2.not_mem (show x ≤ r.2 by omega), decide_eq_true (show x < r.2 by omega)]; simp

/-! ### The sweep -/
def INF : Int := 1099511627777
/-- The last range's end set. -/
def setTo (l : List Rg) (x : Int) : List Rg := match l.getLast? with
  | some q => l.dropLast ++ [(q.1, x)]
  | none => l
theorem setTo_snoc (l : List Rg) (q : Rg) (x : Int) : setTo (l ++ [q]) x = l ++ [(q.1, x)] := by simp [setTo]
def cstep (now ins : Bool) (acc : List Rg) (at_ : Int) : List Rg := if now && !ins then acc ++ [(at_, 0)] else if ins && !now then setTo acc at_ else acc
def comb (k : Bool → Bool → Bool) (E F : List Int) : Nat → Nat → Nat → Bool → List Rg → List Rg
  | 0, _, _, _, acc => acc
  | f + 1, i, j, ins, acc =>
    if i < E.length ∨ j < F.length then
      let at_ := min (E.getD i INF) (F.getD j INF)
      let i' := if E.getD i INF = at_ then i + 1 else i
      let j' := if F.getD j INF = at_ then j + 1 else j
      let now := k (i' % 2 == 1) (j' % 2 == 1)
      comb k E F f i' j' now (cstep now ins acc at_)
    else acc
def combine (k : Bool → Bool → Bool) (a b : List Rg) : List Rg := comb k (ends a) (ends b) (2 * a.length + 2 * b.length) 0 0 false []

/-- What is said of the ranges so far at a position up to which all ends are done. -/
def Inv (lo : Int) (ins : Bool) (acc : List Rg) (cur : Int) : Prop :=
  if ins then ∃ m f t, acc = m ++ [(f, t)] ∧ Canon lo m ∧ (∀ q ∈ m, q.2 < f) ∧ lo < f ∧ f ≤ cur else Canon lo acc ∧ ∀ q ∈ acc, q.2 ≤ cur
def sofar (ins : Bool) (acc : List Rg) (x : Int) : Bool := if ins then mem acc.dropLast x || decide (((acc.getLast?).getD (0, 0)).1 ≤ x) else mem acc x
theorem mem_past {l : List Rg} {cur x : Int} (h : ∀ q ∈ l, q.2 ≤ cur) (hx : cur ≤ x) : mem l x = false := by
  cases hm : mem l x with
  | false => rfl
  | true =>
    obtain ⟨r, hr, h1, h2⟩ := mem_iff.1 hm
    have := h r hr; omega
theorem step_inv {lo cur at_ : Int} {ins now : Bool} {acc : List Rg} (h : Inv lo ins acc cur) (hlt : cur < at_) (hlo : lo < at_) :
    Inv lo now (cstep now ins acc at_) at_ ∧ ∀ x, x < at_ → sofar now (cstep now ins acc at_) x = if x < cur then sofar ins acc x else ins := by
  cases ins with
  | false =>
    obtain ⟨hc, hq⟩ := (show Canon lo acc ∧ ∀ q ∈ acc, q.2 ≤ cur from h)
    cases now with
    | false =>
      refine ⟨⟨hc, fun q h => by have := hq q h; omega⟩, fun x hx => ?_⟩
      show mem acc x = _
      split
      · rfl
      · exact mem_past hq (by omega)
    | true =>
      refine ⟨⟨acc, at_, 0, rfl, hc, fun q h => by have := hq q h; omega, hlo, Int.le_refl _⟩, fun x hx => ?_⟩
      have e : cstep true false acc at_ = acc ++ [(at_, 0)] := rfl
      rw [e]
      simp only [sofar, List.dropLast_concat, List.getLast?_append, List.getLast?_singleton, Option.some_or, Option.getD_some, if_true]
      rw [decide_eq_false (show ¬ at_ ≤ x by omega), Bool.or_false]
      split
      · rfl
      · exact mem_past hq (by omega)
  | true =>
    obtain ⟨m, f, t, rfl, hc, hq, hf, hfc⟩ := (show ∃ m f t, acc = m ++ [(f, t)] ∧ Canon lo m ∧ (∀ q ∈ m, q.2 < f) ∧ lo < f ∧ f ≤ cur from h)
    cases now with
    | false =>
      have e : cstep false true (m ++ [(f, t)]) at_ = m ++ [(f, at_)] := setTo_snoc _ _ _
      rw [e]
      refine ⟨⟨hc.append hq hf (by show f < at_; omega), fun q h => ?_⟩, fun x hx => ?_⟩
      · rcases List.mem_append.1 h with h | h
        · have := hq q h; omega
        · rw [List.mem_singleton.1 h]; exact Int.le_refl _
      · show mem (m ++ [(f, at_)]) x = _
        rw [mem_append, mem_one]
        simp only [sofar, List.dropLast_concat, List.getLast?_append, List.getLast?_singleton, Option.some_or, Option.getD_some, if_true]
        rw [decide_eq_true hx, Bool.and_true]
        split
        · rfl
        · rw [decide_eq_true (show f ≤ x by omega), Bool.or_true]
    | true =>
      refine ⟨⟨m, f, t, rfl, hc, hq, hf, by omega⟩, fun x hx => ?_⟩
      show sofar true (m ++ [(f, t)]) x = _
      split
      · rfl
      · simp only [sofar, List.dropLast_concat, List.getLast?_append, List.getLast?_singleton, Option.some_or, Option.getD_some, if_true]
        rw [decide_eq_true (show f ≤ x by omega), Bool.or_true]
theorem getD_drop {E : List Int} {i : Nat} (h : i < E.length) : E.drop i = E.getD i INF :: E.drop (i + 1) := by
  rw [List.drop_eq_getElem_cons h]; simp [List.getD_eq_getElem?_getD, h]
theorem sorted_drop {E : List Int} (hs : E.Pairwise (· < ·)) (i : Nat) : (E.drop i).Pairwise (· < ·) := hs.sublist (List.drop_sublist i E)
/-- The next end of a list at hand, or none: what popping it does to the parity behind it. -/
theorem pop_par {E : List Int} (hs : E.Pairwise (· < ·)) {i : Nat} {at_ : Int} (hle : at_ ≤ E.getD i INF) (hi : i ≤ E.length) (hinf : at_ < INF) :
    let i' := if E.getD i INF = at_ then i + 1 else i
    (∀ x, at_ ≤ x → (((i % 2 == 1) ^^ par (E.drop i) x) = ((i' % 2 == 1) ^^ par (E.drop i') x))) ∧ (∀ a ∈ E.drop i, at_ ≤ a) ∧ (∀ a ∈ E.drop i', at_ < a) ∧ i' ≤ E.length ∧ i ≤ i' := by
  intro i'
  by_cases hl : i < E.length
  · have hd := getD_drop hl
    have hp := sorted_drop hs i
    rw [hd, List.pairwise_cons] at hp
    by_cases he : E.getD i INF = at_
    · have e' : i' = i + 1 := if_pos he
      rw [e', hd, he]
      rw [he] at hp
      refine ⟨fun x hx => ?_, fun a ha => ?_, fun a ha => hp.1 a ha, by omega, by omega⟩
      · rw [par_cons, decide_eq_true hx]
        have : ((i + 1) % 2 == 1) = !(i % 2 == 1) := by
          rcases Nat.mod_two_eq_zero_or_one i with h | h
          · rw [show (i + 1) % 2 = 1 by omega, h]; rfl
          · rw [show (i + 1) % 2 = 0 by omega, h]; rfl
        rw [this]
        cases (i % 2 == 1) <;> cases par (E.drop (i + 1)) x <;> rfl
      · rcases List.mem_cons.1 ha with rfl | ha
        · exact Int.le_refl _
        · have := hp.1 a ha; omega
    · have e' : i' = i := if_neg he
      rw [e']
      refine ⟨fun x _ => rfl, fun a ha => ?_, fun a ha => ?_, hi, Nat.le_refl _⟩
      all_goals
        rw [hd] at ha
        rcases List.mem_cons.1 ha with rfl | ha
        · omega
        · have := hp.1 a ha; omega
  · have hn : E.getD i INF = INF := by
      rw [List.getD_eq_getElem?_getD, List.getElem?_eq_none (by omega)]; rfl
    have e' : i' = i := if_neg (by rw [hn]; omega)
    rw [e', List.drop_of_length_le (show E.length ≤ i by omega)]
    exact ⟨fun _ _ => rfl, by simp, by simp, hi, Nat.le_refl _⟩
theorem getD_mem {E : List Int} {i : Nat} (h : i < E.length) : E.getD i INF ∈ E.drop i := by rw [getD_drop h]; simp
theorem comb_ok {k : Bool → Bool → Bool} (hk : k false false = false) {E F : List Int} (hE : E.Pairwise (· < ·)) (hF : F.Pairwise (· < ·)) (eE : E.length % 2 = 0) (eF : F.length % 2 = 0)
    (bE : ∀ e ∈ E, e < INF) (bF : ∀ e ∈ F, e < INF) {lo : Int} : ∀ (n i j : Nat) (cur : Int) (acc : List Rg), E.length - i + (F.length - j) ≤ n → i ≤ E.length → j ≤ F.length → lo ≤ cur → (∀ a ∈ E.drop i, cur < a) → (∀ a ∈ F.drop j, cur < a) →
      Inv lo (k (i % 2 == 1) (j % 2 == 1)) acc cur →
      Canon lo (comb k E F n i j (k (i % 2 == 1) (j % 2 == 1)) acc) ∧ ∀ x, mem (comb k E F n i j (k (i % 2 == 1) (j % 2 == 1)) acc) x = if x < cur then sofar (k (i % 2 == 1) (j % 2 == 1)) acc x else k ((i % 2 == 1) ^^ par (E.drop i) x) ((j % 2 == 1) ^^ par (F.drop j) x) := by
  have base : ∀ (i j : Nat) (cur : Int) (acc : List Rg), ¬ (i < E.length ∨ j < F.length) → i ≤ E.length → j ≤ F.length → Inv lo (k (i % 2 == 1) (j % 2 == 1)) acc cur →
      Canon lo acc ∧ ∀ x, mem acc x = if x < cur then sofar (k (i % 2 == 1) (j % 2 == 1)) acc x else k ((i % 2 == 1) ^^ par (E.drop i) x) ((j % 2 == 1) ^^ par (F.drop j) x) := by
    intro i j cur acc hne hi hj hinv
    obtain rfl : i = E.length := by omega
    obtain rfl : j = F.length := by omega
    rw [eE, eF] at hinv ⊢
    simp only [show ((0 : Nat) == 1) = false from rfl, hk] at hinv ⊢
    obtain ⟨hc, hq⟩ := (show Canon lo acc ∧ ∀ q ∈ acc, q.2 ≤ cur from hinv)
    refine ⟨hc, fun x => ?_⟩
    rw [List.drop_length, List.drop_length, par_nil, Bool.xor_false, hk]
    split
    · rfl
    · exact mem_past hq (by omega)
  intro n
  induction n with
  | zero =>
    intro i j cur acc hn hi hj _ _ _ hinv
    exact base i j cur acc (by omega) hi hj hinv
  | succ n ih =>
    intro i j cur acc hn hi hj hlo hcE hcF hinv
    rw [comb]
    by_cases hne : i < E.length ∨ j < F.length
    · rw [if_pos hne]
      obtain ⟨at_, hat⟩ : ∃ y, min (E.getD i INF) (F.getD j INF) = y := ⟨_, rfl⟩
      simp only [hat]
      have h1 : at_ ≤ E.getD i INF := by omega
      have h2 : at_ ≤ F.getD j INF := by omega
      have hinf : at_ < INF := by
        rcases hne with h | h
        · have := bE _ (List.mem_of_mem_drop (getD_mem h)); omega
        · have := bF _ (List.mem_of_mem_drop (getD_mem h)); omega
      have hEi : at_ = E.getD i INF → i < E.length := fun h => by
        rcases Nat.lt_or_ge i E.length with h' | h'
        · exact h'
        · rw [List.getD_eq_getElem?_getD, List.getElem?_eq_none h'] at h
          simp at h; omega
      have hFj : at_ = F.getD j INF → j < F.length := fun h => by
        rcases Nat.lt_or_ge j F.length with h' | h'
        · exact h'
        · rw [List.getD_eq_getElem?_getD, List.getElem?_eq_none h'] at h
          simp at h; omega
      have hcur : cur < at_ := by
        rcases (show at_ = E.getD i INF ∨ at_ = F.getD j INF by omega) with h | h
        · rw [h]; exact hcE _ (getD_mem (hEi h))
        · rw [h]; exact hcF _ (getD_mem (hFj h))
      obtain ⟨pE, aE, gE, lE, sE⟩ := pop_par hE h1 hi hinf
      obtain ⟨pF, aF, gF, lF, sF⟩ := pop_par hF h2 hj hinf
      have hdec : E.length - (if E.getD i INF = at_ then i + 1 else i) + (F.length - (if F.getD j INF = at_ then j + 1 else j)) ≤ n := by
        rcases (show at_ = E.getD i INF ∨ at_ = F.getD j INF by omega) with h | h
        · have := hEi h
          rw [if_pos h.symm]
          split <;> omega
        · have := hFj h
          rw [if_pos h.symm]
          split <;> omega
      generalize (if E.getD i INF = at_ then i + 1 else i) = i' at pE gE lE sE hdec ⊢
      generalize (if F.getD j INF = at_ then j + 1 else j) = j' at pF gF lF sF hdec ⊢
      obtain ⟨s1, s2⟩ := step_inv (now := k (i' % 2 == 1) (j' % 2 == 1)) hinv hcur (by omega)
      obtain ⟨c1, c2⟩ := ih i' j' at_ _ hdec lE lF (by omega) gE gF s1
      refine ⟨c1, fun x => ?_⟩
      rw [c2 x]
      by_cases hx : x < at_
      · rw [if_pos hx, s2 x hx]
        split
        · rfl
        · rw [par_none (fun a ha => by have := aE a ha; omega), par_none (fun a ha => by have := aF a ha; omega), Bool.xor_false, Bool.xor_false]
      · rw [if_neg hx, if_neg (by omega), pE x (by omega), pF x (by omega)]
    · rw [if_neg hne]
      exact base i j cur acc hne hi hj hinv
/-- A set within 0 .. 2^40. -/
def Set_ (l : List Rg) : Prop := Canon (-1) l ∧ ∀ r ∈ l, r.2 < INF
theorem Set_.ends_lt {l : List Rg} (h : Set_ l) : ∀ e ∈ ends l, e < INF := by
  intro e he
  obtain ⟨r, hr, h1⟩ := mem_ends.1 he
  have h2 := h.2 r hr
  have := h.1.from_gt r hr
  rcases h1 with rfl | rfl <;> omega
theorem combine_ok {k : Bool → Bool → Bool} (hk : k false false = false) {a b : List Rg} (ha : Set_ a) (hb : Set_ b) : Set_ (combine k a b) ∧ ∀ x, mem (combine k a b) x = k (mem a x) (mem b x) := by
  have ea := canon_ends ha.1
  have eb := canon_ends hb.1
  obtain ⟨c1, c2⟩ := comb_ok hk ea.1 eb.1 (by rw [ends_len]; omega) (by rw [ends_len]; omega) ha.ends_lt hb.ends_lt (lo := -1) (2 * a.length + 2 * b.length) 0 0 (-1) [] (by rw [ends_len, ends_len]; omega) (by omega) (by omega) (by omega)
    (fun e he => ea.2 e he) (fun e he => eb.2 e he) (by show Inv (-1) (k false false) [] (-1); rw [hk]; exact ⟨trivial, by simp⟩)
  have e0 : k ((0 : Nat) % 2 == 1) ((0 : Nat) % 2 == 1) = false := hk
  rw [e0] at c1 c2
  have c3 : ∀ x, mem (combine k a b) x = k (mem a x) (mem b x) := fun x => by
    rw [combine, c2 x]
    by_cases hx : x < -1
    · rw [if_pos hx, ha.1.not_mem (by omega), hb.1.not_mem (by omega), hk]; rfl
    · rw [if_neg hx, List.drop_zero, List.drop_zero, par_ends ha.1, par_ends hb.1]
      simp
  refine ⟨⟨c1, fun r hr => ?_⟩, c3⟩
  have hr' := c1.from_gt r hr
  have hm : mem (combine k a b) (r.2 - 1) = true := mem_iff.2 ⟨r, hr, by omega, by omega⟩
  rw [c3] at hm
  have hab : mem a (r.2 - 1) = true ∨ mem b (r.2 - 1) = true := by
    cases h1 : mem a (r.2 - 1) <;> cases h2 : mem b (r.2 - 1) <;> simp_all
  rcases hab with h | h
  · obtain ⟨q, hq, h1, h2⟩ := mem_iff.1 h
    have h3 := ha.2 q hq
    rcases Int.lt_or_le r.2 INF with h4 | h4
    · exact h4
    · omega
  · obtain ⟨q, hq, h1, h2⟩ := mem_iff.1 h
    have h3 := hb.2 q hq
    rcases Int.lt_or_le r.2 INF with h4 | h4
    · exact h4
    · omega
theorem setTo_len (l : List Rg) (x : Int) : (setTo l x).length = l.length := by
  rcases snoc_cases l with rfl | ⟨m, q, rfl⟩
  · rfl
  · rw [setTo_snoc]; simp
theorem cstep_len (now ins : Bool) (acc : List Rg) (x : Int) : (cstep now ins acc x).length ≤ acc.length + 1 := by
  unfold cstep
  split
  · simp
  · split
    · rw [setTo_len]; omega
    · omega
theorem comb_len (k : Bool → Bool → Bool) (E F : List Int) : ∀ (n i j : Nat) (ins : Bool) (acc : List Rg), (comb k E F n i j ins acc).length ≤ acc.length + n
  | 0, _, _, _, _ => Nat.le_refl _
  | n + 1, i, j, ins, acc => by
    rw [comb]
    split
    · refine Nat.le_trans (comb_len k E F n _ _ _ _) ?_
      have := cstep_len (k ((if E.getD i INF = min (E.getD i INF) (F.getD j INF) then i + 1 else i) % 2 == 1) ((if F.getD j INF = min (E.getD i INF) (F.getD j INF) then j + 1 else j) % 2 == 1)) ins acc (min (E.getD i INF) (F.getD j INF))
      omega
    · omega
theorem combine_len (k : Bool → Bool → Bool) (a b : List Rg) : (combine k a b).length ≤ 2 * a.length + 2 * b.length := by have := comb_len k (ends a) (ends b) (2 * a.length + 2 * b.length) 0 0 false []; simpa [combine] using this

/-! ### The cuts -/
def insI (l : List Int) (n : Int) : List Int := l.takeWhile (fun q => decide (q < n)) ++ (if (l.dropWhile (fun q => decide (q < n))).head? = some n then l.dropWhile (fun q => decide (q < n)) else n :: l.dropWhile (fun q => decide (q < n)))
theorem takeWhile_allI {p : Int → Bool} : ∀ {l : List Int} {q : Int}, q ∈ l.takeWhile p → p q = true
  | [], _, h => by simp at h
  | a :: l, q, h => by
    rw [List.takeWhile_cons] at h
    split at h
    · rename_i hp
      rcases List.mem_cons.1 h with rfl | h
      · exact hp
      · exact takeWhile_allI h
    · simp at h
theorem dropWhile_headI {l : List Int} {p : Int → Bool} {q : Int} {m : List Int} (h : l.dropWhile p = q :: m) : p q = false := by
  induction l with
  | nil => simp at h
  | cons a l ih =>
    rw [List.dropWhile_cons] at h
    split at h
    · exact ih h
    · rename_i hp
      injection h with h1 h2
      subst h1
      simpa using hp
theorem insI_ok {l : List Int} {n : Int} (h : l.Pairwise (· < ·)) : (insI l n).Pairwise (· < ·) ∧ ∀ x, x ∈ insI l n ↔ x = n ∨ x ∈ l := by
  have hl : l.takeWhile (fun q => decide (q < n)) ++ l.dropWhile (fun q => decide (q < n)) = l := List.takeWhile_append_dropWhile
  have h1 : ∀ q ∈ l.takeWhile (fun q => decide (q < n)), q < n := fun q hq => by simpa using takeWhile_allI hq
  have h' := h
  rw [← hl, List.pairwise_append] at h'
  have hmem : ∀ x, x ∈ l ↔ x ∈ l.takeWhile (fun q => decide (q < n)) ∨ x ∈ l.dropWhile (fun q => decide (q < n)) := fun x => by
    conv => lhs; rw [← hl]
    exact List.mem_append
  unfold insI
  cases hd : l.dropWhile (fun q => decide (q < n)) with
  | nil =>
    rw [hd] at hmem
    refine ⟨?_, fun x => ?_⟩
    · rw [if_neg (by simp), List.pairwise_append]
      exact ⟨h'.1, by simp, fun a ha b hb => by rw [List.mem_singleton.1 hb]; exact h1 a ha⟩
    · rw [if_neg (by simp), List.mem_append, List.mem_singleton, hmem]; simp [or_comm]
  | cons q m =>
    rw [hd] at hmem h'
    have hq : n ≤ q := by simpa using dropWhile_headI hd
    have hm := (List.pairwise_cons.1 h'.2.1).1
    by_cases he : q = n
    · subst he
      rw [if_pos (by simp), ← hd, hl]
      exact ⟨h, fun x => ⟨fun hx => .inr hx, fun hx => hx.elim (fun e => by rw [e, hmem]; simp) id⟩⟩
    · rw [if_neg (by simpa using he), List.pairwise_append, List.pairwise_cons]
      refine ⟨⟨h'.1, ⟨fun b hb => ?_, h'.2.1⟩, fun a ha b hb => ?_⟩, fun x => ?_⟩
      · rcases List.mem_cons.1 hb with rfl | hb
        · omega
        · have := hm b hb; omega
      · have := h1 a ha
        rcases List.mem_cons.1 hb with rfl | hb
        · exact this
        · rcases List.mem_cons.1 hb with rfl | hb
          · omega
          · have := hm b hb; omega
      · rw [List.mem_append, List.mem_cons, hmem]
        constructor
        · rintro (h | h | h)
          · exact .inr (.inl h)
          · exact .inl h
          · exact .inr (.inr h)
        · rintro (h | h | h)
          · exact .inr (.inl h)
          · exact .inl h
          · exact .inr (.inr h)
theorem insI_len (l : List Int) (n : Int) : (insI l n).length ≤ l.length + 1 := by
  have h : (l.takeWhile (fun q => decide (q < n))).length + (l.dropWhile (fun q => decide (q < n))).length = l.length := by
    rw [← List.length_append, List.takeWhile_append_dropWhile]
  unfold insI
  split <;> simp <;> omega
def cut1 (acc : List Int) (r : Rg) : List Int := insI (insI acc r.1) r.2
def cuts (a b : List Rg) : List Int := b.foldl cut1 (a.foldl cut1 [])
theorem cut_fold : ∀ (l : List Rg) (acc : List Int), acc.Pairwise (· < ·) → (l.foldl cut1 acc).Pairwise (· < ·) ∧ ∀ x, x ∈ l.foldl cut1 acc ↔ x ∈ acc ∨ x ∈ ends l
  | [], acc, h => ⟨h, fun x => by simp [ends]⟩
  | r :: l, acc, h => by
    obtain ⟨a, b⟩ := insI_ok (n := r.1) h
    obtain ⟨c, d⟩ := insI_ok (n := r.2) a
    obtain ⟨e, f⟩ := cut_fold l (cut1 acc r) c
    refine ⟨e, fun x => ?_⟩
    rw [List.foldl_cons, f x]
    show x ∈ insI (insI acc r.1) r.2 ∨ _ ↔ _
    rw [d, b, ends, List.mem_cons, List.mem_cons]
    constructor
    · rintro ((h | h | h) | h)
      · exact .inr (.inr (.inl h))
      · exact .inr (.inl h)
      · exact .inl h
      · exact .inr (.inr (.inr h))
    · rintro (h | h | h | h)
      · exact .inl (.inr (.inr h))
      · exact .inl (.inr (.inl h))
      · exact .inl (.inl h)
      · exact .inr h
theorem cut1_len (acc : List Int) (r : Rg) : (cut1 acc r).length ≤ acc.length + 2 := by
  have := insI_len (insI acc r.1) r.2
  have := insI_len acc r.1
  unfold cut1; omega
theorem cuts_fold_len : ∀ (l : List Rg) (acc : List Int), (l.foldl cut1 acc).length ≤ acc.length + 2 * l.length
  | [], _ => by simp
  | r :: l, acc => by
    have := cuts_fold_len l (cut1 acc r)
    have := cut1_len acc r
    simp only [List.foldl_cons, List.length_cons]; omega
theorem cuts_len (a b : List Rg) : (cuts a b).length ≤ 2 * a.length + 2 * b.length := by
  have h1 := cuts_fold_len a []
  have h2 := cuts_fold_len b (a.foldl cut1 [])
  simp only [List.length_nil] at h1
  unfold cuts; omega
theorem cuts_ok (a b : List Rg) : (cuts a b).Pairwise (· < ·) ∧ ∀ x, x ∈ cuts a b ↔ x ∈ ends a ∨ x ∈ ends b := by
  obtain ⟨h1, h2⟩ := cut_fold a [] List.Pairwise.nil
  obtain ⟨h3, h4⟩ := cut_fold b _ h1
  exact ⟨h3, fun x => by rw [cuts, h4, h2]; simp⟩
/-- The pieces between neighbouring cuts of which K holds. -/
def pieces (K : Int → Bool) : List Int → List Rg
  | u :: v :: r => (if K u then [(u, v)] else []) ++ pieces K (v :: r)
  | _ => []
theorem pieces_snoc (K : Int → Bool) : ∀ (l : List Int) (u v : Int), pieces K (l ++ [u] ++ [v]) = pieces K (l ++ [u]) ++ (if K u then [(u, v)] else [])
  | [], u, v => by simp [pieces]
  | [x], u, v => by simp [pieces]
  | x :: y :: l, u, v => by
    have := pieces_snoc K (y :: l) u v
    simp only [List.cons_append] at this ⊢
    rw [pieces, pieces, this, List.append_assoc]
theorem pieces_len (K : Int → Bool) : ∀ l, (pieces K l).length ≤ l.length
  | [] => by simp [pieces]
  | [_] => by simp [pieces]
  | u :: v :: r => by
    have := pieces_len K (v :: r)
    rw [pieces, List.length_append]
    simp only [List.length_cons] at this ⊢
    split <;> simp <;> omega
theorem pieces_valid (K : Int → Bool) : ∀ {l : List Int} {lo : Int}, l.Pairwise (· < ·) → (∀ e ∈ l, lo < e) → ∀ r ∈ pieces K l, lo < r.1 ∧ r.1 ≤ r.2
  | [], _, _, _, r, h => by simp [pieces] at h
  | [_], _, _, _, r, h => by simp [pieces] at h
  | u :: v :: l, lo, hs, hl, r, h => by
    rw [pieces] at h
    have hs' := List.pairwise_cons.1 hs
    rcases List.mem_append.1 h with h | h
    · split at h
      · rw [List.mem_singleton.1 h]
        exact ⟨hl u (by simp), by have := hs'.1 v (by simp); show u ≤ v; omega⟩
      · simp at h
    · exact pieces_valid K hs'.2 (fun e he => hl e (List.mem_cons_of_mem _ he)) r h
theorem pieces_mem {K : Int → Bool} {X : List Int} (hK : ∀ x y, (∀ e ∈ X, (e ≤ x ↔ e ≤ y)) → K x = K y) : ∀ (c : List Int) (u : Int), (u :: c).Pairwise (· < ·) → (∀ e ∈ X, e ≤ u ∨ e ∈ c) →
    ∀ x, mem (pieces K (u :: c)) x = (decide (u ≤ x) && decide (x < c.getLastD u) && K x)
  | [], u, _, _, x => by
    have : (decide (u ≤ x) && decide (x < u)) = false := by
      rw [Bool.and_eq_false_iff]
      by_cases h : u ≤ x
      · right; simp; omega
      · left; simp; omega
    simp [pieces, mem_nil, this]
  | v :: c, u, hs, hX, x => by
    have hs' := List.pairwise_cons.1 hs
    have huv := hs'.1 v (by simp)
    have ih := pieces_mem hK c v hs'.2 (fun e he => by
      rcases hX e he with h | h
      · left; omega
      · rcases List.mem_cons.1 h with rfl | h
        · left; omega
        · exact .inr h) x
    have hlast : v ≤ c.getLastD v := by
      rcases snoc_cases c with rfl | ⟨m, q, rfl⟩
      · exact Int.le_refl _
      · have := (List.pairwise_cons.1 hs'.2).1 q (by simp)
        simp; omega
    have hgl : (v :: c).getLastD u = c.getLastD v := by
      cases c <;> rfl
    rw [pieces, mem_append, ih, hgl]
    by_cases h1 : x < v
    · have e1 : decide (v ≤ x) = false := by simp; omega
      have e2 : decide (x < c.getLastD v) = true := decide_eq_true (by omega)
      rw [e1, e2, Bool.false_and, Bool.false_and, Bool.or_false, Bool.and_true]
      by_cases h2 : u ≤ x
      · have e3 : K x = K u := hK x u (fun e he => by
          rcases hX e he with h | h
          · constructor <;> intro _ <;> omega
          · have : v ≤ e := by
              rcases List.mem_cons.1 h with rfl | h
              · exact Int.le_refl _
              · have := (List.pairwise_cons.1 hs'.2).1 e h; omega
            constructor <;> intro _ <;> omega)
        rw [e3]
        split
        · rename_i hk
          rw [mem_one, hk, decide_eq_true h1]
        · rename_i hk
          simp [mem_nil, hk]
      · rw [decide_eq_false h2, Bool.false_and]
        split
        · rw [mem_one, decide_eq_false h2]; rfl
        · rfl
    · have e1 : mem (if K u = true then [(u, v)] else []) x = false := by
        split
        · rw [mem_one, decide_eq_false h1, Bool.and_false]
        · rfl
      rw [e1, Bool.false_or, decide_eq_true (show v ≤ x by omega), decide_eq_true (show u ≤ x by omega)]
/-- A list of ends of even number: nothing is in before the first and behind the last. -/
theorem par_all : ∀ {e : List Int} {x : Int}, (∀ a ∈ e, a ≤ x) → par e x = (e.length % 2 == 1)
  | [], _, _ => rfl
  | a :: e, x, h => by
    rw [par_cons, par_all (fun b hb => h b (List.mem_cons_of_mem _ hb)), decide_eq_true (h a (by simp)), List.length_cons]
    rcases Nat.mod_two_eq_zero_or_one e.length with h' | h'
    · rw [show (e.length + 1) % 2 = 1 by omega, h']; rfl
    · rw [show (e.length + 1) % 2 = 0 by omega, h']; rfl
theorem cut_mem {k : Bool → Bool → Bool} (hk : k false false = false) {a b : List Rg} (ha : Set_ a) (hb : Set_ b) (x : Int) :
    mem (pieces (fun x => k (mem a x) (mem b x)) (cuts a b)) x = k (mem a x) (mem b x) := by
  obtain ⟨h1, h2⟩ := cuts_ok a b
  have hK : ∀ x y, (∀ e ∈ cuts a b, (e ≤ x ↔ e ≤ y)) → k (mem a x) (mem b x) = k (mem a y) (mem b y) := fun x y h => by
    rw [← par_ends ha.1, ← par_ends hb.1, ← par_ends ha.1, ← par_ends hb.1]
    rw [par_congr (fun e he => h e ((h2 e).2 (.inl he))), par_congr (fun e he => h e ((h2 e).2 (.inr he)))]
  have none_ : (∀ e ∈ cuts a b, x < e) → k (mem a x) (mem b x) = false := fun h => by
    rw [← par_ends ha.1, ← par_ends hb.1, par_none (fun e he => h e ((h2 e).2 (.inl he))), par_none (fun e he => h e ((h2 e).2 (.inr he))), hk]
  have all_ : (∀ e ∈ cuts a b, e ≤ x) → k (mem a x) (mem b x) = false := fun h => by
    rw [← par_ends ha.1, ← par_ends hb.1, par_all (fun e he => h e ((h2 e).2 (.inl he))), par_all (fun e he => h e ((h2 e).2 (.inr he))), ends_len, ends_len,
      show (2 * a.length) % 2 = 0 by omega, show (2 * b.length) % 2 = 0 by omega]
    exact hk
  cases hc : cuts a b with
  | nil =>
    rw [hc] at none_
    rw [none_ (by simp)]; rfl
  | cons u c =>
    rw [hc] at h1 hK none_ all_
    rw [pieces_mem (X := u :: c) hK c u h1 (fun e he => by
      rcases List.mem_cons.1 he with rfl | h
      · exact .inl (Int.le_refl _)
      · exact .inr h)]
    have h1' := List.pairwise_cons.1 h1
    by_cases hx : u ≤ x
    · rw [decide_eq_true hx, Bool.true_and]
      by_cases hy : x < c.getLastD u
      · rw [decide_eq_true hy, Bool.true_and]
      · rw [decide_eq_false hy, Bool.false_and, all_]
        intro e he
        rcases snoc_cases c with rfl | ⟨m, q, rfl⟩
        · rw [List.mem_singleton.1 he]; exact hx
        · have hq : q ≤ x := by simp at hy; omega
          rcases List.mem_cons.1 he with rfl | he
          · exact hx
          · rcases List.mem_append.1 he with h | h
            · have := (List.pairwise_append.1 h1'.2).2.2 e h q (by simp); omega
            · rw [List.mem_singleton.1 h]; exact hq
    · rw [decide_eq_false hx, Bool.false_and, Bool.false_and, none_]
      intro e he
      rcases List.mem_cons.1 he with rfl | h
      · omega
      · have := h1'.1 e h; omega
/-- The reference's set. -/
def refComb (k : Bool → Bool → Bool) (a b : List Rg) : List Rg := tidy (pieces (fun x => k (mem a x) (mem b x)) (cuts a b))
theorem combine_ref {k : Bool → Bool → Bool} (hk : k false false = false) {a b : List Rg} (ha : Set_ a) (hb : Set_ b) : combine k a b = refComb k a b := by
  obtain ⟨c1, c2⟩ := combine_ok hk ha hb
  obtain ⟨h1, h2⟩ := cuts_ok a b
  obtain ⟨t1, t2⟩ := tidy_ok (lo := -1) (pieces_valid (fun x => k (mem a x) (mem b x)) h1 (fun e he => by
    rcases (h2 e).1 he with h | h
    · exact (canon_ends ha.1).2 e h
    · exact (canon_ends hb.1).2 e h))
  exact canon_unique c1.1 t1 fun x => by rw [c2, refComb, t2, cut_mem hk ha hb]
end G
end Go.Proofs.YtgjoldjfeobjgaaDoor
