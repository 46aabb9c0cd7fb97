/-
  PLAIN: Within, Parent, Root and Join, on the texts of ordinals.
-/
import Derived.Test.YtjgofoliikflaaaDoorNames
import Derived.Test.YtjgofoliikflaaaDoorPrefix
import Derived.Test.YtjgofoliikflaaaDoorWords
import Derived.Lib.Strings
import Derived.Lib.LastIndexByte
import Derived.Lib.Join
import Derived.Lib.IndexMore
namespace Go.Proofs.YtjgofoliikflaaaDoor
namespace L

theorem text_append : ∀ (a b : List Nat), a ≠ [] → b ≠ [] → text (a ++ b) = text a ++ 46 :: text b
  | [], _, h, _ => absurd rfl h
  | [x], b, _, hb => by rw [List.singleton_append, text_cons x hb]; rfl
  | x :: y :: a, b, _, hb => by
    have ih := text_append (y :: a) b (by simp) hb
    rw [List.cons_append, text_cons x (by simp), ih, text_cons x (by simp)]
    simp
theorem split_digits : ∀ (d1 d2 r1 r2 : List UInt8), (∀ c ∈ d1, dig c = true) → (∀ c ∈ d2, dig c = true) → (∀ c, r1[0]? = some c → dig c = false) → (∀ c, r2[0]? = some c → dig c = false) → d1 ++ r1 = d2 ++ r2 → d1 = d2 ∧ r1 = r2
  | [], [], _, _, _, _, _, _, h => ⟨rfl, h⟩
  | [], c :: d2, r1, r2, _, h2, h3, _, h => by
    simp only [List.nil_append, List.cons_append] at h
    have := h3 c (by rw [h]; rfl)
    rw [h2 c (by simp)] at this; cases this
  | c :: d1, [], r1, r2, h1, _, _, h4, h => by
    simp only [List.nil_append, List.cons_append] at h
    have := h4 c (by rw [← h]; rfl)
    rw [h1 c (by simp)] at this; cases this
  | c :: d1, c' :: d2, r1, r2, h1, h2, h3, h4, h => by
    simp only [List.cons_append, List.cons.injEq] at h
    obtain ⟨rfl, h⟩ := h
    obtain ⟨rfl, e⟩ := split_digits d1 d2 r1 r2 (fun x hx => h1 x (by simp [hx])) (fun x hx => h2 x (by simp [hx])) h3 h4 h
    exact ⟨rfl, e⟩
theorem decDigits_inj {a b : Nat} (h : Lib.decDigits a = Lib.decDigits b) : a = b := by rw [← decDigits_val a, h, decDigits_val]
theorem dot_head (r : List UInt8) : ∀ c, (46 :: r : List UInt8)[0]? = some c → dig c = false := by
  intro c h; simp at h; rw [← h]; exact dot_dig
theorem text_below : ∀ (a n : List Nat) (r : List UInt8), a ≠ [] → text n = text a ++ 46 :: r → a <+: n ∧ a ≠ n
  | [], _, _, h, _ => absurd rfl h
  | [x], [], r, _, h => by simp [text] at h
  | x :: y :: a, [], r, _, h => by rw [text_cons x (by simp)] at h; simp [text] at h
  | [x], m :: n, r, _, h => by
    rw [text_tail m n] at h
    obtain ⟨h1, h2⟩ := split_digits _ (Lib.decDigits x) _ (46 :: r) (decDigits_dig m) (decDigits_dig x) (tail_head n) (dot_head r) h
    obtain rfl := decDigits_inj h1
    refine ⟨⟨n, rfl⟩, ?_⟩
    rintro e
    simp only [List.cons.injEq, true_and] at e
    rw [← e] at h2
    simp [tail] at h2
  | x :: y :: a, m :: n, r, _, h => by
    rw [text_tail m n, text_cons x (by simp), List.append_assoc, List.cons_append] at h
    obtain ⟨h1, h2⟩ := split_digits _ (Lib.decDigits x) _ (46 :: (text (y :: a) ++ 46 :: r)) (decDigits_dig m) (decDigits_dig x) (tail_head n) (dot_head _) h
    obtain rfl := decDigits_inj h1
    cases n with
    | nil => simp [tail] at h2
    | cons k n =>
      simp only [tail, List.cons.injEq, true_and] at h2
      obtain ⟨h3, h4⟩ := text_below (y :: a) (k :: n) r (by simp) h2
      exact ⟨(List.prefix_cons_inj m).2 h3, by simpa using h4⟩
/-- WITHIN, ON ORDINALS. -/
theorem within_text {n a : List Nat} (hn : Ok n) (ha : Ok a) : (decide (text n = text a) || (text a).isEmpty || Lib.hasPrefix (text n) (text a ++ [46])) = a.isPrefixOf n := by
  by_cases ha0 : a = []
  · subst ha0; simp [text]
  by_cases he : n = a
  · subst he
    have : n.isPrefixOf n = true := List.isPrefixOf_iff_prefix.2 (List.prefix_refl n)
    simp [this]
  have h1 : ¬ text n = text a := fun h => he (text_inj hn ha h)
  have h2 : text a ≠ [] := text_ne ha0
  have h3 : (text a).isEmpty = false := by simpa using h2
  rw [decide_eq_false h1, h3, Bool.false_or, Bool.false_or, Bool.eq_iff_iff, List.isPrefixOf_iff_prefix]
  unfold Lib.hasPrefix
  rw [List.isPrefixOf_iff_prefix]
  constructor
  · rintro ⟨r, hr⟩
    exact (text_below a n r ha0 (by rw [← hr]; simp)).1
  · rintro ⟨r, rfl⟩
    have hr : r ≠ [] := by rintro rfl; simp at he
    exact ⟨text r, by rw [text_append a r ha0 hr]; simp⟩

theorem no_dot (n : Nat) (j : Nat) : (Lib.decDigits n)[j]? ≠ some 46 := by
  intro h
  have := decDigits_dig n 46 (List.mem_of_getElem? h)
  rw [dot_dig] at this; cases this
theorem getbang {l : List UInt8} {j : Nat} (h : j < l.length) : (bs l).data[j]! = l[j] := by
  simp [bs, h]
/-- PARENT, ON ORDINALS. -/
theorem parent_text (init : List Nat) (n : Nat) : (init ≠ [] ∧ Lib.lastIndexByte (bs (text (init ++ [n]))) 46 = ((text init).length : Int)) ∨ (init = [] ∧ Lib.lastIndexByte (bs (text (init ++ [n]))) 46 = -1) := by
  have hspec := Lib.lastIndexByte_spec (bs (text (init ++ [n]))) 46
  rw [bs_size] at hspec
  have h46 : ∀ c : UInt8, (c.toNat : Int) = 46 ↔ c = 46 := fun c => ⟨fun h => UInt8.toNat_inj.1 (by show c.toNat = 46; omega), fun h => by rw [h]; rfl⟩
  by_cases h0 : init = []
  · subst h0
    refine .inr ⟨rfl, ?_⟩
    rcases hspec with h | ⟨i, hi, he, hc, _⟩
    · exact h.1
    · have hi' : i < (Lib.decDigits n).length := hi
      rw [getbang hi, h46] at hc
      exact absurd (by rw [List.getElem?_eq_getElem hi']; exact congrArg some hc) (no_dot n i)
  · refine .inl ⟨h0, ?_⟩
    have ht := text_append init [n] h0 (by simp)
    have hlen : (text (init ++ [n])).length = (text init).length + 1 + (Lib.decDigits n).length := by rw [ht]; simp [text]; omega
    rcases hspec with h | ⟨i, hi, he, hc, hl⟩
    · have := h.2 (text init).length (by omega)
      rw [getbang (by omega)] at this
      refine absurd ((h46 _).2 ?_) this
      simp [ht]
    · rw [he]
      rw [getbang hi, h46] at hc
      rcases Nat.lt_trichotomy i (text init).length with hlt | heq | hgt
      · have := hl (text init).length hlt (by omega)
        rw [getbang (by omega)] at this
        refine absurd ((h46 _).2 ?_) this
        simp [ht]
      · rw [heq]
      · have h1 : (text (init ++ [n]))[i]? = some 46 := by rw [List.getElem?_eq_getElem hi, hc]
        rw [ht, List.getElem?_append_right (by omega), show i - (text init).length = (i - (text init).length - 1) + 1 by omega, List.getElem?_cons_succ] at h1
        exact absurd h1 (no_dot n _)
theorem parent_take (init : List Nat) (n : Nat) : (text (init ++ [n])).take (text init).length = text init := by
  by_cases h0 : init = []
  · subst h0; simp [text]
  · rw [text_append init [n] h0 (by simp), List.take_left]

theorem index_digits : ∀ (ds r : List UInt8), (∀ c ∈ ds, dig c = true) → Lib.index (ds ++ r) [46] = if Lib.index r [46] = -1 then -1 else Lib.index r [46] + ds.length
  | [], r, _ => by simp
  | d :: ds, r, h => by
    have hd := h d (by simp)
    have h46 : d ≠ 46 := by rintro rfl; rw [dot_dig] at hd; cases hd
    have ih := index_digits ds r (fun c hc => h c (by simp [hc]))
    have hp : ([46] : List UInt8).isPrefixOf (d :: (ds ++ r)) = false := by simp [List.isPrefixOf, Ne.symm h46]
    rw [List.cons_append, Lib.index, hp, if_neg (by simp), ih]
    by_cases h1 : Lib.index r [46] = -1
    · simp [h1]
    · rw [if_neg h1, if_neg h1]
      have h2 : ¬ (Lib.index r [46] + (ds.length : Int) == -1) = true := by
        have hge : -1 ≤ Lib.index r [46] := by
          clear ih hp h46 hd h h1
          induction r with
          | nil => simp [Lib.index]
          | cons b r ih => unfold Lib.index; split <;> (try split) <;> omega
        rw [beq_iff_eq]; omega
      rw [if_neg h2]; simp [Int.add_assoc]
/-- ROOT, ON ORDINALS. -/
theorem root_text (l : List Nat) : (Lib.cut (text l) [46]).1 = text (l.take 1) := by
  cases l with
  | nil => rfl
  | cons n r =>
    have hi := index_digits (Lib.decDigits n) (tail r) (decDigits_dig n)
    rw [← text_tail] at hi
    cases r with
    | nil =>
      have : Lib.index (tail []) [46] = -1 := rfl
      rw [if_pos this] at hi
      unfold Lib.cut
      rw [hi]; rfl
    | cons m r =>
      have : Lib.index (tail (m :: r)) [46] = 0 := rfl
      rw [this, if_neg (by decide)] at hi
      unfold Lib.cut
      rw [hi, if_pos (by omega)]
      simp only [Int.zero_add, Int.toNat_natCast, List.take_succ_cons, List.take_zero]
      rw [text_tail, List.take_left]; rfl
/-- JOIN, ON ORDINALS. -/
theorem join_text : ∀ (l : List Nat), Lib.join (l.map Lib.decDigits) [46] = text l
  | [] => rfl
  | [n] => by simp [Lib.join, text, List.intercalate]
  | n :: m :: r => by
    have ih := join_text (m :: r)
    rw [text_cons n (by simp), ← ih]
    simp [Lib.join, List.intercalate]
end L
end Go.Proofs.YtjgofoliikflaaaDoor
