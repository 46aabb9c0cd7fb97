/-
  PLAIN: the texts of sets, and what is read from a text; nothing of the program.
-/
import Derived.Test.YtgjoldjfeobjgaaDoorRgMore
import Derived.Test.YtgjoldjfeobjgaaDoorNames
namespace Go.Proofs.YtgjoldjfeobjgaaDoor
namespace G
open L (dig val)
def itemT (r : Rg) : List UInt8 := Lib.decDigits r.1.toNat ++ 43 :: Lib.decDigits (r.2 - r.1).toNat
def join32 : List (List UInt8) → List UInt8
  | [] => []
  | [a] => a
  | a :: b :: l => a ++ 32 :: join32 (b :: l)
def textR (l : List Rg) : List UInt8 := join32 (l.map itemT)
theorem join32_cons (a : List UInt8) {l : List (List UInt8)} (h : l ≠ []) : join32 (a :: l) = a ++ 32 :: join32 l := by
  cases l with
  | nil => exact absurd rfl h
  | cons b l => rfl
theorem join32_snoc : ∀ (l : List (List UInt8)) (a : List UInt8), l ≠ [] → join32 (l ++ [a]) = join32 l ++ 32 :: a
  | [], _, h => absurd rfl h
  | [b], a, _ => rfl
  | b :: c :: l, a, _ => by
    have ih := join32_snoc (c :: l) a (by simp)
    rw [List.cons_append, join32_cons b (by simp), ih, join32_cons b (by simp)]
    simp

/-! ### Numbers -/
def numB (s : List UInt8) : Bool := !s.isEmpty && decide (s.length ≤ 13) && !(decide (s[0]? = some 48) && decide (1 < s.length)) && s.all dig
theorem numB_iff {s : List UInt8} : numB s = true ↔ s ≠ [] ∧ s.length ≤ 13 ∧ ¬ (s[0]? = some 48 ∧ 1 < s.length) ∧ ∀ c ∈ s, dig c = true := by
  unfold numB
  rw [Bool.and_eq_true, Bool.and_eq_true, Bool.and_eq_true, List.all_eq_true]
  simp only [Bool.not_eq_true', List.isEmpty_eq_false_iff, ne_eq, decide_eq_true_eq, Bool.and_eq_false_iff, decide_eq_false_iff_not]
  constructor
  · rintro ⟨⟨⟨a, b⟩, c⟩, d⟩
    exact ⟨a, b, fun ⟨h1, h2⟩ => c.elim (fun h => h h1) (fun h => h h2), d⟩
  · rintro ⟨a, b, c, d⟩
    refine ⟨⟨⟨a, b⟩, ?_⟩, d⟩
    by_cases h : s[0]? = some 48
    · exact .inr fun h' => c ⟨h, h'⟩
    · exact .inl h
theorem val_lt : ∀ (s : List UInt8), (∀ c ∈ s, dig c = true) → val s < 10 ^ s.length := by
  refine L.snoc_ind (by simp [val]) ?_
  intro l x ih h
  rw [L.val_snoc, List.length_append, List.length_singleton, Nat.pow_succ]
  have h1 := ih (fun c hc => h c (by simp [hc]))
  have h2 := L.dig_bd (h x (by simp))
  omega
theorem val_lt13 {s : List UInt8} (h : numB s = true) : val s < 10000000000000 := by
  obtain ⟨_, h2, _, h4⟩ := numB_iff.1 h
  have h1 := val_lt s h4
  have h3 : 10 ^ s.length ≤ 10 ^ 13 := Nat.pow_le_pow_right (by omega) h2
  omega
theorem numB_dec {n : Nat} (h : n < 10000000000000) : numB (Lib.decDigits n) = true := by
  refine numB_iff.2 ⟨L.decDigits_ne n, ?_, ?_, L.decDigits_dig n⟩
  · exact decDigits_len 12 n (by omega)
  · rintro ⟨h1, h2⟩
    by_cases h0 : n = 0
    · subst h0
      rw [decDigits_small (by omega)] at h2
      simp at h2
    · exact L.decDigits_head (by omega) h1
theorem dec_num {s : List UInt8} (h : numB s = true) : Lib.decDigits (val s) = s := by
  obtain ⟨h1, h2, h3, h4⟩ := numB_iff.1 h
  by_cases h0 : s[0]? = some 48
  · have hl : s.length = 1 := by
      have : 0 < s.length := List.length_pos_iff.2 h1
      have : ¬ 1 < s.length := fun h => h3 ⟨h0, h⟩
      omega
    match s, hl with
    | [c], _ =>
      obtain rfl : c = 48 := by simpa using h0
      show Lib.decDigits 0 = [48]
      rw [decDigits_small (by omega)]
      rfl
  · exact L.decDigits_of_val h1 h4 h0
theorem plus_dig : dig 43 = false := by decide
theorem sp_dig : dig 32 = false := by decide

/-! ### Splitting -/
/-- What lies before the first byte c, and what behind it. -/
def bef (c : UInt8) (s : List UInt8) : List UInt8 := s.takeWhile (fun x => x != c)
def aft (c : UInt8) (s : List UInt8) : List UInt8 := (s.dropWhile (fun x => x != c)).tail
theorem bef_not (c : UInt8) : ∀ s, c ∉ bef c s
  | [] => by simp [bef]
  | x :: s => by
    unfold bef
    rw [List.takeWhile_cons]
    split
    · rename_i h
      rw [List.mem_cons]
      rintro (rfl | h')
      · simp at h
      · exact bef_not c s h'
    · simp
theorem bef_aft {c : UInt8} : ∀ {s : List UInt8}, c ∈ s → s = bef c s ++ c :: aft c s
  | [], h => by simp at h
  | x :: s, h => by
    unfold bef aft
    by_cases hx : x = c
    · subst hx
      rw [List.takeWhile_cons, List.dropWhile_cons]; simp
    · rw [List.takeWhile_cons, List.dropWhile_cons, if_pos (by simpa using hx), if_pos (by simpa using hx), List.cons_append]
      congr 1
      exact bef_aft ((List.mem_cons.1 h).resolve_left (fun e => hx e.symm))
theorem bef_all {c : UInt8} : ∀ {s : List UInt8}, c ∉ s → bef c s = s ∧ aft c s = []
  | [], _ => ⟨rfl, rfl⟩
  | x :: s, h => by
    rw [List.mem_cons, not_or] at h
    obtain ⟨h1, h2⟩ := bef_all h.2
    unfold bef aft at *
    rw [List.takeWhile_cons, List.dropWhile_cons, if_pos (by simpa using fun e => h.1 e.symm), if_pos (by simpa using fun e => h.1 e.symm), h1, h2]
    exact ⟨rfl, rfl⟩
theorem bef_of {c : UInt8} : ∀ {a b : List UInt8}, c ∉ a → bef c (a ++ c :: b) = a ∧ aft c (a ++ c :: b) = b
  | [], b, _ => by simp [bef, aft]
  | x :: a, b, h => by
    rw [List.mem_cons, not_or] at h
    obtain ⟨h1, h2⟩ := bef_of (b := b) h.2
    unfold bef aft at *
    rw [List.cons_append, List.takeWhile_cons, List.dropWhile_cons, if_pos (by simpa using fun e => h.1 e.symm), if_pos (by simpa using fun e => h.1 e.symm), h1, h2]
    exact ⟨rfl, rfl⟩
/-- The items of a text: f of them at most. -/
def splF : Nat → List UInt8 → List (List UInt8)
  | 0, _ => []
  | f + 1, s => bef 32 s :: (if 32 ∈ s then splF f (aft 32 s) else [])
def spl (s : List UInt8) : List (List UInt8) := splF (s.length + 1) s
theorem aft_len {c : UInt8} {s : List UInt8} (h : c ∈ s) : (aft c s).length < s.length := by
  have := congrArg List.length (bef_aft h)
  simp only [List.length_append, List.length_cons] at this; omega
theorem splF_more : ∀ (f g : Nat) (s : List UInt8), s.length < f → s.length < g → splF f s = splF g s
  | 0, _, _, h, _ => by omega
  | _ + 1, 0, _, _, h => by omega
  | f + 1, g + 1, s, h1, h2 => by
    rw [splF, splF]
    split
    · rename_i h
      have := aft_len h
      rw [splF_more f g (aft 32 s) (by omega) (by omega)]
    · rfl
theorem spl_step (s : List UInt8) : spl s = bef 32 s :: (if 32 ∈ s then spl (aft 32 s) else []) := by
  rw [spl, splF]
  split
  · rename_i h
    have := aft_len h
    rw [spl, splF_more s.length ((aft 32 s).length + 1) _ (by omega) (by omega)]
  · rfl
theorem spl_one {s : List UInt8} (h : 32 ∉ s) : spl s = [s] := by rw [spl_step, if_neg h, (bef_all h).1]
theorem spl_more {a b : List UInt8} (h : 32 ∉ a) : spl (a ++ 32 :: b) = a :: spl b := by
  rw [spl_step, if_pos (by simp), (bef_of h).1, (bef_of h).2]
theorem spl_ne (s : List UInt8) : spl s ≠ [] := by rw [spl_step]; simp
theorem spl_join : ∀ (n : Nat) (s : List UInt8), s.length ≤ n → join32 (spl s) = s
  | n, s, hn => by
    by_cases h : 32 ∈ s
    · have hl := aft_len h
      match n with
      | 0 => omega
      | n + 1 =>
        have := spl_join n (aft 32 s) (by omega)
        rw [spl_step, if_pos h, join32_cons _ (spl_ne _), this, ← bef_aft h]
    · rw [spl_one h]; rfl
theorem spl_items : ∀ (l : List (List UInt8)), l ≠ [] → (∀ a ∈ l, 32 ∉ a) → spl (join32 l) = l
  | [], h, _ => absurd rfl h
  | [a], _, h => spl_one (h a (by simp))
  | a :: b :: l, _, h => by
    rw [join32_cons a (by simp), spl_more (h a (by simp)), spl_items (b :: l) (by simp) (fun x hx => h x (List.mem_cons_of_mem _ hx))]

/-! ### Reading -/
def isNum (s : List UInt8) : Bool := numB (bef 43 s) && (decide (43 ∈ s) && numB (aft 43 s))
def rangeOf (s : List UInt8) : Rg := ((val (bef 43 s) : Int), (val (bef 43 s) : Int) + (val (aft 43 s) : Int))
/-- The error of an item, the end of the one before it being last. -/
def itemE (s : List UInt8) (last : Int) : Nat :=
  if isNum s = false then 3 else if val (aft 43 s) = 0 ∨ 1099511627776 < (rangeOf s).2 then 2 else if (rangeOf s).1 ≤ last then 32 else 0
def lastTo (l : List Rg) : Int := match l.getLast? with
  | some q => q.2
  | none => -1
theorem lastTo_snoc (l : List Rg) (q : Rg) : lastTo (l ++ [q]) = q.2 := by simp [lastTo]
/-- Error, offset, ranges. -/
def prs : List (List UInt8) → List Rg → Nat → Nat × Nat × List Rg
  | [], acc, _ => (0, 0, acc)
  | s :: l, acc, at_ => if acc.length = 1024 then (9, at_, []) else if itemE s (lastTo acc) ≠ 0 then (itemE s (lastTo acc), at_, []) else prs l (acc ++ [rangeOf s]) (at_ + s.length + 1)
def parse (t : List UInt8) : Nat × Nat × List Rg := if t = [] then (0, 0, []) else prs (spl t) [] 0
theorem prs_limit {s : List UInt8} {l : List (List UInt8)} {acc : List Rg} {a : Nat} (h : acc.length = 1024) : prs (s :: l) acc a = (9, a, []) := by rw [prs, if_pos h]
theorem prs_bad {s : List UInt8} {l : List (List UInt8)} {acc : List Rg} {a e : Nat} (h : acc.length ≠ 1024) (he : itemE s (lastTo acc) = e) (h0 : e ≠ 0) : prs (s :: l) acc a = (e, a, []) := by
  rw [prs, if_neg h, he, if_pos h0]
theorem prs_ok {s : List UInt8} {l : List (List UInt8)} {acc : List Rg} {a : Nat} (h : acc.length ≠ 1024) (he : itemE s (lastTo acc) = 0) : prs (s :: l) acc a = prs l (acc ++ [rangeOf s]) (a + s.length + 1) := by
  rw [prs, if_neg h, he, if_neg (by simp)]

theorem item_43 (r : Rg) : bef 43 (itemT r) = Lib.decDigits r.1.toNat ∧ aft 43 (itemT r) = Lib.decDigits (r.2 - r.1).toNat ∧ 43 ∈ itemT r := by
  have h : 43 ∉ Lib.decDigits r.1.toNat := fun h => by have := L.decDigits_dig _ _ h; rw [plus_dig] at this; cases this
  obtain ⟨a, b⟩ := bef_of (b := Lib.decDigits (r.2 - r.1).toNat) h
  exact ⟨a, b, by simp [itemT]⟩
theorem item_32 (r : Rg) : 32 ∉ itemT r := by
  unfold itemT
  rw [List.mem_append, List.mem_cons]
  rintro (h | h | h)
  · have := L.decDigits_dig _ _ h; rw [sp_dig] at this; cases this
  · cases h
  · have := L.decDigits_dig _ _ h; rw [sp_dig] at this; cases this
theorem item_read {r : Rg} {last : Int} (h0 : 0 ≤ r.1) (h1 : r.1 < r.2) (h2 : r.2 < INF) (h3 : last < r.1) : itemE (itemT r) last = 0 ∧ rangeOf (itemT r) = r := by
  obtain ⟨a, b, c⟩ := item_43 r
  unfold INF at h2
  have e : rangeOf (itemT r) = r := by
    unfold rangeOf
    rw [a, b, L.decDigits_val, L.decDigits_val]
    exact Prod.ext (by show ((r.1.toNat : Nat) : Int) = r.1; omega) (by show ((r.1.toNat : Nat) : Int) + (((r.2 - r.1).toNat : Nat) : Int) = r.2; omega)
  refine ⟨?_, e⟩
  unfold itemE
  have hn : isNum (itemT r) = true := by
    unfold isNum
    rw [a, b, numB_dec (by omega), numB_dec (by omega), decide_eq_true c]; rfl
  rw [hn, if_neg (by simp), e, b, L.decDigits_val, if_neg (by omega), if_neg (by omega)]
theorem prs_text : ∀ (l acc : List Rg) (a : Nat), (∀ r ∈ l, 0 ≤ r.1 ∧ r.2 < INF) → Canon (lastTo acc) l → acc.length + l.length ≤ 1024 → prs (l.map itemT) acc a = (0, 0, acc ++ l)
  | [], acc, a, _, _, _ => by simp [prs]
  | r :: l, acc, a, h, hc, hl => by
    have hr := h r (by simp)
    obtain ⟨e1, e2⟩ := item_read (last := lastTo acc) hr.1 hc.2.1 hr.2 hc.1
    simp only [List.length_cons] at hl
    rw [List.map_cons, prs_ok (by omega) e1, e2, prs_text l (acc ++ [r]) _ (fun s hs => h s (List.mem_cons_of_mem _ hs)) (by rw [lastTo_snoc]; exact hc.2.2) (by simp; omega)]
    simp
theorem textR_ne {l : List Rg} (h : l ≠ []) : textR l ≠ [] := by
  cases l with
  | nil => exact absurd rfl h
  | cons r l =>
    cases l with
    | nil => simp [textR, join32, itemT]
    | cons s l => simp [textR, join32, itemT]
theorem parse_text {l : List Rg} (hs : Set_ l) (hl : l.length ≤ 1024) : parse (textR l) = (0, 0, l) := by
  unfold parse
  by_cases h0 : l = []
  · subst h0; rfl
  · rw [if_neg (textR_ne h0), textR, spl_items _ (by simpa using h0) (fun a ha => by
      obtain ⟨r, _, rfl⟩ := List.mem_map.1 ha
      exact item_32 r), prs_text l [] 0 (fun r hr => ⟨by have := (hs.1.from_gt r hr).1; omega, hs.2 r hr⟩) hs.1 (by simpa using hl)]
    rfl
theorem itemE_zero {s : List UInt8} {last : Int} (h : itemE s last = 0) : isNum s = true ∧ 1 ≤ val (aft 43 s) ∧ (rangeOf s).2 ≤ 1099511627776 ∧ last < (rangeOf s).1 := by
  unfold itemE at h
  split at h
  · omega
  · rename_i hn
    split at h
    · omega
    · split at h
      · omega
      · exact ⟨by simpa using hn, by omega, by omega, by omega⟩
theorem item_back {s : List UInt8} (h : isNum s = true) : itemT (rangeOf s) = s := by
  unfold isNum at h
  rw [Bool.and_eq_true, Bool.and_eq_true] at h
  obtain ⟨h1, h2, h3⟩ := h
  have h2 : 43 ∈ s := by simpa using h2
  unfold itemT
  have e1 : (rangeOf s).1.toNat = val (bef 43 s) := by unfold rangeOf; simp
  have e2 : ((rangeOf s).2 - (rangeOf s).1).toNat = val (aft 43 s) := by
    have : (rangeOf s).2 - (rangeOf s).1 = (val (aft 43 s) : Int) := by unfold rangeOf; simp only; omega
    rw [this]; simp
  rw [e1, e2, dec_num h1, dec_num h3, ← bef_aft h2]
theorem prs_back : ∀ (l : List (List UInt8)) (acc : List Rg) (a : Nat) (out : List Rg), prs l acc a = (0, 0, out) → Canon (-1) acc → (∀ q ∈ acc, q.2 < INF) → acc.length ≤ 1024 →
    Set_ out ∧ out.map itemT = acc.map itemT ++ l ∧ out.length ≤ 1024
  | [], acc, a, out, h, hc, hi, hl => by
    rw [prs] at h
    injection h with _ h
    injection h with _ h
    subst h
    exact ⟨⟨hc, hi⟩, by simp, hl⟩
  | s :: l, acc, a, out, h, hc, hi, hl => by
    rw [prs] at h
    split at h
    · injection h with h _; omega
    · rename_i hne
      split at h
      · rename_i he
        injection h with h _
        exact absurd h he
      · rename_i he
        obtain ⟨z1, z2, z3, z4⟩ := itemE_zero (by simpa using he)
        have h12 : (rangeOf s).1 < (rangeOf s).2 := by unfold rangeOf at *; simp only at *; omega
        have h0 : (0 : Int) ≤ (rangeOf s).1 := by unfold rangeOf; simp only; omega
        have hc' : Canon (-1) (acc ++ [rangeOf s]) := by
          refine hc.append (fun q hq => ?_) (by omega) h12
          rcases snoc_cases acc with rfl | ⟨m, p, rfl⟩
          · simp at hq
          · rw [lastTo_snoc] at z4
            rcases List.mem_append.1 hq with h' | h'
            · have := hc.last.1 q h'
              have := hc.last.2.2
              omega
            · rw [List.mem_singleton.1 h']; exact z4
        obtain ⟨r1, r2, r3⟩ := prs_back l (acc ++ [rangeOf s]) _ out h hc' (fun q hq => by
          rcases List.mem_append.1 hq with h' | h'
          · exact hi q h'
          · rw [List.mem_singleton.1 h']; unfold INF; omega) (by simp; omega)
        exact ⟨r1, by rw [r2, List.map_append, List.map_cons, List.map_nil, item_back z1, List.append_assoc]; rfl, r3⟩
theorem parse_back {t : List UInt8} {a : Nat} {out : List Rg} (h : parse t = (0, a, out)) : a = 0 ∧ Set_ out ∧ textR out = t ∧ out.length ≤ 1024 := by
  unfold parse at h
  split at h
  · rename_i h0
    injection h with _ h
    injection h with h1 h2
    subst h1 h2 h0
    exact ⟨rfl, ⟨trivial, by simp⟩, rfl, by simp⟩
  · have key : ∀ (l : List (List UInt8)) (acc : List Rg) (b : Nat), prs l acc b = (0, a, out) → a = 0 := by
      intro l
      induction l with
      | nil =>
        intro acc b h
        rw [prs] at h
        injection h with _ h
        injection h with h _
        exact h.symm
      | cons s l ih =>
        intro acc b h
        rw [prs] at h
        split at h
        · injection h with h _; omega
        · split at h
          · rename_i he
            injection h with h _
            exact absurd h he
          · exact ih _ _ h
    obtain rfl := key _ _ _ h
    obtain ⟨h1, h2, h3⟩ := prs_back (spl t) [] 0 out h trivial (by simp) (by simp)
    refine ⟨rfl, h1, ?_, h3⟩
    rw [textR, h2]
    simp [spl_join t.length t (Nat.le_refl _)]
theorem prs_err : ∀ (l : List (List UInt8)) (acc : List Rg) (a : Nat), (prs l acc a).1 ≠ 0 → (prs l acc a).2.2 = []
  | [], _, _, h => by simp [prs] at h
  | s :: l, acc, a, h => by
    rw [prs] at h ⊢
    split
    · rfl
    · split
      · rfl
      · rename_i h1 h2
        rw [if_neg h1, if_neg h2] at h
        exact prs_err l _ _ h
end G
end Go.Proofs.YtgjoldjfeobjgaaDoor
