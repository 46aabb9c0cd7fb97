/-
  PLAIN: names are lists of ordinals: the texts that have no error are just the texts of lists of at most 8 ordinals from 1 to 999999.
-/
import Derived.Test.YtgjoldjfeobjgaaDoorRefSpec
namespace Go.Proofs.YtgjoldjfeobjgaaDoor
namespace L

/-- The ordinals of a name. -/
def Ok (l : List Nat) : Prop := l.length ≤ 8 ∧ ∀ x ∈ l, 1 ≤ x ∧ x ≤ 999999

/-! ### Numerals -/
theorem ofNat_toNat {k : Nat} (h : k < 256) : (UInt8.ofNat k).toNat = k := by
  rw [UInt8.toNat_ofNat', Nat.mod_eq_of_lt (by simpa using h)]
theorem ofNat_of_toNat (c : UInt8) : UInt8.ofNat c.toNat = c := by
  apply UInt8.toNat_inj.1
  rw [ofNat_toNat c.toNat_lt]
theorem dig_ofNat {k : Nat} (h : k < 10) : dig (UInt8.ofNat (48 + k)) = true := by
  unfold dig
  rw [ofNat_toNat (by omega)]
  simp; omega
theorem decDigits_dig (n : Nat) : ∀ c ∈ Lib.decDigits n, dig c = true := by
  induction n using Nat.strongRecOn with
  | _ n ih =>
    by_cases h : n < 10
    · rw [decDigits_small h]
      intro c hc
      rw [List.mem_singleton.1 hc]
      exact dig_ofNat h
    · rw [decDigits_big h]
      intro c hc
      rcases List.mem_append.1 hc with h1 | h1
      · exact ih _ (by omega) c h1
      · rw [List.mem_singleton.1 h1]
        exact dig_ofNat (by omega)
theorem decDigits_val (n : Nat) : val (Lib.decDigits n) = n := by
  induction n using Nat.strongRecOn with
  | _ n ih =>
    by_cases h : n < 10
    · rw [decDigits_small h]
      show 0 * 10 + ((UInt8.ofNat (48 + n)).toNat - 48) = n
      rw [ofNat_toNat (by omega)]; omega
    · rw [decDigits_big h, val_snoc, ih _ (by omega), ofNat_toNat (by omega)]; omega
theorem decDigits_ne (n : Nat) : Lib.decDigits n ≠ [] := by
  by_cases h : n < 10
  · rw [decDigits_small h]; simp
  · rw [decDigits_big h]; simp
theorem decDigits_head {n : Nat} (hn : 1 ≤ n) : (Lib.decDigits n)[0]? ≠ some 48 := by
  induction n using Nat.strongRecOn with
  | _ n ih =>
    by_cases h : n < 10
    · rw [decDigits_small h]
      simp only [List.getElem?_cons_zero, ne_eq, Option.some.injEq]
      intro e
      have := congrArg UInt8.toNat e
      rw [ofNat_toNat (by omega)] at this
      have h48 : (48 : UInt8).toNat = 48 := rfl
      omega
    · rw [decDigits_big h, List.getElem?_append_left (List.length_pos_iff.2 (decDigits_ne _))]
      exact ih _ (by omega) (by omega)
theorem decDigits_len6 {n : Nat} (h : n ≤ 999999) : (Lib.decDigits n).length ≤ 6 := decDigits_len 5 n (by omega)

theorem snoc_ind {α : Type} {Q : List α → Prop} (h0 : Q []) (h1 : ∀ l x, Q l → Q (l ++ [x])) (l : List α) : Q l := by
  have h : ∀ m : List α, Q m.reverse := by
    intro m
    induction m with
    | nil => exact h0
    | cons x m ih => rw [List.reverse_cons]; exact h1 _ _ ih
  have := h l.reverse
  rwa [List.reverse_reverse] at this
theorem val_pos {ds : List UInt8} (h0 : ds ≠ []) (hd : ∀ c ∈ ds, dig c = true) (hh : ds[0]? ≠ some 48) : 1 ≤ val ds := by
  induction ds using snoc_ind with
  | h0 => exact absurd rfl h0
  | h1 ds c ih =>
    rw [val_snoc]
    by_cases he : ds = []
    · subst he
      have hb := dig_bd (hd c (by simp))
      have : c ≠ 48 := by rintro rfl; simp at hh
      have h48 : c.toNat ≠ 48 := fun h => this (UInt8.toNat_inj.1 (by rw [h]; rfl))
      omega
    · have := ih he (fun x hx => hd x (by simp [hx])) (by rw [List.getElem?_append_left (List.length_pos_iff.2 he)] at hh; exact hh)
      omega
theorem decDigits_of_val {ds : List UInt8} (h0 : ds ≠ []) (hd : ∀ c ∈ ds, dig c = true) (hh : ds[0]? ≠ some 48) : Lib.decDigits (val ds) = ds := by
  induction ds using snoc_ind with
  | h0 => exact absurd rfl h0
  | h1 ds c ih =>
    have hb := dig_bd (hd c (by simp))
    rw [val_snoc]
    by_cases he : ds = []
    · subst he
      rw [decDigits_small (by simp [val]; omega)]
      simp only [val, List.foldl_nil, List.nil_append]
      rw [show 48 + (0 * 10 + (c.toNat - 48)) = c.toNat by omega, ofNat_of_toNat]
    · have hh' : ds[0]? ≠ some 48 := by rw [List.getElem?_append_left (List.length_pos_iff.2 he)] at hh; exact hh
      have hd' : ∀ x ∈ ds, dig x = true := fun x hx => hd x (by simp [hx])
      have hp := val_pos he hd' hh'
      rw [decDigits_big (by omega), show (val ds * 10 + (c.toNat - 48)) / 10 = val ds by omega, show (val ds * 10 + (c.toNat - 48)) % 10 = c.toNat - 48 by omega, ih he hd' hh',
        show 48 + (c.toNat - 48) = c.toNat by omega, ofNat_of_toNat]

theorem dc_app : ∀ (m : Nat) (ds r : List UInt8), (∀ c ∈ ds, dig c = true) → ds.length ≤ m → (∀ c, r[0]? = some c → dig c = false) → dc m (ds ++ r) = ds.length
  | 0, ds, r, _, h, _ => by
    have : ds = [] := List.eq_nil_of_length_eq_zero (by omega)
    subst this; rfl
  | m + 1, [], [], _, _, _ => rfl
  | m + 1, [], c :: r, _, _, h => by
    have := h c rfl
    show (if dig c then _ else _) = 0
    rw [this]; rfl
  | m + 1, d :: ds, r, hd, h, hr => by
    have h1 := hd d (by simp)
    have ih := dc_app m ds r (fun c hc => hd c (by simp [hc])) (by simpa using h) hr
    show (if dig d then dc m (ds ++ r) + 1 else _) = _
    rw [h1, if_pos rfl, ih]; rfl
theorem dot_dig : dig 46 = false := by decide

/-- What lies behind the first ordinal of a text. -/
def tail : List Nat → List UInt8
  | [] => []
  | r => 46 :: text r
theorem text_tail (n : Nat) (r : List Nat) : text (n :: r) = Lib.decDigits n ++ tail r := by
  cases r with
  | nil => simp [text, tail]
  | cons m r => rfl
theorem tail_head (r : List Nat) : ∀ c, (tail r)[0]? = some c → dig c = false := by
  cases r with
  | nil => simp [tail]
  | cons m r => intro c h; simp [tail] at h; rw [← h]; exact dot_dig

/-- THE TEXT OF ORDINALS HAS JUST THESE PARTS. -/
theorem parts_text : ∀ (r : List Nat) (pfx : List UInt8) (count f : Nat), r ≠ [] → (∀ x ∈ r, 1 ≤ x ∧ x ≤ 999999) → count + r.length ≤ 8 → r.length ≤ f →
    (partsFrom (pfx ++ text r) f pfx.length count).map (·.ord) = r ∧ ∀ y ∈ partsFrom (pfx ++ text r) f pfx.length count, y.e = 0
  | [], _, _, _, h, _, _, _ => absurd rfl h
  | n :: r, pfx, count, 0, _, _, _, hf => by simp at hf
  | n :: r, pfx, count, f + 1, _, hx, hc, hf => by
    have hn := hx n (by simp)
    have hdrop : (pfx ++ text (n :: r)).drop pfx.length = Lib.decDigits n ++ tail r := by rw [List.drop_left, text_tail]
    have hlen := decDigits_len6 hn.2
    have hpos := List.length_pos_iff.2 (decDigits_ne n)
    have hdc : dc 7 ((pfx ++ text (n :: r)).drop pfx.length) = (Lib.decDigits n).length := by
      rw [hdrop]; exact dc_app 7 _ _ (decDigits_dig n) (by omega) (tail_head r)
    have htot : (pfx ++ text (n :: r)).length = pfx.length + (Lib.decDigits n).length + (tail r).length := by rw [text_tail]; simp; omega
    simp only [List.length_cons] at hc hf
    have hE : firstE (pfx ++ text (n :: r)) pfx.length count = 0 := by
      refine fE0 (by omega) (by omega) (by rw [hdc]; omega) ?_ (by rw [hdc]; omega)
      rw [List.getElem?_append_right (Nat.le_refl _), Nat.sub_self, text_tail, List.getElem?_append_left hpos]
      exact decDigits_head hn.1
    have hF := first_of_ok hE
    rw [hdc, hdrop, List.take_left, decDigits_val] at hF
    cases r with
    | nil =>
      rw [parts_cons hF (.inr (by rw [htot]; simp [tail]))]
      simp
    | cons m r =>
      have hz : pfx.length + (Lib.decDigits n).length ≠ (pfx ++ text (n :: m :: r)).length := by rw [htot]; simp [tail]
      have hd : (pfx ++ text (n :: m :: r))[pfx.length + (Lib.decDigits n).length]? = some 46 := by
        rw [List.getElem?_append_right (by omega), show pfx.length + (Lib.decDigits n).length - pfx.length = (Lib.decDigits n).length by omega, text_tail, List.getElem?_append_right (Nat.le_refl _), Nat.sub_self]
        rfl
      have ih := parts_text (m :: r) (pfx ++ (Lib.decDigits n ++ [46])) (count + 1) f (by simp) (fun x hx' => hx x (by simp [List.mem_cons.1 hx'])) (by simp only [List.length_cons] at hc ⊢; omega) (by simpa using hf)
      have e1 : pfx ++ (Lib.decDigits n ++ [46]) ++ text (m :: r) = pfx ++ text (n :: m :: r) := by rw [text_tail n (m :: r)]; simp [tail]
      have e2 : (pfx ++ (Lib.decDigits n ++ [46])).length = pfx.length + (Lib.decDigits n).length + 1 := by simp; omega
      rw [e1, e2] at ih
      rw [parts_more hF rfl hz hd]
      refine ⟨by rw [List.map_cons, ih.1], fun y hy => ?_⟩
      rcases List.mem_cons.1 hy with rfl | h
      · rfl
      · exact ih.2 y h
theorem text_ne {l : List Nat} (h : l ≠ []) : text l ≠ [] := by
  cases l with
  | nil => exact absurd rfl h
  | cons n r => rw [text_tail]; simp [decDigits_ne]
theorem bad_text {l : List Nat} (h : Ok l) : bad (text l) = none ∧ ords (text l) = l := by
  by_cases he : l = []
  · subst he; exact ⟨rfl, rfl⟩
  · have := parts_text l [] 0 9 he h.2 (by simpa using h.1) (by have := h.1; omega)
    simp only [List.nil_append, List.length_nil] at this
    have hp : parts (text l) = partsFrom (text l) 9 0 0 := if_neg (text_ne he)
    exact ⟨bad_none (by rw [hp]; exact this.2), by rw [ords, hp]; exact this.1⟩

/-- A TEXT WITHOUT AN ERROR IS THE TEXT OF ITS ORDINALS. -/
theorem text_of_parts (l : List UInt8) : ∀ (f a count : Nat), f + count = 9 → (∀ y ∈ partsFrom l f a count, y.e = 0) → a ≤ l.length →
    f = 0 ∨ (text ((partsFrom l f a count).map (·.ord)) = l.drop a ∧ (∀ x ∈ (partsFrom l f a count).map (·.ord), 1 ≤ x ∧ x ≤ 999999) ∧ count + (partsFrom l f a count).length ≤ 8)
  | 0, _, _, _, _, _ => .inl rfl
  | f + 1, a, count, hfc, h, ha => by
    refine .inr ?_
    obtain ⟨rest, hrest⟩ := parts_head (l := l) (f := f + 1) (a := a) (count := count) (by omega)
    have he : (first l a count).1.e = 0 := h _ (by rw [hrest]; simp)
    have hE : firstE l a count = 0 := by
      by_cases hE : firstE l a count = 0
      · exact hE
      · rw [first_of_err rfl hE] at he; exact absurd he hE
    have hF := first_of_ok hE
    have hc : count ≠ 8 := by rintro rfl; simp [firstE] at hE
    have ha' : a ≠ l.length := by rintro rfl; simp [firstE, hc] at hE
    have hk0 : dc 7 (l.drop a) ≠ 0 := by intro hk; simp [firstE, hc, ha', hk] at hE
    have h48 : l[a]? ≠ some 48 := by intro hk; simp [firstE, hc, ha', hk0, hk] at hE
    have hk6 : ¬ 6 < dc 7 (l.drop a) := by intro hk; simp [firstE, hc, ha', hk0, h48, hk] at hE
    have hkl := dc_len 7 (l.drop a)
    obtain ⟨ds, hds⟩ : ∃ ds, (l.drop a).take (dc 7 (l.drop a)) = ds := ⟨_, rfl⟩
    have hdl : ds.length = dc 7 (l.drop a) := by rw [← hds, List.length_take]; omega
    have hdd : ∀ c ∈ ds, dig c = true := by
      intro c hc'
      rw [← hds] at hc'
      obtain ⟨i, hi, rfl⟩ := List.mem_iff_getElem.1 hc'
      rw [List.length_take] at hi
      obtain ⟨h1, h2⟩ := dc_lt 7 (l.drop a) i (by omega)
      rw [List.getElem_take]; exact h2
    have hd0 : ds ≠ [] := List.ne_nil_of_length_pos (by omega)
    have hdh : ds[0]? ≠ some 48 := by
      rw [← hds, List.getElem?_take_of_lt (by omega), List.getElem?_drop]
      exact h48
    have hval := decDigits_of_val hd0 hdd hdh
    have hv1 := val_pos hd0 hdd hdh
    have hv6 : val ds ≤ 999999 := by
      have h1 := val_bd (l.drop a) (dc 7 (l.drop a)) (Nat.le_refl _)
      rw [hds] at h1
      have h3 : 10 ^ dc 7 (l.drop a) ≤ 10 ^ 6 := Nat.pow_le_pow_right (by omega) (by omega)
      omega
    rw [hds] at hF
    have hz : a + dc 7 (l.drop a) ≤ l.length := by have := hkl; rw [List.length_drop] at this; omega
    by_cases hend : a + dc 7 (l.drop a) = l.length
    · rw [parts_cons hF (.inr hend)]
      have hall : ds = l.drop a := by rw [← hds, List.take_of_length_le (by rw [List.length_drop]; omega)]
      refine ⟨by rw [← hall]; simp [text, hval], fun x hx => by simp at hx; subst hx; exact ⟨hv1, hv6⟩, by simp; omega⟩
    · by_cases hdot : l[a + dc 7 (l.drop a)]? = some 46
      · rw [parts_more hF rfl hend hdot] at h ⊢
        have ih := text_of_parts l f (a + dc 7 (l.drop a) + 1) (count + 1) (by omega) (fun y hy => h y (by simp [hy])) (by have := (List.getElem?_eq_some_iff.1 hdot).1; omega)
        rcases ih with rfl | ⟨ih1, ih2, ih3⟩
        · omega
        · have hne : (partsFrom l f (a + dc 7 (l.drop a) + 1) (count + 1)).map (·.ord) ≠ [] := by
            intro h0
            have := partsFrom_pos l f (a + dc 7 (l.drop a) + 1) (count + 1) (by omega)
            have h1 := congrArg List.length h0
            simp at h1
            rw [h1] at this; simp at this
          refine ⟨?_, ?_, by simp only [List.length_cons]; omega⟩
          · rw [List.map_cons, text_cons _ hne, ih1, hval]
            have hlt := (List.getElem?_eq_some_iff.1 hdot).1
            have h46 : l[a + dc 7 (l.drop a)] = 46 := (List.getElem?_eq_some_iff.1 hdot).2
            have e1 : l.drop a = ds ++ (l.drop a).drop (dc 7 (l.drop a)) := by rw [← hds, List.take_append_drop]
            rw [List.drop_drop] at e1
            conv => rhs; rw [e1]
            rw [List.drop_eq_getElem_cons hlt, h46]
          · intro x hx
            rcases List.mem_cons.1 hx with rfl | hx
            · exact ⟨hv1, hv6⟩
            · exact ih2 x hx
      · have := h ⟨0, a + dc 7 (l.drop a), 6⟩ (by rw [parts_two hF rfl hend hdot]; simp)
        simp at this
theorem text_ords {l : List UInt8} (h : bad l = none) : text (ords l) = l ∧ Ok (ords l) := by
  by_cases he : l = []
  · subst he; exact ⟨rfl, by simp [ords, parts, Ok]⟩
  · have hp : parts l = partsFrom l 9 0 0 := if_neg he
    have h0 : ∀ y ∈ partsFrom l 9 0 0, y.e = 0 := by
      intro y hy
      have := List.find?_eq_none.1 h y (by rw [hp]; exact hy)
      simpa using this
    rcases text_of_parts l 9 0 0 rfl h0 (Nat.zero_le _) with h1 | ⟨h1, h2, h3⟩
    · omega
    · rw [ords, hp]
      exact ⟨by simpa using h1, by simpa using h3, h2⟩
theorem text_inj {a b : List Nat} (ha : Ok a) (hb : Ok b) (h : text a = text b) : a = b := by
  rw [← (bad_text ha).2, h, (bad_text hb).2]
end L
end Go.Proofs.YtgjoldjfeobjgaaDoor
