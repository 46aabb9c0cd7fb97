/-
  PLAIN: what the texts of lineage say, in lists of bytes and numbers; nothing of the program.
-/
namespace Go.Proofs.YtgjoldjfeobjgaaDoor
namespace L

/-- A digit. -/
def dig (c : UInt8) : Bool := decide (48 ≤ c.toNat) && decide (c.toNat ≤ 57)
/-- The number of leading digits, at most m. -/
def dc : Nat → List UInt8 → Nat
  | 0, _ => 0
  | _ + 1, [] => 0
  | m + 1, c :: r => if dig c then dc m r + 1 else 0
/-- The number that digits denote. -/
def val (l : List UInt8) : Nat := l.foldl (fun n c => n * 10 + (c.toNat - 48)) 0

theorem dc_le : ∀ (m : Nat) (l : List UInt8), dc m l ≤ m
  | 0, _ => Nat.le_refl 0
  | _ + 1, [] => Nat.zero_le _
  | m + 1, c :: r => by unfold dc; have := dc_le m r; split <;> omega
theorem dc_len : ∀ (m : Nat) (l : List UInt8), dc m l ≤ l.length
  | 0, _ => Nat.zero_le _
  | _ + 1, [] => Nat.zero_le _
  | m + 1, c :: r => by unfold dc; have := dc_len m r; simp only [List.length_cons]; split <;> omega
theorem dc_lt : ∀ (m : Nat) (l : List UInt8) (k : Nat), k < dc m l → ∃ h : k < l.length, dig l[k] = true
  | 0, _, _, h => absurd h (Nat.not_lt_zero _)
  | _ + 1, [], _, h => absurd h (Nat.not_lt_zero _)
  | m + 1, c :: r, k, h => by
    unfold dc at h
    split at h
    · cases k with
      | zero => exact ⟨by simp, by simpa⟩
      | succ k =>
        obtain ⟨h1, h2⟩ := dc_lt m r k (by omega)
        exact ⟨by simpa using h1, by simpa using h2⟩
    · omega
theorem dc_end : ∀ (m : Nat) (l : List UInt8), dc m l < m → (h : dc m l < l.length) → dig l[dc m l] = false
  | 0, _, h, _ => absurd h (Nat.not_lt_zero _)
  | _ + 1, [], _, h => absurd h (Nat.not_lt_zero _)
  | m + 1, c :: r, h, h' => by
    unfold dc at h h' ⊢
    split
    · rename_i hc
      simp only [hc, if_true, List.length_cons] at h h'
      have := dc_end m r (by omega) (by omega)
      simpa using this
    · rename_i hc
      simpa using hc
/-- The step of a count. -/
theorem dc_step {m : Nat} {l : List UInt8} {k : Nat} (h : k ≤ dc m l) (hm : k < m) (hl : k < l.length) (hd : dig l[k] = true) : k + 1 ≤ dc m l := by
  rcases Nat.lt_or_ge k (dc m l) with h1 | h1
  · omega
  · have e : k = dc m l := by omega
    subst e
    have := dc_end m l hm hl
    rw [hd] at this
    cases this
theorem dc_stop {m : Nat} {l : List UInt8} {k : Nat} (h : k ≤ dc m l) (hd : ∀ hl : k < l.length, dig l[k] = false) : k = dc m l := by
  rcases Nat.lt_or_ge k (dc m l) with h1 | h1
  · obtain ⟨h2, h3⟩ := dc_lt m l k h1
    rw [hd h2] at h3
    cases h3
  · omega
theorem val_snoc (l : List UInt8) (c : UInt8) : val (l ++ [c]) = val l * 10 + (c.toNat - 48) := by simp [val]
theorem dig_bd {c : UInt8} (h : dig c = true) : 48 ≤ c.toNat ∧ c.toNat ≤ 57 := by
  simpa [dig] using h
theorem val_take_succ (l : List UInt8) (k : Nat) (h : k < l.length) : val (l.take (k + 1)) = val (l.take k) * 10 + (l[k].toNat - 48) := by
  rw [List.take_succ_eq_append_getElem h, val_snoc]
theorem val_bd (l : List UInt8) : ∀ k, k ≤ dc 7 l → val (l.take k) < 10 ^ k
  | 0, _ => by simp [val]
  | k + 1, h => by
    obtain ⟨h1, h2⟩ := dc_lt 7 l k (by omega)
    rw [val_take_succ l k h1]
    have := val_bd l k (by omega)
    have := dig_bd h2
    rw [Nat.pow_succ]
    omega
theorem val_bd7 (l : List UInt8) (k : Nat) (h : k ≤ dc 7 l) : val (l.take k) < 10000000 := by
  have h1 := val_bd l k h
  have h2 := dc_le 7 l
  have h3 : 10 ^ k ≤ 10 ^ 7 := Nat.pow_le_pow_right (by omega) (by omega)
  omega

/-- An ordinal of a text: it, the offset where it begins, the error. -/
structure Part where
  ord : Nat
  at_ : Nat
  e : Nat
/-- The error at an offset, behind count ordinals. -/
def firstE (l : List UInt8) (a count : Nat) : Nat :=
  if count = 8 then 9 else if a = l.length then 4 else if dc 7 (l.drop a) = 0 then 6 else if l[a]? = some 48 then 3 else if 6 < dc 7 (l.drop a) then 2 else 0
/-- The ordinal that begins at an offset, and where it ends. -/
def first (l : List UInt8) (a count : Nat) : Part × Nat :=
  if firstE l a count = 0 then (⟨val ((l.drop a).take (dc 7 (l.drop a))), a, 0⟩, a + dc 7 (l.drop a)) else (⟨0, a, firstE l a count⟩, a)
end L
end Go.Proofs.YtgjoldjfeobjgaaDoor
