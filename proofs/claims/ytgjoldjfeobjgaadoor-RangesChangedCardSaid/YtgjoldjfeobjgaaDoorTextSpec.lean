/-
  PLAIN: the text of a list of ordinals.
-/
import Derived.Test.YtgjoldjfeobjgaaDoorSpec
import Derived.Lib.ItoaNum
namespace Go.Proofs.YtgjoldjfeobjgaaDoor
theorem decDigits_small {n : Nat} (h : n < 10) : Lib.decDigits n = [UInt8.ofNat (48 + n)] := by rw [Lib.decDigits, dif_pos h]
theorem decDigits_big {n : Nat} (h : ¬ n < 10) : Lib.decDigits n = Lib.decDigits (n / 10) ++ [UInt8.ofNat (48 + n % 10)] := by rw [Lib.decDigits, dif_neg h]
theorem decDigits_len : ∀ (k n : Nat), n < 10 ^ (k + 1) → (Lib.decDigits n).length ≤ k + 1
  | 0, n, h => by rw [decDigits_small (by simpa using h)]; simp
  | k + 1, n, h => by
    by_cases h' : n < 10
    · rw [decDigits_small h']; simp
    · rw [decDigits_big h', List.length_append]
      have := decDigits_len k (n / 10) (by rw [Nat.pow_succ] at h; omega)
      simpa using this
namespace L
/-- The text of ordinals. -/
def text : List Nat → List UInt8
  | [] => []
  | [n] => Lib.decDigits n
  | n :: m :: r => Lib.decDigits n ++ 46 :: text (m :: r)
theorem text_cons (n : Nat) {r : List Nat} (h : r ≠ []) : text (n :: r) = Lib.decDigits n ++ 46 :: text r := by
  cases r with
  | nil => exact absurd rfl h
  | cons m r => rfl
theorem text_snoc : ∀ (l : List Nat) (n : Nat), l ≠ [] → text (l ++ [n]) = text l ++ 46 :: Lib.decDigits n
  | [], _, h => absurd rfl h
  | [m], n, _ => rfl
  | m :: k :: r, n, _ => by
    have ih := text_snoc (k :: r) n (by simp)
    rw [List.cons_append, text_cons m (by simp), ih, text_cons m (by simp)]
    simp
theorem text_len : ∀ (l : List Nat), (∀ x ∈ l, x ≤ 9223372036854775807) → (text l).length ≤ 20 * l.length
  | [], _ => by simp [text]
  | [n], h => by
    have := decDigits_len 18 n (by have := h n (by simp); omega)
    simp [text]; omega
  | n :: m :: r, h => by
    have h1 := decDigits_len 18 n (by have := h n (by simp); omega)
    have h2 := text_len (m :: r) (fun x hx => h x (List.mem_cons_of_mem _ hx))
    rw [text_cons n (by simp)]
    simp only [List.length_append, List.length_cons] at h2 ⊢
    omega
/-- The ordinals of a text. -/
def ords (l : List UInt8) : List Nat := (parts l).map (·.ord)
end L
end Go.Proofs.YtgjoldjfeobjgaaDoor
