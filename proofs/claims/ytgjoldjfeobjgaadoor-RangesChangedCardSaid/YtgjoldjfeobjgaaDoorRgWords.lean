/-
  WORDS: ranges as cells, two each.
-/
import Derived.Test.YtgjoldjfeobjgaaDoorProg
import Derived.Test.YtgjoldjfeobjgaaDoorRgMore
import Derived.Test.YtgjoldjfeobjgaaDoorWords
import Derived.WalkKit
import Derived.WalkLawsBesides
import Derived.WalkSpells
import Derived.Lib.Hide
import Derived.Deep.QuietTactic
import Derived.BigQuiet
import Derived.Deep.RegionWith
import Derived.Maps.AppendAt
import Derived.RangeFuncBox
import Derived.Shelf.SlicesQ.Load
namespace Go.Proofs.YtgjoldjfeobjgaaDoor
open Go.RowKit

def pv (l : List G.Rg) : List Value := l.flatMap fun r => [.int .i64 r.1, .int .i64 r.2]
theorem pv_nil : pv [] = [] := rfl
theorem pv_cons (r : G.Rg) (l : List G.Rg) : pv (r :: l) = .int .i64 r.1 :: .int .i64 r.2 :: pv l := rfl
theorem pv_len : ∀ l : List G.Rg, (pv l).length = l.length * 2
  | [] => rfl
  | r :: l => by rw [pv_cons]; simp only [List.length_cons, pv_len l]; omega
theorem pv_append (a b : List G.Rg) : pv (a ++ b) = pv a ++ pv b := by simp [pv]
theorem pv_snoc (l : List G.Rg) (r : G.Rg) : pv (l ++ [r]) = pv l ++ [.int .i64 r.1, .int .i64 r.2] := by rw [pv_append]; rfl
theorem pv_from : ∀ (l : List G.Rg) (k : Nat) (h : k < l.length), (pv l)[k * 2]? = some (.int .i64 l[k].1)
  | r :: l, 0, _ => rfl
  | r :: l, k + 1, h => by
    rw [show (k + 1) * 2 = k * 2 + 1 + 1 by omega, pv_cons, List.getElem?_cons_succ, List.getElem?_cons_succ]
    exact pv_from l k (by simpa using h)
theorem pv_to : ∀ (l : List G.Rg) (k : Nat) (h : k < l.length), (pv l)[k * 2 + 1]? = some (.int .i64 l[k].2)
  | r :: l, 0, _ => rfl
  | r :: l, k + 1, h => by
    rw [show (k + 1) * 2 + 1 = (k * 2 + 1) + 1 + 1 by omega, pv_cons, List.getElem?_cons_succ, List.getElem?_cons_succ]
    exact pv_to l k (by simpa using h)
theorem pv_one (l : List G.Rg) : ∀ u ∈ pv l, u.oneCell' = true := by
  intro u hu
  unfold pv at hu
  obtain ⟨r, _, h⟩ := List.mem_flatMap.1 hu
  simp at h
  rcases h with rfl | rfl <;> rfl
theorem pv_take (l : List G.Rg) (k : Nat) : pv (l.take k) = (pv l).take (k * 2) := by
  rcases Nat.le_total k l.length with h | h
  · have e : pv l = pv (l.take k) ++ pv (l.drop k) := by rw [← pv_append, List.take_append_drop]
    have e2 : (pv (l.take k)).length = k * 2 := by rw [pv_len, List.length_take]; omega
    rw [e, ← e2, List.take_left]
  · have e1 : l.take k = l := List.take_of_length_le h
    have e2 : (pv l).take (k * 2) = pv l := List.take_of_length_le (by rw [pv_len]; omega)
    rw [e1, e2]
/-- The two cells of an element. -/
theorem Row.pair {w : World} {B : Nat} {A : Option Addr} {l : List G.Rg} (h : Row w B A (pv l)) {k : Nat} (hk : k < l.length) :
    ∃ b o, A = some ⟨b, o, none⟩ ∧ b < B ∧ w.cell? ⟨b, o + k * 2, none⟩ = some (.int .i64 l[k].1) ∧ w.cell? ⟨b, o + k * 2 + 1, none⟩ = some (.int .i64 l[k].2) := by
  obtain ⟨b, o, h1, h2, h3⟩ := h.at_ (k := k * 2) (by rw [pv_len]; omega)
  exact ⟨b, o, h1, h2, h3 _ _ (pv_from l k hk), by rw [Nat.add_assoc]; exact h3 _ _ (pv_to l k hk)⟩
/-- An element's load. -/
theorem load_pair {P : Program} {w : World} {b o : Nat} {x y : Value} (h1 : w.cell? ⟨b, o, none⟩ = some x) (h2 : w.cell? ⟨b, o + 1, none⟩ = some y) :
    (loadCellsFrom ⟨b, o, none⟩ 0 2 #[]).run P w = .ok #[x, y] w := by
  refine run_loadCellsFrom_list P w ⟨b, o, none⟩ [x, y] 2 rfl (fun i v hi => ?_)
  rw [Addr.add_lit]
  match i, hi with
  | 0, hi => simp at hi; subst hi; exact h1
  | 1, hi => simp at hi; subst hi; exact h2
  | i + 2, hi => simp at hi
namespace G
def lenR : List Rg → Int
  | [] => 0
  | r :: l => (r.2 - r.1) + lenR l
theorem lenR_snoc : ∀ (l : List Rg) (r : Rg), lenR (l ++ [r]) = lenR l + (r.2 - r.1)
  | [], r => by simp [lenR]
  | q :: l, r => by rw [List.cons_append, lenR, lenR, lenR_snoc l r]; omega
theorem lenR_bd : ∀ {l : List Rg} {lo hi : Int}, Canon lo l → (∀ r ∈ l, r.2 ≤ hi) → lo ≤ hi → 0 ≤ lenR l ∧ lenR l ≤ hi - lo
  | [], lo, hi, _, _, h => ⟨Int.le_refl _, by simp [lenR]; omega⟩
  | r :: l, lo, hi, hc, hh, _ => by
    have h2 := hh r (by simp)
    have ih := lenR_bd hc.2.2 (fun q hq => hh q (List.mem_cons_of_mem _ hq)) h2
    have h3 := hc.1
    have h4 := hc.2.1
    rw [lenR]; omega
theorem Set_.take {l : List Rg} (h : Set_ l) (k : Nat) : Set_ (l.take k) :=
  ⟨Canon.prefix (m := l.drop k) (by rw [List.take_append_drop]; exact h.1), fun r hr => h.2 r (List.mem_of_mem_take hr)⟩
theorem Set_.len {l : List Rg} (h : Set_ l) : 0 ≤ lenR l ∧ lenR l ≤ 1099511627777 := by
  have := lenR_bd (hi := 1099511627776) h.1 (fun r hr => by have := h.2 r hr; unfold INF at this; omega) (by omega)
  omega
theorem Set_.at_ {l : List Rg} (h : Set_ l) {k : Nat} (hk : k < l.length) : 0 ≤ l[k].1 ∧ l[k].1 < l[k].2 ∧ l[k].2 ≤ 1099511627776 := by
  have h1 := h.1.from_gt _ (List.getElem_mem hk)
  have h2 := h.2 _ (List.getElem_mem hk)
  unfold INF at h2
  omega
end G
end Go.Proofs.YtgjoldjfeobjgaaDoor
