/-
  WORDS: strings as lists of bytes; a slice that reads as a list of cells.
-/
import Derived.Below
import Derived.Laws.OwnMore
import Derived.Laws.AppendOwn
import Derived.OwnWalk
import Derived.Deep.Draws
import Derived.Deep.AppendLies
import Derived.Lib.Strings
import Derived.Lib.Hide
namespace Go.Proofs.YtgjoldjfeobjgaaDoor
open Go.RowKit

/-- The string with these bytes. -/
def bs (l : List UInt8) : ByteArray := ⟨l.toArray⟩
theorem bs_data (l : List UInt8) : (bs l).data.toList = l := rfl
theorem bs_size (l : List UInt8) : (bs l).size = l.length := by simp [bs, ByteArray.size]
theorem bs_eq (s : ByteArray) : s = bs s.data.toList := by cases s; simp [bs]
theorem bs_of {s : ByteArray} {l : List UInt8} (h : s.data.toList = l) : s = bs l := by rw [← h]; exact bs_eq s
theorem bs_toList (l : List UInt8) : (bs l).toList = l := (Lib.toList_data _).trans (bs_data l)
theorem data_app (a b : ByteArray) : (a ++ b).data.toList = a.data.toList ++ b.data.toList := by
  rw [ByteArray.data_append]; simp
theorem bs_app (a b : List UInt8) : bs a ++ bs b = bs (a ++ b) := bs_of (by rw [data_app, bs_data, bs_data])
theorem bs_inj {a b : List UInt8} (h : bs a = bs b) : a = b := by rw [← bs_data a, h, bs_data]

theorem below_drewN2 {B : Nat} {a w : World} (h : Below B a w) (n : Nat) : Below B a (w.drewN n) := ⟨h.os, h.tape, h.output, h.size, h.block⟩
theorem bcell {W w1 : World} (hb : Below W.heap.size W w1) : (∀ b o, b < W.heap.size → w1.cell? ⟨b, o, none⟩ = W.cell? ⟨b, o, none⟩) ∧ (∀ b o, b < W.heap.size → w1.frozen? ⟨b, o, none⟩ = W.frozen? ⟨b, o, none⟩) :=
  ⟨fun b o h => hb.cell (p := ⟨b, o, none⟩) h, fun b o h => hb.frozen (p := ⟨b, o, none⟩) h⟩

/-- A slice that reads as these cells, below block B: empty, or a row at an address. -/
def Row (w : World) (B : Nat) (A : Option Addr) (vs : List Value) : Prop :=
  vs = [] ∨ ∃ b o, A = some ⟨b, o, none⟩ ∧ b < B ∧ ∀ j u, vs[j]? = some u → w.cell? ⟨b, o + j, none⟩ = some u

section
variable {w w' : World} {B B' : Nat} {A : Option Addr} {vs : List Value}
theorem Row.nil (w : World) (B : Nat) (A : Option Addr) : Row w B A [] := .inl rfl
theorem Row.at_ (h : Row w B A vs) {k : Nat} (hk : k < vs.length) : ∃ b o, A = some ⟨b, o, none⟩ ∧ b < B ∧ ∀ j u, vs[j]? = some u → w.cell? ⟨b, o + j, none⟩ = some u := by
  rcases h with rfl | h
  · simp at hk
  · exact h
theorem Row.keep (h : Row w B A vs) (hk : ∀ p : Addr, p.block < B → w'.cell? p = w.cell? p) : Row w' B A vs := by
  rcases h with h | ⟨b, o, h1, h2, h3⟩
  · exact .inl h
  · exact .inr ⟨b, o, h1, h2, fun j u hu => (hk ⟨b, o + j, none⟩ h2).trans (h3 j u hu)⟩
theorem Row.more (h : Row w B A vs) (hB : B ≤ B') : Row w B' A vs := by
  rcases h with h | ⟨b, o, h1, h2, h3⟩
  · exact .inl h
  · exact .inr ⟨b, o, h1, by omega, h3⟩
theorem Row.below (h : Row w B A vs) (hb : Below B w w') : Row w' B A vs := h.keep fun _ hp => hb.cell hp
theorem Row.belowH (h : Row w B A vs) (hb : Below w.heap.size w w') (hB : B ≤ w.heap.size) : Row w' B A vs := h.keep fun _ hp => hb.cell (by omega)
theorem Row.drewN (h : Row w B A vs) (k : Nat) : Row (w.drewN k) B A vs := h
theorem Row.take (h : Row w B A vs) (k : Nat) : Row w B A (vs.take k) := by
  rcases h with rfl | ⟨b, o, h1, h2, h3⟩
  · exact .inl (by simp)
  · refine .inr ⟨b, o, h1, h2, fun j u hu => h3 j u ?_⟩
    rw [List.getElem?_take] at hu
    split at hu
    · exact hu
    · cases hu
theorem Row.of_own {base : Nat} {e : TypeId} {c n : Nat} (h : w.ownsRow base e 1 (.slice A n c) n vs) : Row w w.heap.size A vs := by
  by_cases hn : 0 < n
  · obtain ⟨g, cap, hv, _, hlt⟩ := h.form hn
    have hA : A = some ⟨g, 0, none⟩ := by injection hv
    subst hA
    refine .inr ⟨g, 0, rfl, hlt, fun j u hu => ?_⟩
    have := h.cells (g := g) rfl j u hu
    simpa [Addr.add_lit] using this
  · have : vs.length = n * 1 := h.1
    exact .inl (List.eq_nil_of_length_eq_zero (by omega))
theorem own_cap {base : Nat} {e : TypeId} {size n c : Nat} {A : Option Addr} {xs : List Value} (h : w.ownsRow base e size (.slice A n c) n xs) : n ≤ c := by
  rcases h.2 with ⟨h1, h2⟩ | ⟨g', cap, cur, h1, _, _, h2, _⟩
  · omega
  · injection h1 with _ _ h3
    omega
theorem own_below {base : Nat} {e : TypeId} {size n : Nat} {v : Value} {xs : List Value} (h : w.ownsRow base e size v n xs) (hb : Below w.heap.size w w') : w'.ownsRow base e size v n xs := by
  refine h.kept (row := none) ⟨hb.os, hb.tape, hb.output, hb.size, fun i hi _ => hb.block i hi⟩ ?_
  cases hv : v.ownBlock with
  | none => exact .inl rfl
  | some g => exact .inr (by simp)
theorem own_ge {base : Nat} {e : TypeId} {size n : Nat} {v : Value} {xs : List Value} (h : w.ownsRow base e size v n xs) : ∀ g, v.ownBlock = some g → base ≤ g := by
  intro g hg
  rcases h.2 with ⟨rfl, _⟩ | ⟨g', cap, cur, rfl, h1, _⟩
  · simp [Value.ownBlock] at hg
  · have : g' = g := by simpa [Value.ownBlock] using hg
    omega
end
end Go.Proofs.YtgjoldjfeobjgaaDoor
