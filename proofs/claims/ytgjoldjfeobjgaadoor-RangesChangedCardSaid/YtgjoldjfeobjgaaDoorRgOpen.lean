/-
  A slice of ranges, and of bytes, as it comes in.
-/
import Derived.Test.YtgjoldjfeobjgaaDoorRgFrame
import Derived.Test.YtgjoldjfeobjgaaDoorRgChg
import Derived.Deep.SlicePairs
import Derived.ChangeArms
import Derived.ChangeSlices
namespace Go.Proofs.YtgjoldjfeobjgaaDoor
open Go.ChangeShapes Go.WideShapes Go.ChangeAt Go.RowKit Go.Deep

def num1 : Value → Int
  | .int _ n => n
  | _ => 0
set_option maxRecDepth 100000 in
theorem open_ranges {H : Type} {enc : TypeId × Value → H} {W : World} {base : Nat} {v0 : Value} {d0 : DataW H} {p0 : List MemPlace} (hval : Value.okWide Tryd.prog W .any base 29 v0)
    (h0 : DataW.Trod enc Tryd.prog W 0 (fun _ => true) true 29 v0 d0 p0) : ∃ (l : List G.Rg) (A : Option Addr) (c : Nat), v0 = .slice A l.length c ∧ l.length ≤ c ∧ c ≤ maxLen ∧ Row W W.heap.size A (pv l) := by
  obtain ⟨a0, len0, cap0, rfl⟩ := okWide_slice Tryd.underlying29 hval
  obtain ⟨fuel, hf⟩ := h0
  rcases open_slice_pairs Tryd.underlying29 Tryd.underlying66 (by kernel_rfl) rfl rfl (by kernel_rfl) (by kernel_rfl) hf with ⟨hcs, _⟩ | ⟨a, len, cap, m, n, V0, V1, D0, D1, P0, P1, hcs, _, hl, hm, hmm, _, hcell⟩
  · simp [Value.cells] at hcs
    obtain ⟨rfl, rfl, rfl⟩ := hcs
    exact ⟨[], none, 0, rfl, Nat.le_refl _, by simp [maxLen], Row.nil _ _ _⟩
  · simp [Value.cells] at hcs
    obtain ⟨rfl, rfl, rfl⟩ := hcs
    have hm' : m = cap0 := by simpa using hmm
    have key : ∀ i, i < cap0 → W.cell? (a.add (i * 2)) = some (.int .i64 (num1 (V0 i))) ∧ W.cell? (a.add (i * 2 + 1)) = some (.int .i64 (num1 (V1 i))) := fun i hi => by
      obtain ⟨c0, c1, t0, t1⟩ := hcell i (by omega)
      obtain ⟨n0, e0, _⟩ := DataW.trod_int (k := .i64) Tryd.underlying3 t0
      obtain ⟨n1, e1, _⟩ := DataW.trod_int (k := .i64) Tryd.underlying3 t1
      injection e0 with e0
      injection e1 with e1
      rw [e0] at c0 ⊢
      rw [e1] at c1 ⊢
      exact ⟨c0, c1⟩
    refine ⟨(List.range len0).map fun i => (num1 (V0 i), num1 (V1 i)), some a, cap0, by simp, by simpa using hl, hm, ?_⟩
    by_cases h1 : len0 = 0
    · subst h1; exact Row.nil _ _ _
    · obtain ⟨b, off, spot⟩ := a
      have hc0 := (key 0 (by omega)).1
      have hspot : spot = none := by simpa [Addr.add] using World.cell?_spot hc0
      subst hspot
      have hb : b < W.heap.size := by
        by_cases hb : b < W.heap.size
        · exact hb
        · rw [show W.cell? (Addr.add ⟨b, off, none⟩ (0 * 2)) = none by simp [World.cell?, Addr.add, Array.getElem?_eq_none (Nat.le_of_not_lt hb)]] at hc0
          cases hc0
      refine .inr ⟨b, off, rfl, hb, fun j u hu => ?_⟩
      have hj : j < len0 * 2 := by
        have := (List.getElem?_eq_some_iff.1 hu).1
        rw [pv_len] at this
        simpa using this
      obtain ⟨k, hk⟩ : ∃ k, j / 2 = k := ⟨_, rfl⟩
      have hkl : k < ((List.range len0).map fun i => (num1 (V0 i), num1 (V1 i))).length := by simp; omega
      have hkk := key k (by omega)
      rw [Addr.add_lit, Addr.add_lit] at hkk
      rcases Nat.mod_two_eq_zero_or_one j with h | h
      · obtain rfl : j = k * 2 := by omega
        rw [pv_from _ _ hkl] at hu
        cases hu
        simpa using hkk.1
      · obtain rfl : j = k * 2 + 1 := by omega
        rw [pv_to _ _ hkl] at hu
        cases hu
        simpa [Nat.add_assoc] using hkk.2
set_option maxRecDepth 100000 in
theorem open_byteRow {H : Type} {enc : TypeId × Value → H} {W : World} {base : Nat} {v0 : Value} {d0 : DataW H} {p0 : List MemPlace} (hval : Value.okWide Tryd.prog W .any base 22 v0)
    (h0 : DataW.Trod enc Tryd.prog W 0 (fun _ => true) true 22 v0 d0 p0) : ∃ (l : List Int) (A : Option Addr) (c : Nat), v0 = .slice A l.length c ∧ l.length ≤ c ∧ c ≤ maxLen ∧ (∀ x ∈ l, (Lit.int .u8 x).wf = true) ∧ Row W W.heap.size A (bv l) := by
  obtain ⟨a0, len0, cap0, rfl⟩ := okWide_slice Tryd.underlying22 hval
  obtain ⟨fuel, hf⟩ := h0
  rcases open_ints Tryd.underlying22 Tryd.underlying5 (by kernel_rfl) hf with ⟨hcs, _⟩ | ⟨x, l, c, zs, hcs, _, hl, hm, hz, _, hcell, hwz⟩
  · simp [Value.cells] at hcs
    obtain ⟨rfl, rfl, rfl⟩ := hcs
    exact ⟨[], none, 0, rfl, Nat.le_refl _, by simp [maxLen], by simp, Row.nil _ _ _⟩
  · simp [Value.cells] at hcs
    obtain ⟨rfl, rfl, rfl⟩ := hcs
    have hz' : zs.length = cap0 := by simpa using hz
    refine ⟨zs.take len0, some x, cap0, by rw [List.length_take, Nat.min_eq_left (by omega)], by rw [List.length_take]; omega, hm, fun y hy => hwz y (List.mem_of_mem_take hy), ?_⟩
    by_cases h1 : len0 = 0
    · subst h1; exact Row.nil _ _ _
    · obtain ⟨b, off, spot⟩ := x
      have hc0 := hcell 0 (by omega)
      have hspot : spot = none := by simpa [Addr.add] using World.cell?_spot hc0
      subst hspot
      have hb : b < W.heap.size := by
        by_cases hb : b < W.heap.size
        · exact hb
        · rw [show W.cell? (Addr.add ⟨b, off, none⟩ 0) = none by simp [World.cell?, Addr.add, Array.getElem?_eq_none (Nat.le_of_not_lt hb)]] at hc0
          cases hc0
      refine .inr ⟨b, off, rfl, hb, fun j u hu => ?_⟩
      have hj : j < len0 := by
        have := (List.getElem?_eq_some_iff.1 hu).1
        rw [bv_len, List.length_take] at this
        omega
      have hjz : j < zs.length := by omega
      have hu' : u = .int .u8 zs[j] := by
        have : (bv (zs.take len0))[j]? = some (.int .u8 zs[j]) := by simp [bv, hj, hjz]
        rw [this] at hu
        exact (Option.some.inj hu).symm
      subst hu'
      have := hcell j hjz
      rw [Addr.add_lit] at this
      simpa [List.getD, hjz] using this
end Go.Proofs.YtgjoldjfeobjgaaDoor
