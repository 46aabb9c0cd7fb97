/-
  ranges: limited, Empty, Len, bound; the reference's Len, Has.
-/
import Derived.Test.YtgjoldjfeobjgaaDoorRgWords
namespace Go.Proofs.YtgjoldjfeobjgaaDoor
open Go.RowKit

theorem limited_yes (A : Option Addr) (n c : Nat) (hn : n ≤ 1024) (w : World) :
    Calls Tryd.prog 36 #[.slice A n c] w fun e w' => e = .returned (.tuple #[.agg #[.slice A n c], .int .i64 0]) ∧ Below w.heap.size w w' := by
  go_enter Tryd.func36, Tryd.ntmps36
  go_wp2_with fail
  exact bodyPost_ret (v := .tuple #[.agg #[.slice A n c], .int .i64 0]) (by simp [results, Tryd.results36, go_sem]) rfl ⟨rfl, ((Below.refl _ _).alloc (Nat.le_refl _) _)⟩
theorem limited_no (A : Option Addr) (n c : Nat) (hn : 1024 < n) (w : World) :
    Calls Tryd.prog 36 #[.slice A n c] w fun e w' => e = .returned (.tuple #[.agg #[.slice none 0 0], .int .i64 9]) ∧ Below w.heap.size w w' := by
  go_enter Tryd.func36, Tryd.ntmps36
  go_wp2_with fail
  exact bodyPost_ret (v := .tuple #[.agg #[.slice none 0 0], .int .i64 9]) (by simp [results, Tryd.results36, go_sem]) rfl ⟨rfl, ((Below.refl _ _).alloc (Nat.le_refl _) _)⟩
theorem empty_any (A : Option Addr) (n c : Nat) (w : World) :
    Calls Tryd.prog 34 #[.agg #[.slice A n c]] w fun e w' => e = .returned (.bool (decide (n = 0))) ∧ Below w.heap.size w w' := by
  have h : ((n : Int) == 0) = decide (n = 0) := by rw [Bool.eq_iff_iff]; simp
  have H := Lib.hid h
  clear h
  go_enter Tryd.func34, Tryd.ntmps34
  go_wp2_with fail
  go_ret
  exact ⟨by rw [← H.out]; rfl, ((Below.refl _ _).alloc (Nat.le_refl _) _)⟩

set_option maxHeartbeats 400000 in
theorem len_any (l : List G.Rg) (hs : G.Set_ l) (hn : l.length ≤ 100000) (A : Option Addr) (c : Nat) (w : World) (hr : Row w w.heap.size A (pv l)) :
    Calls Tryd.prog 35 #[.agg #[.slice A l.length c]] w fun e w' => e = .returned (.int .i64 (G.lenR l)) ∧ Below w.heap.size w w' := by
  go_enter Tryd.func35, Tryd.ntmps35
  go_wp2_with fail
  go_loopw [3, 9] (fun n i wr => ∃ k : Nat, k ≤ l.length ∧ i = .int .i64 (k : Int) ∧ n = .int .i64 (G.lenR (l.take k)) ∧ Below w.heap.size w wr) (fun _ i _ => l.length - (intOf i).toNat)
  case atStart => exact ⟨0, by omega, rfl, rfl, (Below.refl _ _).alloc (Nat.le_refl _) _⟩
  case round =>
    obtain ⟨k, hk, rfl, rfl, hb⟩ := hrel
    have hlen := (hs.take k).len
    by_cases hlt : k < l.length
    · obtain ⟨b, o, rfl, hbB, c1, c2⟩ := hr.pair hlt
      have c1 := (hb.cell (p := ⟨b, o + k * 2, none⟩) hbB).trans c1
      have c2 := (hb.cell (p := ⟨b, o + k * 2 + 1, none⟩) hbB).trans c2
      have hat := hs.at_ hlt
      have hlen2 := (hs.take (k + 1)).len
      rw [List.take_succ_eq_append_getElem hlt, G.lenR_snoc] at hlen2
      have HS : Hid (G.lenR (l.take (k + 1)) = G.lenR (l.take k) + (l[k].2 - l[k].1)) := by
        show _ = _
        rw [List.take_succ_eq_append_getElem hlt, G.lenR_snoc]
      obtain ⟨x, hx⟩ : ∃ x, l[k] = x := ⟨_, rfl⟩
      rw [hx] at c1 c2 hat hlen2 HS
      clear hx
      obtain ⟨x1, x2⟩ := x
      simp only at c1 c2 hat hlen2 HS
      obtain ⟨a1, a2, a3⟩ := hat
      obtain ⟨b1, b2⟩ := hlen2
      obtain ⟨d1, d2⟩ := hlen
      go_wp2_with fail
      go_roundw
      case rel => exact ⟨k + 1, by omega, by go_num, by rw [HS.out], hb.alloc hb.size _⟩
      case measure => simp [intOf]; omega
    · obtain rfl : k = l.length := by omega
      have e : l.take l.length = l := List.take_length
      rw [e]
      clear e
      go_wp2_with fail
      go_ret
      exact ⟨rfl, hb⟩

/-- An end of a set by its index. -/
theorem bound_any (l : List G.Rg) (hn : l.length ≤ 100000) (A : Option Addr) (c i : Nat) (hi : i ≤ 2 * l.length) (w : World) (hr : Row w w.heap.size A (pv l)) :
    Calls Tryd.prog 60 #[.slice A l.length c, .int .i64 (i : Int)] w fun e w' => e = .returned (.int .i64 ((G.ends l).getD i G.INF)) ∧ w = w' := by
  by_cases hlt : i < 2 * l.length
  · obtain ⟨k, hk⟩ : ∃ k, i / 2 = k := ⟨_, rfl⟩
    have hkl : k < l.length := by omega
    obtain ⟨b, o, rfl, hbB, c1, c2⟩ := hr.pair hkl
    have hq : (i : Int) / 2 = (k : Int) := by omega
    rcases Nat.mod_two_eq_zero_or_one i with h0 | h1
    · have hm : ((i : Int) % 2 == 0) = true := beq_iff_eq.2 (by omega)
      have e : (G.ends l).getD i G.INF = l[k].1 := by
        rw [List.getD_eq_getElem?_getD, show i = 2 * k by omega, G.ends_even, List.getElem?_eq_getElem hkl]; rfl
      rw [e]
      generalize l[k].1 = x at c1 ⊢
      clear hk e
      go_enter Tryd.func60, Tryd.ntmps60
      go_wp2_with fail
      go_ret
      exact ⟨rfl, rfl⟩
    · have hm : ((i : Int) % 2 == 0) = false := beq_eq_false_iff_ne.2 (by omega)
      have e : (G.ends l).getD i G.INF = l[k].2 := by
        rw [List.getD_eq_getElem?_getD, show i = 2 * k + 1 by omega, G.ends_odd, List.getElem?_eq_getElem hkl]; rfl
      rw [e]
      generalize l[k].2 = x at c2 ⊢
      clear hk e
      go_enter Tryd.func60, Tryd.ntmps60
      go_wp2_with fail
      go_ret
      exact ⟨rfl, rfl⟩
  · have e : (G.ends l).getD i G.INF = 1099511627777 := by
      rw [List.getD_eq_getElem?_getD, List.getElem?_eq_none (by rw [G.ends_len]; omega)]; rfl
    rw [e]
    clear e hi
    have hge : 2 * l.length ≤ i := by omega
    go_enter Tryd.func60, Tryd.ntmps60
    go_wp2_with fail
    go_ret
    exact ⟨rfl, rfl⟩
end Go.Proofs.YtgjoldjfeobjgaaDoor
