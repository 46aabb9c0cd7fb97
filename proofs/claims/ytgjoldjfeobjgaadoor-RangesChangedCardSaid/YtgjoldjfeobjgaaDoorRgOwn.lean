/-
  The law's own; the reference's Len and Has.
-/
import Derived.Test.YtgjoldjfeobjgaaDoorRgAppend
import Derived.StillTailTactics
import Derived.Deep.RegionLaw
import Derived.RegionTactic
namespace Go.Proofs.YtgjoldjfeobjgaaDoor
open Go.RowKit

set_option maxRecDepth 100000 in
set_option maxHeartbeats 800000 in
theorem own_any (l : List G.Rg) (hn : l.length ≤ 60) (A : Option Addr) (c : Nat) (w : World) (hr : Row w w.heap.size A (pv l)) :
    Calls Tryd.prog 39 #[.slice A l.length c] w fun e w' => ∃ v, e = .returned v ∧ w'.ownsRow w.heap.size 61 2 v l.length (pv l) ∧ Below w.heap.size w w' := by
  obtain ⟨i0, hi, hz0, hz1, hz2⟩ := info_parts infoRange
  go_enter Tryd.func39, Tryd.ntmps39
  go_wp2_with fail
  go_loopw [3, 4] (fun v i wr => ∃ (k : Nat) (Av : Option Addr) (cv : Nat), k ≤ l.length ∧ i = .int .i64 (k : Int) ∧ v = .slice Av k cv ∧ wr.ownsRow w.heap.size 61 2 (.slice Av k cv) k (pv (l.take k)) ∧ Below w.heap.size w wr) (fun _ i _ => l.length - (intOf i).toNat)
  case atStart => exact ⟨0, none, 0, by omega, rfl, rfl, World.ownsRow_nil _ _ _ _, Below.refl _ _⟩
  case round =>
    obtain ⟨k, Av, cv, hk, rfl, rfl, hown, hb⟩ := hrel
    by_cases hlt : k < l.length
    · obtain ⟨b, o, rfl, hbB, c1, c2⟩ := hr.pair hlt
      have c1 := (hb.cell (p := ⟨b, o + k * 2, none⟩) hbB).trans c1
      have c2 := (hb.cell (p := ⟨b, o + k * 2 + 1, none⟩) hbB).trans c2
      have HT : Hid (pv (l.take (k + 1)) = pv (l.take k) ++ pv [(l[k].1, l[k].2)]) := by
        show _ = _
        rw [List.take_succ_eq_append_getElem hlt, pv_append]
      generalize l[k].1 = x at c1 HT
      generalize l[k].2 = y at c2 HT
      have hk60 : k < 60 := by omega
      go_wp2_with fail
      have hown2 : wr.drew.ownsRow w.heap.size 61 2 (.slice Av k cv) k (pv (l.take k)) := hown.drew
      have hb2 : Below w.heap.size w wr.drew := hb.drew
      go_region_law (refine step_append_row rfl _ _ rfl Tryd.underlying23 hi hz0 hz1 hz2 rfl (by decide) rfl (hown2.alloc _) rfl (row_two wr.drew x y _) (by rfl) (pv_one _) (by simp only [maxLen]; omega) (by omega) (by have := hb.size; simp; omega) ?_; intro v' w3 hown3 hgrow; obtain ⟨Av', cv', rfl, _⟩ := own_form hown3)
      all_goals
        go_wp2_with fail
        go_roundw
        case rel => exact ⟨k + 1, _, _, by omega, by go_num, rfl, by rw [HT.out]; exact hown3, (hb2.alloc hb2.size _).grown hgrow (by have := hb.size; simp; omega) (own_ge hown2)⟩
        case measure => simp [intOf]; omega
    · obtain rfl : k = l.length := by omega
      have e : l.take l.length = l := List.take_length
      rw [e] at hown
      clear e
      go_wp2_with fail
      go_ret
      exact ⟨_, rfl, hown, hb⟩

set_option maxHeartbeats 400000 in
theorem reflen_any (l : List G.Rg) (hs : G.Set_ l) (hn : l.length ≤ 100000) (A : Option Addr) (c : Nat) (w : World) (hr : Row w w.heap.size A (pv l)) :
    Calls Tryd.prog 38 #[.slice A l.length c] w fun e w' => e = .returned (.int .i64 (G.lenR l)) ∧ Below w.heap.size w w' := by
  go_enter Tryd.func38, Tryd.ntmps38
  go_wp2_with fail
  go_loopw [3, 4] (fun n i wr => ∃ k q : Nat, k ≤ l.length ∧ i = .int .i64 (k : Int) ∧ n = .int .i64 (G.lenR (l.take k)) ∧ wr = w.drewN q) (fun _ i _ => l.length - (intOf i).toNat)
  case atStart => exact ⟨0, 0, by omega, rfl, rfl, rfl⟩
  case round =>
    obtain ⟨k, q, hk, rfl, rfl, rfl⟩ := hrel
    have hlen := (hs.take k).len
    by_cases hlt : k < l.length
    · obtain ⟨b, o, rfl, hbB, c1, c2⟩ := hr.pair hlt
      have hat := hs.at_ hlt
      have hlen2 := (hs.take (k + 1)).len
      rw [List.take_succ_eq_append_getElem hlt, G.lenR_snoc] at hlen2
      have HS : Hid (G.lenR (l.take (k + 1)) = G.lenR (l.take k) + l[k].2 - l[k].1) := by
        show _ = _
        rw [List.take_succ_eq_append_getElem hlt, G.lenR_snoc]; omega
      generalize G.lenR (l.take k) = s at hlen hlen2 HS ⊢
      generalize l[k].1 = x at c1 HS hat hlen2
      generalize l[k].2 = y at c2 HS hat hlen2
      obtain ⟨a1, a2, a3⟩ := hat
      obtain ⟨b1, b2⟩ := hlen2
      obtain ⟨d1, d2⟩ := hlen
      have e1 : IntKind.i64.wrap (s + y) = s + y := by rw [IntKind.wrap_i64]; omega
      have e2 : IntKind.i64.wrap (s + y - x) = s + y - x := by rw [IntKind.wrap_i64]; omega
      go_wp2_with fail
      go_quiet (fail)
      clear e1 e2
      go_wp2_with fail
      go_roundw
      case rel => exact ⟨k + 1, _, by omega, by go_num, by rw [HS.out], rfl⟩
      case measure => simp [intOf]; omega
    · obtain rfl : k = l.length := by omega
      have e : l.take l.length = l := List.take_length
      rw [e]
      clear e
      go_wp2_with fail
      go_ret
      exact ⟨rfl, below_drewN2 (Below.refl _ _) _⟩
theorem refhas_any (l : List G.Rg) (x : Int) (hn : l.length ≤ 100000) (A : Option Addr) (c : Nat) (w : World) (hr : Row w w.heap.size A (pv l)) :
    Calls Tryd.prog 18 #[.slice A l.length c, .int .i64 x] w fun e w' => e = .returned (.bool (G.mem l x)) ∧ w = w' := by
  go_enter Tryd.func18, Tryd.ntmps18
  go_wp2_with fail
  go_loop [5] (fun i => ∃ k : Nat, k ≤ l.length ∧ i = .int .i64 (k : Int) ∧ Hid (G.mem (l.take k) x = false)) (fun i => l.length - (intOf i).toNat)
  case atStart => exact ⟨0, by omega, rfl, Lib.hid rfl⟩
  case round =>
    obtain ⟨k, hk, rfl, HM⟩ := hrel
    by_cases hlt : k < l.length
    · obtain ⟨b, o, rfl, hbB, c1, c2⟩ := hr.pair hlt
      have HS : Hid (G.mem (l.take (k + 1)) x = (decide (l[k].1 ≤ x) && decide (x < l[k].2))) := by
        show _ = _
        rw [List.take_succ_eq_append_getElem hlt, G.mem_append, HM.out, G.mem_one]; rfl
      have HI : Hid (l[k].1 ≤ x → x < l[k].2 → G.mem l x = true) := fun h1 h2 => G.mem_iff.2 ⟨l[k], List.getElem_mem hlt, h1, h2⟩
      generalize l[k].1 = u at c1 HS HI
      generalize l[k].2 = v at c2 HS HI
      by_cases h1 : u ≤ x
      · by_cases h2 : x < v
        · have HR : Hid (G.mem l x = true) := HI.out h1 h2
          go_wp2_with fail
          go_ret
          exact ⟨by rw [HR.out]; rfl, rfl⟩
        · have HR : Hid (G.mem (l.take (k + 1)) x = false) := by show _ = _; rw [HS.out, decide_eq_false h2, Bool.and_false]
          go_wp2_with fail
          go_round
          case rel => exact ⟨k + 1, by omega, by go_num, HR⟩
          case measure => simp [intOf]; omega
      · have HR : Hid (G.mem (l.take (k + 1)) x = false) := by show _ = _; rw [HS.out, decide_eq_false h1, Bool.false_and]
        go_wp2_with fail
        go_round
        case rel => exact ⟨k + 1, by omega, by go_num, HR⟩
        case measure => simp [intOf]; omega
    · obtain rfl : k = l.length := by omega
      have e : l.take l.length = l := List.take_length
      rw [e] at HM
      clear e
      go_wp2_with fail
      go_ret
      exact ⟨by rw [HM.out]; rfl, rfl⟩
end Go.Proofs.YtgjoldjfeobjgaaDoor
