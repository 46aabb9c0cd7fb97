/-
  The law's same at two equal lists; made.
-/
import Derived.Test.YtgjoldjfeobjgaaDoorRgOf2
namespace Go.Proofs.YtgjoldjfeobjgaaDoor
open Go.RowKit

theorem ranges_any (l : List G.Rg) (hn : l.length ≤ 100000) (A : Option Addr) (c : Nat) (w : World) (hr : Row w w.heap.size A (pv l)) :
    Calls Tryd.prog 37 #[.agg #[.slice A l.length c]] w fun e w' => ∃ v, e = .returned v ∧ w'.ownsRow w.heap.size 61 2 v l.length (pv l) ∧ Below w.heap.size w w' := by
  have H : Hid (∀ o, Calls Tryd.prog 55 #[.slice A l.length c] (w.alloc o) fun e w' => ∃ v, e = .returned v ∧ w'.ownsRow w.heap.size 61 2 v l.length (pv l) ∧ Below w.heap.size w w') := fun o => by
    refine (clone_any l hn A c (w.alloc o) ((hr.alloc' o).more (by simp))).mono ?_
    rintro e w' ⟨v, he, h1, h2⟩
    exact ⟨v, he, own_mono h1 (by simp), ((Below.refl _ w).alloc (Nat.le_refl _) o).trans (h2.mono (by simp))⟩
  go_enter Tryd.func37, Tryd.ntmps37
  go_wp2_with (go_at_call 55; refine (H.out _).mono ?_; rintro e w1 ⟨v, rfl, own1, hb1⟩)
  go_ret
  exact ⟨_, rfl, own1, hb1⟩

set_option maxRecDepth 100000 in
set_option maxHeartbeats 2000000 in
theorem same_at {l : List G.Rg} (hs : G.Set_ l) (hn : l.length ≤ 5000) {w : World} {A1 A2 : Option Addr} {c1 c2 n1 n2 : Nat} (h1 : Row w w.heap.size A1 (pv l)) (h2 : Row w w.heap.size A2 (pv l)) (e1 : n1 = l.length) (e2 : n2 = l.length) :
    Calls Tryd.prog 15 #[.agg #[.slice A1 n1 c1], .slice A2 n2 c2] w fun e w' => e = .returned (.bool true) ∧ Below w.heap.size w w' := by
  subst e1
  subst e2
  have HR : Hid (∀ W, Below w.heap.size w W → Calls Tryd.prog 37 #[.agg #[.slice A1 l.length c1]] W fun e w' => ∃ v, e = .returned v ∧ w'.ownsRow W.heap.size 61 2 v l.length (pv l) ∧ Below W.heap.size W w') := fun W hb =>
    ranges_any l (by omega) A1 c1 W ((h1.below hb).more hb.size)
  obtain ⟨bz, hbz⟩ : ∃ bz, ((l.length : Int) == 0) = bz := ⟨_, rfl⟩
  have HE : Hid (∀ W, Calls Tryd.prog 34 #[.agg #[.slice A1 l.length c1]] W fun e w' => e = .returned (.bool bz) ∧ Below W.heap.size W w') := fun W => by
    have hd : decide (l.length = 0) = bz := by rw [← hbz, Bool.eq_iff_iff]; simp
    rw [← hd]
    exact empty_any A1 l.length c1 W
  have HL : Hid (∀ W, Below w.heap.size w W → Calls Tryd.prog 35 #[.agg #[.slice A1 l.length c1]] W fun e w' => e = .returned (.int .i64 (G.lenR l)) ∧ Below W.heap.size W w') := fun W hb =>
    len_any l hs (by omega) A1 c1 W ((h1.below hb).more hb.size)
  have HF : Hid (∀ W, Below w.heap.size w W → Calls Tryd.prog 38 #[.slice A2 l.length c2] W fun e w' => e = .returned (.int .i64 (G.lenR l)) ∧ Below W.heap.size W w') := fun W hb =>
    reflen_any l hs (by omega) A2 c2 W ((h2.below hb).more hb.size)
  have b0 := (Below.refl w.heap.size w).alloc (Nat.le_refl _) (.cells #[.slice A1 l.length c1] 25)
  have HB := Boxed.new w 25 (.slice A1 l.length c1)
  have hz0 : w.heap.size < (w.alloc (.cells #[.slice A1 l.length c1] 25)).heap.size := by simp
  generalize G.lenR l = len at HL HF
  go_enter Tryd.func15, Tryd.ntmps15
  go_wp2_with fail
  obtain ⟨W0, hW0⟩ : ∃ W, w.alloc (.cells #[.slice A1 l.length c1] 25) = W := ⟨_, rfl⟩
  rw [hW0] at b0 HB hz0 ⊢
  clear hW0
  refine (HR.out _ b0).mono ?_
  rintro e w1 ⟨v, rfl, own1, b1⟩
  obtain ⟨A3, c3, rfl, hc3⟩ := own_form own1
  have x1 : Boxed w1 w.heap.size 25 (.slice A1 l.length c1) := (b1.block _ hz0).trans HB
  have bb1 := b0.trans (b1.mono b0.size)
  have hx1 := x1.cell
  have hr3 : Row w1 w1.heap.size A3 (pv l) := own_row own1 (by decide)
  clear own1
  go_wp2_with fail
  refine (HE.out _).mono ?_
  rintro e w2 ⟨rfl, b2⟩
  have x2 : Boxed w2 w.heap.size 25 (.slice A1 l.length c1) := (b2.block _ x1.lt).trans x1
  have bb2 := bb1.trans (b2.mono bb1.size)
  have hx2 := x2.cell
  go_wp2_with fail
  refine (HL.out _ bb2).mono ?_
  rintro e w3 ⟨rfl, b3⟩
  have bb3 := bb2.trans (b3.mono bb2.size)
  go_wp2_with fail
  refine (HF.out _ bb3).mono ?_
  rintro e w4 ⟨rfl, b4⟩
  have bb4 := bb3.trans (b4.mono bb3.size)
  have b14 : Below w1.heap.size w1 w4 := b2.trans ((b3.trans (b4.mono b3.size)).mono b2.size)
  have r3 : Row w4 w1.heap.size A3 (pv l) := hr3.below b14
  have r2 : Row w4 w.heap.size A2 (pv l) := h2.below bb4
  clear hr3 b14 h1 h2 HR HE HL HF x1 x2 hx1 hx2 HB b0 b1 b2 b3 b4 bb1 bb2 bb3
  go_wp2_with fail
  go_loopw [6] (fun i wr => ∃ k q : Nat, k ≤ l.length ∧ i = .int .i64 (k : Int) ∧ wr = w4.drewN q) (fun i _ => l.length - (intOf i).toNat)
  case atStart => exact ⟨0, 0, by omega, rfl, rfl⟩
  case round =>
    obtain ⟨k, q, hk, rfl, rfl⟩ := hrel
    by_cases hlt : k < l.length
    · obtain ⟨b, o, rfl, hbB, d1, d2⟩ := r3.pair hlt
      obtain ⟨b', o', rfl, hbB', d3, d4⟩ := r2.pair hlt
      generalize l[k].1 = x at d1 d3
      generalize l[k].2 = y at d2 d4
      go_wp2_with fail
      go_quiet (fail)
      go_wp2_with fail
      go_roundw
      case rel => exact ⟨k + 1, _, by omega, by go_num, rfl⟩
      case measure => simp [intOf]; omega
    · obtain rfl : k = l.length := by omega
      go_wp2_with fail
      go_ret
      exact ⟨rfl, below_drewN2 bb4 _⟩
end Go.Proofs.YtgjoldjfeobjgaaDoor
