/-
  The law's made.
-/
import Derived.Test.YtgjoldjfeobjgaaDoorRgSame
import Derived.Deep.RegionWith
namespace Go.Proofs.YtgjoldjfeobjgaaDoor
open Go.RowKit

/-- The set of made. -/
def G.madeR (l : List G.Rg) : List G.Rg := (G.ofR (l.take 60)).2
theorem G.madeR_set (l : List G.Rg) : G.Set_ (G.madeR l) := G.ofR_set _
theorem G.madeR_len (l : List G.Rg) : (G.madeR l).length ≤ 60 := Nat.le_trans (G.ofR_len _) (by rw [List.length_take]; omega)

set_option maxRecDepth 100000 in
set_option maxHeartbeats 2000000 in
theorem made_any (l : List G.Rg) (hn : l.length ≤ maxLen) (A : Option Addr) (c : Nat) (hc : l.length ≤ c) (w : World) (hr : Row w w.heap.size A (pv l)) :
    Calls Tryd.prog 16 #[.slice A l.length c] w fun e w' => ∃ A1 c1 A2 c2, e = .returned (.tuple #[.agg #[.slice A1 (G.madeR l).length c1], .slice A2 (G.madeR l).length c2, .bool true]) ∧
      Row w' w'.heap.size A1 (pv (G.madeR l)) ∧ Row w' w'.heap.size A2 (pv (G.madeR l)) ∧ Below w.heap.size w w' := by
  obtain ⟨m, hm⟩ : ∃ m : Nat, min l.length 60 = m := ⟨_, rfl⟩
  have hm1 : min (l.length : Int) 60 = (m : Int) := by omega
  have hm2 : m ≤ c := by omega
  have hm3 : m ≤ 60 := by omega
  have hk : (l.take 60).length = m := by rw [List.length_take]; omega
  have hr2 : Row w w.heap.size A (pv (l.take 60)) := by rw [pv_take]; exact hr.take _
  have hset := G.madeR_set l
  have hlen := G.madeR_len l
  have HO : Hid (∀ W, Below w.heap.size w W → Calls Tryd.prog 39 #[.slice A m c] W fun e w' => ∃ v, e = .returned v ∧ w'.ownsRow W.heap.size 61 2 v m (pv (l.take 60)) ∧ Below W.heap.size W w') := fun W hb => by
    have := own_any (l.take 60) (by omega) A c W ((hr2.below hb).more hb.size)
    rw [hk] at this
    exact this
  have HF : Hid (∀ W A' c', Row W W.heap.size A' (pv (l.take 60)) → Calls Tryd.prog 33 #[.slice A' m c'] W fun e w' => ∃ v, e = .returned (.tuple #[.agg #[v], .int .i64 ((G.ofR (l.take 60)).1 : Int)]) ∧ w'.ownsRow W.heap.size 61 2 v (G.madeR l).length (pv (G.madeR l)) ∧ Below W.heap.size W w') := fun W A' c' h => by
    have := of_any (l.take 60) (by omega) A' c' W h
    rw [hk] at this
    exact this
  have HR : Hid (∀ W, Below w.heap.size w W → Calls Tryd.prog 40 #[.slice A m c] W fun e w' => ∃ v, e = .returned (.tuple #[v, .int .i64 ((G.ofR (l.take 60)).1 : Int)]) ∧ w'.ownsRow W.heap.size 66 2 v (G.madeR l).length (pv (G.madeR l)) ∧ Below W.heap.size W w') := fun W hb => by
    have := refof_any (l.take 60) (by omega) A c W ((hr2.below hb).more hb.size)
    rw [hk] at this
    exact this
  generalize (G.ofR (l.take 60)).1 = code at HF HR
  generalize G.madeR l = M at hset hlen HF HR ⊢
  clear hr hr2 hk hn
  go_enter Tryd.func16, Tryd.ntmps16
  go_wp2_with fail
  have x0 := Boxed.new w 25 (.slice none 0 0)
  have b0 : Below w.heap.size w (w.alloc (.cells #[.slice none 0 0] 25)) := (Below.refl _ _).alloc (Nat.le_refl _) _
  generalize w.alloc _ = W0 at x0 b0 ⊢
  refine (HO.out _ b0).mono ?_
  rintro e w1 ⟨v1, rfl, own1, hb1⟩
  obtain ⟨A0, q0, rfl, hq0⟩ := own_form own1
  have r1 : Row w1 w1.heap.size A0 (pv (l.take 60)) := own_row own1 (by decide)
  have x1 : Boxed w1 w.heap.size 25 (.slice none 0 0) := (hb1.block _ x0.lt).trans x0
  have b1 := b0.trans (hb1.mono b0.size)
  clear own1 hb1 x0 b0
  go_wp2_with fail
  refine (HF.out _ _ _ r1).mono ?_
  rintro e w2 ⟨v2, rfl, own2, hb2⟩
  obtain ⟨A1, q1, rfl, hq1⟩ := own_form own2
  have r2 : Row w2 w2.heap.size A1 (pv M) := own_row own2 (by decide)
  have x2 : Boxed w2 w.heap.size 25 (.slice none 0 0) := (hb2.block _ x1.lt).trans x1
  have b2 := b1.trans (hb2.mono b1.size)
  have y2 := x2.cell
  have f2 := x2.frozen
  have l2 := x2.lt
  have r2s : Row (w2.setCell ⟨w.heap.size, 0, none⟩ (.slice A1 M.length q1)) (w2.setCell ⟨w.heap.size, 0, none⟩ (.slice A1 M.length q1)).heap.size A1 (pv M) := own_row (own_set own2 x1.lt (.slice A1 M.length q1)) (by decide)
  clear own2 hb2 x1 b1 r1 r2
  go_wp2_with fail
  have x3 : Boxed (w2.setCell ⟨w.heap.size, 0, none⟩ (.slice A1 M.length q1)) w.heap.size 25 (.slice A1 M.length q1) := x2.set _
  have b3 : Below w.heap.size w (w2.setCell ⟨w.heap.size, 0, none⟩ (.slice A1 M.length q1)) := b2.setCell (p := ⟨w.heap.size, 0, none⟩) (Nat.le_refl _) _
  clear y2 f2 l2 x2 b2
  generalize w2.setCell _ _ = W3 at x3 b3 r2s ⊢
  refine (HR.out _ b3).mono ?_
  rintro e w4 ⟨v4, rfl, own4, hb4⟩
  obtain ⟨A2, q2, rfl, hq2⟩ := own_form own4
  have r4 : Row w4 w4.heap.size A2 (pv M) := own_row own4 (by decide)
  have r3 : Row w4 w4.heap.size A1 (pv M) := (r2s.below hb4).more hb4.size
  have x4 : Boxed w4 w.heap.size 25 (.slice A1 M.length q1) := (hb4.block _ x3.lt).trans x3
  have b4 := b3.trans (hb4.mono b3.size)
  have y4 := x4.cell
  have f4 := x4.frozen
  have l4 := x4.lt
  have HS : Hid (∀ W, Below w4.heap.size w4 W → Calls Tryd.prog 15 #[.agg #[.slice A1 M.length q1], .slice A2 M.length q2] W fun e w' => e = .returned (.bool true) ∧ Below W.heap.size W w' ∧ Boxed w' w.heap.size 25 (.slice A1 M.length q1) ∧ Below w.heap.size w w' ∧ Row w' w'.heap.size A1 (pv M) ∧ Row w' w'.heap.size A2 (pv M) ∧
      Row (w'.setCell ⟨w.heap.size, 0, none⟩ (.slice A1 M.length q1)) (w'.setCell ⟨w.heap.size, 0, none⟩ (.slice A1 M.length q1)).heap.size A1 (pv M) ∧ Row (w'.setCell ⟨w.heap.size, 0, none⟩ (.slice A1 M.length q1)) (w'.setCell ⟨w.heap.size, 0, none⟩ (.slice A1 M.length q1)).heap.size A2 (pv M)) := fun W hW => by
    refine (same_at hset (by omega) ((r3.below hW).more hW.size) ((r4.below hW).more hW.size) rfl rfl).mono ?_
    rintro e w' ⟨he, hb⟩
    have hb' := hW.trans (hb.mono hW.size)
    have hx : Boxed w' w.heap.size 25 (.slice A1 M.length q1) := (hb'.block _ l4).trans x4
    have hr3 := (r3.below hb').more hb'.size
    have hr4 := (r4.below hb').more hb'.size
    have hself : w'.setCell ⟨w.heap.size, 0, none⟩ (.slice A1 M.length q1) = w' := by
      rw [setCell_eq_setRow w' _ 0 #[.slice A1 M.length q1] _ _ _ hx]
      exact setRow_self w' _ _ _ _ hx
    exact ⟨he, hb, hx, b4.trans (hb'.mono b4.size), hr3, hr4, by rw [hself]; exact hr3, by rw [hself]; exact hr4⟩
  clear own4 hb4 r2s x3 b3 HO HF HR r3 r4
  go_wp2_with fail
  go_region_with (go_at_call 15; refine (HS.out _ (by first | exact Below.refl _ _ | exact (Below.refl _ _).drew)).mono ?_; rintro e w5 ⟨rfl, hb5, x5, b5, r5, r6, r7, r8⟩; have y5 := x5.cell; have f5 := x5.frozen; have l5 := x5.lt)
  all_goals
    go_wp2_with fail
    refine bodyPost_ret (v := .tuple #[.agg #[.slice A1 M.length q1], .slice A2 M.length q2, .bool true]) (by simp [results, Tryd.results16, go_sem, y5, l5]) rfl ⟨A1, q1, A2, q2, rfl, r7, r8, b5.setCell (p := ⟨w.heap.size, 0, none⟩) (Nat.le_refl _) _⟩
end Go.Proofs.YtgjoldjfeobjgaaDoor
