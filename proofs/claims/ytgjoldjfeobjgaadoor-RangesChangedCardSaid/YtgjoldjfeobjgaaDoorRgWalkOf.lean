/-
  RangesOf: the walk.
-/
import Derived.Test.YtgjoldjfeobjgaaDoorRgMade
import Derived.Test.YtgjoldjfeobjgaaDoorRgHas
import Derived.Test.YtgjoldjfeobjgaaDoorRgKnown
namespace Go.Proofs.YtgjoldjfeobjgaaDoor
open Go.RowKit

theorem has_at {l : List G.Rg} (hs : G.Set_ l) (hn : l.length ≤ 100000) {A : Option Addr} {c n : Nat} (x : Int) {w : World} (hr : Row w w.heap.size A (pv l)) (e : n = l.length) :
    Calls Tryd.prog 17 #[.agg #[.slice A n c], .int .i64 x] w fun e w' => e = .returned (.bool (G.mem l x)) ∧ Below w.heap.size w w' := by
  subst e; exact has_any l hs hn A c x w hr
theorem refhas_at {l : List G.Rg} (hn : l.length ≤ 100000) {A : Option Addr} {c n : Nat} (x : Int) {w : World} (hr : Row w w.heap.size A (pv l)) (e : n = l.length) :
    Calls Tryd.prog 18 #[.slice A n c, .int .i64 x] w fun e w' => e = .returned (.bool (G.mem l x)) ∧ w = w' := by
  subst e; exact refhas_any l x hn A c w hr

set_option maxRecDepth 100000 in
set_option maxHeartbeats 2000000 in
theorem walkOf (l : List G.Rg) (hn : l.length ≤ maxLen) (A : Option Addr) (c : Nat) (hc : l.length ≤ c) (x : Int) (w : World) (hr : Row w w.heap.size A (pv l)) (he : Env w) :
    Calls Tryd.prog 4 #[.slice A l.length c, .int .i64 x] w fun e w' => e = .returned (.bool true) ∧ Below w.heap.size w w' := by
  have HM := Lib.hid (made_any l hn A c hc w hr)
  have hset := G.madeR_set l
  have hlen := G.madeR_len l
  generalize G.madeR l = M at HM hset hlen
  clear hn hc hr
  go_enter Tryd.func4, Tryd.ntmps4
  go_wp2_with fail
  refine HM.out.mono ?_
  rintro e w1 ⟨A1, q1, A2, q2, rfl, r1, r2, b1⟩
  clear HM
  have x1 := Boxed.new w1 25 (.slice A1 M.length q1)
  have r1' : Row (w1.alloc (.cells #[.slice A1 M.length q1] 25)) (w1.alloc (.cells #[.slice A1 M.length q1] 25)).heap.size A1 (pv M) := (r1.alloc' _).more (by simp)
  have r2' : Row (w1.alloc (.cells #[.slice A1 M.length q1] 25)) (w1.alloc (.cells #[.slice A1 M.length q1] 25)).heap.size A2 (pv M) := (r2.alloc' _).more (by simp)
  have b1' := b1.alloc b1.size (.cells #[.slice A1 M.length q1] 25)
  clear r1 r2 b1
  go_wp2_with fail
  generalize w1.alloc _ = W1 at x1 r1' r2' b1' ⊢
  refine (known_any _ (he.below b1')).mono ?_
  rintro e w2 ⟨rfl, hb2⟩
  have x2 : Boxed w2 w1.heap.size 25 (.slice A1 M.length q1) := (hb2.block _ x1.lt).trans x1
  have r3 := (r1'.below hb2).more hb2.size
  have r4 := (r2'.below hb2).more hb2.size
  have b2 := b1'.trans (hb2.mono b1'.size)
  have y2 := x2.cell
  clear x1 r1' r2' b1' hb2
  go_wp2_with fail
  refine (has_at hset (by omega) x r3 rfl).mono ?_
  rintro e w3 ⟨rfl, hb3⟩
  have r5 := (r4.below hb3).more hb3.size
  have b3 := b2.trans (hb3.mono b2.size)
  clear x2 r3 r4 b2 y2 hb3
  go_wp2_with fail
  refine (refhas_at (by omega) x r5 rfl).mono ?_
  rintro e w4 ⟨rfl, rfl⟩
  have hbb : (G.mem M x == G.mem M x) = true := by simp
  generalize G.mem M x = bb at hbb ⊢
  go_wp2_with fail
  go_ret
  exact ⟨by simp, b3⟩
end Go.Proofs.YtgjoldjfeobjgaaDoor
