/-
  The law's known.
-/
import Derived.Test.YtgjoldjfeobjgaaDoorRgStr
import Derived.Test.YtgjoldjfeobjgaaDoorRgSame
import Derived.Test.YtgjoldjfeobjgaaDoorRgChg2
import Derived.Test.YtgjoldjfeobjgaaDoorRgBlk2
import Derived.Test.YtgjoldjfeobjgaaDoorRgOf2
import Derived.Lib.SmallJoins
namespace Go.Proofs.YtgjoldjfeobjgaaDoor
open Go.RowKit

/-- A new block's cells as a row. -/
theorem row_new' (W : World) (vs : List Value) (T : TypeId) (fr : Nat × Nat) : Row (W.alloc (.cells vs.toArray T fr)) (W.heap.size + 1) (some ⟨W.heap.size, 0, none⟩) vs := by
  refine .inr ⟨W.heap.size, 0, rfl, by omega, fun j u hu => ?_⟩
  have h := World.alloc_heap_new W (.cells vs.toArray T fr)
  simp only [World.cell?, h]
  simpa using hu
theorem row_new (W : World) (vs : List Value) (T : TypeId) : Row (W.alloc (.cells vs.toArray T)) (W.heap.size + 1) (some ⟨W.heap.size, 0, none⟩) vs := by
  refine .inr ⟨W.heap.size, 0, rfl, by omega, fun j u hu => ?_⟩
  have h := World.alloc_heap_new W (.cells vs.toArray T)
  simp only [World.cell?, h]
  simpa using hu
namespace G
theorem k_of : ofR [(3, 4), (8, 10), (9, 12)] = (0, [(3, 4), (8, 12)]) := by decide
theorem k_blk : blkR 4 [(3, 4), (8, 12)] = (0, [0, 2]) := by decide
theorem k_chg : chgR [97, 98, 99, 100] [97, 120, 99] = (0, [(1, 2), (3, 4)]) := by decide
theorem k_text : bs (textR [(3, 4), (8, 12)]) = ⟨#[51, 43, 49, 32, 56, 43, 52]⟩ := by
  simp only [textR, List.map, itemT, join32]
  rw [show ((3 : Int)).toNat = 3 from rfl, show ((4 : Int) - 3).toNat = 1 from rfl, show ((8 : Int)).toNat = 8 from rfl, show ((12 : Int) - 8).toNat = 4 from rfl, decDigits_small (by omega), decDigits_small (by omega), decDigits_small (by omega), decDigits_small (by omega)]
  rfl
theorem k_s1 : Set_ [(3, 4), (8, 12)] := ⟨by simp [Canon], by simp [INF]⟩
theorem k_s2 : Set_ [(1, 2), (3, 4)] := ⟨by simp [Canon], by simp [INF]⟩
end G

set_option maxRecDepth 100000 in
set_option maxHeartbeats 4000000 in
theorem known_any (w : World) (he : Env w) :
    Calls Tryd.prog 14 #[] w fun e w' => e = .returned (.bool true) ∧ Below w.heap.size w w' := by
  have HO : Hid (∀ (W : World) (A : Option Addr) (c : Nat), Row W W.heap.size A (pv [(3, 4), (8, 10), (9, 12)]) → Calls Tryd.prog 33 #[.slice A 3 c] W fun e w' => ∃ v, e = .returned (.tuple #[.agg #[v], .int .i64 0]) ∧ w'.ownsRow W.heap.size 61 2 v 2 (pv [(3, 4), (8, 12)]) ∧ Below W.heap.size W w') := fun W A c hr => by
    have h := of_any [(3, 4), (8, 10), (9, 12)] (by decide) A c W hr
    rw [G.k_of] at h
    exact h
  have HB : Hid (∀ (W : World) (A : Option Addr) (c : Nat), Row W W.heap.size A (pv [(3, 4), (8, 12)]) → Calls Tryd.prog 19 #[.agg #[.slice A 2 c], .int .i64 4] W fun e w' => ∃ v, e = .returned (.tuple #[v, .int .i64 0]) ∧ w'.ownsRow W.heap.size 3 1 v 2 (iv [0, 2]) ∧ Below W.heap.size W w') := fun W A c hr => by
    have h := blocks_any [(3, 4), (8, 12)] G.k_s1 (by decide) 4 A c W hr
    rw [G.k_blk] at h
    exact h
  have HC : Hid (∀ (W : World) (A B : Option Addr) (c d : Nat), Row W W.heap.size A (bv [97, 98, 99, 100]) → Row W W.heap.size B (bv [97, 120, 99]) → Calls Tryd.prog 12 #[.slice A 4 c, .slice B 3 d] W fun e w' => ∃ v, e = .returned (.tuple #[.agg #[v], .int .i64 0]) ∧ w'.ownsRow W.heap.size 61 2 v 2 (pv [(1, 2), (3, 4)]) ∧ Below W.heap.size W w') := fun W A B c d hr hr2 => by
    have h := changed_any [97, 98, 99, 100] [97, 120, 99] (by decide) (by decide) A B c d W hr hr2
    rw [G.k_chg] at h
    exact h
  have HT : Hid (∀ (W : World) (A : Option Addr) (c : Nat), Env W → Row W W.heap.size A (pv [(3, 4), (8, 12)]) → Calls Tryd.prog 30 #[.agg #[.slice A 2 c]] W fun e w' => e = .returned (.string ⟨#[51, 43, 49, 32, 56, 43, 52]⟩) ∧ Below W.heap.size W w') := fun W A c heW hr => by
    rw [← G.k_text]
    exact text_any [(3, 4), (8, 12)] G.k_s1 (by decide) A c W hr heW
  have HS1 : Hid (∀ (W : World) (A B : Option Addr) (c d : Nat), Row W W.heap.size A (pv [(3, 4), (8, 12)]) → Row W W.heap.size B (pv [(3, 4), (8, 12)]) → Calls Tryd.prog 15 #[.agg #[.slice A 2 c], .slice B 2 d] W fun e w' => e = .returned (.bool true) ∧ Below W.heap.size W w') := fun W A B c d h1 h2 => same_at G.k_s1 (by decide) h1 h2 rfl rfl
  have HS2 : Hid (∀ (W : World) (A B : Option Addr) (c d : Nat), Row W W.heap.size A (pv [(1, 2), (3, 4)]) → Row W W.heap.size B (pv [(1, 2), (3, 4)]) → Calls Tryd.prog 15 #[.agg #[.slice A 2 c], .slice B 2 d] W fun e w' => e = .returned (.bool true) ∧ Below W.heap.size W w') := fun W A B c d h1 h2 => same_at G.k_s2 (by decide) h1 h2 rfl rfl
  go_enter Tryd.func14, Tryd.ntmps14
  go_wp2_with fail
  refine (HO.out _ _ _ (row_new _ (pv [(3, 4), (8, 10), (9, 12)]) _ |>.more (by simp))).mono ?_
  rintro e w1 ⟨v, rfl, own1, hb1⟩
  obtain ⟨A1, q1, rfl, hq1⟩ := own_form own1
  have b1 : Below w.heap.size w w1 := ((Below.refl _ _).alloc (Nat.le_refl _) _).trans (hb1.mono (by simp))
  have r1 : Row w1 w1.heap.size A1 (pv [(3, 4), (8, 12)]) := own_row own1 (by decide)
  clear own1 hb1
  have x1 : Boxed (w1.alloc (.cells #[.slice A1 2 q1] 25)) w1.heap.size 25 (.slice A1 2 q1) := Boxed.new _ _ _
  have y1 := x1.cell
  go_wp2_with fail
  clear y1
  generalize hW : w1.alloc _ = W1 at x1 ⊢
  have b1' : Below w.heap.size w W1 := by rw [← hW]; exact b1.alloc b1.size _
  have r1' : Row W1 W1.heap.size A1 (pv [(3, 4), (8, 12)]) := by rw [← hW]; exact (r1.alloc' _).more (by simp)
  clear hW r1 b1
  refine (HB.out _ _ _ r1').mono ?_
  rintro e w2 ⟨v2, rfl, own2, hb2⟩
  obtain ⟨A2, q2, rfl, hq2⟩ := own_form own2
  have b2 : Below w.heap.size w w2 := b1'.trans (hb2.mono b1'.size)
  have x2 : Boxed w2 w1.heap.size 25 (.slice A1 2 q1) := (hb2.block _ x1.lt).trans x1
  have r2 : Row w2 w2.heap.size A1 (pv [(3, 4), (8, 12)]) := (r1'.below hb2).more hb2.size
  have n2 : Row w2 w2.heap.size A2 (iv [0, 2]) := Row.of_own own2
  clear own2 hb2 x1 r1' b1'
  have kc1 := fun (C : Array Value) (n c : Nat) => Lib.run_convert_bytes_const (P := Tryd.prog) w2 22 5 C n c Tryd.underlying22 Tryd.underlying5
  have kc2 := fun (D C : Array Value) (f : Nat × Nat) (n c : Nat) => Go.Joins.run_convert_bytes_const_at (P := Tryd.prog) (w2.alloc (.cells D 5 f)) 22 5 C n c (w2.heap.size + 1) (by simp) Tryd.underlying22 Tryd.underlying5
  go_wp2_with fail
  clear kc1 kc2
  generalize hW : w2.alloc (.cells #[.int .u8 97, .int .u8 98, .int .u8 99, .int .u8 100] 5 _) = W2
  have b2' : Below w.heap.size w W2 := by rw [← hW]; exact b2.alloc b2.size _
  have x2' : Boxed W2 w1.heap.size 25 (.slice A1 2 q1) := by rw [← hW]; exact x2.alloc _
  have r2' : Row W2 W2.heap.size A1 (pv [(3, 4), (8, 12)]) := by rw [← hW]; exact (r2.alloc' _).more (by simp)
  have n2' : Row W2 W2.heap.size A2 (iv [0, 2]) := by rw [← hW]; exact (n2.alloc' _).more (by simp)
  have m1 : Row W2 W2.heap.size (some ⟨w2.heap.size, 0, none⟩) (bv [97, 98, 99, 100]) := by rw [← hW]; exact (row_new' w2 (bv [97, 98, 99, 100]) _ _).more (by simp)
  have hsz : w2.heap.size + 1 = W2.heap.size := by rw [← hW]; simp
  rw [hsz]
  clear hW b2 x2 r2 n2
  generalize hW : W2.alloc _ = W3
  have b3 : Below w.heap.size w W3 := by rw [← hW]; exact b2'.alloc b2'.size _
  have x3 : Boxed W3 w1.heap.size 25 (.slice A1 2 q1) := by rw [← hW]; exact x2'.alloc _
  have r3 : Row W3 W3.heap.size A1 (pv [(3, 4), (8, 12)]) := by rw [← hW]; exact (r2'.alloc' _).more (by simp)
  have n3 : Row W3 W3.heap.size A2 (iv [0, 2]) := by rw [← hW]; exact (n2'.alloc' _).more (by simp)
  have m3 : Row W3 W3.heap.size (some ⟨w2.heap.size, 0, none⟩) (bv [97, 98, 99, 100]) := by rw [← hW]; exact (m1.alloc' _).more (by simp)
  have m4 : Row W3 W3.heap.size (some ⟨W2.heap.size, 0, none⟩) (bv [97, 120, 99]) := by rw [← hW]; exact (row_new' W2 (bv [97, 120, 99]) _ _).more (by simp)
  clear hW b2' x2' r2' n2' m1 hsz
  refine (HC.out _ _ _ _ _ m3 m4).mono ?_
  rintro e w4 ⟨v4, rfl, own4, hb4⟩
  obtain ⟨A3, q3, rfl, hq3⟩ := own_form own4
  have b4 : Below w.heap.size w w4 := b3.trans (hb4.mono b3.size)
  have x4 : Boxed w4 w1.heap.size 25 (.slice A1 2 q1) := (hb4.block _ x3.lt).trans x3
  have r4 : Row w4 w4.heap.size A1 (pv [(3, 4), (8, 12)]) := (r3.below hb4).more hb4.size
  have n4 : Row w4 w4.heap.size A2 (iv [0, 2]) := (n3.below hb4).more hb4.size
  have r5 : Row w4 w4.heap.size A3 (pv [(1, 2), (3, 4)]) := own_row own4 (by decide)
  clear own4 hb4 x3 r3 b3 n3 m3 m4
  have HST : Hid (∀ W W' : World, (Below w.heap.size w W ∧ Boxed W w1.heap.size 25 (.slice A1 2 q1) ∧ Row W W.heap.size A1 (pv [(3, 4), (8, 12)]) ∧ Row W W.heap.size A2 (iv [0, 2]) ∧ Row W W.heap.size A3 (pv [(1, 2), (3, 4)]) ∧ Boxed W w4.heap.size 25 (.slice A3 2 q3)) → Below W.heap.size W W' → (Below w.heap.size w W' ∧ Boxed W' w1.heap.size 25 (.slice A1 2 q1) ∧ Row W' W'.heap.size A1 (pv [(3, 4), (8, 12)]) ∧ Row W' W'.heap.size A2 (iv [0, 2]) ∧ Row W' W'.heap.size A3 (pv [(1, 2), (3, 4)]) ∧ Boxed W' w4.heap.size 25 (.slice A3 2 q3))) := by
    rintro W W' ⟨h1, h2, h3, h4, h5, h6⟩ hb
    exact ⟨h1.trans (hb.mono h1.size), (hb.block _ h2.lt).trans h2, (h3.below hb).more hb.size, (h4.below hb).more hb.size, (h5.below hb).more hb.size, (hb.block _ h6.lt).trans h6⟩
  have S0 : Below w.heap.size w (w4.alloc (.cells #[.slice A3 2 q3] 25)) ∧ Boxed (w4.alloc (.cells #[.slice A3 2 q3] 25)) w1.heap.size 25 (.slice A1 2 q1) ∧ Row (w4.alloc (.cells #[.slice A3 2 q3] 25)) (w4.alloc (.cells #[.slice A3 2 q3] 25)).heap.size A1 (pv [(3, 4), (8, 12)]) ∧ Row (w4.alloc (.cells #[.slice A3 2 q3] 25)) (w4.alloc (.cells #[.slice A3 2 q3] 25)).heap.size A2 (iv [0, 2]) ∧ Row (w4.alloc (.cells #[.slice A3 2 q3] 25)) (w4.alloc (.cells #[.slice A3 2 q3] 25)).heap.size A3 (pv [(1, 2), (3, 4)]) ∧ Boxed (w4.alloc (.cells #[.slice A3 2 q3] 25)) w4.heap.size 25 (.slice A3 2 q3) :=
    ⟨b4.alloc b4.size _, x4.alloc _, (r4.alloc' _).more (by simp), (n4.alloc' _).more (by simp), (r5.alloc' _).more (by simp), Boxed.new _ _ _⟩
  have y1 := S0.2.1.cell
  clear b4 x4 r4 n4 r5
  go_wp2_with fail
  clear y1
  have hz4 : w4.heap.size + 1 = (w4.alloc (.cells #[.slice A3 2 q3] 25)).heap.size := by simp
  rw [hz4]
  generalize w4.alloc _ = W4 at S0 ⊢
  clear hz4
  have S1 := HST.out _ (W4.alloc (.cells (pv [(3, 4), (8, 12)]).toArray 66)) S0 ((Below.refl _ _).alloc (Nat.le_refl _) _)
  refine (HS1.out _ _ _ _ _ S1.2.2.1 ((row_new W4 (pv [(3, 4), (8, 12)]) _).more (by simp))).mono ?_
  rintro e w5 ⟨rfl, hb5⟩
  have S2 := HST.out _ _ S1 hb5
  have y2 := S2.2.1.cell
  clear S0 S1 hb5
  go_wp2_with fail
  clear y2
  refine (HT.out _ _ _ (he.below S2.1) S2.2.2.1).mono ?_
  rintro e w6 ⟨rfl, hb6⟩
  have S3 := HST.out _ _ S2 hb6
  obtain ⟨b, o, hA2, hbB, i1⟩ := S3.2.2.2.1.num (k := 0) (by decide)
  obtain ⟨b', o', hA2', _, i2⟩ := S3.2.2.2.1.num (k := 1) (by decide)
  have hee : (⟨b', o', none⟩ : Addr) = ⟨b, o, none⟩ := Option.some.inj (hA2'.symm.trans hA2)
  injection hee with e1 e2
  subst e1 e2 hA2
  simp only [List.getElem_cons_zero, List.getElem_cons_succ, Nat.add_zero] at i1 i2
  have y3 := S3.2.2.2.2.2.cell
  clear S2 hb6 hA2'
  go_wp2_with fail
  clear y3
  have S4 := HST.out _ (w6.alloc (.cells (pv [(1, 2), (3, 4)]).toArray 66)) S3 ((Below.refl _ _).alloc (Nat.le_refl _) _)
  refine (HS2.out _ _ _ _ _ S4.2.2.2.2.1 ((row_new w6 (pv [(1, 2), (3, 4)]) _).more (by simp))).mono ?_
  rintro e w7 ⟨rfl, hb7⟩
  have S5 := HST.out _ _ S4 hb7
  go_wp2_with fail
  go_ret
  exact ⟨rfl, S5.1⟩
end Go.Proofs.YtgjoldjfeobjgaaDoor
