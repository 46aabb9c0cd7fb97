/-
  RangesLong: the walk.
-/
import Derived.Test.YtgjoldjfeobjgaaDoorRgKnown
namespace Go.Proofs.YtgjoldjfeobjgaaDoor
open Go.RowKit

theorem infoByte : (Tryd.prog.info? 5).map (fun i => (i.zero, i.size, i.bytes)) = some (some (.int .u8 0), 1, 1) := by kernel_rfl
theorem zeros_eq (n : Nat) : (madeCells #[.int .u8 0] n).toList = bv (List.replicate n 0) := by
  simp only [madeCells, bv, Array.toList_map, Array.toList_range, List.map_replicate]
  apply List.ext_getElem
  · simp
  · intro i h1 h2
    simp [Nat.mod_one]
theorem make_bytes (n : Nat) (hn : n ≤ 1000000) (W : World) :
    (Instr.makeSlice 22 (.int .i64 (n : Int)) (.int .i64 (n : Int))).run Tryd.prog W = .ok (.slice (some ⟨W.heap.size, 0, none⟩) n n) (W.alloc (.cells (bv (List.replicate n 0)).toArray 5)) := by
  obtain ⟨i0, hi, hz0, hz1, hz2⟩ := info_parts infoByte
  have h := run_make (P := Tryd.prog) W 22 5 i0 (.int .u8 0) Tryd.underlying22 hi hz0 .i64 .i64 (n : Int) (n : Int) (by omega) (by omega) (by rw [hz2]; omega) (by omega)
  rw [Int.toNat_natCast, hz1, Nat.mul_one, show (Value.int IntKind.u8 0).cells = #[.int .u8 0] from rfl, show madeCells #[.int .u8 0] n = (bv (List.replicate n 0)).toArray by rw [← zeros_eq]] at h
  exact h
theorem heap_two (w : World) (o1 o2 : Obj) : ((w.alloc o1).alloc o2).drew.heap[w.heap.size]? = some o1 ∧ ((w.alloc o1).alloc o2).drew.heap[w.heap.size + 1]? = some o2 :=
  ⟨((World.grownBy_alloc (w.alloc o1) o2 none).block w.heap.size (by simp) (by simp)).trans (World.alloc_heap_new w o1), by
    have := World.alloc_heap_new (w.alloc o1) o2
    rwa [show (w.alloc o1).heap.size = w.heap.size + 1 by simp] at this⟩
theorem own_of_block {W : World} {base g n : Nat} {l : List Int} (h : W.heap[g]? = some (.cells (bv l).toArray 5 (0, 0))) (hb : base ≤ g) (hl : l.length = n) (hn : n ≤ maxLen) : W.ownsRow base 5 1 (.slice (some ⟨g, 0, none⟩) n n) n (bv l) :=
  ⟨by rw [bv_len, hl, Nat.mul_one], .inr ⟨g, n, (bv l).toArray, rfl, hb, h, Nat.le_refl _, hn, by simp [bv_len, hl], by
    rw [List.take_of_length_le (by simp [bv_len, hl])]⟩⟩
theorem bv_set (l : List Int) (j : Nat) (x : Int) : (bv l).set j (.int .u8 x) = bv (l.set j x) := by simp [bv, List.map_set]
namespace G
theorem chgR_len (a b : List Int) : (chgR a b).2.length ≤ 1024 := by
  unfold chgR
  split
  · simp
  · split
    · assumption
    · simp
theorem chgR_set {a b : List Int} (ha : a.length ≤ 200000) (hb : b.length ≤ 200000) : Set_ (chgR a b).2 := by
  unfold chgR
  split
  · exact ⟨trivial, by simp⟩
  · split
    · obtain ⟨h1, h2, _⟩ := chg_form (df a b) (max a.length b.length)
      exact ⟨h1, fun r hr => by have := h2 r hr; unfold INF; omega⟩
    · exact ⟨trivial, by simp⟩
end G

set_option maxRecDepth 100000 in
set_option maxHeartbeats 4000000 in
theorem walkLong (size part : Int) (w : World) (he : Env w) :
    Calls Tryd.prog 3 #[.int .i64 size, .int .i64 part] w fun e w' => e = .returned (.bool true) ∧ Below w.heap.size w w' := by
  obtain ⟨n, hn⟩ : ∃ n : Nat, min (max size 0) 70000 = (n : Int) := ⟨(min (max size 0) 70000).toNat, by omega⟩
  obtain ⟨p, hp⟩ : ∃ p : Nat, min (max part 0) 5000 = (p : Int) := ⟨(min (max part 0) 5000).toNat, by omega⟩
  have hn1 : n ≤ 70000 := by omega
  have hp1 : p ≤ 5000 := by omega
  have hmk := fun W => make_bytes n (by omega) W
  go_enter Tryd.func3, Tryd.ntmps3
  go_wp2_with fail
  go_region
  all_goals generalize hW : ((w.alloc _).alloc _).drew = W2
  · have hsw : w.heap.size < W2.heap.size := by rw [← hW]; simp; omega
    have b2 : Below w.heap.size w W2 := by rw [← hW]; exact ((((Below.refl _ _).alloc (Nat.le_refl _) _).alloc (by simp) _).drew)
    have oa : W2.ownsRow w.heap.size 5 1 (.slice (some ⟨w.heap.size, 0, none⟩) n n) n (bv (List.replicate n 0)) := own_of_block (by rw [← hW]; exact (heap_two _ _ _).1) (by omega) (by simp) (by simp only [maxLen]; omega)
    have ob : W2.ownsRow w.heap.size 5 1 (.slice (some ⟨w.heap.size + 1, 0, none⟩) n n) n (bv (List.replicate n 0)) := own_of_block (by rw [← hW]; exact (heap_two _ _ _).2) (by omega) (by simp) (by simp only [maxLen]; omega)
    have hab : some (w.heap.size) ≠ some (w.heap.size + 1) := by simp
    have hba : w.heap.size ≤ w.heap.size + 1 := by omega
    clear hW hmk hsw
    obtain ⟨gb, hgb⟩ : ∃ g, w.heap.size + 1 = g := ⟨_, rfl⟩
    obtain ⟨ga, hga⟩ : ∃ g, w.heap.size = g := ⟨_, rfl⟩
    rw [hgb] at ob hab hba ⊢
    rw [hga] at hab
    rw [show (some ({ block := w.heap.size, off := 0 } : Addr)) = some ⟨ga, 0, none⟩ by rw [hga]] at oa ⊢
    clear hga hgb
    go_wp2_with fail
    go_loopw [7] (fun i wr => ∃ (j : Nat) (bl : List Int), j ≤ p + 1 ∧ i = .int .i64 (j : Int) ∧ bl.length = n ∧ wr.ownsRow w.heap.size 5 1 (.slice (some ⟨ga, 0, none⟩) n n) n (bv (List.replicate n 0)) ∧ wr.ownsRow w.heap.size 5 1 (.slice (some ⟨gb, 0, none⟩) n n) n (bv bl) ∧ Below w.heap.size w wr) (fun i _ => p + 1 - (intOf i).toNat)
    case atStart => exact ⟨0, _, by omega, rfl, by simp, oa, ob, b2⟩
    case round =>
      obtain ⟨j, bl, hj, rfl, hbl, oa, ob, hb⟩ := hrel
      by_cases hgo : j < p ∧ j < n
      · obtain ⟨g1, g2⟩ := hgo
        have c1 := ob.cellAt j (by omega)
        rw [show (bv bl)[j]? = some (.int .u8 bl[j]) by simp [bv, hbl, g2]] at c1
        generalize bl[j] = u at c1
        have f1 := ob.frozenAt j
        have l1 := (ob.lt gb rfl).2
        have o2 := ob.stored j (.int .u8 1)
        rw [bv_set] at o2
        have oa2 := oa.kept o2.2 (.inr (fun e => hab e))
        have b3 := hb.setCell (p := ⟨gb, j, none⟩) hba (.int .u8 1)
        go_wp2_with fail
        go_roundw
        case rel => exact ⟨j + 2, bl.set j 1, by omega, by go_num, by simp [hbl], oa2, o2.1, b3⟩
        case measure => simp [intOf]; omega
      · have HC := Lib.hid (changed_any (List.replicate n 0) bl (by simp; omega) (by omega) (some ⟨ga, 0, none⟩) (some ⟨gb, 0, none⟩) n n wr (Row.of_own oa) (Row.of_own ob))
        have HF : Hid (∀ W, Below wr.heap.size wr W → Calls Tryd.prog 13 #[.slice (some ⟨ga, 0, none⟩) n n, .slice (some ⟨gb, 0, none⟩) n n] W fun e w' => ∃ v, e = .returned (.tuple #[v, .int .i64 ((G.chgR (List.replicate n 0) bl).1 : Int)]) ∧ w'.ownsRow W.heap.size 66 2 v (G.chgR (List.replicate n 0) bl).2.length (pv (G.chgR (List.replicate n 0) bl).2) ∧ Below W.heap.size W w') := fun W h => by
          have := refchg_any (List.replicate n 0) bl (by simp; omega) (by omega) (some ⟨ga, 0, none⟩) (some ⟨gb, 0, none⟩) n n W (((Row.of_own oa).below h).more h.size) (((Row.of_own ob).below h).more h.size)
          rw [List.length_replicate, hbl] at this
          exact this
        have hset := G.chgR_set (a := List.replicate n 0) (b := bl) (by simp; omega) (by omega)
        have hlen := G.chgR_len (List.replicate n 0) bl
        rw [List.length_replicate, hbl] at HC
        generalize G.chgR (List.replicate n 0) bl = res at HC HF hset hlen
        obtain ⟨r1, r2⟩ := res
        simp only at hset hlen
        have hd : (decide ((j : Int) < (p : Int)) && decide ((j : Int) < (n : Int))) = false := by
          rw [Bool.and_eq_false_iff]; simp; omega
        have hcases : p ≤ j ∨ (j < p ∧ n ≤ j) := by omega
        rcases hcases with h1 | ⟨h1, h2⟩
        all_goals
          go_wp2_with fail
          refine HC.out.mono ?_
          rintro e w3 ⟨v1, rfl, own1, hb3⟩
          obtain ⟨A1, q1, rfl, hq1⟩ := own_form own1
          have t1 : Row w3 w3.heap.size A1 (pv r2) := own_row own1 (by decide)
          have b3 : Below w.heap.size w w3 := hb.trans (hb3.mono hb.size)
          clear own1
          have y0 := Boxed.new w3 25 (.slice A1 r2.length q1)
          go_wp2_with fail
          generalize hW : w3.alloc _ = W3 at y0 ⊢
          have bb3 : Below wr.heap.size wr W3 := by rw [← hW]; exact hb3.alloc hb3.size _
          have b3' : Below w.heap.size w W3 := by rw [← hW]; exact b3.alloc b3.size _
          have t3 : Row W3 W3.heap.size A1 (pv r2) := by rw [← hW]; exact (t1.alloc' _).more (by simp)
          clear hW t1 b3 hb3
          refine (HF.out _ bb3).mono ?_
          rintro e w4 ⟨v2, rfl, own2, hb4⟩
          obtain ⟨A2, q2, rfl, hq2⟩ := own_form own2
          have t4 : Row w4 w4.heap.size A2 (pv r2) := own_row own2 (by decide)
          have t5 : Row w4 w4.heap.size A1 (pv r2) := (t3.below hb4).more hb4.size
          have y4 : Boxed w4 w3.heap.size 25 (.slice A1 r2.length q1) := (hb4.block _ y0.lt).trans y0
          have b4 : Below w.heap.size w w4 := b3'.trans (hb4.mono b3'.size)
          clear own2 y0 t3 b3' hb4 bb3
          go_wp2_with fail
          refine (known_any _ (he.below b4)).mono ?_
          rintro e w5 ⟨rfl, hb5⟩
          have t6 : Row w5 w5.heap.size A2 (pv r2) := (t4.below hb5).more hb5.size
          have t7 : Row w5 w5.heap.size A1 (pv r2) := (t5.below hb5).more hb5.size
          have y5 : Boxed w5 w3.heap.size 25 (.slice A1 r2.length q1) := (hb5.block _ y4.lt).trans y4
          have b5 : Below w.heap.size w w5 := b4.trans (hb5.mono b4.size)
          have z5 := y5.cell
          clear y4 t4 t5 b4 hb5
          go_wp2_with fail
          refine (same_at hset (by omega) t7 t6 rfl rfl).mono ?_
          rintro e w6 ⟨rfl, hb6⟩
          go_wp2_with fail
          go_ret
          exact ⟨rfl, b5.trans (hb6.mono b5.size)⟩
  · have hsw : w.heap.size < W2.heap.size := by rw [← hW]; simp; omega
    have b2 : Below w.heap.size w W2 := by rw [← hW]; exact ((((Below.refl _ _).alloc (Nat.le_refl _) _).alloc (by simp) _).drew)
    have oa : W2.ownsRow w.heap.size 5 1 (.slice (some ⟨w.heap.size + 1, 0, none⟩) n n) n (bv (List.replicate n 0)) := own_of_block (by rw [← hW]; exact (heap_two _ _ _).2) (by omega) (by simp) (by simp only [maxLen]; omega)
    have ob : W2.ownsRow w.heap.size 5 1 (.slice (some ⟨w.heap.size, 0, none⟩) n n) n (bv (List.replicate n 0)) := own_of_block (by rw [← hW]; exact (heap_two _ _ _).1) (by omega) (by simp) (by simp only [maxLen]; omega)
    have hab : some (w.heap.size + 1) ≠ some (w.heap.size) := by simp
    have hba : w.heap.size ≤ w.heap.size := by omega
    clear hW hmk hsw
    obtain ⟨ga, hga⟩ : ∃ g, w.heap.size + 1 = g := ⟨_, rfl⟩
    obtain ⟨gb, hgb⟩ : ∃ g, w.heap.size = g := ⟨_, rfl⟩
    rw [hga] at oa hab ⊢
    rw [hgb] at hab
    rw [show (some ({ block := w.heap.size, off := 0 } : Addr)) = some ⟨gb, 0, none⟩ by rw [hgb]] at ob ⊢
    replace hba : w.heap.size ≤ gb := by omega
    clear hga hgb
    go_wp2_with fail
    go_loopw [7] (fun i wr => ∃ (j : Nat) (bl : List Int), j ≤ p + 1 ∧ i = .int .i64 (j : Int) ∧ bl.length = n ∧ wr.ownsRow w.heap.size 5 1 (.slice (some ⟨ga, 0, none⟩) n n) n (bv (List.replicate n 0)) ∧ wr.ownsRow w.heap.size 5 1 (.slice (some ⟨gb, 0, none⟩) n n) n (bv bl) ∧ Below w.heap.size w wr) (fun i _ => p + 1 - (intOf i).toNat)
    case atStart => exact ⟨0, _, by omega, rfl, by simp, oa, ob, b2⟩
    case round =>
      obtain ⟨j, bl, hj, rfl, hbl, oa, ob, hb⟩ := hrel
      by_cases hgo : j < p ∧ j < n
      · obtain ⟨g1, g2⟩ := hgo
        have c1 := ob.cellAt j (by omega)
        rw [show (bv bl)[j]? = some (.int .u8 bl[j]) by simp [bv, hbl, g2]] at c1
        generalize bl[j] = u at c1
        have f1 := ob.frozenAt j
        have l1 := (ob.lt gb rfl).2
        have o2 := ob.stored j (.int .u8 1)
        rw [bv_set] at o2
        have oa2 := oa.kept o2.2 (.inr (fun e => hab e))
        have b3 := hb.setCell (p := ⟨gb, j, none⟩) hba (.int .u8 1)
        go_wp2_with fail
        go_roundw
        case rel => exact ⟨j + 2, bl.set j 1, by omega, by go_num, by simp [hbl], oa2, o2.1, b3⟩
        case measure => simp [intOf]; omega
      · have HC := Lib.hid (changed_any (List.replicate n 0) bl (by simp; omega) (by omega) (some ⟨ga, 0, none⟩) (some ⟨gb, 0, none⟩) n n wr (Row.of_own oa) (Row.of_own ob))
        have HF : Hid (∀ W, Below wr.heap.size wr W → Calls Tryd.prog 13 #[.slice (some ⟨ga, 0, none⟩) n n, .slice (some ⟨gb, 0, none⟩) n n] W fun e w' => ∃ v, e = .returned (.tuple #[v, .int .i64 ((G.chgR (List.replicate n 0) bl).1 : Int)]) ∧ w'.ownsRow W.heap.size 66 2 v (G.chgR (List.replicate n 0) bl).2.length (pv (G.chgR (List.replicate n 0) bl).2) ∧ Below W.heap.size W w') := fun W h => by
          have := refchg_any (List.replicate n 0) bl (by simp; omega) (by omega) (some ⟨ga, 0, none⟩) (some ⟨gb, 0, none⟩) n n W (((Row.of_own oa).below h).more h.size) (((Row.of_own ob).below h).more h.size)
          rw [List.length_replicate, hbl] at this
          exact this
        have hset := G.chgR_set (a := List.replicate n 0) (b := bl) (by simp; omega) (by omega)
        have hlen := G.chgR_len (List.replicate n 0) bl
        rw [List.length_replicate, hbl] at HC
        generalize G.chgR (List.replicate n 0) bl = res at HC HF hset hlen
        obtain ⟨r1, r2⟩ := res
        simp only at hset hlen
        have hd : (decide ((j : Int) < (p : Int)) && decide ((j : Int) < (n : Int))) = false := by
          rw [Bool.and_eq_false_iff]; simp; omega
        have hcases : p ≤ j ∨ (j < p ∧ n ≤ j) := by omega
        rcases hcases with h1 | ⟨h1, h2⟩
        all_goals
          go_wp2_with fail
          refine HC.out.mono ?_
          rintro e w3 ⟨v1, rfl, own1, hb3⟩
          obtain ⟨A1, q1, rfl, hq1⟩ := own_form own1
          have t1 : Row w3 w3.heap.size A1 (pv r2) := own_row own1 (by decide)
          have b3 : Below w.heap.size w w3 := hb.trans (hb3.mono hb.size)
          clear own1
          have y0 := Boxed.new w3 25 (.slice A1 r2.length q1)
          go_wp2_with fail
          generalize hW : w3.alloc _ = W3 at y0 ⊢
          have bb3 : Below wr.heap.size wr W3 := by rw [← hW]; exact hb3.alloc hb3.size _
          have b3' : Below w.heap.size w W3 := by rw [← hW]; exact b3.alloc b3.size _
          have t3 : Row W3 W3.heap.size A1 (pv r2) := by rw [← hW]; exact (t1.alloc' _).more (by simp)
          clear hW t1 b3 hb3
          refine (HF.out _ bb3).mono ?_
          rintro e w4 ⟨v2, rfl, own2, hb4⟩
          obtain ⟨A2, q2, rfl, hq2⟩ := own_form own2
          have t4 : Row w4 w4.heap.size A2 (pv r2) := own_row own2 (by decide)
          have t5 : Row w4 w4.heap.size A1 (pv r2) := (t3.below hb4).more hb4.size
          have y4 : Boxed w4 w3.heap.size 25 (.slice A1 r2.length q1) := (hb4.block _ y0.lt).trans y0
          have b4 : Below w.heap.size w w4 := b3'.trans (hb4.mono b3'.size)
          clear own2 y0 t3 b3' hb4 bb3
          go_wp2_with fail
          refine (known_any _ (he.below b4)).mono ?_
          rintro e w5 ⟨rfl, hb5⟩
          have t6 : Row w5 w5.heap.size A2 (pv r2) := (t4.below hb5).more hb5.size
          have t7 : Row w5 w5.heap.size A1 (pv r2) := (t5.below hb5).more hb5.size
          have y5 : Boxed w5 w3.heap.size 25 (.slice A1 r2.length q1) := (hb5.block _ y4.lt).trans y4
          have b5 : Below w.heap.size w w5 := b4.trans (hb5.mono b4.size)
          have z5 := y5.cell
          clear y4 t4 t5 b4 hb5
          go_wp2_with fail
          refine (same_at hset (by omega) t7 t6 rfl rfl).mono ?_
          rintro e w6 ⟨rfl, hb6⟩
          go_wp2_with fail
          go_ret
          exact ⟨rfl, b5.trans (hb6.mono b5.size)⟩
end Go.Proofs.YtgjoldjfeobjgaaDoor
