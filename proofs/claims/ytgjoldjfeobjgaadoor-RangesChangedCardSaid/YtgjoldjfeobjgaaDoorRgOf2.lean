/-
  ranges.Of.
-/
import Derived.Test.YtgjoldjfeobjgaaDoorRgOf
namespace Go.Proofs.YtgjoldjfeobjgaaDoor
open Go.RowKit

set_option maxRecDepth 100000 in
set_option maxHeartbeats 4000000 in
theorem of_any (l : List G.Rg) (hn : l.length ≤ 5000) (A : Option Addr) (c : Nat) (w : World) (hr : Row w w.heap.size A (pv l)) :
    Calls Tryd.prog 33 #[.slice A l.length c] w fun e w' => ∃ v, e = .returned (.tuple #[.agg #[v], .int .i64 ((G.ofR l).1 : Int)]) ∧ w'.ownsRow w.heap.size 61 2 v (G.ofR l).2.length (pv (G.ofR l).2) ∧ Below w.heap.size w w' := by
  obtain ⟨i0, hi, hz0, hz1, hz2⟩ := info_parts infoRange
  go_enter Tryd.func33, Tryd.ntmps33
  go_wp2_with fail
  go_loopw [13] (fun i wr => ∃ k : Nat, k ≤ l.length ∧ i = .int .i64 (k : Int) ∧ Hid (∀ j (h : j < l.length), j < k → G.okR l[j]) ∧ Boxed wr w.heap.size 25 (.slice none 0 0) ∧ Below w.heap.size w wr) (fun i _ => l.length - (intOf i).toNat)
  case atStart => exact ⟨0, by omega, rfl, Lib.hid (fun j _ h => absurd h (Nat.not_lt_zero j)), Boxed.new _ _ _, (Below.refl _ _).alloc (Nat.le_refl _) _⟩
  case round =>
    obtain ⟨k, hk, rfl, HO, hbx, hb⟩ := hrel
    by_cases hlt : k < l.length
    · obtain ⟨b, o, rfl, hbB, c1, c2⟩ := hr.pair hlt
      have c1 := (hb.cell (p := ⟨b, o + k * 2, none⟩) hbB).trans c1
      have c2 := (hb.cell (p := ⟨b, o + k * 2 + 1, none⟩) hbB).trans c2
      have hbad : Hid (¬ G.okR l[k] → G.ofR l = (2, [])) := fun h => G.ofR_bad hlt h
      have hok : Hid (G.okR l[k] → ∀ j (h : j < l.length), j < k + 1 → G.okR l[j]) := fun h j hj hjk => by
        rcases Nat.lt_or_ge j k with h' | h'
        · exact HO.out j hj h'
        · obtain rfl : j = k := by omega
          exact h
      have hdef : Hid (G.okR l[k] ↔ 0 ≤ l[k].1 ∧ l[k].1 ≤ l[k].2 ∧ l[k].2 ≤ 1099511627776) := Iff.rfl
      generalize G.okR l[k] = P at hbad hok hdef
      generalize l[k].1 = x at c1 hdef
      generalize l[k].2 = y at c2 hdef
      have hcb := hbx.cell
      have hfb := hbx.frozen
      have hlb := hbx.lt
      by_cases hgood : 0 ≤ x ∧ x ≤ y ∧ y ≤ 1099511627776
      · have HO2 := Lib.hid (hok.out (hdef.out.2 hgood))
        obtain ⟨h1, h2, h3⟩ := hgood
        go_wp2_with fail
        go_roundw
        case rel => exact ⟨k + 1, by omega, by go_num, HO2, hbx.alloc _, hb.alloc hb.size _⟩
        case measure => simp [intOf]; omega
      · have HB : Hid (G.ofR l = (2, [])) := hbad.out (fun h => hgood (hdef.out.1 h))
        have hcases : x < 0 ∨ (0 ≤ x ∧ y < x) ∨ (0 ≤ x ∧ x ≤ y ∧ 1099511627776 < y) := by omega
        clear hgood
        rcases hcases with h1 | ⟨h1, h2⟩ | ⟨h1, h2, h3⟩
        all_goals
          go_wp2_with fail
          refine bodyPost_ret (v := .tuple #[.agg #[.slice none 0 0], .int .i64 2]) (by simp [results, Tryd.results33, go_sem, hcb, hlb]) rfl ⟨.slice none 0 0, by rw [HB.out]; rfl, by rw [HB.out]; exact World.ownsRow_nil _ _ _ _, ?_⟩
          exact (hb.setCell (p := ⟨w.heap.size, 0, none⟩) (Nat.le_refl _) _).alloc (by simpa [World.setCell] using hb.size) _
    · obtain rfl : k = l.length := by omega
      have hall : Hid (∀ r ∈ l, G.okR r) := fun r hr => by
        obtain ⟨j, hj, rfl⟩ := List.getElem_of_mem hr
        exact HO.out j hj hj
      have hcl := Lib.hid (clone_any l (by omega) A c wr ((hr.below hb).more hb.size))
      go_wp2_with (first
        | (go_at_call 55; refine hcl.out.mono ?_; rintro e w1 ⟨v, rfl, own1, hb1⟩; obtain ⟨A1, q1, rfl, hq1⟩ := own_form own1; have hs := Lib.hid (sort_any own1 (by omega)))
        | (go_at_call 56; refine hs.out.mono ?_; rintro e w2 ⟨rfl, S, hp, hps, hrow, hg⟩; have HP := Lib.hid hp; have HPS := Lib.hid hps; clear hp hps; have hb2 := hb1.grown hg hb1.size (own_ge own1); have hbx2 : Boxed w2 w.heap.size 25 (.slice none 0 0) := (hb2.block _ hbx.lt).trans hbx; have hbw := hb.trans (hb2.mono hb.size)))
      have HSL : Hid (S.length = l.length) := HP.out.length_eq
      have HM : Hid (G.merge S = G.tidy l) := G.merge_tidy (G.okR_val hall.out) HP.out HPS.out
      have hwsz := hbw.size
      have hbl := hbx2.lt
      clear own1 hb1 hb2 hg hcl hs hbx hb HO HP HPS
      go_loopw [7, 40] (fun v i wr => ∃ (k m : Nat) (Ao : Option Addr) (co : Nat), k ≤ l.length ∧ i = .int .i64 (k : Int) ∧ v = .slice Ao m co ∧ m ≤ k ∧ m ≤ co ∧ Hid (m = ((S.take k).foldl G.mstep []).length) ∧ wr.ownsRow w2.heap.size 61 2 (.slice Ao m co) m (pv ((S.take k).foldl G.mstep [])) ∧ Below w2.heap.size w2 wr) (fun _ i _ => l.length - (intOf i).toNat)
      case atStart => exact ⟨0, 0, none, 0, by omega, rfl, rfl, by omega, by omega, Lib.hid rfl, World.ownsRow_nil _ _ _ _, Below.refl _ _⟩
      case round =>
        obtain ⟨k, m, Ao, co, hk, rfl, rfl, hmk, hmco, HL, hown, hb2⟩ := hrel
        by_cases hlt : k < l.length
        · have hkS : k < S.length := by have := HSL.out; omega
          obtain ⟨b, o, rfl, hbB, c1, c2⟩ := hrow.pair hkS
          have c1 := (hb2.cell (p := ⟨b, o + k * 2, none⟩) hbB).trans c1
          have c2 := (hb2.cell (p := ⟨b, o + k * 2 + 1, none⟩) hbB).trans c2
          have HT : Hid ((S.take (k + 1)).foldl G.mstep [] = G.mstep ((S.take k).foldl G.mstep []) (S[k].1, S[k].2)) := by
            show _ = _
            rw [G.foldl_take_succ _ _ _ _ hkS]
          generalize S[k].1 = x at c1 HT
          generalize S[k].2 = y at c2 HT
          generalize (S.take k).foldl G.mstep [] = M at HL hown HT
          have hsz2 := hb2.size
          by_cases hxy : x = y
          · have t1 : (x == y) = true := beq_iff_eq.2 hxy
            have HE : Hid ((S.take (k + 1)).foldl G.mstep [] = M) := by show _ = _; rw [HT.out, G.mstep_same hxy]
            clear hxy
            go_wp2_with fail
            go_roundw
            case rel => exact ⟨k + 1, m, Ao, co, by omega, by go_num, rfl, by omega, hmco, by rw [HE.out]; exact HL, by rw [HE.out]; exact hown.alloc _, hb2.alloc hb2.size _⟩
            case measure => simp [intOf]; omega
          · have t1 : (x == y) = false := beq_eq_false_iff_ne.2 hxy
            have HX : Hid (x ≠ y) := hxy
            have hownA := hown.alloc (.cells #[.int .i64 x, .int .i64 y] 61)
            have hbA := hb2.alloc hb2.size (.cells #[.int .i64 x, .int .i64 y] 61)
            have hnew := World.alloc_heap_new wr (.cells #[.int .i64 x, .int .i64 y] 61)
            have e1 : (wr.alloc (.cells #[.int .i64 x, .int .i64 y] 61)).cell? ⟨wr.heap.size, 0, none⟩ = some (.int .i64 x) := by simp only [World.cell?, hnew]; rfl
            have e2 : (wr.alloc (.cells #[.int .i64 x, .int .i64 y] 61)).cell? ⟨wr.heap.size, 1, none⟩ = some (.int .i64 y) := by simp only [World.cell?, hnew]; rfl
            have E1 := Lib.hid e1
            have E2 := Lib.hid e2
            clear hxy e1 e2 hnew
            rcases G.snoc_cases M with rfl | ⟨ms, q, rfl⟩
            · obtain rfl : m = 0 := HL.out
              have HR : Hid ((S.take (k + 1)).foldl G.mstep [] = [(x, y)]) := by show _ = _; rw [HT.out, G.mstep_nil HX.out]
              go_wp2_with fail
              go_quiet (fail)
              generalize hWW : (wr.alloc _).drewN _ = W
              have hownW : W.ownsRow w2.heap.size 61 2 (.slice Ao 0 co) 0 (pv []) := by rw [← hWW]; exact hownA
              have hbW : Below w2.heap.size w2 W := by rw [← hWW]; exact below_drewN2 hbA _
              have k1 : W.cell? ⟨wr.heap.size, 0, none⟩ = some (.int .i64 x) := by rw [← hWW]; exact E1.out
              have k2 : W.cell? ⟨wr.heap.size, 1, none⟩ = some (.int .i64 y) := by rw [← hWW]; exact E2.out
              have hsz := hbW.size
              clear hWW c1 c2 hownA hbA
              go_wp2_with (at_builtin; refine wpList_append_row rfl (.tmp 47) (.tmp 49) rfl Tryd.underlying23 hi hz0 hz1 hz2 rfl (by decide) rfl (hownW.alloc _) rfl (row_two W x y _) (by rfl) (pv_one _) (by simp only [maxLen]; omega) (by omega) (by simp; omega) ?_; intro v3 w3 own3 grow3; rw [Nat.zero_add] at own3; obtain ⟨A3, q3, rfl, hq3⟩ := own_form own3)
              go_roundw
              case rel => exact ⟨k + 1, 1, A3, q3, by omega, by go_num, rfl, by omega, hq3, by rw [HR.out]; exact Lib.hid rfl, by rw [HR.out]; exact own3, (hbW.alloc hsz _).grown grow3 (by simp; omega) (own_ge hownW)⟩
              case measure => simp [intOf]; omega
            · obtain rfl : m = ms.length + 1 := by have := HL.out; simpa using this
              obtain ⟨g, cap, hv, hbg, hgl⟩ := hown.form (by omega)
              have hA : Ao = some ⟨g, 0, none⟩ := by injection hv
              subst hA
              obtain ⟨d1, d2, d3, d4, d5⟩ := cell_last hown
              obtain ⟨q1, q2⟩ := q
              simp only at d1 d2
              have hgne : g ≠ wr.heap.size := by omega
              by_cases hle : x ≤ q2
              · have HR : Hid ((S.take (k + 1)).foldl G.mstep [] = ms ++ [(q1, max q2 y)]) := by show _ = _; rw [HT.out, G.mstep_more HX.out hle]
                go_wp2_with fail
                go_quiet (fail)
                go_wp2_with fail
                go_region
                all_goals
                  go_wp2_with fail
                  go_roundw
                  case rel => exact ⟨k + 1, ms.length + 1, some ⟨g, 0, none⟩, co, by omega, by go_num, rfl, by omega, hmco, by rw [HR.out]; exact Lib.hid (by simp), by rw [HR.out]; exact (own_last (w := ((wr.alloc _).drewN _).drew) (z := max q2 y) hownA).1, ((below_drewN2 hbA _).drew).setCell (p := ⟨g, ms.length * 2 + 1, none⟩) hbg _⟩
                  case measure => simp [intOf]; omega
              · have HR : Hid ((S.take (k + 1)).foldl G.mstep [] = ms ++ [(q1, q2)] ++ [(x, y)]) := by show _ = _; rw [HT.out, G.mstep_new HX.out hle]
                have hle' : q2 < x := by omega
                clear hle
                go_wp2_with fail
                go_quiet (fail)
                generalize hWW : (wr.alloc _).drewN _ = W
                have hownW : W.ownsRow w2.heap.size 61 2 (.slice (some ⟨g, 0, none⟩) (ms.length + 1) co) (ms.length + 1) (pv (ms ++ [(q1, q2)])) := by rw [← hWW]; exact hownA
                have hbW : Below w2.heap.size w2 W := by rw [← hWW]; exact below_drewN2 hbA _
                have k1 : W.cell? ⟨wr.heap.size, 0, none⟩ = some (.int .i64 x) := by rw [← hWW]; exact E1.out
                have k2 : W.cell? ⟨wr.heap.size, 1, none⟩ = some (.int .i64 y) := by rw [← hWW]; exact E2.out
                have hsz := hbW.size
                clear hWW c1 c2 d1 d2 d3 hownA hbA
                go_wp2_with (at_builtin; refine wpList_append_row rfl (.tmp 47) (.tmp 49) rfl Tryd.underlying23 hi hz0 hz1 hz2 rfl (by decide) rfl (hownW.alloc _) rfl (row_two W x y _) (by rfl) (pv_one _) (by simp only [maxLen]; omega) (by omega) (by simp; omega) ?_; intro v3 w3 own3 grow3; obtain ⟨A3, q3, rfl, hq3⟩ := own_form own3)
                go_roundw
                case rel => exact ⟨k + 1, _, A3, q3, by omega, by go_num, rfl, by omega, hq3, by rw [HR.out]; exact Lib.hid (by simp), by rw [HR.out, pv_append _ [(x, y)]]; exact own3, (hbW.alloc hsz _).grown grow3 (by simp; omega) (own_ge hownW)⟩
                case measure => simp [intOf]; omega
        · obtain rfl : k = l.length := by omega
          have e : S.take l.length = S := List.take_of_length_le (by have := HSL.out; omega)
          rw [e] at HL hown
          clear e hlt
          have HL2 : Hid (m = (G.tidy l).length) := by show _ = _; rw [← HM.out]; exact HL.out
          have hown : wr.ownsRow w2.heap.size 61 2 (.slice Ao m co) m (pv (G.tidy l)) := by rw [← HM.out]; exact hown
          have hbx3 : Boxed wr w.heap.size 25 (.slice none 0 0) := (hb2.block _ hbl).trans hbx2
          have hlb3 := hbx3.lt
          by_cases hl : m ≤ 1024
          · have HR : Hid (G.ofR l = (0, G.tidy l)) := G.ofR_ok hall.out (by rw [← HL2.out]; exact hl)
            go_wp2_with (go_at_call 36; refine (limited_yes Ao m co hl _).mono ?_; rintro e w4 ⟨rfl, hb4⟩; have hbx4 : Boxed w4 w.heap.size 25 (.slice none 0 0) := (hb4.block _ hlb3).trans hbx3; have hc4 := hbx4.cell; have hf4 := hbx4.frozen; have hl4 := hbx4.lt)
            refine bodyPost_ret (v := .tuple #[.agg #[.slice Ao m co], .int .i64 0]) (by simp [results, Tryd.results33, go_sem, hc4, hl4]) rfl ⟨.slice Ao m co, by rw [HR.out]; rfl, ?_, ?_⟩
            · rw [HR.out]
              simp only
              rw [← HL2.out]
              exact own_mono (own_set (own_below hown hb4) hbl _) hwsz
            · exact (hbw.trans ((hb2.trans (hb4.mono hb2.size)).mono hwsz)).setCell (p := ⟨w.heap.size, 0, none⟩) (Nat.le_refl _) _
          · have HR : Hid (G.ofR l = (9, [])) := G.ofR_limit hall.out (by rw [← HL2.out]; exact hl)
            go_wp2_with (go_at_call 36; refine (limited_no Ao m co (by omega) _).mono ?_; rintro e w4 ⟨rfl, hb4⟩; have hbx4 : Boxed w4 w.heap.size 25 (.slice none 0 0) := (hb4.block _ hlb3).trans hbx3; have hc4 := hbx4.cell; have hf4 := hbx4.frozen; have hl4 := hbx4.lt)
            refine bodyPost_ret (v := .tuple #[.agg #[.slice none 0 0], .int .i64 9]) (by simp [results, Tryd.results33, go_sem, hc4, hl4]) rfl ⟨.slice none 0 0, by rw [HR.out]; rfl, ?_, ?_⟩
            · rw [HR.out]; exact World.ownsRow_nil _ _ _ _
            · exact (hbw.trans ((hb2.trans (hb4.mono hb2.size)).mono hwsz)).setCell (p := ⟨w.heap.size, 0, none⟩) (Nat.le_refl _) _
end Go.Proofs.YtgjoldjfeobjgaaDoor
