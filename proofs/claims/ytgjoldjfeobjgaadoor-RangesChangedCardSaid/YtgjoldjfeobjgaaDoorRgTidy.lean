/-
  The reference's tidy.
-/
import Derived.Test.YtgjoldjfeobjgaaDoorRgMerge
import Derived.ChangeAlike
import Derived.RegionTactic
import Derived.BigRegion
namespace Go.Proofs.YtgjoldjfeobjgaaDoor
open Go.RowKit

set_option maxRecDepth 100000 in
set_option maxHeartbeats 4000000 in
theorem tidy_any (l : List G.Rg) (hn : l.length ≤ 5000) (A : Option Addr) (c : Nat) (w : World) (hr : Row w w.heap.size A (pv l)) :
    Calls Tryd.prog 44 #[.slice A l.length c] w fun e w' => ∃ v, e = .returned v ∧ w'.ownsRow w.heap.size 66 2 v (G.tidy l).length (pv (G.tidy l)) ∧ Below w.heap.size w w' := by
  obtain ⟨i0, hi, hz0, hz1, hz2⟩ := info_parts infoG
  go_enter Tryd.func44, Tryd.ntmps44
  go_wp2_with fail
  go_loopw [3, 4] (fun v i wr => ∃ (k n : Nat) (Av : Option Addr) (cv : Nat), k ≤ l.length ∧ i = .int .i64 (k : Int) ∧ v = .slice Av n cv ∧ n ≤ k ∧ n ≤ cv ∧ Hid (n = ((l.take k).foldl G.insF []).length) ∧ wr.ownsRow w.heap.size 66 2 (.slice Av n cv) n (pv ((l.take k).foldl G.insF [])) ∧ Below w.heap.size w wr) (fun _ i _ => l.length - (intOf i).toNat)
  case atStart => exact ⟨0, 0, none, 0, by omega, rfl, rfl, by omega, by omega, Lib.hid rfl, World.ownsRow_nil _ _ _ _, Below.refl _ _⟩
  case round =>
    obtain ⟨k, n, Av, cv, hk, rfl, rfl, hnk, hncv, HN, hown, hb⟩ := hrel
    by_cases hlt : k < l.length
    · obtain ⟨b, o, rfl, hbB, c1, c2⟩ := hr.pair hlt
      have c1 := (hb.cell (p := ⟨b, o + k * 2, none⟩) hbB).trans c1
      have c2 := (hb.cell (p := ⟨b, o + k * 2 + 1, none⟩) hbB).trans c2
      have HT : Hid ((l.take (k + 1)).foldl G.insF [] = G.insF ((l.take k).foldl G.insF []) (l[k].1, l[k].2)) := by
        show _ = _
        rw [G.foldl_take_succ _ _ _ _ hlt]
      generalize l[k].1 = x at c1 HT
      generalize l[k].2 = y at c2 HT
      generalize (l.take k).foldl G.insF [] = acc at HN hown HT
      by_cases hxy : x = y
      · have t1 : (x == y) = true := beq_iff_eq.2 hxy
        have HE : Hid ((l.take (k + 1)).foldl G.insF [] = acc) := by show _ = _; rw [HT.out, G.insF, if_pos hxy]
        clear hxy
        go_wp2_with fail
        go_quiet (fail)
        go_wp2_with fail
        go_roundw
        case rel => exact ⟨k + 1, n, Av, cv, by omega, by go_num, rfl, by omega, hncv, by rw [HE.out]; exact HN, by rw [HE.out]; exact hown, below_drewN2 hb _⟩
        case measure => simp [intOf]; omega
      · have t1 : (x == y) = false := beq_eq_false_iff_ne.2 hxy
        have HX := Lib.hid hxy
        clear hxy
        have hra : Row wr wr.heap.size Av (pv acc) := own_row hown (by decide)
        go_wp2_with fail
        go_quiet (fail)
        go_wp2_with fail
        go_loopw [5] (fun j wq => ∃ jj q : Nat, jj ≤ n ∧ j = .int .i64 (jj : Int) ∧ Hid (∀ i (h : i < acc.length), i < jj → acc[i].1 < x) ∧ wq = wr.drewN q) (fun j _ => n - (intOf j).toNat)
        case atStart => exact ⟨0, _, by omega, rfl, Lib.hid (fun i _ h => absurd h (Nat.not_lt_zero i)), rfl⟩
        case round =>
          obtain ⟨j, q, hj, rfl, HL, rfl⟩ := hrel
          have key : ∀ W, (∃ q', W = (wr.drewN q).drewN q') → W.cell? ⟨b, o + k * 2, none⟩ = some (.int .i64 x) ∧ W.cell? ⟨b, o + k * 2 + 1, none⟩ = some (.int .i64 y) ∧ Row W W.heap.size Av (pv acc) ∧ Below w.heap.size w W ∧ w.heap.size ≤ W.heap.size := by
            rintro W ⟨q', rfl⟩
            exact ⟨c1, c2, (hra.drewN q).drewN q', below_drewN2 (below_drewN2 hb q) q', hb.size⟩
          by_cases hgo : j < n ∧ ∀ h : j < acc.length, acc[j].1 < x
          · obtain ⟨hjn, hgo⟩ := hgo
            have hja : j < acc.length := by have := HN.out; omega
            have hu := hgo hja
            obtain ⟨b2, o2, rfl, hb2, d1, d2⟩ := hra.pair hja
            have HL2 : Hid (∀ i (h : i < acc.length), i < j + 1 → acc[i].1 < x) := fun i h hi => by
              rcases Nat.lt_or_ge i j with h' | h'
              · exact HL.out i h h'
              · obtain rfl : i = j := by omega
                exact hu
            generalize acc[j].1 = u at d1 hu
            clear hgo key
            go_wp2_with fail
            go_quiet (fail)
            go_wp2_with fail
            go_roundw
            case rel => exact ⟨j + 1, _, by omega, by go_num, HL2, rfl⟩
            case measure => simp [intOf]; omega
          · have HF : Hid (j + 1 + (n - j) = ((l.take (k + 1)).foldl G.insF []).length ∧ pv ((l.take (k + 1)).foldl G.insF []) = (pv acc).take (j * 2) ++ pv [(x, y)] ++ (pv acc).drop (j * 2)) := by
              have e := G.ins_at (l := acc) (r := (x, y)) (j := j) HL.out (by have := HN.out; omega) (fun h h' => hgo ⟨by have := HN.out; omega, fun _ => h'⟩)
              have hna := HN.out
              refine ⟨?_, ?_⟩
              · rw [HT.out, G.insF, if_neg HX.out, e]; simp; omega
              · rw [HT.out, G.insF, if_neg HX.out, e, pv_append, ← pv_take, ← pv_drop _ _ (by omega), List.append_assoc]; rfl
            have HL1 : Hid (((pv acc).take (j * 2)).length = j * 2) := by show _ = _; rw [List.length_take, pv_len]; have := HN.out; omega
            have HL2 : Hid (((pv acc).drop (j * 2)).length = (n - j) * 2) := by show _ = _; rw [List.length_drop, pv_len]; have := HN.out; omega
            have HL3 : Hid (cv = j → (pv acc).drop (j * 2) = []) := fun h => by rw [List.drop_eq_nil_iff, pv_len]; have := HN.out; omega
            by_cases hjn : j < n
            · have hja : j < acc.length := by have := HN.out; omega
              have hu : x ≤ acc[j].1 := by
                rcases Int.lt_or_le acc[j].1 x with h | h
                · exact absurd ⟨hjn, fun _ => h⟩ hgo
                · exact h
              obtain ⟨b2, o2, hAv, hb2, d1, d2⟩ := hra.pair hja
              subst hAv
              generalize acc[j].1 = u at d1 hu
              clear hgo
              go_wp2_with fail
              go_quiet (fail)
              generalize hWW : (wr.drewN q).drewN _ = W
              obtain ⟨k1W, k2W, hraW, hbW, hszW⟩ := key W ⟨_, hWW.symm⟩
              clear hWW
              have hbBW : b < W.heap.size := by omega
              go_wp2_with (first
                | (at_builtin; refine wpList_append_row (n := 0) (xs := []) rfl (.tmp 46) (.tmp 49) rfl Tryd.underlying29 hi hz0 hz1 hz2 rfl (by decide) rfl (World.ownsRow_lit W #[] 0 (Nat.le_refl W.heap.size) (by simp [maxLen]) rfl) rfl (hraW.take (j * 2)).alloc2 HL1.out (fun u hu => pv_one acc u (List.mem_of_mem_take hu)) (by simp only [maxLen]; omega) (by omega) (by simp) ?_; intro v1 w1 own1 grow1; rw [Nat.zero_add, List.nil_append] at own1; obtain ⟨A1, q1, rfl, hq1⟩ := own_form own1; have g1 : Below W.heap.size W w1 := ((Below.refl _ W).alloc (Nat.le_refl _) _).grown grow1 (by simp) (fresh_ge W); have z1 := g1.size; have k1a := (g1.cell (p := ⟨b, o + k * 2, none⟩) hbBW).trans k1W; have k2a := (g1.cell (p := ⟨b, o + k * 2 + 1, none⟩) hbBW).trans k2W)
                | (at_builtin; refine wpList_append_row rfl (.tmp 51) (.tmp 56) rfl Tryd.underlying29 hi hz0 hz1 hz2 rfl (by decide) rfl (own1.alloc _) rfl (row_two w1 x y _) (by rfl) (pv_one _) (by simp only [maxLen]; omega) (by omega) (by simp; omega) ?_; intro v2 w2 own2 grow2; obtain ⟨A2, q2, rfl, hq2⟩ := own_form own2; have g2 : Below W.heap.size W w2 := (g1.alloc g1.size _).grown grow2 (by simp; omega) (own_ge own1); have z2 := g2.size)
                | (at_builtin; refine wpList_append_row rfl (.tmp 58) (.tmp 61) rfl Tryd.underlying29 hi hz0 hz1 hz2 rfl (by decide) rfl own2 rfl ((hraW.below g2).dropAt (j * 2)) HL2.out (fun u hu => pv_one acc u (List.mem_of_mem_drop hu)) (by simp only [maxLen]; omega) (by omega) z2 ?_; intro v3 w3 own3 grow3; obtain ⟨A3, q3, rfl, hq3⟩ := own_form own3; have g3 : Below W.heap.size W w3 := g2.grown grow3 (by omega) (own_ge own2)))
              go_roundw
              case rel => exact ⟨k + 1, j + 1 + (n - j), A3, q3, by omega, by go_num, rfl, by omega, hq3, HF.out.1, by rw [HF.out.2]; exact own_mono own3 hszW, hbW.trans (g3.mono hszW)⟩
              case measure => simp [intOf]; omega
            · obtain rfl : j = n := by omega
              have hd : decide (j < j) = false := by simp
              have HL4 : Hid (([] : List Value).length = (j - j) * 2) := by show _ = _; simp
              have HF2 : Hid (j + 1 + (j - j) = ((l.take (k + 1)).foldl G.insF []).length ∧ pv ((l.take (k + 1)).foldl G.insF []) = (pv acc).take (j * 2) ++ pv [(x, y)] ++ []) := by
                refine ⟨HF.out.1, ?_⟩
                rw [HF.out.2, List.drop_of_length_le (by rw [pv_len]; have := HN.out; omega)]
              clear hgo hjn
              by_cases hcv : cv = j
              · have hcv2 := hcv.symm
                clear hcv
                subst hcv2
                go_wp2_with fail
                go_quiet (fail)
                generalize hWW : (wr.drewN q).drewN _ = W
                obtain ⟨k1W, k2W, hraW, hbW, hszW⟩ := key W ⟨_, hWW.symm⟩
                clear hWW
                have hbBW : b < W.heap.size := by omega
                go_wp2_with (first
                  | (at_builtin; refine wpList_append_row (n := 0) (xs := []) rfl (.tmp 46) (.tmp 49) rfl Tryd.underlying29 hi hz0 hz1 hz2 rfl (by decide) rfl (World.ownsRow_lit W #[] 0 (Nat.le_refl W.heap.size) (by simp [maxLen]) rfl) rfl (hraW.take (j * 2)).alloc2 HL1.out (fun u hu => pv_one acc u (List.mem_of_mem_take hu)) (by simp only [maxLen]; omega) (by omega) (by simp) ?_; intro v1 w1 own1 grow1; rw [Nat.zero_add, List.nil_append] at own1; obtain ⟨A1, q1, rfl, hq1⟩ := own_form own1; have g1 : Below W.heap.size W w1 := ((Below.refl _ W).alloc (Nat.le_refl _) _).grown grow1 (by simp) (fresh_ge W); have z1 := g1.size; have k1a := (g1.cell (p := ⟨b, o + k * 2, none⟩) hbBW).trans k1W; have k2a := (g1.cell (p := ⟨b, o + k * 2 + 1, none⟩) hbBW).trans k2W)
                  | (at_builtin; refine wpList_append_row rfl (.tmp 51) (.tmp 56) rfl Tryd.underlying29 hi hz0 hz1 hz2 rfl (by decide) rfl (own1.alloc _) rfl (row_two w1 x y _) (by rfl) (pv_one _) (by simp only [maxLen]; omega) (by omega) (by simp; omega) ?_; intro v2 w2 own2 grow2; obtain ⟨A2, q2, rfl, hq2⟩ := own_form own2; have g2 : Below W.heap.size W w2 := (g1.alloc g1.size _).grown grow2 (by simp; omega) (own_ge own1); have z2 := g2.size)
                  | (at_builtin; refine wpList_append_row rfl (.tmp 58) (.tmp 61) rfl Tryd.underlying29 hi hz0 hz1 hz2 rfl (by decide) rfl own2 rfl (Row.nil w2 W.heap.size _) (by simp) (fun u hu => by simp at hu) (by simp only [maxLen]; omega) (by omega) z2 ?_; intro v3 w3 own3 grow3; obtain ⟨A3, q3, rfl, hq3⟩ := own_form own3; have g3 : Below W.heap.size W w3 := g2.grown grow3 (by omega) (own_ge own2)))
                go_roundw
                case rel => exact ⟨k + 1, _, A3, q3, by omega, by go_num, rfl, by omega, hq3, Lib.hid (by have := HF2.out.1; omega), by rw [HF2.out.2]; exact own_mono own3 hszW, hbW.trans (g3.mono hszW)⟩
                case measure => simp [intOf]; omega
              · have hcv' : j < cv := by omega
                clear hcv
                go_wp2_with fail
                go_quiet (fail)
                generalize hWW : (wr.drewN q).drewN _ = W
                obtain ⟨k1W, k2W, hraW, hbW, hszW⟩ := key W ⟨_, hWW.symm⟩
                clear hWW
                have hbBW : b < W.heap.size := by omega
                go_wp2_with (first
                  | (at_builtin; refine wpList_append_row (n := 0) (xs := []) rfl (.tmp 46) (.tmp 49) rfl Tryd.underlying29 hi hz0 hz1 hz2 rfl (by decide) rfl (World.ownsRow_lit W #[] 0 (Nat.le_refl W.heap.size) (by simp [maxLen]) rfl) rfl (hraW.take (j * 2)).alloc2 HL1.out (fun u hu => pv_one acc u (List.mem_of_mem_take hu)) (by simp only [maxLen]; omega) (by omega) (by simp) ?_; intro v1 w1 own1 grow1; rw [Nat.zero_add, List.nil_append] at own1; obtain ⟨A1, q1, rfl, hq1⟩ := own_form own1; have g1 : Below W.heap.size W w1 := ((Below.refl _ W).alloc (Nat.le_refl _) _).grown grow1 (by simp) (fresh_ge W); have z1 := g1.size; have k1a := (g1.cell (p := ⟨b, o + k * 2, none⟩) hbBW).trans k1W; have k2a := (g1.cell (p := ⟨b, o + k * 2 + 1, none⟩) hbBW).trans k2W)
                  | (at_builtin; refine wpList_append_row rfl (.tmp 51) (.tmp 56) rfl Tryd.underlying29 hi hz0 hz1 hz2 rfl (by decide) rfl (own1.alloc _) rfl (row_two w1 x y _) (by rfl) (pv_one _) (by simp only [maxLen]; omega) (by omega) (by simp; omega) ?_; intro v2 w2 own2 grow2; obtain ⟨A2, q2, rfl, hq2⟩ := own_form own2; have g2 : Below W.heap.size W w2 := (g1.alloc g1.size _).grown grow2 (by simp; omega) (own_ge own1); have z2 := g2.size)
                  | (at_builtin; refine wpList_append_row rfl (.tmp 58) (.tmp 61) rfl Tryd.underlying29 hi hz0 hz1 hz2 rfl (by decide) rfl own2 rfl (Row.nil w2 W.heap.size _) (by simp) (fun u hu => by simp at hu) (by simp only [maxLen]; omega) (by omega) z2 ?_; intro v3 w3 own3 grow3; obtain ⟨A3, q3, rfl, hq3⟩ := own_form own3; have g3 : Below W.heap.size W w3 := g2.grown grow3 (by omega) (own_ge own2)))
                go_roundw
                case rel => exact ⟨k + 1, _, A3, q3, by omega, by go_num, rfl, by omega, hq3, Lib.hid (by have := HF2.out.1; omega), by rw [HF2.out.2]; exact own_mono own3 hszW, hbW.trans (g3.mono hszW)⟩
                case measure => simp [intOf]; omega
    · obtain rfl : k = l.length := by omega
      have e : l.take l.length = l := List.take_length
      rw [e] at HN hown
      clear e hlt
      have hra : Row wr wr.heap.size Av (pv (l.foldl G.insF [])) := own_row hown (by decide)
      have hne := G.insF_ne l [] (by simp)
      have HG : Hid (G.tidy l = G.merge (l.foldl G.insF [])) := by show _ = _; rw [G.tidy, G.insAll_eq]
      generalize l.foldl G.insF [] = S at HN hra hne HG
      have HNE := Lib.hid hne
      clear hne hown
      obtain ⟨W1, rfl⟩ : ∃ W1 : World, W1 = wr := ⟨_, rfl⟩
      have hn5 : n ≤ 5000 := by omega
      go_wp2_with fail
      go_loopw [7, 8] (fun v i wr => ∃ (k m : Nat) (Ao : Option Addr) (co : Nat), k ≤ n ∧ i = .int .i64 (k : Int) ∧ v = .slice Ao m co ∧ m ≤ k ∧ m ≤ co ∧ Hid (m = ((S.take k).foldl G.mstep []).length) ∧ wr.ownsRow W1.heap.size 66 2 (.slice Ao m co) m (pv ((S.take k).foldl G.mstep [])) ∧ Below W1.heap.size W1 wr) (fun _ i _ => n - (intOf i).toNat)
      case atStart => exact ⟨0, 0, none, 0, by omega, rfl, rfl, by omega, by omega, Lib.hid rfl, World.ownsRow_nil _ _ _ _, Below.refl _ _⟩
      case round =>
        obtain ⟨k, m, Ao, co, hk, rfl, rfl, hmk, hmco, HM, hown, hb2⟩ := hrel
        by_cases hlt : k < n
        · have hkS : k < S.length := by have := HN.out; omega
          obtain ⟨b, o, rfl, hbB, c1, c2⟩ := hra.pair hkS
          have c1 := (hb2.cell (p := ⟨b, o + k * 2, none⟩) hbB).trans c1
          have c2 := (hb2.cell (p := ⟨b, o + k * 2 + 1, none⟩) hbB).trans c2
          have HX : Hid (S[k].1 ≠ S[k].2) := HNE.out _ (List.getElem_mem hkS)
          have HT : Hid ((S.take (k + 1)).foldl G.mstep [] = G.mstep ((S.take k).foldl G.mstep []) (S[k].1, S[k].2)) := by
            show _ = _
            rw [G.foldl_take_succ _ _ _ _ hkS]
          generalize S[k].1 = x at c1 HT HX
          generalize S[k].2 = y at c2 HT HX
          generalize (S.take k).foldl G.mstep [] = M at HM hown HT
          rcases G.snoc_cases M with rfl | ⟨ms, q, rfl⟩
          · obtain rfl : m = 0 := HM.out
            have HR : Hid ((S.take (k + 1)).foldl G.mstep [] = [(x, y)]) := by show _ = _; rw [HT.out, G.mstep_nil HX.out]
            go_wp2_with fail
            go_quiet (fail)
            generalize hWW : wr.drewN _ = W
            have hownW : W.ownsRow W1.heap.size 66 2 (.slice Ao 0 co) 0 (pv []) := by rw [← hWW]; exact hown
            have hbW : Below W1.heap.size W1 W := by rw [← hWW]; exact below_drewN2 hb2 _
            have k1 : W.cell? ⟨b, o + k * 2, none⟩ = some (.int .i64 x) := by rw [← hWW]; exact c1
            have k2 : W.cell? ⟨b, o + k * 2 + 1, none⟩ = some (.int .i64 y) := by rw [← hWW]; exact c2
            have hsz := hbW.size
            clear hWW c1 c2
            go_wp2_with (at_builtin; refine wpList_append_row rfl (.tmp 104) (.tmp 109) rfl Tryd.underlying29 hi hz0 hz1 hz2 rfl (by decide) rfl (hownW.alloc _) rfl (row_two W x y _) (by rfl) (pv_one _) (by simp only [maxLen]; omega) (by omega) (by simp; omega) ?_; intro v3 w3 own3 grow3; rw [Nat.zero_add] at own3; obtain ⟨A3, q3, rfl, hq3⟩ := own_form own3)
            go_roundw
            case rel => exact ⟨k + 1, 1, A3, q3, by omega, by go_num, rfl, by omega, hq3, by rw [HR.out]; exact Lib.hid rfl, by rw [HR.out]; exact own3, (hbW.alloc hsz _).grown grow3 (by simp; omega) (own_ge hownW)⟩
            case measure => simp [intOf]; omega
          · obtain rfl : m = ms.length + 1 := by have := HM.out; simpa using this
            obtain ⟨g, cap, hv, hbg, hgl⟩ := hown.form (by omega)
            have hA : Ao = some ⟨g, 0, none⟩ := by injection hv
            subst hA
            obtain ⟨d1, d2, d3, d4, d5⟩ := cell_last hown
            obtain ⟨q1, q2⟩ := q
            simp only at d1 d2
            by_cases hle : x ≤ q2
            · have HR : Hid ((S.take (k + 1)).foldl G.mstep [] = ms ++ [(q1, max q2 y)]) := by show _ = _; rw [HT.out, G.mstep_more HX.out hle]
              go_wp2_with fail
              go_quiet (fail)
              go_wp2_with fail
              go_region
              all_goals
                go_wp2_with fail
                go_roundw
                case rel => exact ⟨k + 1, ms.length + 1, some ⟨g, 0, none⟩, co, by omega, by go_num, rfl, by omega, hmco, by rw [HR.out]; exact Lib.hid (by simp), by rw [HR.out]; exact (own_last (w := (wr.drewN _).drew) (z := max q2 y) hown).1, ((below_drewN2 hb2 _).drew).setCell (p := ⟨g, ms.length * 2 + 1, none⟩) hbg _⟩
                case measure => simp [intOf]; omega
            · have HR : Hid ((S.take (k + 1)).foldl G.mstep [] = ms ++ [(q1, q2)] ++ [(x, y)]) := by show _ = _; rw [HT.out, G.mstep_new HX.out hle]
              have hle' : q2 < x := by omega
              clear hle
              go_wp2_with fail
              go_quiet (fail)
              generalize hWW : wr.drewN _ = W
              have hownW : W.ownsRow W1.heap.size 66 2 (.slice (some ⟨g, 0, none⟩) (ms.length + 1) co) (ms.length + 1) (pv (ms ++ [(q1, q2)])) := by rw [← hWW]; exact hown
              have hbW : Below W1.heap.size W1 W := by rw [← hWW]; exact below_drewN2 hb2 _
              have k1 : W.cell? ⟨b, o + k * 2, none⟩ = some (.int .i64 x) := by rw [← hWW]; exact c1
              have k2 : W.cell? ⟨b, o + k * 2 + 1, none⟩ = some (.int .i64 y) := by rw [← hWW]; exact c2
              have hsz := hbW.size
              clear hWW c1 c2 d1 d2 d3
              go_wp2_with (at_builtin; refine wpList_append_row rfl (.tmp 104) (.tmp 109) rfl Tryd.underlying29 hi hz0 hz1 hz2 rfl (by decide) rfl (hownW.alloc _) rfl (row_two W x y _) (by rfl) (pv_one _) (by simp only [maxLen]; omega) (by omega) (by simp; omega) ?_; intro v3 w3 own3 grow3; obtain ⟨A3, q3, rfl, hq3⟩ := own_form own3)
              go_roundw
              case rel => exact ⟨k + 1, _, A3, q3, by omega, by go_num, rfl, by omega, hq3, by rw [HR.out]; exact Lib.hid (by simp), by rw [HR.out, pv_append _ [(x, y)]]; exact own3, (hbW.alloc hsz _).grown grow3 (by simp; omega) (own_ge hownW)⟩
              case measure => simp [intOf]; omega
        · obtain rfl : k = n := by omega
          have e : S.take k = S := List.take_of_length_le (by have := HN.out; omega)
          rw [e] at HM hown
          clear e
          have HL : Hid (m = (G.tidy l).length) := by show _ = _; rw [HG.out]; exact HM.out
          have hown : wr.ownsRow W1.heap.size 66 2 (.slice Ao m co) m (pv (G.tidy l)) := by rw [HG.out]; exact hown
          go_wp2_with fail
          go_ret
          refine ⟨_, rfl, ?_, hb.trans (hb2.mono hb.size)⟩
          rw [← HL.out]
          exact own_mono hown hb.size
end Go.Proofs.YtgjoldjfeobjgaaDoor
