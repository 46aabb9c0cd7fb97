/-
  The reference's Blocks.
-/
import Derived.Test.YtgjoldjfeobjgaaDoorRgBlk
namespace Go.Proofs.YtgjoldjfeobjgaaDoor
open Go.RowKit

set_option maxRecDepth 100000 in
set_option maxHeartbeats 4000000 in
theorem refblk_any (l : List G.Rg) (hs : G.Set_ l) (hn : l.length ≤ 5000) (size : Int) (A : Option Addr) (c : Nat) (w : World) (hr : Row w w.heap.size A (pv l)) :
    Calls Tryd.prog 20 #[.slice A l.length c, .int .i64 size] w fun e w' => ∃ v, e = .returned (.tuple #[v, .int .i64 ((G.blkR size l).1 : Int)]) ∧ w'.ownsRow w.heap.size 3 1 v (G.blkR size l).2.length (iv (G.blkR size l).2) ∧ Below w.heap.size w w' := by
  obtain ⟨i0, hi, hz0, hz1, hz2⟩ := info_parts infoInt
  have HB : Hid (size < 1 ∨ 1099511627776 < size → G.blkR size l = (2, [])) := G.blkR_bad
  have HS : Hid (1 ≤ size → size ≤ 1099511627776 → ∀ out, G.blks size l 0 [] = some out → G.blkR size l = (0, out)) := fun h1 h2 out h => G.blkR_some h1 h2 h
  have HN : Hid (1 ≤ size → size ≤ 1099511627776 → G.blks size l 0 [] = none → G.blkR size l = (9, [])) := G.blkR_none
  generalize G.blkR size l = res at HB HS HN
  go_enter Tryd.func20, Tryd.ntmps20
  rcases (show size < 1 ∨ (1 ≤ size ∧ 1099511627776 < size) ∨ (1 ≤ size ∧ size ≤ 1099511627776) by omega) with h1 | ⟨h1, h2⟩ | ⟨h1, h2⟩
  · have HR := Lib.hid (HB.out (.inl h1))
    go_wp2_with fail
    exact bodyPost_ret (v := .tuple #[.slice none 0 0, .int .i64 2]) (by simp [results, Tryd.results20, go_sem]) rfl ⟨.slice none 0 0, by rw [HR.out]; rfl, by rw [HR.out]; exact World.ownsRow_nil _ _ _ _, Below.refl _ _⟩
  · have HR := Lib.hid (HB.out (.inr h2))
    go_wp2_with fail
    exact bodyPost_ret (v := .tuple #[.slice none 0 0, .int .i64 2]) (by simp [results, Tryd.results20, go_sem]) rfl ⟨.slice none 0 0, by rw [HR.out]; rfl, by rw [HR.out]; exact World.ownsRow_nil _ _ _ _, Below.refl _ _⟩
  · have HS := Lib.hid (HS.out h1 h2)
    have HN := Lib.hid (HN.out h1 h2)
    clear HB
    go_wp2_with fail
    go_loopw [6, 7, 8] (fun v la i wr => ∃ (k : Nat) (acc : List Int) (next : Int) (Ao : Option Addr) (co : Nat), k ≤ l.length ∧ i = .int .i64 (k : Int) ∧ la = .int .i64 (next - 1) ∧ v = .slice Ao acc.length co ∧ acc.length ≤ 100000 ∧ acc.length ≤ co ∧ 0 ≤ next ∧ next ≤ 1099511627777 ∧ Hid (G.blks size l 0 [] = G.blks size (l.drop k) next acc) ∧ Hid (G.bAhead size next (l.drop k)) ∧ wr.ownsRow w.heap.size 3 1 (.slice Ao acc.length co) acc.length (iv acc) ∧ Below w.heap.size w wr) (fun _ _ i _ => l.length - (intOf i).toNat)
    case atStart => exact ⟨0, [], 0, none, 0, by omega, rfl, rfl, rfl, by simp, by simp, by omega, by omega, Lib.hid rfl, Lib.hid (fun r hr => by
      have := hs.1.from_gt r hr
      have := Int.ediv_nonneg (a := r.1) (b := size) (by omega) (by omega)
      omega), World.ownsRow_nil _ _ _ _, Below.refl _ _⟩
    case round =>
      obtain ⟨k, acc, next, Ao, co, hk, rfl, rfl, rfl, hacc, hco, hnx0, hnx1, HE, HA, hown, hb⟩ := hrel
      by_cases hlt : k < l.length
      · obtain ⟨b, o, rfl, hbB, c1, c2⟩ := hr.pair hlt
        have k2 := c2
        have c1 := (hb.cell (p := ⟨b, o + k * 2, none⟩) hbB).trans c1
        have c2 := (hb.cell (p := ⟨b, o + k * 2 + 1, none⟩) hbB).trans c2
        have hat := hs.at_ hlt
        have hdv := hs.div hlt h1
        obtain ⟨lo, hcd⟩ := G.canon_drop k hs.1
        have hds := G.drop_step hlt
        rw [hds] at hcd
        have hen := G.b_enter (next := next) h1 hcd (by rw [← hds]; exact HA.out)
        have hdd : l[k].1 / size ≤ (l[k].2 - 1) / size := G.div_mono h1 (by omega)
        have HA2 : Hid (G.bAhead size (G.bLast size l[k] + 1) (l.drop (k + 1))) := G.bAhead_next h1 hcd
        have HNO : Hid (100000 - (acc.length : Int) ≤ G.bLast size l[k] - G.bFirst size next l[k] → G.blks size l 0 [] = none) := fun h => by rw [HE.out, hds]; exact G.blks_cons_none h
        have HYES : Hid (¬ 100000 - (acc.length : Int) ≤ G.bLast size l[k] - G.bFirst size next l[k] → G.blks size l 0 [] = G.blks size (l.drop (k + 1)) (G.bLast size l[k] + 1) (acc ++ G.blkList (G.bFirst size next l[k]) (G.bLast size l[k]))) := fun h => by rw [HE.out, hds]; exact G.blks_cons_some h
        simp only [G.bFirst, G.bLast] at hen HA2 HNO HYES
        generalize l[k].1 = x at c1 hat hdv hen hdd HA2 HNO HYES
        generalize l[k].2 = y at c2 k2 hat hdv hen hdd HA2 HNO HYES
        clear hds hcd HE HA
        obtain ⟨a1, a2, a3⟩ := hat
        obtain ⟨d1, d2, d3, d4⟩ := hdv
        obtain ⟨e1, e2⟩ := hen
        have hnn : next - 1 + 1 = next := by omega
        obtain ⟨F, hF⟩ : ∃ F, max next (x / size) = F := ⟨_, rfl⟩
        obtain ⟨L, hL⟩ : ∃ L, (y - 1) / size = L := ⟨_, rfl⟩
        rw [hF, hL] at HNO HYES e2
        rw [hL] at HA2 e1
        have hF0 : 0 ≤ F := by omega
        have hF1 : F ≤ 1099511627777 := by omega
        have hlast : L < F → next = L + 1 := by omega
        have hFn : next ≤ F := by omega
        go_wp2_with fail
        go_loopw [6, 7, 9] (fun v la i wq => ∃ (j : Nat) (ls : Int) (Ai : Option Addr) (ci : Nat), F + (j : Int) ≤ L + 1 ∧ acc.length + j ≤ 100000 ∧ i = .int .i64 (F + (j : Int)) ∧ la = .int .i64 ls ∧ ((j = 0 ∧ ls = next - 1) ∨ (0 < j ∧ ls = F + (j : Int) - 1)) ∧ v = .slice Ai (acc.length + j) ci ∧ acc.length + j ≤ ci ∧ wq.ownsRow w.heap.size 3 1 (.slice Ai (acc.length + j) ci) (acc.length + j) (iv (acc ++ G.blkList F (F + (j : Int) - 1))) ∧ Below w.heap.size w wq) (fun _ _ i _ => (L + 1 - intOf i).toNat)
        case atStart => exact ⟨0, next - 1, Ao, co, by omega, by omega, by rw [← hF]; first | done | simp [hnn], rfl, .inl ⟨rfl, rfl⟩, rfl, hco, by rw [G.blkList_nil (by omega), List.append_nil]; exact hown, hb⟩
        case round =>
          obtain ⟨j, ls, Ai, ci, hj, hj2, rfl, rfl, hls, rfl, hci, hownq, hbq⟩ := hrel
          have hszq := hbq.size
          have c2 := (hbq.cell (p := ⟨b, o + k * 2 + 1, none⟩) hbB).trans k2
          by_cases hgo : F + (j : Int) ≤ L
          · have hgo2 : F + (j : Int) ≤ (y - 1) / size := by omega
            by_cases hfull : acc.length + j = 100000
            · have HR := Lib.hid (HN.out (HNO.out (by omega)))
              have t1 : (((acc.length + j : Nat) : Int) == 100000) = true := beq_iff_eq.2 (by omega)
              have t2 : (((acc.length : Int) + (j : Int)) == 100000) = true := beq_iff_eq.2 (by omega)
              clear HYES
              go_wp2_with fail
              exact bodyPost_ret (v := .tuple #[.slice none 0 0, .int .i64 9]) (by simp [results, Tryd.results20, go_sem]) rfl ⟨.slice none 0 0, by rw [HR.out]; rfl, by rw [HR.out]; exact World.ownsRow_nil _ _ _ _, hbq⟩
            · have t1 : (((acc.length + j : Nat) : Int) == 100000) = false := beq_eq_false_iff_ne.2 (by omega)
              have t2 : (((acc.length : Int) + (j : Int)) == 100000) = false := beq_eq_false_iff_ne.2 (by omega)
              go_wp2_with (at_builtin; refine wpList_append_row rfl (.tmp 47) (.tmp 49) rfl Tryd.underlying40 hi hz0 hz1 hz2 rfl (by decide) rfl (hownq.alloc _) rfl (row_int _ (F + (j : Int)) _) (by rfl) (iv_one _) (by simp only [maxLen]; omega) (by omega) (by simp; omega) ?_; intro v3 w3 own3 grow3; rw [← iv_append, List.append_assoc] at own3; obtain ⟨A3, q3, rfl, hq3⟩ := own_form own3)
              go_roundw
              case rel => exact ⟨j + 1, F + (j : Int), A3, q3, by omega, by omega, by go_num, rfl, .inr ⟨by omega, by omega⟩, rfl, hq3, by
                rw [show F + ((j + 1 : Nat) : Int) - 1 = (F + (j : Int) - 1) + 1 by omega, G.blkList_snoc (by omega), show F + (j : Int) - 1 + 1 = F + (j : Int) by omega]
                exact own3, (hbq.alloc hszq _).grown grow3 (by simp; omega) (own_ge hownq)⟩
              case measure => simp [intOf]; omega
          · have hje : F + (j : Int) - 1 = L := by omega
            have hls2 : ls = L + 1 - 1 := by rcases hls with ⟨h, h'⟩ | ⟨h, h'⟩ <;> omega
            have HE2 := Lib.hid (HYES.out (by omega))
            rw [hje] at hownq
            have hgo2 : (y - 1) / size < F + (j : Int) := by omega
            subst hls2
            go_wp2_with fail
            go_roundw
            case rel => exact ⟨k + 1, acc ++ G.blkList F L, L + 1, Ai, ci, by omega, by go_num, rfl, by rw [List.length_append, G.blkList_len]; congr 1; omega, by rw [List.length_append, G.blkList_len]; omega, by rw [List.length_append, G.blkList_len]; omega, by omega, by omega, HE2, HA2, by
              rw [show (acc ++ G.blkList F L).length = acc.length + j by rw [List.length_append, G.blkList_len]; omega]
              exact hownq, hbq⟩
            case measure => simp [intOf]; omega
      · obtain rfl : k = l.length := by omega
        have HR := Lib.hid (HS.out acc (by rw [HE.out, List.drop_length]; rfl))
        clear HE HA
        go_wp2_with fail
        exact bodyPost_ret (v := .tuple #[.slice Ao acc.length co, .int .i64 0]) (by simp [results, Tryd.results20, go_sem]) rfl ⟨.slice Ao acc.length co, by rw [HR.out]; rfl, by rw [HR.out]; exact hown, hb⟩
end Go.Proofs.YtgjoldjfeobjgaaDoor
