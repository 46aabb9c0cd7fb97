/-
  ranges.Set.Blocks.
-/
import Derived.Test.YtgjoldjfeobjgaaDoorRgAppend
import Derived.ChangeAlike
import Derived.RegionTactic
import Derived.BigRegion
namespace Go.Proofs.YtgjoldjfeobjgaaDoor
open Go.RowKit

def iv (l : List Int) : List Value := l.map fun x => .int .i64 x
theorem iv_len (l : List Int) : (iv l).length = l.length := by simp [iv]
theorem iv_append (a b : List Int) : iv (a ++ b) = iv a ++ iv b := by simp [iv]
theorem iv_one (l : List Int) : ∀ u ∈ iv l, u.oneCell' = true := by
  intro u hu
  obtain ⟨x, _, rfl⟩ := List.mem_map.1 hu
  rfl
theorem Row.num {w : World} {B : Nat} {A : Option Addr} {l : List Int} (h : Row w B A (iv l)) {k : Nat} (hk : k < l.length) :
    ∃ b o, A = some ⟨b, o, none⟩ ∧ b < B ∧ w.cell? ⟨b, o + k, none⟩ = some (.int .i64 l[k]) := by
  obtain ⟨b, o, h1, h2, h3⟩ := h.at_ (k := k) (by rw [iv_len]; omega)
  exact ⟨b, o, h1, h2, h3 _ _ (by simp [iv, hk])⟩
theorem row_int (W : World) (x : Int) (T : TypeId) : Row (W.alloc (.cells #[.int .i64 x] T)) (W.heap.size + 1) (some ⟨W.heap.size, 0, none⟩) (iv [x]) := by
  refine .inr ⟨W.heap.size, 0, rfl, by omega, fun j u hu => ?_⟩
  have h := World.alloc_heap_new W (.cells #[.int .i64 x] T)
  have : j < 1 := by have := (List.getElem?_eq_some_iff.1 hu).1; simpa [iv] using this
  obtain rfl : j = 0 := by omega
  simp [iv] at hu; subst hu; simp only [World.cell?, h]; rfl
namespace G
def blkR (size : Int) (l : List Rg) : Nat × List Int := if size < 1 ∨ 1099511627776 < size then (2, []) else (match blks size l 0 [] with | some out => (0, out) | none => (9, []))
theorem blkR_bad {size : Int} {l : List Rg} (h : size < 1 ∨ 1099511627776 < size) : blkR size l = (2, []) := if_pos h
theorem blkR_some {size : Int} {l : List Rg} {out : List Int} (h1 : 1 ≤ size) (h2 : size ≤ 1099511627776) (h : blks size l 0 [] = some out) : blkR size l = (0, out) := by
  unfold blkR; rw [if_neg (by omega), h]
theorem blkR_none {size : Int} {l : List Rg} (h1 : 1 ≤ size) (h2 : size ≤ 1099511627776) (h : blks size l 0 [] = none) : blkR size l = (9, []) := by
  unfold blkR; rw [if_neg (by omega), h]
theorem blks_cons_none {size : Int} {r : Rg} {l : List Rg} {next : Int} {acc : List Int} (h : 100000 - (acc.length : Int) ≤ bLast size r - bFirst size next r) : blks size (r :: l) next acc = none := by rw [blks, if_pos h]
theorem blks_cons_some {size : Int} {r : Rg} {l : List Rg} {next : Int} {acc : List Int} (h : ¬ 100000 - (acc.length : Int) ≤ bLast size r - bFirst size next r) : blks size (r :: l) next acc = blks size l (bLast size r + 1) (acc ++ blkList (bFirst size next r) (bLast size r)) := by rw [blks, if_neg h]
theorem Set_.div {l : List Rg} (h : Set_ l) {k : Nat} (hk : k < l.length) {size : Int} (hs : 1 ≤ size) : 0 ≤ l[k].1 / size ∧ l[k].1 / size ≤ 1099511627776 ∧ 0 ≤ (l[k].2 - 1) / size ∧ (l[k].2 - 1) / size ≤ 1099511627776 := by
  have ha := h.at_ hk
  have h1 : l[k].1 / size ≤ l[k].1 := Int.ediv_le_self _ ha.1
  have h2 : (l[k].2 - 1) / size ≤ l[k].2 - 1 := Int.ediv_le_self _ (by omega)
  exact ⟨Int.ediv_nonneg ha.1 (by omega), by omega, Int.ediv_nonneg (by omega) (by omega), by omega⟩
theorem canon_drop : ∀ {l : List Rg} {lo : Int} (k : Nat), Canon lo l → ∃ lo', Canon lo' (l.drop k)
  | l, lo, 0, h => ⟨lo, h⟩
  | [], lo, k + 1, _ => ⟨lo, by simp [Canon]⟩
  | r :: l, lo, k + 1, h => by simpa using canon_drop k h.2.2
/-- The ranges from one on, one step. -/
theorem drop_step {l : List Rg} {k : Nat} (hk : k < l.length) : l.drop k = l[k] :: l.drop (k + 1) := List.drop_eq_getElem_cons hk
end G

set_option maxRecDepth 100000 in
set_option maxHeartbeats 4000000 in
theorem blocks_any (l : List G.Rg) (hs : G.Set_ l) (hn : l.length ≤ 5000) (size : Int) (A : Option Addr) (c : Nat) (w : World) (hr : Row w w.heap.size A (pv l)) :
    Calls Tryd.prog 19 #[.agg #[.slice A l.length c], .int .i64 size] w fun e w' => ∃ v, e = .returned (.tuple #[v, .int .i64 ((G.blkR size l).1 : Int)]) ∧ w'.ownsRow w.heap.size 3 1 v (G.blkR size l).2.length (iv (G.blkR size l).2) ∧ Below w.heap.size w w' := by
  obtain ⟨i0, hi, hz0, hz1, hz2⟩ := info_parts infoInt
  have HB : Hid (size < 1 ∨ 1099511627776 < size → G.blkR size l = (2, [])) := G.blkR_bad
  have HS : Hid (1 ≤ size → size ≤ 1099511627776 → ∀ out, G.blks size l 0 [] = some out → G.blkR size l = (0, out)) := fun h1 h2 out h => G.blkR_some h1 h2 h
  have HN : Hid (1 ≤ size → size ≤ 1099511627776 → G.blks size l 0 [] = none → G.blkR size l = (9, [])) := G.blkR_none
  generalize G.blkR size l = res at HB HS HN
  go_enter Tryd.func19, Tryd.ntmps19
  rcases (show size < 1 ∨ (1 ≤ size ∧ 1099511627776 < size) ∨ (1 ≤ size ∧ size ≤ 1099511627776) by omega) with h1 | ⟨h1, h2⟩ | ⟨h1, h2⟩
  · have HR := Lib.hid (HB.out (.inl h1))
    go_wp2_with fail
    exact bodyPost_ret (v := .tuple #[.slice none 0 0, .int .i64 2]) (by simp [results, Tryd.results19, go_sem]) rfl ⟨.slice none 0 0, by rw [HR.out]; rfl, by rw [HR.out]; exact World.ownsRow_nil _ _ _ _, (Below.refl _ _).alloc (Nat.le_refl _) _⟩
  · have HR := Lib.hid (HB.out (.inr h2))
    go_wp2_with fail
    exact bodyPost_ret (v := .tuple #[.slice none 0 0, .int .i64 2]) (by simp [results, Tryd.results19, go_sem]) rfl ⟨.slice none 0 0, by rw [HR.out]; rfl, by rw [HR.out]; exact World.ownsRow_nil _ _ _ _, (Below.refl _ _).alloc (Nat.le_refl _) _⟩
  · have HS := Lib.hid (HS.out h1 h2)
    have HN := Lib.hid (HN.out h1 h2)
    clear HB
    go_wp2_with fail
    go_loopw [6, 7, 22] (fun v nx i wr => ∃ (k : Nat) (acc : List Int) (next : Int) (Ao : Option Addr) (co : Nat), k ≤ l.length ∧ i = .int .i64 (k : Int) ∧ nx = .int .i64 next ∧ v = .slice Ao acc.length co ∧ acc.length ≤ 100000 ∧ acc.length ≤ co ∧ 0 ≤ next ∧ next ≤ 1099511627777 ∧ Hid (G.blks size l 0 [] = G.blks size (l.drop k) next acc) ∧ Hid (G.bAhead size next (l.drop k)) ∧ wr.ownsRow w.heap.size 3 1 (.slice Ao acc.length co) acc.length (iv acc) ∧ Below w.heap.size w wr) (fun _ _ i _ => l.length - (intOf i).toNat)
    case atStart => exact ⟨0, [], 0, none, 0, by omega, rfl, rfl, rfl, by simp, by simp, by omega, by omega, Lib.hid rfl, Lib.hid (fun r hr => by
      have := hs.1.from_gt r hr
      have := Int.ediv_nonneg (a := r.1) (b := size) (by omega) (by omega)
      omega), World.ownsRow_nil _ _ _ _, (Below.refl _ _).alloc (Nat.le_refl _) _⟩
    case round =>
      obtain ⟨k, acc, next, Ao, co, hk, rfl, rfl, rfl, hacc, hco, hnx0, hnx1, HE, HA, hown, hb⟩ := hrel
      by_cases hlt : k < l.length
      · obtain ⟨b, o, rfl, hbB, c1, c2⟩ := hr.pair hlt
        have c1 := (hb.cell (p := ⟨b, o + k * 2, none⟩) hbB).trans c1
        have c2 := (hb.cell (p := ⟨b, o + k * 2 + 1, none⟩) hbB).trans c2
        have hat := hs.at_ hlt
        have hdv := hs.div hlt h1
        obtain ⟨lo, hcd⟩ := G.canon_drop k hs.1
        have hds := G.drop_step hlt
        rw [hds] at hcd
        have hen := G.b_enter (next := next) h1 hcd (by rw [← hds]; exact HA.out)
        have HA2 : Hid (G.bAhead size (G.bLast size l[k] + 1) (l.drop (k + 1))) := G.bAhead_next h1 hcd
        have HNO : Hid (100000 - (acc.length : Int) ≤ G.bLast size l[k] - G.bFirst size next l[k] → G.blks size l 0 [] = none) := fun h => by rw [HE.out, hds]; exact G.blks_cons_none h
        have HYES : Hid (¬ 100000 - (acc.length : Int) ≤ G.bLast size l[k] - G.bFirst size next l[k] → G.blks size l 0 [] = G.blks size (l.drop (k + 1)) (G.bLast size l[k] + 1) (acc ++ G.blkList (G.bFirst size next l[k]) (G.bLast size l[k]))) := fun h => by rw [HE.out, hds]; exact G.blks_cons_some h
        simp only [G.bFirst, G.bLast] at hen HA2 HNO HYES
        generalize l[k].1 = x at c1 hat hdv hen HA2 HNO HYES
        generalize l[k].2 = y at c2 hat hdv hen HA2 HNO HYES
        clear hds hcd HE HA
        obtain ⟨a1, a2, a3⟩ := hat
        obtain ⟨d1, d2, d3, d4⟩ := hdv
        obtain ⟨e1, e2⟩ := hen
        go_wp2_with fail
        go_region
        all_goals
          generalize hL : (y - 1) / size = L at e1 e2 d3 d4 HA2 HNO HYES ⊢
          generalize hF : max next (x / size) = F at e2 HNO HYES ⊢
          generalize hW : (wr.alloc _).drew = W
          have hownW : W.ownsRow w.heap.size 3 1 (.slice Ao acc.length co) acc.length (iv acc) := by rw [← hW]; exact (hown.alloc _).drew
          have hbW : Below w.heap.size w W := by rw [← hW]; exact (hb.alloc hb.size _).drew
          have hsz := hbW.size
          have hF0 : 0 ≤ F ∧ F ≤ 1099511627777 := by omega
          obtain ⟨hF0, hF1⟩ := hF0
          clear hW hF hL d1 d2 c1 c2
          by_cases hlim : 100000 - (acc.length : Int) ≤ L - F
          · have HR := Lib.hid (HN.out (HNO.out hlim))
            clear HYES
            go_wp2_with fail
            exact bodyPost_ret (v := .tuple #[.slice none 0 0, .int .i64 9]) (by simp [results, Tryd.results19, go_sem]) rfl ⟨.slice none 0 0, by rw [HR.out]; rfl, by rw [HR.out]; exact World.ownsRow_nil _ _ _ _, hbW⟩
          · have HE2 := Lib.hid (HYES.out (by omega))
            have hlim' : L - F < 100000 - (acc.length : Int) := by omega
            clear HYES HNO hlim
            go_wp2_with fail
            go_loopw [6, 12] (fun v i wq => ∃ (j : Nat) (Ai : Option Addr) (ci : Nat), F + (j : Int) ≤ L + 1 ∧ i = .int .i64 (F + (j : Int)) ∧ v = .slice Ai (acc.length + j) ci ∧ acc.length + j ≤ ci ∧ wq.ownsRow w.heap.size 3 1 (.slice Ai (acc.length + j) ci) (acc.length + j) (iv (acc ++ G.blkList F (F + (j : Int) - 1))) ∧ Below w.heap.size w wq) (fun _ i _ => (L + 1 - intOf i).toNat)
            case atStart => exact ⟨0, Ao, co, by omega, by simp, rfl, hco, by rw [G.blkList_nil (by omega), List.append_nil]; exact hownW, hbW⟩
            case round =>
              obtain ⟨j, Ai, ci, hj, rfl, rfl, hci, hownq, hbq⟩ := hrel
              have hszq := hbq.size
              by_cases hgo : F + (j : Int) ≤ L
              · go_wp2_with (at_builtin; refine wpList_append_row rfl (.tmp 50) (.tmp 52) rfl Tryd.underlying40 hi hz0 hz1 hz2 rfl (by decide) rfl (hownq.alloc _) rfl (row_int _ (F + (j : Int)) _) (by rfl) (iv_one _) (by simp only [maxLen]; omega) (by omega) (by simp; omega) ?_; intro v3 w3 own3 grow3; rw [← iv_append, List.append_assoc] at own3; obtain ⟨A3, q3, rfl, hq3⟩ := own_form own3)
                go_roundw
                case rel => exact ⟨j + 1, A3, q3, by omega, by go_num, rfl, hq3, by
                  rw [show F + ((j + 1 : Nat) : Int) - 1 = (F + (j : Int) - 1) + 1 by omega, G.blkList_snoc (by omega), show F + (j : Int) - 1 + 1 = F + (j : Int) by omega]
                  exact own3, (hbq.alloc hszq _).grown grow3 (by simp; omega) (own_ge hownq)⟩
                case measure => simp [intOf]; omega
              · have hje : F + (j : Int) - 1 = L := by omega
                rw [hje] at hownq
                go_wp2_with fail
                go_roundw
                case rel => exact ⟨k + 1, acc ++ G.blkList F L, L + 1, Ai, ci, by omega, by go_num, rfl, by rw [List.length_append, G.blkList_len]; congr 1; omega, by rw [List.length_append, G.blkList_len]; omega, by rw [List.length_append, G.blkList_len]; omega, by omega, by omega, HE2, HA2, by
                  rw [show (acc ++ G.blkList F L).length = acc.length + j by rw [List.length_append, G.blkList_len]; omega]
                  exact hownq, hbq⟩
                case measure => simp [intOf]; omega
      · obtain rfl : k = l.length := by omega
        have HR := Lib.hid (HS.out acc (by rw [HE.out, List.drop_length]; rfl))
        clear HE HA
        go_wp2_with fail
        exact bodyPost_ret (v := .tuple #[.slice Ao acc.length co, .int .i64 0]) (by simp [results, Tryd.results19, go_sem]) rfl ⟨.slice Ao acc.length co, by rw [HR.out]; rfl, by rw [HR.out]; exact hown, hb⟩
end Go.Proofs.YtgjoldjfeobjgaaDoor
