/-
  The reference's Changed.
-/
import Derived.Test.YtgjoldjfeobjgaaDoorRgChg
namespace Go.Proofs.YtgjoldjfeobjgaaDoor
open Go.RowKit

set_option maxRecDepth 100000 in
set_option maxHeartbeats 4000000 in
theorem refchg_any (a b : List Int) (hna : a.length ≤ 200000) (hnb : b.length ≤ 200000) (A B : Option Addr) (c e : Nat) (w : World) (hra : Row w w.heap.size A (bv a)) (hrb : Row w w.heap.size B (bv b)) :
    Calls Tryd.prog 13 #[.slice A a.length c, .slice B b.length e] w fun e w' => ∃ v, e = .returned (.tuple #[v, .int .i64 ((G.chgR a b).1 : Int)]) ∧ w'.ownsRow w.heap.size 66 2 v (G.chgR a b).2.length (pv (G.chgR a b).2) ∧ Below w.heap.size w w' := by
  obtain ⟨i0, hi, hz0, hz1, hz2⟩ := info_parts infoG
  have HL : Hid (65536 < a.length ∨ 65536 < b.length → G.chgR a b = (5, [])) := fun h => if_pos h
  have HK : Hid (a.length ≤ 65536 → b.length ≤ 65536 → G.chgR a b = (if (G.chg (G.df a b) (max a.length b.length)).length ≤ 1024 then (0, G.chg (G.df a b) (max a.length b.length)) else (9, []))) := fun h1 h2 => if_neg (by omega)
  generalize G.chgR a b = res at HL HK
  go_enter Tryd.func13, Tryd.ntmps13
  rcases (show (65536 < a.length) ∨ (a.length ≤ 65536 ∧ 65536 < b.length) ∨ (a.length ≤ 65536 ∧ b.length ≤ 65536) by omega) with h1 | ⟨h1, h2⟩ | ⟨h1, h2⟩
  · have HR := Lib.hid (HL.out (.inl h1))
    go_wp2_with fail
    exact bodyPost_ret (v := .tuple #[.slice none 0 0, .int .i64 5]) (by simp [results, Tryd.results13, go_sem]) rfl ⟨.slice none 0 0, by rw [HR.out]; rfl, by rw [HR.out]; exact World.ownsRow_nil _ _ _ _, Below.refl _ _⟩
  · have HR := Lib.hid (HL.out (.inr h2))
    go_wp2_with fail
    exact bodyPost_ret (v := .tuple #[.slice none 0 0, .int .i64 5]) (by simp [results, Tryd.results13, go_sem]) rfl ⟨.slice none 0 0, by rw [HR.out]; rfl, by rw [HR.out]; exact World.ownsRow_nil _ _ _ _, Below.refl _ _⟩
  · have HR := Lib.hid (HK.out h1 h2)
    clear HK HL
    obtain ⟨nb, hnbe⟩ : ∃ nb, max a.length b.length = nb := ⟨_, rfl⟩
    rw [hnbe] at HR
    go_wp2_with fail
    go_loopw [6, 7] (fun v i wr => ∃ (k m : Nat) (Ao : Option Addr) (co : Nat), k ≤ nb ∧ i = .int .i64 (k : Int) ∧ v = .slice Ao m co ∧ m ≤ k ∧ m ≤ co ∧ Hid (m = (G.chg (G.df a b) k).length) ∧ wr.ownsRow w.heap.size 66 2 (.slice Ao m co) m (pv (G.chg (G.df a b) k)) ∧ Below w.heap.size w wr) (fun _ i _ => nb - (intOf i).toNat)
    case atStart => exact ⟨0, 0, none, 0, by omega, rfl, rfl, by omega, by omega, Lib.hid rfl, World.ownsRow_nil _ _ _ _, Below.refl _ _⟩
    case round =>
      obtain ⟨k, m, Ao, co, hk, rfl, rfl, hmk, hmco, HM, hown, hb2⟩ := hrel
      by_cases hlt : k < nb
      · have hread : ∃ now : Bool, Hid (G.df a b k = now) ∧ ((a.length ≤ k ∧ k < b.length ∧ now = true) ∨ (k < a.length ∧ b.length ≤ k ∧ now = true) ∨ (k < a.length ∧ k < b.length ∧ ∃ b1 o1 b2 o2 x y, A = some ⟨b1, o1, none⟩ ∧ B = some ⟨b2, o2, none⟩ ∧ b1 < w.heap.size ∧ b2 < w.heap.size ∧ w.cell? ⟨b1, o1 + k, none⟩ = some (.int .u8 x) ∧ w.cell? ⟨b2, o2 + k, none⟩ = some (.int .u8 y) ∧ (x != y) = now)) := by
          rcases Nat.lt_or_ge k a.length with ha | ha
          · rcases Nat.lt_or_ge k b.length with hb | hb
            · obtain ⟨b1, o1, e1, l1, c1⟩ := hra.byte ha
              obtain ⟨b2, o2, e2, l2, c2⟩ := hrb.byte hb
              exact ⟨_, G.df_ab ha hb, .inr (.inr ⟨ha, hb, b1, o1, b2, o2, _, _, e1, e2, l1, l2, c1, c2, rfl⟩)⟩
            · exact ⟨_, G.df_b ha hb, .inr (.inl ⟨ha, hb, rfl⟩)⟩
          · exact ⟨_, G.df_a ha (by omega), .inl ⟨ha, by omega, rfl⟩⟩
        obtain ⟨now, HD, hread⟩ := hread
        have HMORE : Hid (G.chgIn (G.df a b) k = true → now = true → ∃ ms f, G.chg (G.df a b) k = ms ++ [(f, (k : Int))] ∧ G.chg (G.df a b) (k + 1) = ms ++ [(f, (k : Int) + 1)]) := fun h1 h2 => G.chg_more h1 (HD.out.trans h2)
        have HNEW : Hid (G.chgIn (G.df a b) k = false → now = true → G.chg (G.df a b) (k + 1) = G.chg (G.df a b) k ++ [((k : Int), (k : Int) + 1)] ∧ ∀ q ∈ G.chg (G.df a b) k, q.2 < (k : Int)) := fun h1 h2 => G.chg_new h1 (HD.out.trans h2)
        have HSAME : Hid (now = false → G.chg (G.df a b) (k + 1) = G.chg (G.df a b) k) := fun h => G.chg_same (HD.out.trans h)
        obtain ⟨M2, e2⟩ : ∃ M2, G.chg (G.df a b) (k + 1) = M2 := ⟨_, rfl⟩
        rw [e2] at HMORE HNEW HSAME
        have E2 := Lib.hid e2
        generalize G.chg (G.df a b) k = M at HM hown HMORE HNEW HSAME
        generalize G.chgIn (G.df a b) k = ins at HMORE HNEW
        generalize G.df a b k = dk at HD
        clear HD e2 hra hrb
        cases now with
        | false =>
          obtain ⟨ha, hb, b1, o1, b2, o2, x, y, rfl, rfl, l1, l2, c1, c2, hxy⟩ := (show k < a.length ∧ k < b.length ∧ ∃ b1 o1 b2 o2 x y, A = some ⟨b1, o1, none⟩ ∧ B = some ⟨b2, o2, none⟩ ∧ b1 < w.heap.size ∧ b2 < w.heap.size ∧ w.cell? ⟨b1, o1 + k, none⟩ = some (.int .u8 x) ∧ w.cell? ⟨b2, o2 + k, none⟩ = some (.int .u8 y) ∧ (x != y) = false by
            rcases hread with ⟨_, _, h⟩ | ⟨_, _, h⟩ | h
            · cases h
            · cases h
            · exact h)
          have c1 := (hb2.cell (p := ⟨b1, o1 + k, none⟩) l1).trans c1
          have c2 := (hb2.cell (p := ⟨b2, o2 + k, none⟩) l2).trans c2
          have HS := Lib.hid (HSAME.out rfl)
          clear hread
          have hd1 : decide ((a.length : Int) ≤ (k : Int)) = false := decide_eq_false (by omega)
          have hd2 : decide ((b.length : Int) ≤ (k : Int)) = false := decide_eq_false (by omega)
          have hd3 : decide (a.length ≤ k) = false := decide_eq_false (by omega)
          have hd4 : decide (b.length ≤ k) = false := decide_eq_false (by omega)
          go_wp2_with fail
          go_quiet (fail)
          go_wp2_with fail
          go_roundw
          case rel => exact ⟨k + 1, m, Ao, co, by omega, by go_num, rfl, by omega, hmco, by rw [E2.out, HS.out]; exact HM, by rw [E2.out, HS.out]; exact hown, below_drewN2 hb2 _⟩
          case measure => simp [intOf]; omega
        | true =>
          have hcase : (∃ ms f, M = ms ++ [(f, (k : Int))] ∧ M2 = ms ++ [(f, (k : Int) + 1)]) ∨ (M = [] ∧ M2 = [((k : Int), (k : Int) + 1)]) ∨ (∃ ms f z, M = ms ++ [(f, z)] ∧ z < (k : Int) ∧ M2 = ms ++ [(f, z)] ++ [((k : Int), (k : Int) + 1)]) := by
            cases ins with
            | true => exact .inl (HMORE.out rfl rfl)
            | false =>
              obtain ⟨h1, h2⟩ := HNEW.out rfl rfl
              rcases G.snoc_cases M with h | ⟨ms, q, h⟩
              · exact .inr (.inl ⟨h, by rw [h1, h]; rfl⟩)
              · exact .inr (.inr ⟨ms, q.1, q.2, h, h2 q (by rw [h]; simp), by rw [h1, h]⟩)
          clear HMORE HNEW HSAME
          rcases hcase with ⟨ms, f, rfl, rfl⟩ | ⟨rfl, rfl⟩ | ⟨ms, f, z, rfl, hz, rfl⟩
          · obtain rfl : m = ms.length + 1 := by have := HM.out; simpa using this
            obtain ⟨g, cap, hv, hbg, hgl⟩ := hown.form (by omega)
            have hA : Ao = some ⟨g, 0, none⟩ := by injection hv
            subst hA
            obtain ⟨d1, d2, d3, d4, d5⟩ := cell_last hown
            simp only at d2
            rcases hread with ⟨ha, hb, _⟩ | ⟨ha, hb, _⟩ | ⟨ha, hb, b1, o1, b2, o2, x, y, rfl, rfl, l1, l2, c1, c2, hxy⟩
            · skip
              go_wp2_with fail
              go_quiet (fail)
              go_wp2_with fail
              go_roundw
              case rel => exact ⟨k + 1, ms.length + 1, some ⟨g, 0, none⟩, co, by omega, by go_num, rfl, by omega, hmco, by rw [E2.out]; exact Lib.hid (by simp), by rw [E2.out]; exact (own_last (w := wr.drewN _) (z := (k : Int) + 1) hown).1, (below_drewN2 hb2 _).setCell (p := ⟨g, ms.length * 2 + 1, none⟩) hbg _⟩
              case measure => simp [intOf]; omega
            · have hd1 : decide ((a.length : Int) ≤ (k : Int)) = false := decide_eq_false (by omega)
              have hd2 : decide ((b.length : Int) ≤ (k : Int)) = true := decide_eq_true (by omega)
              have hd3 : decide (a.length ≤ k) = false := decide_eq_false (by omega)
              have hd4 : decide (b.length ≤ k) = true := decide_eq_true (by omega)
              go_wp2_with fail
              go_quiet (fail)
              go_wp2_with fail
              go_roundw
              case rel => exact ⟨k + 1, ms.length + 1, some ⟨g, 0, none⟩, co, by omega, by go_num, rfl, by omega, hmco, by rw [E2.out]; exact Lib.hid (by simp), by rw [E2.out]; exact (own_last (w := wr.drewN _) (z := (k : Int) + 1) hown).1, (below_drewN2 hb2 _).setCell (p := ⟨g, ms.length * 2 + 1, none⟩) hbg _⟩
              case measure => simp [intOf]; omega
            · have c1 := (hb2.cell (p := ⟨b1, o1 + k, none⟩) l1).trans c1
              have c2 := (hb2.cell (p := ⟨b2, o2 + k, none⟩) l2).trans c2
              have hd1 : decide ((a.length : Int) ≤ (k : Int)) = false := decide_eq_false (by omega)
              have hd2 : decide ((b.length : Int) ≤ (k : Int)) = false := decide_eq_false (by omega)
              have hd3 : decide (a.length ≤ k) = false := decide_eq_false (by omega)
              have hd4 : decide (b.length ≤ k) = false := decide_eq_false (by omega)
              go_wp2_with fail
              go_quiet (fail)
              go_wp2_with fail
              go_roundw
              case rel => exact ⟨k + 1, ms.length + 1, some ⟨g, 0, none⟩, co, by omega, by go_num, rfl, by omega, hmco, by rw [E2.out]; exact Lib.hid (by simp), by rw [E2.out]; exact (own_last (w := wr.drewN _) (z := (k : Int) + 1) hown).1, (below_drewN2 hb2 _).setCell (p := ⟨g, ms.length * 2 + 1, none⟩) hbg _⟩
              case measure => simp [intOf]; omega
          · obtain rfl : m = 0 := HM.out
            rcases hread with ⟨ha, hb, _⟩ | ⟨ha, hb, _⟩ | ⟨ha, hb, b1, o1, b2, o2, x, y, rfl, rfl, l1, l2, c1, c2, hxy⟩
            · skip
              go_wp2_with fail
              go_quiet (fail)
              generalize hWW : wr.drewN _ = W
              have hownW : W.ownsRow w.heap.size 66 2 (.slice Ao (0) co) (0) (pv ([])) := by rw [← hWW]; exact hown
              have hbW : Below w.heap.size w W := by rw [← hWW]; exact below_drewN2 hb2 _
              have hsz := hbW.size
              clear hWW
              go_wp2_with (at_builtin; refine wpList_append_row rfl (.tmp 71) (.tmp 76) rfl Tryd.underlying29 hi hz0 hz1 hz2 rfl (by decide) rfl (hownW.alloc _) rfl (row_two W (k : Int) ((k : Int) + 1) _) (by rfl) (pv_one _) (by simp only [maxLen]; omega) (by omega) (by simp; omega) ?_; intro v3 w3 own3 grow3; rw [← pv_append] at own3; obtain ⟨A3, q3, rfl, hq3⟩ := own_form own3)
              go_roundw
              case rel => exact ⟨k + 1, _, A3, q3, by omega, by go_num, rfl, by omega, hq3, by rw [E2.out]; exact Lib.hid (by simp), by rw [E2.out]; exact own3, (hbW.alloc hsz _).grown grow3 (by simp; omega) (own_ge hownW)⟩
              case measure => simp [intOf]; omega
            · have hd1 : decide ((a.length : Int) ≤ (k : Int)) = false := decide_eq_false (by omega)
              have hd2 : decide ((b.length : Int) ≤ (k : Int)) = true := decide_eq_true (by omega)
              have hd3 : decide (a.length ≤ k) = false := decide_eq_false (by omega)
              have hd4 : decide (b.length ≤ k) = true := decide_eq_true (by omega)
              go_wp2_with fail
              go_quiet (fail)
              generalize hWW : wr.drewN _ = W
              have hownW : W.ownsRow w.heap.size 66 2 (.slice Ao (0) co) (0) (pv ([])) := by rw [← hWW]; exact hown
              have hbW : Below w.heap.size w W := by rw [← hWW]; exact below_drewN2 hb2 _
              have hsz := hbW.size
              clear hWW
              go_wp2_with (at_builtin; refine wpList_append_row rfl (.tmp 71) (.tmp 76) rfl Tryd.underlying29 hi hz0 hz1 hz2 rfl (by decide) rfl (hownW.alloc _) rfl (row_two W (k : Int) ((k : Int) + 1) _) (by rfl) (pv_one _) (by simp only [maxLen]; omega) (by omega) (by simp; omega) ?_; intro v3 w3 own3 grow3; rw [← pv_append] at own3; obtain ⟨A3, q3, rfl, hq3⟩ := own_form own3)
              go_roundw
              case rel => exact ⟨k + 1, _, A3, q3, by omega, by go_num, rfl, by omega, hq3, by rw [E2.out]; exact Lib.hid (by simp), by rw [E2.out]; exact own3, (hbW.alloc hsz _).grown grow3 (by simp; omega) (own_ge hownW)⟩
              case measure => simp [intOf]; omega
            · have c1 := (hb2.cell (p := ⟨b1, o1 + k, none⟩) l1).trans c1
              have c2 := (hb2.cell (p := ⟨b2, o2 + k, none⟩) l2).trans c2
              have hd1 : decide ((a.length : Int) ≤ (k : Int)) = false := decide_eq_false (by omega)
              have hd2 : decide ((b.length : Int) ≤ (k : Int)) = false := decide_eq_false (by omega)
              have hd3 : decide (a.length ≤ k) = false := decide_eq_false (by omega)
              have hd4 : decide (b.length ≤ k) = false := decide_eq_false (by omega)
              go_wp2_with fail
              go_quiet (fail)
              generalize hWW : wr.drewN _ = W
              have hownW : W.ownsRow w.heap.size 66 2 (.slice Ao (0) co) (0) (pv ([])) := by rw [← hWW]; exact hown
              have hbW : Below w.heap.size w W := by rw [← hWW]; exact below_drewN2 hb2 _
              have hsz := hbW.size
              clear hWW c1 c2
              go_wp2_with (at_builtin; refine wpList_append_row rfl (.tmp 71) (.tmp 76) rfl Tryd.underlying29 hi hz0 hz1 hz2 rfl (by decide) rfl (hownW.alloc _) rfl (row_two W (k : Int) ((k : Int) + 1) _) (by rfl) (pv_one _) (by simp only [maxLen]; omega) (by omega) (by simp; omega) ?_; intro v3 w3 own3 grow3; rw [← pv_append] at own3; obtain ⟨A3, q3, rfl, hq3⟩ := own_form own3)
              go_roundw
              case rel => exact ⟨k + 1, _, A3, q3, by omega, by go_num, rfl, by omega, hq3, by rw [E2.out]; exact Lib.hid (by simp), by rw [E2.out]; exact own3, (hbW.alloc hsz _).grown grow3 (by simp; omega) (own_ge hownW)⟩
              case measure => simp [intOf]; omega
          · obtain rfl : m = ms.length + 1 := by have := HM.out; simpa using this
            obtain ⟨g, cap, hv, hbg, hgl⟩ := hown.form (by omega)
            have hA : Ao = some ⟨g, 0, none⟩ := by injection hv
            subst hA
            obtain ⟨d1, d2, d3, d4, d5⟩ := cell_last hown
            simp only at d2
            rcases hread with ⟨ha, hb, _⟩ | ⟨ha, hb, _⟩ | ⟨ha, hb, b1, o1, b2, o2, x, y, rfl, rfl, l1, l2, c1, c2, hxy⟩
            · skip
              go_wp2_with fail
              go_quiet (fail)
              generalize hWW : wr.drewN _ = W
              have hownW : W.ownsRow w.heap.size 66 2 (.slice (some ⟨g, 0, none⟩) (ms.length + 1) co) (ms.length + 1) (pv (ms ++ [(f, z)])) := by rw [← hWW]; exact hown
              have hbW : Below w.heap.size w W := by rw [← hWW]; exact below_drewN2 hb2 _
              have d2W : W.cell? ⟨g, ms.length * 2 + 1, none⟩ = some (.int .i64 z) := by rw [← hWW]; exact d2
              have hsz := hbW.size
              clear hWW d1 d2 d3
              go_wp2_with (at_builtin; refine wpList_append_row rfl (.tmp 71) (.tmp 76) rfl Tryd.underlying29 hi hz0 hz1 hz2 rfl (by decide) rfl (hownW.alloc _) rfl (row_two W (k : Int) ((k : Int) + 1) _) (by rfl) (pv_one _) (by simp only [maxLen]; omega) (by omega) (by simp; omega) ?_; intro v3 w3 own3 grow3; rw [← pv_append] at own3; obtain ⟨A3, q3, rfl, hq3⟩ := own_form own3)
              go_roundw
              case rel => exact ⟨k + 1, _, A3, q3, by omega, by go_num, rfl, by omega, hq3, by rw [E2.out]; exact Lib.hid (by simp), by rw [E2.out]; exact own3, (hbW.alloc hsz _).grown grow3 (by simp; omega) (own_ge hownW)⟩
              case measure => simp [intOf]; omega
            · have hd1 : decide ((a.length : Int) ≤ (k : Int)) = false := decide_eq_false (by omega)
              have hd2 : decide ((b.length : Int) ≤ (k : Int)) = true := decide_eq_true (by omega)
              have hd3 : decide (a.length ≤ k) = false := decide_eq_false (by omega)
              have hd4 : decide (b.length ≤ k) = true := decide_eq_true (by omega)
              go_wp2_with fail
              go_quiet (fail)
              generalize hWW : wr.drewN _ = W
              have hownW : W.ownsRow w.heap.size 66 2 (.slice (some ⟨g, 0, none⟩) (ms.length + 1) co) (ms.length + 1) (pv (ms ++ [(f, z)])) := by rw [← hWW]; exact hown
              have hbW : Below w.heap.size w W := by rw [← hWW]; exact below_drewN2 hb2 _
              have d2W : W.cell? ⟨g, ms.length * 2 + 1, none⟩ = some (.int .i64 z) := by rw [← hWW]; exact d2
              have hsz := hbW.size
              clear hWW d1 d2 d3
              go_wp2_with (at_builtin; refine wpList_append_row rfl (.tmp 71) (.tmp 76) rfl Tryd.underlying29 hi hz0 hz1 hz2 rfl (by decide) rfl (hownW.alloc _) rfl (row_two W (k : Int) ((k : Int) + 1) _) (by rfl) (pv_one _) (by simp only [maxLen]; omega) (by omega) (by simp; omega) ?_; intro v3 w3 own3 grow3; rw [← pv_append] at own3; obtain ⟨A3, q3, rfl, hq3⟩ := own_form own3)
              go_roundw
              case rel => exact ⟨k + 1, _, A3, q3, by omega, by go_num, rfl, by omega, hq3, by rw [E2.out]; exact Lib.hid (by simp), by rw [E2.out]; exact own3, (hbW.alloc hsz _).grown grow3 (by simp; omega) (own_ge hownW)⟩
              case measure => simp [intOf]; omega
            · have c1 := (hb2.cell (p := ⟨b1, o1 + k, none⟩) l1).trans c1
              have c2 := (hb2.cell (p := ⟨b2, o2 + k, none⟩) l2).trans c2
              have hd1 : decide ((a.length : Int) ≤ (k : Int)) = false := decide_eq_false (by omega)
              have hd2 : decide ((b.length : Int) ≤ (k : Int)) = false := decide_eq_false (by omega)
              have hd3 : decide (a.length ≤ k) = false := decide_eq_false (by omega)
              have hd4 : decide (b.length ≤ k) = false := decide_eq_false (by omega)
              go_wp2_with fail
              go_quiet (fail)
              generalize hWW : wr.drewN _ = W
              have hownW : W.ownsRow w.heap.size 66 2 (.slice (some ⟨g, 0, none⟩) (ms.length + 1) co) (ms.length + 1) (pv (ms ++ [(f, z)])) := by rw [← hWW]; exact hown
              have hbW : Below w.heap.size w W := by rw [← hWW]; exact below_drewN2 hb2 _
              have d2W : W.cell? ⟨g, ms.length * 2 + 1, none⟩ = some (.int .i64 z) := by rw [← hWW]; exact d2
              have hsz := hbW.size
              clear hWW c1 c2 d1 d2 d3
              go_wp2_with (at_builtin; refine wpList_append_row rfl (.tmp 71) (.tmp 76) rfl Tryd.underlying29 hi hz0 hz1 hz2 rfl (by decide) rfl (hownW.alloc _) rfl (row_two W (k : Int) ((k : Int) + 1) _) (by rfl) (pv_one _) (by simp only [maxLen]; omega) (by omega) (by simp; omega) ?_; intro v3 w3 own3 grow3; rw [← pv_append] at own3; obtain ⟨A3, q3, rfl, hq3⟩ := own_form own3)
              go_roundw
              case rel => exact ⟨k + 1, _, A3, q3, by omega, by go_num, rfl, by omega, hq3, by rw [E2.out]; exact Lib.hid (by simp), by rw [E2.out]; exact own3, (hbW.alloc hsz _).grown grow3 (by simp; omega) (own_ge hownW)⟩
              case measure => simp [intOf]; omega
      · have hke : k = nb := by omega
        rw [← hke] at HR
        generalize G.chg (G.df a b) k = M at HM hown HR
        by_cases hl : m ≤ 1024
        · have HR2 : Hid (res = (0, M)) := HR.out.trans (if_pos (by rw [← HM.out]; exact hl))
          clear HR hra hrb
          go_wp2_with fail
          exact bodyPost_ret (v := .tuple #[.slice Ao m co, .int .i64 0]) (by simp [results, Tryd.results13, go_sem]) rfl ⟨.slice Ao m co, by rw [HR2.out]; rfl, by rw [HR2.out]; simp only; rw [← HM.out]; exact hown, hb2⟩
        · have HR2 : Hid (res = (9, [])) := HR.out.trans (if_neg (by rw [← HM.out]; exact hl))
          clear HR hra hrb
          go_wp2_with fail
          exact bodyPost_ret (v := .tuple #[.slice none 0 0, .int .i64 9]) (by simp [results, Tryd.results13, go_sem]) rfl ⟨.slice none 0 0, by rw [HR2.out]; rfl, by rw [HR2.out]; exact World.ownsRow_nil _ _ _ _, hb2⟩
end Go.Proofs.YtgjoldjfeobjgaaDoor
