/-
  ranges.Changed.
-/
import Derived.Test.YtgjoldjfeobjgaaDoorRgMerge
import Derived.Test.YtgjoldjfeobjgaaDoorRgA
namespace Go.Proofs.YtgjoldjfeobjgaaDoor
open Go.RowKit

def bv (l : List Int) : List Value := l.map fun x => .int .u8 x
theorem bv_len (l : List Int) : (bv l).length = l.length := by simp [bv]
theorem Row.byte {w : World} {B : Nat} {A : Option Addr} {l : List Int} (h : Row w B A (bv l)) {k : Nat} (hk : k < l.length) :
    ∃ b o, A = some ⟨b, o, none⟩ ∧ b < B ∧ w.cell? ⟨b, o + k, none⟩ = some (.int .u8 l[k]) := by
  obtain ⟨b, o, h1, h2, h3⟩ := h.at_ (k := k) (by rw [bv_len]; omega)
  exact ⟨b, o, h1, h2, h3 _ _ (by simp [bv, hk])⟩
namespace G
def df (a b : List Int) (i : Nat) : Bool := decide (a[i]? ≠ b[i]?)
def chgR (a b : List Int) : Nat × List Rg := if 65536 < a.length ∨ 65536 < b.length then (5, []) else (if (chg (df a b) (max a.length b.length)).length ≤ 1024 then (0, chg (df a b) (max a.length b.length)) else (9, []))
theorem df_a {a b : List Int} {k : Nat} (h : a.length ≤ k) (h2 : k < b.length) : df a b k = true := by
  simp [df, List.getElem?_eq_none h, List.getElem?_eq_getElem h2]
theorem df_b {a b : List Int} {k : Nat} (h : k < a.length) (h2 : b.length ≤ k) : df a b k = true := by
  simp [df, List.getElem?_eq_none h2, List.getElem?_eq_getElem h]
theorem df_ab {a b : List Int} {k : Nat} (h : k < a.length) (h2 : k < b.length) : df a b k = (a[k] != b[k]) := by
  simp only [df, List.getElem?_eq_getElem h, List.getElem?_eq_getElem h2, ne_eq, Option.some.injEq]
  rw [Bool.eq_iff_iff]; simp
end G

set_option maxRecDepth 100000 in
set_option maxHeartbeats 4000000 in
theorem changed_any (a b : List Int) (hna : a.length ≤ 200000) (hnb : b.length ≤ 200000) (A B : Option Addr) (c e : Nat) (w : World) (hra : Row w w.heap.size A (bv a)) (hrb : Row w w.heap.size B (bv b)) :
    Calls Tryd.prog 12 #[.slice A a.length c, .slice B b.length e] w fun e w' => ∃ v, e = .returned (.tuple #[.agg #[v], .int .i64 ((G.chgR a b).1 : Int)]) ∧ w'.ownsRow w.heap.size 61 2 v (G.chgR a b).2.length (pv (G.chgR a b).2) ∧ Below w.heap.size w w' := by
  obtain ⟨i0, hi, hz0, hz1, hz2⟩ := info_parts infoRange
  have HL : Hid (65536 < a.length ∨ 65536 < b.length → G.chgR a b = (5, [])) := fun h => if_pos h
  have HK : Hid (a.length ≤ 65536 → b.length ≤ 65536 → G.chgR a b = (if (G.chg (G.df a b) (max a.length b.length)).length ≤ 1024 then (0, G.chg (G.df a b) (max a.length b.length)) else (9, []))) := fun h1 h2 => if_neg (by omega)
  generalize G.chgR a b = res at HL HK
  go_enter Tryd.func12, Tryd.ntmps12
  have hnew := World.alloc_heap_new w (.cells #[.slice none 0 0] 25)
  have hbx : Boxed (w.alloc (.cells #[.slice none 0 0] 25)) w.heap.size 25 (.slice none 0 0) := Boxed.new _ _ _
  have hb0 : Below w.heap.size w (w.alloc (.cells #[.slice none 0 0] 25)) := (Below.refl _ _).alloc (Nat.le_refl _) _
  have hcb := hbx.cell
  have hfb := hbx.frozen
  have hlb := hbx.lt
  clear hnew
  rcases (show (65536 < a.length) ∨ (a.length ≤ 65536 ∧ 65536 < b.length) ∨ (a.length ≤ 65536 ∧ b.length ≤ 65536) by omega) with h1 | ⟨h1, h2⟩ | ⟨h1, h2⟩
  · have HR := Lib.hid (HL.out (.inl h1))
    go_wp2_with fail
    refine bodyPost_ret (v := .tuple #[.agg #[.slice none 0 0], .int .i64 5]) (by simp [results, Tryd.results12, go_sem, hcb, hlb]) rfl ⟨.slice none 0 0, by rw [HR.out]; rfl, by rw [HR.out]; exact World.ownsRow_nil _ _ _ _, ?_⟩
    exact hb0
  · have HR := Lib.hid (HL.out (.inr h2))
    go_wp2_with fail
    refine bodyPost_ret (v := .tuple #[.agg #[.slice none 0 0], .int .i64 5]) (by simp [results, Tryd.results12, go_sem, hcb, hlb]) rfl ⟨.slice none 0 0, by rw [HR.out]; rfl, by rw [HR.out]; exact World.ownsRow_nil _ _ _ _, ?_⟩
    exact hb0
  · have HR := Lib.hid (HK.out h1 h2)
    clear HK HL
    obtain ⟨nb, hnbe⟩ : ∃ nb, max a.length b.length = nb := ⟨_, rfl⟩
    have hmx : max (a.length : Int) (b.length : Int) = (nb : Int) := by omega
    rw [hnbe] at HR
    go_wp2_with fail
    generalize hW0 : w.alloc _ = W0 at hbx hb0 hcb hfb hlb ⊢
    have hra0 : Row W0 W0.heap.size A (bv a) := (hra.below hb0).more hb0.size
    have hrb0 : Row W0 W0.heap.size B (bv b) := (hrb.below hb0).more hb0.size
    have hsz0 := hb0.size
    clear hW0 hra hrb hcb hfb
    go_loopw [6, 7, 24] (fun v ins i wr => ∃ (k m : Nat) (Ao : Option Addr) (co : Nat), k ≤ nb ∧ i = .int .i64 (k : Int) ∧ v = .slice Ao m co ∧ ins = .bool (G.chgIn (G.df a b) k) ∧ m ≤ k ∧ m ≤ co ∧ Hid (m = (G.chg (G.df a b) k).length) ∧ wr.ownsRow W0.heap.size 61 2 (.slice Ao m co) m (pv (G.chg (G.df a b) k)) ∧ Below W0.heap.size W0 wr) (fun _ _ i _ => nb - (intOf i).toNat)
    case atStart => exact ⟨0, 0, none, 0, by omega, rfl, rfl, rfl, by omega, by omega, Lib.hid rfl, World.ownsRow_nil _ _ _ _, Below.refl _ _⟩
    case round =>
      obtain ⟨k, m, Ao, co, hk, rfl, rfl, rfl, hmk, hmco, HM, hown, hb2⟩ := hrel
      by_cases hlt : k < nb
      · have hread : ∃ now : Bool, Hid (G.df a b k = now) ∧ ((a.length ≤ k ∧ now = true) ∨ (k < a.length ∧ b.length ≤ k ∧ now = true) ∨ (k < a.length ∧ k < b.length ∧ ∃ b1 o1 b2 o2 x y, A = some ⟨b1, o1, none⟩ ∧ B = some ⟨b2, o2, none⟩ ∧ b1 < W0.heap.size ∧ b2 < W0.heap.size ∧ W0.cell? ⟨b1, o1 + k, none⟩ = some (.int .u8 x) ∧ W0.cell? ⟨b2, o2 + k, none⟩ = some (.int .u8 y) ∧ (x != y) = now)) := by
          rcases Nat.lt_or_ge k a.length with ha | ha
          · rcases Nat.lt_or_ge k b.length with hb | hb
            · obtain ⟨b1, o1, e1, l1, c1⟩ := hra0.byte ha
              obtain ⟨b2, o2, e2, l2, c2⟩ := hrb0.byte hb
              exact ⟨_, G.df_ab ha hb, .inr (.inr ⟨ha, hb, b1, o1, b2, o2, _, _, e1, e2, l1, l2, c1, c2, rfl⟩)⟩
            · exact ⟨_, G.df_b ha hb, .inr (.inl ⟨ha, hb, rfl⟩)⟩
          · exact ⟨_, G.df_a ha (by omega), .inl ⟨ha, rfl⟩⟩
        obtain ⟨now, HD, hread⟩ := hread
        have HI : Hid (G.chgIn (G.df a b) (k + 1) = now) := HD.out
        have HMORE : Hid (G.chgIn (G.df a b) k = true → now = true → ∃ ms f, G.chg (G.df a b) k = ms ++ [(f, (k : Int))] ∧ G.chg (G.df a b) (k + 1) = ms ++ [(f, (k : Int) + 1)]) := fun h1 h2 => G.chg_more h1 (HD.out.trans h2)
        have HNEW : Hid (G.chgIn (G.df a b) k = false → now = true → G.chg (G.df a b) (k + 1) = G.chg (G.df a b) k ++ [((k : Int), (k : Int) + 1)]) := fun h1 h2 => (G.chg_new h1 (HD.out.trans h2)).1
        have HSAME : Hid (now = false → G.chg (G.df a b) (k + 1) = G.chg (G.df a b) k) := fun h => G.chg_same (HD.out.trans h)
        obtain ⟨M2, e2⟩ : ∃ M2, G.chg (G.df a b) (k + 1) = M2 := ⟨_, rfl⟩
        rw [e2] at HMORE HNEW HSAME
        have E2 := Lib.hid e2
        generalize G.chg (G.df a b) k = M at HM hown HMORE HNEW HSAME
        generalize G.chgIn (G.df a b) k = ins at HMORE HNEW
        generalize G.df a b k = dk at HD
        clear HD e2 hra0 hrb0
        cases now with
        | false =>
          obtain ⟨ha, hb, b1, o1, b2, o2, x, y, rfl, rfl, l1, l2, c1, c2, hxy⟩ := (show k < a.length ∧ k < b.length ∧ ∃ b1 o1 b2 o2 x y, A = some ⟨b1, o1, none⟩ ∧ B = some ⟨b2, o2, none⟩ ∧ b1 < W0.heap.size ∧ b2 < W0.heap.size ∧ W0.cell? ⟨b1, o1 + k, none⟩ = some (.int .u8 x) ∧ W0.cell? ⟨b2, o2 + k, none⟩ = some (.int .u8 y) ∧ (x != y) = false by
            rcases hread with ⟨_, h⟩ | ⟨_, _, h⟩ | h
            · cases h
            · cases h
            · exact h)
          have c1 := (hb2.cell (p := ⟨b1, o1 + k, none⟩) l1).trans c1
          have c2 := (hb2.cell (p := ⟨b2, o2 + k, none⟩) l2).trans c2
          have HS := Lib.hid (HSAME.out rfl)
          clear hread
          go_wp2_with fail
          go_quiet (fail)
          go_wp2_with fail
          go_roundw
          case rel => exact ⟨k + 1, m, Ao, co, by omega, by go_num, rfl, by rw [HI.out]; simp [hxy]; omega, by omega, hmco, by rw [E2.out, HS.out]; exact HM, by rw [E2.out, HS.out]; exact hown, below_drewN2 hb2 _⟩
          case measure => simp [intOf]; omega
        | true =>
          cases ins with
          | true =>
            obtain ⟨ms, f, rfl, rfl⟩ := HMORE.out rfl rfl
            obtain rfl : m = ms.length + 1 := by have := HM.out; simpa using this
            obtain ⟨g, cap, hv, hbg, hgl⟩ := hown.form (by omega)
            have hA : Ao = some ⟨g, 0, none⟩ := by injection hv
            subst hA
            obtain ⟨d1, d2, d3, d4, d5⟩ := cell_last hown
            have hgb : W0.heap.size ≤ g := hbg
            rcases hread with ⟨ha, _⟩ | ⟨ha, hb, _⟩ | ⟨ha, hb, b1, o1, b2, o2, x, y, rfl, rfl, l1, l2, c1, c2, hxy⟩
            · go_wp2_with fail
              go_quiet (fail)
              go_wp2_with fail
              go_roundw
              case rel => exact ⟨k + 1, ms.length + 1, some ⟨g, 0, none⟩, co, by omega, by go_num, rfl, by rw [HI.out] <;> first | done | simp [hd3, hd4] | simp [ha], by omega, hmco, by rw [E2.out]; exact Lib.hid (by simp), by rw [E2.out]; exact (own_last (w := wr.drewN _) (z := (k : Int) + 1) hown).1, (below_drewN2 hb2 _).setCell (p := ⟨g, ms.length * 2 + 1, none⟩) hbg _⟩
              case measure => simp [intOf]; omega
            · have hd1 : decide ((a.length : Int) ≤ (k : Int)) = false := decide_eq_false (by omega)
              have hd2 : decide ((b.length : Int) ≤ (k : Int)) = true := decide_eq_true (by omega)
              have hd3 : decide (a.length ≤ k) = false := decide_eq_false (by omega)
              have hd4 : decide (b.length ≤ k) = true := decide_eq_true (by omega)
              go_wp2_with fail
              go_quiet (fail)
              go_wp2_with fail
              go_roundw
              case rel => exact ⟨k + 1, ms.length + 1, some ⟨g, 0, none⟩, co, by omega, by go_num, rfl, by rw [HI.out] <;> first | done | simp [hd3, hd4] | simp [ha], by omega, hmco, by rw [E2.out]; exact Lib.hid (by simp), by rw [E2.out]; exact (own_last (w := wr.drewN _) (z := (k : Int) + 1) hown).1, (below_drewN2 hb2 _).setCell (p := ⟨g, ms.length * 2 + 1, none⟩) hbg _⟩
              case measure => simp [intOf]; omega
            · have c1 := (hb2.cell (p := ⟨b1, o1 + k, none⟩) l1).trans c1
              have c2 := (hb2.cell (p := ⟨b2, o2 + k, none⟩) l2).trans c2
              have hd1 : decide ((a.length : Int) ≤ (k : Int)) = false := decide_eq_false (by omega)
              have hd2 : decide ((b.length : Int) ≤ (k : Int)) = false := decide_eq_false (by omega)
              have hd3 : decide (a.length ≤ k) = false := decide_eq_false (by omega)
              have hd4 : decide (b.length ≤ k) = false := decide_eq_false (by omega)
              go_wp2_with fail
              go_quiet (fail)
              go_wp2_with fail
              go_roundw
              case rel => exact ⟨k + 1, ms.length + 1, some ⟨g, 0, none⟩, co, by omega, by go_num, rfl, by rw [HI.out], by omega, hmco, by rw [E2.out]; exact Lib.hid (by simp), by rw [E2.out]; exact (own_last (w := wr.drewN _) (z := (k : Int) + 1) hown).1, (below_drewN2 hb2 _).setCell (p := ⟨g, ms.length * 2 + 1, none⟩) hbg _⟩
              case measure => simp [intOf]; omega
          | false =>
            have HN := Lib.hid (HNEW.out rfl rfl)
            obtain rfl : m = M.length := HM.out
            rcases hread with ⟨ha, _⟩ | ⟨ha, hb, _⟩ | ⟨ha, hb, b1, o1, b2, o2, x, y, rfl, rfl, l1, l2, c1, c2, hxy⟩
            · go_wp2_with fail
              go_quiet (fail)
              generalize hWW : wr.drewN _ = W
              have hownW : W.ownsRow W0.heap.size 61 2 (.slice Ao M.length co) M.length (pv M) := by rw [← hWW]; exact hown
              have hbW : Below W0.heap.size W0 W := by rw [← hWW]; exact below_drewN2 hb2 _
              have hsz := hbW.size
              clear hWW
              go_wp2_with (at_builtin; refine wpList_append_row rfl (.tmp 53) (.tmp 56) rfl Tryd.underlying23 hi hz0 hz1 hz2 rfl (by decide) rfl (hownW.alloc _) rfl (row_two W (k : Int) 0 _) (by rfl) (pv_one _) (by simp only [maxLen]; omega) (by omega) (by simp; omega) ?_; intro v3 w3 own3 grow3; rw [← pv_append] at own3; obtain ⟨A3, q3, rfl, hq3⟩ := own_form own3; obtain ⟨g, cap, hv, hbg, hgl⟩ := own3.form (by omega); have hA : A3 = some ⟨g, 0, none⟩ := (by injection hv); subst hA; obtain ⟨d1, d2, d3, d4, d5⟩ := cell_last own3; have hb3 : Below W0.heap.size W0 w3 := (hbW.alloc hsz _).grown grow3 (by simp; omega) (own_ge hownW))
              go_roundw
              case rel => exact ⟨k + 1, M.length + 1, some ⟨g, 0, none⟩, q3, by omega, by go_num, rfl, by rw [HI.out] <;> first | done | simp [hd3, hd4] | simp [ha], by omega, hq3, by rw [E2.out, HN.out]; exact Lib.hid (by simp), by rw [E2.out, HN.out]; exact (own_last (z := (k : Int) + 1) own3).1, hb3.setCell (p := ⟨g, M.length * 2 + 1, none⟩) hbg _⟩
              case measure => simp [intOf]; omega
            · have hd1 : decide ((a.length : Int) ≤ (k : Int)) = false := decide_eq_false (by omega)
              have hd2 : decide ((b.length : Int) ≤ (k : Int)) = true := decide_eq_true (by omega)
              have hd3 : decide (a.length ≤ k) = false := decide_eq_false (by omega)
              have hd4 : decide (b.length ≤ k) = true := decide_eq_true (by omega)
              go_wp2_with fail
              go_quiet (fail)
              generalize hWW : wr.drewN _ = W
              have hownW : W.ownsRow W0.heap.size 61 2 (.slice Ao M.length co) M.length (pv M) := by rw [← hWW]; exact hown
              have hbW : Below W0.heap.size W0 W := by rw [← hWW]; exact below_drewN2 hb2 _
              have hsz := hbW.size
              clear hWW
              go_wp2_with (at_builtin; refine wpList_append_row rfl (.tmp 53) (.tmp 56) rfl Tryd.underlying23 hi hz0 hz1 hz2 rfl (by decide) rfl (hownW.alloc _) rfl (row_two W (k : Int) 0 _) (by rfl) (pv_one _) (by simp only [maxLen]; omega) (by omega) (by simp; omega) ?_; intro v3 w3 own3 grow3; rw [← pv_append] at own3; obtain ⟨A3, q3, rfl, hq3⟩ := own_form own3; obtain ⟨g, cap, hv, hbg, hgl⟩ := own3.form (by omega); have hA : A3 = some ⟨g, 0, none⟩ := (by injection hv); subst hA; obtain ⟨d1, d2, d3, d4, d5⟩ := cell_last own3; have hb3 : Below W0.heap.size W0 w3 := (hbW.alloc hsz _).grown grow3 (by simp; omega) (own_ge hownW))
              go_roundw
              case rel => exact ⟨k + 1, M.length + 1, some ⟨g, 0, none⟩, q3, by omega, by go_num, rfl, by rw [HI.out] <;> first | done | simp [hd3, hd4] | simp [ha], by omega, hq3, by rw [E2.out, HN.out]; exact Lib.hid (by simp), by rw [E2.out, HN.out]; exact (own_last (z := (k : Int) + 1) own3).1, hb3.setCell (p := ⟨g, M.length * 2 + 1, none⟩) hbg _⟩
              case measure => simp [intOf]; omega
            · have c1 := (hb2.cell (p := ⟨b1, o1 + k, none⟩) l1).trans c1
              have c2 := (hb2.cell (p := ⟨b2, o2 + k, none⟩) l2).trans c2
              have hd1 : decide ((a.length : Int) ≤ (k : Int)) = false := decide_eq_false (by omega)
              have hd2 : decide ((b.length : Int) ≤ (k : Int)) = false := decide_eq_false (by omega)
              have hd3 : decide (a.length ≤ k) = false := decide_eq_false (by omega)
              have hd4 : decide (b.length ≤ k) = false := decide_eq_false (by omega)
              go_wp2_with fail
              go_quiet (fail)
              generalize hWW : wr.drewN _ = W
              have hownW : W.ownsRow W0.heap.size 61 2 (.slice Ao M.length co) M.length (pv M) := by rw [← hWW]; exact hown
              have hbW : Below W0.heap.size W0 W := by rw [← hWW]; exact below_drewN2 hb2 _
              have hsz := hbW.size
              clear hWW c1 c2
              go_wp2_with (at_builtin; refine wpList_append_row rfl (.tmp 53) (.tmp 56) rfl Tryd.underlying23 hi hz0 hz1 hz2 rfl (by decide) rfl (hownW.alloc _) rfl (row_two W (k : Int) 0 _) (by rfl) (pv_one _) (by simp only [maxLen]; omega) (by omega) (by simp; omega) ?_; intro v3 w3 own3 grow3; rw [← pv_append] at own3; obtain ⟨A3, q3, rfl, hq3⟩ := own_form own3; obtain ⟨g, cap, hv, hbg, hgl⟩ := own3.form (by omega); have hA : A3 = some ⟨g, 0, none⟩ := (by injection hv); subst hA; obtain ⟨d1, d2, d3, d4, d5⟩ := cell_last own3; have hb3 : Below W0.heap.size W0 w3 := (hbW.alloc hsz _).grown grow3 (by simp; omega) (own_ge hownW))
              go_roundw
              case rel => exact ⟨k + 1, M.length + 1, some ⟨g, 0, none⟩, q3, by omega, by go_num, rfl, by rw [HI.out], by omega, hq3, by rw [E2.out, HN.out]; exact Lib.hid (by simp), by rw [E2.out, HN.out]; exact (own_last (z := (k : Int) + 1) own3).1, hb3.setCell (p := ⟨g, M.length * 2 + 1, none⟩) hbg _⟩
              case measure => simp [intOf]; omega
      · have hke : k = nb := by omega
        rw [← hke] at HR
        generalize G.chg (G.df a b) k = M at HM hown HR
        generalize G.chgIn (G.df a b) k = ins
        have hbx3 : Boxed wr w.heap.size 25 (.slice none 0 0) := (hb2.block _ hlb).trans hbx
        have hlb3 := hbx3.lt
        by_cases hl : m ≤ 1024
        · have HR2 : Hid (res = (0, M)) := HR.out.trans (if_pos (by rw [← HM.out]; exact hl))
          clear HR
          go_wp2_with (go_at_call 36; refine (limited_yes Ao m co hl _).mono ?_; rintro e w4 ⟨rfl, hb4⟩; have hbx4 : Boxed w4 w.heap.size 25 (.slice none 0 0) := (hb4.block _ hlb3).trans hbx3; have hc4 := hbx4.cell; have hf4 := hbx4.frozen; have hl4 := hbx4.lt)
          refine bodyPost_ret (v := .tuple #[.agg #[.slice Ao m co], .int .i64 0]) (by simp [results, Tryd.results12, go_sem, hc4, hl4]) rfl ⟨.slice Ao m co, by rw [HR2.out]; rfl, ?_, ?_⟩
          · rw [HR2.out]
            simp only
            rw [← HM.out]
            exact own_mono (own_set (own_below hown hb4) hlb _) hsz0
          · exact (hb0.trans ((hb2.trans (hb4.mono hb2.size)).mono hsz0)).setCell (p := ⟨w.heap.size, 0, none⟩) (Nat.le_refl _) _
        · have HR2 : Hid (res = (9, [])) := HR.out.trans (if_neg (by rw [← HM.out]; exact hl))
          clear HR
          go_wp2_with (go_at_call 36; refine (limited_no Ao m co (by omega) _).mono ?_; rintro e w4 ⟨rfl, hb4⟩; have hbx4 : Boxed w4 w.heap.size 25 (.slice none 0 0) := (hb4.block _ hlb3).trans hbx3; have hc4 := hbx4.cell; have hf4 := hbx4.frozen; have hl4 := hbx4.lt)
          refine bodyPost_ret (v := .tuple #[.agg #[.slice none 0 0], .int .i64 9]) (by simp [results, Tryd.results12, go_sem, hc4, hl4]) rfl ⟨.slice none 0 0, by rw [HR2.out]; rfl, ?_, ?_⟩
          · rw [HR2.out]; exact World.ownsRow_nil _ _ _ _
          · exact (hb0.trans ((hb2.trans (hb4.mono hb2.size)).mono hsz0)).setCell (p := ⟨w.heap.size, 0, none⟩) (Nat.le_refl _) _
end Go.Proofs.YtgjoldjfeobjgaaDoor
