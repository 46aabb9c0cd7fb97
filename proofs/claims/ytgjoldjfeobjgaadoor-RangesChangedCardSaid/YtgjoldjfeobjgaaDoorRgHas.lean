/-
  ranges.Set.Has.
-/
import Derived.Test.YtgjoldjfeobjgaaDoorRgA
import Derived.Test.YtgjoldjfeobjgaaDoorShelf
import Derived.Sort.Grow
namespace Go.Proofs.YtgjoldjfeobjgaaDoor
open Go.RowKit Go.Shelf Go.Sort

namespace G
def hp (x : Int) (r : Rg) : Bool := decide (x < r.2)
theorem cnt_zero {l : List Rg} {lo x : Int} (hc : Canon lo l) (h : x ≤ lo) : l.countP (fun r => !hp x r) = 0 := by
  rw [List.countP_eq_zero]
  intro r hr
  have := hc.from_gt r hr
  simp [hp]; omega
theorem has_cnt : ∀ {l : List Rg} {lo x : Int}, Canon lo l → mem l x = (decide (l.countP (fun r => !hp x r) < l.length) && decide ((l.getD (l.countP (fun r => !hp x r)) (0, 0)).1 ≤ x))
  | [], _, _, _ => by simp [mem]
  | r :: l, lo, x, hc => by
    rw [mem_cons, List.countP_cons]
    by_cases h : x < r.2
    · have h0 := cnt_zero (x := x) hc.2.2 (by omega)
      have hm : mem l x = false := hc.2.2.not_mem (by omega)
      have e : (!hp x r) = false := by simp [hp, h]
      rw [h0, e, hm]
      simp [h]
    · have ih := has_cnt (x := x) hc.2.2
      have e : (!hp x r) = true := by simp [hp]; omega
      rw [e, if_pos rfl, ih]
      simp [h]
theorem range_cnt (l : List Rg) (f : Rg → Bool) : (List.range l.length).countP (fun i => f (l.getD i (0, 0))) = l.countP f := by
  have h : l = (List.range l.length).map (fun i => l.getD i (0, 0)) := by
    apply List.ext_getElem
    · simp
    · intro i h1 h2
      simp [h1]
  conv => rhs; rw [h]
  rw [List.countP_map]
  rfl
theorem canon_drop' : ∀ {l : List Rg} {lo : Int} (k : Nat), Canon lo l → ∃ lo', Canon lo' (l.drop k)
  | l, lo, 0, h => ⟨lo, h⟩
  | [], lo, k + 1, _ => ⟨lo, by simp [Canon]⟩
  | r :: l, lo, k + 1, h => by simpa using canon_drop' k h.2.2
theorem hp_mono {l : List Rg} (h : Set_ l) (x : Int) (a b : Nat) (hab : a ≤ b) (hb : b < l.length) (ha : hp x (l.getD a (0, 0)) = true) : hp x (l.getD b (0, 0)) = true := by
  rcases Nat.eq_or_lt_of_le hab with rfl | hlt
  · exact ha
  · have ha' : a < l.length := by omega
    have key : l[a].2 ≤ l[b].2 := by
      obtain ⟨lo, hc⟩ := canon_drop' a h.1
      rw [List.drop_eq_getElem_cons ha'] at hc
      have hm : l[b] ∈ l.drop (a + 1) := by
        rw [show l[b] = (l.drop (a + 1))[b - (a + 1)]'(by rw [List.length_drop]; omega) by rw [List.getElem_drop]; congr 1; omega]
        exact List.getElem_mem _
      have := hc.2.2.from_gt _ hm
      omega
    rw [List.getD_eq_getElem?_getD, List.getElem?_eq_getElem ha'] at ha
    rw [List.getD_eq_getElem?_getD, List.getElem?_eq_getElem hb]
    simp only [hp, Option.getD_some, decide_eq_true_eq] at ha ⊢
    omega
end G

set_option maxHeartbeats 400000 in
theorem hasf_any (l : List G.Rg) (hn : l.length ≤ 100000) (A : Option Addr) (c : Nat) (x : Int) (i : Nat) (hi : i < l.length) (W : World) (b1 b2 B : Nat) (h1 : W.cell? ⟨b1, 0, none⟩ = some (.slice A l.length c)) (h2 : W.cell? ⟨b2, 0, none⟩ = some (.int .i64 x)) (hr : Row W B A (pv l)) :
    Calls Tryd.prog 42 #[.int .i64 (i : Int), .pointer (some ⟨b1, 0, none⟩), .pointer (some ⟨b2, 0, none⟩)] W fun e w' => e = .returned (.bool (G.hp x (l.getD i (0, 0)))) ∧ ∃ q, w' = W.drewN q := by
  obtain ⟨b, o, rfl, hb, c1, c2⟩ := hr.pair hi
  have e : G.hp x (l.getD i (0, 0)) = decide (x < l[i].2) := by rw [List.getD_eq_getElem?_getD, List.getElem?_eq_getElem hi]; rfl
  rw [e]
  clear e
  generalize l[i].2 = y at c2 ⊢
  clear hr
  go_enter Tryd.func42, Tryd.ntmps42
  go_wp2_with fail
  go_quiet (fail)
  go_wp2_with fail
  go_ret
  exact ⟨by first | rfl | simp, _, rfl⟩

set_option maxRecDepth 100000 in
set_option maxHeartbeats 1000000 in
theorem has_any (l : List G.Rg) (hs : G.Set_ l) (hn : l.length ≤ 100000) (A : Option Addr) (c : Nat) (x : Int) (w : World) (hr : Row w w.heap.size A (pv l)) :
    Calls Tryd.prog 17 #[.agg #[.slice A l.length c], .int .i64 x] w fun e w' => e = .returned (.bool (G.mem l x)) ∧ Below w.heap.size w w' := by
  obtain ⟨W0, hW0⟩ : ∃ W0, (w.alloc (.cells #[.slice A l.length c] 25)).alloc (.cells #[.int .i64 x] 3) = W0 := ⟨_, rfl⟩
  have hsz : W0.heap.size = w.heap.size + 1 + 1 := by rw [← hW0]; simp
  have B1 : Boxed W0 w.heap.size 25 (.slice A l.length c) := by rw [← hW0]; exact (Boxed.new _ _ _).alloc _
  have B2 : Boxed W0 (w.heap.size + 1) 3 (.int .i64 x) := by
    rw [← hW0]
    have := Boxed.new (w.alloc (.cells #[.slice A l.length c] 25)) 3 (.int .i64 x)
    rwa [show (w.alloc (.cells #[.slice A l.length c] 25)).heap.size = w.heap.size + 1 by simp] at this
  have hb0 : Below w.heap.size w W0 := by rw [← hW0]; exact ((Below.refl _ w).alloc (Nat.le_refl _) _).alloc (by simp) _
  have eg : ∀ args w, (callFunc 42 args).run Tryd.prog w = .ok (.enter 42 args) w := enters_of Tryd.func42 (by kernel_rfl) rfl
  have bg : ∀ (m : Nat) (os : Array Obj), Below W0.heap.size W0 (grow (W0.drewN m) os) := fun m os =>
    ⟨rfl, rfl, rfl, by simp [Go.Sort.grow, World.drewN], fun i hi => by
      show (W0.heap ++ os)[i]? = _
      rw [Array.getElem?_append_left hi]⟩
  have hS := Any.sort_Search Tryd.search 42 #[.pointer (some ⟨w.heap.size, 0, none⟩), .pointer (some ⟨w.heap.size + 1, 0, none⟩)] l.length (fun i => G.hp x (l.getD i (0, 0))) W0 eg (by omega)
    (fun m os i hi => (hasf_any l hn A c x i hi _ w.heap.size (w.heap.size + 1) w.heap.size (((bg m os).cell (p := ⟨w.heap.size, 0, none⟩) (by show w.heap.size < _; omega)).trans B1.cell) (((bg m os).cell (p := ⟨w.heap.size + 1, 0, none⟩) (by show w.heap.size + 1 < _; omega)).trans B2.cell) ((hr.below hb0).below ((bg m os).mono (by omega)))).mono
      fun _ _ ⟨he, q, hq⟩ => ⟨he, q, #[], by rw [hq, grow_empty]⟩) (fun a b hab hb ha => G.hp_mono hs x a b hab hb ha)
  rw [G.range_cnt l (fun r => !G.hp x r)] at hS
  have HM := Lib.hid (G.has_cnt (x := x) hs.1)
  have hle : l.countP (fun r => !G.hp x r) ≤ l.length := List.countP_le_length
  generalize l.countP (fun r => !G.hp x r) = k at hS HM hle
  have HB := Lib.hid bg
  have HS : Hid (Calls Tryd.prog 41 #[.int .i64 (l.length : Int), .func (.func 42) #[] #[.pointer (some ⟨w.heap.size, 0, none⟩), .pointer (some ⟨w.heap.size + 1, 0, none⟩)]] W0 fun e w' => e = .returned (.int .i64 (k : Int)) ∧ Below W0.heap.size W0 w') := hS.mono fun _ _ ⟨he, q, os, hq⟩ => ⟨he, by rw [hq]; exact HB.out q os⟩
  have y1 := B1.cell
  have y2 := B2.cell
  clear bg eg hS HB
  go_enter Tryd.func17, Tryd.ntmps17
  go_wp2_with fail
  refine HS.out.mono ?_
  rintro e w1 ⟨rfl, hb1⟩
  have C1 : w1.cell? ⟨w.heap.size, 0, none⟩ = some (.slice A l.length c) := (hb1.cell (p := ⟨w.heap.size, 0, none⟩) B1.lt).trans y1
  have C2 : w1.cell? ⟨w.heap.size + 1, 0, none⟩ = some (.int .i64 x) := (hb1.cell (p := ⟨w.heap.size + 1, 0, none⟩) B2.lt).trans y2
  have bb : Below w.heap.size w w1 := hb0.trans (hb1.mono (by omega))
  have hr1 := hr.below bb
  clear hW0 hsz B1 B2 hb0 HS y1 y2 hb1 hr
  by_cases hlt : k < l.length
  · obtain ⟨b, o, rfl, hb, c1, c2⟩ := hr1.pair hlt
    have HM2 : Hid (G.mem l x = decide (l[k].1 ≤ x)) := by
      show _ = _
      rw [HM.out, decide_eq_true hlt, List.getD_eq_getElem?_getD, List.getElem?_eq_getElem hlt]; rfl
    generalize l[k].1 = y at c1 HM2
    have hd1 : decide ((k : Int) < (l.length : Int)) = true := decide_eq_true (by omega)
    clear HM hr1
    go_wp2_with fail
    go_quiet (fail)
    go_wp2_with fail
    go_ret
    exact ⟨by rw [HM2.out] <;> first | done | rfl | simp, below_drewN2 bb _⟩
  · have HM2 : Hid (G.mem l x = false) := by
      show _ = _
      rw [HM.out, decide_eq_false hlt]; rfl
    have hd1 : decide ((k : Int) < (l.length : Int)) = false := decide_eq_false (by omega)
    clear HM hr1
    go_wp2_with fail
    go_quiet (fail)
    go_wp2_with fail
    go_ret
    exact ⟨by rw [HM2.out] <;> first | done | rfl | simp, below_drewN2 bb _⟩
end Go.Proofs.YtgjoldjfeobjgaaDoor
