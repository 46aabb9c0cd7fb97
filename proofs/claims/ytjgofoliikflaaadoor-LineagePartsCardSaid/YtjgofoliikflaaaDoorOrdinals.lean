/-
  (lineage.Name).Ordinals.
-/
import Derived.Test.YtjgofoliikflaaaDoorValid
import Derived.Test.YtjgofoliikflaaaDoorRefParse
import Derived.Maps.AppendAt
namespace Go.Proofs.YtjgofoliikflaaaDoor
open Go.RowKit Go.Shelf
attribute [local go_sem] Oper.semAt_some

/-- What Ordinals returns: the ordinals of a valid name; nothing for another. -/
def ordsOf (l : List UInt8) : List Nat := match L.bad l with
  | none => L.ords l
  | some _ => []
theorem ordsOf_ok {l : List UInt8} (h : L.bad l = none) : ordsOf l = L.ords l := by unfold ordsOf; rw [h]
theorem ordsOf_bad {l : List UInt8} {x : L.Part} (h : L.bad l = some x) : ordsOf l = [] := by unfold ordsOf; rw [h]
def OrdPost (s : ByteArray) (w : World) (e : Ending) (w' : World) : Prop :=
  ∃ A c, e = .returned (.slice A (ordsOf s.data.toList).length c) ∧ Row w' w'.heap.size A (nums (ordsOf s.data.toList)) ∧ (ordsOf s.data.toList).length ≤ c ∧ Below w.heap.size w w'

set_option maxRecDepth 100000 in
set_option maxHeartbeats 4000000 in
theorem ordinals_in (n : Nat) (hn : 3 ≤ n) (s : ByteArray) (hs : s.size ≤ maxLen) (w : World) :
    CallsIn Fence.wide n Tryd.prog 17 #[.string s] w (OrdPost s w) := by
  have h1 : 1 ≤ n := by omega
  obtain ⟨i0, hi, hz0, hz1, hz2⟩ := info_parts infoInt
  refine callsIn_of_wp_marks Tryd.func17 rfl trivial ?_ rfl
  simp only [Tryd.ntmps17, List.size_toArray, List.length_cons, List.length_nil, Nat.reduceAdd, Nat.reduceSub, Array.replicate_succ, Array.replicate_zero, List.push_toArray, List.append_toArray, List.nil_append, List.cons_append]
  gi_wp2_with (refine ⟨trivial, ?_⟩; gi_at_call 46; refine (callsIn_wide.2 (parts_any s _)).mono ?_; rintro e w' ⟨rfl, rfl⟩)
  have b0 := ((Boxed.new w 22 (.slice none 0 0)).alloc (.cells #[.slice none 0 0] 22)).alloc (.cells #[.string s] 9)
  have b1 := (Boxed.new (w.alloc (.cells #[.slice none 0 0] 22)) 22 (.slice none 0 0)).alloc (.cells #[.string s] 9)
  have b3 := Boxed.new ((w.alloc (.cells #[.slice none 0 0] 22)).alloc (.cells #[.slice none 0 0] 22)) 9 (.string s)
  simp only [World.size_alloc] at b1 b3
  have hB0 : Below w.heap.size w (((w.alloc (.cells #[.slice none 0 0] 22)).alloc (.cells #[.slice none 0 0] 22)).alloc (.cells #[.string s] 9)) :=
    (((Below.refl _ w).alloc (Nat.le_refl _) _).alloc (by simp) _).alloc (by simp; omega) _
  have hsz : (((w.alloc (.cells #[.slice none 0 0] 22)).alloc (.cells #[.slice none 0 0] 22)).alloc (.cells #[.string s] 9)).heap.size = w.heap.size + 3 := by simp
  obtain ⟨W0, hW0⟩ : ∃ W0, (((w.alloc (.cells #[.slice none 0 0] 22)).alloc (.cells #[.slice none 0 0] 22)).alloc (.cells #[.string s] 9)) = W0 := ⟨_, rfl⟩
  rw [hW0] at b0 b1 b3 hB0 hsz ⊢
  clear hW0
  have hlen10 := L.parts_length s.data.toList
  refine wpIn_rangeFunc_ownH rfl h1 (gf := 66) (lb := #[.pointer (some ⟨w.heap.size + 1 + 1, 0, none⟩)]) rfl trivial (enters_of Tryd.func66 (by kernel_rfl) rfl)
    (parts_stops (n - 1) (by omega) (w.heap.size + 1 + 1) s hs W0 (by omega) b3.cell) KeepsT.trans (keepsT_b (by omega)) (Below.refl _ _) (fun _ => rfl)
    (fun pre W => ((Boxed W w.heap.size 22 (.slice none 0 0) ∧ (∃ v, Boxed W (w.heap.size + 1) 22 v ∧ W.ownsRow w.heap.size 3 1 v pre.length (nums (pre.map (·.ord))) ∧ True) ∧ Boxed W (w.heap.size + 1 + 1) 9 (.string s)) ∧ Below w.heap.size w W) ∧ (∀ y ∈ pre, y.e = 0) ∧ w.heap.size + 3 ≤ W.heap.size)
    (fun c pre W => (∃ pre' x, pre = pre' ++ [x] ∧ (∀ y ∈ pre', y.e = 0) ∧ x.e ≠ 0 ∧ c = .ret) ∧ Boxed W w.heap.size 22 (.slice none 0 0) ∧ Below w.heap.size w W)
    (OwnFrom.and (OwnFrom.and (OwnFrom.and (Own.from (boxed_own _ _ _) _) (OwnFrom.and (Own.from (holdsRow_own w.heap.size (w.heap.size + 1) 22 3 1 (fun pre : List L.Part => pre.length) (fun pre => nums (pre.map (·.ord))) (fun _ _ => True)) _) (Own.from (boxed_own _ _ _) _))) (ownFrom_below (Nat.le_refl _) (by omega))) (fun s X Y row hs hg _ => ⟨hs.1, Nat.le_trans hs.2 hg.size⟩))
    (fun c => OwnFrom.and (ownFrom_pure _ _) (OwnFrom.and (Own.from (boxed_own _ _ _) _) (ownFrom_below (Nat.le_refl _) (by omega))))
    ⟨⟨⟨b0, ⟨_, b1, World.ownsRow_nil _ _ _ _, trivial⟩, b3⟩, hB0⟩, by simp, by omega⟩
    (fun x a' W => ∃ Bx, w.heap.size + 2 < Bx ∧ PartBox W Bx x ∧ a' = { tmps := #[.string s, undef, .pointer (some ⟨w.heap.size, 0, none⟩), .pointer (some ⟨w.heap.size + 1, 0, none⟩), .pointer (some ⟨Bx, 0, none⟩), .string s, .func (.func 66) #[] #[.pointer (some ⟨w.heap.size + 1 + 1, 0, none⟩)], .agg #[.int .i64 (x.ord : Int), .int .i64 (x.at_ : Int), .int .i64 (x.e : Int)], undef, undef, undef, undef, undef, undef, undef, undef, undef], defers := [] })
    (fun x a' _ X Y row hs hg hr => by obtain ⟨Bx, h1, h2, h3⟩ := hs; exact ⟨Bx, h1, partBox_own Bx x () X Y row h2 hg (fun r e => (hr r e).2), h3⟩)
    ?assign ?body ?done ?stop
  case assign =>
    rintro l pre x W K ⟨⟨⟨c0, ⟨v, c1, hrow, _⟩, c3⟩, hB1⟩, hpre, hw4⟩ hK
    simp only [partE]
    gi_wp2
    exact hK _ _ ((KeepsOthers.alloc _ _).from _) ⟨by simp, Below.heap_alloc W _ _ (by omega), fun k cs fr hk => (Below.heap_alloc W _ k (Array.getElem?_eq_some_iff.1 hk).1).trans hk⟩ ⟨⟨⟨c0.alloc _, ⟨v, c1.alloc _, hrow.alloc _, trivial⟩, c3.alloc _⟩, hB1.alloc hB1.size _⟩, hpre, by simp; omega⟩ ⟨W.heap.size, by omega, World.alloc_heap_new W _, rfl⟩
  case body =>
    rintro l pre x a' W hl ⟨r, hr⟩ ⟨⟨⟨c0, ⟨v, c1, hrow, _⟩, c3⟩, hB1⟩, hpre, hw4⟩ ⟨Bx, hBx, hP, rfl⟩ hlt
    have hc0 := c0.cell
    have hc1 := c1.cell
    have hf0 := c0.frozen
    have hf1 := c1.frozen
    have hp0 : W.cell? ⟨Bx, 0, none⟩ = some (.int .i64 (x.ord : Int)) := by unfold PartBox at hP; simp [World.cell?, hP]
    have hp2 : W.cell? ⟨Bx, 2, none⟩ = some (.int .i64 (x.e : Int)) := by unfold PartBox at hP; simp [World.cell?, hP]
    have hpl : pre.length ≤ 10 := by omega
    by_cases he : x.e = 0
    · have t1 : ((x.e : Int) != 0) = false := by rw [bne_eq_false_iff_eq]; omega
      have HE := Lib.hid he
      clear he
      have n0 := Lib.hid (c0.not_row (by decide) hrow)
      have n3 := Lib.hid (c3.not_row (by decide) hrow)
      gi_wp2_with (gi_at_builtin; refine wpListIn_append_own _ rfl _ _ 22 rfl w.heap.size 3 i0 (.int .i64 0) 1 8 Tryd.underlying22 hi hz0 hz1 hz2 rfl (by decide) _ _ _ rfl (hrow.alloc _) ⟨W.heap.size, 0, none⟩ 1 1 [.int .i64 (x.ord : Int)] rfl rfl (cell_one_new _ _ _) (by simp [Value.oneCell']) (by simp only [maxLen]; omega) (by omega) (by have := hB1.size; simp; omega) ?_; intro v' w1 hown' hgrow _; obtain ⟨g', cap', rfl⟩ := ownsRow_succ hown'; obtain ⟨hv1, hv2, hr2, hk2, hb2⟩ := c1.appended (by decide) hrow hB1.size (by omega) hown' hgrow; have hc1' := hv1.cell; have hf1' := hv1.frozen)
      exact ⟨hk2.from _, keepsT_append c3 c1 hrow hgrow (by omega) (by decide) (by decide) (by decide), ⟨⟨((c0.alloc _).kept hgrow n0.out).other (by omega) _, ⟨_, hv2, by rw [show (pre ++ [x]).length = pre.length + 1 by simp, List.map_append, nums_append]; exact hr2, trivial⟩, ((c3.alloc _).kept hgrow n3.out).other (by omega) _⟩, hB1.trans hb2⟩, fun y hy => by
        rcases List.mem_append.1 hy with h | h
        · exact hpre y h
        · rw [List.mem_singleton.1 h]; exact HE.out, by have := hk2.size; omega⟩
    · have t1 : ((x.e : Int) != 0) = true := by rw [bne_iff_ne]; omega
      have HE := Lib.hid he
      clear he
      gi_wp2
      exact ⟨(KeepsOthers.setCell _ _ _).from _, ⟨pre, x, rfl, hpre, HE.out, rfl⟩, c0.set _, hB1.setCell (p := ⟨w.heap.size, 0, none⟩) (Nat.le_refl _) _⟩
  case done =>
    rintro D ys W hD rfl ⟨⟨⟨c0, ⟨v, c1, hrow, _⟩, c3⟩, hB1⟩, hpre, hw4⟩ hK
    have hv : ∃ A c, v = .slice A (L.parts s.data.toList).length c := by
      rcases hrow.2 with ⟨h1, h2⟩ | ⟨g, cap, cur, h1, _⟩
      · exact ⟨none, 0, by rw [h1, h2]⟩
      · exact ⟨_, _, h1⟩
    obtain ⟨A, c, rfl⟩ := hv
    have hc0 := c0.cell
    have hc1 := c1.cell
    have hf0 := c0.frozen
    have HB : Hid (L.bad s.data.toList = none) := L.bad_none hpre
    clear hpre
    gi_wp2
    have hK2 : (W.setCell ⟨w.heap.size, 0, none⟩ (.slice A (L.parts s.data.toList).length c)).heap[D]? = some (.deferred (some [])) := (KeepsOthers.setCell _ _ _).same D _ hK rfl
    have d0 : Boxed (W.setCell ⟨w.heap.size, 0, none⟩ (.slice A (L.parts s.data.toList).length c)) w.heap.size 22 (.slice A (L.parts s.data.toList).length c) := c0.set _
    have hB2 : Below w.heap.size w (W.setCell ⟨w.heap.size, 0, none⟩ (.slice A (L.parts s.data.toList).length c)) := hB1.setCell (p := ⟨w.heap.size, 0, none⟩) (Nat.le_refl _) _
    have hr2 : (W.setCell ⟨w.heap.size, 0, none⟩ (.slice A (L.parts s.data.toList).length c)).ownsRow w.heap.size 3 1 (.slice A (L.parts s.data.toList).length c) (L.parts s.data.toList).length (nums ((L.parts s.data.toList).map (·.ord))) := hrow.kept (grownBy_setCell' W _ _) (.inr (c0.not_row (by decide) hrow).symm)
    refine ⟨by simp, .inl ⟨_, _, rfl, run_takeDeferred hK2, ?_⟩⟩
    generalize (W.setCell ⟨w.heap.size, 0, none⟩ (.slice A (L.parts s.data.toList).length c)) = V at d0 hB2 hK2 hr2
    have q0 := cell_kept d0.cell (grownBy_putObj' V D (.deferred none)) (fun r e => by cases e; exact ⟨_, hK2, rfl⟩)
    have hr3 := ownsRow_putObj hr2 (.deferred none) hK2 rfl
    have hb3 := hB2.trans (belowK_b (w := w) (Nat.le_refl _) V D _ (.deferred none) (by omega) hK2 rfl rfl)
    have hl : (L.parts s.data.toList).length = (ordsOf s.data.toList).length := by rw [ordsOf_ok HB.out, L.ords]; simp
    exact ⟨_, by simp [results, Tryd.results17, go_sem, q0]; rfl, A, c, by rw [← hl], by rw [ordsOf_ok HB.out, L.ords]; exact Row.of_own hr3, by rw [← hl]; exact own_cap hr3, hb3⟩
  case stop =>
    rintro D c pre W hD hpr ⟨⟨pre', x, rfl, h0, hx, rfl⟩, c0, hB1⟩ hK
    have HB : Hid (L.bad s.data.toList = some x) := L.bad_some hpr h0 hx
    clear h0 hx
    gi_wp2
    refine ⟨by simp, .inl ⟨_, _, rfl, run_takeDeferred hK, ?_⟩⟩
    have q0 := cell_kept c0.cell (grownBy_putObj' W D (.deferred none)) (fun r e => by cases e; exact ⟨_, hK, rfl⟩)
    exact ⟨.slice none 0 0, by simp [results, Tryd.results17, go_sem, q0], none, 0, by rw [ordsOf_bad HB.out]; rfl, by rw [ordsOf_bad HB.out]; exact Row.nil _ _ _, by rw [ordsOf_bad HB.out]; exact Nat.le_refl _, hB1.trans (belowK_b (w := w) (Nat.le_refl _) W D _ _ (by omega) hK rfl rfl)⟩
theorem ordinals_any (s : ByteArray) (hs : s.size ≤ maxLen) (w : World) :
    Calls Tryd.prog 17 #[.string s] w (OrdPost s w) :=
  callsIn_wide.1 (ordinals_in 5 (by omega) s hs w)
end Go.Proofs.YtjgofoliikflaaaDoor
