/-
  lineage.Parse AND lineage.Valid: what they return is the first part with an error.
-/
import Derived.Test.YtjgofoliikflaaaDoorParts
namespace Go.Proofs.YtjgofoliikflaaaDoor
open Go.RowKit Go.Shelf
attribute [local go_sem] Oper.semAt_some

theorem parts_any (s : ByteArray) (w : World) :
    Calls Tryd.prog 46 #[.string s] w fun e w' => e = .returned (.func (.func 66) #[] #[.pointer (some ⟨w.heap.size, 0, none⟩)]) ∧ w' = w.alloc (.cells #[.string s] 9) := by
  go_enter Tryd.func46, Tryd.ntmps46
  go_wp2
  go_ret
  exact ⟨rfl, rfl⟩

theorem parts_stops (n : Nat) (hn : 1 ≤ n) (Bn : Nat) (s : ByteArray) (hs : s.size ≤ maxLen) (w : World) (hn₀ : Bn < w.heap.size) (hc : w.cell? ⟨Bn, 0, none⟩ = some (.string s)) :
    SeqStopsK Fence.wide n Tryd.prog 66 #[.pointer (some ⟨Bn, 0, none⟩)] partE (KeepsT Bn 77) (fun ys => ys = L.parts s.data.toList) (fun pre => pre <+: L.parts s.data.toList) (L.parts s.data.toList).length w :=
  fun l J Jx W hW hJ _ hY h0 => parts1_in n hn l Bn s hs J Jx W hJ hY ((hW.cell (p := ⟨Bn, 0, none⟩) hn₀).trans hc) (Nat.lt_of_lt_of_le hn₀ hW.size) h0

/-- A struct's block. -/
def PartBox (W : World) (B : Nat) (x : L.Part) : Prop := W.heap[B]? = some (.cells #[.int .i64 (x.ord : Int), .int .i64 (x.at_ : Int), .int .i64 (x.e : Int)] 77 (0, 0))
theorem partBox_own (B : Nat) (x : L.Part) : Own (fun (_ : Unit) W => PartBox W B x) := fun s X Y row hs hg hrow =>
  (hg.block B (Array.getElem?_eq_some_iff.1 hs).1 (fun e' => by obtain ⟨o, ho, hc⟩ := hrow B e'.symm; rw [show X.heap[B]? = _ from hs] at ho; cases ho; cases hc)).trans hs

def parsed (s : ByteArray) : Array Value :=
  match L.bad s.data.toList with
  | none => #[.string s, .int .i64 0, .int .i64 0]
  | some x => #[.string ⟨#[]⟩, .int .i64 (x.at_ : Int), .int .i64 (x.e : Int)]

set_option maxRecDepth 100000 in
set_option maxHeartbeats 4000000 in
theorem parse_in (n : Nat) (hn : 3 ≤ n) (s : ByteArray) (hs : s.size ≤ maxLen) (w : World) :
    CallsIn Fence.wide n Tryd.prog 15 #[.string s] w fun e w' => e = .returned (.tuple (parsed s)) ∧ Below w.heap.size w w' := by
  have h1 : 1 ≤ n := by omega
  refine callsIn_of_wp_marks Tryd.func15 rfl trivial ?_ rfl
  simp only [Tryd.ntmps15, List.size_toArray, List.length_cons, List.length_nil, Nat.reduceAdd, Nat.reduceSub, Array.replicate_succ, Array.replicate_zero, List.push_toArray, List.append_toArray, List.nil_append, List.cons_append]
  gi_wp2_with (refine ⟨trivial, ?_⟩; gi_at_call 46; refine (callsIn_wide.2 (parts_any s _)).mono ?_; rintro e w' ⟨rfl, rfl⟩)
  have b0 := (((Boxed.new w 23 (.string ⟨#[]⟩)).alloc (.cells #[.int .i64 0] 3)).alloc (.cells #[.int .i64 0] 24)).alloc (.cells #[.string s] 9)
  have b1 := ((Boxed.new (w.alloc (.cells #[.string ⟨#[]⟩] 23)) 3 (.int .i64 0)).alloc (.cells #[.int .i64 0] 24)).alloc (.cells #[.string s] 9)
  have b2 := (Boxed.new ((w.alloc (.cells #[.string ⟨#[]⟩] 23)).alloc (.cells #[.int .i64 0] 3)) 24 (.int .i64 0)).alloc (.cells #[.string s] 9)
  have b3 := Boxed.new (((w.alloc (.cells #[.string ⟨#[]⟩] 23)).alloc (.cells #[.int .i64 0] 3)).alloc (.cells #[.int .i64 0] 24)) 9 (.string s)
  simp only [World.size_alloc] at b1 b2 b3
  have hB0 : Below w.heap.size w ((((w.alloc (.cells #[.string ⟨#[]⟩] 23)).alloc (.cells #[.int .i64 0] 3)).alloc (.cells #[.int .i64 0] 24)).alloc (.cells #[.string s] 9)) :=
    ((((Below.refl _ w).alloc (Nat.le_refl _) _).alloc (by simp) _).alloc (by simp; omega) _).alloc (by simp; omega) _
  have hsz : ((((w.alloc (.cells #[.string ⟨#[]⟩] 23)).alloc (.cells #[.int .i64 0] 3)).alloc (.cells #[.int .i64 0] 24)).alloc (.cells #[.string s] 9)).heap.size = w.heap.size + 4 := by simp
  obtain ⟨W0, hW0⟩ : ∃ W0, ((((w.alloc (.cells #[.string ⟨#[]⟩] 23)).alloc (.cells #[.int .i64 0] 3)).alloc (.cells #[.int .i64 0] 24)).alloc (.cells #[.string s] 9)) = W0 := ⟨_, rfl⟩
  rw [hW0] at b0 b1 b2 b3 hB0 hsz ⊢
  clear hW0
  refine wpIn_rangeFunc_ownH rfl h1 (gf := 66) (lb := #[.pointer (some ⟨w.heap.size + 1 + 1 + 1, 0, none⟩)]) rfl trivial (enters_of Tryd.func66 (by kernel_rfl) rfl)
    (parts_stops (n - 1) (by omega) (w.heap.size + 1 + 1 + 1) s hs W0 (by omega) b3.cell) KeepsT.trans (keepsT_b (by omega)) (Below.refl _ _) (fun _ => rfl)
    (fun pre W => ((Boxed W w.heap.size 23 (.string ⟨#[]⟩) ∧ Boxed W (w.heap.size + 1) 3 (.int .i64 0) ∧ Boxed W (w.heap.size + 1 + 1) 24 (.int .i64 0)) ∧ Below w.heap.size w W) ∧ (∀ y ∈ pre, y.e = 0) ∧ w.heap.size + 4 ≤ W.heap.size)
    (fun c pre W => ∃ pre' x, (pre = pre' ++ [x] ∧ (∀ y ∈ pre', y.e = 0) ∧ x.e ≠ 0 ∧ c = .ret) ∧ ((Boxed W w.heap.size 23 (.string ⟨#[]⟩) ∧ Boxed W (w.heap.size + 1) 3 (.int .i64 (x.at_ : Int)) ∧ Boxed W (w.heap.size + 1 + 1) 24 (.int .i64 (x.e : Int))) ∧ Below w.heap.size w W))
    (OwnFrom.and (OwnFrom.and (OwnFrom.and (Own.from (boxed_own _ _ _) _) (OwnFrom.and (Own.from (boxed_own _ _ _) _) (Own.from (boxed_own _ _ _) _))) (ownFrom_below (Nat.le_refl _) (by omega))) (fun s X Y row hs hg _ => ⟨hs.1, Nat.le_trans hs.2 hg.size⟩))
    (fun c s X Y row hs hg hr => by
      obtain ⟨pre', x, h1, h2⟩ := hs
      exact ⟨pre', x, h1, OwnFrom.and (OwnFrom.and (Own.from (boxed_own w.heap.size 23 (fun (_ : Unit) => .string ⟨#[]⟩)) _) (OwnFrom.and (Own.from (boxed_own (w.heap.size + 1) 3 (fun _ => .int .i64 (x.at_ : Int))) _) (Own.from (boxed_own (w.heap.size + 1 + 1) 24 (fun _ => .int .i64 (x.e : Int))) _))) (ownFrom_below (Nat.le_refl _) (by omega)) () X Y row h2 hg hr⟩)
    ⟨⟨⟨b0, b1, b2⟩, hB0⟩, by simp, by omega⟩
    (fun x a' W => ∃ Bx, w.heap.size + 3 < Bx ∧ PartBox W Bx x ∧ a' = { tmps := #[.string s, undef, .pointer (some ⟨w.heap.size, 0, none⟩), .pointer (some ⟨w.heap.size + 1, 0, none⟩), .pointer (some ⟨w.heap.size + 1 + 1, 0, none⟩), .pointer (some ⟨Bx, 0, none⟩), .string s, .func (.func 66) #[] #[.pointer (some ⟨w.heap.size + 1 + 1 + 1, 0, none⟩)], .agg #[.int .i64 (x.ord : Int), .int .i64 (x.at_ : Int), .int .i64 (x.e : Int)], undef, undef, undef, undef, undef, undef, undef, undef], defers := [] })
    (fun x a' _ X Y row hs hg hr => by obtain ⟨Bx, h1, h2, h3⟩ := hs; exact ⟨Bx, h1, partBox_own Bx x () X Y row h2 hg (fun r e => (hr r e).2), h3⟩)
    ?assign ?body ?done ?stop
  case assign =>
    rintro l pre x W K ⟨⟨⟨c0, c1, c2⟩, hB1⟩, hpre, hw4⟩ hK
    simp only [partE]
    gi_wp2
    exact hK _ _ ((KeepsOthers.alloc _ _).from _) ⟨by simp, Below.heap_alloc W _ _ (by omega), fun k cs fr hk => (Below.heap_alloc W _ k (Array.getElem?_eq_some_iff.1 hk).1).trans hk⟩ ⟨⟨⟨c0.alloc _, c1.alloc _, c2.alloc _⟩, hB1.alloc hB1.size _⟩, hpre, by simp; omega⟩ ⟨W.heap.size, by omega, World.alloc_heap_new W _, rfl⟩
  case body =>
    rintro l pre x a' W hl ⟨r, hr⟩ ⟨⟨⟨c0, c1, c2⟩, hB1⟩, hpre, hw4⟩ ⟨Bx, hBx, hP, rfl⟩ hlt
    have hc0 := c0.cell
    have hc1 := c1.cell
    have hc2 := c2.cell
    have hf0 := c0.frozen
    have hf1 := c1.frozen
    have hf2 := c2.frozen
    have hp1 : W.cell? ⟨Bx, 1, none⟩ = some (.int .i64 (x.at_ : Int)) := by unfold PartBox at hP; simp [World.cell?, hP]
    have hp2 : W.cell? ⟨Bx, 2, none⟩ = some (.int .i64 (x.e : Int)) := by unfold PartBox at hP; simp [World.cell?, hP]
    by_cases he : x.e = 0
    · have t1 : ((x.e : Int) != 0) = false := by rw [bne_eq_false_iff_eq]; omega
      have HE := Lib.hid he
      clear he
      gi_wp2
      exact ⟨KeepsFrom.refl _ _, KeepsT.refl _ _ _, ⟨⟨c0, c1, c2⟩, hB1⟩, fun y hy => by
        rcases List.mem_append.1 hy with h | h
        · exact hpre y h
        · rw [List.mem_singleton.1 h]; exact HE.out, hw4⟩
    · have t1 : ((x.e : Int) != 0) = true := by rw [bne_iff_ne]; omega
      have HE := Lib.hid he
      clear he
      have hmx : Tryd.prog.follows .mixedOrders = true := by kernel_rfl
      obtain ⟨WF, hWF⟩ : ∃ WF, (((W.setCell ⟨w.heap.size, 0, none⟩ (.string ⟨#[]⟩)).setCell ⟨w.heap.size + 1, 0, none⟩ (.int .i64 (x.at_ : Int))).setCell ⟨w.heap.size + 1 + 1, 0, none⟩ (.int .i64 (x.e : Int))).drew = WF := ⟨_, rfl⟩
      have hK : KeepsFrom W0.heap.size W WF := by
        rw [← hWF]
        exact ((((KeepsOthers.setCell _ _ _).trans (KeepsOthers.setCell _ _ _)).trans (KeepsOthers.setCell _ _ _)).trans (KeepsOthers.drew _)).from _
      have hF : (Boxed WF w.heap.size 23 (.string ⟨#[]⟩) ∧ Boxed WF (w.heap.size + 1) 3 (.int .i64 (x.at_ : Int)) ∧ Boxed WF (w.heap.size + 1 + 1) 24 (.int .i64 (x.e : Int))) ∧ Below w.heap.size w WF := by
        rw [← hWF]
        exact ⟨⟨((c0.set _).other (by omega) _).other (by omega) _, ((c1.other (by omega) _).set _).other (by omega) _, ((c2.other (by omega) _).other (by omega) _).set _⟩,
          (((hB1.setCell (p := ⟨w.heap.size, 0, none⟩) (Nat.le_refl _) _).setCell (p := ⟨w.heap.size + 1, 0, none⟩) (by simp) _).setCell (p := ⟨w.heap.size + 1 + 1, 0, none⟩) (by show _ ≤ w.heap.size + 1 + 1; omega) _).drew⟩
      have HWF := Lib.hid hWF
      have HK := Lib.hid hK
      have HF := Lib.hid hF
      clear hWF hK hF
      gi_wp2
      gi_region_with_o (fail)
      all_goals gi_wp2
      all_goals rw [HWF.out]
      all_goals exact ⟨HK.out, pre, x, ⟨rfl, hpre, HE.out, rfl⟩, HF.out⟩
  case done =>
    rintro D ys W hD rfl ⟨⟨⟨c0, c1, c2⟩, hB1⟩, hpre, hw4⟩ hK
    have hc0 := c0.cell
    have hc1 := c1.cell
    have hc2 := c2.cell
    have hf0 := c0.frozen
    have hf1 := c1.frozen
    have hf2 := c2.frozen
    have HB : Hid (L.bad s.data.toList = none) := L.bad_none hpre
    clear hpre
    gi_wp2
    have hK2 : (((W.setCell ⟨w.heap.size, 0, none⟩ (.string s)).setCell ⟨w.heap.size + 1, 0, none⟩ (.int .i64 0)).setCell ⟨w.heap.size + 1 + 1, 0, none⟩ (.int .i64 0)).heap[D]? = some (.deferred (some [])) :=
      (((KeepsOthers.setCell _ _ _).trans (KeepsOthers.setCell _ _ _)).trans (KeepsOthers.setCell _ _ _)).same D _ hK rfl
    have d0 : Boxed (((W.setCell ⟨w.heap.size, 0, none⟩ (.string s)).setCell ⟨w.heap.size + 1, 0, none⟩ (.int .i64 0)).setCell ⟨w.heap.size + 1 + 1, 0, none⟩ (.int .i64 0)) w.heap.size 23 (.string s) :=
      ((c0.set _).other (by omega) _).other (by omega) _
    have d1 : Boxed (((W.setCell ⟨w.heap.size, 0, none⟩ (.string s)).setCell ⟨w.heap.size + 1, 0, none⟩ (.int .i64 0)).setCell ⟨w.heap.size + 1 + 1, 0, none⟩ (.int .i64 0)) (w.heap.size + 1) 3 (.int .i64 0) :=
      ((c1.other (by omega) _).set _).other (by omega) _
    have d2 : Boxed (((W.setCell ⟨w.heap.size, 0, none⟩ (.string s)).setCell ⟨w.heap.size + 1, 0, none⟩ (.int .i64 0)).setCell ⟨w.heap.size + 1 + 1, 0, none⟩ (.int .i64 0)) (w.heap.size + 1 + 1) 24 (.int .i64 0) :=
      ((c2.other (by omega) _).other (by omega) _).set _
    have hB2 : Below w.heap.size w (((W.setCell ⟨w.heap.size, 0, none⟩ (.string s)).setCell ⟨w.heap.size + 1, 0, none⟩ (.int .i64 0)).setCell ⟨w.heap.size + 1 + 1, 0, none⟩ (.int .i64 0)) :=
      ((hB1.setCell (p := ⟨w.heap.size, 0, none⟩) (Nat.le_refl _) _).setCell (p := ⟨w.heap.size + 1, 0, none⟩) (by simp) _).setCell (p := ⟨w.heap.size + 1 + 1, 0, none⟩) (by show _ ≤ w.heap.size + 1 + 1; omega) _
    refine ⟨by simp, .inl ⟨_, _, rfl, run_takeDeferred hK2, ?_⟩⟩
    generalize (((W.setCell ⟨w.heap.size, 0, none⟩ (.string s)).setCell ⟨w.heap.size + 1, 0, none⟩ (.int .i64 0)).setCell ⟨w.heap.size + 1 + 1, 0, none⟩ (.int .i64 0)) = V at d0 d1 d2 hB2 hK2
    have q0 := cell_kept d0.cell (grownBy_putObj' V D (.deferred none)) (fun r e => by cases e; exact ⟨_, hK2, rfl⟩)
    have q1 := cell_kept d1.cell (grownBy_putObj' V D (.deferred none)) (fun r e => by cases e; exact ⟨_, hK2, rfl⟩)
    have q2 := cell_kept d2.cell (grownBy_putObj' V D (.deferred none)) (fun r e => by cases e; exact ⟨_, hK2, rfl⟩)
    exact ⟨.tuple #[.string s, .int .i64 0, .int .i64 0], by simp [results, Tryd.results15, go_sem, q0, q1, q2], by rw [parsed, HB.out], hB2.trans (belowK_b (w := w) (Nat.le_refl _) V D _ _ (by omega) hK2 rfl rfl)⟩
  case stop =>
    rintro D c pre W hD hpr ⟨pre', x, ⟨rfl, h0, hx, rfl⟩, ⟨c0, c1, c2⟩, hB1⟩ hK
    have HB : Hid (L.bad s.data.toList = some x) := L.bad_some hpr h0 hx
    clear h0 hx
    gi_wp2
    refine ⟨by simp, .inl ⟨_, _, rfl, run_takeDeferred hK, ?_⟩⟩
    have q0 := cell_kept c0.cell (grownBy_putObj' W D (.deferred none)) (fun r e => by cases e; exact ⟨_, hK, rfl⟩)
    have q1 := cell_kept c1.cell (grownBy_putObj' W D (.deferred none)) (fun r e => by cases e; exact ⟨_, hK, rfl⟩)
    have q2 := cell_kept c2.cell (grownBy_putObj' W D (.deferred none)) (fun r e => by cases e; exact ⟨_, hK, rfl⟩)
    exact ⟨.tuple #[.string ⟨#[]⟩, .int .i64 (x.at_ : Int), .int .i64 (x.e : Int)], by simp [results, Tryd.results15, go_sem, q0, q1, q2], by rw [parsed, HB.out], hB1.trans (belowK_b (w := w) (Nat.le_refl _) W D _ _ (by omega) hK rfl rfl)⟩

theorem parse_any (s : ByteArray) (hs : s.size ≤ maxLen) (w : World) :
    Calls Tryd.prog 15 #[.string s] w fun e w' => e = .returned (.tuple (parsed s)) ∧ Below w.heap.size w w' :=
  callsIn_wide.1 (parse_in 5 (by omega) s hs w)
end Go.Proofs.YtjgofoliikflaaaDoor
