/-
  THE ITERATOR 'parts' OF lineage: its rounds are those of L.parts.
-/
import Derived.RangeFuncNested
import Derived.RangeFuncBound
import Derived.RangeFuncCalls
import Derived.RangeFuncLeaves
import Derived.RangeFuncBox
import Derived.Shelf.Abstract
import Derived.Shelf.RegionOpen
import Derived.OwnWalkIn
import Derived.TacticsInMore
import Derived.LoopNIn
import Derived.LoopIn
import Derived.Test.YtjgofoliikflaaaDoorFirst
import Derived.Test.YtjgofoliikflaaaDoorSpec
import Derived.Lib.Strings
namespace Go.Proofs.YtjgofoliikflaaaDoor
open Go.RowKit Go.Shelf
attribute [local go_sem] Oper.semAt_some

/-- WHAT A ROUND THAT GOES ON KEEPS: the block Bn; every block of the iterator's own kind. -/
def KeepsT (Bn : Nat) (t : TypeId) (W W' : World) : Prop :=
  W.heap.size ≤ W'.heap.size ∧ W'.heap[Bn]? = W.heap[Bn]? ∧ ∀ (k : Nat) (cs : Array Value) (fr : Nat × Nat), W.heap[k]? = some (.cells cs t fr) → W'.heap[k]? = some (.cells cs t fr)
theorem KeepsT.trans {Bn : Nat} {t : TypeId} {A B C : World} (h : KeepsT Bn t A B) (k : KeepsT Bn t B C) : KeepsT Bn t A C :=
  ⟨Nat.le_trans h.1 k.1, k.2.1.trans h.2.1, fun i cs fr hi => k.2.2 i cs fr (h.2.2 i cs fr hi)⟩
theorem KeepsT.refl (Bn : Nat) (t : TypeId) (A : World) : KeepsT Bn t A A := ⟨Nat.le_refl _, rfl, fun _ _ _ h => h⟩
theorem keepsT_b {Bn : Nat} {t : TypeId} {w : World} (hn : Bn < w.heap.size) (W : World) (l : Nat) (o o' : Obj) (hl : w.heap.size ≤ l) (h : W.heap[l]? = some o) (hc : o.isCells = false) (hw : o.isWalk = false) :
    KeepsT Bn t W (W.putObj l o') := by
  have hg := grownBy_putObj' W l o'
  have hlt := (Array.getElem?_eq_some_iff.1 h).1
  refine ⟨hg.size, hg.block Bn (by omega) (fun e => by cases e; omega), fun k cs fr hk => ?_⟩
  have hne : k ≠ l := by rintro rfl; rw [h] at hk; cases hk; cases hc
  exact (hg.block k (Array.getElem?_eq_some_iff.1 hk).1 (fun e => hne (by cases e; rfl))).trans hk
/-- An append to a row of another kind, its value stored into a box of another kind. -/
theorem keepsT_append {W w1 : World} {Bn B n₀ size k : Nat} {t tb te ts : TypeId} {v v' u : Value} {xs : List Value} {tmp : Obj} (hn : Boxed W Bn ts u) (hv : Boxed W B tb v) (hrow : W.ownsRow n₀ te size v k xs) (hgrow : (W.alloc tmp).grownBy w1 v.ownBlock)
    (hne : Bn ≠ B) (h1 : ts ≠ te) (h2 : t ≠ te) (h3 : t ≠ tb) : KeepsT Bn t W (w1.setCell ⟨B, 0, none⟩ v') := by
  have hown : ∀ (k : Nat) (cs : Array Value) (t' : TypeId) (fr : Nat × Nat), W.heap[k]? = some (.cells cs t' fr) → t' ≠ te → some k ≠ v.ownBlock := by
    intro k cs t' fr hk hne he
    rcases hrow.2 with ⟨rfl, _⟩ | ⟨g, cap, cur, rfl, _, hgb, _⟩
    · simp [Value.ownBlock] at he
    · obtain rfl : k = g := by simpa [Value.ownBlock] using he
      rw [hgb] at hk
      cases hk
      exact hne rfl
  have step : ∀ (k : Nat) (cs : Array Value) (t' : TypeId) (fr : Nat × Nat), W.heap[k]? = some (.cells cs t' fr) → t' ≠ te → k ≠ B → (w1.setCell ⟨B, 0, none⟩ v').heap[k]? = W.heap[k]? := by
    intro k cs t' fr hk hne hkB
    have hlt := (Array.getElem?_eq_some_iff.1 hk).1
    rw [Below.heap_setCell _ _ _ _ (by exact hkB), hgrow.block k (by simp; omega) (hown k cs t' fr hk hne), Below.heap_alloc W tmp k hlt]
  have hsz : W.heap.size ≤ w1.heap.size := Nat.le_trans (by simp) hgrow.size
  refine ⟨by simpa [World.setCell] using hsz, step Bn _ _ _ hn h1 hne, fun k cs fr hk => ?_⟩
  rw [step k cs t fr hk h2 (by rintro rfl; rw [show W.heap[k]? = _ from hv] at hk; cases hk; exact h3 rfl)]
  exact hk
theorem grown_none {a w : World} (h : Below a.heap.size a w) : a.grownBy w none := ⟨h.os, h.tape, h.output, h.size, fun i hi _ => h.block i hi⟩

/-- first's contract, its value written out. -/
theorem first_at {s : ByteArray} {a count : Nat} (hs : s.size ≤ maxLen) (ha : a ≤ s.size) {o b e z : Nat} (hf : L.first s.data.toList a count = (⟨o, b, e⟩, z)) (w : World) :
    Calls Tryd.prog 67 #[.string s, .int .i64 (a : Int), .int .i64 (count : Int)] w fun en w' =>
      en = .returned (.tuple #[.agg #[.int .i64 (o : Int), .int .i64 (b : Int), .int .i64 (e : Int)], .int .i64 (z : Int)]) ∧ Below w.heap.size w w' := by
  have h := first_any s a count hs ha w
  rw [hf] at h
  exact h

/-- A part as the iterator hands it to a round. -/
def partE (x : L.Part) : Array Value := #[.agg #[.int .i64 (x.ord : Int), .int .i64 (x.at_ : Int), .int .i64 (x.e : Int)]]

set_option maxRecDepth 100000 in
set_option maxHeartbeats 2000000 in
theorem parts1_in (n : Nat) (hn : 1 ≤ n) (l Bn : Nat) (s : ByteArray) (hs : s.size ≤ maxLen) (J Jx : List L.Part → World → Prop)
    (W : World) (hJ : AbidesFrom W.heap.size J)
    (hY : ∀ pre x W1, J pre W1 → pre.length < (L.parts s.data.toList).length → YieldAt Fence.wide (n - 1) Tryd.prog l (partE x) W1 fun e W' =>
      (e = .returned (.bool true) ∧ J (pre ++ [x]) W' ∧ KeepsT Bn 77 W1 W') ∨ (e = .returned (.bool false) ∧ Jx (pre ++ [x]) W'))
    (hBn : W.cell? ⟨Bn, 0, none⟩ = some (.string s)) (hn₀ : Bn < W.heap.size) (h0 : J [] W) :
    CallsIn Fence.wide n Tryd.prog 66 #[.func (.yield l) #[] #[], .pointer (some ⟨Bn, 0, none⟩)] W fun e W' => (∃ v, e = .returned v) ∧
      ((∃ ys, ys = L.parts s.data.toList ∧ J ys W') ∨ (∃ pre, pre <+: L.parts s.data.toList ∧ Jx pre W')) := by
  by_cases hem : s.data.toList = []
  · have hem2 : s.toList = [] := (Lib.toList_data s).trans hem
    refine callsIn_of_wp Tryd.func66 rfl trivial ?_ rfl
    simp only [Tryd.ntmps66, List.size_toArray, List.length_cons, List.length_nil, Nat.reduceAdd, Nat.reduceSub, Array.replicate_succ, Array.replicate_zero, List.push_toArray, List.append_toArray, List.nil_append, List.cons_append]
    gi_wp2
    gi_loopw [3] (fun p wr => wr = W) (fun p wr => 0)
    case atStart => rfl
    case round =>
      obtain rfl := hrel
      gi_wp2
      go_end0
      exact ⟨⟨_, rfl⟩, .inl ⟨[], by rw [L.parts, if_pos hem], h0⟩⟩
  · have hs63 : s.size ≤ 9223372036854775807 := hs
    have hem2 : s.toList.isEmpty = false := by rw [Lib.toList_data]; cases h : s.data.toList with
      | nil => exact absurd h hem
      | cons _ _ => rfl
    refine callsIn_of_wp Tryd.func66 rfl trivial ?_ rfl
    simp only [Tryd.ntmps66, List.size_toArray, List.length_cons, List.length_nil, Nat.reduceAdd, Nat.reduceSub, Array.replicate_succ, Array.replicate_zero, List.push_toArray, List.append_toArray, List.nil_append, List.cons_append]
    gi_wp2
    gi_loopw [3, 4] (fun p c wr => ∃ (pre : List L.Part) (a count : Nat), p = .int .i64 (a : Int) ∧ c = .int .i64 (count : Int) ∧ a ≤ s.size ∧ count ≤ 8 ∧ L.parts s.data.toList = pre ++ L.partsFrom s.data.toList (9 - count) a count ∧ J pre wr ∧ wr.heap[Bn]? = W.heap[Bn]? ∧ W.heap.size ≤ wr.heap.size)
      (fun _ c _ => 9 - (intOf c).toNat)
    case atStart => exact ⟨[], 0, 0, rfl, rfl, by omega, by omega, by rw [L.parts, if_neg hem]; rfl, h0, rfl, Nat.le_refl _⟩
    case round =>
      obtain ⟨pre, a, count, rfl, rfl, ha, hc, hp, hJ1, hb, hsz⟩ := hrel
      obtain ⟨⟨⟨o, b, e⟩, z⟩, hf⟩ : ∃ p, L.first s.data.toList a count = p := ⟨_, rfl⟩
      have Hf := Lib.hid hf
      clear hf
      have Hp := Lib.hid hp
      clear hp
      have hcell : wr.cell? ⟨Bn, 0, none⟩ = some (.string s) := (World.cell?_of_block (a := ⟨Bn, 0, none⟩) hb).trans hBn
      have hlt : pre.length < (L.parts s.data.toList).length := by
        rw [Hp.out, List.length_append]
        have := L.partsFrom_pos s.data.toList (9 - count) a count (by omega)
        omega
      have hz : z ≤ s.size := by
        have := L.first_end (l := s.data.toList) (a := a) (count := count) (by simpa using ha)
        rw [Hf.out] at this
        simpa using this
      gi_wp2_with (refine ⟨trivial, ?_⟩; gi_at_call 67; refine (callsIn_wide.2 (first_at hs ha Hf.out _)).mono ?_; rintro en w1 ⟨rfl, hb1⟩; have hb2 := hb1.alloc hb1.size (.cells #[.int .i64 (o : Int), .int .i64 (b : Int), .int .i64 (e : Int)] 77); have hJ2 := hJ pre wr _ none hJ1 (grown_none hb2) (fun _ h => by cases h); obtain ⟨fn, tmps, assign, body, hy, hR⟩ := hY pre ⟨o, b, e⟩ _ hJ2 hlt; dsimp only [partE] at hy; have HR := Lib.hid hR; clear hR)
      have h9 : 9 - count = (8 - count) + 1 := by omega
      have hpre : pre ++ [⟨o, b, e⟩] <+: L.parts s.data.toList := by
        obtain ⟨rest, hr⟩ := L.parts_head (l := s.data.toList) (f := 9 - count) (a := a) (count := count) (by omega)
        rw [Hf.out] at hr
        exact ⟨rest, by rw [Hp.out, hr]; simp⟩
      have H9 := Lib.hid h9
      clear h9
      refine HR.out.mono ?_
      rintro en W3 (⟨rfl, hJ3, hk3⟩ | ⟨rfl, hJx3⟩)
      · have hP : W3.heap[w1.heap.size]? = some (.cells #[.int .i64 (o : Int), .int .i64 (b : Int), .int .i64 (e : Int)] 77 (0, 0)) := hk3.2.2 _ _ _ (World.alloc_heap_new w1 _)
        have hPc : W3.cell? ⟨w1.heap.size, 2, none⟩ = some (.int .i64 (e : Int)) := by simp [World.cell?, hP]
        have HP := Lib.hid hP
        clear hP
        have hb3 : W3.heap[Bn]? = W.heap[Bn]? := (hk3.2.1.trans (hb2.block Bn (by omega))).trans hb
        have hsz3 := hk3.1
        have hcell3 : W3.cell? ⟨Bn, 0, none⟩ = some (.string s) := (World.cell?_of_block (a := ⟨Bn, 0, none⟩) hb3).trans hBn
        by_cases he : e = 0
        · have t1 : ((e : Int) != 0) = false := by rw [bne_eq_false_iff_eq]; omega
          by_cases hzl : z = s.size
          · have t2 : ((z : Int) == (s.size : Int)) = true := beq_iff_eq.2 (by omega)
            have Hall : Hid (L.parts s.data.toList = pre ++ [⟨o, b, e⟩]) := by
              show _ = _
              rw [Hp.out, H9.out, L.parts_cons Hf.out (.inr (by simpa using hzl))]
            have HE := Lib.hid he
            have HZ := Lib.hid hzl
            clear he hzl
            gi_wp2
            refine bodyPost_ret (results_none rfl _ _ _) rfl ?_
            exact ⟨⟨_, rfl⟩, .inl ⟨_, Hall.out.symm, hJ3⟩⟩
          · have t2 : ((z : Int) == (s.size : Int)) = false := beq_eq_false_iff_ne.2 (by omega)
            have hz' : z < s.size := by omega
            by_cases hd : s[z] = 46
            · have t3 : ((s[z].toNat : Int) != 46) = false := by rw [hd]; rfl
              have Hd := Lib.hid hd
              have HE := Lib.hid he
              clear hd he
              have hc8 : count < 8 := by
                have := L.first_count (l := s.data.toList) (a := a) (count := count) (by rw [Hf.out]; exact HE.out)
                omega
              have Hall : Hid (L.parts s.data.toList = (pre ++ [⟨o, b, e⟩]) ++ L.partsFrom s.data.toList (9 - (count + 1)) (z + 1) (count + 1)) := by
                show _ = _
                rw [Hp.out, H9.out, L.parts_more Hf.out HE.out (by simpa using hzl) (by rw [at_toList hz', Hd.out]), show 9 - (count + 1) = 8 - count by omega]
                simp
              gi_wp2
              go_roundw
              case rel => exact ⟨_, z + 1, count + 1, by go_num, by go_num, by omega, by omega, Hall.out, hJ3, hb3, by have := hb2.size; simp at this hsz3; omega⟩
              case measure => simp [intOf]; omega
            · have t3 : ((s[z].toNat : Int) != 46) = true := by
                rw [bne_iff_ne]; intro h; exact hd (UInt8.toNat_inj.1 (by show s[z].toNat = 46; omega))
              have Hall : Hid (L.parts s.data.toList = (pre ++ [⟨o, b, e⟩]) ++ [⟨0, z, 6⟩]) := by
                show _ = _
                rw [Hp.out, H9.out, L.parts_two Hf.out he (by simpa using hzl) (by rw [at_toList hz']; intro h; exact hd (Option.some.inj h))]
                simp
              have HE := Lib.hid he
              clear he
              obtain ⟨fn2, tmps2, assign2, body2, hy2, hR2⟩ := hY (pre ++ [⟨o, b, e⟩]) ⟨0, z, 6⟩ W3 hJ3 (by rw [Hall.out]; simp)
              simp only [partE, Int.natCast_zero, Int.cast_ofNat_Int] at hy2
              have HR2 := Lib.hid hR2
              clear hR2
              gi_wp2
              refine HR2.out.mono ?_
              rintro en W4 (⟨rfl, hJ4, hk4⟩ | ⟨rfl, hJx4⟩)
              · gi_wp2
                refine bodyPost_ret (results_none rfl _ _ _) rfl ?_
                exact ⟨⟨_, rfl⟩, .inl ⟨_, by rw [Hall.out], hJ4⟩⟩
              · gi_wp2
                refine bodyPost_ret (results_none rfl _ _ _) rfl ?_
                exact ⟨⟨_, rfl⟩, .inr ⟨_, ⟨[], by rw [Hall.out]; simp⟩, hJx4⟩⟩
        · have t1 : ((e : Int) != 0) = true := by rw [bne_iff_ne]; omega
          have Hall : Hid (L.parts s.data.toList = pre ++ [⟨o, b, e⟩]) := by
            show _ = _
            rw [Hp.out, H9.out, L.parts_cons Hf.out (.inl he)]
          gi_wp2
          refine bodyPost_ret (results_none rfl _ _ _) rfl ?_
          exact ⟨⟨_, rfl⟩, .inl ⟨_, Hall.out.symm, hJ3⟩⟩
      · gi_wp2
        refine bodyPost_ret (results_none rfl _ _ _) rfl ?_
        exact ⟨⟨_, rfl⟩, .inr ⟨_, hpre, hJx3⟩⟩
end Go.Proofs.YtjgofoliikflaaaDoor
