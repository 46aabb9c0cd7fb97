/-
  ranges.Of and the reference's Of.
-/
import Derived.Test.YtgjoldjfeobjgaaDoorRgTidy
import Derived.Test.YtgjoldjfeobjgaaDoorRgSort
import Derived.Test.YtgjoldjfeobjgaaDoorRgA
namespace Go.Proofs.YtgjoldjfeobjgaaDoor
open Go.RowKit

namespace G
def okR (r : Rg) : Prop := 0 ≤ r.1 ∧ r.1 ≤ r.2 ∧ r.2 ≤ 1099511627776
instance (r : Rg) : Decidable (okR r) := by unfold okR; infer_instance
/-- What Of returns: the error, the ranges. -/
def ofR (l : List Rg) : Nat × List Rg := if ∀ r ∈ l, okR r then (if (tidy l).length ≤ 1024 then (0, tidy l) else (9, [])) else (2, [])
theorem ofR_bad {l : List Rg} {k : Nat} (hk : k < l.length) (h : ¬ okR l[k]) : ofR l = (2, []) := if_neg fun h' => h (h' _ (List.getElem_mem hk))
theorem ofR_ok {l : List Rg} (h : ∀ r ∈ l, okR r) (hl : (tidy l).length ≤ 1024) : ofR l = (0, tidy l) := by rw [ofR, if_pos h, if_pos hl]
theorem ofR_limit {l : List Rg} (h : ∀ r ∈ l, okR r) (hl : ¬ (tidy l).length ≤ 1024) : ofR l = (9, []) := by rw [ofR, if_pos h, if_neg hl]
theorem tidy_len (l : List Rg) : (tidy l).length ≤ l.length := by
  have h1 := merge_len (insAll l)
  have h2 := insF_fold_len l []
  rw [insAll_eq] at h1
  simp only [List.length_nil] at h2
  rw [tidy, insAll_eq]
  omega
theorem okR_val {l : List Rg} (h : ∀ r ∈ l, okR r) : ∀ r ∈ l, -1 < r.1 ∧ r.1 ≤ r.2 := fun r hr => ⟨by have := (h r hr).1; omega, (h r hr).2.1⟩
theorem tidy_set {l : List Rg} (h : ∀ r ∈ l, okR r) : Set_ (tidy l) := by
  obtain ⟨a, b⟩ := tidy_ok (okR_val h)
  refine ⟨a, fun r hr => ?_⟩
  have hr' := a.from_gt r hr
  have hm : mem (tidy l) (r.2 - 1) = true := mem_iff.2 ⟨r, hr, by omega, by omega⟩
  rw [b] at hm
  obtain ⟨q, hq, h1, h2⟩ := mem_iff.1 hm
  have := (h q hq).2.2
  unfold INF; omega
theorem ofR_set (l : List Rg) : Set_ (ofR l).2 := by
  unfold ofR
  split
  · split
    · exact tidy_set ‹_›
    · exact ⟨trivial, by simp⟩
  · exact ⟨trivial, by simp⟩
theorem ofR_len (l : List Rg) : (ofR l).2.length ≤ l.length := by
  have := tidy_len l
  unfold ofR
  split
  · split
    · exact this
    · simp
  · simp
end G

set_option maxRecDepth 100000 in
set_option maxHeartbeats 2000000 in
theorem refof_any (l : List G.Rg) (hn : l.length ≤ 5000) (A : Option Addr) (c : Nat) (w : World) (hr : Row w w.heap.size A (pv l)) :
    Calls Tryd.prog 40 #[.slice A l.length c] w fun e w' => ∃ v, e = .returned (.tuple #[v, .int .i64 ((G.ofR l).1 : Int)]) ∧ w'.ownsRow w.heap.size 66 2 v (G.ofR l).2.length (pv (G.ofR l).2) ∧ Below w.heap.size w w' := by
  go_enter Tryd.func40, Tryd.ntmps40
  go_wp2_with fail
  go_loopw [4] (fun i wr => ∃ k q : Nat, k ≤ l.length ∧ i = .int .i64 (k : Int) ∧ Hid (∀ j (h : j < l.length), j < k → G.okR l[j]) ∧ wr = w.drewN q) (fun i _ => l.length - (intOf i).toNat)
  case atStart => exact ⟨0, 0, by omega, rfl, Lib.hid (fun j _ h => absurd h (Nat.not_lt_zero j)), rfl⟩
  case round =>
    obtain ⟨k, q, hk, rfl, HO, rfl⟩ := hrel
    by_cases hlt : k < l.length
    · obtain ⟨b, o, rfl, hbB, c1, c2⟩ := hr.pair hlt
      have hbad : Hid (¬ G.okR l[k] → G.ofR l = (2, [])) := fun h => G.ofR_bad hlt h
      have hok : Hid (G.okR l[k] → ∀ j (h : j < l.length), j < k + 1 → G.okR l[j]) := fun h j hj hjk => by
        rcases Nat.lt_or_ge j k with h' | h'
        · exact HO.out j hj h'
        · obtain rfl : j = k := by omega
          exact h
      have hdef : Hid (G.okR l[k] ↔ 0 ≤ l[k].1 ∧ l[k].1 ≤ l[k].2 ∧ l[k].2 ≤ 1099511627776) := Iff.rfl
      generalize G.okR l[k] = P at hbad hok hdef
      generalize l[k].1 = x at c1 hdef
      generalize l[k].2 = y at c2 hdef
      by_cases h1 : x < 0
      · have HB : Hid (G.ofR l = (2, [])) := hbad.out (fun h => by have := (hdef.out.1 h).1; omega)
        go_wp2_with fail
        go_quiet (fail)
        go_wp2_with fail
        go_ret2
        exact ⟨_, by rw [HB.out]; rfl, by rw [HB.out]; exact World.ownsRow_nil _ _ _ _, below_drewN2 (below_drewN2 (Below.refl _ _) _) _⟩
      · by_cases h2 : y < x
        · have HB : Hid (G.ofR l = (2, [])) := hbad.out (fun h => by have := (hdef.out.1 h).2.1; omega)
          have h1 : 0 ≤ x := by omega
          go_wp2_with fail
          go_quiet (fail)
          go_wp2_with fail
          go_ret2
          exact ⟨_, by rw [HB.out]; rfl, by rw [HB.out]; exact World.ownsRow_nil _ _ _ _, below_drewN2 (below_drewN2 (Below.refl _ _) _) _⟩
        · have h1 : 0 ≤ x := by omega
          have h2 : x ≤ y := by omega
          by_cases h3 : 1099511627776 < y
          · have HB : Hid (G.ofR l = (2, [])) := hbad.out (fun h => by have := (hdef.out.1 h).2.2; omega)
            go_wp2_with fail
            go_quiet (fail)
            go_wp2_with fail
            go_ret2
            exact ⟨_, by rw [HB.out]; rfl, by rw [HB.out]; exact World.ownsRow_nil _ _ _ _, below_drewN2 (below_drewN2 (Below.refl _ _) _) _⟩
          · have h3 : y ≤ 1099511627776 := by omega
            have HO2 := Lib.hid (hok.out (hdef.out.2 ⟨h1, h2, h3⟩))
            go_wp2_with fail
            go_quiet (fail)
            go_wp2_with fail
            go_roundw
            case rel => exact ⟨k + 1, _, by omega, by go_num, HO2, rfl⟩
            case measure => simp [intOf]; omega
    · obtain rfl : k = l.length := by omega
      have hall : Hid (∀ r ∈ l, G.okR r) := fun r hr => by
        obtain ⟨j, hj, rfl⟩ := List.getElem_of_mem hr
        exact HO.out j hj hj
      have HT : Hid (∀ W, (∃ q, W = w.drewN q) → Calls Tryd.prog 44 #[.slice A l.length c] W fun e w' => ∃ v, e = .returned v ∧ w'.ownsRow w.heap.size 66 2 v (G.tidy l).length (pv (G.tidy l)) ∧ Below w.heap.size w w') := by
        rintro W ⟨q', rfl⟩
        refine (tidy_any l hn A c (w.drewN q') hr).mono ?_
        rintro e w' ⟨v, he, h1, h2⟩
        exact ⟨v, he, h1, (below_drewN2 (Below.refl _ w) q').trans h2⟩
      have hlen := G.tidy_len l
      by_cases hl : (G.tidy l).length ≤ 1024
      · have HR : Hid (G.ofR l = (0, G.tidy l)) := G.ofR_ok hall.out hl
        generalize G.tidy l = T at HT hlen hl HR
        go_wp2_with (go_at_call 44; refine (HT.out _ ⟨_, rfl⟩).mono ?_; rintro e w' ⟨v, rfl, own1, hb1⟩; obtain ⟨A1, q1, rfl, _⟩ := own_form own1)
        go_ret2
        exact ⟨_, by rw [HR.out]; rfl, by rw [HR.out]; exact own1, hb1⟩
      · have HR : Hid (G.ofR l = (9, [])) := G.ofR_limit hall.out hl
        have hl : 1024 < (G.tidy l).length := by omega
        generalize G.tidy l = T at HT hlen hl
        go_wp2_with (go_at_call 44; refine (HT.out _ ⟨_, rfl⟩).mono ?_; rintro e w' ⟨v, rfl, own1, hb1⟩; obtain ⟨A1, q1, rfl, _⟩ := own_form own1)
        go_ret2
        exact ⟨_, by rw [HR.out]; rfl, by rw [HR.out]; exact World.ownsRow_nil _ _ _ _, hb1⟩
end Go.Proofs.YtgjoldjfeobjgaaDoor
