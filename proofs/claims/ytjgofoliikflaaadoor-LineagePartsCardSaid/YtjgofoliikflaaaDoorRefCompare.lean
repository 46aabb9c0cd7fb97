/-
  The reference's Compare, and Common of what is no name.
-/
import Derived.Test.YtjgofoliikflaaaDoorCompare
namespace Go.Proofs.YtjgofoliikflaaaDoor
open Go.RowKit

theorem refcommon_no {n a : ByteArray} (hn : n.size ≤ 1000) (ha : a.size ≤ 1000) (h : L.valid n.data.toList = false ∨ L.valid a.data.toList = false) (w : World) :
    Calls Tryd.prog 25 #[.string n, .string a] w fun e w' => e = .returned (.string ⟨#[]⟩) ∧ Below w.heap.size w w' := by
  cases h1 : L.bad n.data.toList with
  | some x =>
    have H1 := Lib.hid (rp_bad hn h1)
    have t1 := (bad_ne h1).1
    clear h1 h
    cases h2 : L.bad a.data.toList with
    | some y =>
      have H2 := Lib.hid (rp_bad ha h2)
      clear h2
      go_enter Tryd.func25, Tryd.ntmps25
      go_wp2_with fail
      refine (H1.out _).mono ?_
      rintro e w1 ⟨rfl, b1⟩
      go_wp2_with fail
      refine (H2.out _).mono ?_
      rintro e w2 ⟨rfl, b2⟩
      go_wp2_with fail
      go_ret
      exact ⟨rfl, b1.trans (b2.mono b1.size)⟩
    | none =>
      have H2 := Lib.hid (rp_ok ha h2 rfl)
      clear h2
      go_enter Tryd.func25, Tryd.ntmps25
      go_wp2_with fail
      refine (H1.out _).mono ?_
      rintro e w1 ⟨rfl, b1⟩
      go_wp2_with fail
      refine (H2.out _).mono ?_
      rintro e w2 ⟨A2, c2, rfl, r2, k2, b2⟩
      go_wp2_with fail
      go_ret
      exact ⟨rfl, b1.trans (b2.mono b1.size)⟩
  | none =>
    have H1 := Lib.hid (rp_ok hn h1 rfl)
    cases h2 : L.bad a.data.toList with
    | some y =>
      have H2 := Lib.hid (rp_bad ha h2)
      have t2 := (bad_ne h2).1
      clear h1 h2 h
      go_enter Tryd.func25, Tryd.ntmps25
      go_wp2_with fail
      refine (H1.out _).mono ?_
      rintro e w1 ⟨A1, c1, rfl, r1, k1, b1⟩
      go_wp2_with fail
      refine (H2.out _).mono ?_
      rintro e w2 ⟨rfl, b2⟩
      go_wp2_with fail
      go_ret
      exact ⟨rfl, b1.trans (b2.mono b1.size)⟩
    | none =>
      simp [L.valid, h1, h2] at h

theorem cmpL_self : ∀ x, L.cmpL x x = 0
  | [] => rfl
  | a :: x => by unfold L.cmpL; rw [if_neg (by omega), if_neg (by omega), cmpL_self x]
theorem valid_none {l : List UInt8} (h : L.bad l = none) : L.valid l = true := by simp [L.valid, h]
theorem valid_some {l : List UInt8} {x : L.Part} (h : L.bad l = some x) : L.valid l = false := by simp [L.valid, h]

set_option maxHeartbeats 1600000 in
theorem refcompare_ok {n a : ByteArray} (hn : n.size ≤ 1000) (ha : a.size ≤ 1000) {x y : List Nat} (h1 : L.bad n.data.toList = none) (o1 : L.ords n.data.toList = x) (h2 : L.bad a.data.toList = none) (o2 : L.ords a.data.toList = y)
    (lx : x.length ≤ 100) (ly : y.length ≤ 100) (w : World) :
    Calls Tryd.prog 27 #[.string n, .string a] w fun e w' => e = .returned (.int .i64 (L.cmpL x y)) ∧ Below w.heap.size w w' := by
  have H1 := Lib.hid (rp_ok hn h1 o1)
  have H2 := Lib.hid (rp_ok ha h2 o2)
  clear h1 h2 o1 o2
  go_enter Tryd.func27, Tryd.ntmps27
  go_wp2_with fail
  refine (H1.out _).mono ?_
  rintro e w1 ⟨A1, c1, rfl, r1, k1, b1⟩
  go_wp2_with fail
  refine (H2.out _).mono ?_
  rintro e w2 ⟨A2, c2, rfl, r2, k2, b2⟩
  have r1' := r1.belowH b2 (Nat.le_refl _)
  have hb := b1.trans (b2.mono b1.size)
  clear r1 b1 b2
  go_wp2_with fail
  go_loopw [11] (fun i wr => ∃ k q : Nat, k ≤ x.length ∧ k ≤ y.length ∧ i = .int .i64 (k : Int) ∧ x.take k = y.take k ∧ wr = w2.drewN q) (fun i _ => y.length - (intOf i).toNat)
  case atStart => exact ⟨0, 0, by omega, by omega, rfl, rfl, rfl⟩
  case round =>
    obtain ⟨k, q, hkx, hky, rfl, ht, rfl⟩ := hrel
    have HT := Lib.hid ht
    clear ht
    by_cases hstop : k < x.length ∧ k < y.length
    · obtain ⟨hltx, hlty⟩ := hstop
      obtain ⟨bb1, oo1, bb2, oo2, rfl, rfl, cc1, cc2⟩ := two_cells r1' r2 hltx hlty
      obtain ⟨u, hu⟩ : ∃ u, x[k] = u := ⟨_, rfl⟩
      obtain ⟨v, hv⟩ : ∃ v, y[k] = v := ⟨_, rfl⟩
      rw [hu] at cc1
      rw [hv] at cc2
      have HU := Lib.hid hu
      have HV := Lib.hid hv
      clear hu hv
      by_cases c1' : u < v
      · have HE : Hid (L.cmpL x y = -1) := L.cmpL_lt HT.out hltx hlty (by rw [HU.out, HV.out]; exact c1')
        go_wp2_with fail
        go_quiet (fail)
        go_wp2_with fail
        go_ret
        exact ⟨by rw [HE.out]; rfl, below_drewN2 (below_drewN2 hb _) _⟩
      · by_cases c2' : v < u
        · have HE : Hid (L.cmpL x y = 1) := L.cmpL_gt HT.out hltx hlty (by rw [HU.out, HV.out]; exact c2')
          go_wp2_with fail
          go_quiet (fail)
          go_wp2_with fail
          go_quiet (fail)
          go_wp2_with fail
          go_ret
          exact ⟨by rw [HE.out]; rfl, below_drewN2 (below_drewN2 (below_drewN2 hb _) _) _⟩
        · have HE : Hid (u = v) := (by omega : u = v)
          go_wp2_with fail
          go_quiet (fail)
          go_wp2_with fail
          go_quiet (fail)
          go_wp2_with fail
          go_roundw
          case rel => exact ⟨k + 1, _, by omega, by omega, by go_num, L.take_same hltx hlty (by rw [HU.out, HV.out]; exact HE.out.symm) HT.out, rfl⟩
          case measure => simp [intOf]; omega
    · by_cases hltx : k < x.length
      · have hky' : k = y.length := by omega
        have HE : Hid (L.cmpL x y = 1) := L.cmpL_long HT.out hltx hky'
        have hge : y.length ≤ k := by omega
        have hgt : y.length < x.length := by omega
        clear hky' hstop
        go_wp2_with fail
        go_ret
        exact ⟨by rw [HE.out]; rfl, below_drewN2 hb _⟩
      · have hkx' : k = x.length := by omega
        have hge : x.length ≤ k := by omega
        by_cases hlty : x.length < y.length
        · have HE : Hid (L.cmpL x y = -1) := L.cmpL_short HT.out hkx' (by omega)
          clear hkx' hstop hltx
          go_wp2_with fail
          go_ret
          exact ⟨by rw [HE.out]; rfl, below_drewN2 hb _⟩
        · have HE : Hid (L.cmpL x y = 0) := L.cmpL_same HT.out hkx' (by omega)
          have hge2 : y.length ≤ x.length := by omega
          have hge3 : x.length ≤ y.length := by omega
          clear hkx' hstop hltx
          go_wp2_with fail
          go_ret
          exact ⟨by rw [HE.out]; rfl, below_drewN2 hb _⟩

theorem refcompare_any (a b : ByteArray) (ha : a.size ≤ 1000) (hb : b.size ≤ 1000) (w : World) :
    Calls Tryd.prog 27 #[.string a, .string b] w fun e w' => e = .returned (.int .i64 (cmpS a.data.toList b.data.toList)) ∧ Below w.heap.size w w' := by
  cases h1 : L.bad a.data.toList with
  | none =>
    cases h2 : L.bad b.data.toList with
    | none =>
      have e : cmpS a.data.toList b.data.toList = L.cmpL (L.ords a.data.toList) (L.ords b.data.toList) := by
        by_cases heq : a.data.toList = b.data.toList
        · rw [cmpS, if_pos heq, heq, cmpL_self]
        · rw [cmpS, if_neg heq, valid_none h1, valid_none h2, ordsOf_ok h1, ordsOf_ok h2]; rfl
      rw [e]
      have l1 := ordsOf_length a.data.toList
      have l2 := ordsOf_length b.data.toList
      rw [ordsOf_ok h1] at l1
      rw [ordsOf_ok h2] at l2
      exact refcompare_ok ha hb h1 rfl h2 rfl (by omega) (by omega) w
    | some y =>
      have H1 := Lib.hid (rp_ok ha h1 rfl)
      have H2 := Lib.hid (rp_bad hb h2)
      obtain ⟨t2, t3⟩ := bad_ne h2
      have e : cmpS a.data.toList b.data.toList = -1 := by
        rw [cmpS, if_neg (by intro h; rw [h, h2] at h1; cases h1), valid_none h1, valid_some h2]; rfl
      rw [e]
      clear e h1 h2
      go_enter Tryd.func27, Tryd.ntmps27
      go_wp2_with fail
      refine (H1.out _).mono ?_
      rintro e w1 ⟨A1, c1, rfl, r1, k1, b1⟩
      go_wp2_with fail
      refine (H2.out _).mono ?_
      rintro e w2 ⟨rfl, b2⟩
      go_wp2_with fail
      go_ret
      exact ⟨rfl, b1.trans (b2.mono b1.size)⟩
  | some x =>
    have H1 := Lib.hid (rp_bad ha h1)
    obtain ⟨t1, t1'⟩ := bad_ne h1
    cases h2 : L.bad b.data.toList with
    | none =>
      have H2 := Lib.hid (rp_ok hb h2 rfl)
      have e : cmpS a.data.toList b.data.toList = 1 := by
        rw [cmpS, if_neg (by intro h; rw [h, h2] at h1; cases h1), valid_some h1, valid_none h2]; rfl
      rw [e]
      clear e h1 h2
      go_enter Tryd.func27, Tryd.ntmps27
      go_wp2_with fail
      refine (H1.out _).mono ?_
      rintro e w1 ⟨rfl, b1⟩
      go_wp2_with fail
      refine (H2.out _).mono ?_
      rintro e w2 ⟨A2, c2, rfl, r2, k2, b2⟩
      go_wp2_with fail
      go_ret
      exact ⟨rfl, b1.trans (b2.mono b1.size)⟩
    | some y =>
      have H2 := Lib.hid (rp_bad hb h2)
      obtain ⟨t2, t2'⟩ := bad_ne h2
      have v1 := valid_some h1
      have v2 := valid_some h2
      by_cases hlt : a.data.toList < b.data.toList
      · have e : cmpS a.data.toList b.data.toList = -1 := by
          rw [cmpS, if_neg (by intro h; rw [h] at hlt; exact List.lt_irrefl _ hlt), v1, v2]; simp [cmpB, hlt]
        rw [e]
        have q1 : Op.bytesLess a.toList b.toList = true := by rw [bless]; simpa using hlt
        clear e h1 h2 v1 v2 hlt
        go_enter Tryd.func27, Tryd.ntmps27
        go_wp2_with fail
        refine (H1.out _).mono ?_
        rintro e w1 ⟨rfl, b1⟩
        go_wp2_with fail
        refine (H2.out _).mono ?_
        rintro e w2 ⟨rfl, b2⟩
        go_wp2_with fail
        go_ret
        exact ⟨rfl, b1.trans (b2.mono b1.size)⟩
      · have q1 : Op.bytesLess a.toList b.toList = false := by rw [bless]; simpa using hlt
        by_cases heq : a.data.toList = b.data.toList
        · have e : cmpS a.data.toList b.data.toList = 0 := by rw [cmpS, if_pos heq]
          rw [e]
          have q2 : (a.toList == b.toList) = true := by rw [Lib.toList_data, Lib.toList_data]; simpa using heq
          clear e h1 h2 v1 v2 hlt heq
          go_enter Tryd.func27, Tryd.ntmps27
          go_wp2_with fail
          refine (H1.out _).mono ?_
          rintro e w1 ⟨rfl, b1⟩
          go_wp2_with fail
          refine (H2.out _).mono ?_
          rintro e w2 ⟨rfl, b2⟩
          go_wp2_with fail
          go_ret
          exact ⟨rfl, b1.trans (b2.mono b1.size)⟩
        · have e : cmpS a.data.toList b.data.toList = 1 := by
            rw [cmpS, if_neg heq, v1, v2]; simp [cmpB, hlt, heq]
          rw [e]
          have q2 : (a.toList == b.toList) = false := by rw [Lib.toList_data, Lib.toList_data]; simpa using heq
          clear e h1 h2 v1 v2 hlt heq
          go_enter Tryd.func27, Tryd.ntmps27
          go_wp2_with fail
          refine (H1.out _).mono ?_
          rintro e w1 ⟨rfl, b1⟩
          go_wp2_with fail
          refine (H2.out _).mono ?_
          rintro e w2 ⟨rfl, b2⟩
          go_wp2_with fail
          go_ret
          exact ⟨rfl, b1.trans (b2.mono b1.size)⟩
end Go.Proofs.YtjgofoliikflaaaDoor
