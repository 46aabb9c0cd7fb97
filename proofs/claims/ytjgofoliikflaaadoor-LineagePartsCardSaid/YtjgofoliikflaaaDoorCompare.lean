/-
  slices.Compare, cmp.Compare at names, lineage.Compare.
-/
import Derived.Test.YtjgofoliikflaaaDoorWithin
import Derived.Test.YtjgofoliikflaaaDoorRefWithin
import Derived.Sort.Walk0
namespace Go.Proofs.YtjgofoliikflaaaDoor
open Go.RowKit

/-- The order of strings. -/
def cmpB (a b : List UInt8) : Int := if a < b then -1 else if a = b then 0 else 1
/-- The order of names, and of strings that are none. -/
def cmpS (a b : List UInt8) : Int :=
  if a = b then 0 else if L.valid a then (if L.valid b then L.cmpL (ordsOf a) (ordsOf b) else -1) else if L.valid b then 1 else cmpB a b

theorem bless (a b : ByteArray) : Op.bytesLess a.toList b.toList = decide (a.data.toList < b.data.toList) := by
  rw [bytesLess_eq, Lib.toList_data, Lib.toList_data]
theorem cmpName_any (a b : ByteArray) (w : World) :
    Calls Tryd.prog 50 #[.string a, .string b] w fun e w' => e = .returned (.int .i64 (cmpB a.data.toList b.data.toList)) ∧ w = w' := by
  by_cases h1 : a.data.toList < b.data.toList
  · have e : cmpB a.data.toList b.data.toList = -1 := by simp [cmpB, h1]
    rw [e]
    have t1 : Op.bytesLess a.toList b.toList = true := by rw [bless]; simpa using h1
    clear e h1
    go_enter Tryd.func50, Tryd.ntmps50
    go_wp2
    go_ret
    exact ⟨rfl, rfl⟩
  · have t1 : Op.bytesLess a.toList b.toList = false := by rw [bless]; simpa using h1
    by_cases h2 : a.data.toList = b.data.toList
    · have e : cmpB a.data.toList b.data.toList = 0 := by rw [cmpB, if_neg h1, if_pos h2]
      rw [e]
      have t2 : (a.toList == b.toList) = true := by rw [Lib.toList_data, Lib.toList_data]; simpa using h2
      clear e h1 h2
      go_enter Tryd.func50, Tryd.ntmps50
      go_wp2
      go_ret
      exact ⟨rfl, rfl⟩
    · have e : cmpB a.data.toList b.data.toList = 1 := by rw [cmpB, if_neg h1, if_neg h2]
      rw [e]
      have t2 : (a.toList == b.toList) = false := by rw [Lib.toList_data, Lib.toList_data]; simpa using h2
      clear e h1 h2
      go_enter Tryd.func50, Tryd.ntmps50
      go_wp2
      go_ret
      exact ⟨rfl, rfl⟩

set_option maxHeartbeats 800000 in
theorem slicesCompare_any {w : World} {B1 B2 : Nat} {A1 A2 : Option Addr} {x y : List Nat} {c1 c2 : Nat} (h1 : Row w B1 A1 (nums x)) (h2 : Row w B2 A2 (nums y)) (lx : x.length ≤ 100) (ly : y.length ≤ 100) :
    Calls Tryd.prog 49 #[.slice A1 x.length c1, .slice A2 y.length c2] w fun e w' => e = .returned (.int .i64 (L.cmpL x y)) ∧ w = w' := by
  go_enter Tryd.func49, Tryd.ntmps49
  go_wp2_with fail
  go_loop [11] (fun i => ∃ k : Nat, k ≤ x.length ∧ k ≤ y.length ∧ i = .int .i64 (k : Int) ∧ x.take k = y.take k) (fun i => x.length - (intOf i).toNat)
  case atStart => exact ⟨0, by omega, by omega, rfl, rfl⟩
  case round =>
    obtain ⟨k, hkx, hky, rfl, ht⟩ := hrel
    have HT := Lib.hid ht
    clear ht
    by_cases hltx : k < x.length
    · by_cases hlty : k < y.length
      · obtain ⟨bb1, oo1, bb2, oo2, rfl, rfl, cc1, cc2⟩ := two_cells h1 h2 hltx hlty
        obtain ⟨u, hu⟩ : ∃ u, x[k] = u := ⟨_, rfl⟩
        obtain ⟨v, hv⟩ : ∃ v, y[k] = v := ⟨_, rfl⟩
        rw [hu] at cc1
        rw [hv] at cc2
        have HU := Lib.hid hu
        have HV := Lib.hid hv
        clear hu hv
        by_cases c1' : u < v
        · have HE : Hid (L.cmpL x y = -1) := L.cmpL_lt HT.out hltx hlty (by rw [HU.out, HV.out]; exact c1')
          have e : Lib.compareInt (u : Int) (v : Int) = -1 := by unfold Lib.compareInt; rw [if_pos (by omega)]
          have HC : Hid (∀ w, Calls Tryd.prog 69 #[.int .i64 (u : Int), .int .i64 (v : Int)] w fun e w' => e = .returned (.int .i64 (-1)) ∧ w' = w) := fun w => by
            have := Tryd.cmp_Compare_int (u : Int) (v : Int) w
            rw [e] at this; exact this
          clear e
          go_wp2_with (go_at_call 69; refine (HC.out _).mono ?_; rintro e w' ⟨rfl, rfl⟩)
          go_ret
          exact ⟨by rw [HE.out]; rfl, rfl⟩
        · by_cases c2' : v < u
          · have HE : Hid (L.cmpL x y = 1) := L.cmpL_gt HT.out hltx hlty (by rw [HU.out, HV.out]; exact c2')
            have e : Lib.compareInt (u : Int) (v : Int) = 1 := by unfold Lib.compareInt; rw [if_neg (by omega), if_pos (by omega)]
            have HC : Hid (∀ w, Calls Tryd.prog 69 #[.int .i64 (u : Int), .int .i64 (v : Int)] w fun e w' => e = .returned (.int .i64 1) ∧ w' = w) := fun w => by
              have := Tryd.cmp_Compare_int (u : Int) (v : Int) w
              rw [e] at this; exact this
            clear e
            go_wp2_with (go_at_call 69; refine (HC.out _).mono ?_; rintro e w' ⟨rfl, rfl⟩)
            go_ret
            exact ⟨by rw [HE.out]; rfl, rfl⟩
          · have huv : u = v := by omega
            have HE := Lib.hid huv
            have e : Lib.compareInt (u : Int) (v : Int) = 0 := by unfold Lib.compareInt; rw [if_neg (by omega), if_neg (by omega)]
            have HC : Hid (∀ w, Calls Tryd.prog 69 #[.int .i64 (u : Int), .int .i64 (v : Int)] w fun e w' => e = .returned (.int .i64 0) ∧ w' = w) := fun w => by
              have := Tryd.cmp_Compare_int (u : Int) (v : Int) w
              rw [e] at this; exact this
            clear e huv
            go_wp2_with (go_at_call 69; refine (HC.out _).mono ?_; rintro e w' ⟨rfl, rfl⟩)
            go_round
            case rel => exact ⟨k + 1, by omega, by omega, by go_num, L.take_same hltx hlty (by rw [HU.out, HV.out]; exact HE.out.symm) HT.out⟩
            case measure => simp [intOf]; omega
      · obtain ⟨bb1, oo1, rfl, _, cc⟩ := h1.at_ (k := k) (by rw [nums_len]; exact hltx)
        have cc1 : w.cell? ⟨bb1, oo1 + k, none⟩ = some (.int .i64 (x[k] : Int)) := cc k _ (nums_at x k hltx)
        clear cc
        obtain ⟨u, hu⟩ : ∃ u, x[k] = u := ⟨_, rfl⟩
        rw [hu] at cc1
        clear hu
        have hky' : k = y.length := by omega
        have HE : Hid (L.cmpL x y = 1) := L.cmpL_long HT.out hltx hky'
        have hge : y.length ≤ k := by omega
        clear hky' hlty
        go_wp2_with fail
        go_ret
        exact ⟨by rw [HE.out]; rfl, rfl⟩
    · have hkx' : k = x.length := by omega
      by_cases hlty : x.length < y.length
      · have HE : Hid (L.cmpL x y = -1) := L.cmpL_short HT.out hkx' (by omega)
        have hge : x.length ≤ k := by omega
        clear hkx' hltx
        go_wp2_with fail
        go_ret
        exact ⟨by rw [HE.out]; rfl, rfl⟩
      · have HE : Hid (L.cmpL x y = 0) := L.cmpL_same HT.out hkx' (by omega)
        have hge : x.length ≤ k := by omega
        clear hkx' hltx
        go_wp2_with fail
        go_ret
        exact ⟨by rw [HE.out]; rfl, rfl⟩

theorem compare_any (a b : ByteArray) (ha : a.size ≤ 1000) (hb : b.size ≤ 1000) (w : World) :
    Calls Tryd.prog 26 #[.string a, .string b] w fun e w' => e = .returned (.int .i64 (cmpS a.data.toList b.data.toList)) ∧ Below w.heap.size w w' := by
  by_cases heq : a.data.toList = b.data.toList
  · have e : cmpS a.data.toList b.data.toList = 0 := by rw [cmpS, if_pos heq]
    rw [e]
    have t1 : (a.toList == b.toList) = true := by rw [Lib.toList_data, Lib.toList_data]; simpa using heq
    have t2 : a.toList = b.toList := by rw [Lib.toList_data, Lib.toList_data]; exact heq
    have T2 := Lib.hid t2
    clear e heq t2
    go_enter Tryd.func26, Tryd.ntmps26
    go_wp2_with fail
    go_ret
    exact ⟨rfl, Below.refl _ _⟩
  · have t1 : (a.toList == b.toList) = false := by rw [Lib.toList_data, Lib.toList_data]; simpa using heq
    cases hva : L.valid a.data.toList with
    | true =>
      have HA := Lib.hid (valid_of ha hva)
      cases hvb : L.valid b.data.toList with
      | true =>
        have HB := Lib.hid (valid_of hb hvb)
        have e : cmpS a.data.toList b.data.toList = L.cmpL (ordsOf a.data.toList) (ordsOf b.data.toList) := by rw [cmpS, if_neg heq, hva, hvb]; rfl
        rw [e]
        have HOA := Lib.hid (ords_of (s := a) ha rfl)
        have HOB := Lib.hid (ords_of (s := b) hb rfl)
        have l1 := ordsOf_length a.data.toList
        have l2 := ordsOf_length b.data.toList
        generalize ordsOf a.data.toList = x at HOA l1 ⊢
        generalize ordsOf b.data.toList = y at HOB l2 ⊢
        clear e heq hva hvb
        go_enter Tryd.func26, Tryd.ntmps26
        go_wp2_with fail
        refine (HA.out _).mono ?_
        rintro e w1 ⟨rfl, b1⟩
        go_wp2_with fail
        refine (HB.out _).mono ?_
        rintro e w2 ⟨rfl, b2⟩
        have b2' := b1.trans (b2.mono b1.size)
        clear b1 b2
        go_wp2_with fail
        refine (HOA.out _).mono ?_
        rintro e w3 ⟨A1, c1, rfl, r1, k1, b3⟩
        have b3' := b2'.trans (b3.mono b2'.size)
        clear b2' b3
        go_wp2_with fail
        refine (HOB.out _).mono ?_
        rintro e w4 ⟨A2, c2, rfl, r2, k2, b4⟩
        have b4' := b3'.trans (b4.mono b3'.size)
        have r1' := r1.belowH b4 (Nat.le_refl _)
        clear b3' b4 r1
        go_wp2_with fail
        refine (slicesCompare_any r1' r2 (by omega) (by omega)).mono ?_
        rintro e w5 ⟨rfl, rfl⟩
        go_wp2_with fail
        go_ret
        exact ⟨rfl, b4'⟩
      | false =>
        have HB := Lib.hid (valid_of hb hvb)
        have e : cmpS a.data.toList b.data.toList = -1 := by rw [cmpS, if_neg heq, hva, hvb]; rfl
        rw [e]
        clear e heq hva hvb
        go_enter Tryd.func26, Tryd.ntmps26
        go_wp2_with fail
        refine (HA.out _).mono ?_
        rintro e w1 ⟨rfl, b1⟩
        go_wp2_with fail
        refine (HB.out _).mono ?_
        rintro e w2 ⟨rfl, b2⟩
        go_wp2_with fail
        go_ret
        exact ⟨rfl, b1.trans (b2.mono b1.size)⟩
    | false =>
      have HA := Lib.hid (valid_of ha hva)
      cases hvb : L.valid b.data.toList with
      | true =>
        have HB := Lib.hid (valid_of hb hvb)
        have e : cmpS a.data.toList b.data.toList = 1 := by rw [cmpS, if_neg heq, hva, hvb]; rfl
        rw [e]
        clear e heq hva hvb
        go_enter Tryd.func26, Tryd.ntmps26
        go_wp2_with fail
        refine (HA.out _).mono ?_
        rintro e w1 ⟨rfl, b1⟩
        go_wp2_with fail
        refine (HB.out _).mono ?_
        rintro e w2 ⟨rfl, b2⟩
        go_wp2_with fail
        go_ret
        exact ⟨rfl, b1.trans (b2.mono b1.size)⟩
      | false =>
        have HB := Lib.hid (valid_of hb hvb)
        have e : cmpS a.data.toList b.data.toList = cmpB a.data.toList b.data.toList := by rw [cmpS, if_neg heq, hva, hvb]; rfl
        rw [e]
        have HC := Lib.hid (cmpName_any a b)
        generalize cmpB a.data.toList b.data.toList = r at HC ⊢
        clear e heq hva hvb
        go_enter Tryd.func26, Tryd.ntmps26
        go_wp2_with fail
        refine (HA.out _).mono ?_
        rintro e w1 ⟨rfl, b1⟩
        go_wp2_with fail
        refine (HB.out _).mono ?_
        rintro e w2 ⟨rfl, b2⟩
        go_wp2_with fail
        refine (HC.out _).mono ?_
        rintro e w3 ⟨rfl, rfl⟩
        go_wp2_with fail
        go_ret
        exact ⟨rfl, b1.trans (b2.mono b1.size)⟩
end Go.Proofs.YtjgofoliikflaaaDoor
