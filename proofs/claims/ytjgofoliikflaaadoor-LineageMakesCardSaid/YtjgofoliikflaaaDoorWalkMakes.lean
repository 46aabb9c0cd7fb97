/-
  The walk of LineageMakes.
-/
import Derived.Test.YtjgofoliikflaaaDoorSame
namespace Go.Proofs.YtjgofoliikflaaaDoor
open Go.RowKit

theorem ints_toNat {xs : List Int} (h : ∀ x ∈ xs, isO x = true) : ints xs = nums (xs.map Int.toNat) := by
  unfold ints nums
  rw [List.map_map]
  apply List.map_congr_left
  intro x hx
  have := isO_iff.1 (h x hx)
  show Value.int .i64 x = Value.int .i64 ((x.toNat : Nat) : Int)
  rw [Int.toNat_of_nonneg (by omega)]
set_option maxRecDepth 100000 in
set_option maxHeartbeats 4000000 in
theorem walkMakes {xs : List Int} {A : Option Addr} {c : Nat} {w : World} (hr : Row w w.heap.size A (ints xs)) (hc : xs.length ≤ c) (hm : c ≤ maxLen) (he : Env w) :
    Calls Tryd.prog 3 #[.slice A xs.length c] w fun e w' => e = .returned (.bool true) ∧ Below w.heap.size w w' := by
  have HK := Lib.hid (known_of he)
  have bb := Below.refl w.heap.size w
  unfold maxLen at hm
  by_cases h20 : 20 < xs.length
  · have HM : ∀ A : Option Addr, Hid (∀ w : World, Calls Tryd.prog 12 #[.slice A 20 c] w fun e w' => e = .returned (.tuple #[.string ⟨#[]⟩, .int .i64 9]) ∧ w = w') := fun A w => by
      have := make_limit (xs := List.replicate 20 0) (by simp) (by simp [maxLen]) A c w
      simpa using this
    have HR : ∀ A : Option Addr, Hid (∀ w : World, Calls Tryd.prog 13 #[.slice A 20 c] w fun e w' => e = .returned (.tuple #[.string ⟨#[]⟩, .int .i64 9]) ∧ w = w') := fun A w => by
      have := refmake_limit (xs := List.replicate 20 0) (by simp) (by simp [maxLen]) A c w
      simpa using this
    obtain ⟨b, o, rfl, _, _⟩ := hr.at_ (k := 0) (by rw [ints_len]; omega)
    generalize xs.length = n at *
    clear hr he
    go_enter Tryd.func3, Tryd.ntmps3
    go_wp2_with fail
    refine ((HM _).out _).mono ?_
    rintro e w' ⟨rfl, rfl⟩
    go_wp2_with fail
    refine ((HR _).out _).mono ?_
    rintro e w' ⟨rfl, rfl⟩
    go_wp2_with fail; (refine (HK.out _ bb).mono ?_; rintro e w' ⟨rfl, hb⟩; replace bb := bb.trans (hb.mono bb.size); clear hb)
    go_wp2_with fail
    go_ret
    exact ⟨rfl, bb⟩
  · by_cases h8 : 8 < xs.length
    · have HM := Lib.hid (make_limit h8 (by simp only [maxLen]; omega) A c)
      have HR := Lib.hid (refmake_limit h8 (by simp only [maxLen]; omega) A c)
      generalize xs.length = n at *
      clear hr he
      go_enter Tryd.func3, Tryd.ntmps3
      go_wp2_with fail; (refine (HM.out _).mono ?_; rintro e w' ⟨rfl, rfl⟩)
      go_wp2_with fail; (refine (HR.out _).mono ?_; rintro e w' ⟨rfl, rfl⟩)
      go_wp2_with fail; (refine (HK.out _ bb).mono ?_; rintro e w' ⟨rfl, hb⟩; replace bb := bb.trans (hb.mono bb.size); clear hb)
      go_wp2_with fail
      go_ret
      exact ⟨rfl, bb⟩
    · by_cases ho : ∀ x ∈ xs, isO x = true
      · have HM : Hid (Calls Tryd.prog 12 #[.slice A xs.length c] w fun e w' => e = .returned (.tuple #[.string (nm (xs.map Int.toNat)), .int .i64 0]) ∧ Below w.heap.size w w') := by
          have := make_any (c := c) (by omega) hr (Nat.le_refl _) he
          rw [madeV_ok ho] at this; exact this
        have HR : Hid (∀ w' : World, Below w.heap.size w w' → Calls Tryd.prog 13 #[.slice A xs.length c] w' fun e w'' => e = .returned (.tuple #[.string (nm (xs.map Int.toNat)), .int .i64 0]) ∧ Below w'.heap.size w' w'') := fun w' hb => by
          have := refmake_any (c := c) (by omega) (hr.below hb) hb.size
          rw [madeV_ok ho] at this; exact this
        have hl := ok_of (by omega) ho
        rw [ints_toNat ho] at hr
        obtain ⟨l, hl'⟩ : ∃ l, xs.map Int.toNat = l := ⟨_, rfl⟩
        have hn : l.length = xs.length := by rw [← hl']; simp
        rw [hl'] at HM HR hl hr
        have hs := ok_len hl
        have h3 : L.bad (nm l).data.toList = none := (L.bad_text hl).1
        have P1 := Lib.hid (parse_ok (s := nm l) (by simp only [maxLen]; omega) h3)
        have V1 := Lib.hid (valid_of (s := nm l) (by omega) (nm_valid hl))
        have O1 := Lib.hid (ords_of (s := nm l) (l := l) (by omega) (by rw [nm_data, ordsOf_ok (L.bad_text hl).1, (L.bad_text hl).2]))
        have HS : Hid (∀ (w' : World) (A' : Option Addr) (c' : Nat), Below w.heap.size w w' → Row w' w'.heap.size A' (nums l) → Calls Tryd.prog 16 #[.slice A' l.length c', .slice A xs.length c] w' fun e w'' => e = .returned (.bool true) ∧ Below w'.heap.size w' w'') := fun w' A' c' hb h' =>
          same_at h' (hr.below hb) rfl hn.symm (by omega)
        generalize nm l = N at *
        generalize xs.length = n at *
        clear hl' ho hl h3 he hr hn hs
        go_enter Tryd.func3, Tryd.ntmps3
        go_wp2_with fail
        refine HM.out.mono ?_
        rintro e w1 ⟨rfl, b1⟩
        replace bb := bb.trans (b1.mono bb.size)
        clear b1
        go_wp2_with fail; (refine (HR.out _ bb).mono ?_; rintro e w' ⟨rfl, hb⟩; replace bb := bb.trans (hb.mono bb.size); clear hb)
        go_wp2_with fail; (refine (HK.out _ bb).mono ?_; rintro e w' ⟨rfl, hb⟩; replace bb := bb.trans (hb.mono bb.size); clear hb)
        go_wp2_with fail; (refine (P1.out _).mono ?_; rintro e w' ⟨rfl, hb⟩; replace bb := bb.trans (hb.mono bb.size); clear hb)
        go_wp2_with fail
        refine (O1.out _).mono ?_
        rintro e w2 ⟨A2, c2, rfl, r2, k2, b2⟩
        replace bb := bb.trans (b2.mono bb.size)
        clear b2
        go_wp2_with fail
        refine (HS.out _ _ _ bb r2).mono ?_
        rintro e w3 ⟨rfl, b3⟩
        replace bb := bb.trans (b3.mono bb.size)
        clear b3 r2
        go_wp2_with fail; (refine (V1.out _).mono ?_; rintro e w' ⟨rfl, hb⟩; replace bb := bb.trans (hb.mono bb.size); clear hb)
        go_wp2_with fail
        go_ret
        exact ⟨rfl, bb⟩
      · have hall : xs.all isO = false := by
          cases e : xs.all isO with
          | false => rfl
          | true => exact absurd (List.all_eq_true.1 e) ho
        have hV : madeV xs = #[.string ⟨#[]⟩, .int .i64 2] := by rw [madeV, hall]; rfl
        have HM : Hid (Calls Tryd.prog 12 #[.slice A xs.length c] w fun e w' => e = .returned (.tuple #[.string ⟨#[]⟩, .int .i64 2]) ∧ Below w.heap.size w w') := by
          have := make_any (c := c) (by omega) hr (Nat.le_refl _) he
          rw [hV] at this; exact this
        have HR : Hid (∀ w' : World, Below w.heap.size w w' → Calls Tryd.prog 13 #[.slice A xs.length c] w' fun e w'' => e = .returned (.tuple #[.string ⟨#[]⟩, .int .i64 2]) ∧ Below w'.heap.size w' w'') := fun w' hb => by
          have := refmake_any (c := c) (by omega) (hr.below hb) hb.size
          rw [hV] at this; exact this
        generalize xs.length = n at *
        clear hall hV ho he hr
        go_enter Tryd.func3, Tryd.ntmps3
        go_wp2_with fail
        refine HM.out.mono ?_
        rintro e w1 ⟨rfl, b1⟩
        replace bb := bb.trans (b1.mono bb.size)
        clear b1
        go_wp2_with fail; (refine (HR.out _ bb).mono ?_; rintro e w' ⟨rfl, hb⟩; replace bb := bb.trans (hb.mono bb.size); clear hb)
        go_wp2_with fail; (refine (HK.out _ bb).mono ?_; rintro e w' ⟨rfl, hb⟩; replace bb := bb.trans (hb.mono bb.size); clear hb)
        go_wp2_with fail
        go_ret
        exact ⟨rfl, bb⟩
end Go.Proofs.YtjgofoliikflaaaDoor
