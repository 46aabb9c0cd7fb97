/-
  The walk of LineageCompares.
-/
import Derived.Test.YtjgofoliikflaaaDoorOrder
namespace Go.Proofs.YtjgofoliikflaaaDoor
open Go.RowKit

set_option maxRecDepth 100000 in
set_option maxHeartbeats 8000000 in
theorem walkCompares {a b c : ByteArray} (ha : a.size ≤ maxLen) (hb : b.size ≤ maxLen) (hc : c.size ≤ maxLen) (w : World) (he : Env w) :
    Calls Tryd.prog 7 #[.string a, .string b, .string c] w fun e w' => e = .returned (.bool true) ∧ Below w.heap.size w w' := by
  obtain ⟨A, hA⟩ : ∃ A, cut8 a = A := ⟨_, rfl⟩
  obtain ⟨B, hB⟩ : ∃ A, cut8 b = A := ⟨_, rfl⟩
  obtain ⟨C, hC⟩ : ∃ A, cut8 c = A := ⟨_, rfl⟩
  have s1 : A.size ≤ 1000 := by have := cut8_size a; rw [hA] at this; omega
  have s2 : B.size ≤ 1000 := by have := cut8_size b; rw [hB] at this; omega
  have s3 : C.size ≤ 1000 := by have := cut8_size c; rw [hC] at this; omega
  have H1 := Lib.hid (short_of ha hA)
  have H2 := Lib.hid (short_of hb hB)
  have H3 := Lib.hid (short_of hc hC)
  have HK := Lib.hid (known_of he)
  obtain ⟨x, hx⟩ : ∃ r, cmpS A.data.toList B.data.toList = r := ⟨_, rfl⟩
  obtain ⟨y, hy⟩ : ∃ r, cmpS B.data.toList C.data.toList = r := ⟨_, rfl⟩
  obtain ⟨z, hz⟩ : ∃ r, cmpS A.data.toList C.data.toList = r := ⟨_, rfl⟩
  obtain ⟨p, hp⟩ : ∃ r, withinB B.data.toList A.data.toList = r := ⟨_, rfl⟩
  obtain ⟨T, hT⟩ : ∃ r, commonS A.data.toList C.data.toList = r := ⟨_, rfl⟩
  have s4 : T.size ≤ 1000 := by rw [← hT]; exact commonS_size _ _
  obtain ⟨t, ht⟩ : ∃ r, withinB B.data.toList T.data.toList = r := ⟨_, rfl⟩
  obtain ⟨va, hva⟩ : ∃ r, L.valid A.data.toList = r := ⟨_, rfl⟩
  obtain ⟨vc, hvc⟩ : ∃ r, L.valid C.data.toList = r := ⟨_, rfl⟩
  have Q1 := Lib.hid (compare_of s1 s2 hx)
  have Q2 := Lib.hid (compare_of s2 s3 hy)
  have Q3 := Lib.hid (compare_of (x := -x) s2 s1 (by rw [cmpS_neg, hx]))
  have Q4 := Lib.hid (compare_of s1 s3 hz)
  have R1 := Lib.hid (refcompare_of s1 s2 hx)
  have W1 := Lib.hid (within_of s2 s1 hp)
  have W2 := Lib.hid (within_of s2 s4 ht)
  have C1 := Lib.hid (common_of s1 s3 hT)
  have V1 := Lib.hid (valid_of s1 hva)
  have V2 := Lib.hid (valid_of s3 hvc)
  have f1 : p = true → x ≤ 0 := fun h => by rw [← hx]; exact cmpS_within (hp.trans h)
  have f2 : x ≤ 0 → y ≤ 0 → z ≤ 0 := fun h1 h2 => by rw [← hx] at h1; rw [← hy] at h2; rw [← hz]; exact cmpS_trans h1 h2
  have f3 : va = true → vc = true → x ≤ 0 → y ≤ 0 → t = true := fun h1 h2 h3 h4 => by
    rw [← hx] at h3; rw [← hy] at h4; rw [← ht, ← hT]; exact cmpS_between (hva.trans h1) (hvc.trans h2) h3 h4
  have f4 : x = 0 → (A.toList == B.toList) = true := fun h => beq_of (cmpS_zero (hx.trans h))
  have f5 : x ≠ 0 → (A.toList == B.toList) = false := fun h => beq_not (fun e => h (by rw [← hx, e, cmpS_self]))
  have o1 : x = -1 ∨ x = 0 ∨ x = 1 := by rw [← hx]; exact cmpS_one _ _
  have F3 := Lib.hid f3
  clear f3
  have bb := Below.refl w.heap.size w
  clear hx hy hz hp hT ht hva hvc s1 s2 s3 s4 hA hB hC he ha hb hc
  rcases o1 with rfl | rfl | rfl
  · have g := f5 (by decide)
    clear f4 f5
    have m1 : IntKind.i64.wrap (-((-1) : Int)) = 1 := by rfl
    replace Q3 : Hid (∀ w, Calls Tryd.prog 26 #[.string B, .string A] w fun e w' => e = .returned (.int .i64 1) ∧ Below w.heap.size w w') := Q3
    by_cases hy : y ≤ 0
    · have hz := f2 (by decide) hy
      clear f2
      go_enter Tryd.func7, Tryd.ntmps7
      go_wp2_with fail; (refine (H1.out _).mono ?_; rintro e w' ⟨rfl, rfl⟩)
      go_wp2_with fail; (refine (H2.out _).mono ?_; rintro e w' ⟨rfl, rfl⟩)
      go_wp2_with fail; (refine (H3.out _).mono ?_; rintro e w' ⟨rfl, rfl⟩)
      go_wp2_with fail; (refine (Q1.out _).mono ?_; rintro e w' ⟨rfl, hb⟩; replace bb := bb.trans (hb.mono bb.size); clear hb)
      go_wp2_with fail; (refine (Q2.out _).mono ?_; rintro e w' ⟨rfl, hb⟩; replace bb := bb.trans (hb.mono bb.size); clear hb)
      go_wp2_with fail; (refine (HK.out _ bb).mono ?_; rintro e w' ⟨rfl, hb⟩; replace bb := bb.trans (hb.mono bb.size); clear hb)
      go_wp2_with fail; (refine (R1.out _).mono ?_; rintro e w' ⟨rfl, hb⟩; replace bb := bb.trans (hb.mono bb.size); clear hb)
      go_wp2_with fail; (refine (Q3.out _).mono ?_; rintro e w' ⟨rfl, hb⟩; replace bb := bb.trans (hb.mono bb.size); clear hb)
      go_wp2_with fail; (refine (Q4.out _).mono ?_; rintro e w' ⟨rfl, hb⟩; replace bb := bb.trans (hb.mono bb.size); clear hb)
      clear f1
      cases p with
      | false =>
        go_wp2_with fail; (refine (W1.out _).mono ?_; rintro e w' ⟨rfl, hb⟩; replace bb := bb.trans (hb.mono bb.size); clear hb)
        go_wp2_with fail; (refine (C1.out _).mono ?_; rintro e w' ⟨rfl, hb⟩; replace bb := bb.trans (hb.mono bb.size); clear hb)
        go_wp2_with fail; (refine (V1.out _).mono ?_; rintro e w' ⟨rfl, hb⟩; replace bb := bb.trans (hb.mono bb.size); clear hb)
        cases va with
        | false =>
          go_wp2_with fail
          go_ret
          exact ⟨rfl, bb⟩
        | true =>
          go_wp2_with fail; (refine (V2.out _).mono ?_; rintro e w' ⟨rfl, hb⟩; replace bb := bb.trans (hb.mono bb.size); clear hb)
          cases vc with
          | false =>
            go_wp2_with fail
            go_ret
            exact ⟨rfl, bb⟩
          | true =>
            have f6 := F3.out (by simp) (by simp) (by decide) hy
            subst f6
            clear F3
            go_wp2_with fail; (refine (W2.out _).mono ?_; rintro e w' ⟨rfl, hb⟩; replace bb := bb.trans (hb.mono bb.size); clear hb)
            go_wp2_with fail
            go_ret
            exact ⟨rfl, bb⟩
      | true =>
        go_wp2_with fail; (refine (W1.out _).mono ?_; rintro e w' ⟨rfl, hb⟩; replace bb := bb.trans (hb.mono bb.size); clear hb)
        go_wp2_with fail; (refine (C1.out _).mono ?_; rintro e w' ⟨rfl, hb⟩; replace bb := bb.trans (hb.mono bb.size); clear hb)
        go_wp2_with fail; (refine (V1.out _).mono ?_; rintro e w' ⟨rfl, hb⟩; replace bb := bb.trans (hb.mono bb.size); clear hb)
        cases va with
        | false =>
          go_wp2_with fail
          go_ret
          exact ⟨rfl, bb⟩
        | true =>
          go_wp2_with fail; (refine (V2.out _).mono ?_; rintro e w' ⟨rfl, hb⟩; replace bb := bb.trans (hb.mono bb.size); clear hb)
          cases vc with
          | false =>
            go_wp2_with fail
            go_ret
            exact ⟨rfl, bb⟩
          | true =>
            have f6 := F3.out (by simp) (by simp) (by decide) hy
            subst f6
            clear F3
            go_wp2_with fail; (refine (W2.out _).mono ?_; rintro e w' ⟨rfl, hb⟩; replace bb := bb.trans (hb.mono bb.size); clear hb)
            go_wp2_with fail
            go_ret
            exact ⟨rfl, bb⟩
    · clear f2 F3
      go_enter Tryd.func7, Tryd.ntmps7
      go_wp2_with fail; (refine (H1.out _).mono ?_; rintro e w' ⟨rfl, rfl⟩)
      go_wp2_with fail; (refine (H2.out _).mono ?_; rintro e w' ⟨rfl, rfl⟩)
      go_wp2_with fail; (refine (H3.out _).mono ?_; rintro e w' ⟨rfl, rfl⟩)
      go_wp2_with fail; (refine (Q1.out _).mono ?_; rintro e w' ⟨rfl, hb⟩; replace bb := bb.trans (hb.mono bb.size); clear hb)
      go_wp2_with fail; (refine (Q2.out _).mono ?_; rintro e w' ⟨rfl, hb⟩; replace bb := bb.trans (hb.mono bb.size); clear hb)
      go_wp2_with fail; (refine (HK.out _ bb).mono ?_; rintro e w' ⟨rfl, hb⟩; replace bb := bb.trans (hb.mono bb.size); clear hb)
      go_wp2_with fail; (refine (R1.out _).mono ?_; rintro e w' ⟨rfl, hb⟩; replace bb := bb.trans (hb.mono bb.size); clear hb)
      go_wp2_with fail; (refine (Q3.out _).mono ?_; rintro e w' ⟨rfl, hb⟩; replace bb := bb.trans (hb.mono bb.size); clear hb)
      clear f1
      cases p with
      | false =>
        go_wp2_with fail; (refine (W1.out _).mono ?_; rintro e w' ⟨rfl, hb⟩; replace bb := bb.trans (hb.mono bb.size); clear hb)
        go_wp2_with fail; (refine (C1.out _).mono ?_; rintro e w' ⟨rfl, hb⟩; replace bb := bb.trans (hb.mono bb.size); clear hb)
        go_wp2_with fail; (refine (V1.out _).mono ?_; rintro e w' ⟨rfl, hb⟩; replace bb := bb.trans (hb.mono bb.size); clear hb)
        cases va with
        | false =>
          go_wp2_with fail
          go_ret
          exact ⟨rfl, bb⟩
        | true =>
          go_wp2_with fail; (refine (V2.out _).mono ?_; rintro e w' ⟨rfl, hb⟩; replace bb := bb.trans (hb.mono bb.size); clear hb)
          cases vc with
          | false =>
            go_wp2_with fail
            go_ret
            exact ⟨rfl, bb⟩
          | true =>
            go_wp2_with fail
            go_ret
            exact ⟨rfl, bb⟩
      | true =>
        go_wp2_with fail; (refine (W1.out _).mono ?_; rintro e w' ⟨rfl, hb⟩; replace bb := bb.trans (hb.mono bb.size); clear hb)
        go_wp2_with fail; (refine (C1.out _).mono ?_; rintro e w' ⟨rfl, hb⟩; replace bb := bb.trans (hb.mono bb.size); clear hb)
        go_wp2_with fail; (refine (V1.out _).mono ?_; rintro e w' ⟨rfl, hb⟩; replace bb := bb.trans (hb.mono bb.size); clear hb)
        cases va with
        | false =>
          go_wp2_with fail
          go_ret
          exact ⟨rfl, bb⟩
        | true =>
          go_wp2_with fail; (refine (V2.out _).mono ?_; rintro e w' ⟨rfl, hb⟩; replace bb := bb.trans (hb.mono bb.size); clear hb)
          cases vc with
          | false =>
            go_wp2_with fail
            go_ret
            exact ⟨rfl, bb⟩
          | true =>
            go_wp2_with fail
            go_ret
            exact ⟨rfl, bb⟩
  · have g := f4 rfl
    clear f4 f5
    have m1 : IntKind.i64.wrap (-(0 : Int)) = 0 := by rfl
    replace Q3 : Hid (∀ w, Calls Tryd.prog 26 #[.string B, .string A] w fun e w' => e = .returned (.int .i64 0) ∧ Below w.heap.size w w') := Q3
    by_cases hy : y ≤ 0
    · have hz := f2 (by decide) hy
      clear f2
      go_enter Tryd.func7, Tryd.ntmps7
      go_wp2_with fail; (refine (H1.out _).mono ?_; rintro e w' ⟨rfl, rfl⟩)
      go_wp2_with fail; (refine (H2.out _).mono ?_; rintro e w' ⟨rfl, rfl⟩)
      go_wp2_with fail; (refine (H3.out _).mono ?_; rintro e w' ⟨rfl, rfl⟩)
      go_wp2_with fail; (refine (Q1.out _).mono ?_; rintro e w' ⟨rfl, hb⟩; replace bb := bb.trans (hb.mono bb.size); clear hb)
      go_wp2_with fail; (refine (Q2.out _).mono ?_; rintro e w' ⟨rfl, hb⟩; replace bb := bb.trans (hb.mono bb.size); clear hb)
      go_wp2_with fail; (refine (HK.out _ bb).mono ?_; rintro e w' ⟨rfl, hb⟩; replace bb := bb.trans (hb.mono bb.size); clear hb)
      go_wp2_with fail; (refine (R1.out _).mono ?_; rintro e w' ⟨rfl, hb⟩; replace bb := bb.trans (hb.mono bb.size); clear hb)
      go_wp2_with fail; (refine (Q3.out _).mono ?_; rintro e w' ⟨rfl, hb⟩; replace bb := bb.trans (hb.mono bb.size); clear hb)
      go_wp2_with fail; (refine (Q4.out _).mono ?_; rintro e w' ⟨rfl, hb⟩; replace bb := bb.trans (hb.mono bb.size); clear hb)
      clear f1
      cases p with
      | false =>
        go_wp2_with fail; (refine (W1.out _).mono ?_; rintro e w' ⟨rfl, hb⟩; replace bb := bb.trans (hb.mono bb.size); clear hb)
        go_wp2_with fail; (refine (C1.out _).mono ?_; rintro e w' ⟨rfl, hb⟩; replace bb := bb.trans (hb.mono bb.size); clear hb)
        go_wp2_with fail; (refine (V1.out _).mono ?_; rintro e w' ⟨rfl, hb⟩; replace bb := bb.trans (hb.mono bb.size); clear hb)
        cases va with
        | false =>
          go_wp2_with fail
          go_ret
          exact ⟨rfl, bb⟩
        | true =>
          go_wp2_with fail; (refine (V2.out _).mono ?_; rintro e w' ⟨rfl, hb⟩; replace bb := bb.trans (hb.mono bb.size); clear hb)
          cases vc with
          | false =>
            go_wp2_with fail
            go_ret
            exact ⟨rfl, bb⟩
          | true =>
            have f6 := F3.out (by simp) (by simp) (by decide) hy
            subst f6
            clear F3
            go_wp2_with fail; (refine (W2.out _).mono ?_; rintro e w' ⟨rfl, hb⟩; replace bb := bb.trans (hb.mono bb.size); clear hb)
            go_wp2_with fail
            go_ret
            exact ⟨rfl, bb⟩
      | true =>
        go_wp2_with fail; (refine (W1.out _).mono ?_; rintro e w' ⟨rfl, hb⟩; replace bb := bb.trans (hb.mono bb.size); clear hb)
        go_wp2_with fail; (refine (C1.out _).mono ?_; rintro e w' ⟨rfl, hb⟩; replace bb := bb.trans (hb.mono bb.size); clear hb)
        go_wp2_with fail; (refine (V1.out _).mono ?_; rintro e w' ⟨rfl, hb⟩; replace bb := bb.trans (hb.mono bb.size); clear hb)
        cases va with
        | false =>
          go_wp2_with fail
          go_ret
          exact ⟨rfl, bb⟩
        | true =>
          go_wp2_with fail; (refine (V2.out _).mono ?_; rintro e w' ⟨rfl, hb⟩; replace bb := bb.trans (hb.mono bb.size); clear hb)
          cases vc with
          | false =>
            go_wp2_with fail
            go_ret
            exact ⟨rfl, bb⟩
          | true =>
            have f6 := F3.out (by simp) (by simp) (by decide) hy
            subst f6
            clear F3
            go_wp2_with fail; (refine (W2.out _).mono ?_; rintro e w' ⟨rfl, hb⟩; replace bb := bb.trans (hb.mono bb.size); clear hb)
            go_wp2_with fail
            go_ret
            exact ⟨rfl, bb⟩
    · clear f2 F3
      go_enter Tryd.func7, Tryd.ntmps7
      go_wp2_with fail; (refine (H1.out _).mono ?_; rintro e w' ⟨rfl, rfl⟩)
      go_wp2_with fail; (refine (H2.out _).mono ?_; rintro e w' ⟨rfl, rfl⟩)
      go_wp2_with fail; (refine (H3.out _).mono ?_; rintro e w' ⟨rfl, rfl⟩)
      go_wp2_with fail; (refine (Q1.out _).mono ?_; rintro e w' ⟨rfl, hb⟩; replace bb := bb.trans (hb.mono bb.size); clear hb)
      go_wp2_with fail; (refine (Q2.out _).mono ?_; rintro e w' ⟨rfl, hb⟩; replace bb := bb.trans (hb.mono bb.size); clear hb)
      go_wp2_with fail; (refine (HK.out _ bb).mono ?_; rintro e w' ⟨rfl, hb⟩; replace bb := bb.trans (hb.mono bb.size); clear hb)
      go_wp2_with fail; (refine (R1.out _).mono ?_; rintro e w' ⟨rfl, hb⟩; replace bb := bb.trans (hb.mono bb.size); clear hb)
      go_wp2_with fail; (refine (Q3.out _).mono ?_; rintro e w' ⟨rfl, hb⟩; replace bb := bb.trans (hb.mono bb.size); clear hb)
      clear f1
      cases p with
      | false =>
        go_wp2_with fail; (refine (W1.out _).mono ?_; rintro e w' ⟨rfl, hb⟩; replace bb := bb.trans (hb.mono bb.size); clear hb)
        go_wp2_with fail; (refine (C1.out _).mono ?_; rintro e w' ⟨rfl, hb⟩; replace bb := bb.trans (hb.mono bb.size); clear hb)
        go_wp2_with fail; (refine (V1.out _).mono ?_; rintro e w' ⟨rfl, hb⟩; replace bb := bb.trans (hb.mono bb.size); clear hb)
        cases va with
        | false =>
          go_wp2_with fail
          go_ret
          exact ⟨rfl, bb⟩
        | true =>
          go_wp2_with fail; (refine (V2.out _).mono ?_; rintro e w' ⟨rfl, hb⟩; replace bb := bb.trans (hb.mono bb.size); clear hb)
          cases vc with
          | false =>
            go_wp2_with fail
            go_ret
            exact ⟨rfl, bb⟩
          | true =>
            go_wp2_with fail
            go_ret
            exact ⟨rfl, bb⟩
      | true =>
        go_wp2_with fail; (refine (W1.out _).mono ?_; rintro e w' ⟨rfl, hb⟩; replace bb := bb.trans (hb.mono bb.size); clear hb)
        go_wp2_with fail; (refine (C1.out _).mono ?_; rintro e w' ⟨rfl, hb⟩; replace bb := bb.trans (hb.mono bb.size); clear hb)
        go_wp2_with fail; (refine (V1.out _).mono ?_; rintro e w' ⟨rfl, hb⟩; replace bb := bb.trans (hb.mono bb.size); clear hb)
        cases va with
        | false =>
          go_wp2_with fail
          go_ret
          exact ⟨rfl, bb⟩
        | true =>
          go_wp2_with fail; (refine (V2.out _).mono ?_; rintro e w' ⟨rfl, hb⟩; replace bb := bb.trans (hb.mono bb.size); clear hb)
          cases vc with
          | false =>
            go_wp2_with fail
            go_ret
            exact ⟨rfl, bb⟩
          | true =>
            go_wp2_with fail
            go_ret
            exact ⟨rfl, bb⟩
  · have g := f5 (by decide)
    clear f4 f5
    have m1 : IntKind.i64.wrap (-(1 : Int)) = -1 := by rfl
    replace Q3 : Hid (∀ w, Calls Tryd.prog 26 #[.string B, .string A] w fun e w' => e = .returned (.int .i64 (-1)) ∧ Below w.heap.size w w') := Q3
    clear f2 F3
    go_enter Tryd.func7, Tryd.ntmps7
    go_wp2_with fail; (refine (H1.out _).mono ?_; rintro e w' ⟨rfl, rfl⟩)
    go_wp2_with fail; (refine (H2.out _).mono ?_; rintro e w' ⟨rfl, rfl⟩)
    go_wp2_with fail; (refine (H3.out _).mono ?_; rintro e w' ⟨rfl, rfl⟩)
    go_wp2_with fail; (refine (Q1.out _).mono ?_; rintro e w' ⟨rfl, hb⟩; replace bb := bb.trans (hb.mono bb.size); clear hb)
    go_wp2_with fail; (refine (Q2.out _).mono ?_; rintro e w' ⟨rfl, hb⟩; replace bb := bb.trans (hb.mono bb.size); clear hb)
    go_wp2_with fail; (refine (HK.out _ bb).mono ?_; rintro e w' ⟨rfl, hb⟩; replace bb := bb.trans (hb.mono bb.size); clear hb)
    go_wp2_with fail; (refine (R1.out _).mono ?_; rintro e w' ⟨rfl, hb⟩; replace bb := bb.trans (hb.mono bb.size); clear hb)
    go_wp2_with fail; (refine (Q3.out _).mono ?_; rintro e w' ⟨rfl, hb⟩; replace bb := bb.trans (hb.mono bb.size); clear hb)
    have f6 : p = false := by cases p; rfl; exact absurd (f1 rfl) (by decide)
    subst f6
    clear f1
    go_wp2_with fail; (refine (W1.out _).mono ?_; rintro e w' ⟨rfl, hb⟩; replace bb := bb.trans (hb.mono bb.size); clear hb)
    go_wp2_with fail; (refine (C1.out _).mono ?_; rintro e w' ⟨rfl, hb⟩; replace bb := bb.trans (hb.mono bb.size); clear hb)
    go_wp2_with fail; (refine (V1.out _).mono ?_; rintro e w' ⟨rfl, hb⟩; replace bb := bb.trans (hb.mono bb.size); clear hb)
    cases va with
    | false =>
      go_wp2_with fail
      go_ret
      exact ⟨rfl, bb⟩
    | true =>
      go_wp2_with fail; (refine (V2.out _).mono ?_; rintro e w' ⟨rfl, hb⟩; replace bb := bb.trans (hb.mono bb.size); clear hb)
      cases vc with
      | false =>
        go_wp2_with fail
        go_ret
        exact ⟨rfl, bb⟩
      | true =>
        go_wp2_with fail
        go_ret
        exact ⟨rfl, bb⟩
end Go.Proofs.YtjgofoliikflaaaDoor
