/-
  The walk of LineageWithin.
-/
import Derived.Test.YtjgofoliikflaaaDoorLawKit
namespace Go.Proofs.YtjgofoliikflaaaDoor
open Go.RowKit

set_option maxRecDepth 100000 in
set_option maxHeartbeats 4000000 in
theorem walkWithin {a b c : ByteArray} (ha : a.size ≤ maxLen) (hb : b.size ≤ maxLen) (hc : c.size ≤ maxLen) (w : World) (he : Env w) :
    Calls Tryd.prog 5 #[.string a, .string b, .string c] w fun e w' => e = .returned (.bool true) ∧ Below w.heap.size w w' := by
  obtain ⟨A, hA⟩ : ∃ A, cut8 a = A := ⟨_, rfl⟩
  obtain ⟨B, hB⟩ : ∃ A, cut8 b = A := ⟨_, rfl⟩
  obtain ⟨C, hC⟩ : ∃ A, cut8 c = A := ⟨_, rfl⟩
  have s1 : A.size ≤ 1000 := by have := cut8_size a; rw [hA] at this; omega
  have s2 : B.size ≤ 1000 := by have := cut8_size b; rw [hB] at this; omega
  have s3 : C.size ≤ 1000 := by have := cut8_size c; rw [hC] at this; omega
  have H1 := Lib.hid (short_of ha hA)
  have H2 := Lib.hid (short_of hb hB)
  have H3 := Lib.hid (short_of hc hC)
  have HK := Lib.hid (known_of he)
  obtain ⟨p, hp⟩ : ∃ r, withinB A.data.toList B.data.toList = r := ⟨_, rfl⟩
  obtain ⟨q, hq⟩ : ∃ r, withinB B.data.toList A.data.toList = r := ⟨_, rfl⟩
  obtain ⟨r, hr⟩ : ∃ r, withinB B.data.toList C.data.toList = r := ⟨_, rfl⟩
  obtain ⟨t, ht⟩ : ∃ r, withinB A.data.toList C.data.toList = r := ⟨_, rfl⟩
  obtain ⟨v, hv⟩ : ∃ r, L.valid A.data.toList = r := ⟨_, rfl⟩
  have W1 := Lib.hid (within_of s1 s2 hp)
  have W2 := Lib.hid (within_of s2 s1 hq)
  have W3 := Lib.hid (within_of s2 s3 hr)
  have W4 := Lib.hid (within_of s1 s3 ht)
  have W5 := Lib.hid (within_of s1 s1 ((withinB_self _).trans hv))
  have W6 := Lib.hid (within_of (b := ⟨#[]⟩) s1 (by decide) ((withinB_nil _).trans hv))
  have R1 := Lib.hid (refwithin_of s1 s2 hp)
  have R2 := Lib.hid (refwithin_of s2 s1 hq)
  have V1 := Lib.hid (valid_of s1 hv)
  have f1 : p = true → q = true → (A.toList == B.toList) = true := fun h1 h2 => beq_of (withinB_antisymm (hp.trans h1) (hq.trans h2))
  have f2 : p = true → r = true → t = true := fun h1 h2 => by rw [← ht]; exact withinB_trans (hp.trans h1) (hr.trans h2)
  have bb := Below.refl w.heap.size w
  clear hp hq hr ht hv s1 s2 s3 hA hB hC he ha hb hc
  cases p with
  | false =>
    clear f1 f2
    go_enter Tryd.func5, Tryd.ntmps5
    go_wp2_with fail; (refine (H1.out _).mono ?_; rintro e w' ⟨rfl, rfl⟩)
    go_wp2_with fail; (refine (H2.out _).mono ?_; rintro e w' ⟨rfl, rfl⟩)
    go_wp2_with fail; (refine (H3.out _).mono ?_; rintro e w' ⟨rfl, rfl⟩)
    go_wp2_with fail; (refine (W1.out _).mono ?_; rintro e w' ⟨rfl, hb⟩; replace bb := bb.trans (hb.mono bb.size); clear hb)
    go_wp2_with fail; (refine (W2.out _).mono ?_; rintro e w' ⟨rfl, hb⟩; replace bb := bb.trans (hb.mono bb.size); clear hb)
    go_wp2_with fail; (refine (HK.out _ bb).mono ?_; rintro e w' ⟨rfl, hb⟩; replace bb := bb.trans (hb.mono bb.size); clear hb)
    go_wp2_with fail; (refine (R1.out _).mono ?_; rintro e w' ⟨rfl, hb⟩; replace bb := bb.trans (hb.mono bb.size); clear hb)
    go_wp2_with fail; (refine (R2.out _).mono ?_; rintro e w' ⟨rfl, hb⟩; replace bb := bb.trans (hb.mono bb.size); clear hb)
    go_wp2_with fail; (refine (W5.out _).mono ?_; rintro e w' ⟨rfl, hb⟩; replace bb := bb.trans (hb.mono bb.size); clear hb)
    go_wp2_with fail; (refine (V1.out _).mono ?_; rintro e w' ⟨rfl, hb⟩; replace bb := bb.trans (hb.mono bb.size); clear hb)
    go_wp2_with fail; (refine (W6.out _).mono ?_; rintro e w' ⟨rfl, hb⟩; replace bb := bb.trans (hb.mono bb.size); clear hb)
    go_wp2_with fail; (refine (V1.out _).mono ?_; rintro e w' ⟨rfl, hb⟩; replace bb := bb.trans (hb.mono bb.size); clear hb)
    go_wp2_with fail
    go_ret
    exact ⟨rfl, bb⟩
  | true =>
    replace f1 := f1 rfl
    replace f2 := f2 rfl
    have f3 : (!q || A.toList == B.toList) = true := by cases q <;> simp_all
    cases r with
    | false =>
      clear f2
      cases q with
      | false =>
        clear f1 f3
        go_enter Tryd.func5, Tryd.ntmps5
        go_wp2_with fail; (refine (H1.out _).mono ?_; rintro e w' ⟨rfl, rfl⟩)
        go_wp2_with fail; (refine (H2.out _).mono ?_; rintro e w' ⟨rfl, rfl⟩)
        go_wp2_with fail; (refine (H3.out _).mono ?_; rintro e w' ⟨rfl, rfl⟩)
        go_wp2_with fail; (refine (W1.out _).mono ?_; rintro e w' ⟨rfl, hb⟩; replace bb := bb.trans (hb.mono bb.size); clear hb)
        go_wp2_with fail; (refine (W2.out _).mono ?_; rintro e w' ⟨rfl, hb⟩; replace bb := bb.trans (hb.mono bb.size); clear hb)
        go_wp2_with fail; (refine (HK.out _ bb).mono ?_; rintro e w' ⟨rfl, hb⟩; replace bb := bb.trans (hb.mono bb.size); clear hb)
        go_wp2_with fail; (refine (R1.out _).mono ?_; rintro e w' ⟨rfl, hb⟩; replace bb := bb.trans (hb.mono bb.size); clear hb)
        go_wp2_with fail; (refine (R2.out _).mono ?_; rintro e w' ⟨rfl, hb⟩; replace bb := bb.trans (hb.mono bb.size); clear hb)
        go_wp2_with fail; (refine (W3.out _).mono ?_; rintro e w' ⟨rfl, hb⟩; replace bb := bb.trans (hb.mono bb.size); clear hb)
        go_wp2_with fail; (refine (W5.out _).mono ?_; rintro e w' ⟨rfl, hb⟩; replace bb := bb.trans (hb.mono bb.size); clear hb)
        go_wp2_with fail; (refine (V1.out _).mono ?_; rintro e w' ⟨rfl, hb⟩; replace bb := bb.trans (hb.mono bb.size); clear hb)
        go_wp2_with fail; (refine (W6.out _).mono ?_; rintro e w' ⟨rfl, hb⟩; replace bb := bb.trans (hb.mono bb.size); clear hb)
        go_wp2_with fail; (refine (V1.out _).mono ?_; rintro e w' ⟨rfl, hb⟩; replace bb := bb.trans (hb.mono bb.size); clear hb)
        go_wp2_with fail
        go_ret
        exact ⟨rfl, bb⟩
      | true =>
        replace f1 := f1 rfl
        clear f3
        go_enter Tryd.func5, Tryd.ntmps5
        go_wp2_with fail; (refine (H1.out _).mono ?_; rintro e w' ⟨rfl, rfl⟩)
        go_wp2_with fail; (refine (H2.out _).mono ?_; rintro e w' ⟨rfl, rfl⟩)
        go_wp2_with fail; (refine (H3.out _).mono ?_; rintro e w' ⟨rfl, rfl⟩)
        go_wp2_with fail; (refine (W1.out _).mono ?_; rintro e w' ⟨rfl, hb⟩; replace bb := bb.trans (hb.mono bb.size); clear hb)
        go_wp2_with fail; (refine (W2.out _).mono ?_; rintro e w' ⟨rfl, hb⟩; replace bb := bb.trans (hb.mono bb.size); clear hb)
        go_wp2_with fail; (refine (HK.out _ bb).mono ?_; rintro e w' ⟨rfl, hb⟩; replace bb := bb.trans (hb.mono bb.size); clear hb)
        go_wp2_with fail; (refine (R1.out _).mono ?_; rintro e w' ⟨rfl, hb⟩; replace bb := bb.trans (hb.mono bb.size); clear hb)
        go_wp2_with fail; (refine (R2.out _).mono ?_; rintro e w' ⟨rfl, hb⟩; replace bb := bb.trans (hb.mono bb.size); clear hb)
        go_wp2_with fail; (refine (W3.out _).mono ?_; rintro e w' ⟨rfl, hb⟩; replace bb := bb.trans (hb.mono bb.size); clear hb)
        go_wp2_with fail; (refine (W5.out _).mono ?_; rintro e w' ⟨rfl, hb⟩; replace bb := bb.trans (hb.mono bb.size); clear hb)
        go_wp2_with fail; (refine (V1.out _).mono ?_; rintro e w' ⟨rfl, hb⟩; replace bb := bb.trans (hb.mono bb.size); clear hb)
        go_wp2_with fail; (refine (W6.out _).mono ?_; rintro e w' ⟨rfl, hb⟩; replace bb := bb.trans (hb.mono bb.size); clear hb)
        go_wp2_with fail; (refine (V1.out _).mono ?_; rintro e w' ⟨rfl, hb⟩; replace bb := bb.trans (hb.mono bb.size); clear hb)
        go_wp2_with fail
        go_ret
        exact ⟨rfl, bb⟩
    | true =>
      have f2 := f2 rfl
      subst f2
      cases q with
      | false =>
        clear f1 f3
        go_enter Tryd.func5, Tryd.ntmps5
        go_wp2_with fail; (refine (H1.out _).mono ?_; rintro e w' ⟨rfl, rfl⟩)
        go_wp2_with fail; (refine (H2.out _).mono ?_; rintro e w' ⟨rfl, rfl⟩)
        go_wp2_with fail; (refine (H3.out _).mono ?_; rintro e w' ⟨rfl, rfl⟩)
        go_wp2_with fail; (refine (W1.out _).mono ?_; rintro e w' ⟨rfl, hb⟩; replace bb := bb.trans (hb.mono bb.size); clear hb)
        go_wp2_with fail; (refine (W2.out _).mono ?_; rintro e w' ⟨rfl, hb⟩; replace bb := bb.trans (hb.mono bb.size); clear hb)
        go_wp2_with fail; (refine (HK.out _ bb).mono ?_; rintro e w' ⟨rfl, hb⟩; replace bb := bb.trans (hb.mono bb.size); clear hb)
        go_wp2_with fail; (refine (R1.out _).mono ?_; rintro e w' ⟨rfl, hb⟩; replace bb := bb.trans (hb.mono bb.size); clear hb)
        go_wp2_with fail; (refine (R2.out _).mono ?_; rintro e w' ⟨rfl, hb⟩; replace bb := bb.trans (hb.mono bb.size); clear hb)
        go_wp2_with fail; (refine (W3.out _).mono ?_; rintro e w' ⟨rfl, hb⟩; replace bb := bb.trans (hb.mono bb.size); clear hb)
        go_wp2_with fail; (refine (W4.out _).mono ?_; rintro e w' ⟨rfl, hb⟩; replace bb := bb.trans (hb.mono bb.size); clear hb)
        go_wp2_with fail; (refine (W5.out _).mono ?_; rintro e w' ⟨rfl, hb⟩; replace bb := bb.trans (hb.mono bb.size); clear hb)
        go_wp2_with fail; (refine (V1.out _).mono ?_; rintro e w' ⟨rfl, hb⟩; replace bb := bb.trans (hb.mono bb.size); clear hb)
        go_wp2_with fail; (refine (W6.out _).mono ?_; rintro e w' ⟨rfl, hb⟩; replace bb := bb.trans (hb.mono bb.size); clear hb)
        go_wp2_with fail; (refine (V1.out _).mono ?_; rintro e w' ⟨rfl, hb⟩; replace bb := bb.trans (hb.mono bb.size); clear hb)
        go_wp2_with fail
        go_ret
        exact ⟨rfl, bb⟩
      | true =>
        replace f1 := f1 rfl
        clear f3
        go_enter Tryd.func5, Tryd.ntmps5
        go_wp2_with fail; (refine (H1.out _).mono ?_; rintro e w' ⟨rfl, rfl⟩)
        go_wp2_with fail; (refine (H2.out _).mono ?_; rintro e w' ⟨rfl, rfl⟩)
        go_wp2_with fail; (refine (H3.out _).mono ?_; rintro e w' ⟨rfl, rfl⟩)
        go_wp2_with fail; (refine (W1.out _).mono ?_; rintro e w' ⟨rfl, hb⟩; replace bb := bb.trans (hb.mono bb.size); clear hb)
        go_wp2_with fail; (refine (W2.out _).mono ?_; rintro e w' ⟨rfl, hb⟩; replace bb := bb.trans (hb.mono bb.size); clear hb)
        go_wp2_with fail; (refine (HK.out _ bb).mono ?_; rintro e w' ⟨rfl, hb⟩; replace bb := bb.trans (hb.mono bb.size); clear hb)
        go_wp2_with fail; (refine (R1.out _).mono ?_; rintro e w' ⟨rfl, hb⟩; replace bb := bb.trans (hb.mono bb.size); clear hb)
        go_wp2_with fail; (refine (R2.out _).mono ?_; rintro e w' ⟨rfl, hb⟩; replace bb := bb.trans (hb.mono bb.size); clear hb)
        go_wp2_with fail; (refine (W3.out _).mono ?_; rintro e w' ⟨rfl, hb⟩; replace bb := bb.trans (hb.mono bb.size); clear hb)
        go_wp2_with fail; (refine (W4.out _).mono ?_; rintro e w' ⟨rfl, hb⟩; replace bb := bb.trans (hb.mono bb.size); clear hb)
        go_wp2_with fail; (refine (W5.out _).mono ?_; rintro e w' ⟨rfl, hb⟩; replace bb := bb.trans (hb.mono bb.size); clear hb)
        go_wp2_with fail; (refine (V1.out _).mono ?_; rintro e w' ⟨rfl, hb⟩; replace bb := bb.trans (hb.mono bb.size); clear hb)
        go_wp2_with fail; (refine (W6.out _).mono ?_; rintro e w' ⟨rfl, hb⟩; replace bb := bb.trans (hb.mono bb.size); clear hb)
        go_wp2_with fail; (refine (V1.out _).mono ?_; rintro e w' ⟨rfl, hb⟩; replace bb := bb.trans (hb.mono bb.size); clear hb)
        go_wp2_with fail
        go_ret
        exact ⟨rfl, bb⟩
end Go.Proofs.YtjgofoliikflaaaDoor
