/-
  The walk of LineageCommon.
-/
import Derived.Test.YtjgofoliikflaaaDoorLawKit
import Derived.Test.YtjgofoliikflaaaDoorRefCompare
namespace Go.Proofs.YtjgofoliikflaaaDoor
open Go.RowKit

/-- The common name of two strings. -/
def commonS (a b : List UInt8) : ByteArray := if L.valid a && L.valid b then nm (L.lcp (ordsOf a) (ordsOf b)) else ⟨#[]⟩
theorem commonS_comm (a b : List UInt8) : commonS a b = commonS b a := by
  unfold commonS; rw [Bool.and_comm, L.lcp_comm]
theorem commonS_no {a b : List UInt8} (h : L.valid a = false ∨ L.valid b = false) : commonS a b = ⟨#[]⟩ := by
  unfold commonS; rw [if_neg]; rcases h with h | h <;> simp [h]
theorem commonS_nm {x y : List Nat} (hx : L.Ok x) (hy : L.Ok y) : commonS (nm x).data.toList (nm y).data.toList = nm (L.lcp x y) := by
  unfold commonS
  rw [nm_valid hx, nm_valid hy, nm_data, nm_data, ordsOf_ok (L.bad_text hx).1, ordsOf_ok (L.bad_text hy).1, (L.bad_text hx).2, (L.bad_text hy).2]; rfl
theorem common_of {a b r : ByteArray} (ha : a.size ≤ 1000) (hb : b.size ≤ 1000) (h : commonS a.data.toList b.data.toList = r) (w : World) :
    Calls Tryd.prog 24 #[.string a, .string b] w fun e w' => e = .returned (.string r) ∧ Below w.heap.size w w' := by
  subst h
  cases h1 : L.valid a.data.toList with
  | false => rw [commonS_no (.inl h1)]; exact common_no ha hb (.inl h1) w
  | true =>
    cases h2 : L.valid b.data.toList with
    | false => rw [commonS_no (.inr h2)]; exact common_no ha hb (.inr h2) w
    | true =>
      obtain ⟨x, hx, rfl, ox⟩ := nm_of h1
      obtain ⟨y, hy, rfl, oy⟩ := nm_of h2
      rw [commonS_nm hx hy]
      exact common_nm hx hy w
theorem refcommon_of {a b r : ByteArray} (ha : a.size ≤ 1000) (hb : b.size ≤ 1000) (h : commonS a.data.toList b.data.toList = r) (w : World) :
    Calls Tryd.prog 25 #[.string a, .string b] w fun e w' => e = .returned (.string r) ∧ Below w.heap.size w w' := by
  subst h
  cases h1 : L.valid a.data.toList with
  | false => rw [commonS_no (.inl h1)]; exact refcommon_no ha hb (.inl h1) w
  | true =>
    cases h2 : L.valid b.data.toList with
    | false => rw [commonS_no (.inr h2)]; exact refcommon_no ha hb (.inr h2) w
    | true =>
      obtain ⟨x, hx, rfl, ox⟩ := nm_of h1
      obtain ⟨y, hy, rfl, oy⟩ := nm_of h2
      rw [commonS_nm hx hy]
      have q1 := L.bad_text hx
      have q2 := L.bad_text hy
      exact refcommon_ok ha hb q1.1 q1.2 q2.1 q2.2 (by have := hx.1; omega) (by have := hy.1; omega) (fun u hu => by have := (hx.2 u hu).2; omega) w
theorem commonS_size (a b : List UInt8) : (commonS a b).size ≤ 1000 := by
  unfold commonS
  split
  · rename_i h
    simp only [Bool.and_eq_true] at h
    obtain ⟨x, hx, e1, ox⟩ := nm_of (s := bs a) h.1
    rw [show (bs a).data.toList = a from rfl] at ox
    rw [ox]
    have := ok_len (ok_prefix hx (L.lcp_prefix x (ordsOf b)))
    omega
  · simp [ByteArray.size]
theorem within_common {a b c : ByteArray} (h1 : withinB a.data.toList c.data.toList = true) (h2 : withinB b.data.toList c.data.toList = true) : withinB (commonS a.data.toList b.data.toList).data.toList c.data.toList = true := by
  obtain ⟨v1, v3⟩ := withinB_valid h1
  obtain ⟨v2, _⟩ := withinB_valid h2
  obtain ⟨x, hx, rfl, _⟩ := nm_of v1
  obtain ⟨y, hy, rfl, _⟩ := nm_of v2
  obtain ⟨z, hz, rfl, _⟩ := nm_of v3
  rw [withinB_nm hx hz, List.isPrefixOf_iff_prefix] at h1
  rw [withinB_nm hy hz, List.isPrefixOf_iff_prefix] at h2
  rw [commonS_nm hx hy, withinB_nm (ok_prefix hx (L.lcp_prefix x y)) hz, List.isPrefixOf_iff_prefix]
  exact L.lcp_most h1 h2

set_option maxRecDepth 100000 in
set_option maxHeartbeats 4000000 in
theorem walkCommon {a b c : ByteArray} (ha : a.size ≤ maxLen) (hb : b.size ≤ maxLen) (hc : c.size ≤ maxLen) (w : World) (he : Env w) :
    Calls Tryd.prog 6 #[.string a, .string b, .string c] w fun e w' => e = .returned (.bool true) ∧ Below w.heap.size w w' := by
  obtain ⟨A, hA⟩ : ∃ A, cut8 a = A := ⟨_, rfl⟩
  obtain ⟨B, hB⟩ : ∃ A, cut8 b = A := ⟨_, rfl⟩
  obtain ⟨C, hC⟩ : ∃ A, cut8 c = A := ⟨_, rfl⟩
  have s1 : A.size ≤ 1000 := by have := cut8_size a; rw [hA] at this; omega
  have s2 : B.size ≤ 1000 := by have := cut8_size b; rw [hB] at this; omega
  have s3 : C.size ≤ 1000 := by have := cut8_size c; rw [hC] at this; omega
  have H1 := Lib.hid (short_of ha hA)
  have H2 := Lib.hid (short_of hb hB)
  have H3 := Lib.hid (short_of hc hC)
  have HK := Lib.hid (known_of he)
  obtain ⟨p, hp⟩ : ∃ r, withinB A.data.toList C.data.toList = r := ⟨_, rfl⟩
  obtain ⟨q, hq⟩ : ∃ r, withinB B.data.toList C.data.toList = r := ⟨_, rfl⟩
  obtain ⟨X, hX⟩ : ∃ r, commonS A.data.toList B.data.toList = r := ⟨_, rfl⟩
  have s4 : X.size ≤ 1000 := by rw [← hX]; exact commonS_size _ _
  obtain ⟨r, hr⟩ : ∃ r, withinB X.data.toList C.data.toList = r := ⟨_, rfl⟩
  have W1 := Lib.hid (within_of s1 s3 hp)
  have W2 := Lib.hid (within_of s2 s3 hq)
  have W3 := Lib.hid (within_of s4 s3 hr)
  have C1 := Lib.hid (common_of s1 s2 hX)
  have C2 := Lib.hid (common_of s2 s1 ((commonS_comm _ _).trans hX))
  have R1 := Lib.hid (refcommon_of s1 s2 hX)
  have f1 : p = true → q = true → r = true := fun h1 h2 => by rw [← hr, ← hX]; exact within_common (hp.trans h1) (hq.trans h2)
  have bb := Below.refl w.heap.size w
  clear hp hq hr hX s1 s2 s3 s4 hA hB hC he ha hb hc
  cases p with
  | false =>
    clear f1
    go_enter Tryd.func6, Tryd.ntmps6
    go_wp2_with fail; (refine (H1.out _).mono ?_; rintro e w' ⟨rfl, rfl⟩)
    go_wp2_with fail; (refine (H2.out _).mono ?_; rintro e w' ⟨rfl, rfl⟩)
    go_wp2_with fail; (refine (H3.out _).mono ?_; rintro e w' ⟨rfl, rfl⟩)
    go_wp2_with fail; (refine (C1.out _).mono ?_; rintro e w' ⟨rfl, hb⟩; replace bb := bb.trans (hb.mono bb.size); clear hb)
    go_wp2_with fail; (refine (HK.out _ bb).mono ?_; rintro e w' ⟨rfl, hb⟩; replace bb := bb.trans (hb.mono bb.size); clear hb)
    go_wp2_with fail; (refine (R1.out _).mono ?_; rintro e w' ⟨rfl, hb⟩; replace bb := bb.trans (hb.mono bb.size); clear hb)
    go_wp2_with fail; (refine (C2.out _).mono ?_; rintro e w' ⟨rfl, hb⟩; replace bb := bb.trans (hb.mono bb.size); clear hb)
    go_wp2_with fail; (refine (W1.out _).mono ?_; rintro e w' ⟨rfl, hb⟩; replace bb := bb.trans (hb.mono bb.size); clear hb)
    go_wp2_with fail
    go_ret
    exact ⟨rfl, bb⟩
  | true =>
    cases q with
    | false =>
      clear f1
      go_enter Tryd.func6, Tryd.ntmps6
      go_wp2_with fail; (refine (H1.out _).mono ?_; rintro e w' ⟨rfl, rfl⟩)
      go_wp2_with fail; (refine (H2.out _).mono ?_; rintro e w' ⟨rfl, rfl⟩)
      go_wp2_with fail; (refine (H3.out _).mono ?_; rintro e w' ⟨rfl, rfl⟩)
      go_wp2_with fail; (refine (C1.out _).mono ?_; rintro e w' ⟨rfl, hb⟩; replace bb := bb.trans (hb.mono bb.size); clear hb)
      go_wp2_with fail; (refine (HK.out _ bb).mono ?_; rintro e w' ⟨rfl, hb⟩; replace bb := bb.trans (hb.mono bb.size); clear hb)
      go_wp2_with fail; (refine (R1.out _).mono ?_; rintro e w' ⟨rfl, hb⟩; replace bb := bb.trans (hb.mono bb.size); clear hb)
      go_wp2_with fail; (refine (C2.out _).mono ?_; rintro e w' ⟨rfl, hb⟩; replace bb := bb.trans (hb.mono bb.size); clear hb)
      go_wp2_with fail; (refine (W1.out _).mono ?_; rintro e w' ⟨rfl, hb⟩; replace bb := bb.trans (hb.mono bb.size); clear hb)
      go_wp2_with fail; (refine (W2.out _).mono ?_; rintro e w' ⟨rfl, hb⟩; replace bb := bb.trans (hb.mono bb.size); clear hb)
      go_wp2_with fail
      go_ret
      exact ⟨rfl, bb⟩
    | true =>
      have f2 := f1 rfl rfl
      subst f2
      clear f1
      go_enter Tryd.func6, Tryd.ntmps6
      go_wp2_with fail; (refine (H1.out _).mono ?_; rintro e w' ⟨rfl, rfl⟩)
      go_wp2_with fail; (refine (H2.out _).mono ?_; rintro e w' ⟨rfl, rfl⟩)
      go_wp2_with fail; (refine (H3.out _).mono ?_; rintro e w' ⟨rfl, rfl⟩)
      go_wp2_with fail; (refine (C1.out _).mono ?_; rintro e w' ⟨rfl, hb⟩; replace bb := bb.trans (hb.mono bb.size); clear hb)
      go_wp2_with fail; (refine (HK.out _ bb).mono ?_; rintro e w' ⟨rfl, hb⟩; replace bb := bb.trans (hb.mono bb.size); clear hb)
      go_wp2_with fail; (refine (R1.out _).mono ?_; rintro e w' ⟨rfl, hb⟩; replace bb := bb.trans (hb.mono bb.size); clear hb)
      go_wp2_with fail; (refine (C2.out _).mono ?_; rintro e w' ⟨rfl, hb⟩; replace bb := bb.trans (hb.mono bb.size); clear hb)
      go_wp2_with fail; (refine (W1.out _).mono ?_; rintro e w' ⟨rfl, hb⟩; replace bb := bb.trans (hb.mono bb.size); clear hb)
      go_wp2_with fail; (refine (W2.out _).mono ?_; rintro e w' ⟨rfl, hb⟩; replace bb := bb.trans (hb.mono bb.size); clear hb)
      go_wp2_with fail; (refine (W3.out _).mono ?_; rintro e w' ⟨rfl, hb⟩; replace bb := bb.trans (hb.mono bb.size); clear hb)
      go_wp2_with fail
      go_ret
      exact ⟨rfl, bb⟩
end Go.Proofs.YtjgofoliikflaaaDoor
