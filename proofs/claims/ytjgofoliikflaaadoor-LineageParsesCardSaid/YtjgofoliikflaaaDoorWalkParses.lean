/-
  The walk of LineageParses.
-/
import Derived.Test.YtjgofoliikflaaaDoorLawKit
namespace Go.Proofs.YtjgofoliikflaaaDoor
open Go.RowKit

set_option maxRecDepth 100000 in
set_option maxHeartbeats 1000000 in
theorem walkParses {a : ByteArray} (ha : a.size ≤ maxLen) (w : World) (he : Env w) :
    Calls Tryd.prog 4 #[.string a] w fun e w' => e = .returned (.bool true) ∧ Below w.heap.size w w' := by
  have HK := Lib.hid (known_of he)
  have bb := Below.refl w.heap.size w
  clear he
  unfold maxLen at ha
  obtain ⟨t, ht⟩ : ∃ t : ByteArray, a.extract 0 (min (↑a.size : Int) 100).toNat = t := ⟨_, rfl⟩
  have hs : t.size ≤ 100 := by rw [← ht, ByteArray.size_extract]; omega
  have HM := Lib.hid ht
  clear ht
  have hm : t.size ≤ maxLen := by simp only [maxLen]; omega
  cases hb : L.bad t.data.toList with
  | none =>
    obtain ⟨v1, v2⟩ := L.text_ords hb
    obtain ⟨l, hl⟩ : ∃ l, L.ords t.data.toList = l := ⟨_, rfl⟩
    rw [hl] at v1 v2
    have P1 := Lib.hid (parse_ok hm hb)
    have P2 := Lib.hid (rp_ok (by omega) hb hl)
    have V1 := Lib.hid (valid_of (s := t) (by omega) (valid_none hb))
    have hT : bs (L.text l) = t := by rw [v1]; exact (bs_eq t).symm
    have ln : l.length ≤ 8 := v2.1
    have HT : Hid (∀ {A : Option Addr} {c B : Nat} {w : World}, Row w B A (nums l) → B ≤ w.heap.size → Calls Tryd.prog 20 #[.slice A l.length c] w fun e w' => e = .returned (.string t) ∧ Below w.heap.size w w') := fun hr hB => by
      rw [← hT]; exact text_any l _ _ _ _ hr hB (by omega) (fun x hx => by have := (v2.2 x hx).2; omega)
    clear hb v1 v2 hl hT hm
    go_enter Tryd.func4, Tryd.ntmps4
    go_wp2_with fail
    simp only [HM.out]
    go_wp2_with fail; (refine (P1.out _).mono ?_; rintro e w' ⟨rfl, hb⟩; replace bb := bb.trans (hb.mono bb.size); clear hb)
    go_wp2_with fail
    refine (P2.out _).mono ?_
    rintro e w1 ⟨A1, c1, rfl, r1, k1, b1⟩
    replace bb := bb.trans (b1.mono bb.size)
    go_wp2_with fail
    refine (HK.out _ bb).mono ?_
    rintro e w2 ⟨rfl, b2⟩
    have r2 := r1.belowH b2 (Nat.le_refl _)
    replace bb := bb.trans (b2.mono bb.size)
    have hB := b2.size
    clear b1 b2 r1
    go_wp2_with fail
    refine (HT.out r2 hB).mono ?_
    rintro e w3 ⟨rfl, b3⟩
    replace bb := bb.trans (b3.mono bb.size)
    clear b3 r2
    go_wp2_with fail; (refine (V1.out _).mono ?_; rintro e w' ⟨rfl, hb⟩; replace bb := bb.trans (hb.mono bb.size); clear hb)
    go_wp2_with fail
    go_ret
    exact ⟨rfl, bb⟩
  | some x =>
    have P1 := Lib.hid (parse_bad hm hb)
    have P2 := Lib.hid (rp_bad (by omega) hb)
    have V1 := Lib.hid (valid_of (s := t) (by omega) (valid_some hb))
    have hT : bs (L.text []) = ⟨#[]⟩ := rfl
    have HT : Hid (∀ w : World, Calls Tryd.prog 20 #[.slice none 0 0] w fun e w' => e = .returned (.string ⟨#[]⟩) ∧ Below w.heap.size w w') := fun w => by
      rw [← hT]; exact text_any [] none 0 0 w (Row.nil _ _ _) (Nat.zero_le _) (by simp) (by simp)
    obtain ⟨t1, t2⟩ := bad_ne hb
    clear hb hT hm
    generalize (x.e : Int) = E at *
    generalize (x.at_ : Int) = F at *
    go_enter Tryd.func4, Tryd.ntmps4
    go_wp2_with fail
    simp only [HM.out]
    go_wp2_with fail; (refine (P1.out _).mono ?_; rintro e w' ⟨rfl, hb⟩; replace bb := bb.trans (hb.mono bb.size); clear hb)
    go_wp2_with fail; (refine (P2.out _).mono ?_; rintro e w' ⟨rfl, hb⟩; replace bb := bb.trans (hb.mono bb.size); clear hb)
    go_wp2_with fail; (refine (HK.out _ bb).mono ?_; rintro e w' ⟨rfl, hb⟩; replace bb := bb.trans (hb.mono bb.size); clear hb)
    go_wp2_with fail; (refine (HT.out _).mono ?_; rintro e w' ⟨rfl, hb⟩; replace bb := bb.trans (hb.mono bb.size); clear hb)
    go_wp2_with fail; (refine (V1.out _).mono ?_; rintro e w' ⟨rfl, hb⟩; replace bb := bb.trans (hb.mono bb.size); clear hb)
    go_wp2_with fail
    go_ret
    exact ⟨rfl, bb⟩
end Go.Proofs.YtjgofoliikflaaaDoor
