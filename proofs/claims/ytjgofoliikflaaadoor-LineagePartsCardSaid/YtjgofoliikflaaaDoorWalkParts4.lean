/-
  The walk of LineageParts, where the name is not the empty one: a name of eight ordinals.
-/
import Derived.Test.YtjgofoliikflaaaDoorWalkParts
import Derived.Deep.RegionHeld3
namespace Go.Proofs.YtjgofoliikflaaaDoor
open Go.RowKit

set_option maxRecDepth 100000 in
set_option maxHeartbeats 8000000 in
theorem walkParts_more_limit {a : ByteArray} {k : Nat} (ha : a.size ≤ maxLen) (w : World) (he : Env w) {l : List Nat} (hl : L.Ok l) (h0 : l ≠ []) (hA : cut8 a = nm l) (h8 : l.length = 8) (hk1 : 1 ≤ k) (hk2 : k ≤ 999999) :
    Calls Tryd.prog 9 #[.string a, .int .i64 (k : Int)] w fun e w' => e = .returned (.bool true) ∧ Below w.heap.size w w' := by
  have s1 : (nm l).size ≤ 1000 := by have := ok_len hl; omega
  have hb := (L.bad_text hl).1
  have S1 := Lib.hid (short_of ha hA)
  have HK := Lib.hid (known_of he)
  have RP := Lib.hid (rp_ok s1 hb (L.bad_text hl).2)
  have CH := Lib.hid (child_limit hl h8 hk1 hk2)
  obtain ⟨m, hm⟩ : ∃ m, l.length = m + 1 := ⟨l.length - 1, by have := List.length_pos_iff.2 h0; omega⟩
  have m8 : m ≤ 7 := by have := hl.1; omega
  obtain ⟨x, hx⟩ : ∃ x, l.getLastD 0 = x := ⟨_, rfl⟩
  have hx2 : (nums l)[m]? = some (.int .i64 (x : Int)) := by
    rw [nums_at l m (by omega), ← hx, List.getLastD_eq_getLast?, List.getLast?_eq_getElem?, List.getElem?_eq_getElem (by omega)]
    simp [hm]
  have PA : Hid (∀ w : World, Calls Tryd.prog 31 #[.string (nm l)] w fun e w' => e = .returned (.tuple #[.string (nm (l.take m)), .bool true]) ∧ Below w.heap.size w w') := fun w => by
    have := parent_nm hl h0 w
    rw [List.dropLast_eq_take, hm] at this; exact this
  have LA := Lib.hid (last_of (x := x) s1 (by rw [nm_ords hl]; exact hx))
  have RT : Hid (∀ w' : World, Below w.heap.size w w' → Calls Tryd.prog 34 #[.string (nm l)] w' fun e w'' => e = .returned (.string (nm (l.take 1))) ∧ Below w'.heap.size w' w'') := fun w' hb => root_nm hl (he.below hb)
  have HT : Hid (∀ (q : Nat) {A : Option Addr} {c B : Nat} {w : World}, q ≤ m + 1 → Row w B A (nums l) → B ≤ w.heap.size → Calls Tryd.prog 20 #[.slice A q c] w fun e w' => e = .returned (.string (nm (l.take q))) ∧ Below w.heap.size w w') := fun q A c B w hq hr hB =>
    text_at (l := l.take q) (by rw [nums_take]; exact hr.take q) hB (by rw [List.length_take]; omega) (by omega) (fun x hx => by have := (hl.2 x (List.mem_of_mem_take hx)).2; omega)
  have O1 := Lib.hid (ords_of (l := l) s1 (nm_ords hl))
  have SM : Hid (∀ (A1 A2 : Option Addr) (c1 c2 B1 B2 : Nat) (w : World), Row w B1 A1 (nums l) → Row w B2 A2 (nums l) → Calls Tryd.prog 16 #[.slice A1 (m + 1) c1, .slice A2 (m + 1) c2] w fun e w' => e = .returned (.bool true) ∧ Below w.heap.size w w') := fun A1 A2 c1 c2 B1 B2 w h1 h2 =>
    same_at h1 h2 hm.symm hm.symm (by have := hl.1; omega)
  have D1 := Lib.hid (depth_of (l := l) s1 (nm_ords hl))
  rw [hm] at RP O1 D1 h8
  have bb := Below.refl w.heap.size w
  have HM := Lib.hid (show m < (nums l).length by rw [nums_len, hm]; omega)
  clear hx hm
  have t8 : ((m : Int) + 1 == 8) = true := beq_iff_eq.2 (by omega)
  have t0 : ((m : Int) + 1 == 0) = false := beq_eq_false_iff_ne.2 (by omega)
  have k1 : ¬ (k : Int) < 1 := by omega
  have k2 : ¬ (999999 : Int) < (k : Int) := by omega
  clear hk1 hk2 h8
  clear hb hA s1 ha he
  go_enter Tryd.func9, Tryd.ntmps9
  go_wp2_with fail; (refine (S1.out _).mono ?_; rintro e w' ⟨rfl, rfl⟩)
  go_wp2_with fail
  refine (RP.out _).mono ?_
  rintro e w1 ⟨A1, c1, rfl, r1, q1, b1⟩
  replace bb := bb.trans (b1.mono bb.size)
  have bx := Below.refl w1.heap.size w1
  clear b1
  go_wp2_with fail
  refine (CH.out _).mono ?_
  rintro e w' ⟨rfl, hb⟩
  replace bb := bb.trans (hb.mono bb.size)
  replace bx := bx.trans (hb.mono bx.size)
  clear hb
  go_wp2_with fail
  refine (PA.out _).mono ?_
  rintro e w' ⟨rfl, hb⟩
  replace bb := bb.trans (hb.mono bb.size)
  replace bx := bx.trans (hb.mono bx.size)
  clear hb
  go_wp2_with fail
  refine (HK.out _ bb).mono ?_
  rintro e w' ⟨rfl, hb⟩
  replace bb := bb.trans (hb.mono bb.size)
  replace bx := bx.trans (hb.mono bx.size)
  clear hb
  go_wp2_with fail
  refine (O1.out _).mono ?_
  rintro e w2 ⟨A2, c2, rfl, r2, q2, b2⟩
  replace bb := bb.trans (b2.mono bb.size)
  replace bx := bx.trans (b2.mono bx.size)
  clear b2
  go_wp2_with fail
  refine (SM.out _ _ _ _ _ _ _ r2 (r1.below bx)).mono ?_
  rintro e w3 ⟨rfl, b3⟩
  replace bb := bb.trans (b3.mono bb.size)
  replace bx := bx.trans (b3.mono bx.size)
  clear b3 r2 q2
  go_wp2_with fail
  refine (D1.out _).mono ?_
  rintro e w' ⟨rfl, hb⟩
  replace bb := bb.trans (hb.mono bb.size)
  replace bx := bx.trans (hb.mono bx.size)
  clear hb
  go_wp2_with fail
  obtain ⟨b, o, rfl, hlt, hcell⟩ := r1.at_ (k := m) HM.out
  have HC := Lib.hid (hcell m _ hx2)
  have HL := Lib.hid hlt
  have HR := Lib.hid r1
  clear hcell hx2 hlt r1
  have hc := (bx.cell (p := ⟨b, o + m, none⟩) HL.out).trans HC.out
  have hq1 : 1 ≤ c1 := by omega
  have hqm : m ≤ c1 := by omega
  have hi5 : (1 : Int) ≤ (c1 : Int) := by omega
  have hi6 : ((m : Nat) : Int) ≤ (c1 : Int) := by omega
  have HQ1 := Lib.hid (show 1 ≤ m + 1 by omega)
  have HQM := Lib.hid (show m ≤ m + 1 by omega)
  have HB1 := Lib.hid (fun (W W' : World) (n : Nat) (h1 : Below w.heap.size w W) (h2 : Below (W.drewN n).heap.size (W.drewN n) W') => (below_drewN2 h1 n).trans (h2.mono (below_drewN2 h1 n).size))
  have HB2 := Lib.hid (fun (W W' : World) (n : Nat) (h1 : Below w1.heap.size w1 W) (h2 : Below (W.drewN n).heap.size (W.drewN n) W') => (below_drewN2 h1 n).trans (h2.mono (below_drewN2 h1 n).size))
  have hw1 : IntKind.i64.wrap (((m + 1 : Nat) : Int) - 1) = (m : Int) := by rw [IntKind.wrap_i64]; omega
  have hw2 : IntKind.i64.wrap ((m : Int) + 1 - 1) = (m : Int) := by rw [IntKind.wrap_i64]; omega
  have hw3 : IntKind.i64.wrap (m : Int) = (m : Int) := by rw [IntKind.wrap_i64]; omega
  have hi1 : (m : Int) < (m : Int) + 1 := by omega
  have hi2 : m < m + 1 := by omega
  have hi3 : ¬ (m : Int) < 0 := by omega
  have hi4 : (0 : Int) ≤ (m : Int) := by omega
  have HS1 := Lib.hid (fun (W W' : World) (h : W.cell? ⟨b, o + m, none⟩ = some (.int .i64 (x : Int)) ∧ Below w.heap.size w W ∧ Below w1.heap.size w1 W) (ba : Below W.heap.size W W') =>
    (⟨(((h.2.2.trans (ba.mono h.2.2.size)).cell (p := ⟨b, o + m, none⟩) HL.out).trans HC.out), h.2.1.trans (ba.mono h.2.1.size), h.2.2.trans (ba.mono h.2.2.size)⟩ : W'.cell? ⟨b, o + m, none⟩ = some (.int .i64 (x : Int)) ∧ Below w.heap.size w W' ∧ Below w1.heap.size w1 W'))
  go_region_held3 (fun W => W.cell? ⟨b, o + m, none⟩ = some (.int .i64 (x : Int)) ∧ Below w.heap.size w W ∧ Below w1.heap.size w1 W)
    (first | (refine ⟨?_, ?_, ?_⟩ <;> assumption) | exact ⟨hc, bb, bx⟩ | exact ⟨hc, bb.drew, bx.drew⟩ | (refine HS1.out _ _ ⟨?_, ?_, ?_⟩ ba <;> first | assumption | (apply Below.drew; assumption) | (rw [World.cell?_drew]; assumption)) | (refine ⟨?_, ?_, ?_⟩ <;> assumption) | exact ⟨by assumption, Below.drew (by assumption), Below.drew (by assumption)⟩)
    (first
    | (go_at_call 33; refine (LA.out _).mono ?_; rintro e wa ⟨rfl, ba⟩; obtain ⟨hcw, bbw, bxw⟩ := HS1.out _ _ (by refine ⟨?_, ?_, ?_⟩ <;> first | assumption | (apply Below.drew; assumption) | (rw [World.cell?_drew]; assumption)) ba; clear ba)
    | (go_at_call 34; refine (RT.out _ (by first | assumption | (apply Below.drew; assumption))).mono ?_; rintro e wa ⟨rfl, ba⟩; obtain ⟨hcw, bbw, bxw⟩ := HS1.out _ _ (by refine ⟨?_, ?_, ?_⟩ <;> first | assumption | (apply Below.drew; assumption) | (rw [World.cell?_drew]; assumption)) ba; clear ba)
    | (go_at_call_of 20 m; refine (HT.out m HQM.out (HR.out.below (by first | assumption | (apply Below.drew; assumption))) (Below.size (B := w1.heap.size) (w := w1) (by first | assumption | (apply Below.drew; assumption)))).mono ?_; rintro e wa ⟨rfl, ba⟩; obtain ⟨hcw, bbw, bxw⟩ := HS1.out _ _ (by refine ⟨?_, ?_, ?_⟩ <;> first | assumption | (apply Below.drew; assumption) | (rw [World.cell?_drew]; assumption)) ba; clear ba)
    | (go_at_call 20; refine (HT.out 1 HQ1.out (HR.out.below (by first | assumption | (apply Below.drew; assumption))) (Below.size (B := w1.heap.size) (w := w1) (by first | assumption | (apply Below.drew; assumption)))).mono ?_; rintro e wa ⟨rfl, ba⟩; obtain ⟨hcw, bbw, bxw⟩ := HS1.out _ _ (by refine ⟨?_, ?_, ?_⟩ <;> first | assumption | (apply Below.drew; assumption) | (rw [World.cell?_drew]; assumption)) ba; clear ba))
  all_goals (
    go_wp2_with fail
    go_ret
    exact ⟨rfl, bbw⟩)
end Go.Proofs.YtjgofoliikflaaaDoor
