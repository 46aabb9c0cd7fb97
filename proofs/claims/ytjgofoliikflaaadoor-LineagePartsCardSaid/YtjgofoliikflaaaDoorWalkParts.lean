/-
  The walk of LineageParts.
-/
import Derived.Test.YtjgofoliikflaaaDoorSame
namespace Go.Proofs.YtjgofoliikflaaaDoor
open Go.RowKit

theorem depth_of {s : ByteArray} {l : List Nat} (hs : s.size ≤ 1000) (h : ordsOf s.data.toList = l) (w : World) :
    Calls Tryd.prog 32 #[.string s] w fun e w' => e = .returned (.int .i64 (l.length : Int)) ∧ Below w.heap.size w w' := by
  rw [← h]; exact depth_any s hs w
theorem last_of {s : ByteArray} {x : Nat} (hs : s.size ≤ 1000) (h : (ordsOf s.data.toList).getLastD 0 = x) (w : World) :
    Calls Tryd.prog 33 #[.string s] w fun e w' => e = .returned (.int .i64 (x : Int)) ∧ Below w.heap.size w w' := by
  rw [← h]; exact last_any s hs w
theorem nm_ords {l : List Nat} (h : L.Ok l) : ordsOf (nm l).data.toList = l := by rw [nm_data, ordsOf_ok (L.bad_text h).1, (L.bad_text h).2]
theorem root_nm {l : List Nat} (h : L.Ok l) {w : World} (he : Env w) :
    Calls Tryd.prog 34 #[.string (nm l)] w fun e w' => e = .returned (.string (nm (l.take 1))) ∧ Below w.heap.size w w' := by
  obtain ⟨m, hm⟩ := he.max
  have := root_yes (nm l) (by have := ok_len h; omega) (nm_valid h) m w he.size hm
  rw [nm_data, L.root_text] at this
  exact this

set_option maxRecDepth 100000 in
set_option maxHeartbeats 4000000 in
theorem walkParts_bad {a : ByteArray} {k : Int} (ha : a.size ≤ maxLen) (w : World) (he : Env w) {x : L.Part} (hb : L.bad (cut8 a).data.toList = some x) :
    Calls Tryd.prog 9 #[.string a, .int .i64 k] w fun e w' => e = .returned (.bool true) ∧ Below w.heap.size w w' := by
  obtain ⟨A, hA⟩ : ∃ A, cut8 a = A := ⟨_, rfl⟩
  have s1 : A.size ≤ 1000 := by have := cut8_size a; rw [hA] at this; omega
  rw [hA] at hb
  have e0 : bs [] = ⟨#[]⟩ := rfl
  have ho : ordsOf A.data.toList = [] := ordsOf_bad hb
  have S1 := Lib.hid (short_of ha hA)
  have HK := Lib.hid (known_of he)
  have RP := Lib.hid (rp_bad s1 hb)
  have CH := Lib.hid (child_name A k s1 (valid_some hb))
  have PA : Hid (∀ w : World, Calls Tryd.prog 31 #[.string A] w fun e w' => e = .returned (.tuple #[.string ⟨#[]⟩, .bool false]) ∧ Below w.heap.size w w') := fun w => by
    rw [← e0]; exact parent_no A s1 (.inr (valid_some hb)) w
  have O1 := Lib.hid (ords_of (l := []) s1 ho)
  have SM : Hid (∀ (A : Option Addr) (c : Nat) (w : World), Calls Tryd.prog 16 #[.slice A 0 c, .slice none 0 0] w fun e w' => e = .returned (.bool true) ∧ Below w.heap.size w w') := fun A c w =>
    same_at (l := []) (B1 := 0) (B2 := 0) (Row.nil _ _ _) (Row.nil _ _ _) rfl rfl (by simp)
  have D1 : Hid (∀ w : World, Calls Tryd.prog 32 #[.string A] w fun e w' => e = .returned (.int .i64 0) ∧ Below w.heap.size w w') := depth_of (l := []) s1 ho
  have LA : Hid (∀ w : World, Calls Tryd.prog 33 #[.string A] w fun e w' => e = .returned (.int .i64 0) ∧ Below w.heap.size w w') := last_of (x := 0) s1 (by rw [ho]; rfl)
  have RT : Hid (∀ w : World, Calls Tryd.prog 34 #[.string A] w fun e w' => e = .returned (.string ⟨#[]⟩) ∧ Below w.heap.size w w') := fun w => by
    rw [← e0]; exact root_no A s1 (valid_some hb) w
  have bb := Below.refl w.heap.size w
  obtain ⟨t1, t2⟩ := bad_ne hb
  generalize (x.e : Int) = E at *
  generalize (x.at_ : Int) = F at *
  clear hb ho e0 hA s1 ha he
  go_enter Tryd.func9, Tryd.ntmps9
  go_wp2_with fail; (refine (S1.out _).mono ?_; rintro e w' ⟨rfl, rfl⟩)
  go_wp2_with fail; (refine (RP.out _).mono ?_; rintro e w' ⟨rfl, hb⟩; replace bb := bb.trans (hb.mono bb.size); clear hb)
  go_wp2_with fail; (refine (CH.out _).mono ?_; rintro e w' ⟨rfl, hb⟩; replace bb := bb.trans (hb.mono bb.size); clear hb)
  go_wp2_with fail; (refine (PA.out _).mono ?_; rintro e w' ⟨rfl, hb⟩; replace bb := bb.trans (hb.mono bb.size); clear hb)
  go_wp2_with fail; (refine (HK.out _ bb).mono ?_; rintro e w' ⟨rfl, hb⟩; replace bb := bb.trans (hb.mono bb.size); clear hb)
  go_wp2_with fail
  refine (O1.out _).mono ?_
  rintro e w2 ⟨A2, c2, rfl, r2, k2, b2⟩
  replace bb := bb.trans (b2.mono bb.size)
  clear b2 r2
  go_wp2_with fail
  refine (SM.out _ _ _).mono ?_
  rintro e w3 ⟨rfl, b3⟩
  replace bb := bb.trans (b3.mono bb.size)
  clear b3
  go_wp2_with fail; (refine (D1.out _).mono ?_; rintro e w' ⟨rfl, hb⟩; replace bb := bb.trans (hb.mono bb.size); clear hb)
  go_wp2_with fail; (refine (LA.out _).mono ?_; rintro e w' ⟨rfl, hb⟩; replace bb := bb.trans (hb.mono bb.size); clear hb)
  go_wp2_with fail; (refine (RT.out _).mono ?_; rintro e w' ⟨rfl, hb⟩; replace bb := bb.trans (hb.mono bb.size); clear hb)
  go_wp2_with fail
  go_ret
  exact ⟨rfl, bb⟩

set_option maxRecDepth 100000 in
set_option maxHeartbeats 8000000 in
theorem walkParts_nil_lo {a : ByteArray} {k : Int} (ha : a.size ≤ maxLen) (w : World) (he : Env w) (hA : cut8 a = nm ([] : List Nat)) (hk : k < 1) :
    Calls Tryd.prog 9 #[.string a, .int .i64 k] w fun e w' => e = .returned (.bool true) ∧ Below w.heap.size w w' := by
  have hl : L.Ok ([] : List Nat) := ⟨by simp, by simp⟩
  have s1 : (nm ([] : List Nat)).size ≤ 1000 := by have := ok_len hl; omega
  have hb := (L.bad_text hl).1
  have S1 := Lib.hid (short_of ha hA)
  have HK := Lib.hid (known_of he)
  have RP := Lib.hid (rp_ok s1 hb (L.bad_text hl).2)
  have CH := Lib.hid (child_range (nm ([] : List Nat)) k s1 (nm_valid hl) (.inl hk))
  have PA : Hid (∀ w : World, Calls Tryd.prog 31 #[.string (nm [])] w fun e w' => e = .returned (.tuple #[.string ⟨#[]⟩, .bool false]) ∧ Below w.heap.size w w') := fun w => parent_no (nm []) s1 (.inl rfl) w
  have LA : Hid (∀ w : World, Calls Tryd.prog 33 #[.string (nm [])] w fun e w' => e = .returned (.int .i64 0) ∧ Below w.heap.size w w') := last_of (x := 0) s1 (by rw [nm_ords hl]; rfl)
  have RT : Hid (∀ w' : World, Below w.heap.size w w' → Calls Tryd.prog 34 #[.string (nm [])] w' fun e w'' => e = .returned (.string ⟨#[]⟩) ∧ Below w'.heap.size w' w'') := fun w' hb => root_nm hl (he.below hb)
  have O1 := Lib.hid (ords_of (l := ([] : List Nat)) s1 (nm_ords hl))
  have SM : Hid (∀ (A1 A2 : Option Addr) (c1 c2 B1 B2 : Nat) (w : World), Row w B1 A1 (nums ([] : List Nat)) → Row w B2 A2 (nums ([] : List Nat)) → Calls Tryd.prog 16 #[.slice A1 0 c1, .slice A2 0 c2] w fun e w' => e = .returned (.bool true) ∧ Below w.heap.size w w') := fun A1 A2 c1 c2 B1 B2 w h1 h2 =>
    same_at h1 h2 (by first | rfl | exact hm.symm) (by first | rfl | exact hm.symm) (by have := hl.1; omega)
  have D1 := Lib.hid (depth_of (l := ([] : List Nat)) s1 (nm_ords hl))
  have bb := Below.refl w.heap.size w
  clear hb hA s1 ha he
  go_enter Tryd.func9, Tryd.ntmps9
  go_wp2_with fail; (refine (S1.out _).mono ?_; rintro e w' ⟨rfl, rfl⟩)
  go_wp2_with fail
  refine (RP.out _).mono ?_
  rintro e w1 ⟨A1, c1, rfl, r1, q1, b1⟩
  replace bb := bb.trans (b1.mono bb.size)
  have bx := Below.refl w1.heap.size w1
  clear b1
  go_wp2_with fail
  refine (CH.out _).mono ?_
  rintro e w' ⟨rfl, hb⟩
  replace bb := bb.trans (hb.mono bb.size)
  replace bx := bx.trans (hb.mono bx.size)
  clear hb
  go_wp2_with fail
  refine (PA.out _).mono ?_
  rintro e w' ⟨rfl, hb⟩
  replace bb := bb.trans (hb.mono bb.size)
  replace bx := bx.trans (hb.mono bx.size)
  clear hb
  go_wp2_with fail
  refine (HK.out _ bb).mono ?_
  rintro e w' ⟨rfl, hb⟩
  replace bb := bb.trans (hb.mono bb.size)
  replace bx := bx.trans (hb.mono bx.size)
  clear hb
  go_wp2_with fail
  refine (O1.out _).mono ?_
  rintro e w2 ⟨A2, c2, rfl, r2, q2, b2⟩
  replace bb := bb.trans (b2.mono bb.size)
  replace bx := bx.trans (b2.mono bx.size)
  clear b2
  go_wp2_with fail
  refine (SM.out _ _ _ _ _ _ _ r2 (r1.below bx)).mono ?_
  rintro e w3 ⟨rfl, b3⟩
  replace bb := bb.trans (b3.mono bb.size)
  replace bx := bx.trans (b3.mono bx.size)
  clear b3 r2 q2
  go_wp2_with fail
  refine (D1.out _).mono ?_
  rintro e w' ⟨rfl, hb⟩
  replace bb := bb.trans (hb.mono bb.size)
  replace bx := bx.trans (hb.mono bx.size)
  clear hb
  go_wp2_with fail
  refine (LA.out _).mono ?_
  rintro e w' ⟨rfl, hb⟩
  replace bb := bb.trans (hb.mono bb.size)
  replace bx := bx.trans (hb.mono bx.size)
  clear hb
  go_wp2_with fail
  refine (RT.out _ bb).mono ?_
  rintro e w' ⟨rfl, hb⟩
  replace bb := bb.trans (hb.mono bb.size)
  replace bx := bx.trans (hb.mono bx.size)
  clear hb
  go_wp2_with fail
  go_ret
  exact ⟨rfl, bb⟩

set_option maxRecDepth 100000 in
set_option maxHeartbeats 8000000 in
theorem walkParts_nil_hi {a : ByteArray} {k : Int} (ha : a.size ≤ maxLen) (w : World) (he : Env w) (hA : cut8 a = nm ([] : List Nat)) (hk : 999999 < k) :
    Calls Tryd.prog 9 #[.string a, .int .i64 k] w fun e w' => e = .returned (.bool true) ∧ Below w.heap.size w w' := by
  have hl : L.Ok ([] : List Nat) := ⟨by simp, by simp⟩
  have s1 : (nm ([] : List Nat)).size ≤ 1000 := by have := ok_len hl; omega
  have hb := (L.bad_text hl).1
  have S1 := Lib.hid (short_of ha hA)
  have HK := Lib.hid (known_of he)
  have RP := Lib.hid (rp_ok s1 hb (L.bad_text hl).2)
  have CH := Lib.hid (child_range (nm ([] : List Nat)) k s1 (nm_valid hl) (.inr hk))
  have PA : Hid (∀ w : World, Calls Tryd.prog 31 #[.string (nm [])] w fun e w' => e = .returned (.tuple #[.string ⟨#[]⟩, .bool false]) ∧ Below w.heap.size w w') := fun w => parent_no (nm []) s1 (.inl rfl) w
  have LA : Hid (∀ w : World, Calls Tryd.prog 33 #[.string (nm [])] w fun e w' => e = .returned (.int .i64 0) ∧ Below w.heap.size w w') := last_of (x := 0) s1 (by rw [nm_ords hl]; rfl)
  have RT : Hid (∀ w' : World, Below w.heap.size w w' → Calls Tryd.prog 34 #[.string (nm [])] w' fun e w'' => e = .returned (.string ⟨#[]⟩) ∧ Below w'.heap.size w' w'') := fun w' hb => root_nm hl (he.below hb)
  have O1 := Lib.hid (ords_of (l := ([] : List Nat)) s1 (nm_ords hl))
  have SM : Hid (∀ (A1 A2 : Option Addr) (c1 c2 B1 B2 : Nat) (w : World), Row w B1 A1 (nums ([] : List Nat)) → Row w B2 A2 (nums ([] : List Nat)) → Calls Tryd.prog 16 #[.slice A1 0 c1, .slice A2 0 c2] w fun e w' => e = .returned (.bool true) ∧ Below w.heap.size w w') := fun A1 A2 c1 c2 B1 B2 w h1 h2 =>
    same_at h1 h2 (by first | rfl | exact hm.symm) (by first | rfl | exact hm.symm) (by have := hl.1; omega)
  have D1 := Lib.hid (depth_of (l := ([] : List Nat)) s1 (nm_ords hl))
  have bb := Below.refl w.heap.size w
  have k1 : ¬ k < 1 := by omega
  clear hb hA s1 ha he
  go_enter Tryd.func9, Tryd.ntmps9
  go_wp2_with fail; (refine (S1.out _).mono ?_; rintro e w' ⟨rfl, rfl⟩)
  go_wp2_with fail
  refine (RP.out _).mono ?_
  rintro e w1 ⟨A1, c1, rfl, r1, q1, b1⟩
  replace bb := bb.trans (b1.mono bb.size)
  have bx := Below.refl w1.heap.size w1
  clear b1
  go_wp2_with fail
  refine (CH.out _).mono ?_
  rintro e w' ⟨rfl, hb⟩
  replace bb := bb.trans (hb.mono bb.size)
  replace bx := bx.trans (hb.mono bx.size)
  clear hb
  go_wp2_with fail
  refine (PA.out _).mono ?_
  rintro e w' ⟨rfl, hb⟩
  replace bb := bb.trans (hb.mono bb.size)
  replace bx := bx.trans (hb.mono bx.size)
  clear hb
  go_wp2_with fail
  refine (HK.out _ bb).mono ?_
  rintro e w' ⟨rfl, hb⟩
  replace bb := bb.trans (hb.mono bb.size)
  replace bx := bx.trans (hb.mono bx.size)
  clear hb
  go_wp2_with fail
  refine (O1.out _).mono ?_
  rintro e w2 ⟨A2, c2, rfl, r2, q2, b2⟩
  replace bb := bb.trans (b2.mono bb.size)
  replace bx := bx.trans (b2.mono bx.size)
  clear b2
  go_wp2_with fail
  refine (SM.out _ _ _ _ _ _ _ r2 (r1.below bx)).mono ?_
  rintro e w3 ⟨rfl, b3⟩
  replace bb := bb.trans (b3.mono bb.size)
  replace bx := bx.trans (b3.mono bx.size)
  clear b3 r2 q2
  go_wp2_with fail
  refine (D1.out _).mono ?_
  rintro e w' ⟨rfl, hb⟩
  replace bb := bb.trans (hb.mono bb.size)
  replace bx := bx.trans (hb.mono bx.size)
  clear hb
  go_wp2_with fail
  refine (LA.out _).mono ?_
  rintro e w' ⟨rfl, hb⟩
  replace bb := bb.trans (hb.mono bb.size)
  replace bx := bx.trans (hb.mono bx.size)
  clear hb
  go_wp2_with fail
  refine (RT.out _ bb).mono ?_
  rintro e w' ⟨rfl, hb⟩
  replace bb := bb.trans (hb.mono bb.size)
  replace bx := bx.trans (hb.mono bx.size)
  clear hb
  go_wp2_with fail
  go_ret
  exact ⟨rfl, bb⟩

set_option maxRecDepth 100000 in
set_option maxHeartbeats 8000000 in
theorem walkParts_nil_ok {a : ByteArray} {k : Nat} (ha : a.size ≤ maxLen) (w : World) (he : Env w) (hA : cut8 a = nm ([] : List Nat)) (hk1 : 1 ≤ k) (hk2 : k ≤ 999999) :
    Calls Tryd.prog 9 #[.string a, .int .i64 (k : Int)] w fun e w' => e = .returned (.bool true) ∧ Below w.heap.size w w' := by
  have hl : L.Ok ([] : List Nat) := ⟨by simp, by simp⟩
  have s1 : (nm ([] : List Nat)).size ≤ 1000 := by have := ok_len hl; omega
  have hb := (L.bad_text hl).1
  have S1 := Lib.hid (short_of ha hA)
  have HK := Lib.hid (known_of he)
  have RP := Lib.hid (rp_ok s1 hb (L.bad_text hl).2)
  have CH : Hid (∀ w' : World, Below w.heap.size w w' → Calls Tryd.prog 30 #[.string (nm ([] : List Nat)), .int .i64 (k : Int)] w' fun e w'' => e = .returned (.tuple #[.string (nm (([] : List Nat) ++ [k])), .int .i64 0]) ∧ Below w'.heap.size w' w'') := fun w' hb => child_ok hl (by simp) hk1 hk2 w' (he.below hb)
  have hc : L.Ok (([] : List Nat) ++ [k]) := ⟨by simp, fun x hx => by
    rcases List.mem_append.1 hx with hx | hx
    · exact hl.2 x hx
    · obtain rfl : x = k := by simpa using hx
      exact ⟨hk1, hk2⟩⟩
  have s2 : (nm (([] : List Nat) ++ [k])).size ≤ 1000 := by have := ok_len hc; omega
  have PC : Hid (∀ w : World, Calls Tryd.prog 31 #[.string (nm (([] : List Nat) ++ [k]))] w fun e w' => e = .returned (.tuple #[.string (nm ([] : List Nat)), .bool true]) ∧ Below w.heap.size w w') := fun w => by
    have := parent_nm hc (by simp) w
    rw [List.dropLast_concat] at this; exact this
  have LC := Lib.hid (last_of (x := k) s2 (by rw [nm_ords hc]; simp))
  have DC := Lib.hid (depth_of (l := ([] : List Nat) ++ [k]) s2 (nm_ords hc))
  rw [List.length_append, List.length_singleton] at DC
  have PA : Hid (∀ w : World, Calls Tryd.prog 31 #[.string (nm [])] w fun e w' => e = .returned (.tuple #[.string ⟨#[]⟩, .bool false]) ∧ Below w.heap.size w w') := fun w => parent_no (nm []) s1 (.inl rfl) w
  have LA : Hid (∀ w : World, Calls Tryd.prog 33 #[.string (nm [])] w fun e w' => e = .returned (.int .i64 0) ∧ Below w.heap.size w w') := last_of (x := 0) s1 (by rw [nm_ords hl]; rfl)
  have RT : Hid (∀ w' : World, Below w.heap.size w w' → Calls Tryd.prog 34 #[.string (nm [])] w' fun e w'' => e = .returned (.string ⟨#[]⟩) ∧ Below w'.heap.size w' w'') := fun w' hb => root_nm hl (he.below hb)
  have O1 := Lib.hid (ords_of (l := ([] : List Nat)) s1 (nm_ords hl))
  have SM : Hid (∀ (A1 A2 : Option Addr) (c1 c2 B1 B2 : Nat) (w : World), Row w B1 A1 (nums ([] : List Nat)) → Row w B2 A2 (nums ([] : List Nat)) → Calls Tryd.prog 16 #[.slice A1 0 c1, .slice A2 0 c2] w fun e w' => e = .returned (.bool true) ∧ Below w.heap.size w w') := fun A1 A2 c1 c2 B1 B2 w h1 h2 =>
    same_at h1 h2 (by first | rfl | exact hm.symm) (by first | rfl | exact hm.symm) (by have := hl.1; omega)
  have D1 := Lib.hid (depth_of (l := ([] : List Nat)) s1 (nm_ords hl))
  have bb := Below.refl w.heap.size w
  clear hc s2
  have k1 : ¬ (k : Int) < 1 := by omega
  have k2 : ¬ (999999 : Int) < k := by omega
  clear hk1 hk2
  clear hb hA s1 ha he
  go_enter Tryd.func9, Tryd.ntmps9
  go_wp2_with fail; (refine (S1.out _).mono ?_; rintro e w' ⟨rfl, rfl⟩)
  go_wp2_with fail
  refine (RP.out _).mono ?_
  rintro e w1 ⟨A1, c1, rfl, r1, q1, b1⟩
  replace bb := bb.trans (b1.mono bb.size)
  have bx := Below.refl w1.heap.size w1
  clear b1
  go_wp2_with fail
  refine (CH.out _ bb).mono ?_
  rintro e w' ⟨rfl, hb⟩
  replace bb := bb.trans (hb.mono bb.size)
  replace bx := bx.trans (hb.mono bx.size)
  clear hb
  go_wp2_with fail
  refine (PA.out _).mono ?_
  rintro e w' ⟨rfl, hb⟩
  replace bb := bb.trans (hb.mono bb.size)
  replace bx := bx.trans (hb.mono bx.size)
  clear hb
  go_wp2_with fail
  refine (HK.out _ bb).mono ?_
  rintro e w' ⟨rfl, hb⟩
  replace bb := bb.trans (hb.mono bb.size)
  replace bx := bx.trans (hb.mono bx.size)
  clear hb
  go_wp2_with fail
  refine (O1.out _).mono ?_
  rintro e w2 ⟨A2, c2, rfl, r2, q2, b2⟩
  replace bb := bb.trans (b2.mono bb.size)
  replace bx := bx.trans (b2.mono bx.size)
  clear b2
  go_wp2_with fail
  refine (SM.out _ _ _ _ _ _ _ r2 (r1.below bx)).mono ?_
  rintro e w3 ⟨rfl, b3⟩
  replace bb := bb.trans (b3.mono bb.size)
  replace bx := bx.trans (b3.mono bx.size)
  clear b3 r2 q2
  go_wp2_with fail
  refine (D1.out _).mono ?_
  rintro e w' ⟨rfl, hb⟩
  replace bb := bb.trans (hb.mono bb.size)
  replace bx := bx.trans (hb.mono bx.size)
  clear hb
  go_wp2_with fail
  refine (LA.out _).mono ?_
  rintro e w' ⟨rfl, hb⟩
  replace bb := bb.trans (hb.mono bb.size)
  replace bx := bx.trans (hb.mono bx.size)
  clear hb
  go_wp2_with fail
  refine (RT.out _ bb).mono ?_
  rintro e w' ⟨rfl, hb⟩
  replace bb := bb.trans (hb.mono bb.size)
  replace bx := bx.trans (hb.mono bx.size)
  clear hb
  go_wp2_with fail
  refine (PC.out _).mono ?_
  rintro e w' ⟨rfl, hb⟩
  replace bb := bb.trans (hb.mono bb.size)
  replace bx := bx.trans (hb.mono bx.size)
  clear hb
  go_wp2_with fail
  refine (LC.out _).mono ?_
  rintro e w' ⟨rfl, hb⟩
  replace bb := bb.trans (hb.mono bb.size)
  replace bx := bx.trans (hb.mono bx.size)
  clear hb
  go_wp2_with fail
  refine (DC.out _).mono ?_
  rintro e w' ⟨rfl, hb⟩
  replace bb := bb.trans (hb.mono bb.size)
  replace bx := bx.trans (hb.mono bx.size)
  clear hb
  go_wp2_with fail
  go_ret
  exact ⟨rfl, bb⟩
end Go.Proofs.YtjgofoliikflaaaDoor
