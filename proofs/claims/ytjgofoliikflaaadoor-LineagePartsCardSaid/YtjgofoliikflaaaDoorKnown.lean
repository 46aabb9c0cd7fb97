/-
  known: the document's examples hold.
-/
import Derived.Test.YtjgofoliikflaaaDoorMake2
namespace Go.Proofs.YtjgofoliikflaaaDoor
open Go.RowKit Go.Shelf

theorem dd (k : Nat) (h : k < 10) : Lib.decDigits k = [UInt8.ofNat (48 + k)] := decDigits_small h
theorem n31 : nm [3, 1] = ⟨#[51, 46, 49]⟩ := by unfold nm; simp [L.text, dd]; rfl
theorem n312 : nm [3, 1, 2] = ⟨#[51, 46, 49, 46, 50]⟩ := by unfold nm; simp [L.text, dd]; rfl
theorem n310 : nm [3, 10] = ⟨#[51, 46, 49, 48]⟩ := by
  have : Lib.decDigits 10 = [49, 48] := by rw [decDigits_big (by omega), dd 1 (by omega)]; rfl
  unfold nm; simp [L.text, dd, this]; rfl
theorem n3 : nm [3] = ⟨#[51]⟩ := by unfold nm; simp [L.text, dd]; rfl
theorem n32 : nm [3, 2] = ⟨#[51, 46, 50]⟩ := by unfold nm; simp [L.text, dd]; rfl
theorem ok1 (l : List Nat) (h : l.length ≤ 8) (h2 : l.all (fun x => decide (1 ≤ x) && decide (x ≤ 999999)) = true) : L.Ok l :=
  ⟨h, fun x hx => by have := List.all_eq_true.1 h2 x hx; simpa using this⟩

theorem k_make {w : World} {b : Nat} (hb : b < w.heap.size) (hc : w.heap[b]? = some (.cells #[.int .i64 3, .int .i64 1] 3 (0, 0))) (he : Env w) :
    Calls Tryd.prog 12 #[.slice (some ⟨b, 0, none⟩) 2 2] w fun e w' => e = .returned (.tuple #[.string ⟨#[51, 46, 49]⟩, .int .i64 0]) ∧ Below w.heap.size w w' := by
  have hr : Row w w.heap.size (some ⟨b, 0, none⟩) (ints [3, 1]) := .inr ⟨b, 0, rfl, hb, fun j u hu => by
    have : j < 2 := by have := (List.getElem?_eq_some_iff.1 hu).1; simpa [ints] using this
    rcases (show j = 0 ∨ j = 1 by omega) with rfl | rfl
    · simp [ints] at hu; subst hu; simp [World.cell?, hc]
    · simp [ints] at hu; subst hu; simp [World.cell?, hc]⟩
  have := make_any (xs := [3, 1]) (c := 2) (by simp) hr (Nat.le_refl _) he
  rw [show madeV [3, 1] = #[.string ⟨#[51, 46, 49]⟩, .int .i64 0] by rw [← n31]; rfl] at this
  exact this
theorem k_child (w : World) (he : Env w) :
    Calls Tryd.prog 30 #[.string ⟨#[51, 46, 49]⟩, .int .i64 2] w fun e w' => e = .returned (.tuple #[.string ⟨#[51, 46, 49, 46, 50]⟩, .int .i64 0]) ∧ Below w.heap.size w w' := by
  have := child_ok (ok1 [3, 1] (by simp) (by decide)) (by simp) (n := 2) (by omega) (by omega) w he
  rw [n31, show [3, 1] ++ [2] = [3, 1, 2] from rfl, n312] at this
  exact this
theorem k_bad1 : L.bad [51, 46, 46, 49] = some ⟨0, 2, 6⟩ := by rfl
theorem k_bad2 : L.bad [51, 46, 48, 49] = some ⟨0, 2, 3⟩ := by rfl
theorem k_parse1 (w : World) :
    Calls Tryd.prog 15 #[.string ⟨#[51, 46, 46, 49]⟩] w fun e w' => e = .returned (.tuple #[.string ⟨#[]⟩, .int .i64 2, .int .i64 6]) ∧ Below w.heap.size w w' :=
  parse_bad (s := ⟨#[51, 46, 46, 49]⟩) (by decide) k_bad1 w
theorem k_parse2 (w : World) :
    Calls Tryd.prog 15 #[.string ⟨#[51, 46, 48, 49]⟩] w fun e w' => e = .returned (.tuple #[.string ⟨#[]⟩, .int .i64 2, .int .i64 3]) ∧ Below w.heap.size w w' :=
  parse_bad (s := ⟨#[51, 46, 48, 49]⟩) (by decide) k_bad2 w
theorem k_common (w : World) :
    Calls Tryd.prog 24 #[.string ⟨#[51, 46, 49, 46, 50]⟩, .string ⟨#[51, 46, 49, 48]⟩] w fun e w' => e = .returned (.string ⟨#[51]⟩) ∧ Below w.heap.size w w' := by
  have := common_nm (ok1 [3, 1, 2] (by simp) (by decide)) (ok1 [3, 10] (by simp) (by decide)) w
  rw [n312, n310, show L.lcp [3, 1, 2] [3, 10] = [3] from rfl, n3] at this
  exact this
theorem k_compare (w : World) :
    Calls Tryd.prog 26 #[.string ⟨#[51, 46, 50]⟩, .string ⟨#[51, 46, 49, 48]⟩] w fun e w' => e = .returned (.int .i64 (-1)) ∧ Below w.heap.size w w' := by
  have h1 := ok1 [3, 2] (by simp) (by decide)
  have h2 := ok1 [3, 10] (by simp) (by decide)
  have hne : L.text [3, 2] ≠ L.text [3, 10] := fun h => by have := L.text_inj h1 h2 h; simp at this
  have e : cmpS (nm [3, 2]).data.toList (nm [3, 10]).data.toList = -1 := by
    rw [nm_data, nm_data, cmpS, if_neg hne, valid_none (L.bad_text h1).1, valid_none (L.bad_text h2).1, ordsOf_ok (L.bad_text h1).1, ordsOf_ok (L.bad_text h2).1, (L.bad_text h1).2, (L.bad_text h2).2]
    rfl
  have := compare_any (nm [3, 2]) (nm [3, 10]) (by rw [n32]; decide) (by rw [n310]; decide) w
  rw [e, n32, n310] at this
  exact this

set_option maxRecDepth 100000 in
set_option maxHeartbeats 800000 in
theorem known_any (w : World) (he : Env w) :
    Calls Tryd.prog 14 #[] w fun e w' => e = .returned (.bool true) ∧ Below w.heap.size w w' := by
  go_enter Tryd.func14, Tryd.ntmps14
  go_wp2_with fail
  have b0 := (Below.refl w.heap.size w).alloc (Nat.le_refl _) (.cells #[.int .i64 3, .int .i64 1] 3)
  refine (k_make (b := w.heap.size) (by simp) (World.alloc_heap_new w _) (he.below b0)).mono ?_
  rintro e w1 ⟨rfl, b1⟩
  have c1 := b0.trans (b1.mono b0.size)
  clear b0 b1
  go_wp2_with fail
  refine (k_child _ (he.below c1)).mono ?_
  rintro e w2 ⟨rfl, b2⟩
  have c2 := c1.trans (b2.mono c1.size)
  clear b2 c1
  go_wp2_with fail
  refine (k_parse1 _).mono ?_
  rintro e w3 ⟨rfl, b3⟩
  have c3 := c2.trans (b3.mono c2.size)
  clear b3 c2
  go_wp2_with fail
  refine (k_parse2 _).mono ?_
  rintro e w4 ⟨rfl, b4⟩
  have c4 := c3.trans (b4.mono c3.size)
  clear b4 c3
  go_wp2_with fail
  refine (k_common _).mono ?_
  rintro e w5 ⟨rfl, b5⟩
  have c5 := c4.trans (b5.mono c4.size)
  clear b5 c4
  go_wp2_with fail
  refine (k_compare _).mono ?_
  rintro e w6 ⟨rfl, b6⟩
  go_wp2_with fail
  go_ret
  exact ⟨rfl, c5.trans (b6.mono c5.size)⟩
end Go.Proofs.YtjgofoliikflaaaDoor
