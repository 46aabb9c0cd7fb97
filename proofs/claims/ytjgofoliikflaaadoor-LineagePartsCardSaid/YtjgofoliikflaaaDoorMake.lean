/-
  The environment of library variables; Itoa, Child, Make, the reference's Make, same.
-/
import Derived.Test.YtjgofoliikflaaaDoorCommon
import Derived.Lib.LaidTab
import Derived.Sort.Grow
namespace Go.Proofs.YtjgofoliikflaaaDoor
open Go.RowKit Go.Shelf

/-- What the calls ask of the library's variables. -/
structure Env (w : World) : Prop where
  tab : Lib.TabIs Tryd.prog w "internal/strconv.uint64pow10" .u64 Lib.pow10Tab
  max : ∃ m, w.cell? ⟨1, 0, none⟩ = some (.int .i64 m)
  size : 6 ≤ w.heap.size
theorem tabG : Tryd.prog.globalNamed "internal/strconv.uint64pow10" = some 3 := by kernel_rfl
theorem Env.below {w w' : World} (h : Env w) (hb : Below w.heap.size w w') : Env w' :=
  ⟨var?_below hb tabG (by have := h.size; show 3 < _; omega) h.tab, by
    obtain ⟨m, hm⟩ := h.max
    exact ⟨m, (hb.cell (p := ⟨1, 0, none⟩) (by have := h.size; show 1 < _; omega)).trans hm⟩, Nat.le_trans h.size hb.size⟩

theorem below_grow {w : World} (k : Nat) (os : Array Obj) : Below w.heap.size w (Go.Sort.grow (w.drewN k) os) :=
  ⟨rfl, rfl, rfl, by simp [Go.Sort.grow, World.drewN], fun i hi => by
    show (w.heap ++ os)[i]? = _
    rw [Array.getElem?_append_left hi]⟩

theorem itoa_any (n : Nat) (hn : n ≤ 999999) (w : World) (he : Env w) :
    Calls Tryd.prog 44 #[.int .i64 (n : Int)] w fun e w' => e = .returned (.string (bs (Lib.decDigits n))) ∧ Below w.heap.size w w' := by
  refine (Tryd.strconv_Itoa (n : Int) (by omega) (by omega) w he.tab).mono ?_
  rintro e w' ⟨rfl, k, os, rfl⟩
  refine ⟨?_, below_grow k os⟩
  rw [show Lib.itoa (n : Int) = Lib.decDigits n by unfold Lib.itoa; rw [if_neg (by omega), Int.toNat_natCast]]
  rfl

/-! ### Child -/
theorem child_name (s : ByteArray) (n : Int) (hs : s.size ≤ 1000) (h : L.valid s.data.toList = false) (w : World) :
    Calls Tryd.prog 30 #[.string s, .int .i64 n] w fun e w' => e = .returned (.tuple #[.string ⟨#[]⟩, .int .i64 12]) ∧ Below w.heap.size w w' := by
  have H1 := Lib.hid (valid_of hs h)
  clear h
  go_enter Tryd.func30, Tryd.ntmps30
  go_wp2_with fail
  refine (H1.out _).mono ?_
  rintro e w1 ⟨rfl, b1⟩
  go_wp2_with fail
  go_ret2
  exact ⟨rfl, b1⟩
theorem child_range (s : ByteArray) (n : Int) (hs : s.size ≤ 1000) (h : L.valid s.data.toList = true) (hn : n < 1 ∨ 999999 < n) (w : World) :
    Calls Tryd.prog 30 #[.string s, .int .i64 n] w fun e w' => e = .returned (.tuple #[.string ⟨#[]⟩, .int .i64 2]) ∧ Below w.heap.size w w' := by
  have H1 := Lib.hid (valid_of hs h)
  have e : (decide (1 ≤ n) && decide (n ≤ 999999)) = false := by
    rcases hn with h | h
    · simp; intro h'; omega
    · simp; intro h'; omega
  have H2 : Hid (∀ w, Calls Tryd.prog 43 #[.int .i64 n] w fun e w' => e = .returned (.bool false) ∧ w = w') := fun w => by rw [← e]; exact isOrdinal_any n w
  clear h e hn
  go_enter Tryd.func30, Tryd.ntmps30
  go_wp2_with fail
  refine (H1.out _).mono ?_
  rintro e w1 ⟨rfl, b1⟩
  go_wp2_with fail
  refine (H2.out _).mono ?_
  rintro e w2 ⟨rfl, rfl⟩
  go_wp2_with fail
  go_ret2
  exact ⟨rfl, b1⟩
theorem isOrd_yes {n : Nat} (h1 : 1 ≤ n) (h2 : n ≤ 999999) (w : World) : Calls Tryd.prog 43 #[.int .i64 (n : Int)] w fun e w' => e = .returned (.bool true) ∧ w = w' := by
  have e : (decide (1 ≤ (n : Int)) && decide ((n : Int) ≤ 999999)) = true := by simp; omega
  rw [← e]; exact isOrdinal_any n w
theorem child_limit {l : List Nat} (hl : L.Ok l) (h8 : l.length = 8) {n : Nat} (h1 : 1 ≤ n) (h2 : n ≤ 999999) (w : World) :
    Calls Tryd.prog 30 #[.string (nm l), .int .i64 (n : Int)] w fun e w' => e = .returned (.tuple #[.string ⟨#[]⟩, .int .i64 9]) ∧ Below w.heap.size w w' := by
  have hs := ok_len hl
  have H1 := Lib.hid (valid_of (s := nm l) (by omega) (nm_valid hl))
  have H2 := Lib.hid (isOrd_yes h1 h2)
  have e : (ordsOf (nm l).data.toList).length = 8 := by rw [nm_data, ordsOf_ok (L.bad_text hl).1, (L.bad_text hl).2, h8]
  have H3 : Hid (∀ w, Calls Tryd.prog 32 #[.string (nm l)] w fun e w' => e = .returned (.int .i64 8) ∧ Below w.heap.size w w') := fun w => by
    have := depth_any (nm l) (by omega) w
    rw [e] at this; exact this
  clear e h8
  go_enter Tryd.func30, Tryd.ntmps30
  go_wp2_with fail
  refine (H1.out _).mono ?_
  rintro e w1 ⟨rfl, b1⟩
  go_wp2_with fail
  refine (H2.out _).mono ?_
  rintro e w2 ⟨rfl, rfl⟩
  go_wp2_with fail
  refine (H3.out _).mono ?_
  rintro e w3 ⟨rfl, b3⟩
  go_wp2_with fail
  go_ret2
  exact ⟨rfl, b1.trans (b3.mono b1.size)⟩
theorem child_ok {l : List Nat} (hl : L.Ok l) (h8 : l.length < 8) {n : Nat} (h1 : 1 ≤ n) (h2 : n ≤ 999999) (w : World) (he : Env w) :
    Calls Tryd.prog 30 #[.string (nm l), .int .i64 (n : Int)] w fun e w' => e = .returned (.tuple #[.string (nm (l ++ [n])), .int .i64 0]) ∧ Below w.heap.size w w' := by
  have hs := ok_len hl
  have H1 := Lib.hid (valid_of (s := nm l) (by omega) (nm_valid hl))
  have H2 := Lib.hid (isOrd_yes h1 h2)
  have e : (ordsOf (nm l).data.toList).length = l.length := by rw [nm_data, ordsOf_ok (L.bad_text hl).1, (L.bad_text hl).2]
  have H3 : Hid (∀ w, Calls Tryd.prog 32 #[.string (nm l)] w fun e w' => e = .returned (.int .i64 (l.length : Int)) ∧ Below w.heap.size w w') := fun w => by
    have := depth_any (nm l) (by omega) w
    rw [e] at this; exact this
  have t1 : ((l.length : Int) == 8) = false := beq_eq_false_iff_ne.2 (by omega)
  have H4 := Lib.hid (itoa_any n h2)
  clear e
  have hd : (bs (Lib.decDigits n)).size ≤ 20 := by
    rw [bs_size]; have := decDigits_len 18 n (by omega); omega
  by_cases h0 : l = []
  · have e1 : (nm l).toList = [] := by rw [h0, Lib.toList_data]; rfl
    have e2 : nm (l ++ [n]) = bs (Lib.decDigits n) := by rw [h0]; rfl
    rw [e2]
    clear e2 h0
    go_enter Tryd.func30, Tryd.ntmps30
    go_wp2_with fail
    refine (H1.out _).mono ?_
    rintro e w1 ⟨rfl, b1⟩
    go_wp2_with fail
    refine (H2.out _).mono ?_
    rintro e w2 ⟨rfl, rfl⟩
    go_wp2_with fail
    refine (H3.out _).mono ?_
    rintro e w3 ⟨rfl, b3⟩
    have b3' := b1.trans (b3.mono b1.size)
    clear b1 b3
    go_wp2_with fail
    refine (H4.out _ (he.below b3')).mono ?_
    rintro e w4 ⟨rfl, b4⟩
    go_wp2_with fail
    go_ret2
    exact ⟨rfl, b3'.trans (b4.mono b3'.size)⟩
  · have e1 : (nm l).toList.isEmpty = false := by rw [Lib.toList_data, nm_data]; have := L.text_ne h0; simpa using this
    have e2 : nm (l ++ [n]) = nm l ++ ⟨#[46]⟩ ++ bs (Lib.decDigits n) := by
      show bs _ = bs _ ++ bs [46] ++ _
      rw [L.text_append l [n] h0 (by simp), bs_app, bs_app]; simp [L.text]
    have E2 := Lib.hid e2
    clear e2 h0
    go_enter Tryd.func30, Tryd.ntmps30
    go_wp2_with fail
    refine (H1.out _).mono ?_
    rintro e w1 ⟨rfl, b1⟩
    go_wp2_with fail
    refine (H2.out _).mono ?_
    rintro e w2 ⟨rfl, rfl⟩
    go_wp2_with fail
    refine (H3.out _).mono ?_
    rintro e w3 ⟨rfl, b3⟩
    have b3' := b1.trans (b3.mono b1.size)
    clear b1 b3
    go_wp2_with fail
    refine (H4.out _ (he.below b3')).mono ?_
    rintro e w4 ⟨rfl, b4⟩
    go_wp2_with fail
    go_ret2
    exact ⟨by rw [E2.out]; rfl, b3'.trans (b4.mono b3'.size)⟩
end Go.Proofs.YtjgofoliikflaaaDoor
