import Derived.Test.YtjgofoliikflaaaDoorProg
import Derived.Test.YtjgofoliikflaaaDoorPlain
import Derived.WalkKit
import Derived.WalkLawsBesides
import Derived.WalkSpells
import Derived.Lib.Hide
namespace Go.Proofs.YtjgofoliikflaaaDoor
open Go.RowKit

theorem isDigit_any (c : UInt8) (w : World) :
    Calls Tryd.prog 83 #[.int .u8 (c.toNat : Int)] w fun e w' => e = .returned (.bool (L.dig c)) ∧ w = w' := by
  go_enter Tryd.func83, Tryd.ntmps83
  go_wp2
  all_goals go_ret
  · have h : 48 ≤ (c.toNat : Int) := by assumption
    exact ⟨by have : 48 ≤ c.toNat := by omega
              simp [L.dig, this]; omega, rfl⟩
  · have h : (c.toNat : Int) < 48 := by assumption
    exact ⟨by have : ¬ 48 ≤ c.toNat := by omega
              simp [L.dig, this], rfl⟩

def partV (p : L.Part) : Value := .agg #[.int .i64 p.ord, .int .i64 p.at_, .int .i64 p.e]

theorem len_drop {s : ByteArray} {a : Nat} : (s.data.toList.drop a).length = s.size - a := by simp
theorem get_drop {s : ByteArray} {a k : Nat} (h : k < (s.data.toList.drop a).length) : (s.data.toList.drop a)[k] = s[a + k]'(by rw [len_drop] at h; omega) := by
  simp
  rfl

/-! Which error: the tests as the walk leaves them. -/
section
variable {s : ByteArray} {a count k : Nat}
theorem E9 (h : ((count : Int) == 8) = true) : L.firstE s.data.toList a count = 9 := by
  have : count = 8 := by have := eq_of_beq h; omega
  simp [L.firstE, this]
theorem E4 (h : ((count : Int) == 8) = false) (h2 : ((a : Int) == (s.size : Int)) = true) : L.firstE s.data.toList a count = 4 := by
  have h' : ¬ count = 8 := by have := ne_of_beq_false h; omega
  have : a = s.data.toList.length := by have := eq_of_beq h2; simp; omega
  rw [L.firstE, if_neg h', if_pos this]
theorem E6 (h : ((count : Int) == 8) = false) (h2 : ((a : Int) == (s.size : Int)) = false) (h3 : ((a : Int) + (k : Int) == (a : Int)) = true) (hk : k = L.dc 7 (s.data.toList.drop a)) :
    L.firstE s.data.toList a count = 6 := by
  have h' : ¬ count = 8 := by have := ne_of_beq_false h; omega
  have h'' : ¬ a = s.data.toList.length := by have := ne_of_beq_false h2; simp; omega
  have h3' : L.dc 7 (s.data.toList.drop a) = 0 := by have := eq_of_beq h3; omega
  rw [L.firstE, if_neg h', if_neg h'', if_pos h3']
theorem at_toList (h : a < s.size) : s.data.toList[a]? = some s[a] := by
  rw [List.getElem?_eq_getElem (by simpa using h)]
  rfl
theorem byte48 {c : UInt8} (h : ((c.toNat : Int) == 48) = true) : c = 48 := by
  have := eq_of_beq h
  exact UInt8.toNat_inj.1 (by show c.toNat = 48; omega)
theorem byte48n {c : UInt8} (h : ((c.toNat : Int) == 48) = false) : c ≠ 48 := by
  rintro rfl
  exact ne_of_beq_false h rfl
theorem E3 (h : ((count : Int) == 8) = false) (h2 : ((a : Int) == (s.size : Int)) = false) (h3 : ((a : Int) + (k : Int) == (a : Int)) = false) (hk : k = L.dc 7 (s.data.toList.drop a)) (hl : a < s.size) (h4 : ((s[a].toNat : Int) == 48) = true) :
    L.firstE s.data.toList a count = 3 := by
  have h' : ¬ count = 8 := by have := ne_of_beq_false h; omega
  have h'' : ¬ a = s.data.toList.length := by have := ne_of_beq_false h2; simp; omega
  have h3' : ¬ L.dc 7 (s.data.toList.drop a) = 0 := by have := ne_of_beq_false h3; omega
  rw [L.firstE, if_neg h', if_neg h'', if_neg h3', if_pos (by rw [at_toList hl, byte48 h4])]
theorem E2 (h : ((count : Int) == 8) = false) (h2 : ((a : Int) == (s.size : Int)) = false) (h3 : ((a : Int) + (k : Int) == (a : Int)) = false) (hk : k = L.dc 7 (s.data.toList.drop a)) (hl : a < s.size) (h4 : ((s[a].toNat : Int) == 48) = false)
    (h5 : (6 : Int) < (a : Int) + (k : Int) - (a : Int)) : L.firstE s.data.toList a count = 2 := by
  have h' : ¬ count = 8 := by have := ne_of_beq_false h; omega
  have h'' : ¬ a = s.data.toList.length := by have := ne_of_beq_false h2; simp; omega
  have h3' : ¬ L.dc 7 (s.data.toList.drop a) = 0 := by have := ne_of_beq_false h3; omega
  rw [L.firstE, if_neg h', if_neg h'', if_neg h3', if_neg (by rw [at_toList hl]; intro e; exact byte48n h4 (Option.some.inj e)), if_pos (by omega)]
theorem E0 (h : ((count : Int) == 8) = false) (h2 : ((a : Int) == (s.size : Int)) = false) (h3 : ((a : Int) + (k : Int) == (a : Int)) = false) (hk : k = L.dc 7 (s.data.toList.drop a)) (hl : a < s.size) (h4 : ((s[a].toNat : Int) == 48) = false)
    (h5 : (a : Int) + (k : Int) - (a : Int) ≤ 6) : L.firstE s.data.toList a count = 0 := by
  have h' : ¬ count = 8 := by have := ne_of_beq_false h; omega
  have h'' : ¬ a = s.data.toList.length := by have := ne_of_beq_false h2; simp; omega
  have h3' : ¬ L.dc 7 (s.data.toList.drop a) = 0 := by have := ne_of_beq_false h3; omega
  rw [L.firstE, if_neg h', if_neg h'', if_neg h3', if_neg (by rw [at_toList hl]; intro e; exact byte48n h4 (Option.some.inj e)), if_neg (by omega)]
theorem absurd_at (h2 : ((a : Int) == (s.size : Int)) = false) (ha : a ≤ s.size) (hn : ¬ a < s.size) : False := by
  have := ne_of_beq_false h2; omega
/-- The value in each case. -/
theorem first_err {E : Nat} (hE : L.firstE s.data.toList a count = E) (h0 : E ≠ 0) :
    Ending.returned (.tuple #[.agg #[.int .i64 0, .int .i64 (a : Int), .int .i64 (E : Int)], .int .i64 (a : Int)]) =
      Ending.returned (.tuple #[partV (L.first s.data.toList a count).1, .int .i64 ((L.first s.data.toList a count).2 : Int)]) := by
  rw [L.first, if_neg (by rw [hE]; exact h0), hE]; rfl
theorem first_ok (hE : L.firstE s.data.toList a count = 0) (hk : k = L.dc 7 (s.data.toList.drop a)) :
    Ending.returned (.tuple #[.agg #[.int .i64 (L.val ((s.data.toList.drop a).take k) : Int), .int .i64 (a : Int), .int .i64 0], .int .i64 ((a : Int) + (k : Int))]) =
      Ending.returned (.tuple #[partV (L.first s.data.toList a count).1, .int .i64 ((L.first s.data.toList a count).2 : Int)]) := by
  rw [L.first, if_pos hE, hk]; rfl
end

set_option maxHeartbeats 800000 in
theorem first_any (s : ByteArray) (a count : Nat) (hs : s.size ≤ maxLen) (ha : a ≤ s.size) (w : World) :
    Calls Tryd.prog 67 #[.string s, .int .i64 (a : Int), .int .i64 (count : Int)] w fun e w' =>
      e = .returned (.tuple #[partV (L.first s.data.toList a count).1, .int .i64 ((L.first s.data.toList a count).2 : Int)]) ∧ Below w.heap.size w w' := by
  unfold maxLen at hs
  go_enter Tryd.func67, Tryd.ntmps67
  go_wp2
  go_loop [8, 9] (fun n o => ∃ k : Nat, a + k ≤ s.size ∧ k ≤ L.dc 7 (s.data.toList.drop a) ∧ n = .int .i64 ((a + k : Nat) : Int) ∧ o = .int .i64 (L.val ((s.data.toList.drop a).take k) : Int)) (fun n _ => s.size - (intOf n).toNat)
  case atStart => exact ⟨0, by omega, by omega, rfl, rfl⟩
  case round =>
    obtain ⟨k, hk1, hk2, rfl, rfl⟩ := hrel
    have hk3 := L.dc_le 7 (s.data.toList.drop a)
    have hv := L.val_bd7 _ k hk2
    by_cases hg : k < L.dc 7 (s.data.toList.drop a)
    · have hlt : a + k < s.size := by have := L.dc_len 7 (s.data.toList.drop a); rw [len_drop] at this; omega
      have hd : L.dig s[a + k] = true := by
        obtain ⟨h1, h2⟩ := L.dc_lt _ _ _ hg
        rwa [get_drop h1] at h2
      have hb := L.dig_bd hd
      have Hv : Hid (L.val ((s.data.toList.drop a).take (k + 1)) = L.val ((s.data.toList.drop a).take k) * 10 + (s[a + k].toNat - 48)) := by
        obtain ⟨h1, h2⟩ := L.dc_lt _ _ _ hg
        rw [← get_drop h1]; exact L.val_take_succ _ _ h1
      have hk6 : k ≤ 6 := by omega
      go_wp2_with (go_at_call 83; refine (isDigit_any _ _).mono ?_; rintro e w' ⟨rfl, rfl⟩)
      go_round
      case rel => exact ⟨k + 1, by omega, by omega, by go_num, by rw [Hv.out]; congr 1; omega⟩
      case measure => simp [intOf]; omega
    · have hkd : k = L.dc 7 (s.data.toList.drop a) := by omega
      have Hk := Lib.hid hkd
      have hx : k = 7 ∨ a + k = s.size ∨ ∃ h : a + k < s.size, L.dig s[a + k] = false := by
        by_cases h1 : L.dc 7 (s.data.toList.drop a) < 7
        · by_cases h2 : a + k < s.size
          · refine .inr (.inr ⟨h2, ?_⟩)
            have h3 := L.dc_end _ _ h1 (by rw [len_drop]; omega)
            rw [get_drop] at h3
            simpa [← hkd] using h3
          · exact .inr (.inl (by omega))
        · exact .inl (by omega)
      clear hkd hg
      have hx' := Lib.hid hx
      clear hx
      rcases hx'.out with h7 | hend | ⟨hlt, hd⟩
      · have h7' : (6 : Int) < (a : Int) + (k : Int) - (a : Int) := by omega
        clear h7
        go_wp2_with (go_at_call 83; refine (isDigit_any _ _).mono ?_; rintro e w' ⟨rfl, rfl⟩)
        all_goals first
          | (exfalso; exact absurd_at ‹_› ha ‹_›)
          | (have hE := E9 (s := s) (a := a) (count := count) ‹_›
             refine bodyPost_ret (v := .tuple #[.agg #[.int .i64 0, .int .i64 (a : Int), .int .i64 ((9 : Nat) : Int)], .int .i64 (a : Int)]) (by simp [results, Tryd.results67, go_sem]) rfl ⟨first_err hE (by decide), (Below.refl _ _).alloc (Nat.le_refl _) _⟩)
          | (have hE := E4 (s := s) (a := a) (count := count) ‹_› ‹_›
             refine bodyPost_ret (v := .tuple #[.agg #[.int .i64 0, .int .i64 (a : Int), .int .i64 ((4 : Nat) : Int)], .int .i64 (a : Int)]) (by simp [results, Tryd.results67, go_sem]) rfl ⟨first_err hE (by decide), (Below.refl _ _).alloc (Nat.le_refl _) _⟩)
          | (have hE := E6 (s := s) (a := a) (count := count) ‹_› ‹_› (k := k) ‹_› Hk.out
             refine bodyPost_ret (v := .tuple #[.agg #[.int .i64 0, .int .i64 (a : Int), .int .i64 ((6 : Nat) : Int)], .int .i64 (a : Int)]) (by simp [results, Tryd.results67, go_sem]) rfl ⟨first_err hE (by decide), (Below.refl _ _).alloc (Nat.le_refl _) _⟩)
          | (have hE := E3 (s := s) (a := a) (count := count) ‹_› ‹_› (k := k) ‹_› Hk.out ‹_› ‹_›
             refine bodyPost_ret (v := .tuple #[.agg #[.int .i64 0, .int .i64 (a : Int), .int .i64 ((3 : Nat) : Int)], .int .i64 (a : Int)]) (by simp [results, Tryd.results67, go_sem]) rfl ⟨first_err hE (by decide), (Below.refl _ _).alloc (Nat.le_refl _) _⟩)
          | (have hE := E2 (s := s) (a := a) (count := count) ‹_› ‹_› (k := k) ‹_› Hk.out ‹_› ‹_› ‹_›
             refine bodyPost_ret (v := .tuple #[.agg #[.int .i64 0, .int .i64 (a : Int), .int .i64 ((2 : Nat) : Int)], .int .i64 (a : Int)]) (by simp [results, Tryd.results67, go_sem]) rfl ⟨first_err hE (by decide), (Below.refl _ _).alloc (Nat.le_refl _) _⟩)
          | (have hE := E0 (s := s) (a := a) (count := count) ‹_› ‹_› (k := k) ‹_› Hk.out ‹_› ‹_› ‹_›
             refine bodyPost_ret (v := .tuple #[.agg #[.int .i64 (L.val ((s.data.toList.drop a).take k) : Int), .int .i64 (a : Int), .int .i64 0], .int .i64 ((a : Int) + (k : Int))]) (by simp [results, Tryd.results67, go_sem]) rfl ⟨first_ok hE Hk.out, (Below.refl _ _).alloc (Nat.le_refl _) _⟩)
      · have hge : s.size ≤ a + k := by omega
        clear hend
        go_wp2_with (go_at_call 83; refine (isDigit_any _ _).mono ?_; rintro e w' ⟨rfl, rfl⟩)
        all_goals first
          | (exfalso; exact absurd_at ‹_› ha ‹_›)
          | (have hE := E9 (s := s) (a := a) (count := count) ‹_›
             refine bodyPost_ret (v := .tuple #[.agg #[.int .i64 0, .int .i64 (a : Int), .int .i64 ((9 : Nat) : Int)], .int .i64 (a : Int)]) (by simp [results, Tryd.results67, go_sem]) rfl ⟨first_err hE (by decide), (Below.refl _ _).alloc (Nat.le_refl _) _⟩)
          | (have hE := E4 (s := s) (a := a) (count := count) ‹_› ‹_›
             refine bodyPost_ret (v := .tuple #[.agg #[.int .i64 0, .int .i64 (a : Int), .int .i64 ((4 : Nat) : Int)], .int .i64 (a : Int)]) (by simp [results, Tryd.results67, go_sem]) rfl ⟨first_err hE (by decide), (Below.refl _ _).alloc (Nat.le_refl _) _⟩)
          | (have hE := E6 (s := s) (a := a) (count := count) ‹_› ‹_› (k := k) ‹_› Hk.out
             refine bodyPost_ret (v := .tuple #[.agg #[.int .i64 0, .int .i64 (a : Int), .int .i64 ((6 : Nat) : Int)], .int .i64 (a : Int)]) (by simp [results, Tryd.results67, go_sem]) rfl ⟨first_err hE (by decide), (Below.refl _ _).alloc (Nat.le_refl _) _⟩)
          | (have hE := E3 (s := s) (a := a) (count := count) ‹_› ‹_› (k := k) ‹_› Hk.out ‹_› ‹_›
             refine bodyPost_ret (v := .tuple #[.agg #[.int .i64 0, .int .i64 (a : Int), .int .i64 ((3 : Nat) : Int)], .int .i64 (a : Int)]) (by simp [results, Tryd.results67, go_sem]) rfl ⟨first_err hE (by decide), (Below.refl _ _).alloc (Nat.le_refl _) _⟩)
          | (have hE := E2 (s := s) (a := a) (count := count) ‹_› ‹_› (k := k) ‹_› Hk.out ‹_› ‹_› ‹_›
             refine bodyPost_ret (v := .tuple #[.agg #[.int .i64 0, .int .i64 (a : Int), .int .i64 ((2 : Nat) : Int)], .int .i64 (a : Int)]) (by simp [results, Tryd.results67, go_sem]) rfl ⟨first_err hE (by decide), (Below.refl _ _).alloc (Nat.le_refl _) _⟩)
          | (have hE := E0 (s := s) (a := a) (count := count) ‹_› ‹_› (k := k) ‹_› Hk.out ‹_› ‹_› ‹_›
             refine bodyPost_ret (v := .tuple #[.agg #[.int .i64 (L.val ((s.data.toList.drop a).take k) : Int), .int .i64 (a : Int), .int .i64 0], .int .i64 ((a : Int) + (k : Int))]) (by simp [results, Tryd.results67, go_sem]) rfl ⟨first_ok hE Hk.out, (Below.refl _ _).alloc (Nat.le_refl _) _⟩)
      · go_wp2_with (go_at_call 83; refine (isDigit_any _ _).mono ?_; rintro e w' ⟨rfl, rfl⟩)
        all_goals first
          | (exfalso; exact absurd_at ‹_› ha ‹_›)
          | (have hE := E9 (s := s) (a := a) (count := count) ‹_›
             refine bodyPost_ret (v := .tuple #[.agg #[.int .i64 0, .int .i64 (a : Int), .int .i64 ((9 : Nat) : Int)], .int .i64 (a : Int)]) (by simp [results, Tryd.results67, go_sem]) rfl ⟨first_err hE (by decide), (Below.refl _ _).alloc (Nat.le_refl _) _⟩)
          | (have hE := E4 (s := s) (a := a) (count := count) ‹_› ‹_›
             refine bodyPost_ret (v := .tuple #[.agg #[.int .i64 0, .int .i64 (a : Int), .int .i64 ((4 : Nat) : Int)], .int .i64 (a : Int)]) (by simp [results, Tryd.results67, go_sem]) rfl ⟨first_err hE (by decide), (Below.refl _ _).alloc (Nat.le_refl _) _⟩)
          | (have hE := E6 (s := s) (a := a) (count := count) ‹_› ‹_› (k := k) ‹_› Hk.out
             refine bodyPost_ret (v := .tuple #[.agg #[.int .i64 0, .int .i64 (a : Int), .int .i64 ((6 : Nat) : Int)], .int .i64 (a : Int)]) (by simp [results, Tryd.results67, go_sem]) rfl ⟨first_err hE (by decide), (Below.refl _ _).alloc (Nat.le_refl _) _⟩)
          | (have hE := E3 (s := s) (a := a) (count := count) ‹_› ‹_› (k := k) ‹_› Hk.out ‹_› ‹_›
             refine bodyPost_ret (v := .tuple #[.agg #[.int .i64 0, .int .i64 (a : Int), .int .i64 ((3 : Nat) : Int)], .int .i64 (a : Int)]) (by simp [results, Tryd.results67, go_sem]) rfl ⟨first_err hE (by decide), (Below.refl _ _).alloc (Nat.le_refl _) _⟩)
          | (have hE := E2 (s := s) (a := a) (count := count) ‹_› ‹_› (k := k) ‹_› Hk.out ‹_› ‹_› ‹_›
             refine bodyPost_ret (v := .tuple #[.agg #[.int .i64 0, .int .i64 (a : Int), .int .i64 ((2 : Nat) : Int)], .int .i64 (a : Int)]) (by simp [results, Tryd.results67, go_sem]) rfl ⟨first_err hE (by decide), (Below.refl _ _).alloc (Nat.le_refl _) _⟩)
          | (have hE := E0 (s := s) (a := a) (count := count) ‹_› ‹_› (k := k) ‹_› Hk.out ‹_› ‹_› ‹_›
             refine bodyPost_ret (v := .tuple #[.agg #[.int .i64 (L.val ((s.data.toList.drop a).take k) : Int), .int .i64 (a : Int), .int .i64 0], .int .i64 ((a : Int) + (k : Int))]) (by simp [results, Tryd.results67, go_sem]) rfl ⟨first_ok hE Hk.out, (Below.refl _ _).alloc (Nat.le_refl _) _⟩)
end Go.Proofs.YtjgofoliikflaaaDoor
