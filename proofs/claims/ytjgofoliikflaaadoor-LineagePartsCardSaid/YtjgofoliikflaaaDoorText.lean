/-
  The reference's Text.
-/
import Derived.Test.YtjgofoliikflaaaDoorDigits
namespace Go.Proofs.YtjgofoliikflaaaDoor
open Go.RowKit

/-- Numbers as cells. -/
def nums (l : List Nat) : List Value := l.map fun n : Nat => Value.int .i64 (n : Int)
theorem nums_len (l : List Nat) : (nums l).length = l.length := by simp [nums]
theorem nums_at (l : List Nat) (k : Nat) (h : k < l.length) : (nums l)[k]? = some (.int .i64 (l[k] : Int)) := by simp [nums, h]

set_option maxHeartbeats 400000 in
theorem text_any (l : List Nat) (A : Option Addr) (c : Nat) (B : Nat) (w : World) (hr : Row w B A (nums l)) (hB : B ≤ w.heap.size) (hl : l.length ≤ 100) (hx : ∀ x ∈ l, x ≤ 9223372036854775807) :
    Calls Tryd.prog 20 #[.slice A l.length c] w fun e w' => e = .returned (.string (bs (L.text l))) ∧ Below w.heap.size w w' := by
  go_enter Tryd.func20, Tryd.ntmps20
  go_wp2_with fail
  go_loopw [3, 4] (fun t i wr => ∃ k : Nat, k ≤ l.length ∧ i = .int .i64 (k : Int) ∧ t = .string (bs (L.text (l.take k))) ∧ Below w.heap.size w wr) (fun _ i _ => l.length - (intOf i).toNat)
  case atStart => exact ⟨0, Nat.zero_le _, rfl, rfl, Below.refl _ _⟩
  case round =>
    obtain ⟨k, hk, rfl, rfl, hb⟩ := hrel
    by_cases hlt : k < l.length
    · obtain ⟨b, o, rfl, hbB, hcell⟩ := hr.at_ (k := k) (by rw [nums_len]; exact hlt)
      have hc : wr.cell? ⟨b, o + k, none⟩ = some (.int .i64 (l[k] : Int)) := (hb.cell (p := ⟨b, o + k, none⟩) (by show b < _; omega)).trans (hcell k _ (nums_at l k hlt))
      clear hcell
      obtain ⟨x, hxk⟩ : ∃ x, l[k] = x := ⟨_, rfl⟩
      have hx9 : x ≤ 9223372036854775807 := by rw [← hxk]; exact hx _ (List.getElem_mem hlt)
      rw [hxk] at hc
      have Hx := Lib.hid hxk
      clear hxk
      have hd : (bs (Lib.decDigits x)).size ≤ 20 := by
        rw [bs_size]; have := decDigits_len 18 x (by omega); omega
      have ht : (bs (L.text (l.take k))).size ≤ 2000 := by
        rw [bs_size]
        have := L.text_len (l.take k) (fun y hy => hx y (List.mem_of_mem_take hy))
        simp only [List.length_take] at this
        omega
      have htake : l.take (k + 1) = l.take k ++ [x] := by rw [List.take_succ_eq_append_getElem hlt, Hx.out]
      by_cases h0 : 0 < k
      · have e : bs (L.text (l.take k)) ++ bs [46] ++ bs (Lib.decDigits x) = bs (L.text (l.take (k + 1))) := by
          rw [htake, L.text_snoc _ _ (List.ne_nil_of_length_pos (by rw [List.length_take]; omega)), bs_app, bs_app]; simp
        have E := Lib.hid e
        clear e htake
        have h46 : bs [46] = ⟨#[46]⟩ := rfl
        rw [h46] at E
        go_wp2_with (go_at_call 47; refine (digits_all x _ hx9).mono ?_; rintro e w1 ⟨rfl, hb1⟩)
        go_roundw
        case rel => exact ⟨k + 1, by omega, by go_num, by rw [E.out], hb.trans (hb1.mono hb.size)⟩
        case measure => simp [intOf]; omega
      · have h1 : k ≤ 0 := by omega
        have e : bs (L.text (l.take k)) ++ bs (Lib.decDigits x) = bs (L.text (l.take (k + 1))) := by
          rw [htake, bs_app]; obtain rfl : k = 0 := by omega
          simp [L.text]
        have E := Lib.hid e
        clear e htake h0
        go_wp2_with (go_at_call 47; refine (digits_all x _ hx9).mono ?_; rintro e w1 ⟨rfl, hb1⟩)
        go_roundw
        case rel => exact ⟨k + 1, by omega, by go_num, by rw [E.out], hb.trans (hb1.mono hb.size)⟩
        case measure => simp [intOf]; omega
    · obtain rfl : k = l.length := by omega
      have e : l.take l.length = l := List.take_length
      rw [e]
      clear e
      go_wp2_with fail
      go_ret
      exact ⟨rfl, hb⟩
theorem nums_take (l : List Nat) (k : Nat) : nums (l.take k) = (nums l).take k := by simp [nums, List.map_take]
theorem text_at {l : List Nat} {A : Option Addr} {c k B : Nat} {w : World} (hr : Row w B A (nums l)) (hB : B ≤ w.heap.size) (hl : l.length = k) (hk : k ≤ 100) (hx : ∀ x ∈ l, x ≤ 9223372036854775807) :
    Calls Tryd.prog 20 #[.slice A k c] w fun e w' => e = .returned (.string (bs (L.text l))) ∧ Below w.heap.size w w' := by
  subst hl; exact text_any l A c B w hr hB hk hx
end Go.Proofs.YtjgofoliikflaaaDoor
