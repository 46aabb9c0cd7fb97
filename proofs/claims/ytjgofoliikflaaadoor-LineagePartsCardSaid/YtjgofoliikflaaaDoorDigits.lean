/-
  The reference's Digits and Text.
-/
import Derived.Test.YtjgofoliikflaaaDoorProg
import Derived.Test.YtjgofoliikflaaaDoorWords
import Derived.WalkKit
import Derived.WalkLawsBesides
import Derived.WalkSpells
import Derived.Test.YtjgofoliikflaaaDoorTextSpec
import Derived.Deep.RegionWith
namespace Go.Proofs.YtjgofoliikflaaaDoor
open Go.RowKit

/-- The digit of a number. -/
def d8 (n : Nat) : UInt8 := UInt8.ofNat (48 + n)
theorem d8_toNat {n : Nat} (h : n < 10) : ((d8 n).toNat : Int) = 48 + (n : Int) := by
  unfold d8; rw [UInt8.toNat_ofNat', Nat.mod_eq_of_lt (by simp; omega)]; omega
/-- string([]byte{c}). -/
theorem conv1 (W : World) (b : Nat) (c : UInt8) (hc : W.cell? ⟨b, 0, none⟩ = some (.int .u8 (c.toNat : Int))) :
    (convert 79 9 (.slice (some ⟨b, 0, none⟩) 1 1)).run Tryd.prog W = .ok (.string (bs [c])) W :=
  run_convert_bytes_back W 79 9 5 ⟨b, 0, none⟩ 1 [c] Tryd.underlying79 Tryd.underlying5 Tryd.underlying9 (fun j hj => by
    obtain rfl : j = 0 := by simpa using hj
    simpa [Addr.add_lit] using hc)
theorem ofNat_toNat {k : Nat} (h : k < 256) : ((UInt8.ofNat k).toNat : Int) = (k : Int) := by
  rw [UInt8.toNat_ofNat', Nat.mod_eq_of_lt (by simpa using h)]

set_option maxRecDepth 100000 in
theorem digits_any (k : Nat) : ∀ (n : Nat) (w : World), n ≤ k → n ≤ 9223372036854775807 →
    Calls Tryd.prog 47 #[.int .i64 (n : Int)] w fun e w' => e = .returned (.string (bs (Lib.decDigits n))) ∧ Below w.heap.size w w' := by
  induction k with
  | zero =>
    intro n w hk hn
    obtain rfl : n = 0 := by omega
    have e : bs (Lib.decDigits 0) = bs [48] := by rw [decDigits_small (by omega)]; rfl
    rw [e]
    clear e
    have hconv := fun W b (hc : W.cell? ⟨b, 0, none⟩ = some (.int .u8 48)) => conv1 W b 48 hc
    go_enter Tryd.func47, Tryd.ntmps47
    go_wp2_with fail
    go_ret
    exact ⟨rfl, (Below.refl _ _).alloc (Nat.le_refl _) _⟩
  | succ k ih =>
    intro n w hk hn
    by_cases h : n < 10
    · have e : bs (Lib.decDigits n) = bs [d8 n] := by rw [decDigits_small h]; rfl
      rw [e]
      clear e
      have e2 : (48 : Int) + (n : Int) = ((d8 n).toNat : Int) := (d8_toNat h).symm
      have hconv := fun W b (hc : W.cell? ⟨b, 0, none⟩ = some (.int .u8 (48 + (n : Int)))) => conv1 W b (d8 n) (by rw [← e2]; exact hc)
      clear e2
      go_enter Tryd.func47, Tryd.ntmps47
      go_wp2_with fail
      go_ret
      exact ⟨rfl, (Below.refl _ _).alloc (Nat.le_refl _) _⟩
    · have e : bs (Lib.decDigits n) = bs (Lib.decDigits (n / 10)) ++ bs [d8 (n % 10)] := by rw [decDigits_big h, bs_app]; rfl
      rw [e]
      clear e
      obtain ⟨q, hq⟩ : ∃ q, n / 10 = q := ⟨_, rfl⟩
      obtain ⟨r, hr⟩ : ∃ r, n % 10 = r := ⟨_, rfl⟩
      have hr9 : r < 10 := by omega
      rw [hq, hr]
      have e2 : (48 : Int) + (r : Int) = ((d8 r).toNat : Int) := (d8_toNat hr9).symm
      have hconv := fun W b (hc : W.cell? ⟨b, 0, none⟩ = some (.int .u8 (48 + (r : Int)))) => conv1 W b (d8 r) (by rw [← e2]; exact hc)
      clear e2
      have hqk : q ≤ k := by omega
      have hqn : q ≤ 9223372036854775807 := by omega
      have w1 : IntKind.i64.wrap ((n : Int) / 10) = (q : Int) := by rw [IntKind.wrap_i64]; omega
      have w2 : (n : Int).tmod 10 = (r : Int) := by rw [Int.tmod_eq_emod_of_nonneg (by omega)]; omega
      have w3 : IntKind.i64.wrap (48 + (r : Int)) = 48 + (r : Int) := by rw [IntKind.wrap_i64]; omega
      have w4 : IntKind.u8.wrap (48 + (r : Int)) = 48 + (r : Int) := by show (48 + (r : Int)) % 256 = _; omega
      clear hq hr
      have hsz : (bs (Lib.decDigits q)).size + (bs [d8 r]).size ≤ 9223372036854775807 := by
        rw [bs_size, bs_size]
        have := decDigits_len 18 q (by omega)
        simp; omega
      go_enter Tryd.func47, Tryd.ntmps47
      go_wp2_with fail
      go_region_with (go_at_call 47; refine (ih q _ hqk hqn).mono ?_; rintro e w1 ⟨rfl, hb1⟩; have hc1 := (bcell hb1).1; have hz1 := hb1.size)
      all_goals go_wp2_with fail
      all_goals go_ret
      all_goals first
        | exact ⟨rfl, ((Below.refl w.heap.size w).drew.trans hb1).alloc hb1.size _⟩
        | exact ⟨rfl, ((Below.refl w.heap.size w).drew.alloc (Nat.le_refl _) _).trans (hb1.mono (by simp))⟩
theorem digits_all (n : Nat) (w : World) (h : n ≤ 9223372036854775807) :
    Calls Tryd.prog 47 #[.int .i64 (n : Int)] w fun e w' => e = .returned (.string (bs (Lib.decDigits n))) ∧ Below w.heap.size w w' :=
  digits_any n n w (Nat.le_refl _) h
end Go.Proofs.YtjgofoliikflaaaDoor
