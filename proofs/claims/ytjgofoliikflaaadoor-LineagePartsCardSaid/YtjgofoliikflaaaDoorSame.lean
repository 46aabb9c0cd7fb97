/-
  same at two equal lists.
-/
import Derived.Test.YtjgofoliikflaaaDoorLawKit
namespace Go.Proofs.YtjgofoliikflaaaDoor
open Go.RowKit

set_option maxHeartbeats 800000 in
theorem same_at {w : World} {B1 B2 : Nat} {A1 A2 : Option Addr} {l : List Nat} {n1 n2 c1 c2 : Nat} (h1 : Row w B1 A1 (nums l)) (h2 : Row w B2 A2 (nums l)) (e1 : n1 = l.length) (e2 : n2 = l.length) (ln : l.length ≤ 100) :
    Calls Tryd.prog 16 #[.slice A1 n1 c1, .slice A2 n2 c2] w fun e w' => e = .returned (.bool true) ∧ Below w.heap.size w w' := by
  subst e1
  subst e2
  go_enter Tryd.func16, Tryd.ntmps16
  go_wp2_with fail
  go_loopw [5] (fun i wr => ∃ k q : Nat, k ≤ l.length ∧ i = .int .i64 (k : Int) ∧ wr = w.drewN q) (fun i _ => l.length - (intOf i).toNat)
  case atStart => exact ⟨0, 0, by omega, rfl, rfl⟩
  case round =>
    obtain ⟨k, q, hk, rfl, rfl⟩ := hrel
    by_cases hlt : k < l.length
    · obtain ⟨bb1, oo1, bb2, oo2, rfl, rfl, cc1, cc2⟩ := two_cells h1 h2 hlt hlt
      obtain ⟨u, hu⟩ : ∃ u, l[k] = u := ⟨_, rfl⟩
      rw [hu] at cc1 cc2
      clear hu
      go_wp2_with fail
      go_quiet (fail)
      go_wp2_with fail
      go_roundw
      case rel => exact ⟨k + 1, _, by omega, by go_num, rfl⟩
      case measure => simp [intOf]; omega
    · obtain rfl : k = l.length := by omega
      go_wp2_with fail
      go_ret
      exact ⟨rfl, below_drewN2 (Below.refl _ _) _⟩
end Go.Proofs.YtjgofoliikflaaaDoor
