/-
  The walk of LineageParts.
-/
import Derived.Test.YtjgofoliikflaaaDoorWalkParts2
import Derived.Test.YtjgofoliikflaaaDoorWalkParts3
import Derived.Test.YtjgofoliikflaaaDoorWalkParts4
import Derived.Test.YtjgofoliikflaaaDoorWalkParts5
namespace Go.Proofs.YtjgofoliikflaaaDoor
open Go.RowKit

theorem walkParts {a : ByteArray} {k : Int} (ha : a.size ≤ maxLen) (_ : (Lit.int .i64 k).wf = true) (w : World) (he : Env w) :
    Calls Tryd.prog 9 #[.string a, .int .i64 k] w fun e w' => e = .returned (.bool true) ∧ Below w.heap.size w w' := by
  cases hb : L.bad (cut8 a).data.toList with
  | some x => exact walkParts_bad ha w he hb
  | none =>
    obtain ⟨l, hl, hA, _⟩ := nm_of (valid_none hb)
    by_cases h1 : k < 1
    · by_cases h0 : l = []
      · subst h0; exact walkParts_nil_lo ha w he hA h1
      · exact walkParts_more_lo ha w he hl h0 hA h1
    · by_cases h2 : 999999 < k
      · by_cases h0 : l = []
        · subst h0; exact walkParts_nil_hi ha w he hA h2
        · exact walkParts_more_hi ha w he hl h0 hA h2
      · obtain ⟨n, rfl⟩ : ∃ n : Nat, k = (n : Int) := ⟨k.toNat, (Int.toNat_of_nonneg (by omega)).symm⟩
        by_cases h0 : l = []
        · subst h0; exact walkParts_nil_ok ha w he hA (by omega) (by omega)
        · by_cases h8 : l.length = 8
          · exact walkParts_more_limit ha w he hl h0 hA h8 (by omega) (by omega)
          · exact walkParts_more_ok ha w he hl h0 hA (by have := hl.1; omega) (by omega) (by omega)
end Go.Proofs.YtjgofoliikflaaaDoor
