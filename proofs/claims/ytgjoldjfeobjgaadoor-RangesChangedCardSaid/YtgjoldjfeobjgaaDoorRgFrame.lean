/-
  What the cards of the ranges laws share: the environment off the rows' tables; a world for the witness.
-/
import Derived.Test.YtgjoldjfeobjgaaDoorCards
import Derived.Test.YtgjoldjfeobjgaaDoorTie
import Derived.Test.YtgjoldjfeobjgaaDoorRgKnown
import Derived.WalkKit
import Derived.ProofKit
import Derived.OpenShut
import Derived.ShutString
import Derived.ChangeOld
import Derived.Below
import Derived.Deep.DeepHandedRow
import Derived.Lib.LaidTab
namespace Go.Proofs.YtgjoldjfeobjgaaDoor
open Go.ChangeShapes Go.WideShapes Go.ChangeAt Go.RowKit
open Go.ChangeMaps (open_string shut_string)

theorem own : ownKnob Tryd.prog.godebug = none := by kernel_rfl
theorem laidOut : laidOutB Tryd.prog = true := by kernel_rfl
theorem tabType : (Tryd.prog.globals[3]?).map (·.type) = some 146 := by kernel_rfl
theorem tabCells : Tryd.prog.cellsOf 146 = 20 := by kernel_rfl
theorem u64Cells : Tryd.prog.cellsOf 125 = 1 := by kernel_rfl
theorem nGlobals : 4 ≤ Tryd.prog.globals.size := of_decide_eq_true (by kernel_rfl)

/-- The table is the third of the list. -/
theorem tab_third {P : Program} {W : World} {n1 n2 name : String} {d1 d2 : DataW Unit} {k : IntKind} {zs : List Int} {rest : List (String × DataW Unit)} {g : Nat} {t e : TypeId} {n : Nat}
    (hg : P.globalNamed name = some g) (hty : (P.globals[g]?).map (·.type) = some t) (ht : P.underlying t = some (.array n e)) (he : P.underlying e = some (.int k)) (hce : P.cellsOf e = 1) (hct : P.cellsOf t = n)
    (h : laidMet P ((n1, d1) :: (n2, d2) :: (name, Lib.tabData k zs) :: rest) W) : Lib.TabIs P W name k zs := by
  obtain ⟨ps, ⟨_, _, _, _, _, _, _, _, _, _, ⟨_, _, _, _, _, _, _, _, _, _, ⟨g', t', cs, fuel, p, q, hg', ht', hvar, hd, _, _⟩, _⟩, _⟩, _⟩ := h
  obtain rfl := Option.some.inj (hg.symm.trans hg')
  obtain rfl := Option.some.inj (hty.symm.trans ht')
  unfold Lib.TabIs
  rw [hvar, ← Lib.cells_of_tab ht he hce hct hd]

theorem size_open {W : World} (h : W.ShapedOpen Tryd.prog) : 4 ≤ W.heap.size := by
  obtain ⟨o, _, ho, _⟩ := h.2 Tryd.prog.globals.size (Nat.le_refl _) (of_decide_eq_true (by kernel_rfl))
  have h1 := (Array.getElem?_eq_some_iff.1 ho).1
  have h2 := nGlobals
  omega
/-- The environment, off what a row gives. -/
theorem env_of {W : World} {n1 n2 : String} {d1 d2 : DataW Unit} {rest : List (String × DataW Unit)} (h : laidMet Tryd.prog ((n1, d1) :: (n2, d2) :: ("internal/strconv.uint64pow10", Lib.tabData .u64 Lib.pow10Tab) :: rest) W) (hs : W.ShapedOpen Tryd.prog) : Env W :=
  ⟨tab_third tabG tabType Tryd.underlying146 Tryd.underlying125 u64Cells tabCells h, Tryd.laysM145.s1_3 W hs, size_open hs⟩

def d32 : List Int := [0, 1, 28, 2, 29, 14, 24, 3, 30, 22, 20, 15, 25, 17, 4, 8, 31, 27, 13, 23, 21, 19, 16, 7, 26, 12, 18, 6, 11, 5, 10, 9]
def d64 : List Int := [0, 1, 56, 2, 57, 49, 28, 3, 61, 58, 42, 50, 38, 29, 17, 4, 62, 47, 59, 36, 45, 43, 51, 22, 53, 39, 33, 30, 24, 18, 12, 5, 63, 55, 48, 27, 60, 41, 37, 16, 46, 35, 44, 21, 52, 32, 23, 11, 54, 26, 40, 15, 34, 20, 31, 10, 25, 14, 19, 9, 13, 8, 7, 6]
/-- A world for the witness: the settled one, each listed table holding what its initialiser lays. -/
noncomputable def laidWorld (os : Os) : World :=
  { World.holding Tryd.prog os ⟨#[], #[], []⟩ with heap := ((((World.holding Tryd.prog os ⟨#[], #[], []⟩).heap.modify 4 fun
      | .cells _ t frozen => .cells (d32.map (Value.int .u8)).toArray t frozen
      | o => o).modify 5 fun
      | .cells _ t frozen => .cells (d64.map (Value.int .u8)).toArray t frozen
      | o => o).modify 3 fun
      | .cells _ t frozen => .cells (Lib.pow10Tab.map (Value.int .u64)).toArray t frozen
      | o => o) }
end Go.Proofs.YtgjoldjfeobjgaaDoor
