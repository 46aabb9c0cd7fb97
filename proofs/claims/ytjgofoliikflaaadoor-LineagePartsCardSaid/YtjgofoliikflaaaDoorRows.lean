/-
  NARROWER THAN 'FOR EVERY INPUT', by the rows' own cells (each row's printed sentence says how): LineageMakes: laid · LineageParses: laid · LineageWithin: laid · LineageCommon: laid · LineageCompares: laid · LineageChooses: laid · LineageParts: laid · LineageSorts: laid · LineageCovers: laid.
  DERIVED. THE GIVEN ROWS OF THIS SEAT. 9 by the template 'for every input the law returns true; each argument reads behind the call as it read before'; 0 by the template 'total and deterministic' (their statements: YtjgofoliikflaaaDoorTotals.lean).
  GIVEN WITH THE SEED: the statements are not yours to turn. If you find one false, say at which input.
  Laid BY PROGRAM, IN A SANDBOX (cutbox-rows.mjs): the forced cells as the released guide's own fill.sh prints them over the translation 0901fc710c9db140… (all of the seat's roots in one cut). By AI agents, Wed Nov 11 2026. No macro, syntax, notation, axiom, sorry.
-/
import Derived.Test.YtjgofoliikflaaaDoorChecked
import GoSem.Claim
import GoSem.ClaimJoined
import GoSem.ClaimMapViews
import Derived.JoinedTies
import Derived.KernelRfl
namespace Go.Proofs.YtjgofoliikflaaaDoor
/- THE CELL 'sum', in the pinned program and in every row, IS THE sha256 OF THE DUMP (.gsa) THAT YtjgofoliikflaaaDoorProg.lean LOADS. Nothing in Lean hashes anything: it is a label: what it is worth is what the hold of that sum in a sandbox is worth. -/
noncomputable def Tryd.pinned : Pinned := { name := "ytjgofoliikflaaadoor", sum := "0901fc710c9db140575af8946798724a32a3633680e5c75f895883d452905929", checked := Tryd.checked }
namespace Rows
def none {H : Type} : Left H := { results := [], args := [] }

/- WHAT THE LISTED PACKAGE-LEVEL VARIABLES READ AS WHEN THE CALL BEGINS. Each datum BY PROGRAM (the guide's laid-datum.mjs) off the statement by which the dump's own 'gosem.cut.vars' lays the variable. In a bare row this is a premise. The card (YtjgofoliikflaaaDoorCards.lean) ties it to the program's text. -/
def laid_math_bits_deBruijn32tab {H : Type} : DataW H := .agg [.lit (.int .u8 0), .lit (.int .u8 1), .lit (.int .u8 28), .lit (.int .u8 2), .lit (.int .u8 29), .lit (.int .u8 14), .lit (.int .u8 24), .lit (.int .u8 3), .lit (.int .u8 30), .lit (.int .u8 22), .lit (.int .u8 20), .lit (.int .u8 15), .lit (.int .u8 25), .lit (.int .u8 17), .lit (.int .u8 4), .lit (.int .u8 8), .lit (.int .u8 31), .lit (.int .u8 27), .lit (.int .u8 13), .lit (.int .u8 23), .lit (.int .u8 21), .lit (.int .u8 19), .lit (.int .u8 16), .lit (.int .u8 7), .lit (.int .u8 26), .lit (.int .u8 12), .lit (.int .u8 18), .lit (.int .u8 6), .lit (.int .u8 11), .lit (.int .u8 5), .lit (.int .u8 10), .lit (.int .u8 9)]
def laid_math_bits_deBruijn64tab {H : Type} : DataW H := .agg [.lit (.int .u8 0), .lit (.int .u8 1), .lit (.int .u8 56), .lit (.int .u8 2), .lit (.int .u8 57), .lit (.int .u8 49), .lit (.int .u8 28), .lit (.int .u8 3), .lit (.int .u8 61), .lit (.int .u8 58), .lit (.int .u8 42), .lit (.int .u8 50), .lit (.int .u8 38), .lit (.int .u8 29), .lit (.int .u8 17), .lit (.int .u8 4), .lit (.int .u8 62), .lit (.int .u8 47), .lit (.int .u8 59), .lit (.int .u8 36), .lit (.int .u8 45), .lit (.int .u8 43), .lit (.int .u8 51), .lit (.int .u8 22), .lit (.int .u8 53), .lit (.int .u8 39), .lit (.int .u8 33), .lit (.int .u8 30), .lit (.int .u8 24), .lit (.int .u8 18), .lit (.int .u8 12), .lit (.int .u8 5), .lit (.int .u8 63), .lit (.int .u8 55), .lit (.int .u8 48), .lit (.int .u8 27), .lit (.int .u8 60), .lit (.int .u8 41), .lit (.int .u8 37), .lit (.int .u8 16), .lit (.int .u8 46), .lit (.int .u8 35), .lit (.int .u8 44), .lit (.int .u8 21), .lit (.int .u8 52), .lit (.int .u8 32), .lit (.int .u8 23), .lit (.int .u8 11), .lit (.int .u8 54), .lit (.int .u8 26), .lit (.int .u8 40), .lit (.int .u8 15), .lit (.int .u8 34), .lit (.int .u8 20), .lit (.int .u8 31), .lit (.int .u8 10), .lit (.int .u8 25), .lit (.int .u8 14), .lit (.int .u8 19), .lit (.int .u8 9), .lit (.int .u8 13), .lit (.int .u8 8), .lit (.int .u8 7), .lit (.int .u8 6)]
def laid_internal_strconv_uint64pow10 {H : Type} : DataW H := .agg [.lit (.int .u64 1), .lit (.int .u64 10), .lit (.int .u64 100), .lit (.int .u64 1000), .lit (.int .u64 10000), .lit (.int .u64 100000), .lit (.int .u64 1000000), .lit (.int .u64 10000000), .lit (.int .u64 100000000), .lit (.int .u64 1000000000), .lit (.int .u64 10000000000), .lit (.int .u64 100000000000), .lit (.int .u64 1000000000000), .lit (.int .u64 10000000000000), .lit (.int .u64 100000000000000), .lit (.int .u64 1000000000000000), .lit (.int .u64 10000000000000000), .lit (.int .u64 100000000000000000), .lit (.int .u64 1000000000000000000), .lit (.int .u64 10000000000000000000)]
def laid_replevin_sha256_initial {H : Type} : DataW H := .agg [.lit (.int .u32 1779033703), .lit (.int .u32 3144134277), .lit (.int .u32 1013904242), .lit (.int .u32 2773480762), .lit (.int .u32 1359893119), .lit (.int .u32 2600822924), .lit (.int .u32 528734635), .lit (.int .u32 1541459225)]
def laid_replevin_sha256_constants {H : Type} : DataW H := .agg [.lit (.int .u32 1116352408), .lit (.int .u32 1899447441), .lit (.int .u32 3049323471), .lit (.int .u32 3921009573), .lit (.int .u32 961987163), .lit (.int .u32 1508970993), .lit (.int .u32 2453635748), .lit (.int .u32 2870763221), .lit (.int .u32 3624381080), .lit (.int .u32 310598401), .lit (.int .u32 607225278), .lit (.int .u32 1426881987), .lit (.int .u32 1925078388), .lit (.int .u32 2162078206), .lit (.int .u32 2614888103), .lit (.int .u32 3248222580), .lit (.int .u32 3835390401), .lit (.int .u32 4022224774), .lit (.int .u32 264347078), .lit (.int .u32 604807628), .lit (.int .u32 770255983), .lit (.int .u32 1249150122), .lit (.int .u32 1555081692), .lit (.int .u32 1996064986), .lit (.int .u32 2554220882), .lit (.int .u32 2821834349), .lit (.int .u32 2952996808), .lit (.int .u32 3210313671), .lit (.int .u32 3336571891), .lit (.int .u32 3584528711), .lit (.int .u32 113926993), .lit (.int .u32 338241895), .lit (.int .u32 666307205), .lit (.int .u32 773529912), .lit (.int .u32 1294757372), .lit (.int .u32 1396182291), .lit (.int .u32 1695183700), .lit (.int .u32 1986661051), .lit (.int .u32 2177026350), .lit (.int .u32 2456956037), .lit (.int .u32 2730485921), .lit (.int .u32 2820302411), .lit (.int .u32 3259730800), .lit (.int .u32 3345764771), .lit (.int .u32 3516065817), .lit (.int .u32 3600352804), .lit (.int .u32 4094571909), .lit (.int .u32 275423344), .lit (.int .u32 430227734), .lit (.int .u32 506948616), .lit (.int .u32 659060556), .lit (.int .u32 883997877), .lit (.int .u32 958139571), .lit (.int .u32 1322822218), .lit (.int .u32 1537002063), .lit (.int .u32 1747873779), .lit (.int .u32 1955562222), .lit (.int .u32 2024104815), .lit (.int .u32 2227730452), .lit (.int .u32 2361852424), .lit (.int .u32 2428436474), .lit (.int .u32 2756734187), .lit (.int .u32 3204031479), .lit (.int .u32 3329325298)]

/-- 'replevinlaw03.LineageMakes': WHATEVER THE INPUT: true; the input reads as it did. -/
def lineageMakesSpec : ChangeSpec := { name := "lineageMakes", fn := fun _ => fun
  | [d] => { results := [.lit (.bool true)], args := [d] }
  | _ => none }
def lineageMakesRow : OpenClaim := { program := "ytjgofoliikflaaadoor", sum := "0901fc710c9db140575af8946798724a32a3633680e5c75f895883d452905929", func := "replevin/replevinlaw03.LineageMakes", spec := "lineageMakes", inPlace := ["internal/abi.NoEscape", "internal/bytealg.MakeNoZero"], unfollowed := true, recurses := true, named := ["internal/strconv.uint64pow10", "math/bits.deBruijn32tab", "math/bits.deBruijn64tab"], apart := false, laid := [("math/bits.deBruijn32tab", laid_math_bits_deBruijn32tab), ("math/bits.deBruijn64tab", laid_math_bits_deBruijn64tab), ("internal/strconv.uint64pow10", laid_internal_strconv_uint64pow10)] }
def LineageMakesSaid : Prop := lineageMakesRow.holds Tryd.pinned (OpenSpec.ofChange lineageMakesSpec)

/-- ITS FALSE NEIGHBOUR: 'it returns false'. Refute it at one input. -/
def lineageMakesWrong : ChangeSpec := { name := "lineageMakes", fn := fun _ => fun
  | [d] => { results := [.lit (.bool false)], args := [d] }
  | _ => none }
def LineageMakesWrongFalsely : Prop := lineageMakesRow.holds Tryd.pinned (OpenSpec.ofChange lineageMakesWrong)

/-- 'replevinlaw03.LineageParses': WHATEVER THE INPUT: true; the input reads as it did. -/
def lineageParsesSpec : ChangeSpec := { name := "lineageParses", fn := fun _ => fun
  | [d] => { results := [.lit (.bool true)], args := [d] }
  | _ => none }
def lineageParsesRow : OpenClaim := { program := "ytjgofoliikflaaadoor", sum := "0901fc710c9db140575af8946798724a32a3633680e5c75f895883d452905929", func := "replevin/replevinlaw03.LineageParses", spec := "lineageParses", inPlace := ["internal/abi.NoEscape", "internal/bytealg.MakeNoZero"], unfollowed := true, recurses := true, named := ["internal/strconv.uint64pow10", "math/bits.deBruijn32tab", "math/bits.deBruijn64tab"], apart := false, laid := [("math/bits.deBruijn32tab", laid_math_bits_deBruijn32tab), ("math/bits.deBruijn64tab", laid_math_bits_deBruijn64tab), ("internal/strconv.uint64pow10", laid_internal_strconv_uint64pow10)] }
def LineageParsesSaid : Prop := lineageParsesRow.holds Tryd.pinned (OpenSpec.ofChange lineageParsesSpec)

/-- ITS FALSE NEIGHBOUR: 'it returns false'. Refute it at one input. -/
def lineageParsesWrong : ChangeSpec := { name := "lineageParses", fn := fun _ => fun
  | [d] => { results := [.lit (.bool false)], args := [d] }
  | _ => none }
def LineageParsesWrongFalsely : Prop := lineageParsesRow.holds Tryd.pinned (OpenSpec.ofChange lineageParsesWrong)

/-- 'replevinlaw03.LineageWithin': WHATEVER THE INPUT: true; the input reads as it did. -/
def lineageWithinSpec : ChangeSpec := { name := "lineageWithin", fn := fun _ => fun
  | [d1, d2, d3] => { results := [.lit (.bool true)], args := [d1, d2, d3] }
  | _ => none }
def lineageWithinRow : OpenClaim := { program := "ytjgofoliikflaaadoor", sum := "0901fc710c9db140575af8946798724a32a3633680e5c75f895883d452905929", func := "replevin/replevinlaw03.LineageWithin", spec := "lineageWithin", inPlace := ["internal/abi.NoEscape", "internal/bytealg.MakeNoZero"], unfollowed := true, recurses := true, named := ["internal/strconv.uint64pow10", "math/bits.deBruijn32tab", "math/bits.deBruijn64tab"], apart := false, laid := [("math/bits.deBruijn32tab", laid_math_bits_deBruijn32tab), ("math/bits.deBruijn64tab", laid_math_bits_deBruijn64tab), ("internal/strconv.uint64pow10", laid_internal_strconv_uint64pow10)] }
def LineageWithinSaid : Prop := lineageWithinRow.holds Tryd.pinned (OpenSpec.ofChange lineageWithinSpec)

/-- ITS FALSE NEIGHBOUR: 'it returns false'. Refute it at one input. -/
def lineageWithinWrong : ChangeSpec := { name := "lineageWithin", fn := fun _ => fun
  | [d1, d2, d3] => { results := [.lit (.bool false)], args := [d1, d2, d3] }
  | _ => none }
def LineageWithinWrongFalsely : Prop := lineageWithinRow.holds Tryd.pinned (OpenSpec.ofChange lineageWithinWrong)

/-- 'replevinlaw03.LineageCommon': WHATEVER THE INPUT: true; the input reads as it did. -/
def lineageCommonSpec : ChangeSpec := { name := "lineageCommon", fn := fun _ => fun
  | [d1, d2, d3] => { results := [.lit (.bool true)], args := [d1, d2, d3] }
  | _ => none }
def lineageCommonRow : OpenClaim := { program := "ytjgofoliikflaaadoor", sum := "0901fc710c9db140575af8946798724a32a3633680e5c75f895883d452905929", func := "replevin/replevinlaw03.LineageCommon", spec := "lineageCommon", inPlace := ["internal/abi.NoEscape", "internal/bytealg.MakeNoZero"], unfollowed := true, recurses := true, named := ["internal/strconv.uint64pow10", "math/bits.deBruijn32tab", "math/bits.deBruijn64tab"], apart := false, laid := [("math/bits.deBruijn32tab", laid_math_bits_deBruijn32tab), ("math/bits.deBruijn64tab", laid_math_bits_deBruijn64tab), ("internal/strconv.uint64pow10", laid_internal_strconv_uint64pow10)] }
def LineageCommonSaid : Prop := lineageCommonRow.holds Tryd.pinned (OpenSpec.ofChange lineageCommonSpec)

/-- ITS FALSE NEIGHBOUR: 'it returns false'. Refute it at one input. -/
def lineageCommonWrong : ChangeSpec := { name := "lineageCommon", fn := fun _ => fun
  | [d1, d2, d3] => { results := [.lit (.bool false)], args := [d1, d2, d3] }
  | _ => none }
def LineageCommonWrongFalsely : Prop := lineageCommonRow.holds Tryd.pinned (OpenSpec.ofChange lineageCommonWrong)

/-- 'replevinlaw03.LineageCompares': WHATEVER THE INPUT: true; the input reads as it did. -/
def lineageComparesSpec : ChangeSpec := { name := "lineageCompares", fn := fun _ => fun
  | [d1, d2, d3] => { results := [.lit (.bool true)], args := [d1, d2, d3] }
  | _ => none }
def lineageComparesRow : OpenClaim := { program := "ytjgofoliikflaaadoor", sum := "0901fc710c9db140575af8946798724a32a3633680e5c75f895883d452905929", func := "replevin/replevinlaw03.LineageCompares", spec := "lineageCompares", inPlace := ["internal/abi.NoEscape", "internal/bytealg.MakeNoZero"], unfollowed := true, recurses := true, named := ["internal/strconv.uint64pow10", "math/bits.deBruijn32tab", "math/bits.deBruijn64tab"], apart := false, laid := [("math/bits.deBruijn32tab", laid_math_bits_deBruijn32tab), ("math/bits.deBruijn64tab", laid_math_bits_deBruijn64tab), ("internal/strconv.uint64pow10", laid_internal_strconv_uint64pow10)] }
def LineageComparesSaid : Prop := lineageComparesRow.holds Tryd.pinned (OpenSpec.ofChange lineageComparesSpec)

/-- ITS FALSE NEIGHBOUR: 'it returns false'. Refute it at one input. -/
def lineageComparesWrong : ChangeSpec := { name := "lineageCompares", fn := fun _ => fun
  | [d1, d2, d3] => { results := [.lit (.bool false)], args := [d1, d2, d3] }
  | _ => none }
def LineageComparesWrongFalsely : Prop := lineageComparesRow.holds Tryd.pinned (OpenSpec.ofChange lineageComparesWrong)

/-- 'replevinlaw03.LineageChooses': WHATEVER THE INPUT: true; the input reads as it did. -/
def lineageChoosesSpec : ChangeSpec := { name := "lineageChooses", fn := fun _ => fun
  | [d1, d2, d3] => { results := [.lit (.bool true)], args := [d1, d2, d3] }
  | _ => none }
def lineageChoosesRow : OpenClaim := { program := "ytjgofoliikflaaadoor", sum := "0901fc710c9db140575af8946798724a32a3633680e5c75f895883d452905929", func := "replevin/replevinlaw03.LineageChooses", spec := "lineageChooses", inPlace := ["internal/abi.NoEscape", "internal/bytealg.MakeNoZero"], unfollowed := true, recurses := true, named := ["replevin/sha256.initial", "replevin/sha256.constants", "internal/strconv.uint64pow10", "math/bits.deBruijn32tab", "math/bits.deBruijn64tab"], apart := false, laid := [("math/bits.deBruijn32tab", laid_math_bits_deBruijn32tab), ("math/bits.deBruijn64tab", laid_math_bits_deBruijn64tab), ("internal/strconv.uint64pow10", laid_internal_strconv_uint64pow10), ("replevin/sha256.initial", laid_replevin_sha256_initial), ("replevin/sha256.constants", laid_replevin_sha256_constants)] }
def LineageChoosesSaid : Prop := lineageChoosesRow.holds Tryd.pinned (OpenSpec.ofChange lineageChoosesSpec)

/-- ITS FALSE NEIGHBOUR: 'it returns false'. Refute it at one input. -/
def lineageChoosesWrong : ChangeSpec := { name := "lineageChooses", fn := fun _ => fun
  | [d1, d2, d3] => { results := [.lit (.bool false)], args := [d1, d2, d3] }
  | _ => none }
def LineageChoosesWrongFalsely : Prop := lineageChoosesRow.holds Tryd.pinned (OpenSpec.ofChange lineageChoosesWrong)

/-- 'replevinlaw03.LineageParts': WHATEVER THE INPUT: true; the input reads as it did. -/
def lineagePartsSpec : ChangeSpec := { name := "lineageParts", fn := fun _ => fun
  | [d1, d2] => { results := [.lit (.bool true)], args := [d1, d2] }
  | _ => none }
def lineagePartsRow : OpenClaim := { program := "ytjgofoliikflaaadoor", sum := "0901fc710c9db140575af8946798724a32a3633680e5c75f895883d452905929", func := "replevin/replevinlaw03.LineageParts", spec := "lineageParts", inPlace := ["internal/abi.NoEscape", "internal/bytealg.MakeNoZero", "internal/bytealg.IndexByteString", "internal/bytealg.IndexString"], unfollowed := true, recurses := true, named := ["internal/strconv.uint64pow10", "math/bits.deBruijn32tab", "math/bits.deBruijn64tab", "internal/bytealg.MaxLen"], apart := false, laid := [("math/bits.deBruijn32tab", laid_math_bits_deBruijn32tab), ("math/bits.deBruijn64tab", laid_math_bits_deBruijn64tab), ("internal/strconv.uint64pow10", laid_internal_strconv_uint64pow10)] }
def LineagePartsSaid : Prop := lineagePartsRow.holds Tryd.pinned (OpenSpec.ofChange lineagePartsSpec)

/-- ITS FALSE NEIGHBOUR: 'it returns false'. Refute it at one input. -/
def lineagePartsWrong : ChangeSpec := { name := "lineageParts", fn := fun _ => fun
  | [d1, d2] => { results := [.lit (.bool false)], args := [d1, d2] }
  | _ => none }
def LineagePartsWrongFalsely : Prop := lineagePartsRow.holds Tryd.pinned (OpenSpec.ofChange lineagePartsWrong)

/-- 'replevinlaw03.LineageSorts': WHATEVER THE INPUT: true; the input reads as it did. -/
def lineageSortsSpec : ChangeSpec := { name := "lineageSorts", fn := fun _ => fun
  | [d] => { results := [.lit (.bool true)], args := [d] }
  | _ => none }
def lineageSortsRow : OpenClaim := { program := "ytjgofoliikflaaadoor", sum := "0901fc710c9db140575af8946798724a32a3633680e5c75f895883d452905929", func := "replevin/replevinlaw03.LineageSorts", spec := "lineageSorts", inPlace := ["internal/abi.NoEscape", "internal/bytealg.MakeNoZero"], unfollowed := true, recurses := true, named := ["internal/strconv.uint64pow10", "math/bits.deBruijn32tab", "math/bits.deBruijn64tab"], apart := false, laid := [("math/bits.deBruijn32tab", laid_math_bits_deBruijn32tab), ("math/bits.deBruijn64tab", laid_math_bits_deBruijn64tab), ("internal/strconv.uint64pow10", laid_internal_strconv_uint64pow10)] }
def LineageSortsSaid : Prop := lineageSortsRow.holds Tryd.pinned (OpenSpec.ofChange lineageSortsSpec)

/-- ITS FALSE NEIGHBOUR: 'it returns false'. Refute it at one input. -/
def lineageSortsWrong : ChangeSpec := { name := "lineageSorts", fn := fun _ => fun
  | [d] => { results := [.lit (.bool false)], args := [d] }
  | _ => none }
def LineageSortsWrongFalsely : Prop := lineageSortsRow.holds Tryd.pinned (OpenSpec.ofChange lineageSortsWrong)

/-- 'replevinlaw03.LineageCovers': WHATEVER THE INPUT: true; the input reads as it did. -/
def lineageCoversSpec : ChangeSpec := { name := "lineageCovers", fn := fun _ => fun
  | [d1, d2] => { results := [.lit (.bool true)], args := [d1, d2] }
  | _ => none }
def lineageCoversRow : OpenClaim := { program := "ytjgofoliikflaaadoor", sum := "0901fc710c9db140575af8946798724a32a3633680e5c75f895883d452905929", func := "replevin/replevinlaw03.LineageCovers", spec := "lineageCovers", inPlace := ["internal/abi.NoEscape", "internal/bytealg.MakeNoZero"], unfollowed := true, recurses := true, named := ["internal/strconv.uint64pow10", "math/bits.deBruijn32tab", "math/bits.deBruijn64tab"], apart := false, laid := [("math/bits.deBruijn32tab", laid_math_bits_deBruijn32tab), ("math/bits.deBruijn64tab", laid_math_bits_deBruijn64tab), ("internal/strconv.uint64pow10", laid_internal_strconv_uint64pow10)] }
def LineageCoversSaid : Prop := lineageCoversRow.holds Tryd.pinned (OpenSpec.ofChange lineageCoversSpec)

/-- ITS FALSE NEIGHBOUR: 'it returns false'. Refute it at one input. -/
def lineageCoversWrong : ChangeSpec := { name := "lineageCovers", fn := fun _ => fun
  | [d1, d2] => { results := [.lit (.bool false)], args := [d1, d2] }
  | _ => none }
def LineageCoversWrongFalsely : Prop := lineageCoversRow.holds Tryd.pinned (OpenSpec.ofChange lineageCoversWrong)

/- THE SECOND FORM. 'bulk': how many values and letters a reading holds, each counted each time it is reached (what is shared counts as often as it is met; a slice's spare places count too). A statement '..UptoSaid' is the law's where the arguments, and the package variables that the reading takes, are together of bulk at most 1048576: NARROWER than '..Said'. Prove '..Said' where nothing that the law and all that it calls make is longer than what came in: it says more and counts as full. Else prove '..UptoSaid'. A law counts once. -/
mutual
def uptoBulk {H : Type} : DataW H → Nat
  | .lit (.string bytes) => bytes.length + 1
  | .lit _ => 1
  | .nil => 1
  | .ptr d => uptoBulk d + 1
  | .slice elems spare => uptoBulkAll elems + uptoBulkAll spare + 1
  | .agg parts => uptoBulkAll parts + 1
  | .iface _ d => uptoBulk d + 1
  | .map entries => uptoBulkEntries entries + 1
  | .held _ => 1
def uptoBulkAll {H : Type} : List (DataW H) → Nat
  | [] => 0
  | d :: r => uptoBulk d + uptoBulkAll r
def uptoBulkEntries {H : Type} : List (Lit × DataW H) → Nat
  | [] => 0
  | x :: r => uptoBulkEntry x + uptoBulkEntries r
def uptoBulkEntry {H : Type} : Lit × DataW H → Nat
  | (.string bytes, d) => bytes.length + uptoBulk d + 1
  | (_, d) => uptoBulk d + 1
 end
def uptoSmall : (H : Type) → List (DataW H) → Bool := fun _ ds => decide (uptoBulkAll ds ≤ 1048576)
def OpenSpec.upto (s : _root_.Go.ChangeSpec) : _root_.Go.OpenSpec := { _root_.Go.OpenSpec.ofChange s with cond := some uptoSmall }

/-- 'replevinlaw03.LineageMakes', WHERE WHAT IT READS IS OF BULK AT MOST 1048576: true; the input reads as it did. -/
def lineageMakesUptoRow : OpenClaim := { program := "ytjgofoliikflaaadoor", sum := "0901fc710c9db140575af8946798724a32a3633680e5c75f895883d452905929", func := "replevin/replevinlaw03.LineageMakes", spec := "lineageMakes", inPlace := ["internal/abi.NoEscape", "internal/bytealg.MakeNoZero"], unfollowed := true, recurses := true, named := ["internal/strconv.uint64pow10", "math/bits.deBruijn32tab", "math/bits.deBruijn64tab"], apart := false, laid := [("math/bits.deBruijn32tab", laid_math_bits_deBruijn32tab), ("math/bits.deBruijn64tab", laid_math_bits_deBruijn64tab), ("internal/strconv.uint64pow10", laid_internal_strconv_uint64pow10)], narrowed := true }
def LineageMakesUptoSaid : Prop := lineageMakesUptoRow.holds Tryd.pinned (OpenSpec.upto lineageMakesSpec)

/-- 'replevinlaw03.LineageParses', WHERE WHAT IT READS IS OF BULK AT MOST 1048576: true; the input reads as it did. -/
def lineageParsesUptoRow : OpenClaim := { program := "ytjgofoliikflaaadoor", sum := "0901fc710c9db140575af8946798724a32a3633680e5c75f895883d452905929", func := "replevin/replevinlaw03.LineageParses", spec := "lineageParses", inPlace := ["internal/abi.NoEscape", "internal/bytealg.MakeNoZero"], unfollowed := true, recurses := true, named := ["internal/strconv.uint64pow10", "math/bits.deBruijn32tab", "math/bits.deBruijn64tab"], apart := false, laid := [("math/bits.deBruijn32tab", laid_math_bits_deBruijn32tab), ("math/bits.deBruijn64tab", laid_math_bits_deBruijn64tab), ("internal/strconv.uint64pow10", laid_internal_strconv_uint64pow10)], narrowed := true }
def LineageParsesUptoSaid : Prop := lineageParsesUptoRow.holds Tryd.pinned (OpenSpec.upto lineageParsesSpec)

/-- 'replevinlaw03.LineageWithin', WHERE WHAT IT READS IS OF BULK AT MOST 1048576: true; the input reads as it did. -/
def lineageWithinUptoRow : OpenClaim := { program := "ytjgofoliikflaaadoor", sum := "0901fc710c9db140575af8946798724a32a3633680e5c75f895883d452905929", func := "replevin/replevinlaw03.LineageWithin", spec := "lineageWithin", inPlace := ["internal/abi.NoEscape", "internal/bytealg.MakeNoZero"], unfollowed := true, recurses := true, named := ["internal/strconv.uint64pow10", "math/bits.deBruijn32tab", "math/bits.deBruijn64tab"], apart := false, laid := [("math/bits.deBruijn32tab", laid_math_bits_deBruijn32tab), ("math/bits.deBruijn64tab", laid_math_bits_deBruijn64tab), ("internal/strconv.uint64pow10", laid_internal_strconv_uint64pow10)], narrowed := true }
def LineageWithinUptoSaid : Prop := lineageWithinUptoRow.holds Tryd.pinned (OpenSpec.upto lineageWithinSpec)

/-- 'replevinlaw03.LineageCommon', WHERE WHAT IT READS IS OF BULK AT MOST 1048576: true; the input reads as it did. -/
def lineageCommonUptoRow : OpenClaim := { program := "ytjgofoliikflaaadoor", sum := "0901fc710c9db140575af8946798724a32a3633680e5c75f895883d452905929", func := "replevin/replevinlaw03.LineageCommon", spec := "lineageCommon", inPlace := ["internal/abi.NoEscape", "internal/bytealg.MakeNoZero"], unfollowed := true, recurses := true, named := ["internal/strconv.uint64pow10", "math/bits.deBruijn32tab", "math/bits.deBruijn64tab"], apart := false, laid := [("math/bits.deBruijn32tab", laid_math_bits_deBruijn32tab), ("math/bits.deBruijn64tab", laid_math_bits_deBruijn64tab), ("internal/strconv.uint64pow10", laid_internal_strconv_uint64pow10)], narrowed := true }
def LineageCommonUptoSaid : Prop := lineageCommonUptoRow.holds Tryd.pinned (OpenSpec.upto lineageCommonSpec)

/-- 'replevinlaw03.LineageCompares', WHERE WHAT IT READS IS OF BULK AT MOST 1048576: true; the input reads as it did. -/
def lineageComparesUptoRow : OpenClaim := { program := "ytjgofoliikflaaadoor", sum := "0901fc710c9db140575af8946798724a32a3633680e5c75f895883d452905929", func := "replevin/replevinlaw03.LineageCompares", spec := "lineageCompares", inPlace := ["internal/abi.NoEscape", "internal/bytealg.MakeNoZero"], unfollowed := true, recurses := true, named := ["internal/strconv.uint64pow10", "math/bits.deBruijn32tab", "math/bits.deBruijn64tab"], apart := false, laid := [("math/bits.deBruijn32tab", laid_math_bits_deBruijn32tab), ("math/bits.deBruijn64tab", laid_math_bits_deBruijn64tab), ("internal/strconv.uint64pow10", laid_internal_strconv_uint64pow10)], narrowed := true }
def LineageComparesUptoSaid : Prop := lineageComparesUptoRow.holds Tryd.pinned (OpenSpec.upto lineageComparesSpec)

/-- 'replevinlaw03.LineageChooses', WHERE WHAT IT READS IS OF BULK AT MOST 1048576: true; the input reads as it did. -/
def lineageChoosesUptoRow : OpenClaim := { program := "ytjgofoliikflaaadoor", sum := "0901fc710c9db140575af8946798724a32a3633680e5c75f895883d452905929", func := "replevin/replevinlaw03.LineageChooses", spec := "lineageChooses", inPlace := ["internal/abi.NoEscape", "internal/bytealg.MakeNoZero"], unfollowed := true, recurses := true, named := ["replevin/sha256.initial", "replevin/sha256.constants", "internal/strconv.uint64pow10", "math/bits.deBruijn32tab", "math/bits.deBruijn64tab"], apart := false, laid := [("math/bits.deBruijn32tab", laid_math_bits_deBruijn32tab), ("math/bits.deBruijn64tab", laid_math_bits_deBruijn64tab), ("internal/strconv.uint64pow10", laid_internal_strconv_uint64pow10), ("replevin/sha256.initial", laid_replevin_sha256_initial), ("replevin/sha256.constants", laid_replevin_sha256_constants)], narrowed := true }
def LineageChoosesUptoSaid : Prop := lineageChoosesUptoRow.holds Tryd.pinned (OpenSpec.upto lineageChoosesSpec)

/-- 'replevinlaw03.LineageParts', WHERE WHAT IT READS IS OF BULK AT MOST 1048576: true; the input reads as it did. -/
def lineagePartsUptoRow : OpenClaim := { program := "ytjgofoliikflaaadoor", sum := "0901fc710c9db140575af8946798724a32a3633680e5c75f895883d452905929", func := "replevin/replevinlaw03.LineageParts", spec := "lineageParts", inPlace := ["internal/abi.NoEscape", "internal/bytealg.MakeNoZero", "internal/bytealg.IndexByteString", "internal/bytealg.IndexString"], unfollowed := true, recurses := true, named := ["internal/strconv.uint64pow10", "math/bits.deBruijn32tab", "math/bits.deBruijn64tab", "internal/bytealg.MaxLen"], apart := false, laid := [("math/bits.deBruijn32tab", laid_math_bits_deBruijn32tab), ("math/bits.deBruijn64tab", laid_math_bits_deBruijn64tab), ("internal/strconv.uint64pow10", laid_internal_strconv_uint64pow10)], narrowed := true }
def LineagePartsUptoSaid : Prop := lineagePartsUptoRow.holds Tryd.pinned (OpenSpec.upto lineagePartsSpec)

/-- 'replevinlaw03.LineageSorts', WHERE WHAT IT READS IS OF BULK AT MOST 1048576: true; the input reads as it did. -/
def lineageSortsUptoRow : OpenClaim := { program := "ytjgofoliikflaaadoor", sum := "0901fc710c9db140575af8946798724a32a3633680e5c75f895883d452905929", func := "replevin/replevinlaw03.LineageSorts", spec := "lineageSorts", inPlace := ["internal/abi.NoEscape", "internal/bytealg.MakeNoZero"], unfollowed := true, recurses := true, named := ["internal/strconv.uint64pow10", "math/bits.deBruijn32tab", "math/bits.deBruijn64tab"], apart := false, laid := [("math/bits.deBruijn32tab", laid_math_bits_deBruijn32tab), ("math/bits.deBruijn64tab", laid_math_bits_deBruijn64tab), ("internal/strconv.uint64pow10", laid_internal_strconv_uint64pow10)], narrowed := true }
def LineageSortsUptoSaid : Prop := lineageSortsUptoRow.holds Tryd.pinned (OpenSpec.upto lineageSortsSpec)

/-- 'replevinlaw03.LineageCovers', WHERE WHAT IT READS IS OF BULK AT MOST 1048576: true; the input reads as it did. -/
def lineageCoversUptoRow : OpenClaim := { program := "ytjgofoliikflaaadoor", sum := "0901fc710c9db140575af8946798724a32a3633680e5c75f895883d452905929", func := "replevin/replevinlaw03.LineageCovers", spec := "lineageCovers", inPlace := ["internal/abi.NoEscape", "internal/bytealg.MakeNoZero"], unfollowed := true, recurses := true, named := ["internal/strconv.uint64pow10", "math/bits.deBruijn32tab", "math/bits.deBruijn64tab"], apart := false, laid := [("math/bits.deBruijn32tab", laid_math_bits_deBruijn32tab), ("math/bits.deBruijn64tab", laid_math_bits_deBruijn64tab), ("internal/strconv.uint64pow10", laid_internal_strconv_uint64pow10)], narrowed := true }
def LineageCoversUptoSaid : Prop := lineageCoversUptoRow.holds Tryd.pinned (OpenSpec.upto lineageCoversSpec)

end Rows
end Go.Proofs.YtjgofoliikflaaaDoor
