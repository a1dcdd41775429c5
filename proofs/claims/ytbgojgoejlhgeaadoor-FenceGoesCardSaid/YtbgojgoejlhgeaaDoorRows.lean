/-
  NARROWER THAN 'FOR EVERY INPUT', by the rows' own cells (each row's printed sentence says how): FenceDecides: laid · FenceSure: laid · FenceTexts: laid · FenceTurns: laid · FenceApart: laid · FenceLost: laid · FenceGoes: laid · FenceEnds: laid.
  DERIVED. THE GIVEN ROWS OF THIS SEAT. 8 by the template 'for every input the law returns true; each argument reads behind the call as it read before'; 0 by the template 'total and deterministic' (their statements: YtbgojgoejlhgeaaDoorTotals.lean).
  GIVEN WITH THE SEED: the statements are not yours to turn. If you find one false, say at which input.
  Laid BY PROGRAM, IN A SANDBOX (cutbox-rows.mjs): the forced cells as the released guide's own fill.sh prints them over the translation fb7841568f084945… (all of the seat's roots in one cut). By AI agents, Wed Nov 11 2026. No macro, syntax, notation, axiom, sorry.
-/
import Derived.Test.YtbgojgoejlhgeaaDoorChecked
import GoSem.Claim
import GoSem.ClaimJoined
import GoSem.ClaimMapViews
import Derived.JoinedTies
import Derived.KernelRfl
namespace Go.Proofs.YtbgojgoejlhgeaaDoor
/- THE CELL 'sum', in the pinned program and in every row, IS THE sha256 OF THE DUMP (.gsa) THAT YtbgojgoejlhgeaaDoorProg.lean LOADS. Nothing in Lean hashes anything: it is a label: what it is worth is what the hold of that sum in a sandbox is worth. -/
noncomputable def Tryd.pinned : Pinned := { name := "ytbgojgoejlhgeaadoor", sum := "fb7841568f084945317af99b8e212f443d7647d51ec45c55e8b4a052a7cb2083", checked := Tryd.checked }
namespace Rows
def none {H : Type} : Left H := { results := [], args := [] }

/- WHAT THE LISTED PACKAGE-LEVEL VARIABLES READ AS WHEN THE CALL BEGINS. Each datum BY PROGRAM (the guide's laid-datum.mjs) off the statement by which the dump's own 'gosem.cut.vars' lays the variable. In a bare row this is a premise. The card (YtbgojgoejlhgeaaDoorCards.lean) ties it to the program's text. -/
def laid_math_bits_deBruijn32tab {H : Type} : DataW H := .agg [.lit (.int .u8 0), .lit (.int .u8 1), .lit (.int .u8 28), .lit (.int .u8 2), .lit (.int .u8 29), .lit (.int .u8 14), .lit (.int .u8 24), .lit (.int .u8 3), .lit (.int .u8 30), .lit (.int .u8 22), .lit (.int .u8 20), .lit (.int .u8 15), .lit (.int .u8 25), .lit (.int .u8 17), .lit (.int .u8 4), .lit (.int .u8 8), .lit (.int .u8 31), .lit (.int .u8 27), .lit (.int .u8 13), .lit (.int .u8 23), .lit (.int .u8 21), .lit (.int .u8 19), .lit (.int .u8 16), .lit (.int .u8 7), .lit (.int .u8 26), .lit (.int .u8 12), .lit (.int .u8 18), .lit (.int .u8 6), .lit (.int .u8 11), .lit (.int .u8 5), .lit (.int .u8 10), .lit (.int .u8 9)]
def laid_math_bits_deBruijn64tab {H : Type} : DataW H := .agg [.lit (.int .u8 0), .lit (.int .u8 1), .lit (.int .u8 56), .lit (.int .u8 2), .lit (.int .u8 57), .lit (.int .u8 49), .lit (.int .u8 28), .lit (.int .u8 3), .lit (.int .u8 61), .lit (.int .u8 58), .lit (.int .u8 42), .lit (.int .u8 50), .lit (.int .u8 38), .lit (.int .u8 29), .lit (.int .u8 17), .lit (.int .u8 4), .lit (.int .u8 62), .lit (.int .u8 47), .lit (.int .u8 59), .lit (.int .u8 36), .lit (.int .u8 45), .lit (.int .u8 43), .lit (.int .u8 51), .lit (.int .u8 22), .lit (.int .u8 53), .lit (.int .u8 39), .lit (.int .u8 33), .lit (.int .u8 30), .lit (.int .u8 24), .lit (.int .u8 18), .lit (.int .u8 12), .lit (.int .u8 5), .lit (.int .u8 63), .lit (.int .u8 55), .lit (.int .u8 48), .lit (.int .u8 27), .lit (.int .u8 60), .lit (.int .u8 41), .lit (.int .u8 37), .lit (.int .u8 16), .lit (.int .u8 46), .lit (.int .u8 35), .lit (.int .u8 44), .lit (.int .u8 21), .lit (.int .u8 52), .lit (.int .u8 32), .lit (.int .u8 23), .lit (.int .u8 11), .lit (.int .u8 54), .lit (.int .u8 26), .lit (.int .u8 40), .lit (.int .u8 15), .lit (.int .u8 34), .lit (.int .u8 20), .lit (.int .u8 31), .lit (.int .u8 10), .lit (.int .u8 25), .lit (.int .u8 14), .lit (.int .u8 19), .lit (.int .u8 9), .lit (.int .u8 13), .lit (.int .u8 8), .lit (.int .u8 7), .lit (.int .u8 6)]
def laid_internal_strconv_uint64pow10 {H : Type} : DataW H := .agg [.lit (.int .u64 1), .lit (.int .u64 10), .lit (.int .u64 100), .lit (.int .u64 1000), .lit (.int .u64 10000), .lit (.int .u64 100000), .lit (.int .u64 1000000), .lit (.int .u64 10000000), .lit (.int .u64 100000000), .lit (.int .u64 1000000000), .lit (.int .u64 10000000000), .lit (.int .u64 100000000000), .lit (.int .u64 1000000000000), .lit (.int .u64 10000000000000), .lit (.int .u64 100000000000000), .lit (.int .u64 1000000000000000), .lit (.int .u64 10000000000000000), .lit (.int .u64 100000000000000000), .lit (.int .u64 1000000000000000000), .lit (.int .u64 10000000000000000000)]
def laid_mandoline_fence_texts {H : Type} : DataW H := .agg [.lit (.string []), .lit (.string [103, 111]), .lit (.string [119, 97, 105, 116]), .lit (.string [97, 115, 107]), .lit (.string [97, 110, 101, 119]), .lit (.string [99, 117, 116]), .lit (.string [100, 111, 110, 101])]

/-- 'mandolinelaw37.FenceDecides': WHATEVER THE INPUT: true; the input reads as it did. -/
def fenceDecidesSpec : ChangeSpec := { name := "fenceDecides", fn := fun _ => fun
  | [d] => { results := [.lit (.bool true)], args := [d] }
  | _ => none }
def fenceDecidesRow : OpenClaim := { program := "ytbgojgoejlhgeaadoor", sum := "fb7841568f084945317af99b8e212f443d7647d51ec45c55e8b4a052a7cb2083", func := "mandoline/mandolinelaw37.FenceDecides", spec := "fenceDecides", inPlace := ["internal/abi.NoEscape", "internal/bytealg.MakeNoZero"], unfollowed := true, recurses := true, named := ["internal/strconv.uint64pow10", "math/bits.deBruijn32tab", "math/bits.deBruijn64tab", "mandoline/fence.texts"], apart := false, laid := [("math/bits.deBruijn32tab", laid_math_bits_deBruijn32tab), ("math/bits.deBruijn64tab", laid_math_bits_deBruijn64tab), ("internal/strconv.uint64pow10", laid_internal_strconv_uint64pow10), ("mandoline/fence.texts", laid_mandoline_fence_texts)] }
def FenceDecidesSaid : Prop := fenceDecidesRow.holds Tryd.pinned (OpenSpec.ofChange fenceDecidesSpec)

/-- ITS FALSE NEIGHBOUR: 'it returns false'. Refute it at one input. -/
def fenceDecidesWrong : ChangeSpec := { name := "fenceDecides", fn := fun _ => fun
  | [d] => { results := [.lit (.bool false)], args := [d] }
  | _ => none }
def FenceDecidesWrongFalsely : Prop := fenceDecidesRow.holds Tryd.pinned (OpenSpec.ofChange fenceDecidesWrong)

/-- 'mandolinelaw37.FenceSure': WHATEVER THE INPUT: true; the input reads as it did. -/
def fenceSureSpec : ChangeSpec := { name := "fenceSure", fn := fun _ => fun
  | [d] => { results := [.lit (.bool true)], args := [d] }
  | _ => none }
def fenceSureRow : OpenClaim := { program := "ytbgojgoejlhgeaadoor", sum := "fb7841568f084945317af99b8e212f443d7647d51ec45c55e8b4a052a7cb2083", func := "mandoline/mandolinelaw37.FenceSure", spec := "fenceSure", inPlace := ["internal/abi.NoEscape", "internal/bytealg.MakeNoZero"], unfollowed := true, recurses := true, named := ["internal/strconv.uint64pow10", "math/bits.deBruijn32tab", "math/bits.deBruijn64tab", "mandoline/fence.texts"], apart := false, laid := [("math/bits.deBruijn32tab", laid_math_bits_deBruijn32tab), ("math/bits.deBruijn64tab", laid_math_bits_deBruijn64tab), ("internal/strconv.uint64pow10", laid_internal_strconv_uint64pow10), ("mandoline/fence.texts", laid_mandoline_fence_texts)] }
def FenceSureSaid : Prop := fenceSureRow.holds Tryd.pinned (OpenSpec.ofChange fenceSureSpec)

/-- ITS FALSE NEIGHBOUR: 'it returns false'. Refute it at one input. -/
def fenceSureWrong : ChangeSpec := { name := "fenceSure", fn := fun _ => fun
  | [d] => { results := [.lit (.bool false)], args := [d] }
  | _ => none }
def FenceSureWrongFalsely : Prop := fenceSureRow.holds Tryd.pinned (OpenSpec.ofChange fenceSureWrong)

/-- 'mandolinelaw37.FenceTexts': WHATEVER THE INPUT: true; the input reads as it did. -/
def fenceTextsSpec : ChangeSpec := { name := "fenceTexts", fn := fun _ => fun
  | [d] => { results := [.lit (.bool true)], args := [d] }
  | _ => none }
def fenceTextsRow : OpenClaim := { program := "ytbgojgoejlhgeaadoor", sum := "fb7841568f084945317af99b8e212f443d7647d51ec45c55e8b4a052a7cb2083", func := "mandoline/mandolinelaw37.FenceTexts", spec := "fenceTexts", inPlace := ["internal/abi.NoEscape", "internal/bytealg.MakeNoZero"], unfollowed := true, recurses := true, named := ["internal/strconv.uint64pow10", "math/bits.deBruijn32tab", "math/bits.deBruijn64tab", "mandoline/fence.texts"], apart := false, laid := [("math/bits.deBruijn32tab", laid_math_bits_deBruijn32tab), ("math/bits.deBruijn64tab", laid_math_bits_deBruijn64tab), ("internal/strconv.uint64pow10", laid_internal_strconv_uint64pow10), ("mandoline/fence.texts", laid_mandoline_fence_texts)] }
def FenceTextsSaid : Prop := fenceTextsRow.holds Tryd.pinned (OpenSpec.ofChange fenceTextsSpec)

/-- ITS FALSE NEIGHBOUR: 'it returns false'. Refute it at one input. -/
def fenceTextsWrong : ChangeSpec := { name := "fenceTexts", fn := fun _ => fun
  | [d] => { results := [.lit (.bool false)], args := [d] }
  | _ => none }
def FenceTextsWrongFalsely : Prop := fenceTextsRow.holds Tryd.pinned (OpenSpec.ofChange fenceTextsWrong)

/-- 'mandolinelaw37.FenceTurns': WHATEVER THE INPUT: true; the input reads as it did. -/
def fenceTurnsSpec : ChangeSpec := { name := "fenceTurns", fn := fun _ => fun
  | [d] => { results := [.lit (.bool true)], args := [d] }
  | _ => none }
def fenceTurnsRow : OpenClaim := { program := "ytbgojgoejlhgeaadoor", sum := "fb7841568f084945317af99b8e212f443d7647d51ec45c55e8b4a052a7cb2083", func := "mandoline/mandolinelaw37.FenceTurns", spec := "fenceTurns", inPlace := ["internal/abi.NoEscape", "internal/bytealg.MakeNoZero"], unfollowed := true, recurses := true, named := ["internal/strconv.uint64pow10", "math/bits.deBruijn32tab", "math/bits.deBruijn64tab", "mandoline/fence.texts"], apart := false, laid := [("math/bits.deBruijn32tab", laid_math_bits_deBruijn32tab), ("math/bits.deBruijn64tab", laid_math_bits_deBruijn64tab), ("internal/strconv.uint64pow10", laid_internal_strconv_uint64pow10), ("mandoline/fence.texts", laid_mandoline_fence_texts)] }
def FenceTurnsSaid : Prop := fenceTurnsRow.holds Tryd.pinned (OpenSpec.ofChange fenceTurnsSpec)

/-- ITS FALSE NEIGHBOUR: 'it returns false'. Refute it at one input. -/
def fenceTurnsWrong : ChangeSpec := { name := "fenceTurns", fn := fun _ => fun
  | [d] => { results := [.lit (.bool false)], args := [d] }
  | _ => none }
def FenceTurnsWrongFalsely : Prop := fenceTurnsRow.holds Tryd.pinned (OpenSpec.ofChange fenceTurnsWrong)

/-- 'mandolinelaw37.FenceApart': WHATEVER THE INPUT: true; the input reads as it did. -/
def fenceApartSpec : ChangeSpec := { name := "fenceApart", fn := fun _ => fun
  | [d] => { results := [.lit (.bool true)], args := [d] }
  | _ => none }
def fenceApartRow : OpenClaim := { program := "ytbgojgoejlhgeaadoor", sum := "fb7841568f084945317af99b8e212f443d7647d51ec45c55e8b4a052a7cb2083", func := "mandoline/mandolinelaw37.FenceApart", spec := "fenceApart", inPlace := ["internal/abi.NoEscape", "internal/bytealg.MakeNoZero"], unfollowed := true, recurses := true, named := ["internal/strconv.uint64pow10", "math/bits.deBruijn32tab", "math/bits.deBruijn64tab", "mandoline/fence.texts"], apart := false, laid := [("math/bits.deBruijn32tab", laid_math_bits_deBruijn32tab), ("math/bits.deBruijn64tab", laid_math_bits_deBruijn64tab), ("internal/strconv.uint64pow10", laid_internal_strconv_uint64pow10), ("mandoline/fence.texts", laid_mandoline_fence_texts)] }
def FenceApartSaid : Prop := fenceApartRow.holds Tryd.pinned (OpenSpec.ofChange fenceApartSpec)

/-- ITS FALSE NEIGHBOUR: 'it returns false'. Refute it at one input. -/
def fenceApartWrong : ChangeSpec := { name := "fenceApart", fn := fun _ => fun
  | [d] => { results := [.lit (.bool false)], args := [d] }
  | _ => none }
def FenceApartWrongFalsely : Prop := fenceApartRow.holds Tryd.pinned (OpenSpec.ofChange fenceApartWrong)

/-- 'mandolinelaw37.FenceLost': WHATEVER THE INPUT: true; the input reads as it did. -/
def fenceLostSpec : ChangeSpec := { name := "fenceLost", fn := fun _ => fun
  | [d] => { results := [.lit (.bool true)], args := [d] }
  | _ => none }
def fenceLostRow : OpenClaim := { program := "ytbgojgoejlhgeaadoor", sum := "fb7841568f084945317af99b8e212f443d7647d51ec45c55e8b4a052a7cb2083", func := "mandoline/mandolinelaw37.FenceLost", spec := "fenceLost", inPlace := ["internal/abi.NoEscape", "internal/bytealg.MakeNoZero"], unfollowed := true, recurses := true, named := ["internal/strconv.uint64pow10", "math/bits.deBruijn32tab", "math/bits.deBruijn64tab", "mandoline/fence.texts"], apart := false, laid := [("math/bits.deBruijn32tab", laid_math_bits_deBruijn32tab), ("math/bits.deBruijn64tab", laid_math_bits_deBruijn64tab), ("internal/strconv.uint64pow10", laid_internal_strconv_uint64pow10), ("mandoline/fence.texts", laid_mandoline_fence_texts)] }
def FenceLostSaid : Prop := fenceLostRow.holds Tryd.pinned (OpenSpec.ofChange fenceLostSpec)

/-- ITS FALSE NEIGHBOUR: 'it returns false'. Refute it at one input. -/
def fenceLostWrong : ChangeSpec := { name := "fenceLost", fn := fun _ => fun
  | [d] => { results := [.lit (.bool false)], args := [d] }
  | _ => none }
def FenceLostWrongFalsely : Prop := fenceLostRow.holds Tryd.pinned (OpenSpec.ofChange fenceLostWrong)

/-- 'mandolinelaw37.FenceGoes': WHATEVER THE INPUT: true; the input reads as it did. -/
def fenceGoesSpec : ChangeSpec := { name := "fenceGoes", fn := fun _ => fun
  | [d1, d2, d3] => { results := [.lit (.bool true)], args := [d1, d2, d3] }
  | _ => none }
def fenceGoesRow : OpenClaim := { program := "ytbgojgoejlhgeaadoor", sum := "fb7841568f084945317af99b8e212f443d7647d51ec45c55e8b4a052a7cb2083", func := "mandoline/mandolinelaw37.FenceGoes", spec := "fenceGoes", inPlace := ["internal/abi.NoEscape", "internal/bytealg.MakeNoZero"], unfollowed := true, recurses := true, named := ["internal/strconv.uint64pow10", "math/bits.deBruijn32tab", "math/bits.deBruijn64tab", "mandoline/fence.texts"], apart := false, laid := [("math/bits.deBruijn32tab", laid_math_bits_deBruijn32tab), ("math/bits.deBruijn64tab", laid_math_bits_deBruijn64tab), ("internal/strconv.uint64pow10", laid_internal_strconv_uint64pow10), ("mandoline/fence.texts", laid_mandoline_fence_texts)] }
def FenceGoesSaid : Prop := fenceGoesRow.holds Tryd.pinned (OpenSpec.ofChange fenceGoesSpec)

/-- ITS FALSE NEIGHBOUR: 'it returns false'. Refute it at one input. -/
def fenceGoesWrong : ChangeSpec := { name := "fenceGoes", fn := fun _ => fun
  | [d1, d2, d3] => { results := [.lit (.bool false)], args := [d1, d2, d3] }
  | _ => none }
def FenceGoesWrongFalsely : Prop := fenceGoesRow.holds Tryd.pinned (OpenSpec.ofChange fenceGoesWrong)

/-- 'mandolinelaw37.FenceEnds': WHATEVER THE INPUT: true; the input reads as it did. -/
def fenceEndsSpec : ChangeSpec := { name := "fenceEnds", fn := fun _ => fun
  | [d1, d2] => { results := [.lit (.bool true)], args := [d1, d2] }
  | _ => none }
def fenceEndsRow : OpenClaim := { program := "ytbgojgoejlhgeaadoor", sum := "fb7841568f084945317af99b8e212f443d7647d51ec45c55e8b4a052a7cb2083", func := "mandoline/mandolinelaw37.FenceEnds", spec := "fenceEnds", inPlace := ["internal/abi.NoEscape", "internal/bytealg.MakeNoZero"], unfollowed := true, recurses := true, named := ["internal/strconv.uint64pow10", "math/bits.deBruijn32tab", "math/bits.deBruijn64tab", "mandoline/fence.texts"], apart := false, laid := [("math/bits.deBruijn32tab", laid_math_bits_deBruijn32tab), ("math/bits.deBruijn64tab", laid_math_bits_deBruijn64tab), ("internal/strconv.uint64pow10", laid_internal_strconv_uint64pow10), ("mandoline/fence.texts", laid_mandoline_fence_texts)] }
def FenceEndsSaid : Prop := fenceEndsRow.holds Tryd.pinned (OpenSpec.ofChange fenceEndsSpec)

/-- ITS FALSE NEIGHBOUR: 'it returns false'. Refute it at one input. -/
def fenceEndsWrong : ChangeSpec := { name := "fenceEnds", fn := fun _ => fun
  | [d1, d2] => { results := [.lit (.bool false)], args := [d1, d2] }
  | _ => none }
def FenceEndsWrongFalsely : Prop := fenceEndsRow.holds Tryd.pinned (OpenSpec.ofChange fenceEndsWrong)

/- THE SECOND FORM. 'bulk': how many values and letters a reading holds, each counted each time it is reached (what is shared counts as often as it is met; a slice's spare places count too). A statement '..UptoSaid' is the law's where the arguments, and the package variables that the reading takes, are together of bulk at most 1048576: NARROWER than '..Said'. Prove '..Said' where nothing that the law and all that it calls make is longer than what came in: it says more and counts as full. Else prove '..UptoSaid'. A law counts once. -/
mutual
def uptoBulk {H : Type} : DataW H → Nat
  | .lit (.string bytes) => bytes.length + 1
  | .lit _ => 1
  | .nil => 1
  | .ptr d => uptoBulk d + 1
  | .slice elems spare => uptoBulkAll elems + uptoBulkAll spare + 1
  | .agg parts => uptoBulkAll parts + 1
  | .iface _ d => uptoBulk d + 1
  | .map entries => uptoBulkEntries entries + 1
  | .held _ => 1
def uptoBulkAll {H : Type} : List (DataW H) → Nat
  | [] => 0
  | d :: r => uptoBulk d + uptoBulkAll r
def uptoBulkEntries {H : Type} : List (Lit × DataW H) → Nat
  | [] => 0
  | x :: r => uptoBulkEntry x + uptoBulkEntries r
def uptoBulkEntry {H : Type} : Lit × DataW H → Nat
  | (.string bytes, d) => bytes.length + uptoBulk d + 1
  | (_, d) => uptoBulk d + 1
 end
def uptoSmall : (H : Type) → List (DataW H) → Bool := fun _ ds => decide (uptoBulkAll ds ≤ 1048576)
def OpenSpec.upto (s : _root_.Go.ChangeSpec) : _root_.Go.OpenSpec := { _root_.Go.OpenSpec.ofChange s with cond := some uptoSmall }

/-- 'mandolinelaw37.FenceDecides', WHERE WHAT IT READS IS OF BULK AT MOST 1048576: true; the input reads as it did. -/
def fenceDecidesUptoRow : OpenClaim := { program := "ytbgojgoejlhgeaadoor", sum := "fb7841568f084945317af99b8e212f443d7647d51ec45c55e8b4a052a7cb2083", func := "mandoline/mandolinelaw37.FenceDecides", spec := "fenceDecides", inPlace := ["internal/abi.NoEscape", "internal/bytealg.MakeNoZero"], unfollowed := true, recurses := true, named := ["internal/strconv.uint64pow10", "math/bits.deBruijn32tab", "math/bits.deBruijn64tab", "mandoline/fence.texts"], apart := false, laid := [("math/bits.deBruijn32tab", laid_math_bits_deBruijn32tab), ("math/bits.deBruijn64tab", laid_math_bits_deBruijn64tab), ("internal/strconv.uint64pow10", laid_internal_strconv_uint64pow10), ("mandoline/fence.texts", laid_mandoline_fence_texts)], narrowed := true }
def FenceDecidesUptoSaid : Prop := fenceDecidesUptoRow.holds Tryd.pinned (OpenSpec.upto fenceDecidesSpec)

/-- 'mandolinelaw37.FenceSure', WHERE WHAT IT READS IS OF BULK AT MOST 1048576: true; the input reads as it did. -/
def fenceSureUptoRow : OpenClaim := { program := "ytbgojgoejlhgeaadoor", sum := "fb7841568f084945317af99b8e212f443d7647d51ec45c55e8b4a052a7cb2083", func := "mandoline/mandolinelaw37.FenceSure", spec := "fenceSure", inPlace := ["internal/abi.NoEscape", "internal/bytealg.MakeNoZero"], unfollowed := true, recurses := true, named := ["internal/strconv.uint64pow10", "math/bits.deBruijn32tab", "math/bits.deBruijn64tab", "mandoline/fence.texts"], apart := false, laid := [("math/bits.deBruijn32tab", laid_math_bits_deBruijn32tab), ("math/bits.deBruijn64tab", laid_math_bits_deBruijn64tab), ("internal/strconv.uint64pow10", laid_internal_strconv_uint64pow10), ("mandoline/fence.texts", laid_mandoline_fence_texts)], narrowed := true }
def FenceSureUptoSaid : Prop := fenceSureUptoRow.holds Tryd.pinned (OpenSpec.upto fenceSureSpec)

/-- 'mandolinelaw37.FenceTexts', WHERE WHAT IT READS IS OF BULK AT MOST 1048576: true; the input reads as it did. -/
def fenceTextsUptoRow : OpenClaim := { program := "ytbgojgoejlhgeaadoor", sum := "fb7841568f084945317af99b8e212f443d7647d51ec45c55e8b4a052a7cb2083", func := "mandoline/mandolinelaw37.FenceTexts", spec := "fenceTexts", inPlace := ["internal/abi.NoEscape", "internal/bytealg.MakeNoZero"], unfollowed := true, recurses := true, named := ["internal/strconv.uint64pow10", "math/bits.deBruijn32tab", "math/bits.deBruijn64tab", "mandoline/fence.texts"], apart := false, laid := [("math/bits.deBruijn32tab", laid_math_bits_deBruijn32tab), ("math/bits.deBruijn64tab", laid_math_bits_deBruijn64tab), ("internal/strconv.uint64pow10", laid_internal_strconv_uint64pow10), ("mandoline/fence.texts", laid_mandoline_fence_texts)], narrowed := true }
def FenceTextsUptoSaid : Prop := fenceTextsUptoRow.holds Tryd.pinned (OpenSpec.upto fenceTextsSpec)

/-- 'mandolinelaw37.FenceTurns', WHERE WHAT IT READS IS OF BULK AT MOST 1048576: true; the input reads as it did. -/
def fenceTurnsUptoRow : OpenClaim := { program := "ytbgojgoejlhgeaadoor", sum := "fb7841568f084945317af99b8e212f443d7647d51ec45c55e8b4a052a7cb2083", func := "mandoline/mandolinelaw37.FenceTurns", spec := "fenceTurns", inPlace := ["internal/abi.NoEscape", "internal/bytealg.MakeNoZero"], unfollowed := true, recurses := true, named := ["internal/strconv.uint64pow10", "math/bits.deBruijn32tab", "math/bits.deBruijn64tab", "mandoline/fence.texts"], apart := false, laid := [("math/bits.deBruijn32tab", laid_math_bits_deBruijn32tab), ("math/bits.deBruijn64tab", laid_math_bits_deBruijn64tab), ("internal/strconv.uint64pow10", laid_internal_strconv_uint64pow10), ("mandoline/fence.texts", laid_mandoline_fence_texts)], narrowed := true }
def FenceTurnsUptoSaid : Prop := fenceTurnsUptoRow.holds Tryd.pinned (OpenSpec.upto fenceTurnsSpec)

/-- 'mandolinelaw37.FenceApart', WHERE WHAT IT READS IS OF BULK AT MOST 1048576: true; the input reads as it did. -/
def fenceApartUptoRow : OpenClaim := { program := "ytbgojgoejlhgeaadoor", sum := "fb7841568f084945317af99b8e212f443d7647d51ec45c55e8b4a052a7cb2083", func := "mandoline/mandolinelaw37.FenceApart", spec := "fenceApart", inPlace := ["internal/abi.NoEscape", "internal/bytealg.MakeNoZero"], unfollowed := true, recurses := true, named := ["internal/strconv.uint64pow10", "math/bits.deBruijn32tab", "math/bits.deBruijn64tab", "mandoline/fence.texts"], apart := false, laid := [("math/bits.deBruijn32tab", laid_math_bits_deBruijn32tab), ("math/bits.deBruijn64tab", laid_math_bits_deBruijn64tab), ("internal/strconv.uint64pow10", laid_internal_strconv_uint64pow10), ("mandoline/fence.texts", laid_mandoline_fence_texts)], narrowed := true }
def FenceApartUptoSaid : Prop := fenceApartUptoRow.holds Tryd.pinned (OpenSpec.upto fenceApartSpec)

/-- 'mandolinelaw37.FenceLost', WHERE WHAT IT READS IS OF BULK AT MOST 1048576: true; the input reads as it did. -/
def fenceLostUptoRow : OpenClaim := { program := "ytbgojgoejlhgeaadoor", sum := "fb7841568f084945317af99b8e212f443d7647d51ec45c55e8b4a052a7cb2083", func := "mandoline/mandolinelaw37.FenceLost", spec := "fenceLost", inPlace := ["internal/abi.NoEscape", "internal/bytealg.MakeNoZero"], unfollowed := true, recurses := true, named := ["internal/strconv.uint64pow10", "math/bits.deBruijn32tab", "math/bits.deBruijn64tab", "mandoline/fence.texts"], apart := false, laid := [("math/bits.deBruijn32tab", laid_math_bits_deBruijn32tab), ("math/bits.deBruijn64tab", laid_math_bits_deBruijn64tab), ("internal/strconv.uint64pow10", laid_internal_strconv_uint64pow10), ("mandoline/fence.texts", laid_mandoline_fence_texts)], narrowed := true }
def FenceLostUptoSaid : Prop := fenceLostUptoRow.holds Tryd.pinned (OpenSpec.upto fenceLostSpec)

/-- 'mandolinelaw37.FenceGoes', WHERE WHAT IT READS IS OF BULK AT MOST 1048576: true; the input reads as it did. -/
def fenceGoesUptoRow : OpenClaim := { program := "ytbgojgoejlhgeaadoor", sum := "fb7841568f084945317af99b8e212f443d7647d51ec45c55e8b4a052a7cb2083", func := "mandoline/mandolinelaw37.FenceGoes", spec := "fenceGoes", inPlace := ["internal/abi.NoEscape", "internal/bytealg.MakeNoZero"], unfollowed := true, recurses := true, named := ["internal/strconv.uint64pow10", "math/bits.deBruijn32tab", "math/bits.deBruijn64tab", "mandoline/fence.texts"], apart := false, laid := [("math/bits.deBruijn32tab", laid_math_bits_deBruijn32tab), ("math/bits.deBruijn64tab", laid_math_bits_deBruijn64tab), ("internal/strconv.uint64pow10", laid_internal_strconv_uint64pow10), ("mandoline/fence.texts", laid_mandoline_fence_texts)], narrowed := true }
def FenceGoesUptoSaid : Prop := fenceGoesUptoRow.holds Tryd.pinned (OpenSpec.upto fenceGoesSpec)

/-- 'mandolinelaw37.FenceEnds', WHERE WHAT IT READS IS OF BULK AT MOST 1048576: true; the input reads as it did. -/
def fenceEndsUptoRow : OpenClaim := { program := "ytbgojgoejlhgeaadoor", sum := "fb7841568f084945317af99b8e212f443d7647d51ec45c55e8b4a052a7cb2083", func := "mandoline/mandolinelaw37.FenceEnds", spec := "fenceEnds", inPlace := ["internal/abi.NoEscape", "internal/bytealg.MakeNoZero"], unfollowed := true, recurses := true, named := ["internal/strconv.uint64pow10", "math/bits.deBruijn32tab", "math/bits.deBruijn64tab", "mandoline/fence.texts"], apart := false, laid := [("math/bits.deBruijn32tab", laid_math_bits_deBruijn32tab), ("math/bits.deBruijn64tab", laid_math_bits_deBruijn64tab), ("internal/strconv.uint64pow10", laid_internal_strconv_uint64pow10), ("mandoline/fence.texts", laid_mandoline_fence_texts)], narrowed := true }
def FenceEndsUptoSaid : Prop := fenceEndsUptoRow.holds Tryd.pinned (OpenSpec.upto fenceEndsSpec)

end Rows
end Go.Proofs.YtbgojgoejlhgeaaDoor
