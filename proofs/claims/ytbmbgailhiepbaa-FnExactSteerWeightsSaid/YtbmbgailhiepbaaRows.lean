/-
  No cell of these rows narrows 'for every input' (looked for: loops, veiled, ifaces, maps, wideKeys, modest, calm, conditions, laid).
  DERIVED. THE GIVEN ROWS OF THIS SEAT. 5 by the template 'for every input the law returns true; each argument reads behind the call as it read before'; 0 by the template 'total and deterministic' (their statements: YtbmbgailhiepbaaTotals.lean).
  GIVEN WITH THE SEED: the statements are not yours to turn. If you find one false, say at which input.
  Laid BY PROGRAM, IN A SANDBOX (cutbox-rows.mjs): the forced cells as the released guide's own fill.sh prints them over the translation 059f76675119ea8b… (all of the seat's roots in one cut). By AI agents, Wed Nov 11 2026. No macro, syntax, notation, axiom, sorry.
-/
import Derived.Test.YtbmbgailhiepbaaChecked
import GoSem.Claim
import GoSem.ClaimJoined
import GoSem.ClaimMapViews
import Derived.JoinedTies
import Derived.KernelRfl
namespace Go.Proofs.Ytbmbgailhiepbaa
/- THE CELL 'sum', in the pinned program and in every row, IS THE sha256 OF THE DUMP (.gsa) THAT YtbmbgailhiepbaaProg.lean LOADS. Nothing in Lean hashes anything: it is a label: what it is worth is what the hold of that sum in a sandbox is worth. -/
noncomputable def Try.pinned : Pinned := { name := "ytbmbgailhiepbaa", sum := "059f76675119ea8b2575e3fde88f6672766d59c91fc8ed28ceb39fc845786c5e", checked := Try.checked }
namespace Rows
def none {H : Type} : Left H := { results := [], args := [] }

/-- 'laws.FnExactNoiseOf': WHATEVER THE INPUT: true; the input reads as it did. -/
def fnExactNoiseOfSpec : ChangeSpec := { name := "fnExactNoiseOf", fn := fun _ => fun
  | [d1, d2, d3, d4] => { results := [.lit (.bool true)], args := [d1, d2, d3, d4] }
  | _ => none }
def fnExactNoiseOfRow : OpenClaim := { program := "ytbmbgailhiepbaa", sum := "059f76675119ea8b2575e3fde88f6672766d59c91fc8ed28ceb39fc845786c5e", func := "loop.example/g01181/laws.FnExactNoiseOf", spec := "fnExactNoiseOf", unfollowed := true, recurses := true, apart := false }
def FnExactNoiseOfSaid : Prop := fnExactNoiseOfRow.holds Try.pinned (OpenSpec.ofChange fnExactNoiseOfSpec)

/-- ITS FALSE NEIGHBOUR: 'it returns false'. Refute it at one input. -/
def fnExactNoiseOfWrong : ChangeSpec := { name := "fnExactNoiseOf", fn := fun _ => fun
  | [d1, d2, d3, d4] => { results := [.lit (.bool false)], args := [d1, d2, d3, d4] }
  | _ => none }
def FnExactNoiseOfWrongFalsely : Prop := fnExactNoiseOfRow.holds Try.pinned (OpenSpec.ofChange fnExactNoiseOfWrong)

/-- 'laws.FnExactSymbolOf': WHATEVER THE INPUT: true; the input reads as it did. -/
def fnExactSymbolOfSpec : ChangeSpec := { name := "fnExactSymbolOf", fn := fun _ => fun
  | [d1, d2] => { results := [.lit (.bool true)], args := [d1, d2] }
  | _ => none }
def fnExactSymbolOfRow : OpenClaim := { program := "ytbmbgailhiepbaa", sum := "059f76675119ea8b2575e3fde88f6672766d59c91fc8ed28ceb39fc845786c5e", func := "loop.example/g01181/laws.FnExactSymbolOf", spec := "fnExactSymbolOf", apart := false }
def FnExactSymbolOfSaid : Prop := fnExactSymbolOfRow.holds Try.pinned (OpenSpec.ofChange fnExactSymbolOfSpec)

/-- ITS FALSE NEIGHBOUR: 'it returns false'. Refute it at one input. -/
def fnExactSymbolOfWrong : ChangeSpec := { name := "fnExactSymbolOf", fn := fun _ => fun
  | [d1, d2] => { results := [.lit (.bool false)], args := [d1, d2] }
  | _ => none }
def FnExactSymbolOfWrongFalsely : Prop := fnExactSymbolOfRow.holds Try.pinned (OpenSpec.ofChange fnExactSymbolOfWrong)

/-- 'laws.FnExactTaperOf': WHATEVER THE INPUT: true; the input reads as it did. -/
def fnExactTaperOfSpec : ChangeSpec := { name := "fnExactTaperOf", fn := fun _ => fun
  | [d1, d2] => { results := [.lit (.bool true)], args := [d1, d2] }
  | _ => none }
def fnExactTaperOfRow : OpenClaim := { program := "ytbmbgailhiepbaa", sum := "059f76675119ea8b2575e3fde88f6672766d59c91fc8ed28ceb39fc845786c5e", func := "loop.example/g01181/laws.FnExactTaperOf", spec := "fnExactTaperOf", inPlace := ["math.Float32frombits", "math.Float64frombits", "math.Float64bits"], apart := false }
def FnExactTaperOfSaid : Prop := fnExactTaperOfRow.holds Try.pinned (OpenSpec.ofChange fnExactTaperOfSpec)

/-- ITS FALSE NEIGHBOUR: 'it returns false'. Refute it at one input. -/
def fnExactTaperOfWrong : ChangeSpec := { name := "fnExactTaperOf", fn := fun _ => fun
  | [d1, d2] => { results := [.lit (.bool false)], args := [d1, d2] }
  | _ => none }
def FnExactTaperOfWrongFalsely : Prop := fnExactTaperOfRow.holds Try.pinned (OpenSpec.ofChange fnExactTaperOfWrong)

/-- 'laws.FnExactNullWeights': WHATEVER THE INPUT: true; the input reads as it did. -/
def fnExactNullWeightsSpec : ChangeSpec := { name := "fnExactNullWeights", fn := fun _ => fun
  | [d1, d2] => { results := [.lit (.bool true)], args := [d1, d2] }
  | _ => none }
def fnExactNullWeightsRow : OpenClaim := { program := "ytbmbgailhiepbaa", sum := "059f76675119ea8b2575e3fde88f6672766d59c91fc8ed28ceb39fc845786c5e", func := "loop.example/g01181/laws.FnExactNullWeights", spec := "fnExactNullWeights", inPlace := ["math.Float32frombits", "math.Float64frombits", "math.Float64bits"], unfollowed := true, recurses := true, apart := false }
def FnExactNullWeightsSaid : Prop := fnExactNullWeightsRow.holds Try.pinned (OpenSpec.ofChange fnExactNullWeightsSpec)

/-- ITS FALSE NEIGHBOUR: 'it returns false'. Refute it at one input. -/
def fnExactNullWeightsWrong : ChangeSpec := { name := "fnExactNullWeights", fn := fun _ => fun
  | [d1, d2] => { results := [.lit (.bool false)], args := [d1, d2] }
  | _ => none }
def FnExactNullWeightsWrongFalsely : Prop := fnExactNullWeightsRow.holds Try.pinned (OpenSpec.ofChange fnExactNullWeightsWrong)

/-- 'laws.FnExactSteerWeights': WHATEVER THE INPUT: true; the input reads as it did. -/
def fnExactSteerWeightsSpec : ChangeSpec := { name := "fnExactSteerWeights", fn := fun _ => fun
  | [d1, d2, d3] => { results := [.lit (.bool true)], args := [d1, d2, d3] }
  | _ => none }
def fnExactSteerWeightsRow : OpenClaim := { program := "ytbmbgailhiepbaa", sum := "059f76675119ea8b2575e3fde88f6672766d59c91fc8ed28ceb39fc845786c5e", func := "loop.example/g01181/laws.FnExactSteerWeights", spec := "fnExactSteerWeights", inPlace := ["math.Float32frombits", "math.Float64frombits", "math.Float64bits"], apart := false }
def FnExactSteerWeightsSaid : Prop := fnExactSteerWeightsRow.holds Try.pinned (OpenSpec.ofChange fnExactSteerWeightsSpec)

/-- ITS FALSE NEIGHBOUR: 'it returns false'. Refute it at one input. -/
def fnExactSteerWeightsWrong : ChangeSpec := { name := "fnExactSteerWeights", fn := fun _ => fun
  | [d1, d2, d3] => { results := [.lit (.bool false)], args := [d1, d2, d3] }
  | _ => none }
def FnExactSteerWeightsWrongFalsely : Prop := fnExactSteerWeightsRow.holds Try.pinned (OpenSpec.ofChange fnExactSteerWeightsWrong)

/- THE SECOND FORM. 'bulk': how many values and letters a reading holds, each counted each time it is reached (what is shared counts as often as it is met; a slice's spare places count too). A statement '..UptoSaid' is the law's where the arguments, and the package variables that the reading takes, are together of bulk at most 1048576: NARROWER than '..Said'. Prove '..Said' where nothing that the law and all that it calls make is longer than what came in: it says more and counts as full. Else prove '..UptoSaid'. A law counts once. -/
mutual
def uptoBulk {H : Type} : DataW H → Nat
  | .lit (.string bytes) => bytes.length + 1
  | .lit _ => 1
  | .nil => 1
  | .ptr d => uptoBulk d + 1
  | .slice elems spare => uptoBulkAll elems + uptoBulkAll spare + 1
  | .agg parts => uptoBulkAll parts + 1
  | .iface _ d => uptoBulk d + 1
  | .map entries => uptoBulkEntries entries + 1
  | .held _ => 1
def uptoBulkAll {H : Type} : List (DataW H) → Nat
  | [] => 0
  | d :: r => uptoBulk d + uptoBulkAll r
def uptoBulkEntries {H : Type} : List (Lit × DataW H) → Nat
  | [] => 0
  | x :: r => uptoBulkEntry x + uptoBulkEntries r
def uptoBulkEntry {H : Type} : Lit × DataW H → Nat
  | (.string bytes, d) => bytes.length + uptoBulk d + 1
  | (_, d) => uptoBulk d + 1
 end
def uptoSmall : (H : Type) → List (DataW H) → Bool := fun _ ds => decide (uptoBulkAll ds ≤ 1048576)
def OpenSpec.upto (s : _root_.Go.ChangeSpec) : _root_.Go.OpenSpec := { _root_.Go.OpenSpec.ofChange s with cond := some uptoSmall }

/-- 'laws.FnExactNoiseOf', WHERE WHAT IT READS IS OF BULK AT MOST 1048576: true; the input reads as it did. -/
def fnExactNoiseOfUptoRow : OpenClaim := { program := "ytbmbgailhiepbaa", sum := "059f76675119ea8b2575e3fde88f6672766d59c91fc8ed28ceb39fc845786c5e", func := "loop.example/g01181/laws.FnExactNoiseOf", spec := "fnExactNoiseOf", unfollowed := true, recurses := true, apart := false, narrowed := true }
def FnExactNoiseOfUptoSaid : Prop := fnExactNoiseOfUptoRow.holds Try.pinned (OpenSpec.upto fnExactNoiseOfSpec)

/-- 'laws.FnExactSymbolOf', WHERE WHAT IT READS IS OF BULK AT MOST 1048576: true; the input reads as it did. -/
def fnExactSymbolOfUptoRow : OpenClaim := { program := "ytbmbgailhiepbaa", sum := "059f76675119ea8b2575e3fde88f6672766d59c91fc8ed28ceb39fc845786c5e", func := "loop.example/g01181/laws.FnExactSymbolOf", spec := "fnExactSymbolOf", apart := false, narrowed := true }
def FnExactSymbolOfUptoSaid : Prop := fnExactSymbolOfUptoRow.holds Try.pinned (OpenSpec.upto fnExactSymbolOfSpec)

/-- 'laws.FnExactTaperOf', WHERE WHAT IT READS IS OF BULK AT MOST 1048576: true; the input reads as it did. -/
def fnExactTaperOfUptoRow : OpenClaim := { program := "ytbmbgailhiepbaa", sum := "059f76675119ea8b2575e3fde88f6672766d59c91fc8ed28ceb39fc845786c5e", func := "loop.example/g01181/laws.FnExactTaperOf", spec := "fnExactTaperOf", inPlace := ["math.Float32frombits", "math.Float64frombits", "math.Float64bits"], apart := false, narrowed := true }
def FnExactTaperOfUptoSaid : Prop := fnExactTaperOfUptoRow.holds Try.pinned (OpenSpec.upto fnExactTaperOfSpec)

/-- 'laws.FnExactNullWeights', WHERE WHAT IT READS IS OF BULK AT MOST 1048576: true; the input reads as it did. -/
def fnExactNullWeightsUptoRow : OpenClaim := { program := "ytbmbgailhiepbaa", sum := "059f76675119ea8b2575e3fde88f6672766d59c91fc8ed28ceb39fc845786c5e", func := "loop.example/g01181/laws.FnExactNullWeights", spec := "fnExactNullWeights", inPlace := ["math.Float32frombits", "math.Float64frombits", "math.Float64bits"], unfollowed := true, recurses := true, apart := false, narrowed := true }
def FnExactNullWeightsUptoSaid : Prop := fnExactNullWeightsUptoRow.holds Try.pinned (OpenSpec.upto fnExactNullWeightsSpec)

/-- 'laws.FnExactSteerWeights', WHERE WHAT IT READS IS OF BULK AT MOST 1048576: true; the input reads as it did. -/
def fnExactSteerWeightsUptoRow : OpenClaim := { program := "ytbmbgailhiepbaa", sum := "059f76675119ea8b2575e3fde88f6672766d59c91fc8ed28ceb39fc845786c5e", func := "loop.example/g01181/laws.FnExactSteerWeights", spec := "fnExactSteerWeights", inPlace := ["math.Float32frombits", "math.Float64frombits", "math.Float64bits"], apart := false, narrowed := true }
def FnExactSteerWeightsUptoSaid : Prop := fnExactSteerWeightsUptoRow.holds Try.pinned (OpenSpec.upto fnExactSteerWeightsSpec)

end Rows
end Go.Proofs.Ytbmbgailhiepbaa
