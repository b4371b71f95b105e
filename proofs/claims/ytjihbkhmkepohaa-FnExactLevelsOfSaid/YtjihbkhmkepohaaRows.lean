/-
  No cell of these rows narrows 'for every input' (looked for: loops, veiled, ifaces, maps, wideKeys, modest, calm, conditions, laid).
  DERIVED. THE GIVEN ROWS OF THIS SEAT. 8 by the template 'for every input the law returns true; each argument reads behind the call as it read before'; 0 by the template 'total and deterministic' (their statements: YtjihbkhmkepohaaTotals.lean).
  GIVEN WITH THE SEED: the statements are not yours to turn. If you find one false, say at which input.
  Laid BY PROGRAM, IN A SANDBOX (cutbox-rows.mjs): the forced cells as the released guide's own fill.sh prints them over the translation ed1da1e6ab7eee60… (all of the seat's roots in one cut). By AI agents, Wed Nov 11 2026. No macro, syntax, notation, axiom, sorry.
-/
import Derived.Test.YtjihbkhmkepohaaChecked
import GoSem.Claim
import GoSem.ClaimJoined
import GoSem.ClaimMapViews
import Derived.JoinedTies
import Derived.KernelRfl
namespace Go.Proofs.Ytjihbkhmkepohaa
/- THE CELL 'sum', in the pinned program and in every row, IS THE sha256 OF THE DUMP (.gsa) THAT YtjihbkhmkepohaaProg.lean LOADS. Nothing in Lean hashes anything: it is a label: what it is worth is what the hold of that sum in a sandbox is worth. -/
noncomputable def Try.pinned : Pinned := { name := "ytjihbkhmkepohaa", sum := "ed1da1e6ab7eee60cf857256f725b7d6343d8646405d8ef3bdc6cd4621beb207", checked := Try.checked }
namespace Rows
def none {H : Type} : Left H := { results := [], args := [] }

/-- 'laws.FnExactMeanPower': WHATEVER THE INPUT: true; the input reads as it did. -/
def fnExactMeanPowerSpec : ChangeSpec := { name := "fnExactMeanPower", fn := fun _ => fun
  | [d] => { results := [.lit (.bool true)], args := [d] }
  | _ => none }
def fnExactMeanPowerRow : OpenClaim := { program := "ytjihbkhmkepohaa", sum := "ed1da1e6ab7eee60cf857256f725b7d6343d8646405d8ef3bdc6cd4621beb207", func := "loop.example/g01181/laws.FnExactMeanPower", spec := "fnExactMeanPower", apart := false }
def FnExactMeanPowerSaid : Prop := fnExactMeanPowerRow.holds Try.pinned (OpenSpec.ofChange fnExactMeanPowerSpec)

/-- ITS FALSE NEIGHBOUR: 'it returns false'. Refute it at one input. -/
def fnExactMeanPowerWrong : ChangeSpec := { name := "fnExactMeanPower", fn := fun _ => fun
  | [d] => { results := [.lit (.bool false)], args := [d] }
  | _ => none }
def FnExactMeanPowerWrongFalsely : Prop := fnExactMeanPowerRow.holds Try.pinned (OpenSpec.ofChange fnExactMeanPowerWrong)

/-- 'laws.FnExactPeakOf': WHATEVER THE INPUT: true; the input reads as it did. -/
def fnExactPeakOfSpec : ChangeSpec := { name := "fnExactPeakOf", fn := fun _ => fun
  | [d] => { results := [.lit (.bool true)], args := [d] }
  | _ => none }
def fnExactPeakOfRow : OpenClaim := { program := "ytjihbkhmkepohaa", sum := "ed1da1e6ab7eee60cf857256f725b7d6343d8646405d8ef3bdc6cd4621beb207", func := "loop.example/g01181/laws.FnExactPeakOf", spec := "fnExactPeakOf", apart := false }
def FnExactPeakOfSaid : Prop := fnExactPeakOfRow.holds Try.pinned (OpenSpec.ofChange fnExactPeakOfSpec)

/-- ITS FALSE NEIGHBOUR: 'it returns false'. Refute it at one input. -/
def fnExactPeakOfWrong : ChangeSpec := { name := "fnExactPeakOf", fn := fun _ => fun
  | [d] => { results := [.lit (.bool false)], args := [d] }
  | _ => none }
def FnExactPeakOfWrongFalsely : Prop := fnExactPeakOfRow.holds Try.pinned (OpenSpec.ofChange fnExactPeakOfWrong)

/-- 'laws.FnExactWidthOf': WHATEVER THE INPUT: true; the input reads as it did. -/
def fnExactWidthOfSpec : ChangeSpec := { name := "fnExactWidthOf", fn := fun _ => fun
  | [d1, d2] => { results := [.lit (.bool true)], args := [d1, d2] }
  | _ => none }
def fnExactWidthOfRow : OpenClaim := { program := "ytjihbkhmkepohaa", sum := "ed1da1e6ab7eee60cf857256f725b7d6343d8646405d8ef3bdc6cd4621beb207", func := "loop.example/g01181/laws.FnExactWidthOf", spec := "fnExactWidthOf", apart := false }
def FnExactWidthOfSaid : Prop := fnExactWidthOfRow.holds Try.pinned (OpenSpec.ofChange fnExactWidthOfSpec)

/-- ITS FALSE NEIGHBOUR: 'it returns false'. Refute it at one input. -/
def fnExactWidthOfWrong : ChangeSpec := { name := "fnExactWidthOf", fn := fun _ => fun
  | [d1, d2] => { results := [.lit (.bool false)], args := [d1, d2] }
  | _ => none }
def FnExactWidthOfWrongFalsely : Prop := fnExactWidthOfRow.holds Try.pinned (OpenSpec.ofChange fnExactWidthOfWrong)

/-- 'laws.FnExactMainLobe': WHATEVER THE INPUT: true; the input reads as it did. -/
def fnExactMainLobeSpec : ChangeSpec := { name := "fnExactMainLobe", fn := fun _ => fun
  | [d1, d2] => { results := [.lit (.bool true)], args := [d1, d2] }
  | _ => none }
def fnExactMainLobeRow : OpenClaim := { program := "ytjihbkhmkepohaa", sum := "ed1da1e6ab7eee60cf857256f725b7d6343d8646405d8ef3bdc6cd4621beb207", func := "loop.example/g01181/laws.FnExactMainLobe", spec := "fnExactMainLobe", apart := false }
def FnExactMainLobeSaid : Prop := fnExactMainLobeRow.holds Try.pinned (OpenSpec.ofChange fnExactMainLobeSpec)

/-- ITS FALSE NEIGHBOUR: 'it returns false'. Refute it at one input. -/
def fnExactMainLobeWrong : ChangeSpec := { name := "fnExactMainLobe", fn := fun _ => fun
  | [d1, d2] => { results := [.lit (.bool false)], args := [d1, d2] }
  | _ => none }
def FnExactMainLobeWrongFalsely : Prop := fnExactMainLobeRow.holds Try.pinned (OpenSpec.ofChange fnExactMainLobeWrong)

/-- 'laws.FnExactSideLevel': WHATEVER THE INPUT: true; the input reads as it did. -/
def fnExactSideLevelSpec : ChangeSpec := { name := "fnExactSideLevel", fn := fun _ => fun
  | [d1, d2] => { results := [.lit (.bool true)], args := [d1, d2] }
  | _ => none }
def fnExactSideLevelRow : OpenClaim := { program := "ytjihbkhmkepohaa", sum := "ed1da1e6ab7eee60cf857256f725b7d6343d8646405d8ef3bdc6cd4621beb207", func := "loop.example/g01181/laws.FnExactSideLevel", spec := "fnExactSideLevel", apart := false }
def FnExactSideLevelSaid : Prop := fnExactSideLevelRow.holds Try.pinned (OpenSpec.ofChange fnExactSideLevelSpec)

/-- ITS FALSE NEIGHBOUR: 'it returns false'. Refute it at one input. -/
def fnExactSideLevelWrong : ChangeSpec := { name := "fnExactSideLevel", fn := fun _ => fun
  | [d1, d2] => { results := [.lit (.bool false)], args := [d1, d2] }
  | _ => none }
def FnExactSideLevelWrongFalsely : Prop := fnExactSideLevelRow.holds Try.pinned (OpenSpec.ofChange fnExactSideLevelWrong)

/-- 'laws.FnExactDipsOf': WHATEVER THE INPUT: true; the input reads as it did. -/
def fnExactDipsOfSpec : ChangeSpec := { name := "fnExactDipsOf", fn := fun _ => fun
  | [d] => { results := [.lit (.bool true)], args := [d] }
  | _ => none }
def fnExactDipsOfRow : OpenClaim := { program := "ytjihbkhmkepohaa", sum := "ed1da1e6ab7eee60cf857256f725b7d6343d8646405d8ef3bdc6cd4621beb207", func := "loop.example/g01181/laws.FnExactDipsOf", spec := "fnExactDipsOf", unfollowed := true, recurses := true, apart := false }
def FnExactDipsOfSaid : Prop := fnExactDipsOfRow.holds Try.pinned (OpenSpec.ofChange fnExactDipsOfSpec)

/-- ITS FALSE NEIGHBOUR: 'it returns false'. Refute it at one input. -/
def fnExactDipsOfWrong : ChangeSpec := { name := "fnExactDipsOf", fn := fun _ => fun
  | [d] => { results := [.lit (.bool false)], args := [d] }
  | _ => none }
def FnExactDipsOfWrongFalsely : Prop := fnExactDipsOfRow.holds Try.pinned (OpenSpec.ofChange fnExactDipsOfWrong)

/-- 'laws.FnExactLobesOf': WHATEVER THE INPUT: true; the input reads as it did. -/
def fnExactLobesOfSpec : ChangeSpec := { name := "fnExactLobesOf", fn := fun _ => fun
  | [d] => { results := [.lit (.bool true)], args := [d] }
  | _ => none }
def fnExactLobesOfRow : OpenClaim := { program := "ytjihbkhmkepohaa", sum := "ed1da1e6ab7eee60cf857256f725b7d6343d8646405d8ef3bdc6cd4621beb207", func := "loop.example/g01181/laws.FnExactLobesOf", spec := "fnExactLobesOf", unfollowed := true, recurses := true, apart := false }
def FnExactLobesOfSaid : Prop := fnExactLobesOfRow.holds Try.pinned (OpenSpec.ofChange fnExactLobesOfSpec)

/-- ITS FALSE NEIGHBOUR: 'it returns false'. Refute it at one input. -/
def fnExactLobesOfWrong : ChangeSpec := { name := "fnExactLobesOf", fn := fun _ => fun
  | [d] => { results := [.lit (.bool false)], args := [d] }
  | _ => none }
def FnExactLobesOfWrongFalsely : Prop := fnExactLobesOfRow.holds Try.pinned (OpenSpec.ofChange fnExactLobesOfWrong)

/-- 'laws.FnExactLevelsOf': WHATEVER THE INPUT: true; the input reads as it did. -/
def fnExactLevelsOfSpec : ChangeSpec := { name := "fnExactLevelsOf", fn := fun _ => fun
  | [d] => { results := [.lit (.bool true)], args := [d] }
  | _ => none }
def fnExactLevelsOfRow : OpenClaim := { program := "ytjihbkhmkepohaa", sum := "ed1da1e6ab7eee60cf857256f725b7d6343d8646405d8ef3bdc6cd4621beb207", func := "loop.example/g01181/laws.FnExactLevelsOf", spec := "fnExactLevelsOf", inPlace := ["math.Float64frombits", "math.Float64bits", "math.archFloor", "math.archTrunc"], apart := false }
def FnExactLevelsOfSaid : Prop := fnExactLevelsOfRow.holds Try.pinned (OpenSpec.ofChange fnExactLevelsOfSpec)

/-- ITS FALSE NEIGHBOUR: 'it returns false'. Refute it at one input. -/
def fnExactLevelsOfWrong : ChangeSpec := { name := "fnExactLevelsOf", fn := fun _ => fun
  | [d] => { results := [.lit (.bool false)], args := [d] }
  | _ => none }
def FnExactLevelsOfWrongFalsely : Prop := fnExactLevelsOfRow.holds Try.pinned (OpenSpec.ofChange fnExactLevelsOfWrong)

/- THE SECOND FORM. 'bulk': how many values and letters a reading holds, each counted each time it is reached (what is shared counts as often as it is met; a slice's spare places count too). A statement '..UptoSaid' is the law's where the arguments, and the package variables that the reading takes, are together of bulk at most 1048576: NARROWER than '..Said'. Prove '..Said' where nothing that the law and all that it calls make is longer than what came in: it says more and counts as full. Else prove '..UptoSaid'. A law counts once. -/
mutual
def uptoBulk {H : Type} : DataW H → Nat
  | .lit (.string bytes) => bytes.length + 1
  | .lit _ => 1
  | .nil => 1
  | .ptr d => uptoBulk d + 1
  | .slice elems spare => uptoBulkAll elems + uptoBulkAll spare + 1
  | .agg parts => uptoBulkAll parts + 1
  | .iface _ d => uptoBulk d + 1
  | .map entries => uptoBulkEntries entries + 1
  | .held _ => 1
def uptoBulkAll {H : Type} : List (DataW H) → Nat
  | [] => 0
  | d :: r => uptoBulk d + uptoBulkAll r
def uptoBulkEntries {H : Type} : List (Lit × DataW H) → Nat
  | [] => 0
  | x :: r => uptoBulkEntry x + uptoBulkEntries r
def uptoBulkEntry {H : Type} : Lit × DataW H → Nat
  | (.string bytes, d) => bytes.length + uptoBulk d + 1
  | (_, d) => uptoBulk d + 1
 end
def uptoSmall : (H : Type) → List (DataW H) → Bool := fun _ ds => decide (uptoBulkAll ds ≤ 1048576)
def OpenSpec.upto (s : _root_.Go.ChangeSpec) : _root_.Go.OpenSpec := { _root_.Go.OpenSpec.ofChange s with cond := some uptoSmall }

/-- 'laws.FnExactMeanPower', WHERE WHAT IT READS IS OF BULK AT MOST 1048576: true; the input reads as it did. -/
def fnExactMeanPowerUptoRow : OpenClaim := { program := "ytjihbkhmkepohaa", sum := "ed1da1e6ab7eee60cf857256f725b7d6343d8646405d8ef3bdc6cd4621beb207", func := "loop.example/g01181/laws.FnExactMeanPower", spec := "fnExactMeanPower", apart := false, narrowed := true }
def FnExactMeanPowerUptoSaid : Prop := fnExactMeanPowerUptoRow.holds Try.pinned (OpenSpec.upto fnExactMeanPowerSpec)

/-- 'laws.FnExactPeakOf', WHERE WHAT IT READS IS OF BULK AT MOST 1048576: true; the input reads as it did. -/
def fnExactPeakOfUptoRow : OpenClaim := { program := "ytjihbkhmkepohaa", sum := "ed1da1e6ab7eee60cf857256f725b7d6343d8646405d8ef3bdc6cd4621beb207", func := "loop.example/g01181/laws.FnExactPeakOf", spec := "fnExactPeakOf", apart := false, narrowed := true }
def FnExactPeakOfUptoSaid : Prop := fnExactPeakOfUptoRow.holds Try.pinned (OpenSpec.upto fnExactPeakOfSpec)

/-- 'laws.FnExactWidthOf', WHERE WHAT IT READS IS OF BULK AT MOST 1048576: true; the input reads as it did. -/
def fnExactWidthOfUptoRow : OpenClaim := { program := "ytjihbkhmkepohaa", sum := "ed1da1e6ab7eee60cf857256f725b7d6343d8646405d8ef3bdc6cd4621beb207", func := "loop.example/g01181/laws.FnExactWidthOf", spec := "fnExactWidthOf", apart := false, narrowed := true }
def FnExactWidthOfUptoSaid : Prop := fnExactWidthOfUptoRow.holds Try.pinned (OpenSpec.upto fnExactWidthOfSpec)

/-- 'laws.FnExactMainLobe', WHERE WHAT IT READS IS OF BULK AT MOST 1048576: true; the input reads as it did. -/
def fnExactMainLobeUptoRow : OpenClaim := { program := "ytjihbkhmkepohaa", sum := "ed1da1e6ab7eee60cf857256f725b7d6343d8646405d8ef3bdc6cd4621beb207", func := "loop.example/g01181/laws.FnExactMainLobe", spec := "fnExactMainLobe", apart := false, narrowed := true }
def FnExactMainLobeUptoSaid : Prop := fnExactMainLobeUptoRow.holds Try.pinned (OpenSpec.upto fnExactMainLobeSpec)

/-- 'laws.FnExactSideLevel', WHERE WHAT IT READS IS OF BULK AT MOST 1048576: true; the input reads as it did. -/
def fnExactSideLevelUptoRow : OpenClaim := { program := "ytjihbkhmkepohaa", sum := "ed1da1e6ab7eee60cf857256f725b7d6343d8646405d8ef3bdc6cd4621beb207", func := "loop.example/g01181/laws.FnExactSideLevel", spec := "fnExactSideLevel", apart := false, narrowed := true }
def FnExactSideLevelUptoSaid : Prop := fnExactSideLevelUptoRow.holds Try.pinned (OpenSpec.upto fnExactSideLevelSpec)

/-- 'laws.FnExactDipsOf', WHERE WHAT IT READS IS OF BULK AT MOST 1048576: true; the input reads as it did. -/
def fnExactDipsOfUptoRow : OpenClaim := { program := "ytjihbkhmkepohaa", sum := "ed1da1e6ab7eee60cf857256f725b7d6343d8646405d8ef3bdc6cd4621beb207", func := "loop.example/g01181/laws.FnExactDipsOf", spec := "fnExactDipsOf", unfollowed := true, recurses := true, apart := false, narrowed := true }
def FnExactDipsOfUptoSaid : Prop := fnExactDipsOfUptoRow.holds Try.pinned (OpenSpec.upto fnExactDipsOfSpec)

/-- 'laws.FnExactLobesOf', WHERE WHAT IT READS IS OF BULK AT MOST 1048576: true; the input reads as it did. -/
def fnExactLobesOfUptoRow : OpenClaim := { program := "ytjihbkhmkepohaa", sum := "ed1da1e6ab7eee60cf857256f725b7d6343d8646405d8ef3bdc6cd4621beb207", func := "loop.example/g01181/laws.FnExactLobesOf", spec := "fnExactLobesOf", unfollowed := true, recurses := true, apart := false, narrowed := true }
def FnExactLobesOfUptoSaid : Prop := fnExactLobesOfUptoRow.holds Try.pinned (OpenSpec.upto fnExactLobesOfSpec)

/-- 'laws.FnExactLevelsOf', WHERE WHAT IT READS IS OF BULK AT MOST 1048576: true; the input reads as it did. -/
def fnExactLevelsOfUptoRow : OpenClaim := { program := "ytjihbkhmkepohaa", sum := "ed1da1e6ab7eee60cf857256f725b7d6343d8646405d8ef3bdc6cd4621beb207", func := "loop.example/g01181/laws.FnExactLevelsOf", spec := "fnExactLevelsOf", inPlace := ["math.Float64frombits", "math.Float64bits", "math.archFloor", "math.archTrunc"], apart := false, narrowed := true }
def FnExactLevelsOfUptoSaid : Prop := fnExactLevelsOfUptoRow.holds Try.pinned (OpenSpec.upto fnExactLevelsOfSpec)

end Rows
end Go.Proofs.Ytjihbkhmkepohaa
