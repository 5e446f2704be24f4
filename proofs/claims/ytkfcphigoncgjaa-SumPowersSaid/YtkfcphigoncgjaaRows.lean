/-
  No cell of these rows narrows 'for every input' (looked for: loops, veiled, ifaces, maps, wideKeys, modest, calm, conditions, laid).
  DERIVED. THE GIVEN ROWS OF THIS SEAT. 15 by the template 'for every input the law returns true; each argument reads behind the call as it read before'; 0 by the template 'total and deterministic' (their statements: YtkfcphigoncgjaaTotals.lean).
  GIVEN WITH THE SEED: the statements are not yours to turn. If you find one false, say at which input.
  Laid BY PROGRAM, IN A SANDBOX (cutbox-rows.mjs): the forced cells as the released guide's own fill.sh prints them over the translation dcf80583415353d7… (all of the seat's roots in one cut). By AI agents, Wed Nov 11 2026. No macro, syntax, notation, axiom, sorry.
-/
import Derived.Test.YtkfcphigoncgjaaChecked
import GoSem.Claim
import GoSem.ClaimJoined
import GoSem.ClaimMapViews
import Derived.JoinedTies
import Derived.KernelRfl
namespace Go.Proofs.Ytkfcphigoncgjaa
/- THE CELL 'sum', in the pinned program and in every row, IS THE sha256 OF THE DUMP (.gsa) THAT YtkfcphigoncgjaaProg.lean LOADS. Nothing in Lean hashes anything: it is a label: what it is worth is what the hold of that sum in a sandbox is worth. -/
noncomputable def Try.pinned : Pinned := { name := "ytkfcphigoncgjaa", sum := "dcf80583415353d7d5a5afaba3d364e9c25059d55f922a58525def33ffd96056", checked := Try.checked }
namespace Rows
def none {H : Type} : Left H := { results := [], args := [] }

/-- 'chirographlaw08.OneSums': WHATEVER THE INPUT: true; the input reads as it did. -/
def oneSumsSpec : ChangeSpec := { name := "oneSums", fn := fun _ => fun
  | [d1, d2] => { results := [.lit (.bool true)], args := [d1, d2] }
  | _ => none }
def oneSumsRow : OpenClaim := { program := "ytkfcphigoncgjaa", sum := "dcf80583415353d7d5a5afaba3d364e9c25059d55f922a58525def33ffd96056", func := "chirograph/chirographlaw08.OneSums", spec := "oneSums", inPlace := ["math/bits.Add64", "math/bits.Sub64"], unfollowed := true, recurses := true, apart := false }
def OneSumsSaid : Prop := oneSumsRow.holds Try.pinned (OpenSpec.ofChange oneSumsSpec)

/-- ITS FALSE NEIGHBOUR: 'it returns false'. Refute it at one input. -/
def oneSumsWrong : ChangeSpec := { name := "oneSums", fn := fun _ => fun
  | [d1, d2] => { results := [.lit (.bool false)], args := [d1, d2] }
  | _ => none }
def OneSumsWrongFalsely : Prop := oneSumsRow.holds Try.pinned (OpenSpec.ofChange oneSumsWrong)

/-- 'chirographlaw08.OneGroup': WHATEVER THE INPUT: true; the input reads as it did. -/
def oneGroupSpec : ChangeSpec := { name := "oneGroup", fn := fun _ => fun
  | [d1, d2, d3] => { results := [.lit (.bool true)], args := [d1, d2, d3] }
  | _ => none }
def oneGroupRow : OpenClaim := { program := "ytkfcphigoncgjaa", sum := "dcf80583415353d7d5a5afaba3d364e9c25059d55f922a58525def33ffd96056", func := "chirograph/chirographlaw08.OneGroup", spec := "oneGroup", inPlace := ["math/bits.Add64", "math/bits.Sub64"], unfollowed := true, recurses := true, apart := false }
def OneGroupSaid : Prop := oneGroupRow.holds Try.pinned (OpenSpec.ofChange oneGroupSpec)

/-- ITS FALSE NEIGHBOUR: 'it returns false'. Refute it at one input. -/
def oneGroupWrong : ChangeSpec := { name := "oneGroup", fn := fun _ => fun
  | [d1, d2, d3] => { results := [.lit (.bool false)], args := [d1, d2, d3] }
  | _ => none }
def OneGroupWrongFalsely : Prop := oneGroupRow.holds Try.pinned (OpenSpec.ofChange oneGroupWrong)

/-- 'chirographlaw09.TwoSums': WHATEVER THE INPUT: true; the input reads as it did. -/
def twoSumsSpec : ChangeSpec := { name := "twoSums", fn := fun _ => fun
  | [d1, d2] => { results := [.lit (.bool true)], args := [d1, d2] }
  | _ => none }
def twoSumsRow : OpenClaim := { program := "ytkfcphigoncgjaa", sum := "dcf80583415353d7d5a5afaba3d364e9c25059d55f922a58525def33ffd96056", func := "chirograph/chirographlaw09.TwoSums", spec := "twoSums", inPlace := ["math/bits.Add64", "math/bits.Sub64"], unfollowed := true, recurses := true, apart := false }
def TwoSumsSaid : Prop := twoSumsRow.holds Try.pinned (OpenSpec.ofChange twoSumsSpec)

/-- ITS FALSE NEIGHBOUR: 'it returns false'. Refute it at one input. -/
def twoSumsWrong : ChangeSpec := { name := "twoSums", fn := fun _ => fun
  | [d1, d2] => { results := [.lit (.bool false)], args := [d1, d2] }
  | _ => none }
def TwoSumsWrongFalsely : Prop := twoSumsRow.holds Try.pinned (OpenSpec.ofChange twoSumsWrong)

/-- 'chirographlaw09.TwoGroup': WHATEVER THE INPUT: true; the input reads as it did. -/
def twoGroupSpec : ChangeSpec := { name := "twoGroup", fn := fun _ => fun
  | [d1, d2, d3] => { results := [.lit (.bool true)], args := [d1, d2, d3] }
  | _ => none }
def twoGroupRow : OpenClaim := { program := "ytkfcphigoncgjaa", sum := "dcf80583415353d7d5a5afaba3d364e9c25059d55f922a58525def33ffd96056", func := "chirograph/chirographlaw09.TwoGroup", spec := "twoGroup", inPlace := ["math/bits.Add64", "math/bits.Sub64"], unfollowed := true, recurses := true, apart := false }
def TwoGroupSaid : Prop := twoGroupRow.holds Try.pinned (OpenSpec.ofChange twoGroupSpec)

/-- ITS FALSE NEIGHBOUR: 'it returns false'. Refute it at one input. -/
def twoGroupWrong : ChangeSpec := { name := "twoGroup", fn := fun _ => fun
  | [d1, d2, d3] => { results := [.lit (.bool false)], args := [d1, d2, d3] }
  | _ => none }
def TwoGroupWrongFalsely : Prop := twoGroupRow.holds Try.pinned (OpenSpec.ofChange twoGroupWrong)

/-- 'chirographlaw08.OneTimes': WHATEVER THE INPUT: true; the input reads as it did. -/
def oneTimesSpec : ChangeSpec := { name := "oneTimes", fn := fun _ => fun
  | [d1, d2, d3, d4] => { results := [.lit (.bool true)], args := [d1, d2, d3, d4] }
  | _ => none }
def oneTimesRow : OpenClaim := { program := "ytkfcphigoncgjaa", sum := "dcf80583415353d7d5a5afaba3d364e9c25059d55f922a58525def33ffd96056", func := "chirograph/chirographlaw08.OneTimes", spec := "oneTimes", inPlace := ["math/bits.Add64", "math/bits.Sub64"], unfollowed := true, recurses := true, apart := false }
def OneTimesSaid : Prop := oneTimesRow.holds Try.pinned (OpenSpec.ofChange oneTimesSpec)

/-- ITS FALSE NEIGHBOUR: 'it returns false'. Refute it at one input. -/
def oneTimesWrong : ChangeSpec := { name := "oneTimes", fn := fun _ => fun
  | [d1, d2, d3, d4] => { results := [.lit (.bool false)], args := [d1, d2, d3, d4] }
  | _ => none }
def OneTimesWrongFalsely : Prop := oneTimesRow.holds Try.pinned (OpenSpec.ofChange oneTimesWrong)

/-- 'chirographlaw09.TwoTimes': WHATEVER THE INPUT: true; the input reads as it did. -/
def twoTimesSpec : ChangeSpec := { name := "twoTimes", fn := fun _ => fun
  | [d1, d2, d3, d4] => { results := [.lit (.bool true)], args := [d1, d2, d3, d4] }
  | _ => none }
def twoTimesRow : OpenClaim := { program := "ytkfcphigoncgjaa", sum := "dcf80583415353d7d5a5afaba3d364e9c25059d55f922a58525def33ffd96056", func := "chirograph/chirographlaw09.TwoTimes", spec := "twoTimes", inPlace := ["math/bits.Add64", "math/bits.Sub64"], unfollowed := true, recurses := true, apart := false }
def TwoTimesSaid : Prop := twoTimesRow.holds Try.pinned (OpenSpec.ofChange twoTimesSpec)

/-- ITS FALSE NEIGHBOUR: 'it returns false'. Refute it at one input. -/
def twoTimesWrong : ChangeSpec := { name := "twoTimes", fn := fun _ => fun
  | [d1, d2, d3, d4] => { results := [.lit (.bool false)], args := [d1, d2, d3, d4] }
  | _ => none }
def TwoTimesWrongFalsely : Prop := twoTimesRow.holds Try.pinned (OpenSpec.ofChange twoTimesWrong)

/-- 'chirographlaw08.OneOrder': WHATEVER THE INPUT: true; the input reads as it did. -/
def oneOrderSpec : ChangeSpec := { name := "oneOrder", fn := fun _ => fun
  | [d1, d2, d3] => { results := [.lit (.bool true)], args := [d1, d2, d3] }
  | _ => none }
def oneOrderRow : OpenClaim := { program := "ytkfcphigoncgjaa", sum := "dcf80583415353d7d5a5afaba3d364e9c25059d55f922a58525def33ffd96056", func := "chirograph/chirographlaw08.OneOrder", spec := "oneOrder", inPlace := ["math/bits.Add64", "math/bits.Sub64"], unfollowed := true, recurses := true, apart := false }
def OneOrderSaid : Prop := oneOrderRow.holds Try.pinned (OpenSpec.ofChange oneOrderSpec)

/-- ITS FALSE NEIGHBOUR: 'it returns false'. Refute it at one input. -/
def oneOrderWrong : ChangeSpec := { name := "oneOrder", fn := fun _ => fun
  | [d1, d2, d3] => { results := [.lit (.bool false)], args := [d1, d2, d3] }
  | _ => none }
def OneOrderWrongFalsely : Prop := oneOrderRow.holds Try.pinned (OpenSpec.ofChange oneOrderWrong)

/-- 'chirographlaw09.TwoOrder': WHATEVER THE INPUT: true; the input reads as it did. -/
def twoOrderSpec : ChangeSpec := { name := "twoOrder", fn := fun _ => fun
  | [d1, d2, d3] => { results := [.lit (.bool true)], args := [d1, d2, d3] }
  | _ => none }
def twoOrderRow : OpenClaim := { program := "ytkfcphigoncgjaa", sum := "dcf80583415353d7d5a5afaba3d364e9c25059d55f922a58525def33ffd96056", func := "chirograph/chirographlaw09.TwoOrder", spec := "twoOrder", inPlace := ["math/bits.Add64", "math/bits.Sub64"], unfollowed := true, recurses := true, apart := false }
def TwoOrderSaid : Prop := twoOrderRow.holds Try.pinned (OpenSpec.ofChange twoOrderSpec)

/-- ITS FALSE NEIGHBOUR: 'it returns false'. Refute it at one input. -/
def twoOrderWrong : ChangeSpec := { name := "twoOrder", fn := fun _ => fun
  | [d1, d2, d3] => { results := [.lit (.bool false)], args := [d1, d2, d3] }
  | _ => none }
def TwoOrderWrongFalsely : Prop := twoOrderRow.holds Try.pinned (OpenSpec.ofChange twoOrderWrong)

/-- 'chirographlaw08.OneNegs': WHATEVER THE INPUT: true; the input reads as it did. -/
def oneNegsSpec : ChangeSpec := { name := "oneNegs", fn := fun _ => fun
  | [d1, d2] => { results := [.lit (.bool true)], args := [d1, d2] }
  | _ => none }
def oneNegsRow : OpenClaim := { program := "ytkfcphigoncgjaa", sum := "dcf80583415353d7d5a5afaba3d364e9c25059d55f922a58525def33ffd96056", func := "chirograph/chirographlaw08.OneNegs", spec := "oneNegs", inPlace := ["math/bits.Add64", "math/bits.Sub64"], unfollowed := true, recurses := true, apart := false }
def OneNegsSaid : Prop := oneNegsRow.holds Try.pinned (OpenSpec.ofChange oneNegsSpec)

/-- ITS FALSE NEIGHBOUR: 'it returns false'. Refute it at one input. -/
def oneNegsWrong : ChangeSpec := { name := "oneNegs", fn := fun _ => fun
  | [d1, d2] => { results := [.lit (.bool false)], args := [d1, d2] }
  | _ => none }
def OneNegsWrongFalsely : Prop := oneNegsRow.holds Try.pinned (OpenSpec.ofChange oneNegsWrong)

/-- 'chirographlaw09.TwoNegs': WHATEVER THE INPUT: true; the input reads as it did. -/
def twoNegsSpec : ChangeSpec := { name := "twoNegs", fn := fun _ => fun
  | [d1, d2] => { results := [.lit (.bool true)], args := [d1, d2] }
  | _ => none }
def twoNegsRow : OpenClaim := { program := "ytkfcphigoncgjaa", sum := "dcf80583415353d7d5a5afaba3d364e9c25059d55f922a58525def33ffd96056", func := "chirograph/chirographlaw09.TwoNegs", spec := "twoNegs", inPlace := ["math/bits.Add64", "math/bits.Sub64"], unfollowed := true, recurses := true, apart := false }
def TwoNegsSaid : Prop := twoNegsRow.holds Try.pinned (OpenSpec.ofChange twoNegsSpec)

/-- ITS FALSE NEIGHBOUR: 'it returns false'. Refute it at one input. -/
def twoNegsWrong : ChangeSpec := { name := "twoNegs", fn := fun _ => fun
  | [d1, d2] => { results := [.lit (.bool false)], args := [d1, d2] }
  | _ => none }
def TwoNegsWrongFalsely : Prop := twoNegsRow.holds Try.pinned (OpenSpec.ofChange twoNegsWrong)

/-- 'chirographlaw11.SumOrder': WHATEVER THE INPUT: true; the input reads as it did. -/
def sumOrderSpec : ChangeSpec := { name := "sumOrder", fn := fun _ => fun
  | [d1, d2, d3, d4, d5] => { results := [.lit (.bool true)], args := [d1, d2, d3, d4, d5] }
  | _ => none }
def sumOrderRow : OpenClaim := { program := "ytkfcphigoncgjaa", sum := "dcf80583415353d7d5a5afaba3d364e9c25059d55f922a58525def33ffd96056", func := "chirograph/chirographlaw11.SumOrder", spec := "sumOrder", inPlace := ["math/bits.Add64", "math/bits.Sub64"], unfollowed := true, recurses := true, apart := false }
def SumOrderSaid : Prop := sumOrderRow.holds Try.pinned (OpenSpec.ofChange sumOrderSpec)

/-- ITS FALSE NEIGHBOUR: 'it returns false'. Refute it at one input. -/
def sumOrderWrong : ChangeSpec := { name := "sumOrder", fn := fun _ => fun
  | [d1, d2, d3, d4, d5] => { results := [.lit (.bool false)], args := [d1, d2, d3, d4, d5] }
  | _ => none }
def SumOrderWrongFalsely : Prop := sumOrderRow.holds Try.pinned (OpenSpec.ofChange sumOrderWrong)

/-- 'chirographlaw11.SumJoins': WHATEVER THE INPUT: true; the input reads as it did. -/
def sumJoinsSpec : ChangeSpec := { name := "sumJoins", fn := fun _ => fun
  | [d1, d2, d3] => { results := [.lit (.bool true)], args := [d1, d2, d3] }
  | _ => none }
def sumJoinsRow : OpenClaim := { program := "ytkfcphigoncgjaa", sum := "dcf80583415353d7d5a5afaba3d364e9c25059d55f922a58525def33ffd96056", func := "chirograph/chirographlaw11.SumJoins", spec := "sumJoins", inPlace := ["math/bits.Add64", "math/bits.Sub64"], unfollowed := true, recurses := true, apart := false }
def SumJoinsSaid : Prop := sumJoinsRow.holds Try.pinned (OpenSpec.ofChange sumJoinsSpec)

/-- ITS FALSE NEIGHBOUR: 'it returns false'. Refute it at one input. -/
def sumJoinsWrong : ChangeSpec := { name := "sumJoins", fn := fun _ => fun
  | [d1, d2, d3] => { results := [.lit (.bool false)], args := [d1, d2, d3] }
  | _ => none }
def SumJoinsWrongFalsely : Prop := sumJoinsRow.holds Try.pinned (OpenSpec.ofChange sumJoinsWrong)

/-- 'chirographlaw11.SumOnes': WHATEVER THE INPUT: true; the input reads as it did. -/
def sumOnesSpec : ChangeSpec := { name := "sumOnes", fn := fun _ => fun
  | [d1, d2] => { results := [.lit (.bool true)], args := [d1, d2] }
  | _ => none }
def sumOnesRow : OpenClaim := { program := "ytkfcphigoncgjaa", sum := "dcf80583415353d7d5a5afaba3d364e9c25059d55f922a58525def33ffd96056", func := "chirograph/chirographlaw11.SumOnes", spec := "sumOnes", inPlace := ["math/bits.Add64", "math/bits.Sub64"], unfollowed := true, recurses := true, apart := false }
def SumOnesSaid : Prop := sumOnesRow.holds Try.pinned (OpenSpec.ofChange sumOnesSpec)

/-- ITS FALSE NEIGHBOUR: 'it returns false'. Refute it at one input. -/
def sumOnesWrong : ChangeSpec := { name := "sumOnes", fn := fun _ => fun
  | [d1, d2] => { results := [.lit (.bool false)], args := [d1, d2] }
  | _ => none }
def SumOnesWrongFalsely : Prop := sumOnesRow.holds Try.pinned (OpenSpec.ofChange sumOnesWrong)

/-- 'chirographlaw11.SumTwos': WHATEVER THE INPUT: true; the input reads as it did. -/
def sumTwosSpec : ChangeSpec := { name := "sumTwos", fn := fun _ => fun
  | [d1, d2] => { results := [.lit (.bool true)], args := [d1, d2] }
  | _ => none }
def sumTwosRow : OpenClaim := { program := "ytkfcphigoncgjaa", sum := "dcf80583415353d7d5a5afaba3d364e9c25059d55f922a58525def33ffd96056", func := "chirograph/chirographlaw11.SumTwos", spec := "sumTwos", inPlace := ["math/bits.Add64", "math/bits.Sub64"], unfollowed := true, recurses := true, apart := false }
def SumTwosSaid : Prop := sumTwosRow.holds Try.pinned (OpenSpec.ofChange sumTwosSpec)

/-- ITS FALSE NEIGHBOUR: 'it returns false'. Refute it at one input. -/
def sumTwosWrong : ChangeSpec := { name := "sumTwos", fn := fun _ => fun
  | [d1, d2] => { results := [.lit (.bool false)], args := [d1, d2] }
  | _ => none }
def SumTwosWrongFalsely : Prop := sumTwosRow.holds Try.pinned (OpenSpec.ofChange sumTwosWrong)

/-- 'chirographlaw11.SumPowers': WHATEVER THE INPUT: true; the input reads as it did. -/
def sumPowersSpec : ChangeSpec := { name := "sumPowers", fn := fun _ => fun
  | [d1, d2, d3] => { results := [.lit (.bool true)], args := [d1, d2, d3] }
  | _ => none }
def sumPowersRow : OpenClaim := { program := "ytkfcphigoncgjaa", sum := "dcf80583415353d7d5a5afaba3d364e9c25059d55f922a58525def33ffd96056", func := "chirograph/chirographlaw11.SumPowers", spec := "sumPowers", inPlace := ["math/bits.Add64", "math/bits.Sub64"], unfollowed := true, recurses := true, apart := false }
def SumPowersSaid : Prop := sumPowersRow.holds Try.pinned (OpenSpec.ofChange sumPowersSpec)

/-- ITS FALSE NEIGHBOUR: 'it returns false'. Refute it at one input. -/
def sumPowersWrong : ChangeSpec := { name := "sumPowers", fn := fun _ => fun
  | [d1, d2, d3] => { results := [.lit (.bool false)], args := [d1, d2, d3] }
  | _ => none }
def SumPowersWrongFalsely : Prop := sumPowersRow.holds Try.pinned (OpenSpec.ofChange sumPowersWrong)

/- THE SECOND FORM. 'bulk': how many values and letters a reading holds, each counted each time it is reached (what is shared counts as often as it is met; a slice's spare places count too). A statement '..UptoSaid' is the law's where the arguments, and the package variables that the reading takes, are together of bulk at most 1048576: NARROWER than '..Said'. Prove '..Said' where nothing that the law and all that it calls make is longer than what came in: it says more and counts as full. Else prove '..UptoSaid'. A law counts once. -/
mutual
def uptoBulk {H : Type} : DataW H → Nat
  | .lit (.string bytes) => bytes.length + 1
  | .lit _ => 1
  | .nil => 1
  | .ptr d => uptoBulk d + 1
  | .slice elems spare => uptoBulkAll elems + uptoBulkAll spare + 1
  | .agg parts => uptoBulkAll parts + 1
  | .iface _ d => uptoBulk d + 1
  | .map entries => uptoBulkEntries entries + 1
  | .held _ => 1
def uptoBulkAll {H : Type} : List (DataW H) → Nat
  | [] => 0
  | d :: r => uptoBulk d + uptoBulkAll r
def uptoBulkEntries {H : Type} : List (Lit × DataW H) → Nat
  | [] => 0
  | x :: r => uptoBulkEntry x + uptoBulkEntries r
def uptoBulkEntry {H : Type} : Lit × DataW H → Nat
  | (.string bytes, d) => bytes.length + uptoBulk d + 1
  | (_, d) => uptoBulk d + 1
 end
def uptoSmall : (H : Type) → List (DataW H) → Bool := fun _ ds => decide (uptoBulkAll ds ≤ 1048576)
def OpenSpec.upto (s : _root_.Go.ChangeSpec) : _root_.Go.OpenSpec := { _root_.Go.OpenSpec.ofChange s with cond := some uptoSmall }

/-- 'chirographlaw08.OneSums', WHERE WHAT IT READS IS OF BULK AT MOST 1048576: true; the input reads as it did. -/
def oneSumsUptoRow : OpenClaim := { program := "ytkfcphigoncgjaa", sum := "dcf80583415353d7d5a5afaba3d364e9c25059d55f922a58525def33ffd96056", func := "chirograph/chirographlaw08.OneSums", spec := "oneSums", inPlace := ["math/bits.Add64", "math/bits.Sub64"], unfollowed := true, recurses := true, apart := false, narrowed := true }
def OneSumsUptoSaid : Prop := oneSumsUptoRow.holds Try.pinned (OpenSpec.upto oneSumsSpec)

/-- 'chirographlaw08.OneGroup', WHERE WHAT IT READS IS OF BULK AT MOST 1048576: true; the input reads as it did. -/
def oneGroupUptoRow : OpenClaim := { program := "ytkfcphigoncgjaa", sum := "dcf80583415353d7d5a5afaba3d364e9c25059d55f922a58525def33ffd96056", func := "chirograph/chirographlaw08.OneGroup", spec := "oneGroup", inPlace := ["math/bits.Add64", "math/bits.Sub64"], unfollowed := true, recurses := true, apart := false, narrowed := true }
def OneGroupUptoSaid : Prop := oneGroupUptoRow.holds Try.pinned (OpenSpec.upto oneGroupSpec)

/-- 'chirographlaw09.TwoSums', WHERE WHAT IT READS IS OF BULK AT MOST 1048576: true; the input reads as it did. -/
def twoSumsUptoRow : OpenClaim := { program := "ytkfcphigoncgjaa", sum := "dcf80583415353d7d5a5afaba3d364e9c25059d55f922a58525def33ffd96056", func := "chirograph/chirographlaw09.TwoSums", spec := "twoSums", inPlace := ["math/bits.Add64", "math/bits.Sub64"], unfollowed := true, recurses := true, apart := false, narrowed := true }
def TwoSumsUptoSaid : Prop := twoSumsUptoRow.holds Try.pinned (OpenSpec.upto twoSumsSpec)

/-- 'chirographlaw09.TwoGroup', WHERE WHAT IT READS IS OF BULK AT MOST 1048576: true; the input reads as it did. -/
def twoGroupUptoRow : OpenClaim := { program := "ytkfcphigoncgjaa", sum := "dcf80583415353d7d5a5afaba3d364e9c25059d55f922a58525def33ffd96056", func := "chirograph/chirographlaw09.TwoGroup", spec := "twoGroup", inPlace := ["math/bits.Add64", "math/bits.Sub64"], unfollowed := true, recurses := true, apart := false, narrowed := true }
def TwoGroupUptoSaid : Prop := twoGroupUptoRow.holds Try.pinned (OpenSpec.upto twoGroupSpec)

/-- 'chirographlaw08.OneTimes', WHERE WHAT IT READS IS OF BULK AT MOST 1048576: true; the input reads as it did. -/
def oneTimesUptoRow : OpenClaim := { program := "ytkfcphigoncgjaa", sum := "dcf80583415353d7d5a5afaba3d364e9c25059d55f922a58525def33ffd96056", func := "chirograph/chirographlaw08.OneTimes", spec := "oneTimes", inPlace := ["math/bits.Add64", "math/bits.Sub64"], unfollowed := true, recurses := true, apart := false, narrowed := true }
def OneTimesUptoSaid : Prop := oneTimesUptoRow.holds Try.pinned (OpenSpec.upto oneTimesSpec)

/-- 'chirographlaw09.TwoTimes', WHERE WHAT IT READS IS OF BULK AT MOST 1048576: true; the input reads as it did. -/
def twoTimesUptoRow : OpenClaim := { program := "ytkfcphigoncgjaa", sum := "dcf80583415353d7d5a5afaba3d364e9c25059d55f922a58525def33ffd96056", func := "chirograph/chirographlaw09.TwoTimes", spec := "twoTimes", inPlace := ["math/bits.Add64", "math/bits.Sub64"], unfollowed := true, recurses := true, apart := false, narrowed := true }
def TwoTimesUptoSaid : Prop := twoTimesUptoRow.holds Try.pinned (OpenSpec.upto twoTimesSpec)

/-- 'chirographlaw08.OneOrder', WHERE WHAT IT READS IS OF BULK AT MOST 1048576: true; the input reads as it did. -/
def oneOrderUptoRow : OpenClaim := { program := "ytkfcphigoncgjaa", sum := "dcf80583415353d7d5a5afaba3d364e9c25059d55f922a58525def33ffd96056", func := "chirograph/chirographlaw08.OneOrder", spec := "oneOrder", inPlace := ["math/bits.Add64", "math/bits.Sub64"], unfollowed := true, recurses := true, apart := false, narrowed := true }
def OneOrderUptoSaid : Prop := oneOrderUptoRow.holds Try.pinned (OpenSpec.upto oneOrderSpec)

/-- 'chirographlaw09.TwoOrder', WHERE WHAT IT READS IS OF BULK AT MOST 1048576: true; the input reads as it did. -/
def twoOrderUptoRow : OpenClaim := { program := "ytkfcphigoncgjaa", sum := "dcf80583415353d7d5a5afaba3d364e9c25059d55f922a58525def33ffd96056", func := "chirograph/chirographlaw09.TwoOrder", spec := "twoOrder", inPlace := ["math/bits.Add64", "math/bits.Sub64"], unfollowed := true, recurses := true, apart := false, narrowed := true }
def TwoOrderUptoSaid : Prop := twoOrderUptoRow.holds Try.pinned (OpenSpec.upto twoOrderSpec)

/-- 'chirographlaw08.OneNegs', WHERE WHAT IT READS IS OF BULK AT MOST 1048576: true; the input reads as it did. -/
def oneNegsUptoRow : OpenClaim := { program := "ytkfcphigoncgjaa", sum := "dcf80583415353d7d5a5afaba3d364e9c25059d55f922a58525def33ffd96056", func := "chirograph/chirographlaw08.OneNegs", spec := "oneNegs", inPlace := ["math/bits.Add64", "math/bits.Sub64"], unfollowed := true, recurses := true, apart := false, narrowed := true }
def OneNegsUptoSaid : Prop := oneNegsUptoRow.holds Try.pinned (OpenSpec.upto oneNegsSpec)

/-- 'chirographlaw09.TwoNegs', WHERE WHAT IT READS IS OF BULK AT MOST 1048576: true; the input reads as it did. -/
def twoNegsUptoRow : OpenClaim := { program := "ytkfcphigoncgjaa", sum := "dcf80583415353d7d5a5afaba3d364e9c25059d55f922a58525def33ffd96056", func := "chirograph/chirographlaw09.TwoNegs", spec := "twoNegs", inPlace := ["math/bits.Add64", "math/bits.Sub64"], unfollowed := true, recurses := true, apart := false, narrowed := true }
def TwoNegsUptoSaid : Prop := twoNegsUptoRow.holds Try.pinned (OpenSpec.upto twoNegsSpec)

/-- 'chirographlaw11.SumOrder', WHERE WHAT IT READS IS OF BULK AT MOST 1048576: true; the input reads as it did. -/
def sumOrderUptoRow : OpenClaim := { program := "ytkfcphigoncgjaa", sum := "dcf80583415353d7d5a5afaba3d364e9c25059d55f922a58525def33ffd96056", func := "chirograph/chirographlaw11.SumOrder", spec := "sumOrder", inPlace := ["math/bits.Add64", "math/bits.Sub64"], unfollowed := true, recurses := true, apart := false, narrowed := true }
def SumOrderUptoSaid : Prop := sumOrderUptoRow.holds Try.pinned (OpenSpec.upto sumOrderSpec)

/-- 'chirographlaw11.SumJoins', WHERE WHAT IT READS IS OF BULK AT MOST 1048576: true; the input reads as it did. -/
def sumJoinsUptoRow : OpenClaim := { program := "ytkfcphigoncgjaa", sum := "dcf80583415353d7d5a5afaba3d364e9c25059d55f922a58525def33ffd96056", func := "chirograph/chirographlaw11.SumJoins", spec := "sumJoins", inPlace := ["math/bits.Add64", "math/bits.Sub64"], unfollowed := true, recurses := true, apart := false, narrowed := true }
def SumJoinsUptoSaid : Prop := sumJoinsUptoRow.holds Try.pinned (OpenSpec.upto sumJoinsSpec)

/-- 'chirographlaw11.SumOnes', WHERE WHAT IT READS IS OF BULK AT MOST 1048576: true; the input reads as it did. -/
def sumOnesUptoRow : OpenClaim := { program := "ytkfcphigoncgjaa", sum := "dcf80583415353d7d5a5afaba3d364e9c25059d55f922a58525def33ffd96056", func := "chirograph/chirographlaw11.SumOnes", spec := "sumOnes", inPlace := ["math/bits.Add64", "math/bits.Sub64"], unfollowed := true, recurses := true, apart := false, narrowed := true }
def SumOnesUptoSaid : Prop := sumOnesUptoRow.holds Try.pinned (OpenSpec.upto sumOnesSpec)

/-- 'chirographlaw11.SumTwos', WHERE WHAT IT READS IS OF BULK AT MOST 1048576: true; the input reads as it did. -/
def sumTwosUptoRow : OpenClaim := { program := "ytkfcphigoncgjaa", sum := "dcf80583415353d7d5a5afaba3d364e9c25059d55f922a58525def33ffd96056", func := "chirograph/chirographlaw11.SumTwos", spec := "sumTwos", inPlace := ["math/bits.Add64", "math/bits.Sub64"], unfollowed := true, recurses := true, apart := false, narrowed := true }
def SumTwosUptoSaid : Prop := sumTwosUptoRow.holds Try.pinned (OpenSpec.upto sumTwosSpec)

/-- 'chirographlaw11.SumPowers', WHERE WHAT IT READS IS OF BULK AT MOST 1048576: true; the input reads as it did. -/
def sumPowersUptoRow : OpenClaim := { program := "ytkfcphigoncgjaa", sum := "dcf80583415353d7d5a5afaba3d364e9c25059d55f922a58525def33ffd96056", func := "chirograph/chirographlaw11.SumPowers", spec := "sumPowers", inPlace := ["math/bits.Add64", "math/bits.Sub64"], unfollowed := true, recurses := true, apart := false, narrowed := true }
def SumPowersUptoSaid : Prop := sumPowersUptoRow.holds Try.pinned (OpenSpec.upto sumPowersSpec)

end Rows
end Go.Proofs.Ytkfcphigoncgjaa
