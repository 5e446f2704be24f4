/-
  No cell of these rows narrows 'for every input' (looked for: loops, veiled, ifaces, maps, wideKeys, modest, calm, conditions, laid).
  DERIVED. THE GIVEN ROWS OF THIS SEAT. 15 by the template 'for every input the law returns true; each argument reads behind the call as it read before'; 0 by the template 'total and deterministic' (their statements: YtlfllehomhcbfaaTotals.lean).
  GIVEN WITH THE SEED: the statements are not yours to turn. If you find one false, say at which input.
  Laid BY PROGRAM, IN A SANDBOX (cutbox-rows.mjs): the forced cells as the released guide's own fill.sh prints them over the translation 8897a5133330a560… (all of the seat's roots in one cut). By AI agents, Wed Nov 11 2026. No macro, syntax, notation, axiom, sorry.
-/
import Derived.Test.YtlfllehomhcbfaaChecked
import GoSem.Claim
import GoSem.ClaimJoined
import GoSem.ClaimMapViews
import Derived.JoinedTies
import Derived.KernelRfl
namespace Go.Proofs.Ytlfllehomhcbfaa
/- THE CELL 'sum', in the pinned program and in every row, IS THE sha256 OF THE DUMP (.gsa) THAT YtlfllehomhcbfaaProg.lean LOADS. Nothing in Lean hashes anything: it is a label: what it is worth is what the hold of that sum in a sandbox is worth. -/
noncomputable def Try.pinned : Pinned := { name := "ytlfllehomhcbfaa", sum := "8897a5133330a560b9013aa53161041f3ec001f30ce1770df7e78928384d92ae", checked := Try.checked }
namespace Rows
def none {H : Type} : Left H := { results := [], args := [] }

/-- 'chirographlaw20.SetupSizes': WHATEVER THE INPUT: true; the input reads as it did. -/
def setupSizesSpec : ChangeSpec := { name := "setupSizes", fn := fun _ => fun
  | [d] => { results := [.lit (.bool true)], args := [d] }
  | _ => none }
def setupSizesRow : OpenClaim := { program := "ytlfllehomhcbfaa", sum := "8897a5133330a560b9013aa53161041f3ec001f30ce1770df7e78928384d92ae", func := "chirograph/chirographlaw20.SetupSizes", spec := "setupSizes", unfollowed := true, recurses := true, plainKeys := false, apart := false }
def SetupSizesSaid : Prop := setupSizesRow.holds Try.pinned (OpenSpec.ofChange setupSizesSpec)

/-- ITS FALSE NEIGHBOUR: 'it returns false'. Refute it at one input. -/
def setupSizesWrong : ChangeSpec := { name := "setupSizes", fn := fun _ => fun
  | [d] => { results := [.lit (.bool false)], args := [d] }
  | _ => none }
def SetupSizesWrongFalsely : Prop := setupSizesRow.holds Try.pinned (OpenSpec.ofChange setupSizesWrong)

/-- 'chirographlaw15.DomainMakes': WHATEVER THE INPUT: true; the input reads as it did. -/
def domainMakesSpec : ChangeSpec := { name := "domainMakes", fn := fun _ => fun
  | [d1, d2] => { results := [.lit (.bool true)], args := [d1, d2] }
  | _ => none }
def domainMakesRow : OpenClaim := { program := "ytlfllehomhcbfaa", sum := "8897a5133330a560b9013aa53161041f3ec001f30ce1770df7e78928384d92ae", func := "chirograph/chirographlaw15.DomainMakes", spec := "domainMakes", inPlace := ["math/bits.Add64", "math/bits.Sub64"], plainKeys := false, apart := false }
def DomainMakesSaid : Prop := domainMakesRow.holds Try.pinned (OpenSpec.ofChange domainMakesSpec)

/-- ITS FALSE NEIGHBOUR: 'it returns false'. Refute it at one input. -/
def domainMakesWrong : ChangeSpec := { name := "domainMakes", fn := fun _ => fun
  | [d1, d2] => { results := [.lit (.bool false)], args := [d1, d2] }
  | _ => none }
def DomainMakesWrongFalsely : Prop := domainMakesRow.holds Try.pinned (OpenSpec.ofChange domainMakesWrong)

/-- 'chirographlaw16.PolyDivides': WHATEVER THE INPUT: true; the input reads as it did. -/
def polyDividesSpec : ChangeSpec := { name := "polyDivides", fn := fun _ => fun
  | [d1, d2, d3] => { results := [.lit (.bool true)], args := [d1, d2, d3] }
  | _ => none }
def polyDividesRow : OpenClaim := { program := "ytlfllehomhcbfaa", sum := "8897a5133330a560b9013aa53161041f3ec001f30ce1770df7e78928384d92ae", func := "chirograph/chirographlaw16.PolyDivides", spec := "polyDivides", inPlace := ["math/bits.Add64", "math/bits.Sub64"], plainKeys := false, apart := false }
def PolyDividesSaid : Prop := polyDividesRow.holds Try.pinned (OpenSpec.ofChange polyDividesSpec)

/-- ITS FALSE NEIGHBOUR: 'it returns false'. Refute it at one input. -/
def polyDividesWrong : ChangeSpec := { name := "polyDivides", fn := fun _ => fun
  | [d1, d2, d3] => { results := [.lit (.bool false)], args := [d1, d2, d3] }
  | _ => none }
def PolyDividesWrongFalsely : Prop := polyDividesRow.holds Try.pinned (OpenSpec.ofChange polyDividesWrong)

/-- 'chirographlaw16.PolyAdds': WHATEVER THE INPUT: true; the input reads as it did. -/
def polyAddsSpec : ChangeSpec := { name := "polyAdds", fn := fun _ => fun
  | [d1, d2, d3] => { results := [.lit (.bool true)], args := [d1, d2, d3] }
  | _ => none }
def polyAddsRow : OpenClaim := { program := "ytlfllehomhcbfaa", sum := "8897a5133330a560b9013aa53161041f3ec001f30ce1770df7e78928384d92ae", func := "chirograph/chirographlaw16.PolyAdds", spec := "polyAdds", inPlace := ["math/bits.Add64", "math/bits.Sub64"], unfollowed := true, recurses := true, plainKeys := false, apart := false }
def PolyAddsSaid : Prop := polyAddsRow.holds Try.pinned (OpenSpec.ofChange polyAddsSpec)

/-- ITS FALSE NEIGHBOUR: 'it returns false'. Refute it at one input. -/
def polyAddsWrong : ChangeSpec := { name := "polyAdds", fn := fun _ => fun
  | [d1, d2, d3] => { results := [.lit (.bool false)], args := [d1, d2, d3] }
  | _ => none }
def PolyAddsWrongFalsely : Prop := polyAddsRow.holds Try.pinned (OpenSpec.ofChange polyAddsWrong)

/-- 'chirographlaw15.DomainValues': WHATEVER THE INPUT: true; the input reads as it did. -/
def domainValuesSpec : ChangeSpec := { name := "domainValues", fn := fun _ => fun
  | [d1, d2, d3] => { results := [.lit (.bool true)], args := [d1, d2, d3] }
  | _ => none }
def domainValuesRow : OpenClaim := { program := "ytlfllehomhcbfaa", sum := "8897a5133330a560b9013aa53161041f3ec001f30ce1770df7e78928384d92ae", func := "chirograph/chirographlaw15.DomainValues", spec := "domainValues", inPlace := ["math/bits.Add64", "math/bits.Sub64"], unfollowed := true, recurses := true, plainKeys := false, apart := false }
def DomainValuesSaid : Prop := domainValuesRow.holds Try.pinned (OpenSpec.ofChange domainValuesSpec)

/-- ITS FALSE NEIGHBOUR: 'it returns false'. Refute it at one input. -/
def domainValuesWrong : ChangeSpec := { name := "domainValues", fn := fun _ => fun
  | [d1, d2, d3] => { results := [.lit (.bool false)], args := [d1, d2, d3] }
  | _ => none }
def DomainValuesWrongFalsely : Prop := domainValuesRow.holds Try.pinned (OpenSpec.ofChange domainValuesWrong)

/-- 'chirographlaw15.DomainMultiplies': WHATEVER THE INPUT: true; the input reads as it did. -/
def domainMultipliesSpec : ChangeSpec := { name := "domainMultiplies", fn := fun _ => fun
  | [d1, d2, d3, d4] => { results := [.lit (.bool true)], args := [d1, d2, d3, d4] }
  | _ => none }
def domainMultipliesRow : OpenClaim := { program := "ytlfllehomhcbfaa", sum := "8897a5133330a560b9013aa53161041f3ec001f30ce1770df7e78928384d92ae", func := "chirograph/chirographlaw15.DomainMultiplies", spec := "domainMultiplies", inPlace := ["math/bits.Add64", "math/bits.Sub64"], unfollowed := true, recurses := true, plainKeys := false, apart := false }
def DomainMultipliesSaid : Prop := domainMultipliesRow.holds Try.pinned (OpenSpec.ofChange domainMultipliesSpec)

/-- ITS FALSE NEIGHBOUR: 'it returns false'. Refute it at one input. -/
def domainMultipliesWrong : ChangeSpec := { name := "domainMultiplies", fn := fun _ => fun
  | [d1, d2, d3, d4] => { results := [.lit (.bool false)], args := [d1, d2, d3, d4] }
  | _ => none }
def DomainMultipliesWrongFalsely : Prop := domainMultipliesRow.holds Try.pinned (OpenSpec.ofChange domainMultipliesWrong)

/-- 'chirographlaw15.DomainTurns': WHATEVER THE INPUT: true; the input reads as it did. -/
def domainTurnsSpec : ChangeSpec := { name := "domainTurns", fn := fun _ => fun
  | [d] => { results := [.lit (.bool true)], args := [d] }
  | _ => none }
def domainTurnsRow : OpenClaim := { program := "ytlfllehomhcbfaa", sum := "8897a5133330a560b9013aa53161041f3ec001f30ce1770df7e78928384d92ae", func := "chirograph/chirographlaw15.DomainTurns", spec := "domainTurns", inPlace := ["math/bits.Add64", "math/bits.Sub64"], unfollowed := true, recurses := true, plainKeys := false, apart := false }
def DomainTurnsSaid : Prop := domainTurnsRow.holds Try.pinned (OpenSpec.ofChange domainTurnsSpec)

/-- ITS FALSE NEIGHBOUR: 'it returns false'. Refute it at one input. -/
def domainTurnsWrong : ChangeSpec := { name := "domainTurns", fn := fun _ => fun
  | [d] => { results := [.lit (.bool false)], args := [d] }
  | _ => none }
def DomainTurnsWrongFalsely : Prop := domainTurnsRow.holds Try.pinned (OpenSpec.ofChange domainTurnsWrong)

/-- 'chirographlaw15.DomainBasis': WHATEVER THE INPUT: true; the input reads as it did. -/
def domainBasisSpec : ChangeSpec := { name := "domainBasis", fn := fun _ => fun
  | [d1, d2, d3] => { results := [.lit (.bool true)], args := [d1, d2, d3] }
  | _ => none }
def domainBasisRow : OpenClaim := { program := "ytlfllehomhcbfaa", sum := "8897a5133330a560b9013aa53161041f3ec001f30ce1770df7e78928384d92ae", func := "chirograph/chirographlaw15.DomainBasis", spec := "domainBasis", inPlace := ["math/bits.Add64", "math/bits.Sub64"], unfollowed := true, recurses := true, plainKeys := false, apart := false }
def DomainBasisSaid : Prop := domainBasisRow.holds Try.pinned (OpenSpec.ofChange domainBasisSpec)

/-- ITS FALSE NEIGHBOUR: 'it returns false'. Refute it at one input. -/
def domainBasisWrong : ChangeSpec := { name := "domainBasis", fn := fun _ => fun
  | [d1, d2, d3] => { results := [.lit (.bool false)], args := [d1, d2, d3] }
  | _ => none }
def DomainBasisWrongFalsely : Prop := domainBasisRow.holds Try.pinned (OpenSpec.ofChange domainBasisWrong)

/-- 'chirographlaw15.DomainCoefs': WHATEVER THE INPUT: true; the input reads as it did. -/
def domainCoefsSpec : ChangeSpec := { name := "domainCoefs", fn := fun _ => fun
  | [d1, d2, d3] => { results := [.lit (.bool true)], args := [d1, d2, d3] }
  | _ => none }
def domainCoefsRow : OpenClaim := { program := "ytlfllehomhcbfaa", sum := "8897a5133330a560b9013aa53161041f3ec001f30ce1770df7e78928384d92ae", func := "chirograph/chirographlaw15.DomainCoefs", spec := "domainCoefs", inPlace := ["math/bits.Add64", "math/bits.Sub64"], unfollowed := true, recurses := true, plainKeys := false, apart := false }
def DomainCoefsSaid : Prop := domainCoefsRow.holds Try.pinned (OpenSpec.ofChange domainCoefsSpec)

/-- ITS FALSE NEIGHBOUR: 'it returns false'. Refute it at one input. -/
def domainCoefsWrong : ChangeSpec := { name := "domainCoefs", fn := fun _ => fun
  | [d1, d2, d3] => { results := [.lit (.bool false)], args := [d1, d2, d3] }
  | _ => none }
def DomainCoefsWrongFalsely : Prop := domainCoefsRow.holds Try.pinned (OpenSpec.ofChange domainCoefsWrong)

/-- 'chirographlaw15.DomainBack': WHATEVER THE INPUT: true; the input reads as it did. -/
def domainBackSpec : ChangeSpec := { name := "domainBack", fn := fun _ => fun
  | [d1, d2, d3] => { results := [.lit (.bool true)], args := [d1, d2, d3] }
  | _ => none }
def domainBackRow : OpenClaim := { program := "ytlfllehomhcbfaa", sum := "8897a5133330a560b9013aa53161041f3ec001f30ce1770df7e78928384d92ae", func := "chirograph/chirographlaw15.DomainBack", spec := "domainBack", inPlace := ["math/bits.Add64", "math/bits.Sub64"], unfollowed := true, recurses := true, plainKeys := false, apart := false }
def DomainBackSaid : Prop := domainBackRow.holds Try.pinned (OpenSpec.ofChange domainBackSpec)

/-- ITS FALSE NEIGHBOUR: 'it returns false'. Refute it at one input. -/
def domainBackWrong : ChangeSpec := { name := "domainBack", fn := fun _ => fun
  | [d1, d2, d3] => { results := [.lit (.bool false)], args := [d1, d2, d3] }
  | _ => none }
def DomainBackWrongFalsely : Prop := domainBackRow.holds Try.pinned (OpenSpec.ofChange domainBackWrong)

/-- 'chirographlaw15.DomainSums': WHATEVER THE INPUT: true; the input reads as it did. -/
def domainSumsSpec : ChangeSpec := { name := "domainSums", fn := fun _ => fun
  | [d1, d2, d3] => { results := [.lit (.bool true)], args := [d1, d2, d3] }
  | _ => none }
def domainSumsRow : OpenClaim := { program := "ytlfllehomhcbfaa", sum := "8897a5133330a560b9013aa53161041f3ec001f30ce1770df7e78928384d92ae", func := "chirograph/chirographlaw15.DomainSums", spec := "domainSums", inPlace := ["math/bits.Add64", "math/bits.Sub64"], unfollowed := true, recurses := true, plainKeys := false, apart := false }
def DomainSumsSaid : Prop := domainSumsRow.holds Try.pinned (OpenSpec.ofChange domainSumsSpec)

/-- ITS FALSE NEIGHBOUR: 'it returns false'. Refute it at one input. -/
def domainSumsWrong : ChangeSpec := { name := "domainSums", fn := fun _ => fun
  | [d1, d2, d3] => { results := [.lit (.bool false)], args := [d1, d2, d3] }
  | _ => none }
def DomainSumsWrongFalsely : Prop := domainSumsRow.holds Try.pinned (OpenSpec.ofChange domainSumsWrong)

/-- 'chirographlaw16.PolyMuls': WHATEVER THE INPUT: true; the input reads as it did. -/
def polyMulsSpec : ChangeSpec := { name := "polyMuls", fn := fun _ => fun
  | [d1, d2, d3] => { results := [.lit (.bool true)], args := [d1, d2, d3] }
  | _ => none }
def polyMulsRow : OpenClaim := { program := "ytlfllehomhcbfaa", sum := "8897a5133330a560b9013aa53161041f3ec001f30ce1770df7e78928384d92ae", func := "chirograph/chirographlaw16.PolyMuls", spec := "polyMuls", inPlace := ["math/bits.Add64", "math/bits.Sub64"], unfollowed := true, recurses := true, plainKeys := false, apart := false }
def PolyMulsSaid : Prop := polyMulsRow.holds Try.pinned (OpenSpec.ofChange polyMulsSpec)

/-- ITS FALSE NEIGHBOUR: 'it returns false'. Refute it at one input. -/
def polyMulsWrong : ChangeSpec := { name := "polyMuls", fn := fun _ => fun
  | [d1, d2, d3] => { results := [.lit (.bool false)], args := [d1, d2, d3] }
  | _ => none }
def PolyMulsWrongFalsely : Prop := polyMulsRow.holds Try.pinned (OpenSpec.ofChange polyMulsWrong)

/-- 'chirographlaw16.PolyRing': WHATEVER THE INPUT: true; the input reads as it did. -/
def polyRingSpec : ChangeSpec := { name := "polyRing", fn := fun _ => fun
  | [d1, d2, d3] => { results := [.lit (.bool true)], args := [d1, d2, d3] }
  | _ => none }
def polyRingRow : OpenClaim := { program := "ytlfllehomhcbfaa", sum := "8897a5133330a560b9013aa53161041f3ec001f30ce1770df7e78928384d92ae", func := "chirograph/chirographlaw16.PolyRing", spec := "polyRing", inPlace := ["math/bits.Add64", "math/bits.Sub64"], unfollowed := true, recurses := true, plainKeys := false, apart := false }
def PolyRingSaid : Prop := polyRingRow.holds Try.pinned (OpenSpec.ofChange polyRingSpec)

/-- ITS FALSE NEIGHBOUR: 'it returns false'. Refute it at one input. -/
def polyRingWrong : ChangeSpec := { name := "polyRing", fn := fun _ => fun
  | [d1, d2, d3] => { results := [.lit (.bool false)], args := [d1, d2, d3] }
  | _ => none }
def PolyRingWrongFalsely : Prop := polyRingRow.holds Try.pinned (OpenSpec.ofChange polyRingWrong)

/-- 'chirographlaw16.PolyValues': WHATEVER THE INPUT: true; the input reads as it did. -/
def polyValuesSpec : ChangeSpec := { name := "polyValues", fn := fun _ => fun
  | [d1, d2, d3, d4] => { results := [.lit (.bool true)], args := [d1, d2, d3, d4] }
  | _ => none }
def polyValuesRow : OpenClaim := { program := "ytlfllehomhcbfaa", sum := "8897a5133330a560b9013aa53161041f3ec001f30ce1770df7e78928384d92ae", func := "chirograph/chirographlaw16.PolyValues", spec := "polyValues", inPlace := ["math/bits.Add64", "math/bits.Sub64"], unfollowed := true, recurses := true, plainKeys := false, apart := false }
def PolyValuesSaid : Prop := polyValuesRow.holds Try.pinned (OpenSpec.ofChange polyValuesSpec)

/-- ITS FALSE NEIGHBOUR: 'it returns false'. Refute it at one input. -/
def polyValuesWrong : ChangeSpec := { name := "polyValues", fn := fun _ => fun
  | [d1, d2, d3, d4] => { results := [.lit (.bool false)], args := [d1, d2, d3, d4] }
  | _ => none }
def PolyValuesWrongFalsely : Prop := polyValuesRow.holds Try.pinned (OpenSpec.ofChange polyValuesWrong)

/-- 'chirographlaw16.PolyLong': WHATEVER THE INPUT: true; the input reads as it did. -/
def polyLongSpec : ChangeSpec := { name := "polyLong", fn := fun _ => fun
  | [d1, d2] => { results := [.lit (.bool true)], args := [d1, d2] }
  | _ => none }
def polyLongRow : OpenClaim := { program := "ytlfllehomhcbfaa", sum := "8897a5133330a560b9013aa53161041f3ec001f30ce1770df7e78928384d92ae", func := "chirograph/chirographlaw16.PolyLong", spec := "polyLong", inPlace := ["math/bits.Add64", "math/bits.Sub64"], unfollowed := true, recurses := true, plainKeys := false, apart := false }
def PolyLongSaid : Prop := polyLongRow.holds Try.pinned (OpenSpec.ofChange polyLongSpec)

/-- ITS FALSE NEIGHBOUR: 'it returns false'. Refute it at one input. -/
def polyLongWrong : ChangeSpec := { name := "polyLong", fn := fun _ => fun
  | [d1, d2] => { results := [.lit (.bool false)], args := [d1, d2] }
  | _ => none }
def PolyLongWrongFalsely : Prop := polyLongRow.holds Try.pinned (OpenSpec.ofChange polyLongWrong)

/- THE SECOND FORM. 'bulk': how many values and letters a reading holds, each counted each time it is reached (what is shared counts as often as it is met; a slice's spare places count too). A statement '..UptoSaid' is the law's where the arguments, and the package variables that the reading takes, are together of bulk at most 1048576: NARROWER than '..Said'. Prove '..Said' where nothing that the law and all that it calls make is longer than what came in: it says more and counts as full. Else prove '..UptoSaid'. A law counts once. -/
mutual
def uptoBulk {H : Type} : DataW H → Nat
  | .lit (.string bytes) => bytes.length + 1
  | .lit _ => 1
  | .nil => 1
  | .ptr d => uptoBulk d + 1
  | .slice elems spare => uptoBulkAll elems + uptoBulkAll spare + 1
  | .agg parts => uptoBulkAll parts + 1
  | .iface _ d => uptoBulk d + 1
  | .map entries => uptoBulkEntries entries + 1
  | .held _ => 1
def uptoBulkAll {H : Type} : List (DataW H) → Nat
  | [] => 0
  | d :: r => uptoBulk d + uptoBulkAll r
def uptoBulkEntries {H : Type} : List (Lit × DataW H) → Nat
  | [] => 0
  | x :: r => uptoBulkEntry x + uptoBulkEntries r
def uptoBulkEntry {H : Type} : Lit × DataW H → Nat
  | (.string bytes, d) => bytes.length + uptoBulk d + 1
  | (_, d) => uptoBulk d + 1
 end
def uptoSmall : (H : Type) → List (DataW H) → Bool := fun _ ds => decide (uptoBulkAll ds ≤ 1048576)
def OpenSpec.upto (s : _root_.Go.ChangeSpec) : _root_.Go.OpenSpec := { _root_.Go.OpenSpec.ofChange s with cond := some uptoSmall }

/-- 'chirographlaw20.SetupSizes', WHERE WHAT IT READS IS OF BULK AT MOST 1048576: true; the input reads as it did. -/
def setupSizesUptoRow : OpenClaim := { program := "ytlfllehomhcbfaa", sum := "8897a5133330a560b9013aa53161041f3ec001f30ce1770df7e78928384d92ae", func := "chirograph/chirographlaw20.SetupSizes", spec := "setupSizes", unfollowed := true, recurses := true, plainKeys := false, apart := false, narrowed := true }
def SetupSizesUptoSaid : Prop := setupSizesUptoRow.holds Try.pinned (OpenSpec.upto setupSizesSpec)

/-- 'chirographlaw15.DomainMakes', WHERE WHAT IT READS IS OF BULK AT MOST 1048576: true; the input reads as it did. -/
def domainMakesUptoRow : OpenClaim := { program := "ytlfllehomhcbfaa", sum := "8897a5133330a560b9013aa53161041f3ec001f30ce1770df7e78928384d92ae", func := "chirograph/chirographlaw15.DomainMakes", spec := "domainMakes", inPlace := ["math/bits.Add64", "math/bits.Sub64"], plainKeys := false, apart := false, narrowed := true }
def DomainMakesUptoSaid : Prop := domainMakesUptoRow.holds Try.pinned (OpenSpec.upto domainMakesSpec)

/-- 'chirographlaw16.PolyDivides', WHERE WHAT IT READS IS OF BULK AT MOST 1048576: true; the input reads as it did. -/
def polyDividesUptoRow : OpenClaim := { program := "ytlfllehomhcbfaa", sum := "8897a5133330a560b9013aa53161041f3ec001f30ce1770df7e78928384d92ae", func := "chirograph/chirographlaw16.PolyDivides", spec := "polyDivides", inPlace := ["math/bits.Add64", "math/bits.Sub64"], plainKeys := false, apart := false, narrowed := true }
def PolyDividesUptoSaid : Prop := polyDividesUptoRow.holds Try.pinned (OpenSpec.upto polyDividesSpec)

/-- 'chirographlaw16.PolyAdds', WHERE WHAT IT READS IS OF BULK AT MOST 1048576: true; the input reads as it did. -/
def polyAddsUptoRow : OpenClaim := { program := "ytlfllehomhcbfaa", sum := "8897a5133330a560b9013aa53161041f3ec001f30ce1770df7e78928384d92ae", func := "chirograph/chirographlaw16.PolyAdds", spec := "polyAdds", inPlace := ["math/bits.Add64", "math/bits.Sub64"], unfollowed := true, recurses := true, plainKeys := false, apart := false, narrowed := true }
def PolyAddsUptoSaid : Prop := polyAddsUptoRow.holds Try.pinned (OpenSpec.upto polyAddsSpec)

/-- 'chirographlaw15.DomainValues', WHERE WHAT IT READS IS OF BULK AT MOST 1048576: true; the input reads as it did. -/
def domainValuesUptoRow : OpenClaim := { program := "ytlfllehomhcbfaa", sum := "8897a5133330a560b9013aa53161041f3ec001f30ce1770df7e78928384d92ae", func := "chirograph/chirographlaw15.DomainValues", spec := "domainValues", inPlace := ["math/bits.Add64", "math/bits.Sub64"], unfollowed := true, recurses := true, plainKeys := false, apart := false, narrowed := true }
def DomainValuesUptoSaid : Prop := domainValuesUptoRow.holds Try.pinned (OpenSpec.upto domainValuesSpec)

/-- 'chirographlaw15.DomainMultiplies', WHERE WHAT IT READS IS OF BULK AT MOST 1048576: true; the input reads as it did. -/
def domainMultipliesUptoRow : OpenClaim := { program := "ytlfllehomhcbfaa", sum := "8897a5133330a560b9013aa53161041f3ec001f30ce1770df7e78928384d92ae", func := "chirograph/chirographlaw15.DomainMultiplies", spec := "domainMultiplies", inPlace := ["math/bits.Add64", "math/bits.Sub64"], unfollowed := true, recurses := true, plainKeys := false, apart := false, narrowed := true }
def DomainMultipliesUptoSaid : Prop := domainMultipliesUptoRow.holds Try.pinned (OpenSpec.upto domainMultipliesSpec)

/-- 'chirographlaw15.DomainTurns', WHERE WHAT IT READS IS OF BULK AT MOST 1048576: true; the input reads as it did. -/
def domainTurnsUptoRow : OpenClaim := { program := "ytlfllehomhcbfaa", sum := "8897a5133330a560b9013aa53161041f3ec001f30ce1770df7e78928384d92ae", func := "chirograph/chirographlaw15.DomainTurns", spec := "domainTurns", inPlace := ["math/bits.Add64", "math/bits.Sub64"], unfollowed := true, recurses := true, plainKeys := false, apart := false, narrowed := true }
def DomainTurnsUptoSaid : Prop := domainTurnsUptoRow.holds Try.pinned (OpenSpec.upto domainTurnsSpec)

/-- 'chirographlaw15.DomainBasis', WHERE WHAT IT READS IS OF BULK AT MOST 1048576: true; the input reads as it did. -/
def domainBasisUptoRow : OpenClaim := { program := "ytlfllehomhcbfaa", sum := "8897a5133330a560b9013aa53161041f3ec001f30ce1770df7e78928384d92ae", func := "chirograph/chirographlaw15.DomainBasis", spec := "domainBasis", inPlace := ["math/bits.Add64", "math/bits.Sub64"], unfollowed := true, recurses := true, plainKeys := false, apart := false, narrowed := true }
def DomainBasisUptoSaid : Prop := domainBasisUptoRow.holds Try.pinned (OpenSpec.upto domainBasisSpec)

/-- 'chirographlaw15.DomainCoefs', WHERE WHAT IT READS IS OF BULK AT MOST 1048576: true; the input reads as it did. -/
def domainCoefsUptoRow : OpenClaim := { program := "ytlfllehomhcbfaa", sum := "8897a5133330a560b9013aa53161041f3ec001f30ce1770df7e78928384d92ae", func := "chirograph/chirographlaw15.DomainCoefs", spec := "domainCoefs", inPlace := ["math/bits.Add64", "math/bits.Sub64"], unfollowed := true, recurses := true, plainKeys := false, apart := false, narrowed := true }
def DomainCoefsUptoSaid : Prop := domainCoefsUptoRow.holds Try.pinned (OpenSpec.upto domainCoefsSpec)

/-- 'chirographlaw15.DomainBack', WHERE WHAT IT READS IS OF BULK AT MOST 1048576: true; the input reads as it did. -/
def domainBackUptoRow : OpenClaim := { program := "ytlfllehomhcbfaa", sum := "8897a5133330a560b9013aa53161041f3ec001f30ce1770df7e78928384d92ae", func := "chirograph/chirographlaw15.DomainBack", spec := "domainBack", inPlace := ["math/bits.Add64", "math/bits.Sub64"], unfollowed := true, recurses := true, plainKeys := false, apart := false, narrowed := true }
def DomainBackUptoSaid : Prop := domainBackUptoRow.holds Try.pinned (OpenSpec.upto domainBackSpec)

/-- 'chirographlaw15.DomainSums', WHERE WHAT IT READS IS OF BULK AT MOST 1048576: true; the input reads as it did. -/
def domainSumsUptoRow : OpenClaim := { program := "ytlfllehomhcbfaa", sum := "8897a5133330a560b9013aa53161041f3ec001f30ce1770df7e78928384d92ae", func := "chirograph/chirographlaw15.DomainSums", spec := "domainSums", inPlace := ["math/bits.Add64", "math/bits.Sub64"], unfollowed := true, recurses := true, plainKeys := false, apart := false, narrowed := true }
def DomainSumsUptoSaid : Prop := domainSumsUptoRow.holds Try.pinned (OpenSpec.upto domainSumsSpec)

/-- 'chirographlaw16.PolyMuls', WHERE WHAT IT READS IS OF BULK AT MOST 1048576: true; the input reads as it did. -/
def polyMulsUptoRow : OpenClaim := { program := "ytlfllehomhcbfaa", sum := "8897a5133330a560b9013aa53161041f3ec001f30ce1770df7e78928384d92ae", func := "chirograph/chirographlaw16.PolyMuls", spec := "polyMuls", inPlace := ["math/bits.Add64", "math/bits.Sub64"], unfollowed := true, recurses := true, plainKeys := false, apart := false, narrowed := true }
def PolyMulsUptoSaid : Prop := polyMulsUptoRow.holds Try.pinned (OpenSpec.upto polyMulsSpec)

/-- 'chirographlaw16.PolyRing', WHERE WHAT IT READS IS OF BULK AT MOST 1048576: true; the input reads as it did. -/
def polyRingUptoRow : OpenClaim := { program := "ytlfllehomhcbfaa", sum := "8897a5133330a560b9013aa53161041f3ec001f30ce1770df7e78928384d92ae", func := "chirograph/chirographlaw16.PolyRing", spec := "polyRing", inPlace := ["math/bits.Add64", "math/bits.Sub64"], unfollowed := true, recurses := true, plainKeys := false, apart := false, narrowed := true }
def PolyRingUptoSaid : Prop := polyRingUptoRow.holds Try.pinned (OpenSpec.upto polyRingSpec)

/-- 'chirographlaw16.PolyValues', WHERE WHAT IT READS IS OF BULK AT MOST 1048576: true; the input reads as it did. -/
def polyValuesUptoRow : OpenClaim := { program := "ytlfllehomhcbfaa", sum := "8897a5133330a560b9013aa53161041f3ec001f30ce1770df7e78928384d92ae", func := "chirograph/chirographlaw16.PolyValues", spec := "polyValues", inPlace := ["math/bits.Add64", "math/bits.Sub64"], unfollowed := true, recurses := true, plainKeys := false, apart := false, narrowed := true }
def PolyValuesUptoSaid : Prop := polyValuesUptoRow.holds Try.pinned (OpenSpec.upto polyValuesSpec)

/-- 'chirographlaw16.PolyLong', WHERE WHAT IT READS IS OF BULK AT MOST 1048576: true; the input reads as it did. -/
def polyLongUptoRow : OpenClaim := { program := "ytlfllehomhcbfaa", sum := "8897a5133330a560b9013aa53161041f3ec001f30ce1770df7e78928384d92ae", func := "chirograph/chirographlaw16.PolyLong", spec := "polyLong", inPlace := ["math/bits.Add64", "math/bits.Sub64"], unfollowed := true, recurses := true, plainKeys := false, apart := false, narrowed := true }
def PolyLongUptoSaid : Prop := polyLongUptoRow.holds Try.pinned (OpenSpec.upto polyLongSpec)

end Rows
end Go.Proofs.Ytlfllehomhcbfaa
