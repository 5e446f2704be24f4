/-
  No cell of these rows narrows 'for every input' (looked for: loops, veiled, ifaces, maps, wideKeys, modest, calm, conditions, laid).
  DERIVED. THE GIVEN ROWS OF THIS SEAT. 5 by the template 'for every input the law returns true; each argument reads behind the call as it read before'; 0 by the template 'total and deterministic' (their statements: YtobdghmmbddfnaaTotals.lean).
  GIVEN WITH THE SEED: the statements are not yours to turn. If you find one false, say at which input.
  Laid BY PROGRAM, IN A SANDBOX (cutbox-rows.mjs): the forced cells as the released guide's own fill.sh prints them over the translation b2dfb95af5a52d0a… (all of the seat's roots in one cut). By AI agents, Wed Nov 11 2026. No macro, syntax, notation, axiom, sorry.
-/
import Derived.Test.YtobdghmmbddfnaaChecked
import GoSem.Claim
import GoSem.ClaimJoined
import GoSem.ClaimMapViews
import Derived.JoinedTies
import Derived.KernelRfl
namespace Go.Proofs.Ytobdghmmbddfnaa
/- THE CELL 'sum', in the pinned program and in every row, IS THE sha256 OF THE DUMP (.gsa) THAT YtobdghmmbddfnaaProg.lean LOADS. Nothing in Lean hashes anything: it is a label: what it is worth is what the hold of that sum in a sandbox is worth. -/
noncomputable def Try.pinned : Pinned := { name := "ytobdghmmbddfnaa", sum := "b2dfb95af5a52d0aa63141a900016a0aa4d1e5d0bfcbd8ffcf188b799d819a8b", checked := Try.checked }
namespace Rows
def none {H : Type} : Left H := { results := [], args := [] }

/-- 'chirographlaw18.CircuitCompiles': WHATEVER THE INPUT: true; the input reads as it did. -/
def circuitCompilesSpec : ChangeSpec := { name := "circuitCompiles", fn := fun _ => fun
  | [d] => { results := [.lit (.bool true)], args := [d] }
  | _ => none }
def circuitCompilesRow : OpenClaim := { program := "ytobdghmmbddfnaa", sum := "b2dfb95af5a52d0aa63141a900016a0aa4d1e5d0bfcbd8ffcf188b799d819a8b", func := "chirograph/chirographlaw18.CircuitCompiles", spec := "circuitCompiles", inPlace := ["math/bits.Add64", "math/bits.Sub64"], unfollowed := true, recurses := true, apart := false }
def CircuitCompilesSaid : Prop := circuitCompilesRow.holds Try.pinned (OpenSpec.ofChange circuitCompilesSpec)

/-- ITS FALSE NEIGHBOUR: 'it returns false'. Refute it at one input. -/
def circuitCompilesWrong : ChangeSpec := { name := "circuitCompiles", fn := fun _ => fun
  | [d] => { results := [.lit (.bool false)], args := [d] }
  | _ => none }
def CircuitCompilesWrongFalsely : Prop := circuitCompilesRow.holds Try.pinned (OpenSpec.ofChange circuitCompilesWrong)

/-- 'chirographlaw18.CircuitGoesOn': WHATEVER THE INPUT: true; the input reads as it did. -/
def circuitGoesOnSpec : ChangeSpec := { name := "circuitGoesOn", fn := fun _ => fun
  | [d1, d2, d3] => { results := [.lit (.bool true)], args := [d1, d2, d3] }
  | _ => none }
def circuitGoesOnRow : OpenClaim := { program := "ytobdghmmbddfnaa", sum := "b2dfb95af5a52d0aa63141a900016a0aa4d1e5d0bfcbd8ffcf188b799d819a8b", func := "chirograph/chirographlaw18.CircuitGoesOn", spec := "circuitGoesOn", inPlace := ["math/bits.Add64", "math/bits.Sub64"], unfollowed := true, recurses := true, apart := false }
def CircuitGoesOnSaid : Prop := circuitGoesOnRow.holds Try.pinned (OpenSpec.ofChange circuitGoesOnSpec)

/-- ITS FALSE NEIGHBOUR: 'it returns false'. Refute it at one input. -/
def circuitGoesOnWrong : ChangeSpec := { name := "circuitGoesOn", fn := fun _ => fun
  | [d1, d2, d3] => { results := [.lit (.bool false)], args := [d1, d2, d3] }
  | _ => none }
def CircuitGoesOnWrongFalsely : Prop := circuitGoesOnRow.holds Try.pinned (OpenSpec.ofChange circuitGoesOnWrong)

/-- 'chirographlaw18.CircuitHolds': WHATEVER THE INPUT: true; the input reads as it did. -/
def circuitHoldsSpec : ChangeSpec := { name := "circuitHolds", fn := fun _ => fun
  | [d1, d2, d3] => { results := [.lit (.bool true)], args := [d1, d2, d3] }
  | _ => none }
def circuitHoldsRow : OpenClaim := { program := "ytobdghmmbddfnaa", sum := "b2dfb95af5a52d0aa63141a900016a0aa4d1e5d0bfcbd8ffcf188b799d819a8b", func := "chirograph/chirographlaw18.CircuitHolds", spec := "circuitHolds", inPlace := ["math/bits.Add64", "math/bits.Sub64"], unfollowed := true, recurses := true, apart := false }
def CircuitHoldsSaid : Prop := circuitHoldsRow.holds Try.pinned (OpenSpec.ofChange circuitHoldsSpec)

/-- ITS FALSE NEIGHBOUR: 'it returns false'. Refute it at one input. -/
def circuitHoldsWrong : ChangeSpec := { name := "circuitHolds", fn := fun _ => fun
  | [d1, d2, d3] => { results := [.lit (.bool false)], args := [d1, d2, d3] }
  | _ => none }
def CircuitHoldsWrongFalsely : Prop := circuitHoldsRow.holds Try.pinned (OpenSpec.ofChange circuitHoldsWrong)

/-- 'chirographlaw18.CircuitSolves': WHATEVER THE INPUT: true; the input reads as it did. -/
def circuitSolvesSpec : ChangeSpec := { name := "circuitSolves", fn := fun _ => fun
  | [d1, d2, d3] => { results := [.lit (.bool true)], args := [d1, d2, d3] }
  | _ => none }
def circuitSolvesRow : OpenClaim := { program := "ytobdghmmbddfnaa", sum := "b2dfb95af5a52d0aa63141a900016a0aa4d1e5d0bfcbd8ffcf188b799d819a8b", func := "chirograph/chirographlaw18.CircuitSolves", spec := "circuitSolves", inPlace := ["math/bits.Add64", "math/bits.Sub64"], unfollowed := true, recurses := true, apart := false }
def CircuitSolvesSaid : Prop := circuitSolvesRow.holds Try.pinned (OpenSpec.ofChange circuitSolvesSpec)

/-- ITS FALSE NEIGHBOUR: 'it returns false'. Refute it at one input. -/
def circuitSolvesWrong : ChangeSpec := { name := "circuitSolves", fn := fun _ => fun
  | [d1, d2, d3] => { results := [.lit (.bool false)], args := [d1, d2, d3] }
  | _ => none }
def CircuitSolvesWrongFalsely : Prop := circuitSolvesRow.holds Try.pinned (OpenSpec.ofChange circuitSolvesWrong)

/-- 'chirographlaw18.CircuitMeets': WHATEVER THE INPUT: true; the input reads as it did. -/
def circuitMeetsSpec : ChangeSpec := { name := "circuitMeets", fn := fun _ => fun
  | [d1, d2] => { results := [.lit (.bool true)], args := [d1, d2] }
  | _ => none }
def circuitMeetsRow : OpenClaim := { program := "ytobdghmmbddfnaa", sum := "b2dfb95af5a52d0aa63141a900016a0aa4d1e5d0bfcbd8ffcf188b799d819a8b", func := "chirograph/chirographlaw18.CircuitMeets", spec := "circuitMeets", inPlace := ["math/bits.Add64", "math/bits.Sub64"], unfollowed := true, recurses := true, apart := false }
def CircuitMeetsSaid : Prop := circuitMeetsRow.holds Try.pinned (OpenSpec.ofChange circuitMeetsSpec)

/-- ITS FALSE NEIGHBOUR: 'it returns false'. Refute it at one input. -/
def circuitMeetsWrong : ChangeSpec := { name := "circuitMeets", fn := fun _ => fun
  | [d1, d2] => { results := [.lit (.bool false)], args := [d1, d2] }
  | _ => none }
def CircuitMeetsWrongFalsely : Prop := circuitMeetsRow.holds Try.pinned (OpenSpec.ofChange circuitMeetsWrong)

/- THE SECOND FORM. 'bulk': how many values and letters a reading holds, each counted each time it is reached (what is shared counts as often as it is met; a slice's spare places count too). A statement '..UptoSaid' is the law's where the arguments, and the package variables that the reading takes, are together of bulk at most 1048576: NARROWER than '..Said'. Prove '..Said' where nothing that the law and all that it calls make is longer than what came in: it says more and counts as full. Else prove '..UptoSaid'. A law counts once. -/
mutual
def uptoBulk {H : Type} : DataW H → Nat
  | .lit (.string bytes) => bytes.length + 1
  | .lit _ => 1
  | .nil => 1
  | .ptr d => uptoBulk d + 1
  | .slice elems spare => uptoBulkAll elems + uptoBulkAll spare + 1
  | .agg parts => uptoBulkAll parts + 1
  | .iface _ d => uptoBulk d + 1
  | .map entries => uptoBulkEntries entries + 1
  | .held _ => 1
def uptoBulkAll {H : Type} : List (DataW H) → Nat
  | [] => 0
  | d :: r => uptoBulk d + uptoBulkAll r
def uptoBulkEntries {H : Type} : List (Lit × DataW H) → Nat
  | [] => 0
  | x :: r => uptoBulkEntry x + uptoBulkEntries r
def uptoBulkEntry {H : Type} : Lit × DataW H → Nat
  | (.string bytes, d) => bytes.length + uptoBulk d + 1
  | (_, d) => uptoBulk d + 1
 end
def uptoSmall : (H : Type) → List (DataW H) → Bool := fun _ ds => decide (uptoBulkAll ds ≤ 1048576)
def OpenSpec.upto (s : _root_.Go.ChangeSpec) : _root_.Go.OpenSpec := { _root_.Go.OpenSpec.ofChange s with cond := some uptoSmall }

/-- 'chirographlaw18.CircuitCompiles', WHERE WHAT IT READS IS OF BULK AT MOST 1048576: true; the input reads as it did. -/
def circuitCompilesUptoRow : OpenClaim := { program := "ytobdghmmbddfnaa", sum := "b2dfb95af5a52d0aa63141a900016a0aa4d1e5d0bfcbd8ffcf188b799d819a8b", func := "chirograph/chirographlaw18.CircuitCompiles", spec := "circuitCompiles", inPlace := ["math/bits.Add64", "math/bits.Sub64"], unfollowed := true, recurses := true, apart := false, narrowed := true }
def CircuitCompilesUptoSaid : Prop := circuitCompilesUptoRow.holds Try.pinned (OpenSpec.upto circuitCompilesSpec)

/-- 'chirographlaw18.CircuitGoesOn', WHERE WHAT IT READS IS OF BULK AT MOST 1048576: true; the input reads as it did. -/
def circuitGoesOnUptoRow : OpenClaim := { program := "ytobdghmmbddfnaa", sum := "b2dfb95af5a52d0aa63141a900016a0aa4d1e5d0bfcbd8ffcf188b799d819a8b", func := "chirograph/chirographlaw18.CircuitGoesOn", spec := "circuitGoesOn", inPlace := ["math/bits.Add64", "math/bits.Sub64"], unfollowed := true, recurses := true, apart := false, narrowed := true }
def CircuitGoesOnUptoSaid : Prop := circuitGoesOnUptoRow.holds Try.pinned (OpenSpec.upto circuitGoesOnSpec)

/-- 'chirographlaw18.CircuitHolds', WHERE WHAT IT READS IS OF BULK AT MOST 1048576: true; the input reads as it did. -/
def circuitHoldsUptoRow : OpenClaim := { program := "ytobdghmmbddfnaa", sum := "b2dfb95af5a52d0aa63141a900016a0aa4d1e5d0bfcbd8ffcf188b799d819a8b", func := "chirograph/chirographlaw18.CircuitHolds", spec := "circuitHolds", inPlace := ["math/bits.Add64", "math/bits.Sub64"], unfollowed := true, recurses := true, apart := false, narrowed := true }
def CircuitHoldsUptoSaid : Prop := circuitHoldsUptoRow.holds Try.pinned (OpenSpec.upto circuitHoldsSpec)

/-- 'chirographlaw18.CircuitSolves', WHERE WHAT IT READS IS OF BULK AT MOST 1048576: true; the input reads as it did. -/
def circuitSolvesUptoRow : OpenClaim := { program := "ytobdghmmbddfnaa", sum := "b2dfb95af5a52d0aa63141a900016a0aa4d1e5d0bfcbd8ffcf188b799d819a8b", func := "chirograph/chirographlaw18.CircuitSolves", spec := "circuitSolves", inPlace := ["math/bits.Add64", "math/bits.Sub64"], unfollowed := true, recurses := true, apart := false, narrowed := true }
def CircuitSolvesUptoSaid : Prop := circuitSolvesUptoRow.holds Try.pinned (OpenSpec.upto circuitSolvesSpec)

/-- 'chirographlaw18.CircuitMeets', WHERE WHAT IT READS IS OF BULK AT MOST 1048576: true; the input reads as it did. -/
def circuitMeetsUptoRow : OpenClaim := { program := "ytobdghmmbddfnaa", sum := "b2dfb95af5a52d0aa63141a900016a0aa4d1e5d0bfcbd8ffcf188b799d819a8b", func := "chirograph/chirographlaw18.CircuitMeets", spec := "circuitMeets", inPlace := ["math/bits.Add64", "math/bits.Sub64"], unfollowed := true, recurses := true, apart := false, narrowed := true }
def CircuitMeetsUptoSaid : Prop := circuitMeetsUptoRow.holds Try.pinned (OpenSpec.upto circuitMeetsSpec)

end Rows
end Go.Proofs.Ytobdghmmbddfnaa
