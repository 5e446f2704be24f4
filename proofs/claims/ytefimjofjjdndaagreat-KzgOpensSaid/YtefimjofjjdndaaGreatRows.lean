/-
  No cell of these rows narrows 'for every input' (looked for: loops, veiled, ifaces, maps, wideKeys, modest, calm, conditions, laid).
  DERIVED. THE GIVEN ROWS OF THIS SEAT. 5 by the template 'for every input the law returns true; each argument reads behind the call as it read before'; 0 by the template 'total and deterministic' (their statements: YtefimjofjjdndaaGreatTotals.lean).
  GIVEN WITH THE SEED: the statements are not yours to turn. If you find one false, say at which input.
  Laid BY PROGRAM, IN A SANDBOX (cutbox-rows.mjs): the forced cells as the released guide's own fill.sh prints them over the translation 6d2222a5a312e4d1… (all of the seat's roots in one cut). By AI agents, Wed Nov 11 2026. No macro, syntax, notation, axiom, sorry.
-/
import Derived.Test.YtefimjofjjdndaaGreatChecked
import GoSem.Claim
import GoSem.ClaimJoined
import GoSem.ClaimMapViews
import Derived.JoinedTies
import Derived.KernelRfl
namespace Go.Proofs.YtefimjofjjdndaaGreat
/- THE CELL 'sum', in the pinned program and in every row, IS THE sha256 OF THE DUMP (.gsa) THAT YtefimjofjjdndaaGreatProg.lean LOADS. Nothing in Lean hashes anything: it is a label: what it is worth is what the hold of that sum in a sandbox is worth. -/
noncomputable def Tryz.pinned : Pinned := { name := "ytefimjofjjdndaagreat", sum := "6d2222a5a312e4d16527dd685df00abb7b0ff0c054890fe20f04216982077757", checked := Tryz.checked }
namespace Rows
def none {H : Type} : Left H := { results := [], args := [] }

/-- 'chirographlaw12.PairMultiplies': WHATEVER THE INPUT: true; the input reads as it did. -/
def pairMultipliesSpec : ChangeSpec := { name := "pairMultiplies", fn := fun _ => fun
  | [d1, d2, d3, d4] => { results := [.lit (.bool true)], args := [d1, d2, d3, d4] }
  | _ => none }
def pairMultipliesRow : OpenClaim := { program := "ytefimjofjjdndaagreat", sum := "6d2222a5a312e4d16527dd685df00abb7b0ff0c054890fe20f04216982077757", func := "chirograph/chirographlaw12.PairMultiplies", spec := "pairMultiplies", inPlace := ["math/bits.Add64", "math/bits.Sub64"], unfollowed := true, recurses := true, apart := false }
def PairMultipliesSaid : Prop := pairMultipliesRow.holds Tryz.pinned (OpenSpec.ofChange pairMultipliesSpec)

/-- ITS FALSE NEIGHBOUR: 'it returns false'. Refute it at one input. -/
def pairMultipliesWrong : ChangeSpec := { name := "pairMultiplies", fn := fun _ => fun
  | [d1, d2, d3, d4] => { results := [.lit (.bool false)], args := [d1, d2, d3, d4] }
  | _ => none }
def PairMultipliesWrongFalsely : Prop := pairMultipliesRow.holds Tryz.pinned (OpenSpec.ofChange pairMultipliesWrong)

/-- 'chirographlaw12.PairChecks': WHATEVER THE INPUT: true; the input reads as it did. -/
def pairChecksSpec : ChangeSpec := { name := "pairChecks", fn := fun _ => fun
  | [d1, d2, d3, d4, d5] => { results := [.lit (.bool true)], args := [d1, d2, d3, d4, d5] }
  | _ => none }
def pairChecksRow : OpenClaim := { program := "ytefimjofjjdndaagreat", sum := "6d2222a5a312e4d16527dd685df00abb7b0ff0c054890fe20f04216982077757", func := "chirograph/chirographlaw12.PairChecks", spec := "pairChecks", inPlace := ["math/bits.Add64", "math/bits.Sub64"], unfollowed := true, recurses := true, apart := false }
def PairChecksSaid : Prop := pairChecksRow.holds Tryz.pinned (OpenSpec.ofChange pairChecksSpec)

/-- ITS FALSE NEIGHBOUR: 'it returns false'. Refute it at one input. -/
def pairChecksWrong : ChangeSpec := { name := "pairChecks", fn := fun _ => fun
  | [d1, d2, d3, d4, d5] => { results := [.lit (.bool false)], args := [d1, d2, d3, d4, d5] }
  | _ => none }
def PairChecksWrongFalsely : Prop := pairChecksRow.holds Tryz.pinned (OpenSpec.ofChange pairChecksWrong)

/-- 'chirographlaw17.KzgAsks': WHATEVER THE INPUT: true; the input reads as it did. -/
def kzgAsksSpec : ChangeSpec := { name := "kzgAsks", fn := fun _ => fun
  | [d1, d2] => { results := [.lit (.bool true)], args := [d1, d2] }
  | _ => none }
def kzgAsksRow : OpenClaim := { program := "ytefimjofjjdndaagreat", sum := "6d2222a5a312e4d16527dd685df00abb7b0ff0c054890fe20f04216982077757", func := "chirograph/chirographlaw17.KzgAsks", spec := "kzgAsks", inPlace := ["math/bits.Add64", "math/bits.Sub64"], unfollowed := true, recurses := true, apart := false }
def KzgAsksSaid : Prop := kzgAsksRow.holds Tryz.pinned (OpenSpec.ofChange kzgAsksSpec)

/-- ITS FALSE NEIGHBOUR: 'it returns false'. Refute it at one input. -/
def kzgAsksWrong : ChangeSpec := { name := "kzgAsks", fn := fun _ => fun
  | [d1, d2] => { results := [.lit (.bool false)], args := [d1, d2] }
  | _ => none }
def KzgAsksWrongFalsely : Prop := kzgAsksRow.holds Tryz.pinned (OpenSpec.ofChange kzgAsksWrong)

/-- 'chirographlaw17.KzgChecks': WHATEVER THE INPUT: true; the input reads as it did. -/
def kzgChecksSpec : ChangeSpec := { name := "kzgChecks", fn := fun _ => fun
  | [d1, d2, d3, d4, d5, d6] => { results := [.lit (.bool true)], args := [d1, d2, d3, d4, d5, d6] }
  | _ => none }
def kzgChecksRow : OpenClaim := { program := "ytefimjofjjdndaagreat", sum := "6d2222a5a312e4d16527dd685df00abb7b0ff0c054890fe20f04216982077757", func := "chirograph/chirographlaw17.KzgChecks", spec := "kzgChecks", inPlace := ["math/bits.Add64", "math/bits.Sub64"], unfollowed := true, recurses := true, apart := false }
def KzgChecksSaid : Prop := kzgChecksRow.holds Tryz.pinned (OpenSpec.ofChange kzgChecksSpec)

/-- ITS FALSE NEIGHBOUR: 'it returns false'. Refute it at one input. -/
def kzgChecksWrong : ChangeSpec := { name := "kzgChecks", fn := fun _ => fun
  | [d1, d2, d3, d4, d5, d6] => { results := [.lit (.bool false)], args := [d1, d2, d3, d4, d5, d6] }
  | _ => none }
def KzgChecksWrongFalsely : Prop := kzgChecksRow.holds Tryz.pinned (OpenSpec.ofChange kzgChecksWrong)

/-- 'chirographlaw17.KzgOpens': WHATEVER THE INPUT: true; the input reads as it did. -/
def kzgOpensSpec : ChangeSpec := { name := "kzgOpens", fn := fun _ => fun
  | [d1, d2, d3, d4, d5] => { results := [.lit (.bool true)], args := [d1, d2, d3, d4, d5] }
  | _ => none }
def kzgOpensRow : OpenClaim := { program := "ytefimjofjjdndaagreat", sum := "6d2222a5a312e4d16527dd685df00abb7b0ff0c054890fe20f04216982077757", func := "chirograph/chirographlaw17.KzgOpens", spec := "kzgOpens", inPlace := ["math/bits.Add64", "math/bits.Sub64"], unfollowed := true, recurses := true, apart := false }
def KzgOpensSaid : Prop := kzgOpensRow.holds Tryz.pinned (OpenSpec.ofChange kzgOpensSpec)

/-- ITS FALSE NEIGHBOUR: 'it returns false'. Refute it at one input. -/
def kzgOpensWrong : ChangeSpec := { name := "kzgOpens", fn := fun _ => fun
  | [d1, d2, d3, d4, d5] => { results := [.lit (.bool false)], args := [d1, d2, d3, d4, d5] }
  | _ => none }
def KzgOpensWrongFalsely : Prop := kzgOpensRow.holds Tryz.pinned (OpenSpec.ofChange kzgOpensWrong)

/- THE SECOND FORM. 'bulk': how many values and letters a reading holds, each counted each time it is reached (what is shared counts as often as it is met; a slice's spare places count too). A statement '..UptoSaid' is the law's where the arguments, and the package variables that the reading takes, are together of bulk at most 1048576: NARROWER than '..Said'. Prove '..Said' where nothing that the law and all that it calls make is longer than what came in: it says more and counts as full. Else prove '..UptoSaid'. A law counts once. -/
mutual
def uptoBulk {H : Type} : DataW H → Nat
  | .lit (.string bytes) => bytes.length + 1
  | .lit _ => 1
  | .nil => 1
  | .ptr d => uptoBulk d + 1
  | .slice elems spare => uptoBulkAll elems + uptoBulkAll spare + 1
  | .agg parts => uptoBulkAll parts + 1
  | .iface _ d => uptoBulk d + 1
  | .map entries => uptoBulkEntries entries + 1
  | .held _ => 1
def uptoBulkAll {H : Type} : List (DataW H) → Nat
  | [] => 0
  | d :: r => uptoBulk d + uptoBulkAll r
def uptoBulkEntries {H : Type} : List (Lit × DataW H) → Nat
  | [] => 0
  | x :: r => uptoBulkEntry x + uptoBulkEntries r
def uptoBulkEntry {H : Type} : Lit × DataW H → Nat
  | (.string bytes, d) => bytes.length + uptoBulk d + 1
  | (_, d) => uptoBulk d + 1
 end
def uptoSmall : (H : Type) → List (DataW H) → Bool := fun _ ds => decide (uptoBulkAll ds ≤ 1048576)
def OpenSpec.upto (s : _root_.Go.ChangeSpec) : _root_.Go.OpenSpec := { _root_.Go.OpenSpec.ofChange s with cond := some uptoSmall }

/-- 'chirographlaw12.PairMultiplies', WHERE WHAT IT READS IS OF BULK AT MOST 1048576: true; the input reads as it did. -/
def pairMultipliesUptoRow : OpenClaim := { program := "ytefimjofjjdndaagreat", sum := "6d2222a5a312e4d16527dd685df00abb7b0ff0c054890fe20f04216982077757", func := "chirograph/chirographlaw12.PairMultiplies", spec := "pairMultiplies", inPlace := ["math/bits.Add64", "math/bits.Sub64"], unfollowed := true, recurses := true, apart := false, narrowed := true }
def PairMultipliesUptoSaid : Prop := pairMultipliesUptoRow.holds Tryz.pinned (OpenSpec.upto pairMultipliesSpec)

/-- 'chirographlaw12.PairChecks', WHERE WHAT IT READS IS OF BULK AT MOST 1048576: true; the input reads as it did. -/
def pairChecksUptoRow : OpenClaim := { program := "ytefimjofjjdndaagreat", sum := "6d2222a5a312e4d16527dd685df00abb7b0ff0c054890fe20f04216982077757", func := "chirograph/chirographlaw12.PairChecks", spec := "pairChecks", inPlace := ["math/bits.Add64", "math/bits.Sub64"], unfollowed := true, recurses := true, apart := false, narrowed := true }
def PairChecksUptoSaid : Prop := pairChecksUptoRow.holds Tryz.pinned (OpenSpec.upto pairChecksSpec)

/-- 'chirographlaw17.KzgAsks', WHERE WHAT IT READS IS OF BULK AT MOST 1048576: true; the input reads as it did. -/
def kzgAsksUptoRow : OpenClaim := { program := "ytefimjofjjdndaagreat", sum := "6d2222a5a312e4d16527dd685df00abb7b0ff0c054890fe20f04216982077757", func := "chirograph/chirographlaw17.KzgAsks", spec := "kzgAsks", inPlace := ["math/bits.Add64", "math/bits.Sub64"], unfollowed := true, recurses := true, apart := false, narrowed := true }
def KzgAsksUptoSaid : Prop := kzgAsksUptoRow.holds Tryz.pinned (OpenSpec.upto kzgAsksSpec)

/-- 'chirographlaw17.KzgChecks', WHERE WHAT IT READS IS OF BULK AT MOST 1048576: true; the input reads as it did. -/
def kzgChecksUptoRow : OpenClaim := { program := "ytefimjofjjdndaagreat", sum := "6d2222a5a312e4d16527dd685df00abb7b0ff0c054890fe20f04216982077757", func := "chirograph/chirographlaw17.KzgChecks", spec := "kzgChecks", inPlace := ["math/bits.Add64", "math/bits.Sub64"], unfollowed := true, recurses := true, apart := false, narrowed := true }
def KzgChecksUptoSaid : Prop := kzgChecksUptoRow.holds Tryz.pinned (OpenSpec.upto kzgChecksSpec)

/-- 'chirographlaw17.KzgOpens', WHERE WHAT IT READS IS OF BULK AT MOST 1048576: true; the input reads as it did. -/
def kzgOpensUptoRow : OpenClaim := { program := "ytefimjofjjdndaagreat", sum := "6d2222a5a312e4d16527dd685df00abb7b0ff0c054890fe20f04216982077757", func := "chirograph/chirographlaw17.KzgOpens", spec := "kzgOpens", inPlace := ["math/bits.Add64", "math/bits.Sub64"], unfollowed := true, recurses := true, apart := false, narrowed := true }
def KzgOpensUptoSaid : Prop := kzgOpensUptoRow.holds Tryz.pinned (OpenSpec.upto kzgOpensSpec)

end Rows
end Go.Proofs.YtefimjofjjdndaaGreat
