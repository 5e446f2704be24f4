/-
  No cell of these rows narrows 'for every input' (looked for: loops, veiled, ifaces, maps, wideKeys, modest, calm, conditions, laid).
  DERIVED. THE GIVEN ROWS OF THIS SEAT. 3 by the template 'for every input the law returns true; each argument reads behind the call as it read before'; 0 by the template 'total and deterministic' (their statements: YtefimjofjjdndaaTotals.lean).
  GIVEN WITH THE SEED: the statements are not yours to turn. If you find one false, say at which input.
  Laid BY PROGRAM, IN A SANDBOX (cutbox-rows.mjs): the forced cells as the released guide's own fill.sh prints them over the translation 1914f225c0cad33a… (all of the seat's roots in one cut). By AI agents, Wed Nov 11 2026. No macro, syntax, notation, axiom, sorry.
-/
import Derived.Test.YtefimjofjjdndaaChecked
import GoSem.Claim
import GoSem.ClaimJoined
import GoSem.ClaimMapViews
import Derived.JoinedTies
import Derived.KernelRfl
namespace Go.Proofs.Ytefimjofjjdndaa
/- THE CELL 'sum', in the pinned program and in every row, IS THE sha256 OF THE DUMP (.gsa) THAT YtefimjofjjdndaaProg.lean LOADS. Nothing in Lean hashes anything: it is a label: what it is worth is what the hold of that sum in a sandbox is worth. -/
noncomputable def Try.pinned : Pinned := { name := "ytefimjofjjdndaa", sum := "1914f225c0cad33a3a7d89cb6614213983be54d103d06de67ec86aaa3387b093", checked := Try.checked }
namespace Rows
def none {H : Type} : Left H := { results := [], args := [] }

/-- 'chirographlaw12.PairAsks': WHATEVER THE INPUT: true; the input reads as it did. -/
def pairAsksSpec : ChangeSpec := { name := "pairAsks", fn := fun _ => fun
  | [d1, d2] => { results := [.lit (.bool true)], args := [d1, d2] }
  | _ => none }
def pairAsksRow : OpenClaim := { program := "ytefimjofjjdndaa", sum := "1914f225c0cad33a3a7d89cb6614213983be54d103d06de67ec86aaa3387b093", func := "chirograph/chirographlaw12.PairAsks", spec := "pairAsks", inPlace := ["math/bits.Add64", "math/bits.Sub64"], unfollowed := true, recurses := true, apart := false }
def PairAsksSaid : Prop := pairAsksRow.holds Try.pinned (OpenSpec.ofChange pairAsksSpec)

/-- ITS FALSE NEIGHBOUR: 'it returns false'. Refute it at one input. -/
def pairAsksWrong : ChangeSpec := { name := "pairAsks", fn := fun _ => fun
  | [d1, d2] => { results := [.lit (.bool false)], args := [d1, d2] }
  | _ => none }
def PairAsksWrongFalsely : Prop := pairAsksRow.holds Try.pinned (OpenSpec.ofChange pairAsksWrong)

/-- 'chirographlaw12.PairAdds': WHATEVER THE INPUT: true; the input reads as it did. -/
def pairAddsSpec : ChangeSpec := { name := "pairAdds", fn := fun _ => fun
  | [d1, d2, d3, d4] => { results := [.lit (.bool true)], args := [d1, d2, d3, d4] }
  | _ => none }
def pairAddsRow : OpenClaim := { program := "ytefimjofjjdndaa", sum := "1914f225c0cad33a3a7d89cb6614213983be54d103d06de67ec86aaa3387b093", func := "chirograph/chirographlaw12.PairAdds", spec := "pairAdds", inPlace := ["math/bits.Add64", "math/bits.Sub64"], unfollowed := true, recurses := true, apart := false }
def PairAddsSaid : Prop := pairAddsRow.holds Try.pinned (OpenSpec.ofChange pairAddsSpec)

/-- ITS FALSE NEIGHBOUR: 'it returns false'. Refute it at one input. -/
def pairAddsWrong : ChangeSpec := { name := "pairAdds", fn := fun _ => fun
  | [d1, d2, d3, d4] => { results := [.lit (.bool false)], args := [d1, d2, d3, d4] }
  | _ => none }
def PairAddsWrongFalsely : Prop := pairAddsRow.holds Try.pinned (OpenSpec.ofChange pairAddsWrong)

/-- 'chirographlaw12.PairNegs': WHATEVER THE INPUT: true; the input reads as it did. -/
def pairNegsSpec : ChangeSpec := { name := "pairNegs", fn := fun _ => fun
  | [d1, d2] => { results := [.lit (.bool true)], args := [d1, d2] }
  | _ => none }
def pairNegsRow : OpenClaim := { program := "ytefimjofjjdndaa", sum := "1914f225c0cad33a3a7d89cb6614213983be54d103d06de67ec86aaa3387b093", func := "chirograph/chirographlaw12.PairNegs", spec := "pairNegs", inPlace := ["math/bits.Add64", "math/bits.Sub64"], unfollowed := true, recurses := true, apart := false }
def PairNegsSaid : Prop := pairNegsRow.holds Try.pinned (OpenSpec.ofChange pairNegsSpec)

/-- ITS FALSE NEIGHBOUR: 'it returns false'. Refute it at one input. -/
def pairNegsWrong : ChangeSpec := { name := "pairNegs", fn := fun _ => fun
  | [d1, d2] => { results := [.lit (.bool false)], args := [d1, d2] }
  | _ => none }
def PairNegsWrongFalsely : Prop := pairNegsRow.holds Try.pinned (OpenSpec.ofChange pairNegsWrong)

/- THE SECOND FORM. 'bulk': how many values and letters a reading holds, each counted each time it is reached (what is shared counts as often as it is met; a slice's spare places count too). A statement '..UptoSaid' is the law's where the arguments, and the package variables that the reading takes, are together of bulk at most 1048576: NARROWER than '..Said'. Prove '..Said' where nothing that the law and all that it calls make is longer than what came in: it says more and counts as full. Else prove '..UptoSaid'. A law counts once. -/
mutual
def uptoBulk {H : Type} : DataW H → Nat
  | .lit (.string bytes) => bytes.length + 1
  | .lit _ => 1
  | .nil => 1
  | .ptr d => uptoBulk d + 1
  | .slice elems spare => uptoBulkAll elems + uptoBulkAll spare + 1
  | .agg parts => uptoBulkAll parts + 1
  | .iface _ d => uptoBulk d + 1
  | .map entries => uptoBulkEntries entries + 1
  | .held _ => 1
def uptoBulkAll {H : Type} : List (DataW H) → Nat
  | [] => 0
  | d :: r => uptoBulk d + uptoBulkAll r
def uptoBulkEntries {H : Type} : List (Lit × DataW H) → Nat
  | [] => 0
  | x :: r => uptoBulkEntry x + uptoBulkEntries r
def uptoBulkEntry {H : Type} : Lit × DataW H → Nat
  | (.string bytes, d) => bytes.length + uptoBulk d + 1
  | (_, d) => uptoBulk d + 1
 end
def uptoSmall : (H : Type) → List (DataW H) → Bool := fun _ ds => decide (uptoBulkAll ds ≤ 1048576)
def OpenSpec.upto (s : _root_.Go.ChangeSpec) : _root_.Go.OpenSpec := { _root_.Go.OpenSpec.ofChange s with cond := some uptoSmall }

/-- 'chirographlaw12.PairAsks', WHERE WHAT IT READS IS OF BULK AT MOST 1048576: true; the input reads as it did. -/
def pairAsksUptoRow : OpenClaim := { program := "ytefimjofjjdndaa", sum := "1914f225c0cad33a3a7d89cb6614213983be54d103d06de67ec86aaa3387b093", func := "chirograph/chirographlaw12.PairAsks", spec := "pairAsks", inPlace := ["math/bits.Add64", "math/bits.Sub64"], unfollowed := true, recurses := true, apart := false, narrowed := true }
def PairAsksUptoSaid : Prop := pairAsksUptoRow.holds Try.pinned (OpenSpec.upto pairAsksSpec)

/-- 'chirographlaw12.PairAdds', WHERE WHAT IT READS IS OF BULK AT MOST 1048576: true; the input reads as it did. -/
def pairAddsUptoRow : OpenClaim := { program := "ytefimjofjjdndaa", sum := "1914f225c0cad33a3a7d89cb6614213983be54d103d06de67ec86aaa3387b093", func := "chirograph/chirographlaw12.PairAdds", spec := "pairAdds", inPlace := ["math/bits.Add64", "math/bits.Sub64"], unfollowed := true, recurses := true, apart := false, narrowed := true }
def PairAddsUptoSaid : Prop := pairAddsUptoRow.holds Try.pinned (OpenSpec.upto pairAddsSpec)

/-- 'chirographlaw12.PairNegs', WHERE WHAT IT READS IS OF BULK AT MOST 1048576: true; the input reads as it did. -/
def pairNegsUptoRow : OpenClaim := { program := "ytefimjofjjdndaa", sum := "1914f225c0cad33a3a7d89cb6614213983be54d103d06de67ec86aaa3387b093", func := "chirograph/chirographlaw12.PairNegs", spec := "pairNegs", inPlace := ["math/bits.Add64", "math/bits.Sub64"], unfollowed := true, recurses := true, apart := false, narrowed := true }
def PairNegsUptoSaid : Prop := pairNegsUptoRow.holds Try.pinned (OpenSpec.upto pairNegsSpec)

end Rows
end Go.Proofs.Ytefimjofjjdndaa
