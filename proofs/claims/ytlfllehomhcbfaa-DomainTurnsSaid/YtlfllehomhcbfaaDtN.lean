/- Parts of a proof, one behind the other: Rd. No conditions. -/
import Derived.Test.YtlfllehomhcbfaaDtM
/- How this seat's arguments are read. No conditions. -/
namespace Go.Proofs.Ytlfllehomhcbfaa
open Go.ChangeShapes Go.WideShapes Go.ChangeAt Go.RowKit

theorem ownKnob_try : ownKnob Try.prog.godebug = none := by kernel_rfl
theorem laid_try : laidOutB Try.prog = true := by kernel_rfl

theorem r_fr (dp : Nat) : Reads Try.prog 32 dp fun its => ∃ x : U4, its = [.ob (.fr x)] := reads_fr Try.underlying32 (by kernel_rfl) Try.underlying30 dp
theorem r_i (dp : Nat) : Reads Try.prog 3 dp fun its => ∃ n, its = [.int .i64 n] ∧ (Lit.int .i64 n).wf = true := reads_int Try.underlying3 dp

theorem r_dom (dp : Nat) : Reads Try.prog 34 dp fun its => ∃ n x, its = [.int .i64 n, .ob (.fr x)] := by
  intro H enc W fuel cs d ps h
  obtain ⟨its, hc, hp⟩ := reads_struct Try.underlying34 (.cons rfl (r_i dp) (.cons (by kernel_rfl) (r_fr dp) (.nil _))) (by kernel_rfl) enc W fuel cs d ps h
  refine ⟨its, hc, ?_⟩
  cases hp with | cons h1 hp => cases hp with | cons h2 hp =>
  cases hp
  obtain ⟨n, rfl, _⟩ := h1
  obtain ⟨x, rfl⟩ := h2
  exact ⟨n, x, rfl⟩

theorem r_frs (dp : Nat) : Reads Try.prog 38 (dp + 1) fun its => ∃ l, its = [.sl (.fr l)] ∧ l.length ≤ maxLen :=
  reads_slice (f := fun x => [.ob (.fr x)]) Try.underlying38 (by kernel_rfl) (r_fr dp) .fr (fun _ => rfl) (fun _ => by kernel_rfl) (fun l i a hi => by simp [Sq.get, List.getD, hi])

set_option maxRecDepth 100000 in
theorem a_int {W : World} {base : Nat} {v : Value} (hv : Value.okWide Try.prog W .any base 3 v) : ∃ n, denS (X0 W) (.v (.c (.int .i64 n))) v ∧ -9223372036854775808 ≤ n ∧ n < 9223372036854775808 := by
  obtain ⟨n, rfl, h1, h2⟩ := arg_int Try.underlying3 hv
  have h1 : (-9223372036854775808 : Int) ≤ n := h1
  have h2 : n ≤ (9223372036854775807 : Int) := h2
  exact ⟨n, ⟨rfl, 0, rfl⟩, h1, by omega⟩

set_option maxRecDepth 100000 in
theorem a_fr {W : World} {base : Nat} {v : Value} {H : Type} {enc : TypeId × Value → H} {d : DataW H} {ps : List MemPlace} (hv : Value.okWide Try.prog W .any base 32 v) (h : DataW.Trod enc Try.prog W 0 (fun _ => true) true 32 v d ps) : ∃ x, denS (X0 W) (.v (.a [.ob (.fr x)])) v := by
  obtain ⟨its, h1, x, rfl⟩ := arg_agg (r_fr 0) (.inr ⟨_, _, Try.underlying32⟩) hv h
  exact ⟨x, h1⟩

set_option maxRecDepth 100000 in
theorem a_dom {W : World} {base : Nat} {v : Value} {H : Type} {enc : TypeId × Value → H} {d : DataW H} {ps : List MemPlace} (hv : Value.okWide Try.prog W .any base 34 v) (h : DataW.Trod enc Try.prog W 0 (fun _ => true) true 34 v d ps) : ∃ n x, denS (X0 W) (.v (.a [.int .i64 n, .ob (.fr x)])) v := by
  obtain ⟨its, h1, n, x, rfl⟩ := arg_agg (r_dom 0) (.inl ⟨_, Try.underlying34⟩) hv h
  exact ⟨n, x, h1⟩

set_option maxRecDepth 100000 in
theorem a_frs {W : World} {base : Nat} {v : Value} {H : Type} {enc : TypeId × Value → H} {d : DataW H} {ps : List MemPlace} (hv : Value.okWide Try.prog W .any base 38 v) (h : DataW.Trod enc Try.prog W 0 (fun _ => true) true 38 v d ps) : ∃ l, denS (X0 W) (.v (.c (.sl (.fr l)))) v ∧ l.length ≤ maxLen :=
  arg_slice (mk := Sq.fr) Try.underlying38 (r_frs 0) hv h

end Go.Proofs.Ytlfllehomhcbfaa
