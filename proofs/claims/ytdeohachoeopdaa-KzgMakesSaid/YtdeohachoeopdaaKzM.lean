/- Parts of a proof, one behind the other: Rd. No conditions. -/
import Derived.Test.YtdeohachoeopdaaKzL
/- How this seat's arguments are read. No conditions. -/
namespace Go.Proofs.Ytdeohachoeopdaa
open Go.ChangeShapes Go.WideShapes Go.ChangeAt Go.RowKit

theorem ownKnob_try : ownKnob Try.prog.godebug = none := by kernel_rfl
theorem laid_try : laidOutB Try.prog = true := by kernel_rfl

theorem r_fr (dp : Nat) : Reads Try.prog 24 dp fun its => ∃ x : U4, its = [.ob (.fr x)] := reads_fr Try.underlying24 (by kernel_rfl) Try.underlying22 dp
theorem r_fp (dp : Nat) : Reads Try.prog 27 dp fun its => ∃ x : U6, its = [.ob (.fp x)] := reads_fp Try.underlying27 (by kernel_rfl) Try.underlying22 dp
theorem r_i (dp : Nat) : Reads Try.prog 3 dp fun its => ∃ n, its = [.int .i64 n] ∧ (Lit.int .i64 n).wf = true := reads_int Try.underlying3 dp

theorem r_b (dp : Nat) : Reads Try.prog 4 dp fun its => ∃ b, its = [.bool b] := reads_bool Try.underlying4 dp
theorem r_u32 (dp : Nat) : Reads Try.prog 147 dp fun its => ∃ n, its = [.int .u32 n] ∧ (Lit.int .u32 n).wf = true := reads_int Try.underlying147 dp

theorem r_g1 (dp : Nat) : Reads Try.prog 41 dp fun its => ∃ g : G1D, its = g.its := by
  intro H enc W fuel cs d ps h
  obtain ⟨its, hc, hp⟩ := reads_struct Try.underlying41 (.cons (by kernel_rfl) (r_fp dp) (.cons (by kernel_rfl) (r_fp dp) (.cons (by kernel_rfl) (r_b dp) (.nil _)))) (by kernel_rfl) enc W fuel cs d ps h
  refine ⟨its, hc, ?_⟩
  cases hp with | cons h1 hp => cases hp with | cons h2 hp => cases hp with | cons h3 hp =>
  cases hp
  obtain ⟨x, rfl⟩ := h1
  obtain ⟨y, rfl⟩ := h2
  obtain ⟨b, rfl⟩ := h3
  exact ⟨⟨x, y, b⟩, rfl⟩

theorem r_fp2 (dp : Nat) : Reads Try.prog 29 dp fun its => ∃ x y : U6, its = [.ob (.fp x), .ob (.fp y)] := by
  intro H enc W fuel cs d ps h
  obtain ⟨its, hc, hp⟩ := reads_struct Try.underlying29 (.cons (by kernel_rfl) (r_fp dp) (.cons (by kernel_rfl) (r_fp dp) (.nil _))) (by kernel_rfl) enc W fuel cs d ps h
  refine ⟨its, hc, ?_⟩
  cases hp with | cons h1 hp => cases hp with | cons h2 hp =>
  cases hp
  obtain ⟨x, rfl⟩ := h1
  obtain ⟨y, rfl⟩ := h2
  exact ⟨x, y, rfl⟩

theorem r_g2 (dp : Nat) : Reads Try.prog 31 dp fun its => ∃ g : G2D, its = g.its := by
  intro H enc W fuel cs d ps h
  obtain ⟨its, hc, hp⟩ := reads_struct Try.underlying31 (.cons (by kernel_rfl) (r_fp2 dp) (.cons (by kernel_rfl) (r_fp2 dp) (.cons (by kernel_rfl) (r_b dp) (.nil _)))) (by kernel_rfl) enc W fuel cs d ps h
  refine ⟨its, hc, ?_⟩
  cases hp with | cons h1 hp => cases hp with | cons h2 hp => cases hp with | cons h3 hp =>
  cases hp
  obtain ⟨xa, xb, rfl⟩ := h1
  obtain ⟨ya, yb, rfl⟩ := h2
  obtain ⟨b, rfl⟩ := h3
  exact ⟨⟨xa, xb, ya, yb, b⟩, rfl⟩

set_option maxRecDepth 100000 in
theorem a_int {W : World} {base : Nat} {v : Value} (hv : Value.okWide Try.prog W .any base 3 v) : ∃ n, denS (X0 W) (.v (.c (.int .i64 n))) v ∧ -9223372036854775808 ≤ n ∧ n < 9223372036854775808 := by
  obtain ⟨n, rfl, h1, h2⟩ := arg_int Try.underlying3 hv
  have h1 : (-9223372036854775808 : Int) ≤ n := h1
  have h2 : n ≤ (9223372036854775807 : Int) := h2
  exact ⟨n, ⟨rfl, 0, rfl⟩, h1, by omega⟩

set_option maxRecDepth 100000 in
theorem a_u32 {W : World} {base : Nat} {v : Value} (hv : Value.okWide Try.prog W .any base 147 v) : ∃ n, denS (X0 W) (.v (.c (.int .u32 n))) v ∧ 0 ≤ n ∧ n < 4294967296 := by
  obtain ⟨n, rfl, h1, h2⟩ := arg_int Try.underlying147 hv
  have h1 : (0 : Int) ≤ n := h1
  have h2 : n ≤ (4294967295 : Int) := h2
  exact ⟨n, ⟨rfl, 0, rfl⟩, h1, by omega⟩

set_option maxRecDepth 100000 in
theorem a_fr {W : World} {base : Nat} {v : Value} {H : Type} {enc : TypeId × Value → H} {d : DataW H} {ps : List MemPlace} (hv : Value.okWide Try.prog W .any base 24 v) (h : DataW.Trod enc Try.prog W 0 (fun _ => true) true 24 v d ps) : ∃ x, denS (X0 W) (.v (.a [.ob (.fr x)])) v := by
  obtain ⟨its, h1, x, rfl⟩ := arg_agg (r_fr 0) (.inr ⟨_, _, Try.underlying24⟩) hv h
  exact ⟨x, h1⟩

set_option maxRecDepth 100000 in
theorem a_g1 {W : World} {base : Nat} {v : Value} {H : Type} {enc : TypeId × Value → H} {d : DataW H} {ps : List MemPlace} (hv : Value.okWide Try.prog W .any base 41 v) (h : DataW.Trod enc Try.prog W 0 (fun _ => true) true 41 v d ps) : ∃ g : G1D, denS (X0 W) (.v (.a g.its)) v := by
  obtain ⟨its, h1, g, rfl⟩ := arg_agg (r_g1 0) (.inl ⟨_, Try.underlying41⟩) hv h
  exact ⟨g, h1⟩

set_option maxRecDepth 100000 in
theorem a_g2 {W : World} {base : Nat} {v : Value} {H : Type} {enc : TypeId × Value → H} {d : DataW H} {ps : List MemPlace} (hv : Value.okWide Try.prog W .any base 31 v) (h : DataW.Trod enc Try.prog W 0 (fun _ => true) true 31 v d ps) : ∃ g : G2D, denS (X0 W) (.v (.a g.its)) v := by
  obtain ⟨its, h1, g, rfl⟩ := arg_agg (r_g2 0) (.inl ⟨_, Try.underlying31⟩) hv h
  exact ⟨g, h1⟩

end Go.Proofs.Ytdeohachoeopdaa
