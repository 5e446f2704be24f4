/- SetupSizes: whatever the circuit, the law returns true, and its argument reads as it did. No conditions. -/
import Derived.Test.YtlfllehomhcbfaaJo
import Derived.Test.YtlfllehomhcbfaaPSetup
namespace Go.Proofs.Ytlfllehomhcbfaa
open Go.ChangeShapes Go.WideShapes Go.ChangeAt Go.RowKit

theorem ownKnob_try : ownKnob Try.prog.godebug = none := by kernel_rfl
theorem laid_try : laidOutB Try.prog = true := by kernel_rfl

theorem r_fr (dp : Nat) : Reads Try.prog 32 dp fun its => ∃ x : U4, its = [.ob (.fr x)] := reads_fr Try.underlying32 (by kernel_rfl) Try.underlying30 dp
theorem r_i (dp : Nat) : Reads Try.prog 3 dp fun its => ∃ n, its = [.int .i64 n] ∧ (Lit.int .i64 n).wf = true := reads_int Try.underlying3 dp

theorem r_gate (dp : Nat) : Reads Try.prog 80 dp fun its => ∃ g : GateD, its = g.its := by
  intro H enc W fuel cs d ps h
  obtain ⟨its, hc, hp⟩ := reads_struct Try.underlying80 (.cons rfl (r_fr dp) (.cons (by kernel_rfl) (r_fr dp) (.cons (by kernel_rfl) (r_fr dp) (.cons (by kernel_rfl) (r_fr dp) (.cons (by kernel_rfl) (r_fr dp)
    (.cons (by kernel_rfl) (reads_array Try.underlying78 (by kernel_rfl) (r_i dp)) (.nil _))))))) (by kernel_rfl) enc W fuel cs d ps h
  refine ⟨its, hc, ?_⟩
  cases hp with | cons h1 hp => cases hp with | cons h2 hp => cases hp with | cons h3 hp => cases hp with | cons h4 hp => cases hp with | cons h5 hp => cases hp with | cons h6 hp =>
  cases hp
  obtain ⟨x1, rfl⟩ := h1
  obtain ⟨x2, rfl⟩ := h2
  obtain ⟨x3, rfl⟩ := h3
  obtain ⟨x4, rfl⟩ := h4
  obtain ⟨x5, rfl⟩ := h5
  obtain ⟨L, hl, rfl, _⟩ := parts_ints h6
  match L, hl with
  | [a, b, c], _ => exact ⟨⟨x1, x2, x3, x4, x5, a, b, c⟩, rfl⟩

theorem r_circ (dp : Nat) : Reads Try.prog 24 (dp + 1) fun its => ∃ l p v, its = [.sl (.gate l), .int .i64 p, .int .i64 v] := by
  intro H enc W fuel cs d ps h
  have hs : Reads Try.prog 22 (dp + 1) _ := reads_slice (f := GateD.its) Try.underlying22 (by kernel_rfl) (r_gate dp) .gate (fun _ => rfl) (fun _ => by kernel_rfl) (fun l i a hi => by simp [Sq.get, List.getD, hi])
  obtain ⟨its, hc, hp⟩ := reads_struct Try.underlying24 (.cons rfl hs (.cons (by kernel_rfl) (r_i (dp + 1)) (.cons (by kernel_rfl) (r_i (dp + 1)) (.nil _)))) (by kernel_rfl) enc W fuel cs d ps h
  refine ⟨its, hc, ?_⟩
  cases hp with | cons h1 hp => cases hp with | cons h2 hp => cases hp with | cons h3 hp =>
  cases hp
  obtain ⟨l, rfl, _⟩ := h1
  obtain ⟨p, rfl, _⟩ := h2
  obtain ⟨v, rfl, _⟩ := h3
  exact ⟨l, p, v, rfl⟩

set_option maxRecDepth 100000 in
theorem setupSizes_lifted (os : Os) (started : os.Started) (H : Type) (enc : TypeId × Value → H) :
    ReturnsInHanded {} Try.checked os 3 .any (Rows.setupSizesSpec.pre6 enc Try.prog Try.f3 Rows.setupSizesRow.domain false) (Rows.setupSizesSpec.post enc Try.prog Try.f3 false true false false) :=
  law_lifted (C := Try.checked) ownKnob_try (by kernel_rfl) Try.func3 laid_try (by kernel_rfl) rfl Try.underlying4 rfl (fun ds h => by
      match ds, h with
      | [d], _ => rfl) started
    (ChangeSpec.witness6 (enc := enc) (C := Try.checked) false ⟨#[], #[.agg #[.slice none 0 0, .int .i64 0, .int .i64 0]], []⟩ 8 (by kernel_rfl) (by kernel_rfl) (by kernel_rfl) (by kernel_rfl))
    fun W base args ds ps hval0 hA => by
      have hval : ∀ (j : Nat) t v, Try.f3.params[j]? = some t → args[j]? = some v → Value.okWide Try.prog W .any base t v := hval0
      clear hval0
      have hA : DataW.TrodAll enc Try.prog W 0 (fun _ => true) true Try.f3.params.toList args.toList ds ps := hA
      rw [Try.params3] at hA hval
      obtain ⟨v0, d0, rfl, rfl, h0⟩ := trodAll_one hA
      obtain ⟨its, h1, l, p, v, rfl⟩ := arg_agg (r_circ 0) (.inl ⟨_, Try.underlying24⟩) (hval 0 24 v0 rfl rfl) h0
      exact ⟨_, .cons h1 .nil, sizes_fnd l p v⟩

theorem setupSizes_holds : Rows.SetupSizesSaid :=
  OpenClaim.holds_of_wide 3 Try.f3 rfl rfl rfl rfl rfl rfl rfl ⟨rfl, rfl, rfl, rfl, rfl⟩ rfl rfl rfl rfl rfl (by kernel_rfl) Try.func3 (by kernel_rfl)
    (of_decide_eq_true (by kernel_rfl)) (by unfold Func.isWrapper; first | (rw [if_pos (by decide +kernel)]; kernel_rfl) | (rw [if_neg (by decide +kernel)]; exact ⟨rfl, rfl⟩))
    (fun os started H enc _ => setupSizes_lifted os started H enc)

end Go.Proofs.Ytlfllehomhcbfaa
