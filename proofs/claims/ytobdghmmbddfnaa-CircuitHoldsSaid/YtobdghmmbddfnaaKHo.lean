/- CircuitHolds: whatever the circuit, the values and what is told, the law returns true, and its arguments read as they did. No conditions. -/
import Derived.Carry
import Derived.Test.YtobdghmmbddfnaaHoK
namespace Go.Proofs.Ytobdghmmbddfnaa
open Go.ChangeShapes Go.WideShapes Go.ChangeAt Go.RowKit

set_option maxRecDepth 100000 in
theorem circuitHolds_lifted (os : Os) (started : os.Started) (H : Type) (enc : TypeId × Value → H) :
    ReturnsInHanded {} Try.checked os 5 .any (Rows.circuitHoldsSpec.pre6 enc Try.prog Try.f5 Rows.circuitHoldsRow.domain false) (Rows.circuitHoldsSpec.post enc Try.prog Try.f5 false true false false) :=
  law_lifted (C := Try.checked) ownKnob_try (by kernel_rfl) Try.func5 laid_try (by kernel_rfl) rfl Try.underlying4 rfl (fun ds h => by
      match ds, h with
      | [d, e, f], _ => rfl) started
    (ChangeSpec.witness6 (enc := enc) (C := Try.checked) false ⟨#[], #[.agg #[.slice none 0 0, .int .i64 0, .int .i64 0], .slice none 0 0, .slice none 0 0], []⟩ 8 (by kernel_rfl) (by kernel_rfl) (by kernel_rfl) (by kernel_rfl))
    fun W base args ds ps hval0 hA => by
      have hval : ∀ (j : Nat) t v, Try.f5.params[j]? = some t → args[j]? = some v → Value.okWide Try.prog W .any base t v := hval0
      clear hval0
      have hA : DataW.TrodAll enc Try.prog W 0 (fun _ => true) true Try.f5.params.toList args.toList ds ps := hA
      rw [Try.params5] at hA hval
      obtain ⟨v0, v1, v2, d0, d1, d2, p0, p1, p2, rfl, rfl, rfl, h0, h1, h2⟩ := trodAll_three hA
      obtain ⟨its0, g0, al, ap, av, rfl⟩ := arg_agg (r_circ 0) (.inl ⟨_, Try.underlying26⟩) (hval 0 26 v0 rfl rfl) h0
      obtain ⟨b, g1, _⟩ := a_frs (hval 1 33 v1 rfl rfl) h1
      obtain ⟨c, g2, _⟩ := a_frs (hval 2 33 v2 rfl rfl) h2
      exact ⟨_, .cons g0 (.cons g1 (.cons g2 .nil)), circuitHolds_fnd al ap av b c⟩

theorem circuitHolds_holds : Rows.CircuitHoldsSaid :=
  OpenClaim.holds_of_wide 5 Try.f5 rfl rfl rfl rfl rfl rfl rfl ⟨rfl, rfl, rfl, rfl, rfl⟩ rfl rfl rfl rfl rfl (by kernel_rfl) Try.func5 (by kernel_rfl)
    (of_decide_eq_true (by kernel_rfl)) (by unfold Func.isWrapper; first | (rw [if_pos (by decide +kernel)]; kernel_rfl) | (rw [if_neg (by decide +kernel)]; exact ⟨rfl, rfl⟩))
    (fun os started H enc _ => circuitHolds_lifted os started H enc)

end Go.Proofs.Ytobdghmmbddfnaa
