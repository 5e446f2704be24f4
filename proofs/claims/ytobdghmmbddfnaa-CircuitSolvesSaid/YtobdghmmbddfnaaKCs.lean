/- CircuitSolves: whatever the operations, the inputs and the values, the law returns true, and its arguments read as they did. No conditions. -/
import Derived.Carry
import Derived.Test.YtobdghmmbddfnaaCsR
namespace Go.Proofs.Ytobdghmmbddfnaa
open Go.ChangeShapes Go.WideShapes Go.ChangeAt Go.RowKit

set_option maxRecDepth 100000 in
theorem circuitSolves_lifted (os : Os) (started : os.Started) (H : Type) (enc : TypeId × Value → H) :
    ReturnsInHanded {} Try.checked os 6 .any (Rows.circuitSolvesSpec.pre6 enc Try.prog Try.f6 Rows.circuitSolvesRow.domain false) (Rows.circuitSolvesSpec.post enc Try.prog Try.f6 false true false false) :=
  law_lifted_sized (C := Try.checked) ownKnob_try (by kernel_rfl) Try.func6 laid_try (by kernel_rfl) rfl Try.underlying4 rfl (fun ds h => by
      match ds, h with
      | [d, e, f], _ => rfl) started
    (ChangeSpec.witness6 (enc := enc) (C := Try.checked) false ⟨#[], #[.slice none 0 0, .slice none 0 0, .slice none 0 0], []⟩ 8 (by kernel_rfl) (by kernel_rfl) (by kernel_rfl) (by kernel_rfl))
    fun W base args ds ps hval0 hA hw => by
      have hval : ∀ (j : Nat) t v, Try.f6.params[j]? = some t → args[j]? = some v → Value.okWide Try.prog W .any base t v := hval0
      have hw : ∀ (j : Nat) t d, Try.f6.params.toList[j]? = some t → ds[j]? = some d → ∀ m ∈ d.weights Try.prog t, m ≤ reachBytes := hw
      clear hval0
      have hA : DataW.TrodAll enc Try.prog W 0 (fun _ => true) true Try.f6.params.toList args.toList ds ps := hA
      rw [Try.params6] at hA hval hw
      obtain ⟨v0, v1, v2, d0, d1, d2, p0, p1, p2, rfl, rfl, rfl, h0, h1, h2⟩ := trodAll_three hA
      obtain ⟨l, g0, hz⟩ := ops_sized (hval 0 22 v0 rfl rfl) h0 (hw 0 22 d0 rfl rfl)
      obtain ⟨b, g1, _⟩ := a_frs (hval 1 33 v1 rfl rfl) h1
      obtain ⟨c, g2, _⟩ := a_frs (hval 2 33 v2 rfl rfl) h2
      exact ⟨_, .cons g0 (.cons g1 (.cons g2 .nil)), circuitSolves_fnd l b c hz⟩

theorem circuitSolves_holds : Rows.CircuitSolvesSaid :=
  OpenClaim.holds_of_wide 6 Try.f6 rfl rfl rfl rfl rfl rfl rfl ⟨rfl, rfl, rfl, rfl, rfl⟩ rfl rfl rfl rfl rfl (by kernel_rfl) Try.func6 (by kernel_rfl)
    (of_decide_eq_true (by kernel_rfl)) (by unfold Func.isWrapper; first | (rw [if_pos (by decide +kernel)]; kernel_rfl) | (rw [if_neg (by decide +kernel)]; exact ⟨rfl, rfl⟩))
    (fun os started H enc _ => circuitSolves_lifted os started H enc)

end Go.Proofs.Ytobdghmmbddfnaa
