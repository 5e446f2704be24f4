/- SumTwos: whatever the points of the second curve and the numbers, the law returns true, and its arguments read as they did. No conditions. -/
import Derived.Carry
import Derived.Test.YtkfcphigoncgjaaSwO
namespace Go.Proofs.Ytkfcphigoncgjaa
open Go.ChangeShapes Go.WideShapes Go.ChangeAt Go.RowKit

set_option maxRecDepth 100000 in
theorem sumTwos_lifted (os : Os) (started : os.Started) (H : Type) (enc : TypeId × Value → H) :
    ReturnsInHanded {} Try.checked os 16 .any (Rows.sumTwosSpec.pre6 enc Try.prog Try.f16 Rows.sumTwosRow.domain false) (Rows.sumTwosSpec.post enc Try.prog Try.f16 false true false false) :=
  law_lifted (C := Try.checked) ownKnob_try (by kernel_rfl) Try.func16 laid_try (by kernel_rfl) rfl Try.underlying4 rfl (fun ds h => by
      match ds, h with
      | [d, e], _ => rfl) started
    (ChangeSpec.witness6 (enc := enc) (C := Try.checked) false ⟨#[], #[.slice none 0 0, .slice none 0 0], []⟩ 8 (by kernel_rfl) (by kernel_rfl) (by kernel_rfl) (by kernel_rfl))
    fun W base args ds ps hval0 hA => by
      have hval : ∀ (j : Nat) t v, Try.f16.params[j]? = some t → args[j]? = some v → Value.okWide Try.prog W .any base t v := hval0
      clear hval0
      have hA : DataW.TrodAll enc Try.prog W 0 (fun _ => true) true Try.f16.params.toList args.toList ds ps := hA
      rw [Try.params16] at hA hval
      obtain ⟨v0, v1, d0, d1, p0, p1, rfl, rfl, rfl, h0, h1⟩ := trodAll_two hA
      obtain ⟨a, g0, _⟩ := a_g2s (hval 0 73 v0 rfl rfl) h0
      obtain ⟨b, g1, _⟩ := a_frs (hval 1 68 v1 rfl rfl) h1
      exact ⟨_, .cons g0 (.cons g1 .nil), sumTwos_fnd a b⟩

theorem sumTwos_holds : Rows.SumTwosSaid :=
  OpenClaim.holds_of_wide 16 Try.f16 rfl rfl rfl rfl rfl rfl rfl ⟨rfl, rfl, rfl, rfl, rfl⟩ rfl rfl rfl rfl rfl (by kernel_rfl) Try.func16 (by kernel_rfl)
    (of_decide_eq_true (by kernel_rfl)) (by unfold Func.isWrapper; first | (rw [if_pos (by decide +kernel)]; kernel_rfl) | (rw [if_neg (by decide +kernel)]; exact ⟨rfl, rfl⟩))
    (fun os started H enc _ => sumTwos_lifted os started H enc)

end Go.Proofs.Ytkfcphigoncgjaa
