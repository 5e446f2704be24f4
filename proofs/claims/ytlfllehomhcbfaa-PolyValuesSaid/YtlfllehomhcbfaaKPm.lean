/- PolyValues: whatever the polynomials, the number and the place, the law returns true, and its arguments read as they did. No conditions. -/
import Derived.Carry
import Derived.Test.YtlfllehomhcbfaaPmO
namespace Go.Proofs.Ytlfllehomhcbfaa
open Go.ChangeShapes Go.WideShapes Go.ChangeAt Go.RowKit

set_option maxRecDepth 100000 in
theorem polyValues_lifted (os : Os) (started : os.Started) (H : Type) (enc : TypeId × Value → H) :
    ReturnsInHanded {} Try.checked os 16 .any (Rows.polyValuesSpec.pre6 enc Try.prog Try.f16 Rows.polyValuesRow.domain false) (Rows.polyValuesSpec.post enc Try.prog Try.f16 false true false false) :=
  law_lifted (C := Try.checked) ownKnob_try (by kernel_rfl) Try.func16 laid_try (by kernel_rfl) rfl Try.underlying4 rfl (fun ds h => by
      match ds, h with
      | [d, e, f, g], _ => rfl) started
    (ChangeSpec.witness6 (enc := enc) (C := Try.checked) false ⟨#[], #[.slice none 0 0, .slice none 0 0, .agg #[.int .u64 0, .int .u64 0, .int .u64 0, .int .u64 0], .agg #[.int .u64 0, .int .u64 0, .int .u64 0, .int .u64 0]], []⟩ 8 (by kernel_rfl) (by kernel_rfl) (by kernel_rfl) (by kernel_rfl))
    fun W base args ds ps hval0 hA => by
      have hval : ∀ (j : Nat) t v, Try.f16.params[j]? = some t → args[j]? = some v → Value.okWide Try.prog W .any base t v := hval0
      clear hval0
      have hA : DataW.TrodAll enc Try.prog W 0 (fun _ => true) true Try.f16.params.toList args.toList ds ps := hA
      rw [Try.params16] at hA hval
      obtain ⟨v0, v1, v2, v3, d0, d1, d2, d3, p0, p1, p2, p3, rfl, rfl, rfl, h0, h1, h2, h3⟩ := trodAll_four hA
      obtain ⟨a, g0, _⟩ := a_frs (hval 0 38 v0 rfl rfl) h0
      obtain ⟨b, g1, _⟩ := a_frs (hval 1 38 v1 rfl rfl) h1
      obtain ⟨c, g2⟩ := a_fr (hval 2 32 v2 rfl rfl) h2
      obtain ⟨d, g3⟩ := a_fr (hval 3 32 v3 rfl rfl) h3
      exact ⟨_, .cons g0 (.cons g1 (.cons g2 (.cons g3 .nil))), values_fnd16 a b c d⟩

theorem polyValues_holds : Rows.PolyValuesSaid :=
  OpenClaim.holds_of_wide 16 Try.f16 rfl rfl rfl rfl rfl rfl rfl ⟨rfl, rfl, rfl, rfl, rfl⟩ rfl rfl rfl rfl rfl (by kernel_rfl) Try.func16 (by kernel_rfl)
    (of_decide_eq_true (by kernel_rfl)) (by unfold Func.isWrapper; first | (rw [if_pos (by decide +kernel)]; kernel_rfl) | (rw [if_neg (by decide +kernel)]; exact ⟨rfl, rfl⟩))
    (fun os started H enc _ => polyValues_lifted os started H enc)

end Go.Proofs.Ytlfllehomhcbfaa
