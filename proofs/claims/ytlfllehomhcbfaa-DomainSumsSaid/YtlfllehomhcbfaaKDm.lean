/- DomainSums: whatever the logarithm, the place and the values, the law returns true, and its arguments read as they did. No conditions. -/
import Derived.Carry
import Derived.Test.YtlfllehomhcbfaaDmN
namespace Go.Proofs.Ytlfllehomhcbfaa
open Go.ChangeShapes Go.WideShapes Go.ChangeAt Go.RowKit

set_option maxRecDepth 100000 in
theorem domainSums_lifted (os : Os) (started : os.Started) (H : Type) (enc : TypeId × Value → H) :
    ReturnsInHanded {} Try.checked os 13 .any (Rows.domainSumsSpec.pre6 enc Try.prog Try.f13 Rows.domainSumsRow.domain false) (Rows.domainSumsSpec.post enc Try.prog Try.f13 false true false false) :=
  law_lifted (C := Try.checked) ownKnob_try (by kernel_rfl) Try.func13 laid_try (by kernel_rfl) rfl Try.underlying4 rfl (fun ds h => by
      match ds, h with
      | [d, e, f], _ => rfl) started
    (ChangeSpec.witness6 (enc := enc) (C := Try.checked) false ⟨#[], #[.int .i64 0, .agg #[.int .u64 0, .int .u64 0, .int .u64 0, .int .u64 0], .slice none 0 0], []⟩ 8 (by kernel_rfl) (by kernel_rfl) (by kernel_rfl) (by kernel_rfl))
    fun W base args ds ps hval0 hA => by
      have hval : ∀ (j : Nat) t v, Try.f13.params[j]? = some t → args[j]? = some v → Value.okWide Try.prog W .any base t v := hval0
      clear hval0
      have hA : DataW.TrodAll enc Try.prog W 0 (fun _ => true) true Try.f13.params.toList args.toList ds ps := hA
      rw [Try.params13] at hA hval
      obtain ⟨v0, v1, v2, d0, d1, d2, p0, p1, p2, rfl, rfl, rfl, h0, h1, h2⟩ := trodAll_three hA
      obtain ⟨log, g0, _⟩ := a_int (hval 0 3 v0 rfl rfl)
      obtain ⟨x, g1⟩ := a_fr (hval 1 32 v1 rfl rfl) h1
      obtain ⟨l, g2, _⟩ := a_frs (hval 2 38 v2 rfl rfl) h2
      exact ⟨_, .cons g0 (.cons g1 (.cons g2 .nil)), sums_fnd log x l⟩

theorem domainSums_holds : Rows.DomainSumsSaid :=
  OpenClaim.holds_of_wide 13 Try.f13 rfl rfl rfl rfl rfl rfl rfl ⟨rfl, rfl, rfl, rfl, rfl⟩ rfl rfl rfl rfl rfl (by kernel_rfl) Try.func13 (by kernel_rfl)
    (of_decide_eq_true (by kernel_rfl)) (by unfold Func.isWrapper; first | (rw [if_pos (by decide +kernel)]; kernel_rfl) | (rw [if_neg (by decide +kernel)]; exact ⟨rfl, rfl⟩))
    (fun os started H enc _ => domainSums_lifted os started H enc)

end Go.Proofs.Ytlfllehomhcbfaa
