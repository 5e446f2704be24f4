/- DomainBack: whatever the logarithm, the shift and the values, the law returns true, and its arguments read as they did. No conditions. -/
import Derived.Carry
import Derived.Test.YtlfllehomhcbfaaDmN
namespace Go.Proofs.Ytlfllehomhcbfaa
open Go.ChangeShapes Go.WideShapes Go.ChangeAt Go.RowKit

set_option maxRecDepth 100000 in
theorem domainBack_lifted (os : Os) (started : os.Started) (H : Type) (enc : TypeId × Value → H) :
    ReturnsInHanded {} Try.checked os 12 .any (Rows.domainBackSpec.pre6 enc Try.prog Try.f12 Rows.domainBackRow.domain false) (Rows.domainBackSpec.post enc Try.prog Try.f12 false true false false) :=
  law_lifted (C := Try.checked) ownKnob_try (by kernel_rfl) Try.func12 laid_try (by kernel_rfl) rfl Try.underlying4 rfl (fun ds h => by
      match ds, h with
      | [d, e, f], _ => rfl) started
    (ChangeSpec.witness6 (enc := enc) (C := Try.checked) false ⟨#[], #[.int .i64 0, .agg #[.int .u64 0, .int .u64 0, .int .u64 0, .int .u64 0], .slice none 0 0], []⟩ 8 (by kernel_rfl) (by kernel_rfl) (by kernel_rfl) (by kernel_rfl))
    fun W base args ds ps hval0 hA => by
      have hval : ∀ (j : Nat) t v, Try.f12.params[j]? = some t → args[j]? = some v → Value.okWide Try.prog W .any base t v := hval0
      clear hval0
      have hA : DataW.TrodAll enc Try.prog W 0 (fun _ => true) true Try.f12.params.toList args.toList ds ps := hA
      rw [Try.params12] at hA hval
      obtain ⟨v0, v1, v2, d0, d1, d2, p0, p1, p2, rfl, rfl, rfl, h0, h1, h2⟩ := trodAll_three hA
      obtain ⟨log, g0, _⟩ := a_int (hval 0 3 v0 rfl rfl)
      obtain ⟨s, g1⟩ := a_fr (hval 1 32 v1 rfl rfl) h1
      obtain ⟨l, g2, _⟩ := a_frs (hval 2 38 v2 rfl rfl) h2
      exact ⟨_, .cons g0 (.cons g1 (.cons g2 .nil)), back12_fnd log s l⟩

theorem domainBack_holds : Rows.DomainBackSaid :=
  OpenClaim.holds_of_wide 12 Try.f12 rfl rfl rfl rfl rfl rfl rfl ⟨rfl, rfl, rfl, rfl, rfl⟩ rfl rfl rfl rfl rfl (by kernel_rfl) Try.func12 (by kernel_rfl)
    (of_decide_eq_true (by kernel_rfl)) (by unfold Func.isWrapper; first | (rw [if_pos (by decide +kernel)]; kernel_rfl) | (rw [if_neg (by decide +kernel)]; exact ⟨rfl, rfl⟩))
    (fun os started H enc _ => domainBack_lifted os started H enc)

end Go.Proofs.Ytlfllehomhcbfaa
