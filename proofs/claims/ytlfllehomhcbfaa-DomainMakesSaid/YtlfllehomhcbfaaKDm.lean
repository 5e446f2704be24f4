/- DomainMakes: whatever the number and the domain, the law returns true, and its arguments read as they did. No conditions. -/
import Derived.Test.YtlfllehomhcbfaaDmK
namespace Go.Proofs.Ytlfllehomhcbfaa
open Go.ChangeShapes Go.WideShapes Go.ChangeAt Go.RowKit

set_option maxRecDepth 100000 in
theorem domainMakes_lifted (os : Os) (started : os.Started) (H : Type) (enc : TypeId × Value → H) :
    ReturnsInHanded {} Try.checked os 4 .any (Rows.domainMakesSpec.pre6 enc Try.prog Try.f4 Rows.domainMakesRow.domain false) (Rows.domainMakesSpec.post enc Try.prog Try.f4 false true false false) :=
  law_lifted (C := Try.checked) ownKnob_try (by kernel_rfl) Try.func4 laid_try (by kernel_rfl) rfl Try.underlying4 rfl (fun ds h => by
      match ds, h with
      | [d, e], _ => rfl) started
    (ChangeSpec.witness6 (enc := enc) (C := Try.checked) false ⟨#[], #[.int .i64 0, .agg #[.int .i64 0, .int .u64 0, .int .u64 0, .int .u64 0, .int .u64 0]], []⟩ 8 (by kernel_rfl) (by kernel_rfl) (by kernel_rfl) (by kernel_rfl))
    fun W base args ds ps hval0 hA => by
      have hval : ∀ (j : Nat) t v, Try.f4.params[j]? = some t → args[j]? = some v → Value.okWide Try.prog W .any base t v := hval0
      clear hval0
      have hA : DataW.TrodAll enc Try.prog W 0 (fun _ => true) true Try.f4.params.toList args.toList ds ps := hA
      rw [Try.params4] at hA hval
      obtain ⟨v0, v1, d0, d1, p0, p1, rfl, rfl, rfl, h0, h1⟩ := trodAll_two hA
      obtain ⟨log, g0, _⟩ := a_int (hval 0 3 v0 rfl rfl)
      obtain ⟨dl, dw, g1⟩ := a_dom (hval 1 34 v1 rfl rfl) h1
      exact ⟨_, .cons g0 (.cons g1 .nil), makes_fnd log dl dw⟩

theorem domainMakes_holds : Rows.DomainMakesSaid :=
  OpenClaim.holds_of_wide 4 Try.f4 rfl rfl rfl rfl rfl rfl rfl ⟨rfl, rfl, rfl, rfl, rfl⟩ rfl rfl rfl rfl rfl (by kernel_rfl) Try.func4 (by kernel_rfl)
    (of_decide_eq_true (by kernel_rfl)) (by unfold Func.isWrapper; first | (rw [if_pos (by decide +kernel)]; kernel_rfl) | (rw [if_neg (by decide +kernel)]; exact ⟨rfl, rfl⟩))
    (fun os started H enc _ => domainMakes_lifted os started H enc)

end Go.Proofs.Ytlfllehomhcbfaa
