/- SumPowers: whatever the point and the numbers, the law returns true, and its arguments read as they did. No conditions. -/
import Derived.Carry
import Derived.Test.YtkfcphigoncgjaaSpO
namespace Go.Proofs.Ytkfcphigoncgjaa
open Go.ChangeShapes Go.WideShapes Go.ChangeAt Go.RowKit

set_option maxRecDepth 100000 in
theorem sumPowers_lifted (os : Os) (started : os.Started) (H : Type) (enc : TypeId × Value → H) :
    ReturnsInHanded {} Try.checked os 17 .any (Rows.sumPowersSpec.pre6 enc Try.prog Try.f17 Rows.sumPowersRow.domain false) (Rows.sumPowersSpec.post enc Try.prog Try.f17 false true false false) :=
  law_lifted (C := Try.checked) ownKnob_try (by kernel_rfl) Try.func17 laid_try (by kernel_rfl) rfl Try.underlying4 rfl (fun ds h => by
      match ds, h with
      | [d, e, f], _ => rfl) started
    (ChangeSpec.witness6 (enc := enc) (C := Try.checked) false ⟨#[], #[.agg #[.int .u64 0, .int .u64 0, .int .u64 0, .int .u64 0, .int .u64 0, .int .u64 0, .int .u64 0, .int .u64 0, .int .u64 0, .int .u64 0, .int .u64 0, .int .u64 0, .bool false], .agg #[.int .u64 0, .int .u64 0, .int .u64 0, .int .u64 0], .int .i64 0], []⟩ 8 (by kernel_rfl) (by kernel_rfl) (by kernel_rfl) (by kernel_rfl))
    fun W base args ds ps hval0 hA => by
      have hval : ∀ (j : Nat) t v, Try.f17.params[j]? = some t → args[j]? = some v → Value.okWide Try.prog W .any base t v := hval0
      clear hval0
      have hA : DataW.TrodAll enc Try.prog W 0 (fun _ => true) true Try.f17.params.toList args.toList ds ps := hA
      rw [Try.params17] at hA hval
      obtain ⟨v0, v1, v2, d0, d1, d2, p0, p1, p2, rfl, rfl, rfl, h0, h1, h2⟩ := trodAll_three hA
      obtain ⟨a, g0⟩ := a_g1 (hval 0 26 v0 rfl rfl) h0
      obtain ⟨b, g1⟩ := a_fr (hval 1 54 v1 rfl rfl) h1
      obtain ⟨c, g2, _⟩ := a_int (hval 2 3 v2 rfl rfl)
      exact ⟨_, .cons g0 (.cons g1 (.cons g2 .nil)), sumPowers_fnd a b c⟩

theorem sumPowers_holds : Rows.SumPowersSaid :=
  OpenClaim.holds_of_wide 17 Try.f17 rfl rfl rfl rfl rfl rfl rfl ⟨rfl, rfl, rfl, rfl, rfl⟩ rfl rfl rfl rfl rfl (by kernel_rfl) Try.func17 (by kernel_rfl)
    (of_decide_eq_true (by kernel_rfl)) (by unfold Func.isWrapper; first | (rw [if_pos (by decide +kernel)]; kernel_rfl) | (rw [if_neg (by decide +kernel)]; exact ⟨rfl, rfl⟩))
    (fun os started H enc _ => sumPowers_lifted os started H enc)

end Go.Proofs.Ytkfcphigoncgjaa
