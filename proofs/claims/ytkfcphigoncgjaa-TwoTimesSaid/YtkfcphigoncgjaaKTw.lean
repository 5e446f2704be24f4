/- TwoTimes: whatever the point and the numbers, the law returns true, and its arguments read as they did. No conditions. -/
import Derived.Carry
import Derived.Test.YtkfcphigoncgjaaTwN
namespace Go.Proofs.Ytkfcphigoncgjaa
open Go.ChangeShapes Go.WideShapes Go.ChangeAt Go.RowKit

set_option maxRecDepth 100000 in
theorem twoTimes_lifted (os : Os) (started : os.Started) (H : Type) (enc : TypeId × Value → H) :
    ReturnsInHanded {} Try.checked os 8 .any (Rows.twoTimesSpec.pre6 enc Try.prog Try.f8 Rows.twoTimesRow.domain false) (Rows.twoTimesSpec.post enc Try.prog Try.f8 false true false false) :=
  law_lifted (C := Try.checked) ownKnob_try (by kernel_rfl) Try.func8 laid_try (by kernel_rfl) rfl Try.underlying4 rfl (fun ds h => by
      match ds, h with
      | [d, e, f, g], _ => rfl) started
    (ChangeSpec.witness6 (enc := enc) (C := Try.checked) false ⟨#[], #[.agg #[.int .u64 0, .int .u64 0, .int .u64 0, .int .u64 0, .int .u64 0, .int .u64 0, .int .u64 0, .int .u64 0, .int .u64 0, .int .u64 0, .int .u64 0, .int .u64 0, .int .u64 0, .int .u64 0, .int .u64 0, .int .u64 0, .int .u64 0, .int .u64 0, .int .u64 0, .int .u64 0, .int .u64 0, .int .u64 0, .int .u64 0, .int .u64 0, .bool false], .int .i64 0, .int .u32 0, .int .u32 0], []⟩ 8 (by kernel_rfl) (by kernel_rfl) (by kernel_rfl) (by kernel_rfl))
    fun W base args ds ps hval0 hA => by
      have hval : ∀ (j : Nat) t v, Try.f8.params[j]? = some t → args[j]? = some v → Value.okWide Try.prog W .any base t v := hval0
      clear hval0
      have hA : DataW.TrodAll enc Try.prog W 0 (fun _ => true) true Try.f8.params.toList args.toList ds ps := hA
      rw [Try.params8] at hA hval
      obtain ⟨v0, v1, v2, v3, d0, d1, d2, d3, p0, p1, p2, p3, rfl, rfl, rfl, h0, h1, h2, h3⟩ := trodAll_four hA
      obtain ⟨a, g0⟩ := a_g2 (hval 0 41 v0 rfl rfl) h0
      obtain ⟨b, g1, _⟩ := a_int (hval 1 3 v1 rfl rfl)
      obtain ⟨c, g2, cl, cu⟩ := a_u32 (hval 2 51 v2 rfl rfl)
      obtain ⟨d, g3, dl, du⟩ := a_u32 (hval 3 51 v3 rfl rfl)
      exact ⟨_, .cons g0 (.cons g1 (.cons g2 (.cons g3 .nil))), twoTimes_fnd a b c d cl cu dl du⟩

theorem twoTimes_holds : Rows.TwoTimesSaid :=
  OpenClaim.holds_of_wide 8 Try.f8 rfl rfl rfl rfl rfl rfl rfl ⟨rfl, rfl, rfl, rfl, rfl⟩ rfl rfl rfl rfl rfl (by kernel_rfl) Try.func8 (by kernel_rfl)
    (of_decide_eq_true (by kernel_rfl)) (by unfold Func.isWrapper; first | (rw [if_pos (by decide +kernel)]; kernel_rfl) | (rw [if_neg (by decide +kernel)]; exact ⟨rfl, rfl⟩))
    (fun os started H enc _ => twoTimes_lifted os started H enc)

end Go.Proofs.Ytkfcphigoncgjaa
