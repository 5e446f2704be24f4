/- SumOrder: whatever the points, the numbers and the place, the law returns true, and its arguments read as they did. No conditions. -/
import Derived.Carry
import Derived.Test.YtdaligcdaalnmaaOaM
namespace Go.Proofs.Ytdaligcdaalnmaa
open Go.ChangeShapes Go.WideShapes Go.ChangeAt Go.RowKit

set_option maxRecDepth 100000 in
theorem sumOrder_lifted (os : Os) (started : os.Started) (H : Type) (enc : TypeId × Value → H) :
    ReturnsInHanded {} Try.checked os 3 .any (Rows.sumOrderSpec.pre6 enc Try.prog Try.f3 Rows.sumOrderRow.domain false) (Rows.sumOrderSpec.post enc Try.prog Try.f3 false true false false) :=
  law_lifted (C := Try.checked) ownKnob_try (by kernel_rfl) Try.func3 laid_try (by kernel_rfl) rfl Try.underlying4 rfl (fun ds h => by
      match ds, h with
      | [d, e, f, g, h], _ => rfl) started
    (ChangeSpec.witness6 (enc := enc) (C := Try.checked) false ⟨#[], #[.slice none 0 0, .slice none 0 0, .int .i64 0, .agg #[.int .u64 0, .int .u64 0, .int .u64 0, .int .u64 0], .agg #[.int .u64 0, .int .u64 0, .int .u64 0, .int .u64 0, .int .u64 0, .int .u64 0, .int .u64 0, .int .u64 0, .int .u64 0, .int .u64 0, .int .u64 0, .int .u64 0, .bool false]], []⟩ 8 (by kernel_rfl) (by kernel_rfl) (by kernel_rfl) (by kernel_rfl))
    fun W base args ds ps hval0 hA => by
      have hval : ∀ (j : Nat) t v, Try.f3.params[j]? = some t → args[j]? = some v → Value.okWide Try.prog W .any base t v := hval0
      clear hval0
      have hA : DataW.TrodAll enc Try.prog W 0 (fun _ => true) true Try.f3.params.toList args.toList ds ps := hA
      rw [Try.params3] at hA hval
      obtain ⟨v0, v1, v2, v3, v4, d0, d1, d2, d3, d4, p0, p1, p2, p3, p4, rfl, rfl, rfl, h0, h1, h2, h3, h4⟩ := trodAll_five hA
      obtain ⟨a, g0, _⟩ := a_g1s (hval 0 22 v0 rfl rfl) h0
      obtain ⟨b, g1, _⟩ := a_frs (hval 1 23 v1 rfl rfl) h1
      obtain ⟨c, g2, _⟩ := a_int (hval 2 3 v2 rfl rfl)
      obtain ⟨d, g3⟩ := a_fr (hval 3 26 v3 rfl rfl) h3
      obtain ⟨e, g4⟩ := a_g1 (hval 4 30 v4 rfl rfl) h4
      exact ⟨_, .cons g0 (.cons g1 (.cons g2 (.cons g3 (.cons g4 .nil)))), sumOrder_fnd a b c d e⟩

theorem sumOrder_holds : Rows.SumOrderSaid :=
  OpenClaim.holds_of_wide 3 Try.f3 rfl rfl rfl rfl rfl rfl rfl ⟨rfl, rfl, rfl, rfl, rfl⟩ rfl rfl rfl rfl rfl (by kernel_rfl) Try.func3 (by kernel_rfl)
    (of_decide_eq_true (by kernel_rfl)) (by unfold Func.isWrapper; first | (rw [if_pos (by decide +kernel)]; kernel_rfl) | (rw [if_neg (by decide +kernel)]; exact ⟨rfl, rfl⟩))
    (fun os started H enc _ => sumOrder_lifted os started H enc)

end Go.Proofs.Ytdaligcdaalnmaa
