/- PairMultiplies: whatever the points and numbers, the law returns true, and its arguments read as they did. No conditions. -/
import Derived.Carry
import Derived.Test.YtefimjofjjdndaaGreatPmQ
namespace Go.Proofs.YtefimjofjjdndaaGreat
open Go.ChangeShapes Go.WideShapes Go.ChangeAt Go.RowKit

set_option maxRecDepth 100000 in
theorem pairMultiplies_lifted (os : Os) (started : os.Started) (H : Type) (enc : TypeId × Value → H) :
    ReturnsInHanded {} Tryz.checked os 3 .any (Rows.pairMultipliesSpec.pre6 enc Tryz.prog Tryz.f3 Rows.pairMultipliesRow.domain false) (Rows.pairMultipliesSpec.post enc Tryz.prog Tryz.f3 false true false false) :=
  law_lifted (C := Tryz.checked) ownKnob_try (by kernel_rfl) Tryz.func3 laid_try (by kernel_rfl) rfl Tryz.underlying4 rfl (fun ds h => by
      match ds, h with
      | [d, e, f, g], _ => rfl) started
    (ChangeSpec.witness6 (enc := enc) (C := Tryz.checked) false ⟨#[], #[.agg #[.int .u64 0, .int .u64 0, .int .u64 0, .int .u64 0, .int .u64 0, .int .u64 0, .int .u64 0, .int .u64 0, .int .u64 0, .int .u64 0, .int .u64 0, .int .u64 0, .bool false], .agg #[.int .u64 0, .int .u64 0, .int .u64 0, .int .u64 0, .int .u64 0, .int .u64 0, .int .u64 0, .int .u64 0, .int .u64 0, .int .u64 0, .int .u64 0, .int .u64 0, .int .u64 0, .int .u64 0, .int .u64 0, .int .u64 0, .int .u64 0, .int .u64 0, .int .u64 0, .int .u64 0, .int .u64 0, .int .u64 0, .int .u64 0, .int .u64 0, .bool false], .agg #[.int .u64 0, .int .u64 0, .int .u64 0, .int .u64 0], .agg #[.int .u64 0, .int .u64 0, .int .u64 0, .int .u64 0]], []⟩ 8 (by kernel_rfl) (by kernel_rfl) (by kernel_rfl) (by kernel_rfl))
    fun W base args ds ps hval0 hA => by
      have hval : ∀ (j : Nat) t v, Tryz.f3.params[j]? = some t → args[j]? = some v → Value.okWide Tryz.prog W .any base t v := hval0
      clear hval0
      have hA : DataW.TrodAll enc Tryz.prog W 0 (fun _ => true) true Tryz.f3.params.toList args.toList ds ps := hA
      rw [Tryz.params3] at hA hval
      obtain ⟨v0, v1, v2, v3, d0, d1, d2, d3, p0, p1, p2, p3, rfl, rfl, rfl, h0, h1, h2, h3⟩ := trodAll_four hA
      obtain ⟨a, g0⟩ := a_g1 (hval 0 26 v0 rfl rfl) h0
      obtain ⟨b, g1⟩ := a_g2 (hval 1 30 v1 rfl rfl) h1
      obtain ⟨c, g2⟩ := a_fr (hval 2 32 v2 rfl rfl) h2
      obtain ⟨d, g3⟩ := a_fr (hval 3 32 v3 rfl rfl) h3
      exact ⟨_, .cons g0 (.cons g1 (.cons g2 (.cons g3 .nil))), mults_fnd a b c d⟩

theorem pairMultiplies_holds : Rows.PairMultipliesSaid :=
  OpenClaim.holds_of_wide 3 Tryz.f3 rfl rfl rfl rfl rfl rfl rfl ⟨rfl, rfl, rfl, rfl, rfl⟩ rfl rfl rfl rfl rfl (by kernel_rfl) Tryz.func3 (by kernel_rfl)
    (of_decide_eq_true (by kernel_rfl)) (by unfold Func.isWrapper; first | (rw [if_pos (by decide +kernel)]; kernel_rfl) | (rw [if_neg (by decide +kernel)]; exact ⟨rfl, rfl⟩))
    (fun os started H enc _ => pairMultiplies_lifted os started H enc)

end Go.Proofs.YtefimjofjjdndaaGreat
