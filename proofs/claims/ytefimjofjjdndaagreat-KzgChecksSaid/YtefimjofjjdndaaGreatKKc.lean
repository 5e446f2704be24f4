/- KzgChecks: whatever the numbers, the law returns true, and its arguments read as they did. No conditions. -/
import Derived.Carry
import Derived.Test.YtefimjofjjdndaaGreatKcS
namespace Go.Proofs.YtefimjofjjdndaaGreat
open Go.ChangeShapes Go.WideShapes Go.ChangeAt Go.RowKit

set_option maxRecDepth 100000 in
theorem kzgChecks_lifted (os : Os) (started : os.Started) (H : Type) (enc : TypeId × Value → H) :
    ReturnsInHanded {} Tryz.checked os 6 .any (Rows.kzgChecksSpec.pre6 enc Tryz.prog Tryz.f6 Rows.kzgChecksRow.domain false) (Rows.kzgChecksSpec.post enc Tryz.prog Tryz.f6 false true false false) :=
  D9y (C := Tryz.checked) D6g (by kernel_rfl) Tryz.func6 F5g (by kernel_rfl) rfl Tryz.underlying4 rfl (fun ds h => by
      match ds, h with
      | [d, e, f, g, h, i], _ => rfl) started
    (ChangeSpec.witness6 (enc := enc) (C := Tryz.checked) false ⟨#[], #[.agg #[.int .u64 0, .int .u64 0, .int .u64 0, .int .u64 0], .agg #[.int .u64 0, .int .u64 0, .int .u64 0, .int .u64 0], .agg #[.int .u64 0, .int .u64 0, .int .u64 0, .int .u64 0], .agg #[.int .u64 0, .int .u64 0, .int .u64 0, .int .u64 0], .agg #[.int .u64 0, .int .u64 0, .int .u64 0, .int .u64 0], .bool false], []⟩ 8 (by kernel_rfl) (by kernel_rfl) (by kernel_rfl) (by kernel_rfl))
    fun W base args ds ps hval0 hA => by
      have hval : ∀ (j : Nat) t v, Tryz.f6.params[j]? = some t → args[j]? = some v → Value.okWide Tryz.prog W .any base t v := hval0
      clear hval0
      have hA : DataW.TrodAll enc Tryz.prog W 0 (fun _ => true) true Tryz.f6.params.toList args.toList ds ps := hA
      rw [Tryz.params6] at hA hval
      obtain ⟨v0, v1, v2, v3, v4, v5, d0, d1, d2, d3, d4, d5, p0, p1, p2, p3, p4, p5, rfl, rfl, rfl, h0, h1, h2, h3, h4, h5⟩ := D7k hA
      obtain ⟨a, g0⟩ := F0e (hval 0 32 v0 rfl rfl) h0
      obtain ⟨b, g1⟩ := F0e (hval 1 32 v1 rfl rfl) h1
      obtain ⟨c, g2⟩ := F0e (hval 2 32 v2 rfl rfl) h2
      obtain ⟨d, g3⟩ := F0e (hval 3 32 v3 rfl rfl) h3
      obtain ⟨e, g4⟩ := F0e (hval 4 32 v4 rfl rfl) h4
      obtain ⟨f, g5⟩ := H0u (hval 5 4 v5 rfl rfl)
      exact ⟨_, .cons g0 (.cons g1 (.cons g2 (.cons g3 (.cons g4 (.cons g5 .nil))))), C4e a b c d e f⟩

theorem kzgChecks_holds : Rows.KzgChecksSaid :=
  OpenClaim.holds_of_wide 6 Tryz.f6 rfl rfl rfl rfl rfl rfl rfl ⟨rfl, rfl, rfl, rfl, rfl⟩ rfl rfl rfl rfl rfl (by kernel_rfl) Tryz.func6 (by kernel_rfl)
    (of_decide_eq_true (by kernel_rfl)) (by unfold Func.isWrapper; first | (rw [if_pos (by decide +kernel)]; kernel_rfl) | (rw [if_neg (by decide +kernel)]; exact ⟨rfl, rfl⟩))
    (fun os started H enc _ => kzgChecks_lifted os started H enc)

end Go.Proofs.YtefimjofjjdndaaGreat
