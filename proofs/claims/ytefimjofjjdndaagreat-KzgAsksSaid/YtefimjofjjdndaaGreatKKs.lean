/- KzgAsks: whatever the opening, the law returns true, and its arguments read as they did. No conditions. -/
import Derived.Carry
import Derived.Test.YtefimjofjjdndaaGreatKsQ
namespace Go.Proofs.YtefimjofjjdndaaGreat
open Go.ChangeShapes Go.WideShapes Go.ChangeAt Go.RowKit

set_option maxRecDepth 100000 in
theorem kzgAsks_lifted (os : Os) (started : os.Started) (H : Type) (enc : TypeId × Value → H) :
    ReturnsInHanded {} Tryz.checked os 5 .any (Rows.kzgAsksSpec.pre6 enc Tryz.prog Tryz.f5 Rows.kzgAsksRow.domain false) (Rows.kzgAsksSpec.post enc Tryz.prog Tryz.f5 false true false false) :=
  D6e (C := Tryz.checked) D3c (by kernel_rfl) Tryz.func5 E8o (by kernel_rfl) rfl Tryz.underlying4 rfl (fun ds h => by
      match ds, h with
      | [d, e], _ => rfl) started
    (ChangeSpec.witness6 (enc := enc) (C := Tryz.checked) false ⟨#[], #[.agg #[.int .u64 0, .int .u64 0, .int .u64 0, .int .u64 0, .int .u64 0, .int .u64 0, .int .u64 0, .int .u64 0, .int .u64 0, .int .u64 0, .int .u64 0, .int .u64 0, .int .u64 0, .int .u64 0, .int .u64 0, .int .u64 0, .int .u64 0, .int .u64 0, .int .u64 0, .int .u64 0, .int .u64 0, .int .u64 0, .int .u64 0, .int .u64 0, .bool false], .agg #[.int .u64 0, .int .u64 0, .int .u64 0, .int .u64 0, .int .u64 0, .int .u64 0, .int .u64 0, .int .u64 0, .int .u64 0, .int .u64 0, .int .u64 0, .int .u64 0, .bool false, .int .u64 0, .int .u64 0, .int .u64 0, .int .u64 0, .int .u64 0, .int .u64 0, .int .u64 0, .int .u64 0, .int .u64 0, .int .u64 0, .int .u64 0, .int .u64 0, .int .u64 0, .int .u64 0, .int .u64 0, .int .u64 0, .int .u64 0, .int .u64 0, .int .u64 0, .int .u64 0, .bool false]], []⟩ 8 (by kernel_rfl) (by kernel_rfl) (by kernel_rfl) (by kernel_rfl))
    fun W base args ds ps hval0 hA => by
      have hval : ∀ (j : Nat) t v, Tryz.f5.params[j]? = some t → args[j]? = some v → Value.okWide Tryz.prog W .any base t v := hval0
      clear hval0
      have hA : DataW.TrodAll enc Tryz.prog W 0 (fun _ => true) true Tryz.f5.params.toList args.toList ds ps := hA
      rw [Tryz.params5] at hA hval
      obtain ⟨v0, v1, d0, d1, p0, p1, rfl, rfl, rfl, h0, h1⟩ := trodAll_two hA
      obtain ⟨a, g0⟩ := H6o (hval 0 30 v0 rfl rfl) h0
      obtain ⟨b, bb, bk, bl, g1⟩ := H6y (hval 1 59 v1 rfl rfl) h1
      exact ⟨_, .cons g0 (.cons g1 .nil), D3l a b bb bk bl⟩

theorem kzgAsks_holds : Rows.KzgAsksSaid :=
  OpenClaim.holds_of_wide 5 Tryz.f5 rfl rfl rfl rfl rfl rfl rfl ⟨rfl, rfl, rfl, rfl, rfl⟩ rfl rfl rfl rfl rfl (by kernel_rfl) Tryz.func5 (by kernel_rfl)
    (of_decide_eq_true (by kernel_rfl)) (by unfold Func.isWrapper; first | (rw [if_pos (by decide +kernel)]; kernel_rfl) | (rw [if_neg (by decide +kernel)]; exact ⟨rfl, rfl⟩))
    (fun os started H enc _ => kzgAsks_lifted os started H enc)

end Go.Proofs.YtefimjofjjdndaaGreat
