/- PairChecks: whatever the numbers, the place and the points, the law returns true, and its arguments read as they did. No conditions. -/
import Derived.Carry
import Derived.Test.YtefimjofjjdndaaGreatPxQ
namespace Go.Proofs.YtefimjofjjdndaaGreat
open Go.ChangeShapes Go.WideShapes Go.ChangeAt Go.RowKit

set_option maxRecDepth 100000 in
theorem pairChecks_lifted (os : Os) (started : os.Started) (H : Type) (enc : TypeId × Value → H) :
    ReturnsInHanded {} Tryz.checked os 4 .any (Rows.pairChecksSpec.pre6 enc Tryz.prog Tryz.f4 Rows.pairChecksRow.domain false) (Rows.pairChecksSpec.post enc Tryz.prog Tryz.f4 false true false false) :=
  D8t (C := Tryz.checked) D5c (by kernel_rfl) Tryz.func4 F3q (by kernel_rfl) rfl Tryz.underlying4 rfl (fun ds h => by
      match ds, h with
      | [d, e, f, g, h], _ => rfl) started
    (ChangeSpec.witness6 (enc := enc) (C := Tryz.checked) false ⟨#[], #[.slice none 0 0, .slice none 0 0, .int .i64 0, .agg #[.int .u64 0, .int .u64 0, .int .u64 0, .int .u64 0, .int .u64 0, .int .u64 0, .int .u64 0, .int .u64 0, .int .u64 0, .int .u64 0, .int .u64 0, .int .u64 0, .bool false], .agg #[.int .u64 0, .int .u64 0, .int .u64 0, .int .u64 0, .int .u64 0, .int .u64 0, .int .u64 0, .int .u64 0, .int .u64 0, .int .u64 0, .int .u64 0, .int .u64 0, .int .u64 0, .int .u64 0, .int .u64 0, .int .u64 0, .int .u64 0, .int .u64 0, .int .u64 0, .int .u64 0, .int .u64 0, .int .u64 0, .int .u64 0, .int .u64 0, .bool false]], []⟩ 8 (by kernel_rfl) (by kernel_rfl) (by kernel_rfl) (by kernel_rfl))
    fun W base args ds ps hval0 hA => by
      have hval : ∀ (j : Nat) t v, Tryz.f4.params[j]? = some t → args[j]? = some v → Value.okWide Tryz.prog W .any base t v := hval0
      clear hval0
      have hA : DataW.TrodAll enc Tryz.prog W 0 (fun _ => true) true Tryz.f4.params.toList args.toList ds ps := hA
      rw [Tryz.params4] at hA hval
      obtain ⟨v0, v1, v2, v3, v4, d0, d1, d2, d3, d4, p0, p1, p2, p3, p4, rfl, rfl, rfl, h0, h1, h2, h3, h4⟩ := D1d hA
      obtain ⟨a, g0, _⟩ := G7a (hval 0 49 v0 rfl rfl) h0
      obtain ⟨b, g1, _⟩ := G7a (hval 1 49 v1 rfl rfl) h1
      obtain ⟨c, g2, _⟩ := H6n (hval 2 3 v2 rfl rfl)
      obtain ⟨d, g3⟩ := I0h (hval 3 26 v3 rfl rfl) h3
      obtain ⟨e, g4⟩ := I0i (hval 4 30 v4 rfl rfl) h4
      exact ⟨_, .cons g0 (.cons g1 (.cons g2 (.cons g3 (.cons g4 .nil)))), C2b a b c d e⟩

theorem pairChecks_holds : Rows.PairChecksSaid :=
  OpenClaim.holds_of_wide 4 Tryz.f4 rfl rfl rfl rfl rfl rfl rfl ⟨rfl, rfl, rfl, rfl, rfl⟩ rfl rfl rfl rfl rfl (by kernel_rfl) Tryz.func4 (by kernel_rfl)
    (of_decide_eq_true (by kernel_rfl)) (by unfold Func.isWrapper; first | (rw [if_pos (by decide +kernel)]; kernel_rfl) | (rw [if_neg (by decide +kernel)]; exact ⟨rfl, rfl⟩))
    (fun os started H enc _ => pairChecks_lifted os started H enc)

end Go.Proofs.YtefimjofjjdndaaGreat
