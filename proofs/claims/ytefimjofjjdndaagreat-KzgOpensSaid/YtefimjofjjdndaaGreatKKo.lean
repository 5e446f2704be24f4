/- KzgOpens: whatever the key, the polynomial and the places, the law returns true, and its arguments read as they did. No conditions. -/
import Derived.Carry
import Derived.Test.YtefimjofjjdndaaGreatKoR
namespace Go.Proofs.YtefimjofjjdndaaGreat
open Go.ChangeShapes Go.WideShapes Go.ChangeAt Go.RowKit

set_option maxRecDepth 100000 in
theorem kzgOpens_lifted (os : Os) (started : os.Started) (H : Type) (enc : TypeId × Value → H) :
    ReturnsInHanded {} Tryz.checked os 7 .any (Rows.kzgOpensSpec.pre6 enc Tryz.prog Tryz.f7 Rows.kzgOpensRow.domain false) (Rows.kzgOpensSpec.post enc Tryz.prog Tryz.f7 false true false false) :=
  E1g (C := Tryz.checked) D7j (by kernel_rfl) Tryz.func7 F7h (by kernel_rfl) rfl Tryz.underlying4 rfl (fun ds h => by
      match ds, h with
      | [d, e, f, g, h], _ => rfl) started
    (ChangeSpec.witness6 (enc := enc) (C := Tryz.checked) false ⟨#[], #[.agg #[.int .u64 0, .int .u64 0, .int .u64 0, .int .u64 0], .int .i64 0, .slice none 0 0, .agg #[.int .u64 0, .int .u64 0, .int .u64 0, .int .u64 0], .agg #[.int .u64 0, .int .u64 0, .int .u64 0, .int .u64 0]], []⟩ 8 (by kernel_rfl) (by kernel_rfl) (by kernel_rfl) (by kernel_rfl))
    fun W base args ds ps hval0 hA => by
      have hval : ∀ (j : Nat) t v, Tryz.f7.params[j]? = some t → args[j]? = some v → Value.okWide Tryz.prog W .any base t v := hval0
      clear hval0
      have hA : DataW.TrodAll enc Tryz.prog W 0 (fun _ => true) true Tryz.f7.params.toList args.toList ds ps := hA
      rw [Tryz.params7] at hA hval
      obtain ⟨v0, v1, v2, v3, v4, d0, d1, d2, d3, d4, p0, p1, p2, p3, p4, rfl, rfl, rfl, h0, h1, h2, h3, h4⟩ := D3i hA
      obtain ⟨a, g0⟩ := H4e (hval 0 32 v0 rfl rfl) h0
      obtain ⟨b, g1, _⟩ := I3q (hval 1 3 v1 rfl rfl)
      obtain ⟨c, g2, _⟩ := I3p (hval 2 49 v2 rfl rfl) h2
      obtain ⟨d, g3⟩ := H4e (hval 3 32 v3 rfl rfl) h3
      obtain ⟨e, g4⟩ := H4e (hval 4 32 v4 rfl rfl) h4
      exact ⟨_, .cons g0 (.cons g1 (.cons g2 (.cons g3 (.cons g4 .nil)))), D0q a b c d e⟩

theorem kzgOpens_holds : Rows.KzgOpensSaid :=
  OpenClaim.holds_of_wide 7 Tryz.f7 rfl rfl rfl rfl rfl rfl rfl ⟨rfl, rfl, rfl, rfl, rfl⟩ rfl rfl rfl rfl rfl (by kernel_rfl) Tryz.func7 (by kernel_rfl)
    (of_decide_eq_true (by kernel_rfl)) (by unfold Func.isWrapper; first | (rw [if_pos (by decide +kernel)]; kernel_rfl) | (rw [if_neg (by decide +kernel)]; exact ⟨rfl, rfl⟩))
    (fun os started H enc _ => kzgOpens_lifted os started H enc)

end Go.Proofs.YtefimjofjjdndaaGreat
