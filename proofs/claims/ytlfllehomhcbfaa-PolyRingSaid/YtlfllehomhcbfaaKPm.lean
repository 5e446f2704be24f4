/- PolyRing: whatever the polynomials, the law returns true, and its arguments read as they did. No conditions. -/
import Derived.Carry
import Derived.Test.YtlfllehomhcbfaaPmO
namespace Go.Proofs.Ytlfllehomhcbfaa
open Go.ChangeShapes Go.WideShapes Go.ChangeAt Go.RowKit

set_option maxRecDepth 100000 in
theorem polyRing_lifted (os : Os) (started : os.Started) (H : Type) (enc : TypeId × Value → H) :
    ReturnsInHanded {} Try.checked os 15 .any (Rows.polyRingSpec.pre6 enc Try.prog Try.f15 Rows.polyRingRow.domain false) (Rows.polyRingSpec.post enc Try.prog Try.f15 false true false false) :=
  law_lifted (C := Try.checked) ownKnob_try (by kernel_rfl) Try.func15 laid_try (by kernel_rfl) rfl Try.underlying4 rfl (fun ds h => by
      match ds, h with
      | [d, e, f], _ => rfl) started
    (ChangeSpec.witness6 (enc := enc) (C := Try.checked) false ⟨#[], #[.slice none 0 0, .slice none 0 0, .slice none 0 0], []⟩ 8 (by kernel_rfl) (by kernel_rfl) (by kernel_rfl) (by kernel_rfl))
    fun W base args ds ps hval0 hA => by
      have hval : ∀ (j : Nat) t v, Try.f15.params[j]? = some t → args[j]? = some v → Value.okWide Try.prog W .any base t v := hval0
      clear hval0
      have hA : DataW.TrodAll enc Try.prog W 0 (fun _ => true) true Try.f15.params.toList args.toList ds ps := hA
      rw [Try.params15] at hA hval
      obtain ⟨v0, v1, v2, d0, d1, d2, p0, p1, p2, rfl, rfl, rfl, h0, h1, h2⟩ := trodAll_three hA
      obtain ⟨a, g0, _⟩ := a_frs (hval 0 38 v0 rfl rfl) h0
      obtain ⟨b, g1, _⟩ := a_frs (hval 1 38 v1 rfl rfl) h1
      obtain ⟨c, g2, _⟩ := a_frs (hval 2 38 v2 rfl rfl) h2
      exact ⟨_, .cons g0 (.cons g1 (.cons g2 .nil)), ring_fnd a b c⟩

theorem polyRing_holds : Rows.PolyRingSaid :=
  OpenClaim.holds_of_wide 15 Try.f15 rfl rfl rfl rfl rfl rfl rfl ⟨rfl, rfl, rfl, rfl, rfl⟩ rfl rfl rfl rfl rfl (by kernel_rfl) Try.func15 (by kernel_rfl)
    (of_decide_eq_true (by kernel_rfl)) (by unfold Func.isWrapper; first | (rw [if_pos (by decide +kernel)]; kernel_rfl) | (rw [if_neg (by decide +kernel)]; exact ⟨rfl, rfl⟩))
    (fun os started H enc _ => polyRing_lifted os started H enc)

end Go.Proofs.Ytlfllehomhcbfaa
