/- PolyDivides: whatever the polynomial and the numbers, the law returns true, and its arguments read as they did. No conditions. -/
import Derived.Test.YtlfllehomhcbfaaDvK
namespace Go.Proofs.Ytlfllehomhcbfaa
open Go.ChangeShapes Go.WideShapes Go.ChangeAt Go.RowKit

theorem divides_fnd (a : List U4) (z : U4) (n : Int) : FnD Try.prog 5 [.v (.c (.sl (.fr a))), .v (.a [.ob (.fr z)]), .v (.c (.int .i64 n))] (.v (.c (.bool true))) [] := by
  by_cases h1 : n < 1
  · exact divA_fnd a z n h1
  by_cases h2 : n > 262144
  · exact divB_fnd a z n h2
  obtain ⟨m, rfl⟩ := Int.eq_ofNat_of_zero_le (show 0 ≤ n by omega)
  by_cases h3 : 60 < m
  · exact divC_fnd a z m h3 (by omega)
  · exact divD_fnd a z m (by omega) (by omega)

set_option maxRecDepth 100000 in
theorem polyDivides_lifted (os : Os) (started : os.Started) (H : Type) (enc : TypeId × Value → H) :
    ReturnsInHanded {} Try.checked os 5 .any (Rows.polyDividesSpec.pre6 enc Try.prog Try.f5 Rows.polyDividesRow.domain false) (Rows.polyDividesSpec.post enc Try.prog Try.f5 false true false false) :=
  law_lifted (C := Try.checked) ownKnob_try (by kernel_rfl) Try.func5 laid_try (by kernel_rfl) rfl Try.underlying4 rfl (fun ds h => by
      match ds, h with
      | [d, e, f], _ => rfl) started
    (ChangeSpec.witness6 (enc := enc) (C := Try.checked) false ⟨#[], #[.slice none 0 0, .agg #[.int .u64 0, .int .u64 0, .int .u64 0, .int .u64 0], .int .i64 0], []⟩ 8 (by kernel_rfl) (by kernel_rfl) (by kernel_rfl) (by kernel_rfl))
    fun W base args ds ps hval0 hA => by
      have hval : ∀ (j : Nat) t v, Try.f5.params[j]? = some t → args[j]? = some v → Value.okWide Try.prog W .any base t v := hval0
      clear hval0
      have hA : DataW.TrodAll enc Try.prog W 0 (fun _ => true) true Try.f5.params.toList args.toList ds ps := hA
      rw [Try.params5] at hA hval
      obtain ⟨v0, v1, v2, d0, d1, d2, p0, p1, p2, rfl, rfl, rfl, h0, h1, h2⟩ := trodAll_three hA
      obtain ⟨a, g0, _⟩ := a_frs (hval 0 38 v0 rfl rfl) h0
      obtain ⟨z, g1⟩ := a_fr (hval 1 32 v1 rfl rfl) h1
      obtain ⟨n, g2, _⟩ := a_int (hval 2 3 v2 rfl rfl)
      exact ⟨_, .cons g0 (.cons g1 (.cons g2 .nil)), divides_fnd a z n⟩

theorem polyDivides_holds : Rows.PolyDividesSaid :=
  OpenClaim.holds_of_wide 5 Try.f5 rfl rfl rfl rfl rfl rfl rfl ⟨rfl, rfl, rfl, rfl, rfl⟩ rfl rfl rfl rfl rfl (by kernel_rfl) Try.func5 (by kernel_rfl)
    (of_decide_eq_true (by kernel_rfl)) (by unfold Func.isWrapper; first | (rw [if_pos (by decide +kernel)]; kernel_rfl) | (rw [if_neg (by decide +kernel)]; exact ⟨rfl, rfl⟩))
    (fun os started H enc _ => polyDivides_lifted os started H enc)

end Go.Proofs.Ytlfllehomhcbfaa
