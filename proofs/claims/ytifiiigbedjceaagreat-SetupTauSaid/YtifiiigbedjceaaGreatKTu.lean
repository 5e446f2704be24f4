/- SetupTau: whatever the circuit and the number, the law returns true, and its arguments read as they did. No conditions. -/
import Derived.Carry
import Derived.Test.YtifiiigbedjceaaGreatTuT
namespace Go.Proofs.YtifiiigbedjceaaGreat
open Go.ChangeShapes Go.WideShapes Go.ChangeAt Go.RowKit

set_option maxRecDepth 100000 in
theorem setupTau_lifted (os : Os) (started : os.Started) (H : Type) (enc : TypeId × Value → H) :
    ReturnsInHanded {} Tryz.checked os 3 .any (Rows.setupTauSpec.pre6 enc Tryz.prog Tryz.f3 Rows.setupTauRow.domain false) (Rows.setupTauSpec.post enc Tryz.prog Tryz.f3 false true false false) :=
  ZY (C := Tryz.checked) Yl (by kernel_rfl) Tryz.func3 B5a (by kernel_rfl) rfl Tryz.underlying4 rfl (fun ds h => by
      match ds, h with
      | [d, e], _ => rfl) started
    (ChangeSpec.witness6 (enc := enc) (C := Tryz.checked) false ⟨#[], #[.agg #[.slice none 0 0, .int .i64 0, .int .i64 0], .agg #[.int .u64 0, .int .u64 0, .int .u64 0, .int .u64 0]], []⟩ 8 (by kernel_rfl) (by kernel_rfl) (by kernel_rfl) (by kernel_rfl))
    fun W base args ds ps hval0 hA => by
      have hval : ∀ (j : Nat) t v, Tryz.f3.params[j]? = some t → args[j]? = some v → Value.okWide Tryz.prog W .any base t v := hval0
      clear hval0
      have hA : DataW.TrodAll enc Tryz.prog W 0 (fun _ => true) true Tryz.f3.params.toList args.toList ds ps := hA
      rw [Tryz.params3] at hA hval
      obtain ⟨v0, v1, d0, d1, p0, p1, rfl, rfl, rfl, h0, h1⟩ := trodAll_two hA
      obtain ⟨its0, g0, al, ap, av, rfl⟩ := A2x (D5l 0) (.inl ⟨_, Tryz.underlying24⟩) (hval 0 24 v0 rfl rfl) h0
      obtain ⟨its1, g1, k, rfl⟩ := A2x (A9t 0) (.inr ⟨_, _, Tryz.underlying27⟩) (hval 1 27 v1 rfl rfl) h1
      exact ⟨_, .cons g0 (.cons g1 .nil), Wm al ap av k⟩

theorem setupTau_holds : Rows.SetupTauSaid :=
  OpenClaim.holds_of_wide 3 Tryz.f3 rfl rfl rfl rfl rfl rfl rfl ⟨rfl, rfl, rfl, rfl, rfl⟩ rfl rfl rfl rfl rfl (by kernel_rfl) Tryz.func3 (by kernel_rfl)
    (of_decide_eq_true (by kernel_rfl)) (by unfold Func.isWrapper; first | (rw [if_pos (by decide +kernel)]; kernel_rfl) | (rw [if_neg (by decide +kernel)]; exact ⟨rfl, rfl⟩))
    (fun os started H enc _ => setupTau_lifted os started H enc)

end Go.Proofs.YtifiiigbedjceaaGreat
