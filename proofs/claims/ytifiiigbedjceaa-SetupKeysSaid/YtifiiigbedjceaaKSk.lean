/- SetupKeys: whatever the circuit and the key, the law returns true, and its arguments read as they did. No conditions. -/
import Derived.Carry
import Derived.Test.YtifiiigbedjceaaSkS
namespace Go.Proofs.Ytifiiigbedjceaa
open Go.ChangeShapes Go.WideShapes Go.ChangeAt Go.RowKit

set_option maxRecDepth 100000 in
theorem setupKeys_lifted (os : Os) (started : os.Started) (H : Type) (enc : TypeId × Value → H) :
    ReturnsInHanded {} Try.checked os 3 .any (Rows.setupKeysSpec.pre6 enc Try.prog Try.f3 Rows.setupKeysRow.domain false) (Rows.setupKeysSpec.post enc Try.prog Try.f3 false true false false) :=
  D3x (C := Try.checked) D0r (by kernel_rfl) Try.func3 E6a (by kernel_rfl) rfl Try.underlying4 rfl (fun ds h => by
      match ds, h with
      | [d, e], _ => rfl) started
    (ChangeSpec.witness6 (enc := enc) (C := Try.checked) false ⟨#[], #[.agg #[.slice none 0 0, .int .i64 0, .int .i64 0], .agg #[.slice none 0 0, .int .u64 0, .int .u64 0, .int .u64 0, .int .u64 0, .int .u64 0, .int .u64 0, .int .u64 0, .int .u64 0, .int .u64 0, .int .u64 0, .int .u64 0, .int .u64 0, .int .u64 0, .int .u64 0, .int .u64 0, .int .u64 0, .int .u64 0, .int .u64 0, .int .u64 0, .int .u64 0, .int .u64 0, .int .u64 0, .int .u64 0, .int .u64 0, .bool false]], []⟩ 8 (by kernel_rfl) (by kernel_rfl) (by kernel_rfl) (by kernel_rfl))
    fun W base args ds ps hval0 hA => by
      have hval : ∀ (j : Nat) t v, Try.f3.params[j]? = some t → args[j]? = some v → Value.okWide Try.prog W .any base t v := hval0
      clear hval0
      have hA : DataW.TrodAll enc Try.prog W 0 (fun _ => true) true Try.f3.params.toList args.toList ds ps := hA
      rw [Try.params3] at hA hval
      obtain ⟨v0, v1, d0, d1, p0, p1, rfl, rfl, rfl, h0, h1⟩ := trodAll_two hA
      obtain ⟨its0, g0, al, ap, av, rfl⟩ := D6f (G2t 0) (.inl ⟨_, Try.underlying24⟩) (hval 0 24 v0 rfl rfl) h0
      obtain ⟨its1, g1, bl, bs, hb, rfl⟩ := D6f (G6w 0) (.inl ⟨_, Try.underlying34⟩) (hval 1 34 v1 rfl rfl) h1
      exact ⟨_, .cons g0 (.cons g1 .nil), C1n al ap av bl bs hb⟩

theorem setupKeys_holds : Rows.SetupKeysSaid :=
  OpenClaim.holds_of_wide 3 Try.f3 rfl rfl rfl rfl rfl rfl rfl ⟨rfl, rfl, rfl, rfl, rfl⟩ rfl rfl rfl rfl rfl (by kernel_rfl) Try.func3 (by kernel_rfl)
    (of_decide_eq_true (by kernel_rfl)) (by unfold Func.isWrapper; first | (rw [if_pos (by decide +kernel)]; kernel_rfl) | (rw [if_neg (by decide +kernel)]; exact ⟨rfl, rfl⟩))
    (fun os started H enc _ => setupKeys_lifted os started H enc)

end Go.Proofs.Ytifiiigbedjceaa
