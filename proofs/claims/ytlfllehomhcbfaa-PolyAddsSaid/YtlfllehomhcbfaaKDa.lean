/- PolyAdds: whatever the polynomials and the number, the law returns true, and its arguments read as they did. No conditions. -/
import Derived.Test.YtlfllehomhcbfaaDaL
namespace Go.Proofs.Ytlfllehomhcbfaa
open Go.ChangeShapes Go.WideShapes Go.ChangeAt Go.RowKit

theorem adds_fnd (a b : List U4) (k : U4) : FnD Try.prog 6 [.v (.c (.sl (.fr a))), .v (.c (.sl (.fr b))), .v (.a [.ob (.fr k)])] (.v (.c (.bool true))) [] := by
  have hA : (a.take 40).length ≤ 40 := by rw [List.length_take]; omega
  have hB : (b.take 40).length ≤ 40 := by rw [List.length_take]; omega
  have r := pa6 a b k
  generalize a.take 40 = A at *
  generalize b.take 40 = B at *
  simp only [List.length_map] at r
  refine (fn_sound envT_ok Try.func6 r ?_).conv (fun _ _ h => h) fun y v hd => ?_
  · clear r
    generalize A.length = n1 at *
    generalize B.length = n2 at *
    and_intros <;> first | exact True.intro | omega | decide | rfl
  · exact hd

set_option maxRecDepth 100000 in
theorem polyAdds_lifted (os : Os) (started : os.Started) (H : Type) (enc : TypeId × Value → H) :
    ReturnsInHanded {} Try.checked os 6 .any (Rows.polyAddsSpec.pre6 enc Try.prog Try.f6 Rows.polyAddsRow.domain false) (Rows.polyAddsSpec.post enc Try.prog Try.f6 false true false false) :=
  law_lifted (C := Try.checked) ownKnob_try (by kernel_rfl) Try.func6 laid_try (by kernel_rfl) rfl Try.underlying4 rfl (fun ds h => by
      match ds, h with
      | [d, e, f], _ => rfl) started
    (ChangeSpec.witness6 (enc := enc) (C := Try.checked) false ⟨#[], #[.slice none 0 0, .slice none 0 0, .agg #[.int .u64 0, .int .u64 0, .int .u64 0, .int .u64 0]], []⟩ 8 (by kernel_rfl) (by kernel_rfl) (by kernel_rfl) (by kernel_rfl))
    fun W base args ds ps hval0 hA => by
      have hval : ∀ (j : Nat) t v, Try.f6.params[j]? = some t → args[j]? = some v → Value.okWide Try.prog W .any base t v := hval0
      clear hval0
      have hA : DataW.TrodAll enc Try.prog W 0 (fun _ => true) true Try.f6.params.toList args.toList ds ps := hA
      rw [Try.params6] at hA hval
      obtain ⟨v0, v1, v2, d0, d1, d2, p0, p1, p2, rfl, rfl, rfl, h0, h1, h2⟩ := trodAll_three hA
      obtain ⟨a, g0, _⟩ := a_frs (hval 0 38 v0 rfl rfl) h0
      obtain ⟨b, g1, _⟩ := a_frs (hval 1 38 v1 rfl rfl) h1
      obtain ⟨k, g2⟩ := a_fr (hval 2 32 v2 rfl rfl) h2
      exact ⟨_, .cons g0 (.cons g1 (.cons g2 .nil)), adds_fnd a b k⟩

theorem polyAdds_holds : Rows.PolyAddsSaid :=
  OpenClaim.holds_of_wide 6 Try.f6 rfl rfl rfl rfl rfl rfl rfl ⟨rfl, rfl, rfl, rfl, rfl⟩ rfl rfl rfl rfl rfl (by kernel_rfl) Try.func6 (by kernel_rfl)
    (of_decide_eq_true (by kernel_rfl)) (by unfold Func.isWrapper; first | (rw [if_pos (by decide +kernel)]; kernel_rfl) | (rw [if_neg (by decide +kernel)]; exact ⟨rfl, rfl⟩))
    (fun os started H enc _ => polyAdds_lifted os started H enc)

end Go.Proofs.Ytlfllehomhcbfaa
