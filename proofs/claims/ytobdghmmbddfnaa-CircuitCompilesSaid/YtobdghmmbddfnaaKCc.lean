/- CircuitCompiles: whatever the operations, the law returns true, and its argument reads as it did. No conditions. -/
import Derived.Carry
import Derived.Test.YtobdghmmbddfnaaCcP
namespace Go.Proofs.Ytobdghmmbddfnaa
open Go.ChangeShapes Go.WideShapes Go.ChangeAt Go.RowKit

theorem r_ints (dp : Nat) : Reads Try.prog 42 (dp + 1) fun its => ∃ l, its = [.sl (.int l)] ∧ l.length ≤ maxLen :=
  reads_slice (f := fun x : Int => [.int .i64 x]) Try.underlying42 (by kernel_rfl) (fun enc W fuel cs d ps h => by
    obtain ⟨its, hc, n, rfl, _⟩ := r_i dp enc W fuel cs d ps h
    exact ⟨_, hc, n, rfl⟩) .int (fun _ => rfl) (fun _ => by kernel_rfl) (fun l i a hi => by simp [Sq.get, List.getD, hi])

theorem r_op (dp : Nat) : Reads Try.prog 44 (dp + 1) fun its => ∃ o : OpD, its = o.its := by
  intro H enc W fuel cs d ps h
  obtain ⟨its, hc, hp⟩ := reads_struct Try.underlying44 (.cons rfl (r_i (dp + 1)) (.cons (by kernel_rfl) (r_i (dp + 1)) (.cons (by kernel_rfl) (r_i (dp + 1)) (.cons (by kernel_rfl) (r_i (dp + 1)) (.cons (by kernel_rfl) (r_i (dp + 1))
    (.cons (by kernel_rfl) (r_fr (dp + 1)) (.cons (by kernel_rfl) (r_frs dp) (.cons (by kernel_rfl) (r_ints dp) (.nil _))))))))) (by kernel_rfl) enc W fuel cs d ps h
  refine ⟨its, hc, ?_⟩
  cases hp with | cons h1 hp => cases hp with | cons h2 hp => cases hp with | cons h3 hp => cases hp with | cons h4 hp => cases hp with | cons h5 hp => cases hp with | cons h6 hp => cases hp with | cons h7 hp => cases hp with | cons h8 hp =>
  cases hp
  obtain ⟨n1, rfl, _⟩ := h1
  obtain ⟨n2, rfl, _⟩ := h2
  obtain ⟨n3, rfl, _⟩ := h3
  obtain ⟨n4, rfl, _⟩ := h4
  obtain ⟨n5, rfl, _⟩ := h5
  obtain ⟨x, rfl⟩ := h6
  obtain ⟨ks, rfl, _⟩ := h7
  obtain ⟨vs, rfl, _⟩ := h8
  exact ⟨⟨n1, n2, n3, n4, n5, x, ks, vs⟩, rfl⟩

theorem r_ops (dp : Nat) : Reads Try.prog 22 (dp + 2) fun its => ∃ l, its = [.sl (.op l)] ∧ l.length ≤ maxLen :=
  reads_slice (f := OpD.its) Try.underlying22 (by kernel_rfl) (r_op dp) .op (fun _ => rfl) (fun _ => by kernel_rfl) (fun l i a hi => by simp [Sq.get, List.getD, hi])

set_option maxRecDepth 100000 in
theorem circuitCompiles_lifted (os : Os) (started : os.Started) (H : Type) (enc : TypeId × Value → H) :
    ReturnsInHanded {} Try.checked os 3 .any (Rows.circuitCompilesSpec.pre6 enc Try.prog Try.f3 Rows.circuitCompilesRow.domain false) (Rows.circuitCompilesSpec.post enc Try.prog Try.f3 false true false false) :=
  law_lifted_sized (C := Try.checked) ownKnob_try (by kernel_rfl) Try.func3 laid_try (by kernel_rfl) rfl Try.underlying4 rfl (fun ds h => by
      match ds, h with
      | [d], _ => rfl) started
    (ChangeSpec.witness6 (enc := enc) (C := Try.checked) false ⟨#[], #[.slice none 0 0], []⟩ 8 (by kernel_rfl) (by kernel_rfl) (by kernel_rfl) (by kernel_rfl))
    fun W base args ds ps hval0 hA hw => by
      have hval : ∀ (j : Nat) t v, Try.f3.params[j]? = some t → args[j]? = some v → Value.okWide Try.prog W .any base t v := hval0
      have hw : ∀ (j : Nat) t d, Try.f3.params.toList[j]? = some t → ds[j]? = some d → ∀ m ∈ d.weights Try.prog t, m ≤ reachBytes := hw
      clear hval0
      have hA : DataW.TrodAll enc Try.prog W 0 (fun _ => true) true Try.f3.params.toList args.toList ds ps := hA
      rw [Try.params3] at hA hval hw
      obtain ⟨v0, d0, rfl, rfl, h0⟩ := trodAll_one hA
      obtain ⟨l, g0, _⟩ := arg_slice (mk := Sq.op) Try.underlying22 (r_ops 0) (hval 0 22 v0 rfl rfl) h0
      have hz := slice_sized Try.underlying22 g0 h0 (hw 0 22 d0 rfl rfl)
      have hb : Try.prog.bytesOf 44 = 120 := by kernel_rfl
      rw [hb] at hz
      have hz : l.length * 120 ≤ 140737488351232 := hz
      exact ⟨_, .cons g0 .nil, circuitCompiles_fnd l (by omega)⟩

theorem circuitCompiles_holds : Rows.CircuitCompilesSaid :=
  OpenClaim.holds_of_wide 3 Try.f3 rfl rfl rfl rfl rfl rfl rfl ⟨rfl, rfl, rfl, rfl, rfl⟩ rfl rfl rfl rfl rfl (by kernel_rfl) Try.func3 (by kernel_rfl)
    (of_decide_eq_true (by kernel_rfl)) (by unfold Func.isWrapper; first | (rw [if_pos (by decide +kernel)]; kernel_rfl) | (rw [if_neg (by decide +kernel)]; exact ⟨rfl, rfl⟩))
    (fun os started H enc _ => circuitCompiles_lifted os started H enc)

end Go.Proofs.Ytobdghmmbddfnaa
