/- What an operation looks at and what it turns; two that do not touch each other, in either order. No conditions. -/
import Derived.Test.YtlfllehomhcbfaaFwQ
import Derived.Orders
namespace Go.Proofs.Ytlfllehomhcbfaa

theorem opRes_congr {env : Env} {ρ ρ' : Operand → SV} {m : Nat → Option En} {p : Nat} {o : Oper} (h : ∀ x ∈ o.op.operands, ρ x = ρ' x) : opRes env ρ m p o = opRes env ρ' m p o := by
  have pairs : ∀ ps : Array (Nat × Operand), (∀ x ∈ ps.map (·.2), ρ x = ρ' x) → (ps.toList.map fun (x : Nat × Operand) => (x.1, ρ x.2)) = (ps.toList.map fun (x : Nat × Operand) => (x.1, ρ' x.2)) := fun ps hp =>
    List.map_congr_left fun q hm => by
      rw [hp q.2 (Array.mem_map.2 ⟨q, Array.mem_toList_iff.1 hm, rfl⟩)]
  have lst : ∀ ps : Array Operand, (∀ x ∈ ps, ρ x = ρ' x) → ps.toList.map ρ = ps.toList.map ρ' := fun ps hp =>
    List.map_congr_left fun q hm => hp q (Array.mem_toList_iff.1 hm)
  obtain ⟨dst, op, type, pos, after, guard⟩ := o
  unfold opRes
  cases op <;> simp only [Op.operands] at h <;> try simp only []
  case build t ps => rw [pairs ps fun x hx => h x (by simpa using hx)]
  case buildSlice t n ps => rw [pairs ps fun x hx => h x (by simpa using hx)]
  case makeFunc fn first caps => rw [lst caps fun x hx => h x (by simp [hx])]
  case slice t x lo hi mx => cases lo <;> cases hi <;> cases mx <;> simp_all
  case call c =>
    have ha : c.args.toList.map ρ = c.args.toList.map ρ' := lst c.args fun x hx => h x (by simp [Call.operands, hx])
    cases hc : c.callee with
    | value f =>
      have hf : ρ f = ρ' f := h f (by simp [Call.operands, hc])
      simp only [hf, ha]
    | invoke r m => rfl
    | builtin b =>
      simp only [ha]
      cases b <;> try simp only []
      case append =>
        have nope : ∀ (f g : Operand → Operand → Nat → Option Res) (l : List Operand), (∀ s x, l ≠ [s, x]) → (match c.argTypes.toList, l with
            | [t, t'], [s, x] => if t = t' then f s x t else none
            | _, _ => none) = (match c.argTypes.toList, l with
            | [t, t'], [s, x] => if t = t' then g s x t else none
            | _, _ => none) := by
          intro f g l hl
          split
          · rename_i s x _; exact absurd rfl (hl s x)
          · rfl
        cases hl : c.args.toList with
        | nil => exact nope (fun s x t => _) (fun s x t => _) [] (by simp)
        | cons s l =>
          cases l with
          | nil => exact nope (fun s x t => _) (fun s x t => _) [s] (by simp)
          | cons x l =>
            cases l with
            | cons y l => exact nope (fun s x t => _) (fun s x t => _) (s :: x :: y :: l) (by simp)
            | nil =>
              have h1 : ρ s = ρ' s := h s (by simp [Call.operands, hc]; exact Array.mem_toList_iff.1 (by rw [hl]; simp))
              have h2 : ρ x = ρ' x := h x (by simp [Call.operands, hc]; exact Array.mem_toList_iff.1 (by rw [hl]; simp))
              cases c.argTypes.toList with
              | nil => rfl
              | cons t r =>
                cases r with
                | nil => rfl
                | cons t' r =>
                  cases r with
                  | nil => simp only [h1, h2]
                  | cons _ _ => rfl
  all_goals (first | rfl | (simp_all; done) | skip)

end Go.Proofs.Ytlfllehomhcbfaa
