/- Tables of types and of contracts. No conditions. -/
import Derived.Test.YtlfllehomhcbfaaFwY
namespace Go.Proofs.Ytlfllehomhcbfaa

def tyGet : List (Nat × TyI) → Nat → Option TyI
  | [], _ => none
  | (k, i) :: l, t => if t = k then some i else tyGet l t

theorem tyGet_ok {P : Program} : ∀ (l : List (Nat × TyI)), (l.all fun r => tyCheck P r.1 r.2) = true → ∀ t i, tyGet l t = some i → TyOk P t i
  | [], _, t, i, h => by simp [tyGet] at h
  | (k, j) :: l, hl, t, i, h => by
    simp only [List.all_cons, Bool.and_eq_true] at hl
    simp only [tyGet] at h
    split at h
    · rename_i hk
      cases h
      subst hk
      exact ⟨hl.1⟩
    · exact tyGet_ok l hl.2 t i h

theorem enters_of {P : Program} {f : Nat} {fn : Func} (h : P.funcs[f]? = some fn) (hn : (fn.name == "runtime.NumGoroutine") = false) (hb : fn.body.isNone = false) : Enters P f := by
  intro args w
  have hn' : ¬ fn.name = "runtime.NumGoroutine" := by intro e; rw [e] at hn; simp at hn
  have hb' : ¬ fn.body = none := by intro e; rw [e] at hb; simp at hb
  simp [callFunc, h, hn', hb']

/-- One contract more. -/
def addT (T : Nat → Option FnSpec) (f : Nat) (s : FnSpec) : Nat → Option FnSpec := fun g => if g = f then some s else T g

def Env.set (env : Env) (T : Nat → Option FnSpec) : Env := { env with fn := T }

theorem env_add {P : Program} {env : Env} (hE : EnvOk P env) (f : Nat) (s : FnSpec) (he : Enters P f) (h : ∀ args o r es, s args = some (o, r, es) → AllP o → FnD P f args r es) : EnvOk P (env.set (addT env.fn f s)) := by
  refine ⟨hE.ty, hE.mixed, fun g s' hg => ?_, hE.mu, hE.inl⟩
  have hg : (if g = f then some s else env.fn g) = some s' := hg
  split at hg
  · rename_i hgf
    cases hg
    subst hgf
    exact ⟨he, h⟩
  · exact hE.fn g s' hg

theorem FnD.conv {P : Program} {f : Nat} {args args' : List SV} {r r' : SV} {es : List En} (h : FnD P f args r es) (ha : ∀ x vs, denSs x args' vs → denSs x args vs) (hr : ∀ x v, denS x r v → denS x r' v) : FnD P f args' r' es := by
  intro x vs hk hF hd
  exact (h x vs hk hF (ha x vs hd)).mono fun e w' ⟨v, y, he, hw, ht, hv⟩ => ⟨v, y, he, hw, ht, hr y v hv⟩

end Go.Proofs.Ytlfllehomhcbfaa
