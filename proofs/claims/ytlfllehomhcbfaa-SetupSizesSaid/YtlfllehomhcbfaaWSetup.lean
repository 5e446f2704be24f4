/- SetupSizes, walked. No conditions. -/
import Derived.Test.YtlfllehomhcbfaaPSize
namespace Go.Proofs.Ytlfllehomhcbfaa

def sizeV (l : List GateD) (p v : Int) : SV := .t [.c (.int .i64 (if rightB l p v then (logOf l.length : Int) else 0)), .c (.int .i64 (if rightB l p v then 0 else 1))]
def sizeSpec : FnSpec
  | [.v (.a [.sl (.gate l), .int .i64 p, .int .i64 v])] => some ([], sizeV l p v, [])
  | [.v (.a [.val (.slice none 0 0), .int .i64 p, .int .i64 v])] => some ([], sizeV [] p v, [])
  | _ => none
def aliveSpec : FnSpec
  | [] => some ([], .v (.c (.lit true)), [])
  | _ => none

theorem sizeV_fnd (l : List GateD) (p v : Int) : FnD Try.prog 18 [circV l p v] (sizeV l p v) [] :=
  (size_fnd l p v).conv (fun _ _ h => h) fun y w hd => by
    unfold sizeR at hd
    unfold sizeV
    split at hd
    · rename_i h; rw [if_pos h, if_pos h]; exact hd
    · rename_i h; rw [if_neg h, if_neg h]; exact hd

theorem lit_of {x : Ctx} {b b' : Bool} {v : Value} (h : denS x (.v (.c (.bool b))) v) (e : b = b') : denS x (.v (.c (.lit b'))) v := by
  subst e
  have := D_bool h
  subst this
  exact den_lit _

/-- No elements: the nil slice. -/
theorem nil_sl {x : Ctx} {q : Sq} (hq : q.n = 0) {vs : List Value} (h : x.D (.val (.slice none 0 0)) vs) : x.D (.sl q) vs := by
  obtain ⟨d, h⟩ := h
  have h : vs = [.slice none 0 0] := by cases d <;> (simp only [den] at h; exact h.1)
  exact ⟨1, .inl ⟨none, 0, h, hq⟩⟩

theorem nil_cat {x : Ctx} {q : Sq} (hq : q.n = 0) {l : List It} {cs : List Value} (h : catL x.D (.val (.slice none 0 0) :: l) cs) : catL x.D (.sl q :: l) cs := by
  obtain ⟨c1, c2, e, h1, h2⟩ := h
  exact ⟨c1, c2, e, nil_sl hq h1, h2⟩

theorem size_ok : ∀ args o r es, sizeSpec args = some (o, r, es) → AllP o → FnD Try.prog 18 args r es := by
  intro args o r es h _
  unfold sizeSpec at h
  split at h
  · cases h; exact sizeV_fnd _ _ _
  · cases h
    refine (sizeV_fnd [] _ _).conv (fun x vs h => ?_) (fun _ _ h => h)
    cases h with
    | cons h1 h2 =>
      obtain ⟨cs, e, hc⟩ := h1
      exact .cons ⟨cs, e, nil_cat rfl hc⟩ h2
  · cases h

noncomputable def env2 : Env := (env1.set (addT env1.fn 19 rightSpec)).set (addT (addT env1.fn 19 rightSpec) 18 sizeSpec)

theorem env2_ok : EnvOk Try.prog env2 :=
  env_add (env := env1.set (addT env1.fn 19 rightSpec)) (env_add env1_ok 19 rightSpec (enters_of Try.func19 rfl rfl) fun args o r es h _ => by
    unfold rightSpec at h
    split at h
    · cases h; exact right18_fnd _ _ _
    · cases h) 18 sizeSpec (enters_of Try.func18 rfl rfl) size_ok

--@env env2 env2_ok
theorem aR  : fnRes env2 Try.f20 3000 [] [true] [] [] = (Option.some ([(((ite ((rightB ([] : List GateD) (0 : Int) (0 : Int)) = true) (0 : Int) (1 : Int)) == (0 : Int)) = true)], ((SV.v (V1.c (It.bool ((ite ((rightB ([] : List GateD) (0 : Int) (0 : Int)) = true) (((logOf (List.length ([] : List GateD))) : Nat) : Int) (0 : Int)) == (1 : Int))))), []))) := by kernel_rfl

theorem alive_ok : ∀ args o r es, aliveSpec args = some (o, r, es) → AllP o → FnD Try.prog 20 args r es := by
  intro args o r es h _
  unfold aliveSpec at h
  split at h
  · cases h
    refine (fn_sound env2_ok Try.func20 aR ?_).conv (fun _ _ h => h) (fun y w hd => ?_)
    · exact ⟨by decide, trivial⟩
    · exact lit_of hd (by decide)
  · cases h

noncomputable def env3 : Env := env2.set (addT env2.fn 20 aliveSpec)
theorem env3_ok : EnvOk Try.prog env3 := env_add env2_ok 20 aliveSpec (enters_of Try.func20 rfl rfl) alive_ok

--@env env3 env3_ok
theorem sA (l : List GateD) (p v : Int) : fnRes env3 Try.f3 3000 [circV l p v] [true, true, true] [] [] = (Option.some ([((Bool.not (rightB l p v)) = true), (((ite ((rightB l p v) = true) (0 : Int) (1 : Int)) == (1 : Int)) = true)], ((SV.v (V1.c (It.bool ((ite ((rightB l p v) = true) (((logOf (List.length l)) : Nat) : Int) (0 : Int)) == (0 : Int))))), []))) := by kernel_rfl
theorem sB (l : List GateD) (p v : Int) : fnRes env3 Try.f3 3000 [circV l p v] [false, true, true, true, true, true, true] [] [] = (Option.some ([((Bool.not (rightB l p v)) = false), (((ite ((rightB l p v) = true) (0 : Int) (1 : Int)) == (0 : Int)) = true), ((decide ((ite ((rightB l p v) = true) (((logOf (List.length l)) : Nat) : Int) (0 : Int)) ≥ (1 : Int))) = true), ((decide ((ite ((rightB l p v) = true) (((logOf (List.length l)) : Nat) : Int) (0 : Int)) ≤ (12 : Int))) = true), ((0 : Int) ≤ (ite ((rightB l p v) = true) (((logOf (List.length l)) : Nat) : Int) (0 : Int))), ((decide ((((List.length l) : Nat) : Int) ≤ (IntKind.wrap IntKind.i64 ((1 : Int) * ((2 : Int) ^ (Min.min ((ite ((rightB l p v) = true) (((logOf (List.length l)) : Nat) : Int) (0 : Int))).toNat (IntKind.bits IntKind.i64))))))) = true), (((ite ((rightB l p v) = true) (((logOf (List.length l)) : Nat) : Int) (0 : Int)) == (1 : Int)) = true)], ((SV.v (V1.c (It.lit true))), []))) := by kernel_rfl
theorem sC (l : List GateD) (p v : Int) : fnRes env3 Try.f3 3000 [circV l p v] [false, true, true, true, true, false, true] [] [] = (Option.some ([((Bool.not (rightB l p v)) = false), (((ite ((rightB l p v) = true) (0 : Int) (1 : Int)) == (0 : Int)) = true), ((decide ((ite ((rightB l p v) = true) (((logOf (List.length l)) : Nat) : Int) (0 : Int)) ≥ (1 : Int))) = true), ((decide ((ite ((rightB l p v) = true) (((logOf (List.length l)) : Nat) : Int) (0 : Int)) ≤ (12 : Int))) = true), ((0 : Int) ≤ (ite ((rightB l p v) = true) (((logOf (List.length l)) : Nat) : Int) (0 : Int))), ((decide ((((List.length l) : Nat) : Int) ≤ (IntKind.wrap IntKind.i64 ((1 : Int) * ((2 : Int) ^ (Min.min ((ite ((rightB l p v) = true) (((logOf (List.length l)) : Nat) : Int) (0 : Int))).toNat (IntKind.bits IntKind.i64))))))) = true), (((ite ((rightB l p v) = true) (((logOf (List.length l)) : Nat) : Int) (0 : Int)) == (1 : Int)) = false), ((0 : Int) ≤ (IntKind.wrap IntKind.i64 ((ite ((rightB l p v) = true) (((logOf (List.length l)) : Nat) : Int) (0 : Int)) - (1 : Int))))], ((SV.v (V1.c (It.bool (decide ((((List.length l) : Nat) : Int) > (IntKind.wrap IntKind.i64 ((1 : Int) * ((2 : Int) ^ (Min.min ((IntKind.wrap IntKind.i64 ((ite ((rightB l p v) = true) (((logOf (List.length l)) : Nat) : Int) (0 : Int)) - (1 : Int)))).toNat (IntKind.bits IntKind.i64)))))))))), []))) := by kernel_rfl
end Go.Proofs.Ytlfllehomhcbfaa
