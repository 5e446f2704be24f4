/- Parts of a proof, one behind the other: PRef, WRefM, PRefM, WRefP, PRefP, WClean, PClean, WRef2, PRef2, WMulU, PMulU, WPow, PPow, WRoot, PRoot, WDoms, PDoms, WElems, PElems. No conditions. -/
import Derived.Test.YtlfllehomhcbfaaDvI
/- The reference's Less: contract. No conditions. -/
namespace Go.Proofs.Ytlfllehomhcbfaa

theorem lt_limbs {A B : Nat} {a0 a1 a2 a3 b0 b1 b2 b3 : Int} (ha : (A : Int) = num4 a0 a1 a2 a3) (hb : (B : Int) = num4 b0 b1 b2 b3) (h0 : Lim a0) (h1 : Lim a1) (h2 : Lim a2) (_h3 : Lim a3) (g0 : Lim b0) (g1 : Lim b1) (g2 : Lim b2) (_g3 : Lim b3) :
    decide (A < B) = (if a3 = b3 then (if a2 = b2 then (if a1 = b1 then decide (a0 < b0) else decide (a1 < b1)) else decide (a2 < b2)) else decide (a3 < b3)) := by
  obtain ⟨_, _⟩ := h0
  obtain ⟨_, _⟩ := h1
  obtain ⟨_, _⟩ := h2
  obtain ⟨_, _⟩ := g0
  obtain ⟨_, _⟩ := g1
  obtain ⟨_, _⟩ := g2
  unfold num4 at ha hb
  split
  · split
    · split <;> (congr 1; apply propext; omega)
    · congr 1; apply propext; omega
  · congr 1; apply propext; omega

theorem fr_lims (a : U4) : Lim (limb (Ob.fr a).n 0) ∧ Lim (limb (Ob.fr a).n 1) ∧ Lim (limb (Ob.fr a).n 2) ∧ Lim (limb (Ob.fr a).n 3) ∧ ((a.val : Nat) : Int) = num4 (limb (Ob.fr a).n 0) (limb (Ob.fr a).n 1) (limb (Ob.fr a).n 2) (limb (Ob.fr a).n 3) := by
  obtain ⟨e, a0, a1, b0, b1, c0, c1, d0, d1⟩ := limbsOf4 a.val a.isLt
  exact ⟨⟨a0, a1⟩, ⟨b0, b1⟩, ⟨c0, c1⟩, ⟨d0, d1⟩, e⟩

theorem less_fnd (a b : U4) : FnD Try.prog 36 [.v (.a [.ob (.fr a)]), .v (.a [.ob (.fr b)])] (.v (.c (.bool (decide (a.val < b.val))))) [] := by
  obtain ⟨h0, h1, h2, h3, ha⟩ := fr_lims a
  obtain ⟨g0, g1, g2, g3, hb⟩ := fr_lims b
  rw [lt_limbs ha hb h0 h1 h2 h3 g0 g1 g2 g3]
  have rA := lsA a b
  have rB := lsB a b
  have rC := lsC a b
  have rD := lsD a b
  have rE := lsE a b
  clear ha hb h0 h1 h2 h3 g0 g1 g2 g3
  generalize limb (Ob.fr a).n 0 = a0 at *
  generalize limb (Ob.fr a).n 1 = a1 at *
  generalize limb (Ob.fr a).n 2 = a2 at *
  generalize limb (Ob.fr a).n 3 = a3 at *
  generalize limb (Ob.fr b).n 0 = b0 at *
  generalize limb (Ob.fr b).n 1 = b1 at *
  generalize limb (Ob.fr b).n 2 = b2 at *
  generalize limb (Ob.fr b).n 3 = b3 at *
  by_cases e3 : a3 = b3
  · rw [if_pos e3]
    by_cases e2 : a2 = b2
    · rw [if_pos e2]
      by_cases e1 : a1 = b1
      · rw [if_pos e1]
        by_cases e0 : a0 = b0
        · refine (fn_sound envH_ok Try.func36 rE ?_).conv (fun _ _ h => h) fun y v hd => lit_bool (by simp [e0]) hd
          subst e0 e1 e2 e3
          simp [AllP, Ob.k]
        · refine fn_sound envH_ok Try.func36 rD ?_
          subst e1 e2 e3
          simp [AllP, Ob.k, e0]
      · rw [if_neg e1]
        refine fn_sound envH_ok Try.func36 rC ?_
        subst e2 e3
        simp [AllP, Ob.k, e1]
    · rw [if_neg e2]
      refine fn_sound envH_ok Try.func36 rB ?_
      subst e3
      simp [AllP, Ob.k, e2]
  · rw [if_neg e3]
    refine fn_sound envH_ok Try.func36 rA ?_
    simp [AllP, Ob.k, e3]

end Go.Proofs.Ytlfllehomhcbfaa

/- The reference's minus, walked. No conditions. -/
namespace Go.Proofs.Ytlfllehomhcbfaa

noncomputable def rm0 (a b : U4) : Cfg := ⟨[.code (bodyOf Try.f79)], .normal, initSt Try.f79.ntmps [.v (.a [.ob (.fr a)]), .v (.a [.ob (.fr b)])]⟩
--@env envH envH_ok
--@unroll true
noncomputable def rmA0_k : List KI := (run envH true 42 ((fun (a b : U4) => (rm0 a b : Cfg)) default default) [true, true, true]).cfg.k
theorem rmA0_at (a b : U4) : runAt envH true 42 ((rm0 a b : Cfg)) [true, true, true] [2, 3, 4, 5, 6, 7] [16, 32, 48, 80] [] = some ⟨[((decide ((0 : Int) < (4 : Int))) = true), ((0 : Int) ≤ (0 : Int)), ((0 : Int) < (4 : Int)), (0 < (Ob.k (Ob.fr a))), ((0 : Int) ≤ (0 : Int)), ((0 : Int) < (4 : Int)), (0 < (Ob.k (Ob.fr b))), ((0 : Int) ≤ (0 : Int)), ((0 : Int) < (4 : Int)), ((0 : Int) ≤ (0 : Int)), ((0 : Int) < (4 : Int)), (0 < (Ob.k (Ob.fr a))), ((0 : Int) ≤ (0 : Int)), ((0 : Int) < (4 : Int)), (0 < (Ob.k (Ob.fr b))), ((decide ((limb (Ob.n (Ob.fr a)) 0) < (limb (Ob.n (Ob.fr b)) 0))) = true)], Exit.normal, [(SV.v (V1.c (It.ptr 16 0))), (SV.v (V1.c (It.ptr 32 0))), (SV.v (V1.c (It.ptr 48 0))), (SV.v (V1.c (It.ptr 80 0))), (SV.v (V1.c (It.int IntKind.u64 (1 : Int)))), (SV.v (V1.c (It.int IntKind.i64 (0 : Int))))], [(Option.some (En.fl [(It.ob (Ob.fr a))])), (Option.some (En.fl [(It.ob (Ob.fr b))])), (Option.some (En.fl [(It.ob (Ob.fr (0 : U4)))])), (Option.some (En.fl [(It.int IntKind.u64 (IntKind.wrap IntKind.u64 ((IntKind.wrap IntKind.u64 ((limb (Ob.n (Ob.fr a)) 0) - (limb (Ob.n (Ob.fr b)) 0))) - (0 : Int)))), (It.int IntKind.u64 (0 : Int)), (It.int IntKind.u64 (0 : Int)), (It.int IntKind.u64 (0 : Int))]))], 45, 704, []⟩ := by kernel_rfl
theorem rmA0_hk (a b : U4) : (run envH true 42 ((rm0 a b : Cfg)) [true, true, true]).cfg.k = rmA0_k := by kernel_rfl
theorem rmA0 (a b : U4) {w0 : World} {F0 : Nat → Prop} {K : Kp} {ac : List Act} {Q : Exit → Act → World → Prop} {cX : Ctx} {aX : Act} (ho : AllP [((decide ((0 : Int) < (4 : Int))) = true), ((0 : Int) ≤ (0 : Int)), ((0 : Int) < (4 : Int)), (0 < (Ob.k (Ob.fr a))), ((0 : Int) ≤ (0 : Int)), ((0 : Int) < (4 : Int)), (0 < (Ob.k (Ob.fr b))), ((0 : Int) ≤ (0 : Int)), ((0 : Int) < (4 : Int)), ((0 : Int) ≤ (0 : Int)), ((0 : Int) < (4 : Int)), (0 < (Ob.k (Ob.fr a))), ((0 : Int) ≤ (0 : Int)), ((0 : Int) < (4 : Int)), (0 < (Ob.k (Ob.fr b))), ((decide ((limb (Ob.n (Ob.fr a)) 0) < (limb (Ob.n (Ob.fr b)) 0))) = true)]) (hs : Sim w0 F0 K ac (((rm0 a b : Cfg)).σ) cX aX) (hK : ∀ ac cY aY, Sim w0 F0 K ac (mkSt 45 [2, 3, 4, 5, 6, 7] [(SV.v (V1.c (It.ptr 16 0))), (SV.v (V1.c (It.ptr 32 0))), (SV.v (V1.c (It.ptr 48 0))), (SV.v (V1.c (It.ptr 80 0))), (SV.v (V1.c (It.int IntKind.u64 (1 : Int)))), (SV.v (V1.c (It.int IntKind.i64 (0 : Int))))] [16, 32, 48, 80] [(Option.some (En.fl [(It.ob (Ob.fr a))])), (Option.some (En.fl [(It.ob (Ob.fr b))])), (Option.some (En.fl [(It.ob (Ob.fr (0 : U4)))])), (Option.some (En.fl [(It.int IntKind.u64 (IntKind.wrap IntKind.u64 ((IntKind.wrap IntKind.u64 ((limb (Ob.n (Ob.fr a)) 0) - (limb (Ob.n (Ob.fr b)) 0))) - (0 : Int)))), (It.int IntKind.u64 (0 : Int)), (It.int IntKind.u64 (0 : Int)), (It.int IntKind.u64 (0 : Int))]))] 704 [] []) cY aY → Wq Try.prog Q (rmA0_k) ac Exit.normal aY cY.w) : Wq Try.prog Q (((rm0 a b : Cfg)).k) ac ((rm0 a b : Cfg)).x aX cX.w :=
  run_at envH_ok (rmA0_at a b) (rmA0_hk a b) ho hs hK
theorem rmB0_at (a b : U4) : runAt envH true 42 ((rm0 a b : Cfg)) [true, true, false, true] [2, 3, 4, 5, 6, 7] [16, 32, 48, 80] [] = some ⟨[((decide ((0 : Int) < (4 : Int))) = true), ((0 : Int) ≤ (0 : Int)), ((0 : Int) < (4 : Int)), (0 < (Ob.k (Ob.fr a))), ((0 : Int) ≤ (0 : Int)), ((0 : Int) < (4 : Int)), (0 < (Ob.k (Ob.fr b))), ((0 : Int) ≤ (0 : Int)), ((0 : Int) < (4 : Int)), ((0 : Int) ≤ (0 : Int)), ((0 : Int) < (4 : Int)), (0 < (Ob.k (Ob.fr a))), ((0 : Int) ≤ (0 : Int)), ((0 : Int) < (4 : Int)), (0 < (Ob.k (Ob.fr b))), ((decide ((limb (Ob.n (Ob.fr a)) 0) < (limb (Ob.n (Ob.fr b)) 0))) = false), ((0 : Int) ≤ (0 : Int)), ((0 : Int) < (4 : Int)), (0 < (Ob.k (Ob.fr a))), ((0 : Int) ≤ (0 : Int)), ((0 : Int) < (4 : Int)), (0 < (Ob.k (Ob.fr b))), (((limb (Ob.n (Ob.fr a)) 0) == (limb (Ob.n (Ob.fr b)) 0)) = true), (((0 : Int) == (1 : Int)) = true)], Exit.normal, [(SV.v (V1.c (It.ptr 16 0))), (SV.v (V1.c (It.ptr 32 0))), (SV.v (V1.c (It.ptr 48 0))), (SV.v (V1.c (It.ptr 80 0))), (SV.v (V1.c (It.int IntKind.u64 (1 : Int)))), (SV.v (V1.c (It.int IntKind.i64 (0 : Int))))], [(Option.some (En.fl [(It.ob (Ob.fr a))])), (Option.some (En.fl [(It.ob (Ob.fr b))])), (Option.some (En.fl [(It.ob (Ob.fr (0 : U4)))])), (Option.some (En.fl [(It.int IntKind.u64 (IntKind.wrap IntKind.u64 ((IntKind.wrap IntKind.u64 ((limb (Ob.n (Ob.fr a)) 0) - (limb (Ob.n (Ob.fr b)) 0))) - (0 : Int)))), (It.int IntKind.u64 (0 : Int)), (It.int IntKind.u64 (0 : Int)), (It.int IntKind.u64 (0 : Int))]))], 45, 704, []⟩ := by kernel_rfl
theorem rmB0_hk (a b : U4) : (run envH true 42 ((rm0 a b : Cfg)) [true, true, false, true]).cfg.k = rmA0_k := by kernel_rfl
theorem rmB0 (a b : U4) {w0 : World} {F0 : Nat → Prop} {K : Kp} {ac : List Act} {Q : Exit → Act → World → Prop} {cX : Ctx} {aX : Act} (ho : AllP [((decide ((0 : Int) < (4 : Int))) = true), ((0 : Int) ≤ (0 : Int)), ((0 : Int) < (4 : Int)), (0 < (Ob.k (Ob.fr a))), ((0 : Int) ≤ (0 : Int)), ((0 : Int) < (4 : Int)), (0 < (Ob.k (Ob.fr b))), ((0 : Int) ≤ (0 : Int)), ((0 : Int) < (4 : Int)), ((0 : Int) ≤ (0 : Int)), ((0 : Int) < (4 : Int)), (0 < (Ob.k (Ob.fr a))), ((0 : Int) ≤ (0 : Int)), ((0 : Int) < (4 : Int)), (0 < (Ob.k (Ob.fr b))), ((decide ((limb (Ob.n (Ob.fr a)) 0) < (limb (Ob.n (Ob.fr b)) 0))) = false), ((0 : Int) ≤ (0 : Int)), ((0 : Int) < (4 : Int)), (0 < (Ob.k (Ob.fr a))), ((0 : Int) ≤ (0 : Int)), ((0 : Int) < (4 : Int)), (0 < (Ob.k (Ob.fr b))), (((limb (Ob.n (Ob.fr a)) 0) == (limb (Ob.n (Ob.fr b)) 0)) = true), (((0 : Int) == (1 : Int)) = true)]) (hs : Sim w0 F0 K ac (((rm0 a b : Cfg)).σ) cX aX) (hK : ∀ ac cY aY, Sim w0 F0 K ac (mkSt 45 [2, 3, 4, 5, 6, 7] [(SV.v (V1.c (It.ptr 16 0))), (SV.v (V1.c (It.ptr 32 0))), (SV.v (V1.c (It.ptr 48 0))), (SV.v (V1.c (It.ptr 80 0))), (SV.v (V1.c (It.int IntKind.u64 (1 : Int)))), (SV.v (V1.c (It.int IntKind.i64 (0 : Int))))] [16, 32, 48, 80] [(Option.some (En.fl [(It.ob (Ob.fr a))])), (Option.some (En.fl [(It.ob (Ob.fr b))])), (Option.some (En.fl [(It.ob (Ob.fr (0 : U4)))])), (Option.some (En.fl [(It.int IntKind.u64 (IntKind.wrap IntKind.u64 ((IntKind.wrap IntKind.u64 ((limb (Ob.n (Ob.fr a)) 0) - (limb (Ob.n (Ob.fr b)) 0))) - (0 : Int)))), (It.int IntKind.u64 (0 : Int)), (It.int IntKind.u64 (0 : Int)), (It.int IntKind.u64 (0 : Int))]))] 704 [] []) cY aY → Wq Try.prog Q (rmA0_k) ac Exit.normal aY cY.w) : Wq Try.prog Q (((rm0 a b : Cfg)).k) ac ((rm0 a b : Cfg)).x aX cX.w :=
  run_at envH_ok (rmB0_at a b) (rmB0_hk a b) ho hs hK
theorem rmC0_at (a b : U4) : runAt envH true 42 ((rm0 a b : Cfg)) [true, true, false, false] [2, 3, 4, 5, 6, 7] [16, 32, 48, 80] [] = some ⟨[((decide ((0 : Int) < (4 : Int))) = true), ((0 : Int) ≤ (0 : Int)), ((0 : Int) < (4 : Int)), (0 < (Ob.k (Ob.fr a))), ((0 : Int) ≤ (0 : Int)), ((0 : Int) < (4 : Int)), (0 < (Ob.k (Ob.fr b))), ((0 : Int) ≤ (0 : Int)), ((0 : Int) < (4 : Int)), ((0 : Int) ≤ (0 : Int)), ((0 : Int) < (4 : Int)), (0 < (Ob.k (Ob.fr a))), ((0 : Int) ≤ (0 : Int)), ((0 : Int) < (4 : Int)), (0 < (Ob.k (Ob.fr b))), ((decide ((limb (Ob.n (Ob.fr a)) 0) < (limb (Ob.n (Ob.fr b)) 0))) = false), ((0 : Int) ≤ (0 : Int)), ((0 : Int) < (4 : Int)), (0 < (Ob.k (Ob.fr a))), ((0 : Int) ≤ (0 : Int)), ((0 : Int) < (4 : Int)), (0 < (Ob.k (Ob.fr b))), (((limb (Ob.n (Ob.fr a)) 0) == (limb (Ob.n (Ob.fr b)) 0)) = true), (((0 : Int) == (1 : Int)) = false)], Exit.normal, [(SV.v (V1.c (It.ptr 16 0))), (SV.v (V1.c (It.ptr 32 0))), (SV.v (V1.c (It.ptr 48 0))), (SV.v (V1.c (It.ptr 80 0))), (SV.v (V1.c (It.int IntKind.u64 (0 : Int)))), (SV.v (V1.c (It.int IntKind.i64 (0 : Int))))], [(Option.some (En.fl [(It.ob (Ob.fr a))])), (Option.some (En.fl [(It.ob (Ob.fr b))])), (Option.some (En.fl [(It.ob (Ob.fr (0 : U4)))])), (Option.some (En.fl [(It.int IntKind.u64 (IntKind.wrap IntKind.u64 ((IntKind.wrap IntKind.u64 ((limb (Ob.n (Ob.fr a)) 0) - (limb (Ob.n (Ob.fr b)) 0))) - (0 : Int)))), (It.int IntKind.u64 (0 : Int)), (It.int IntKind.u64 (0 : Int)), (It.int IntKind.u64 (0 : Int))]))], 45, 704, []⟩ := by kernel_rfl
theorem rmC0_hk (a b : U4) : (run envH true 42 ((rm0 a b : Cfg)) [true, true, false, false]).cfg.k = rmA0_k := by kernel_rfl
theorem rmC0 (a b : U4) {w0 : World} {F0 : Nat → Prop} {K : Kp} {ac : List Act} {Q : Exit → Act → World → Prop} {cX : Ctx} {aX : Act} (ho : AllP [((decide ((0 : Int) < (4 : Int))) = true), ((0 : Int) ≤ (0 : Int)), ((0 : Int) < (4 : Int)), (0 < (Ob.k (Ob.fr a))), ((0 : Int) ≤ (0 : Int)), ((0 : Int) < (4 : Int)), (0 < (Ob.k (Ob.fr b))), ((0 : Int) ≤ (0 : Int)), ((0 : Int) < (4 : Int)), ((0 : Int) ≤ (0 : Int)), ((0 : Int) < (4 : Int)), (0 < (Ob.k (Ob.fr a))), ((0 : Int) ≤ (0 : Int)), ((0 : Int) < (4 : Int)), (0 < (Ob.k (Ob.fr b))), ((decide ((limb (Ob.n (Ob.fr a)) 0) < (limb (Ob.n (Ob.fr b)) 0))) = false), ((0 : Int) ≤ (0 : Int)), ((0 : Int) < (4 : Int)), (0 < (Ob.k (Ob.fr a))), ((0 : Int) ≤ (0 : Int)), ((0 : Int) < (4 : Int)), (0 < (Ob.k (Ob.fr b))), (((limb (Ob.n (Ob.fr a)) 0) == (limb (Ob.n (Ob.fr b)) 0)) = true), (((0 : Int) == (1 : Int)) = false)]) (hs : Sim w0 F0 K ac (((rm0 a b : Cfg)).σ) cX aX) (hK : ∀ ac cY aY, Sim w0 F0 K ac (mkSt 45 [2, 3, 4, 5, 6, 7] [(SV.v (V1.c (It.ptr 16 0))), (SV.v (V1.c (It.ptr 32 0))), (SV.v (V1.c (It.ptr 48 0))), (SV.v (V1.c (It.ptr 80 0))), (SV.v (V1.c (It.int IntKind.u64 (0 : Int)))), (SV.v (V1.c (It.int IntKind.i64 (0 : Int))))] [16, 32, 48, 80] [(Option.some (En.fl [(It.ob (Ob.fr a))])), (Option.some (En.fl [(It.ob (Ob.fr b))])), (Option.some (En.fl [(It.ob (Ob.fr (0 : U4)))])), (Option.some (En.fl [(It.int IntKind.u64 (IntKind.wrap IntKind.u64 ((IntKind.wrap IntKind.u64 ((limb (Ob.n (Ob.fr a)) 0) - (limb (Ob.n (Ob.fr b)) 0))) - (0 : Int)))), (It.int IntKind.u64 (0 : Int)), (It.int IntKind.u64 (0 : Int)), (It.int IntKind.u64 (0 : Int))]))] 704 [] []) cY aY → Wq Try.prog Q (rmA0_k) ac Exit.normal aY cY.w) : Wq Try.prog Q (((rm0 a b : Cfg)).k) ac ((rm0 a b : Cfg)).x aX cX.w :=
  run_at envH_ok (rmC0_at a b) (rmC0_hk a b) ho hs hK
theorem rmD0_at (a b : U4) : runAt envH true 42 ((rm0 a b : Cfg)) [true, false, false] [2, 3, 4, 5, 6, 7] [16, 32, 48, 80] [] = some ⟨[((decide ((0 : Int) < (4 : Int))) = true), ((0 : Int) ≤ (0 : Int)), ((0 : Int) < (4 : Int)), (0 < (Ob.k (Ob.fr a))), ((0 : Int) ≤ (0 : Int)), ((0 : Int) < (4 : Int)), (0 < (Ob.k (Ob.fr b))), ((0 : Int) ≤ (0 : Int)), ((0 : Int) < (4 : Int)), ((0 : Int) ≤ (0 : Int)), ((0 : Int) < (4 : Int)), (0 < (Ob.k (Ob.fr a))), ((0 : Int) ≤ (0 : Int)), ((0 : Int) < (4 : Int)), (0 < (Ob.k (Ob.fr b))), ((decide ((limb (Ob.n (Ob.fr a)) 0) < (limb (Ob.n (Ob.fr b)) 0))) = false), ((0 : Int) ≤ (0 : Int)), ((0 : Int) < (4 : Int)), (0 < (Ob.k (Ob.fr a))), ((0 : Int) ≤ (0 : Int)), ((0 : Int) < (4 : Int)), (0 < (Ob.k (Ob.fr b))), (((limb (Ob.n (Ob.fr a)) 0) == (limb (Ob.n (Ob.fr b)) 0)) = false)], Exit.normal, [(SV.v (V1.c (It.ptr 16 0))), (SV.v (V1.c (It.ptr 32 0))), (SV.v (V1.c (It.ptr 48 0))), (SV.v (V1.c (It.ptr 80 0))), (SV.v (V1.c (It.int IntKind.u64 (0 : Int)))), (SV.v (V1.c (It.int IntKind.i64 (0 : Int))))], [(Option.some (En.fl [(It.ob (Ob.fr a))])), (Option.some (En.fl [(It.ob (Ob.fr b))])), (Option.some (En.fl [(It.ob (Ob.fr (0 : U4)))])), (Option.some (En.fl [(It.int IntKind.u64 (IntKind.wrap IntKind.u64 ((IntKind.wrap IntKind.u64 ((limb (Ob.n (Ob.fr a)) 0) - (limb (Ob.n (Ob.fr b)) 0))) - (0 : Int)))), (It.int IntKind.u64 (0 : Int)), (It.int IntKind.u64 (0 : Int)), (It.int IntKind.u64 (0 : Int))]))], 45, 704, []⟩ := by kernel_rfl
theorem rmD0_hk (a b : U4) : (run envH true 42 ((rm0 a b : Cfg)) [true, false, false]).cfg.k = rmA0_k := by kernel_rfl
theorem rmD0 (a b : U4) {w0 : World} {F0 : Nat → Prop} {K : Kp} {ac : List Act} {Q : Exit → Act → World → Prop} {cX : Ctx} {aX : Act} (ho : AllP [((decide ((0 : Int) < (4 : Int))) = true), ((0 : Int) ≤ (0 : Int)), ((0 : Int) < (4 : Int)), (0 < (Ob.k (Ob.fr a))), ((0 : Int) ≤ (0 : Int)), ((0 : Int) < (4 : Int)), (0 < (Ob.k (Ob.fr b))), ((0 : Int) ≤ (0 : Int)), ((0 : Int) < (4 : Int)), ((0 : Int) ≤ (0 : Int)), ((0 : Int) < (4 : Int)), (0 < (Ob.k (Ob.fr a))), ((0 : Int) ≤ (0 : Int)), ((0 : Int) < (4 : Int)), (0 < (Ob.k (Ob.fr b))), ((decide ((limb (Ob.n (Ob.fr a)) 0) < (limb (Ob.n (Ob.fr b)) 0))) = false), ((0 : Int) ≤ (0 : Int)), ((0 : Int) < (4 : Int)), (0 < (Ob.k (Ob.fr a))), ((0 : Int) ≤ (0 : Int)), ((0 : Int) < (4 : Int)), (0 < (Ob.k (Ob.fr b))), (((limb (Ob.n (Ob.fr a)) 0) == (limb (Ob.n (Ob.fr b)) 0)) = false)]) (hs : Sim w0 F0 K ac (((rm0 a b : Cfg)).σ) cX aX) (hK : ∀ ac cY aY, Sim w0 F0 K ac (mkSt 45 [2, 3, 4, 5, 6, 7] [(SV.v (V1.c (It.ptr 16 0))), (SV.v (V1.c (It.ptr 32 0))), (SV.v (V1.c (It.ptr 48 0))), (SV.v (V1.c (It.ptr 80 0))), (SV.v (V1.c (It.int IntKind.u64 (0 : Int)))), (SV.v (V1.c (It.int IntKind.i64 (0 : Int))))] [16, 32, 48, 80] [(Option.some (En.fl [(It.ob (Ob.fr a))])), (Option.some (En.fl [(It.ob (Ob.fr b))])), (Option.some (En.fl [(It.ob (Ob.fr (0 : U4)))])), (Option.some (En.fl [(It.int IntKind.u64 (IntKind.wrap IntKind.u64 ((IntKind.wrap IntKind.u64 ((limb (Ob.n (Ob.fr a)) 0) - (limb (Ob.n (Ob.fr b)) 0))) - (0 : Int)))), (It.int IntKind.u64 (0 : Int)), (It.int IntKind.u64 (0 : Int)), (It.int IntKind.u64 (0 : Int))]))] 704 [] []) cY aY → Wq Try.prog Q (rmA0_k) ac Exit.normal aY cY.w) : Wq Try.prog Q (((rm0 a b : Cfg)).k) ac ((rm0 a b : Cfg)).x aX cX.w :=
  run_at envH_ok (rmD0_at a b) (rmD0_hk a b) ho hs hK
noncomputable def rmS1 (a b : U4) (v0 v1 v2 v3 c : Int) : St := mkSt 45 [2, 3, 4, 5, 6, 7] [(SV.v (V1.c (It.ptr 16 0))), (SV.v (V1.c (It.ptr 32 0))), (SV.v (V1.c (It.ptr 48 0))), (SV.v (V1.c (It.ptr 80 0))), .v (.c (.int .u64 c)), (SV.v (V1.c (It.int IntKind.i64 (0 : Int))))] [16, 32, 48, 80] [(Option.some (En.fl [(It.ob (Ob.fr a))])), (Option.some (En.fl [(It.ob (Ob.fr b))])), (Option.some (En.fl [(It.ob (Ob.fr (0 : U4)))])), some (.fl [.int .u64 v0, .int .u64 v1, .int .u64 v2, .int .u64 v3])] 704 [] []
noncomputable def rmA1_k : List KI := (run envH true 25 ((fun (a b : U4) (v0 v1 v2 v3 c : Int) => (⟨rmA0_k, .normal, rmS1 a b v0 v1 v2 v3 c⟩ : Cfg)) default default default default default default default) [true, true, true]).cfg.k
theorem rmA1_at (a b : U4) (v0 v1 v2 v3 c : Int) : runAt envH true 25 ((⟨rmA0_k, .normal, rmS1 a b v0 v1 v2 v3 c⟩ : Cfg)) [true, true, true] [2, 3, 4, 5, 6, 7] [16, 32, 48, 80] [] = some ⟨[((decide ((1 : Int) < (4 : Int))) = true), ((0 : Int) ≤ (1 : Int)), ((1 : Int) < (4 : Int)), (1 < (Ob.k (Ob.fr a))), ((0 : Int) ≤ (1 : Int)), ((1 : Int) < (4 : Int)), (1 < (Ob.k (Ob.fr b))), ((0 : Int) ≤ (1 : Int)), ((1 : Int) < (4 : Int)), ((0 : Int) ≤ (1 : Int)), ((1 : Int) < (4 : Int)), (1 < (Ob.k (Ob.fr a))), ((0 : Int) ≤ (1 : Int)), ((1 : Int) < (4 : Int)), (1 < (Ob.k (Ob.fr b))), ((decide ((limb (Ob.n (Ob.fr a)) 1) < (limb (Ob.n (Ob.fr b)) 1))) = true)], Exit.normal, [(SV.v (V1.c (It.ptr 16 0))), (SV.v (V1.c (It.ptr 32 0))), (SV.v (V1.c (It.ptr 48 0))), (SV.v (V1.c (It.ptr 80 0))), (SV.v (V1.c (It.int IntKind.u64 (1 : Int)))), (SV.v (V1.c (It.int IntKind.i64 (1 : Int))))], [(Option.some (En.fl [(It.ob (Ob.fr a))])), (Option.some (En.fl [(It.ob (Ob.fr b))])), (Option.some (En.fl [(It.ob (Ob.fr (0 : U4)))])), (Option.some (En.fl [(It.int IntKind.u64 v0), (It.int IntKind.u64 (IntKind.wrap IntKind.u64 ((IntKind.wrap IntKind.u64 ((limb (Ob.n (Ob.fr a)) 1) - (limb (Ob.n (Ob.fr b)) 1))) - c))), (It.int IntKind.u64 v2), (It.int IntKind.u64 v3)]))], 45, 1312, []⟩ := by kernel_rfl
theorem rmA1_hk (a b : U4) (v0 v1 v2 v3 c : Int) : (run envH true 25 ((⟨rmA0_k, .normal, rmS1 a b v0 v1 v2 v3 c⟩ : Cfg)) [true, true, true]).cfg.k = rmA1_k := by kernel_rfl
theorem rmA1 (a b : U4) (v0 v1 v2 v3 c : Int) {w0 : World} {F0 : Nat → Prop} {K : Kp} {ac : List Act} {Q : Exit → Act → World → Prop} {cX : Ctx} {aX : Act} (ho : AllP [((decide ((1 : Int) < (4 : Int))) = true), ((0 : Int) ≤ (1 : Int)), ((1 : Int) < (4 : Int)), (1 < (Ob.k (Ob.fr a))), ((0 : Int) ≤ (1 : Int)), ((1 : Int) < (4 : Int)), (1 < (Ob.k (Ob.fr b))), ((0 : Int) ≤ (1 : Int)), ((1 : Int) < (4 : Int)), ((0 : Int) ≤ (1 : Int)), ((1 : Int) < (4 : Int)), (1 < (Ob.k (Ob.fr a))), ((0 : Int) ≤ (1 : Int)), ((1 : Int) < (4 : Int)), (1 < (Ob.k (Ob.fr b))), ((decide ((limb (Ob.n (Ob.fr a)) 1) < (limb (Ob.n (Ob.fr b)) 1))) = true)]) (hs : Sim w0 F0 K ac (rmS1 a b v0 v1 v2 v3 c) cX aX) (hK : ∀ ac cY aY, Sim w0 F0 K ac (mkSt 45 [2, 3, 4, 5, 6, 7] [(SV.v (V1.c (It.ptr 16 0))), (SV.v (V1.c (It.ptr 32 0))), (SV.v (V1.c (It.ptr 48 0))), (SV.v (V1.c (It.ptr 80 0))), (SV.v (V1.c (It.int IntKind.u64 (1 : Int)))), (SV.v (V1.c (It.int IntKind.i64 (1 : Int))))] [16, 32, 48, 80] [(Option.some (En.fl [(It.ob (Ob.fr a))])), (Option.some (En.fl [(It.ob (Ob.fr b))])), (Option.some (En.fl [(It.ob (Ob.fr (0 : U4)))])), (Option.some (En.fl [(It.int IntKind.u64 v0), (It.int IntKind.u64 (IntKind.wrap IntKind.u64 ((IntKind.wrap IntKind.u64 ((limb (Ob.n (Ob.fr a)) 1) - (limb (Ob.n (Ob.fr b)) 1))) - c))), (It.int IntKind.u64 v2), (It.int IntKind.u64 v3)]))] 1312 [] []) cY aY → Wq Try.prog Q (rmA1_k) ac Exit.normal aY cY.w) : Wq Try.prog Q (rmA0_k) ac .normal aX cX.w :=
  run_at2 envH_ok (rmA1_at a b v0 v1 v2 v3 c) (rmA1_hk a b v0 v1 v2 v3 c) ho hs hK
theorem rmB1_at (a b : U4) (v0 v1 v2 v3 c : Int) : runAt envH true 25 ((⟨rmA0_k, .normal, rmS1 a b v0 v1 v2 v3 c⟩ : Cfg)) [true, true, false, true] [2, 3, 4, 5, 6, 7] [16, 32, 48, 80] [] = some ⟨[((decide ((1 : Int) < (4 : Int))) = true), ((0 : Int) ≤ (1 : Int)), ((1 : Int) < (4 : Int)), (1 < (Ob.k (Ob.fr a))), ((0 : Int) ≤ (1 : Int)), ((1 : Int) < (4 : Int)), (1 < (Ob.k (Ob.fr b))), ((0 : Int) ≤ (1 : Int)), ((1 : Int) < (4 : Int)), ((0 : Int) ≤ (1 : Int)), ((1 : Int) < (4 : Int)), (1 < (Ob.k (Ob.fr a))), ((0 : Int) ≤ (1 : Int)), ((1 : Int) < (4 : Int)), (1 < (Ob.k (Ob.fr b))), ((decide ((limb (Ob.n (Ob.fr a)) 1) < (limb (Ob.n (Ob.fr b)) 1))) = false), ((0 : Int) ≤ (1 : Int)), ((1 : Int) < (4 : Int)), (1 < (Ob.k (Ob.fr a))), ((0 : Int) ≤ (1 : Int)), ((1 : Int) < (4 : Int)), (1 < (Ob.k (Ob.fr b))), (((limb (Ob.n (Ob.fr a)) 1) == (limb (Ob.n (Ob.fr b)) 1)) = true), ((c == (1 : Int)) = true)], Exit.normal, [(SV.v (V1.c (It.ptr 16 0))), (SV.v (V1.c (It.ptr 32 0))), (SV.v (V1.c (It.ptr 48 0))), (SV.v (V1.c (It.ptr 80 0))), (SV.v (V1.c (It.int IntKind.u64 (1 : Int)))), (SV.v (V1.c (It.int IntKind.i64 (1 : Int))))], [(Option.some (En.fl [(It.ob (Ob.fr a))])), (Option.some (En.fl [(It.ob (Ob.fr b))])), (Option.some (En.fl [(It.ob (Ob.fr (0 : U4)))])), (Option.some (En.fl [(It.int IntKind.u64 v0), (It.int IntKind.u64 (IntKind.wrap IntKind.u64 ((IntKind.wrap IntKind.u64 ((limb (Ob.n (Ob.fr a)) 1) - (limb (Ob.n (Ob.fr b)) 1))) - c))), (It.int IntKind.u64 v2), (It.int IntKind.u64 v3)]))], 45, 1312, []⟩ := by kernel_rfl
theorem rmB1_hk (a b : U4) (v0 v1 v2 v3 c : Int) : (run envH true 25 ((⟨rmA0_k, .normal, rmS1 a b v0 v1 v2 v3 c⟩ : Cfg)) [true, true, false, true]).cfg.k = rmA1_k := by kernel_rfl
theorem rmB1 (a b : U4) (v0 v1 v2 v3 c : Int) {w0 : World} {F0 : Nat → Prop} {K : Kp} {ac : List Act} {Q : Exit → Act → World → Prop} {cX : Ctx} {aX : Act} (ho : AllP [((decide ((1 : Int) < (4 : Int))) = true), ((0 : Int) ≤ (1 : Int)), ((1 : Int) < (4 : Int)), (1 < (Ob.k (Ob.fr a))), ((0 : Int) ≤ (1 : Int)), ((1 : Int) < (4 : Int)), (1 < (Ob.k (Ob.fr b))), ((0 : Int) ≤ (1 : Int)), ((1 : Int) < (4 : Int)), ((0 : Int) ≤ (1 : Int)), ((1 : Int) < (4 : Int)), (1 < (Ob.k (Ob.fr a))), ((0 : Int) ≤ (1 : Int)), ((1 : Int) < (4 : Int)), (1 < (Ob.k (Ob.fr b))), ((decide ((limb (Ob.n (Ob.fr a)) 1) < (limb (Ob.n (Ob.fr b)) 1))) = false), ((0 : Int) ≤ (1 : Int)), ((1 : Int) < (4 : Int)), (1 < (Ob.k (Ob.fr a))), ((0 : Int) ≤ (1 : Int)), ((1 : Int) < (4 : Int)), (1 < (Ob.k (Ob.fr b))), (((limb (Ob.n (Ob.fr a)) 1) == (limb (Ob.n (Ob.fr b)) 1)) = true), ((c == (1 : Int)) = true)]) (hs : Sim w0 F0 K ac (rmS1 a b v0 v1 v2 v3 c) cX aX) (hK : ∀ ac cY aY, Sim w0 F0 K ac (mkSt 45 [2, 3, 4, 5, 6, 7] [(SV.v (V1.c (It.ptr 16 0))), (SV.v (V1.c (It.ptr 32 0))), (SV.v (V1.c (It.ptr 48 0))), (SV.v (V1.c (It.ptr 80 0))), (SV.v (V1.c (It.int IntKind.u64 (1 : Int)))), (SV.v (V1.c (It.int IntKind.i64 (1 : Int))))] [16, 32, 48, 80] [(Option.some (En.fl [(It.ob (Ob.fr a))])), (Option.some (En.fl [(It.ob (Ob.fr b))])), (Option.some (En.fl [(It.ob (Ob.fr (0 : U4)))])), (Option.some (En.fl [(It.int IntKind.u64 v0), (It.int IntKind.u64 (IntKind.wrap IntKind.u64 ((IntKind.wrap IntKind.u64 ((limb (Ob.n (Ob.fr a)) 1) - (limb (Ob.n (Ob.fr b)) 1))) - c))), (It.int IntKind.u64 v2), (It.int IntKind.u64 v3)]))] 1312 [] []) cY aY → Wq Try.prog Q (rmA1_k) ac Exit.normal aY cY.w) : Wq Try.prog Q (rmA0_k) ac .normal aX cX.w :=
  run_at2 envH_ok (rmB1_at a b v0 v1 v2 v3 c) (rmB1_hk a b v0 v1 v2 v3 c) ho hs hK
theorem rmC1_at (a b : U4) (v0 v1 v2 v3 c : Int) : runAt envH true 25 ((⟨rmA0_k, .normal, rmS1 a b v0 v1 v2 v3 c⟩ : Cfg)) [true, true, false, false] [2, 3, 4, 5, 6, 7] [16, 32, 48, 80] [] = some ⟨[((decide ((1 : Int) < (4 : Int))) = true), ((0 : Int) ≤ (1 : Int)), ((1 : Int) < (4 : Int)), (1 < (Ob.k (Ob.fr a))), ((0 : Int) ≤ (1 : Int)), ((1 : Int) < (4 : Int)), (1 < (Ob.k (Ob.fr b))), ((0 : Int) ≤ (1 : Int)), ((1 : Int) < (4 : Int)), ((0 : Int) ≤ (1 : Int)), ((1 : Int) < (4 : Int)), (1 < (Ob.k (Ob.fr a))), ((0 : Int) ≤ (1 : Int)), ((1 : Int) < (4 : Int)), (1 < (Ob.k (Ob.fr b))), ((decide ((limb (Ob.n (Ob.fr a)) 1) < (limb (Ob.n (Ob.fr b)) 1))) = false), ((0 : Int) ≤ (1 : Int)), ((1 : Int) < (4 : Int)), (1 < (Ob.k (Ob.fr a))), ((0 : Int) ≤ (1 : Int)), ((1 : Int) < (4 : Int)), (1 < (Ob.k (Ob.fr b))), (((limb (Ob.n (Ob.fr a)) 1) == (limb (Ob.n (Ob.fr b)) 1)) = true), ((c == (1 : Int)) = false)], Exit.normal, [(SV.v (V1.c (It.ptr 16 0))), (SV.v (V1.c (It.ptr 32 0))), (SV.v (V1.c (It.ptr 48 0))), (SV.v (V1.c (It.ptr 80 0))), (SV.v (V1.c (It.int IntKind.u64 (0 : Int)))), (SV.v (V1.c (It.int IntKind.i64 (1 : Int))))], [(Option.some (En.fl [(It.ob (Ob.fr a))])), (Option.some (En.fl [(It.ob (Ob.fr b))])), (Option.some (En.fl [(It.ob (Ob.fr (0 : U4)))])), (Option.some (En.fl [(It.int IntKind.u64 v0), (It.int IntKind.u64 (IntKind.wrap IntKind.u64 ((IntKind.wrap IntKind.u64 ((limb (Ob.n (Ob.fr a)) 1) - (limb (Ob.n (Ob.fr b)) 1))) - c))), (It.int IntKind.u64 v2), (It.int IntKind.u64 v3)]))], 45, 1312, []⟩ := by kernel_rfl
theorem rmC1_hk (a b : U4) (v0 v1 v2 v3 c : Int) : (run envH true 25 ((⟨rmA0_k, .normal, rmS1 a b v0 v1 v2 v3 c⟩ : Cfg)) [true, true, false, false]).cfg.k = rmA1_k := by kernel_rfl
theorem rmC1 (a b : U4) (v0 v1 v2 v3 c : Int) {w0 : World} {F0 : Nat → Prop} {K : Kp} {ac : List Act} {Q : Exit → Act → World → Prop} {cX : Ctx} {aX : Act} (ho : AllP [((decide ((1 : Int) < (4 : Int))) = true), ((0 : Int) ≤ (1 : Int)), ((1 : Int) < (4 : Int)), (1 < (Ob.k (Ob.fr a))), ((0 : Int) ≤ (1 : Int)), ((1 : Int) < (4 : Int)), (1 < (Ob.k (Ob.fr b))), ((0 : Int) ≤ (1 : Int)), ((1 : Int) < (4 : Int)), ((0 : Int) ≤ (1 : Int)), ((1 : Int) < (4 : Int)), (1 < (Ob.k (Ob.fr a))), ((0 : Int) ≤ (1 : Int)), ((1 : Int) < (4 : Int)), (1 < (Ob.k (Ob.fr b))), ((decide ((limb (Ob.n (Ob.fr a)) 1) < (limb (Ob.n (Ob.fr b)) 1))) = false), ((0 : Int) ≤ (1 : Int)), ((1 : Int) < (4 : Int)), (1 < (Ob.k (Ob.fr a))), ((0 : Int) ≤ (1 : Int)), ((1 : Int) < (4 : Int)), (1 < (Ob.k (Ob.fr b))), (((limb (Ob.n (Ob.fr a)) 1) == (limb (Ob.n (Ob.fr b)) 1)) = true), ((c == (1 : Int)) = false)]) (hs : Sim w0 F0 K ac (rmS1 a b v0 v1 v2 v3 c) cX aX) (hK : ∀ ac cY aY, Sim w0 F0 K ac (mkSt 45 [2, 3, 4, 5, 6, 7] [(SV.v (V1.c (It.ptr 16 0))), (SV.v (V1.c (It.ptr 32 0))), (SV.v (V1.c (It.ptr 48 0))), (SV.v (V1.c (It.ptr 80 0))), (SV.v (V1.c (It.int IntKind.u64 (0 : Int)))), (SV.v (V1.c (It.int IntKind.i64 (1 : Int))))] [16, 32, 48, 80] [(Option.some (En.fl [(It.ob (Ob.fr a))])), (Option.some (En.fl [(It.ob (Ob.fr b))])), (Option.some (En.fl [(It.ob (Ob.fr (0 : U4)))])), (Option.some (En.fl [(It.int IntKind.u64 v0), (It.int IntKind.u64 (IntKind.wrap IntKind.u64 ((IntKind.wrap IntKind.u64 ((limb (Ob.n (Ob.fr a)) 1) - (limb (Ob.n (Ob.fr b)) 1))) - c))), (It.int IntKind.u64 v2), (It.int IntKind.u64 v3)]))] 1312 [] []) cY aY → Wq Try.prog Q (rmA1_k) ac Exit.normal aY cY.w) : Wq Try.prog Q (rmA0_k) ac .normal aX cX.w :=
  run_at2 envH_ok (rmC1_at a b v0 v1 v2 v3 c) (rmC1_hk a b v0 v1 v2 v3 c) ho hs hK
theorem rmD1_at (a b : U4) (v0 v1 v2 v3 c : Int) : runAt envH true 25 ((⟨rmA0_k, .normal, rmS1 a b v0 v1 v2 v3 c⟩ : Cfg)) [true, false, false] [2, 3, 4, 5, 6, 7] [16, 32, 48, 80] [] = some ⟨[((decide ((1 : Int) < (4 : Int))) = true), ((0 : Int) ≤ (1 : Int)), ((1 : Int) < (4 : Int)), (1 < (Ob.k (Ob.fr a))), ((0 : Int) ≤ (1 : Int)), ((1 : Int) < (4 : Int)), (1 < (Ob.k (Ob.fr b))), ((0 : Int) ≤ (1 : Int)), ((1 : Int) < (4 : Int)), ((0 : Int) ≤ (1 : Int)), ((1 : Int) < (4 : Int)), (1 < (Ob.k (Ob.fr a))), ((0 : Int) ≤ (1 : Int)), ((1 : Int) < (4 : Int)), (1 < (Ob.k (Ob.fr b))), ((decide ((limb (Ob.n (Ob.fr a)) 1) < (limb (Ob.n (Ob.fr b)) 1))) = false), ((0 : Int) ≤ (1 : Int)), ((1 : Int) < (4 : Int)), (1 < (Ob.k (Ob.fr a))), ((0 : Int) ≤ (1 : Int)), ((1 : Int) < (4 : Int)), (1 < (Ob.k (Ob.fr b))), (((limb (Ob.n (Ob.fr a)) 1) == (limb (Ob.n (Ob.fr b)) 1)) = false)], Exit.normal, [(SV.v (V1.c (It.ptr 16 0))), (SV.v (V1.c (It.ptr 32 0))), (SV.v (V1.c (It.ptr 48 0))), (SV.v (V1.c (It.ptr 80 0))), (SV.v (V1.c (It.int IntKind.u64 (0 : Int)))), (SV.v (V1.c (It.int IntKind.i64 (1 : Int))))], [(Option.some (En.fl [(It.ob (Ob.fr a))])), (Option.some (En.fl [(It.ob (Ob.fr b))])), (Option.some (En.fl [(It.ob (Ob.fr (0 : U4)))])), (Option.some (En.fl [(It.int IntKind.u64 v0), (It.int IntKind.u64 (IntKind.wrap IntKind.u64 ((IntKind.wrap IntKind.u64 ((limb (Ob.n (Ob.fr a)) 1) - (limb (Ob.n (Ob.fr b)) 1))) - c))), (It.int IntKind.u64 v2), (It.int IntKind.u64 v3)]))], 45, 1312, []⟩ := by kernel_rfl
theorem rmD1_hk (a b : U4) (v0 v1 v2 v3 c : Int) : (run envH true 25 ((⟨rmA0_k, .normal, rmS1 a b v0 v1 v2 v3 c⟩ : Cfg)) [true, false, false]).cfg.k = rmA1_k := by kernel_rfl
theorem rmD1 (a b : U4) (v0 v1 v2 v3 c : Int) {w0 : World} {F0 : Nat → Prop} {K : Kp} {ac : List Act} {Q : Exit → Act → World → Prop} {cX : Ctx} {aX : Act} (ho : AllP [((decide ((1 : Int) < (4 : Int))) = true), ((0 : Int) ≤ (1 : Int)), ((1 : Int) < (4 : Int)), (1 < (Ob.k (Ob.fr a))), ((0 : Int) ≤ (1 : Int)), ((1 : Int) < (4 : Int)), (1 < (Ob.k (Ob.fr b))), ((0 : Int) ≤ (1 : Int)), ((1 : Int) < (4 : Int)), ((0 : Int) ≤ (1 : Int)), ((1 : Int) < (4 : Int)), (1 < (Ob.k (Ob.fr a))), ((0 : Int) ≤ (1 : Int)), ((1 : Int) < (4 : Int)), (1 < (Ob.k (Ob.fr b))), ((decide ((limb (Ob.n (Ob.fr a)) 1) < (limb (Ob.n (Ob.fr b)) 1))) = false), ((0 : Int) ≤ (1 : Int)), ((1 : Int) < (4 : Int)), (1 < (Ob.k (Ob.fr a))), ((0 : Int) ≤ (1 : Int)), ((1 : Int) < (4 : Int)), (1 < (Ob.k (Ob.fr b))), (((limb (Ob.n (Ob.fr a)) 1) == (limb (Ob.n (Ob.fr b)) 1)) = false)]) (hs : Sim w0 F0 K ac (rmS1 a b v0 v1 v2 v3 c) cX aX) (hK : ∀ ac cY aY, Sim w0 F0 K ac (mkSt 45 [2, 3, 4, 5, 6, 7] [(SV.v (V1.c (It.ptr 16 0))), (SV.v (V1.c (It.ptr 32 0))), (SV.v (V1.c (It.ptr 48 0))), (SV.v (V1.c (It.ptr 80 0))), (SV.v (V1.c (It.int IntKind.u64 (0 : Int)))), (SV.v (V1.c (It.int IntKind.i64 (1 : Int))))] [16, 32, 48, 80] [(Option.some (En.fl [(It.ob (Ob.fr a))])), (Option.some (En.fl [(It.ob (Ob.fr b))])), (Option.some (En.fl [(It.ob (Ob.fr (0 : U4)))])), (Option.some (En.fl [(It.int IntKind.u64 v0), (It.int IntKind.u64 (IntKind.wrap IntKind.u64 ((IntKind.wrap IntKind.u64 ((limb (Ob.n (Ob.fr a)) 1) - (limb (Ob.n (Ob.fr b)) 1))) - c))), (It.int IntKind.u64 v2), (It.int IntKind.u64 v3)]))] 1312 [] []) cY aY → Wq Try.prog Q (rmA1_k) ac Exit.normal aY cY.w) : Wq Try.prog Q (rmA0_k) ac .normal aX cX.w :=
  run_at2 envH_ok (rmD1_at a b v0 v1 v2 v3 c) (rmD1_hk a b v0 v1 v2 v3 c) ho hs hK
noncomputable def rmS2 (a b : U4) (v0 v1 v2 v3 c : Int) : St := mkSt 45 [2, 3, 4, 5, 6, 7] [(SV.v (V1.c (It.ptr 16 0))), (SV.v (V1.c (It.ptr 32 0))), (SV.v (V1.c (It.ptr 48 0))), (SV.v (V1.c (It.ptr 80 0))), .v (.c (.int .u64 c)), (SV.v (V1.c (It.int IntKind.i64 (1 : Int))))] [16, 32, 48, 80] [(Option.some (En.fl [(It.ob (Ob.fr a))])), (Option.some (En.fl [(It.ob (Ob.fr b))])), (Option.some (En.fl [(It.ob (Ob.fr (0 : U4)))])), some (.fl [.int .u64 v0, .int .u64 v1, .int .u64 v2, .int .u64 v3])] 1312 [] []
noncomputable def rmA2_k : List KI := (run envH true 25 ((fun (a b : U4) (v0 v1 v2 v3 c : Int) => (⟨rmA1_k, .normal, rmS2 a b v0 v1 v2 v3 c⟩ : Cfg)) default default default default default default default) [true, true, true]).cfg.k
theorem rmA2_at (a b : U4) (v0 v1 v2 v3 c : Int) : runAt envH true 25 ((⟨rmA1_k, .normal, rmS2 a b v0 v1 v2 v3 c⟩ : Cfg)) [true, true, true] [2, 3, 4, 5, 6, 7] [16, 32, 48, 80] [] = some ⟨[((decide ((2 : Int) < (4 : Int))) = true), ((0 : Int) ≤ (2 : Int)), ((2 : Int) < (4 : Int)), (2 < (Ob.k (Ob.fr a))), ((0 : Int) ≤ (2 : Int)), ((2 : Int) < (4 : Int)), (2 < (Ob.k (Ob.fr b))), ((0 : Int) ≤ (2 : Int)), ((2 : Int) < (4 : Int)), ((0 : Int) ≤ (2 : Int)), ((2 : Int) < (4 : Int)), (2 < (Ob.k (Ob.fr a))), ((0 : Int) ≤ (2 : Int)), ((2 : Int) < (4 : Int)), (2 < (Ob.k (Ob.fr b))), ((decide ((limb (Ob.n (Ob.fr a)) 2) < (limb (Ob.n (Ob.fr b)) 2))) = true)], Exit.normal, [(SV.v (V1.c (It.ptr 16 0))), (SV.v (V1.c (It.ptr 32 0))), (SV.v (V1.c (It.ptr 48 0))), (SV.v (V1.c (It.ptr 80 0))), (SV.v (V1.c (It.int IntKind.u64 (1 : Int)))), (SV.v (V1.c (It.int IntKind.i64 (2 : Int))))], [(Option.some (En.fl [(It.ob (Ob.fr a))])), (Option.some (En.fl [(It.ob (Ob.fr b))])), (Option.some (En.fl [(It.ob (Ob.fr (0 : U4)))])), (Option.some (En.fl [(It.int IntKind.u64 v0), (It.int IntKind.u64 v1), (It.int IntKind.u64 (IntKind.wrap IntKind.u64 ((IntKind.wrap IntKind.u64 ((limb (Ob.n (Ob.fr a)) 2) - (limb (Ob.n (Ob.fr b)) 2))) - c))), (It.int IntKind.u64 v3)]))], 45, 1920, []⟩ := by kernel_rfl
theorem rmA2_hk (a b : U4) (v0 v1 v2 v3 c : Int) : (run envH true 25 ((⟨rmA1_k, .normal, rmS2 a b v0 v1 v2 v3 c⟩ : Cfg)) [true, true, true]).cfg.k = rmA2_k := by kernel_rfl
theorem rmA2 (a b : U4) (v0 v1 v2 v3 c : Int) {w0 : World} {F0 : Nat → Prop} {K : Kp} {ac : List Act} {Q : Exit → Act → World → Prop} {cX : Ctx} {aX : Act} (ho : AllP [((decide ((2 : Int) < (4 : Int))) = true), ((0 : Int) ≤ (2 : Int)), ((2 : Int) < (4 : Int)), (2 < (Ob.k (Ob.fr a))), ((0 : Int) ≤ (2 : Int)), ((2 : Int) < (4 : Int)), (2 < (Ob.k (Ob.fr b))), ((0 : Int) ≤ (2 : Int)), ((2 : Int) < (4 : Int)), ((0 : Int) ≤ (2 : Int)), ((2 : Int) < (4 : Int)), (2 < (Ob.k (Ob.fr a))), ((0 : Int) ≤ (2 : Int)), ((2 : Int) < (4 : Int)), (2 < (Ob.k (Ob.fr b))), ((decide ((limb (Ob.n (Ob.fr a)) 2) < (limb (Ob.n (Ob.fr b)) 2))) = true)]) (hs : Sim w0 F0 K ac (rmS2 a b v0 v1 v2 v3 c) cX aX) (hK : ∀ ac cY aY, Sim w0 F0 K ac (mkSt 45 [2, 3, 4, 5, 6, 7] [(SV.v (V1.c (It.ptr 16 0))), (SV.v (V1.c (It.ptr 32 0))), (SV.v (V1.c (It.ptr 48 0))), (SV.v (V1.c (It.ptr 80 0))), (SV.v (V1.c (It.int IntKind.u64 (1 : Int)))), (SV.v (V1.c (It.int IntKind.i64 (2 : Int))))] [16, 32, 48, 80] [(Option.some (En.fl [(It.ob (Ob.fr a))])), (Option.some (En.fl [(It.ob (Ob.fr b))])), (Option.some (En.fl [(It.ob (Ob.fr (0 : U4)))])), (Option.some (En.fl [(It.int IntKind.u64 v0), (It.int IntKind.u64 v1), (It.int IntKind.u64 (IntKind.wrap IntKind.u64 ((IntKind.wrap IntKind.u64 ((limb (Ob.n (Ob.fr a)) 2) - (limb (Ob.n (Ob.fr b)) 2))) - c))), (It.int IntKind.u64 v3)]))] 1920 [] []) cY aY → Wq Try.prog Q (rmA2_k) ac Exit.normal aY cY.w) : Wq Try.prog Q (rmA1_k) ac .normal aX cX.w :=
  run_at2 envH_ok (rmA2_at a b v0 v1 v2 v3 c) (rmA2_hk a b v0 v1 v2 v3 c) ho hs hK
theorem rmB2_at (a b : U4) (v0 v1 v2 v3 c : Int) : runAt envH true 25 ((⟨rmA1_k, .normal, rmS2 a b v0 v1 v2 v3 c⟩ : Cfg)) [true, true, false, true] [2, 3, 4, 5, 6, 7] [16, 32, 48, 80] [] = some ⟨[((decide ((2 : Int) < (4 : Int))) = true), ((0 : Int) ≤ (2 : Int)), ((2 : Int) < (4 : Int)), (2 < (Ob.k (Ob.fr a))), ((0 : Int) ≤ (2 : Int)), ((2 : Int) < (4 : Int)), (2 < (Ob.k (Ob.fr b))), ((0 : Int) ≤ (2 : Int)), ((2 : Int) < (4 : Int)), ((0 : Int) ≤ (2 : Int)), ((2 : Int) < (4 : Int)), (2 < (Ob.k (Ob.fr a))), ((0 : Int) ≤ (2 : Int)), ((2 : Int) < (4 : Int)), (2 < (Ob.k (Ob.fr b))), ((decide ((limb (Ob.n (Ob.fr a)) 2) < (limb (Ob.n (Ob.fr b)) 2))) = false), ((0 : Int) ≤ (2 : Int)), ((2 : Int) < (4 : Int)), (2 < (Ob.k (Ob.fr a))), ((0 : Int) ≤ (2 : Int)), ((2 : Int) < (4 : Int)), (2 < (Ob.k (Ob.fr b))), (((limb (Ob.n (Ob.fr a)) 2) == (limb (Ob.n (Ob.fr b)) 2)) = true), ((c == (1 : Int)) = true)], Exit.normal, [(SV.v (V1.c (It.ptr 16 0))), (SV.v (V1.c (It.ptr 32 0))), (SV.v (V1.c (It.ptr 48 0))), (SV.v (V1.c (It.ptr 80 0))), (SV.v (V1.c (It.int IntKind.u64 (1 : Int)))), (SV.v (V1.c (It.int IntKind.i64 (2 : Int))))], [(Option.some (En.fl [(It.ob (Ob.fr a))])), (Option.some (En.fl [(It.ob (Ob.fr b))])), (Option.some (En.fl [(It.ob (Ob.fr (0 : U4)))])), (Option.some (En.fl [(It.int IntKind.u64 v0), (It.int IntKind.u64 v1), (It.int IntKind.u64 (IntKind.wrap IntKind.u64 ((IntKind.wrap IntKind.u64 ((limb (Ob.n (Ob.fr a)) 2) - (limb (Ob.n (Ob.fr b)) 2))) - c))), (It.int IntKind.u64 v3)]))], 45, 1920, []⟩ := by kernel_rfl
theorem rmB2_hk (a b : U4) (v0 v1 v2 v3 c : Int) : (run envH true 25 ((⟨rmA1_k, .normal, rmS2 a b v0 v1 v2 v3 c⟩ : Cfg)) [true, true, false, true]).cfg.k = rmA2_k := by kernel_rfl
theorem rmB2 (a b : U4) (v0 v1 v2 v3 c : Int) {w0 : World} {F0 : Nat → Prop} {K : Kp} {ac : List Act} {Q : Exit → Act → World → Prop} {cX : Ctx} {aX : Act} (ho : AllP [((decide ((2 : Int) < (4 : Int))) = true), ((0 : Int) ≤ (2 : Int)), ((2 : Int) < (4 : Int)), (2 < (Ob.k (Ob.fr a))), ((0 : Int) ≤ (2 : Int)), ((2 : Int) < (4 : Int)), (2 < (Ob.k (Ob.fr b))), ((0 : Int) ≤ (2 : Int)), ((2 : Int) < (4 : Int)), ((0 : Int) ≤ (2 : Int)), ((2 : Int) < (4 : Int)), (2 < (Ob.k (Ob.fr a))), ((0 : Int) ≤ (2 : Int)), ((2 : Int) < (4 : Int)), (2 < (Ob.k (Ob.fr b))), ((decide ((limb (Ob.n (Ob.fr a)) 2) < (limb (Ob.n (Ob.fr b)) 2))) = false), ((0 : Int) ≤ (2 : Int)), ((2 : Int) < (4 : Int)), (2 < (Ob.k (Ob.fr a))), ((0 : Int) ≤ (2 : Int)), ((2 : Int) < (4 : Int)), (2 < (Ob.k (Ob.fr b))), (((limb (Ob.n (Ob.fr a)) 2) == (limb (Ob.n (Ob.fr b)) 2)) = true), ((c == (1 : Int)) = true)]) (hs : Sim w0 F0 K ac (rmS2 a b v0 v1 v2 v3 c) cX aX) (hK : ∀ ac cY aY, Sim w0 F0 K ac (mkSt 45 [2, 3, 4, 5, 6, 7] [(SV.v (V1.c (It.ptr 16 0))), (SV.v (V1.c (It.ptr 32 0))), (SV.v (V1.c (It.ptr 48 0))), (SV.v (V1.c (It.ptr 80 0))), (SV.v (V1.c (It.int IntKind.u64 (1 : Int)))), (SV.v (V1.c (It.int IntKind.i64 (2 : Int))))] [16, 32, 48, 80] [(Option.some (En.fl [(It.ob (Ob.fr a))])), (Option.some (En.fl [(It.ob (Ob.fr b))])), (Option.some (En.fl [(It.ob (Ob.fr (0 : U4)))])), (Option.some (En.fl [(It.int IntKind.u64 v0), (It.int IntKind.u64 v1), (It.int IntKind.u64 (IntKind.wrap IntKind.u64 ((IntKind.wrap IntKind.u64 ((limb (Ob.n (Ob.fr a)) 2) - (limb (Ob.n (Ob.fr b)) 2))) - c))), (It.int IntKind.u64 v3)]))] 1920 [] []) cY aY → Wq Try.prog Q (rmA2_k) ac Exit.normal aY cY.w) : Wq Try.prog Q (rmA1_k) ac .normal aX cX.w :=
  run_at2 envH_ok (rmB2_at a b v0 v1 v2 v3 c) (rmB2_hk a b v0 v1 v2 v3 c) ho hs hK
theorem rmC2_at (a b : U4) (v0 v1 v2 v3 c : Int) : runAt envH true 25 ((⟨rmA1_k, .normal, rmS2 a b v0 v1 v2 v3 c⟩ : Cfg)) [true, true, false, false] [2, 3, 4, 5, 6, 7] [16, 32, 48, 80] [] = some ⟨[((decide ((2 : Int) < (4 : Int))) = true), ((0 : Int) ≤ (2 : Int)), ((2 : Int) < (4 : Int)), (2 < (Ob.k (Ob.fr a))), ((0 : Int) ≤ (2 : Int)), ((2 : Int) < (4 : Int)), (2 < (Ob.k (Ob.fr b))), ((0 : Int) ≤ (2 : Int)), ((2 : Int) < (4 : Int)), ((0 : Int) ≤ (2 : Int)), ((2 : Int) < (4 : Int)), (2 < (Ob.k (Ob.fr a))), ((0 : Int) ≤ (2 : Int)), ((2 : Int) < (4 : Int)), (2 < (Ob.k (Ob.fr b))), ((decide ((limb (Ob.n (Ob.fr a)) 2) < (limb (Ob.n (Ob.fr b)) 2))) = false), ((0 : Int) ≤ (2 : Int)), ((2 : Int) < (4 : Int)), (2 < (Ob.k (Ob.fr a))), ((0 : Int) ≤ (2 : Int)), ((2 : Int) < (4 : Int)), (2 < (Ob.k (Ob.fr b))), (((limb (Ob.n (Ob.fr a)) 2) == (limb (Ob.n (Ob.fr b)) 2)) = true), ((c == (1 : Int)) = false)], Exit.normal, [(SV.v (V1.c (It.ptr 16 0))), (SV.v (V1.c (It.ptr 32 0))), (SV.v (V1.c (It.ptr 48 0))), (SV.v (V1.c (It.ptr 80 0))), (SV.v (V1.c (It.int IntKind.u64 (0 : Int)))), (SV.v (V1.c (It.int IntKind.i64 (2 : Int))))], [(Option.some (En.fl [(It.ob (Ob.fr a))])), (Option.some (En.fl [(It.ob (Ob.fr b))])), (Option.some (En.fl [(It.ob (Ob.fr (0 : U4)))])), (Option.some (En.fl [(It.int IntKind.u64 v0), (It.int IntKind.u64 v1), (It.int IntKind.u64 (IntKind.wrap IntKind.u64 ((IntKind.wrap IntKind.u64 ((limb (Ob.n (Ob.fr a)) 2) - (limb (Ob.n (Ob.fr b)) 2))) - c))), (It.int IntKind.u64 v3)]))], 45, 1920, []⟩ := by kernel_rfl
theorem rmC2_hk (a b : U4) (v0 v1 v2 v3 c : Int) : (run envH true 25 ((⟨rmA1_k, .normal, rmS2 a b v0 v1 v2 v3 c⟩ : Cfg)) [true, true, false, false]).cfg.k = rmA2_k := by kernel_rfl
theorem rmC2 (a b : U4) (v0 v1 v2 v3 c : Int) {w0 : World} {F0 : Nat → Prop} {K : Kp} {ac : List Act} {Q : Exit → Act → World → Prop} {cX : Ctx} {aX : Act} (ho : AllP [((decide ((2 : Int) < (4 : Int))) = true), ((0 : Int) ≤ (2 : Int)), ((2 : Int) < (4 : Int)), (2 < (Ob.k (Ob.fr a))), ((0 : Int) ≤ (2 : Int)), ((2 : Int) < (4 : Int)), (2 < (Ob.k (Ob.fr b))), ((0 : Int) ≤ (2 : Int)), ((2 : Int) < (4 : Int)), ((0 : Int) ≤ (2 : Int)), ((2 : Int) < (4 : Int)), (2 < (Ob.k (Ob.fr a))), ((0 : Int) ≤ (2 : Int)), ((2 : Int) < (4 : Int)), (2 < (Ob.k (Ob.fr b))), ((decide ((limb (Ob.n (Ob.fr a)) 2) < (limb (Ob.n (Ob.fr b)) 2))) = false), ((0 : Int) ≤ (2 : Int)), ((2 : Int) < (4 : Int)), (2 < (Ob.k (Ob.fr a))), ((0 : Int) ≤ (2 : Int)), ((2 : Int) < (4 : Int)), (2 < (Ob.k (Ob.fr b))), (((limb (Ob.n (Ob.fr a)) 2) == (limb (Ob.n (Ob.fr b)) 2)) = true), ((c == (1 : Int)) = false)]) (hs : Sim w0 F0 K ac (rmS2 a b v0 v1 v2 v3 c) cX aX) (hK : ∀ ac cY aY, Sim w0 F0 K ac (mkSt 45 [2, 3, 4, 5, 6, 7] [(SV.v (V1.c (It.ptr 16 0))), (SV.v (V1.c (It.ptr 32 0))), (SV.v (V1.c (It.ptr 48 0))), (SV.v (V1.c (It.ptr 80 0))), (SV.v (V1.c (It.int IntKind.u64 (0 : Int)))), (SV.v (V1.c (It.int IntKind.i64 (2 : Int))))] [16, 32, 48, 80] [(Option.some (En.fl [(It.ob (Ob.fr a))])), (Option.some (En.fl [(It.ob (Ob.fr b))])), (Option.some (En.fl [(It.ob (Ob.fr (0 : U4)))])), (Option.some (En.fl [(It.int IntKind.u64 v0), (It.int IntKind.u64 v1), (It.int IntKind.u64 (IntKind.wrap IntKind.u64 ((IntKind.wrap IntKind.u64 ((limb (Ob.n (Ob.fr a)) 2) - (limb (Ob.n (Ob.fr b)) 2))) - c))), (It.int IntKind.u64 v3)]))] 1920 [] []) cY aY → Wq Try.prog Q (rmA2_k) ac Exit.normal aY cY.w) : Wq Try.prog Q (rmA1_k) ac .normal aX cX.w :=
  run_at2 envH_ok (rmC2_at a b v0 v1 v2 v3 c) (rmC2_hk a b v0 v1 v2 v3 c) ho hs hK
theorem rmD2_at (a b : U4) (v0 v1 v2 v3 c : Int) : runAt envH true 25 ((⟨rmA1_k, .normal, rmS2 a b v0 v1 v2 v3 c⟩ : Cfg)) [true, false, false] [2, 3, 4, 5, 6, 7] [16, 32, 48, 80] [] = some ⟨[((decide ((2 : Int) < (4 : Int))) = true), ((0 : Int) ≤ (2 : Int)), ((2 : Int) < (4 : Int)), (2 < (Ob.k (Ob.fr a))), ((0 : Int) ≤ (2 : Int)), ((2 : Int) < (4 : Int)), (2 < (Ob.k (Ob.fr b))), ((0 : Int) ≤ (2 : Int)), ((2 : Int) < (4 : Int)), ((0 : Int) ≤ (2 : Int)), ((2 : Int) < (4 : Int)), (2 < (Ob.k (Ob.fr a))), ((0 : Int) ≤ (2 : Int)), ((2 : Int) < (4 : Int)), (2 < (Ob.k (Ob.fr b))), ((decide ((limb (Ob.n (Ob.fr a)) 2) < (limb (Ob.n (Ob.fr b)) 2))) = false), ((0 : Int) ≤ (2 : Int)), ((2 : Int) < (4 : Int)), (2 < (Ob.k (Ob.fr a))), ((0 : Int) ≤ (2 : Int)), ((2 : Int) < (4 : Int)), (2 < (Ob.k (Ob.fr b))), (((limb (Ob.n (Ob.fr a)) 2) == (limb (Ob.n (Ob.fr b)) 2)) = false)], Exit.normal, [(SV.v (V1.c (It.ptr 16 0))), (SV.v (V1.c (It.ptr 32 0))), (SV.v (V1.c (It.ptr 48 0))), (SV.v (V1.c (It.ptr 80 0))), (SV.v (V1.c (It.int IntKind.u64 (0 : Int)))), (SV.v (V1.c (It.int IntKind.i64 (2 : Int))))], [(Option.some (En.fl [(It.ob (Ob.fr a))])), (Option.some (En.fl [(It.ob (Ob.fr b))])), (Option.some (En.fl [(It.ob (Ob.fr (0 : U4)))])), (Option.some (En.fl [(It.int IntKind.u64 v0), (It.int IntKind.u64 v1), (It.int IntKind.u64 (IntKind.wrap IntKind.u64 ((IntKind.wrap IntKind.u64 ((limb (Ob.n (Ob.fr a)) 2) - (limb (Ob.n (Ob.fr b)) 2))) - c))), (It.int IntKind.u64 v3)]))], 45, 1920, []⟩ := by kernel_rfl
theorem rmD2_hk (a b : U4) (v0 v1 v2 v3 c : Int) : (run envH true 25 ((⟨rmA1_k, .normal, rmS2 a b v0 v1 v2 v3 c⟩ : Cfg)) [true, false, false]).cfg.k = rmA2_k := by kernel_rfl
theorem rmD2 (a b : U4) (v0 v1 v2 v3 c : Int) {w0 : World} {F0 : Nat → Prop} {K : Kp} {ac : List Act} {Q : Exit → Act → World → Prop} {cX : Ctx} {aX : Act} (ho : AllP [((decide ((2 : Int) < (4 : Int))) = true), ((0 : Int) ≤ (2 : Int)), ((2 : Int) < (4 : Int)), (2 < (Ob.k (Ob.fr a))), ((0 : Int) ≤ (2 : Int)), ((2 : Int) < (4 : Int)), (2 < (Ob.k (Ob.fr b))), ((0 : Int) ≤ (2 : Int)), ((2 : Int) < (4 : Int)), ((0 : Int) ≤ (2 : Int)), ((2 : Int) < (4 : Int)), (2 < (Ob.k (Ob.fr a))), ((0 : Int) ≤ (2 : Int)), ((2 : Int) < (4 : Int)), (2 < (Ob.k (Ob.fr b))), ((decide ((limb (Ob.n (Ob.fr a)) 2) < (limb (Ob.n (Ob.fr b)) 2))) = false), ((0 : Int) ≤ (2 : Int)), ((2 : Int) < (4 : Int)), (2 < (Ob.k (Ob.fr a))), ((0 : Int) ≤ (2 : Int)), ((2 : Int) < (4 : Int)), (2 < (Ob.k (Ob.fr b))), (((limb (Ob.n (Ob.fr a)) 2) == (limb (Ob.n (Ob.fr b)) 2)) = false)]) (hs : Sim w0 F0 K ac (rmS2 a b v0 v1 v2 v3 c) cX aX) (hK : ∀ ac cY aY, Sim w0 F0 K ac (mkSt 45 [2, 3, 4, 5, 6, 7] [(SV.v (V1.c (It.ptr 16 0))), (SV.v (V1.c (It.ptr 32 0))), (SV.v (V1.c (It.ptr 48 0))), (SV.v (V1.c (It.ptr 80 0))), (SV.v (V1.c (It.int IntKind.u64 (0 : Int)))), (SV.v (V1.c (It.int IntKind.i64 (2 : Int))))] [16, 32, 48, 80] [(Option.some (En.fl [(It.ob (Ob.fr a))])), (Option.some (En.fl [(It.ob (Ob.fr b))])), (Option.some (En.fl [(It.ob (Ob.fr (0 : U4)))])), (Option.some (En.fl [(It.int IntKind.u64 v0), (It.int IntKind.u64 v1), (It.int IntKind.u64 (IntKind.wrap IntKind.u64 ((IntKind.wrap IntKind.u64 ((limb (Ob.n (Ob.fr a)) 2) - (limb (Ob.n (Ob.fr b)) 2))) - c))), (It.int IntKind.u64 v3)]))] 1920 [] []) cY aY → Wq Try.prog Q (rmA2_k) ac Exit.normal aY cY.w) : Wq Try.prog Q (rmA1_k) ac .normal aX cX.w :=
  run_at2 envH_ok (rmD2_at a b v0 v1 v2 v3 c) (rmD2_hk a b v0 v1 v2 v3 c) ho hs hK
noncomputable def rmS3 (a b : U4) (v0 v1 v2 v3 c : Int) : St := mkSt 45 [2, 3, 4, 5, 6, 7] [(SV.v (V1.c (It.ptr 16 0))), (SV.v (V1.c (It.ptr 32 0))), (SV.v (V1.c (It.ptr 48 0))), (SV.v (V1.c (It.ptr 80 0))), .v (.c (.int .u64 c)), (SV.v (V1.c (It.int IntKind.i64 (2 : Int))))] [16, 32, 48, 80] [(Option.some (En.fl [(It.ob (Ob.fr a))])), (Option.some (En.fl [(It.ob (Ob.fr b))])), (Option.some (En.fl [(It.ob (Ob.fr (0 : U4)))])), some (.fl [.int .u64 v0, .int .u64 v1, .int .u64 v2, .int .u64 v3])] 1920 [] []
noncomputable def rmA3_k : List KI := (run envH true 25 ((fun (a b : U4) (v0 v1 v2 v3 c : Int) => (⟨rmA2_k, .normal, rmS3 a b v0 v1 v2 v3 c⟩ : Cfg)) default default default default default default default) [true, true, true]).cfg.k
theorem rmA3_at (a b : U4) (v0 v1 v2 v3 c : Int) : runAt envH true 25 ((⟨rmA2_k, .normal, rmS3 a b v0 v1 v2 v3 c⟩ : Cfg)) [true, true, true] [2, 3, 4, 5, 6, 7] [16, 32, 48, 80] [] = some ⟨[((decide ((3 : Int) < (4 : Int))) = true), ((0 : Int) ≤ (3 : Int)), ((3 : Int) < (4 : Int)), (3 < (Ob.k (Ob.fr a))), ((0 : Int) ≤ (3 : Int)), ((3 : Int) < (4 : Int)), (3 < (Ob.k (Ob.fr b))), ((0 : Int) ≤ (3 : Int)), ((3 : Int) < (4 : Int)), ((0 : Int) ≤ (3 : Int)), ((3 : Int) < (4 : Int)), (3 < (Ob.k (Ob.fr a))), ((0 : Int) ≤ (3 : Int)), ((3 : Int) < (4 : Int)), (3 < (Ob.k (Ob.fr b))), ((decide ((limb (Ob.n (Ob.fr a)) 3) < (limb (Ob.n (Ob.fr b)) 3))) = true)], Exit.normal, [(SV.v (V1.c (It.ptr 16 0))), (SV.v (V1.c (It.ptr 32 0))), (SV.v (V1.c (It.ptr 48 0))), (SV.v (V1.c (It.ptr 80 0))), (SV.v (V1.c (It.int IntKind.u64 (1 : Int)))), (SV.v (V1.c (It.int IntKind.i64 (3 : Int))))], [(Option.some (En.fl [(It.ob (Ob.fr a))])), (Option.some (En.fl [(It.ob (Ob.fr b))])), (Option.some (En.fl [(It.ob (Ob.fr (0 : U4)))])), (Option.some (En.fl [(It.int IntKind.u64 v0), (It.int IntKind.u64 v1), (It.int IntKind.u64 v2), (It.int IntKind.u64 (IntKind.wrap IntKind.u64 ((IntKind.wrap IntKind.u64 ((limb (Ob.n (Ob.fr a)) 3) - (limb (Ob.n (Ob.fr b)) 3))) - c)))]))], 45, 2528, []⟩ := by kernel_rfl
theorem rmA3_hk (a b : U4) (v0 v1 v2 v3 c : Int) : (run envH true 25 ((⟨rmA2_k, .normal, rmS3 a b v0 v1 v2 v3 c⟩ : Cfg)) [true, true, true]).cfg.k = rmA3_k := by kernel_rfl
theorem rmA3 (a b : U4) (v0 v1 v2 v3 c : Int) {w0 : World} {F0 : Nat → Prop} {K : Kp} {ac : List Act} {Q : Exit → Act → World → Prop} {cX : Ctx} {aX : Act} (ho : AllP [((decide ((3 : Int) < (4 : Int))) = true), ((0 : Int) ≤ (3 : Int)), ((3 : Int) < (4 : Int)), (3 < (Ob.k (Ob.fr a))), ((0 : Int) ≤ (3 : Int)), ((3 : Int) < (4 : Int)), (3 < (Ob.k (Ob.fr b))), ((0 : Int) ≤ (3 : Int)), ((3 : Int) < (4 : Int)), ((0 : Int) ≤ (3 : Int)), ((3 : Int) < (4 : Int)), (3 < (Ob.k (Ob.fr a))), ((0 : Int) ≤ (3 : Int)), ((3 : Int) < (4 : Int)), (3 < (Ob.k (Ob.fr b))), ((decide ((limb (Ob.n (Ob.fr a)) 3) < (limb (Ob.n (Ob.fr b)) 3))) = true)]) (hs : Sim w0 F0 K ac (rmS3 a b v0 v1 v2 v3 c) cX aX) (hK : ∀ ac cY aY, Sim w0 F0 K ac (mkSt 45 [2, 3, 4, 5, 6, 7] [(SV.v (V1.c (It.ptr 16 0))), (SV.v (V1.c (It.ptr 32 0))), (SV.v (V1.c (It.ptr 48 0))), (SV.v (V1.c (It.ptr 80 0))), (SV.v (V1.c (It.int IntKind.u64 (1 : Int)))), (SV.v (V1.c (It.int IntKind.i64 (3 : Int))))] [16, 32, 48, 80] [(Option.some (En.fl [(It.ob (Ob.fr a))])), (Option.some (En.fl [(It.ob (Ob.fr b))])), (Option.some (En.fl [(It.ob (Ob.fr (0 : U4)))])), (Option.some (En.fl [(It.int IntKind.u64 v0), (It.int IntKind.u64 v1), (It.int IntKind.u64 v2), (It.int IntKind.u64 (IntKind.wrap IntKind.u64 ((IntKind.wrap IntKind.u64 ((limb (Ob.n (Ob.fr a)) 3) - (limb (Ob.n (Ob.fr b)) 3))) - c)))]))] 2528 [] []) cY aY → Wq Try.prog Q (rmA3_k) ac Exit.normal aY cY.w) : Wq Try.prog Q (rmA2_k) ac .normal aX cX.w :=
  run_at2 envH_ok (rmA3_at a b v0 v1 v2 v3 c) (rmA3_hk a b v0 v1 v2 v3 c) ho hs hK
theorem rmB3_at (a b : U4) (v0 v1 v2 v3 c : Int) : runAt envH true 25 ((⟨rmA2_k, .normal, rmS3 a b v0 v1 v2 v3 c⟩ : Cfg)) [true, true, false, true] [2, 3, 4, 5, 6, 7] [16, 32, 48, 80] [] = some ⟨[((decide ((3 : Int) < (4 : Int))) = true), ((0 : Int) ≤ (3 : Int)), ((3 : Int) < (4 : Int)), (3 < (Ob.k (Ob.fr a))), ((0 : Int) ≤ (3 : Int)), ((3 : Int) < (4 : Int)), (3 < (Ob.k (Ob.fr b))), ((0 : Int) ≤ (3 : Int)), ((3 : Int) < (4 : Int)), ((0 : Int) ≤ (3 : Int)), ((3 : Int) < (4 : Int)), (3 < (Ob.k (Ob.fr a))), ((0 : Int) ≤ (3 : Int)), ((3 : Int) < (4 : Int)), (3 < (Ob.k (Ob.fr b))), ((decide ((limb (Ob.n (Ob.fr a)) 3) < (limb (Ob.n (Ob.fr b)) 3))) = false), ((0 : Int) ≤ (3 : Int)), ((3 : Int) < (4 : Int)), (3 < (Ob.k (Ob.fr a))), ((0 : Int) ≤ (3 : Int)), ((3 : Int) < (4 : Int)), (3 < (Ob.k (Ob.fr b))), (((limb (Ob.n (Ob.fr a)) 3) == (limb (Ob.n (Ob.fr b)) 3)) = true), ((c == (1 : Int)) = true)], Exit.normal, [(SV.v (V1.c (It.ptr 16 0))), (SV.v (V1.c (It.ptr 32 0))), (SV.v (V1.c (It.ptr 48 0))), (SV.v (V1.c (It.ptr 80 0))), (SV.v (V1.c (It.int IntKind.u64 (1 : Int)))), (SV.v (V1.c (It.int IntKind.i64 (3 : Int))))], [(Option.some (En.fl [(It.ob (Ob.fr a))])), (Option.some (En.fl [(It.ob (Ob.fr b))])), (Option.some (En.fl [(It.ob (Ob.fr (0 : U4)))])), (Option.some (En.fl [(It.int IntKind.u64 v0), (It.int IntKind.u64 v1), (It.int IntKind.u64 v2), (It.int IntKind.u64 (IntKind.wrap IntKind.u64 ((IntKind.wrap IntKind.u64 ((limb (Ob.n (Ob.fr a)) 3) - (limb (Ob.n (Ob.fr b)) 3))) - c)))]))], 45, 2528, []⟩ := by kernel_rfl
theorem rmB3_hk (a b : U4) (v0 v1 v2 v3 c : Int) : (run envH true 25 ((⟨rmA2_k, .normal, rmS3 a b v0 v1 v2 v3 c⟩ : Cfg)) [true, true, false, true]).cfg.k = rmA3_k := by kernel_rfl
theorem rmB3 (a b : U4) (v0 v1 v2 v3 c : Int) {w0 : World} {F0 : Nat → Prop} {K : Kp} {ac : List Act} {Q : Exit → Act → World → Prop} {cX : Ctx} {aX : Act} (ho : AllP [((decide ((3 : Int) < (4 : Int))) = true), ((0 : Int) ≤ (3 : Int)), ((3 : Int) < (4 : Int)), (3 < (Ob.k (Ob.fr a))), ((0 : Int) ≤ (3 : Int)), ((3 : Int) < (4 : Int)), (3 < (Ob.k (Ob.fr b))), ((0 : Int) ≤ (3 : Int)), ((3 : Int) < (4 : Int)), ((0 : Int) ≤ (3 : Int)), ((3 : Int) < (4 : Int)), (3 < (Ob.k (Ob.fr a))), ((0 : Int) ≤ (3 : Int)), ((3 : Int) < (4 : Int)), (3 < (Ob.k (Ob.fr b))), ((decide ((limb (Ob.n (Ob.fr a)) 3) < (limb (Ob.n (Ob.fr b)) 3))) = false), ((0 : Int) ≤ (3 : Int)), ((3 : Int) < (4 : Int)), (3 < (Ob.k (Ob.fr a))), ((0 : Int) ≤ (3 : Int)), ((3 : Int) < (4 : Int)), (3 < (Ob.k (Ob.fr b))), (((limb (Ob.n (Ob.fr a)) 3) == (limb (Ob.n (Ob.fr b)) 3)) = true), ((c == (1 : Int)) = true)]) (hs : Sim w0 F0 K ac (rmS3 a b v0 v1 v2 v3 c) cX aX) (hK : ∀ ac cY aY, Sim w0 F0 K ac (mkSt 45 [2, 3, 4, 5, 6, 7] [(SV.v (V1.c (It.ptr 16 0))), (SV.v (V1.c (It.ptr 32 0))), (SV.v (V1.c (It.ptr 48 0))), (SV.v (V1.c (It.ptr 80 0))), (SV.v (V1.c (It.int IntKind.u64 (1 : Int)))), (SV.v (V1.c (It.int IntKind.i64 (3 : Int))))] [16, 32, 48, 80] [(Option.some (En.fl [(It.ob (Ob.fr a))])), (Option.some (En.fl [(It.ob (Ob.fr b))])), (Option.some (En.fl [(It.ob (Ob.fr (0 : U4)))])), (Option.some (En.fl [(It.int IntKind.u64 v0), (It.int IntKind.u64 v1), (It.int IntKind.u64 v2), (It.int IntKind.u64 (IntKind.wrap IntKind.u64 ((IntKind.wrap IntKind.u64 ((limb (Ob.n (Ob.fr a)) 3) - (limb (Ob.n (Ob.fr b)) 3))) - c)))]))] 2528 [] []) cY aY → Wq Try.prog Q (rmA3_k) ac Exit.normal aY cY.w) : Wq Try.prog Q (rmA2_k) ac .normal aX cX.w :=
  run_at2 envH_ok (rmB3_at a b v0 v1 v2 v3 c) (rmB3_hk a b v0 v1 v2 v3 c) ho hs hK
theorem rmC3_at (a b : U4) (v0 v1 v2 v3 c : Int) : runAt envH true 25 ((⟨rmA2_k, .normal, rmS3 a b v0 v1 v2 v3 c⟩ : Cfg)) [true, true, false, false] [2, 3, 4, 5, 6, 7] [16, 32, 48, 80] [] = some ⟨[((decide ((3 : Int) < (4 : Int))) = true), ((0 : Int) ≤ (3 : Int)), ((3 : Int) < (4 : Int)), (3 < (Ob.k (Ob.fr a))), ((0 : Int) ≤ (3 : Int)), ((3 : Int) < (4 : Int)), (3 < (Ob.k (Ob.fr b))), ((0 : Int) ≤ (3 : Int)), ((3 : Int) < (4 : Int)), ((0 : Int) ≤ (3 : Int)), ((3 : Int) < (4 : Int)), (3 < (Ob.k (Ob.fr a))), ((0 : Int) ≤ (3 : Int)), ((3 : Int) < (4 : Int)), (3 < (Ob.k (Ob.fr b))), ((decide ((limb (Ob.n (Ob.fr a)) 3) < (limb (Ob.n (Ob.fr b)) 3))) = false), ((0 : Int) ≤ (3 : Int)), ((3 : Int) < (4 : Int)), (3 < (Ob.k (Ob.fr a))), ((0 : Int) ≤ (3 : Int)), ((3 : Int) < (4 : Int)), (3 < (Ob.k (Ob.fr b))), (((limb (Ob.n (Ob.fr a)) 3) == (limb (Ob.n (Ob.fr b)) 3)) = true), ((c == (1 : Int)) = false)], Exit.normal, [(SV.v (V1.c (It.ptr 16 0))), (SV.v (V1.c (It.ptr 32 0))), (SV.v (V1.c (It.ptr 48 0))), (SV.v (V1.c (It.ptr 80 0))), (SV.v (V1.c (It.int IntKind.u64 (0 : Int)))), (SV.v (V1.c (It.int IntKind.i64 (3 : Int))))], [(Option.some (En.fl [(It.ob (Ob.fr a))])), (Option.some (En.fl [(It.ob (Ob.fr b))])), (Option.some (En.fl [(It.ob (Ob.fr (0 : U4)))])), (Option.some (En.fl [(It.int IntKind.u64 v0), (It.int IntKind.u64 v1), (It.int IntKind.u64 v2), (It.int IntKind.u64 (IntKind.wrap IntKind.u64 ((IntKind.wrap IntKind.u64 ((limb (Ob.n (Ob.fr a)) 3) - (limb (Ob.n (Ob.fr b)) 3))) - c)))]))], 45, 2528, []⟩ := by kernel_rfl
theorem rmC3_hk (a b : U4) (v0 v1 v2 v3 c : Int) : (run envH true 25 ((⟨rmA2_k, .normal, rmS3 a b v0 v1 v2 v3 c⟩ : Cfg)) [true, true, false, false]).cfg.k = rmA3_k := by kernel_rfl
theorem rmC3 (a b : U4) (v0 v1 v2 v3 c : Int) {w0 : World} {F0 : Nat → Prop} {K : Kp} {ac : List Act} {Q : Exit → Act → World → Prop} {cX : Ctx} {aX : Act} (ho : AllP [((decide ((3 : Int) < (4 : Int))) = true), ((0 : Int) ≤ (3 : Int)), ((3 : Int) < (4 : Int)), (3 < (Ob.k (Ob.fr a))), ((0 : Int) ≤ (3 : Int)), ((3 : Int) < (4 : Int)), (3 < (Ob.k (Ob.fr b))), ((0 : Int) ≤ (3 : Int)), ((3 : Int) < (4 : Int)), ((0 : Int) ≤ (3 : Int)), ((3 : Int) < (4 : Int)), (3 < (Ob.k (Ob.fr a))), ((0 : Int) ≤ (3 : Int)), ((3 : Int) < (4 : Int)), (3 < (Ob.k (Ob.fr b))), ((decide ((limb (Ob.n (Ob.fr a)) 3) < (limb (Ob.n (Ob.fr b)) 3))) = false), ((0 : Int) ≤ (3 : Int)), ((3 : Int) < (4 : Int)), (3 < (Ob.k (Ob.fr a))), ((0 : Int) ≤ (3 : Int)), ((3 : Int) < (4 : Int)), (3 < (Ob.k (Ob.fr b))), (((limb (Ob.n (Ob.fr a)) 3) == (limb (Ob.n (Ob.fr b)) 3)) = true), ((c == (1 : Int)) = false)]) (hs : Sim w0 F0 K ac (rmS3 a b v0 v1 v2 v3 c) cX aX) (hK : ∀ ac cY aY, Sim w0 F0 K ac (mkSt 45 [2, 3, 4, 5, 6, 7] [(SV.v (V1.c (It.ptr 16 0))), (SV.v (V1.c (It.ptr 32 0))), (SV.v (V1.c (It.ptr 48 0))), (SV.v (V1.c (It.ptr 80 0))), (SV.v (V1.c (It.int IntKind.u64 (0 : Int)))), (SV.v (V1.c (It.int IntKind.i64 (3 : Int))))] [16, 32, 48, 80] [(Option.some (En.fl [(It.ob (Ob.fr a))])), (Option.some (En.fl [(It.ob (Ob.fr b))])), (Option.some (En.fl [(It.ob (Ob.fr (0 : U4)))])), (Option.some (En.fl [(It.int IntKind.u64 v0), (It.int IntKind.u64 v1), (It.int IntKind.u64 v2), (It.int IntKind.u64 (IntKind.wrap IntKind.u64 ((IntKind.wrap IntKind.u64 ((limb (Ob.n (Ob.fr a)) 3) - (limb (Ob.n (Ob.fr b)) 3))) - c)))]))] 2528 [] []) cY aY → Wq Try.prog Q (rmA3_k) ac Exit.normal aY cY.w) : Wq Try.prog Q (rmA2_k) ac .normal aX cX.w :=
  run_at2 envH_ok (rmC3_at a b v0 v1 v2 v3 c) (rmC3_hk a b v0 v1 v2 v3 c) ho hs hK
theorem rmD3_at (a b : U4) (v0 v1 v2 v3 c : Int) : runAt envH true 25 ((⟨rmA2_k, .normal, rmS3 a b v0 v1 v2 v3 c⟩ : Cfg)) [true, false, false] [2, 3, 4, 5, 6, 7] [16, 32, 48, 80] [] = some ⟨[((decide ((3 : Int) < (4 : Int))) = true), ((0 : Int) ≤ (3 : Int)), ((3 : Int) < (4 : Int)), (3 < (Ob.k (Ob.fr a))), ((0 : Int) ≤ (3 : Int)), ((3 : Int) < (4 : Int)), (3 < (Ob.k (Ob.fr b))), ((0 : Int) ≤ (3 : Int)), ((3 : Int) < (4 : Int)), ((0 : Int) ≤ (3 : Int)), ((3 : Int) < (4 : Int)), (3 < (Ob.k (Ob.fr a))), ((0 : Int) ≤ (3 : Int)), ((3 : Int) < (4 : Int)), (3 < (Ob.k (Ob.fr b))), ((decide ((limb (Ob.n (Ob.fr a)) 3) < (limb (Ob.n (Ob.fr b)) 3))) = false), ((0 : Int) ≤ (3 : Int)), ((3 : Int) < (4 : Int)), (3 < (Ob.k (Ob.fr a))), ((0 : Int) ≤ (3 : Int)), ((3 : Int) < (4 : Int)), (3 < (Ob.k (Ob.fr b))), (((limb (Ob.n (Ob.fr a)) 3) == (limb (Ob.n (Ob.fr b)) 3)) = false)], Exit.normal, [(SV.v (V1.c (It.ptr 16 0))), (SV.v (V1.c (It.ptr 32 0))), (SV.v (V1.c (It.ptr 48 0))), (SV.v (V1.c (It.ptr 80 0))), (SV.v (V1.c (It.int IntKind.u64 (0 : Int)))), (SV.v (V1.c (It.int IntKind.i64 (3 : Int))))], [(Option.some (En.fl [(It.ob (Ob.fr a))])), (Option.some (En.fl [(It.ob (Ob.fr b))])), (Option.some (En.fl [(It.ob (Ob.fr (0 : U4)))])), (Option.some (En.fl [(It.int IntKind.u64 v0), (It.int IntKind.u64 v1), (It.int IntKind.u64 v2), (It.int IntKind.u64 (IntKind.wrap IntKind.u64 ((IntKind.wrap IntKind.u64 ((limb (Ob.n (Ob.fr a)) 3) - (limb (Ob.n (Ob.fr b)) 3))) - c)))]))], 45, 2528, []⟩ := by kernel_rfl
theorem rmD3_hk (a b : U4) (v0 v1 v2 v3 c : Int) : (run envH true 25 ((⟨rmA2_k, .normal, rmS3 a b v0 v1 v2 v3 c⟩ : Cfg)) [true, false, false]).cfg.k = rmA3_k := by kernel_rfl
theorem rmD3 (a b : U4) (v0 v1 v2 v3 c : Int) {w0 : World} {F0 : Nat → Prop} {K : Kp} {ac : List Act} {Q : Exit → Act → World → Prop} {cX : Ctx} {aX : Act} (ho : AllP [((decide ((3 : Int) < (4 : Int))) = true), ((0 : Int) ≤ (3 : Int)), ((3 : Int) < (4 : Int)), (3 < (Ob.k (Ob.fr a))), ((0 : Int) ≤ (3 : Int)), ((3 : Int) < (4 : Int)), (3 < (Ob.k (Ob.fr b))), ((0 : Int) ≤ (3 : Int)), ((3 : Int) < (4 : Int)), ((0 : Int) ≤ (3 : Int)), ((3 : Int) < (4 : Int)), (3 < (Ob.k (Ob.fr a))), ((0 : Int) ≤ (3 : Int)), ((3 : Int) < (4 : Int)), (3 < (Ob.k (Ob.fr b))), ((decide ((limb (Ob.n (Ob.fr a)) 3) < (limb (Ob.n (Ob.fr b)) 3))) = false), ((0 : Int) ≤ (3 : Int)), ((3 : Int) < (4 : Int)), (3 < (Ob.k (Ob.fr a))), ((0 : Int) ≤ (3 : Int)), ((3 : Int) < (4 : Int)), (3 < (Ob.k (Ob.fr b))), (((limb (Ob.n (Ob.fr a)) 3) == (limb (Ob.n (Ob.fr b)) 3)) = false)]) (hs : Sim w0 F0 K ac (rmS3 a b v0 v1 v2 v3 c) cX aX) (hK : ∀ ac cY aY, Sim w0 F0 K ac (mkSt 45 [2, 3, 4, 5, 6, 7] [(SV.v (V1.c (It.ptr 16 0))), (SV.v (V1.c (It.ptr 32 0))), (SV.v (V1.c (It.ptr 48 0))), (SV.v (V1.c (It.ptr 80 0))), (SV.v (V1.c (It.int IntKind.u64 (0 : Int)))), (SV.v (V1.c (It.int IntKind.i64 (3 : Int))))] [16, 32, 48, 80] [(Option.some (En.fl [(It.ob (Ob.fr a))])), (Option.some (En.fl [(It.ob (Ob.fr b))])), (Option.some (En.fl [(It.ob (Ob.fr (0 : U4)))])), (Option.some (En.fl [(It.int IntKind.u64 v0), (It.int IntKind.u64 v1), (It.int IntKind.u64 v2), (It.int IntKind.u64 (IntKind.wrap IntKind.u64 ((IntKind.wrap IntKind.u64 ((limb (Ob.n (Ob.fr a)) 3) - (limb (Ob.n (Ob.fr b)) 3))) - c)))]))] 2528 [] []) cY aY → Wq Try.prog Q (rmA3_k) ac Exit.normal aY cY.w) : Wq Try.prog Q (rmA2_k) ac .normal aX cX.w :=
  run_at2 envH_ok (rmD3_at a b v0 v1 v2 v3 c) (rmD3_hk a b v0 v1 v2 v3 c) ho hs hK
noncomputable def rmS4 (a b : U4) (v0 v1 v2 v3 c : Int) : St := mkSt 45 [2, 3, 4, 5, 6, 7] [(SV.v (V1.c (It.ptr 16 0))), (SV.v (V1.c (It.ptr 32 0))), (SV.v (V1.c (It.ptr 48 0))), (SV.v (V1.c (It.ptr 80 0))), .v (.c (.int .u64 c)), (SV.v (V1.c (It.int IntKind.i64 (3 : Int))))] [16, 32, 48, 80] [(Option.some (En.fl [(It.ob (Ob.fr a))])), (Option.some (En.fl [(It.ob (Ob.fr b))])), (Option.some (En.fl [(It.ob (Ob.fr (0 : U4)))])), some (.fl [.int .u64 v0, .int .u64 v1, .int .u64 v2, .int .u64 v3])] 2528 [] []
theorem rmX_end (a b : U4) (v0 v1 v2 v3 c : Int) : runEnd envH Try.f79 true 3000 (⟨rmA3_k, .normal, rmS4 a b v0 v1 v2 v3 c⟩) [false] [] [] = (Option.some ([((decide ((4 : Int) < (4 : Int))) = false)], ((SV.v (V1.a [(It.int IntKind.u64 v0), (It.int IntKind.u64 v1), (It.int IntKind.u64 v2), (It.int IntKind.u64 v3)])), []))) := by kernel_rfl
end Go.Proofs.Ytlfllehomhcbfaa

/- The reference's minus: contract. No conditions. -/
namespace Go.Proofs.Ytlfllehomhcbfaa


theorem sub_u4 {a b : U4} {N c : Int} (hN : 0 ≤ N ∧ N < 115792089237316195423570985008687907853269984665640564039457584007913129639936) (_hc : c = 0 ∨ c = 1)
    (h : N = (a.val : Int) - (b.val : Int) + 115792089237316195423570985008687907853269984665640564039457584007913129639936 * c) : ((a - b : U4).val : Int) = N := by
  have ha := a.isLt
  have hb := b.isLt
  have e : (a - b : U4).val = (B4 - b.val + a.val) % B4 := rfl
  rw [e]
  unfold B4 at *
  obtain ⟨_, _⟩ := hN
  omega

theorem borrow_step {a b c : Int} (ha : Lim a) (hb : Lim b) (hc : c = 0 ∨ c = 1) : ∃ c' : Int, (c' = 0 ∨ c' = 1) ∧ (a < b → c' = 1) ∧ (¬ a < b → a = b → c = 1 → c' = 1) ∧ (¬ a < b → a = b → ¬ c = 1 → c' = 0) ∧ (¬ a < b → ¬ a = b → c' = 0) ∧
    IntKind.wrap IntKind.u64 (IntKind.wrap IntKind.u64 (a - b) - c) = a - b - c + 18446744073709551616 * c' := by
  obtain ⟨_, _⟩ := ha
  obtain ⟨_, _⟩ := hb
  rw [wrapU, wrapU]
  refine ⟨if a < b + c then 1 else 0, ?_, ?_, ?_, ?_, ?_, ?_⟩
  · split <;> omega
  · intro h; rw [if_pos (by omega)]
  · intro h1 h2 h3; rw [if_pos (by omega)]
  · intro h1 h2 h3; rw [if_neg (by omega)]
  · intro h1 h2; rw [if_neg (by omega)]
  · split <;> omega

section
variable {w0 : World} {F0 : Nat → Prop} {K : Kp} {ac : List Act} {Q : Exit → Act → World → Prop} {cX : Ctx} {aX : Act}

theorem rmT0 (a b : U4) (hs : Sim w0 F0 K ac (rm0 a b : Cfg).σ cX aX)
    (k : ∀ c' : Int, (c' = 0 ∨ c' = 1) → (IntKind.wrap IntKind.u64 (IntKind.wrap IntKind.u64 ((limb (Ob.n (Ob.fr a)) 0) - (limb (Ob.n (Ob.fr b)) 0)) - 0)) = (limb (Ob.n (Ob.fr a)) 0) - (limb (Ob.n (Ob.fr b)) 0) - 0 + 18446744073709551616 * c' → ∀ ac cY aY, Sim w0 F0 K ac (rmS1 a b (IntKind.wrap IntKind.u64 (IntKind.wrap IntKind.u64 ((limb (Ob.n (Ob.fr a)) 0) - (limb (Ob.n (Ob.fr b)) 0)) - 0)) 0 0 0 c') cY aY → Wq Try.prog Q rmA0_k ac .normal aY cY.w) : Wq Try.prog Q (rm0 a b : Cfg).k ac (rm0 a b : Cfg).x aX cX.w := by
  have hA : Lim (limb (Ob.n (Ob.fr a)) 0) := by obtain ⟨h0, h1, h2, h3, _⟩ := fr_lims a; assumption
  have hB : Lim (limb (Ob.n (Ob.fr b)) 0) := by obtain ⟨h0, h1, h2, h3, _⟩ := fr_lims b; assumption
  obtain ⟨c', h1, hA1, hB1, hC1, hD1, e⟩ := borrow_step (c := 0) hA hB (.inl rfl)
  have sA := @rmA0 a b w0 F0 K ac Q cX aX
  have sB := @rmB0 a b w0 F0 K ac Q cX aX
  have sC := @rmC0 a b w0 F0 K ac Q cX aX
  have sD := @rmD0 a b w0 F0 K ac Q cX aX
  replace k := k c' h1 e
  clear e hA hB
  generalize (limb (Ob.n (Ob.fr a)) 0) = x at *
  generalize (limb (Ob.n (Ob.fr b)) 0) = y at *
  by_cases l1 : x < y
  · rw [hA1 l1] at k
    exact sA (by simp [AllP, Ob.k, l1]) hs k
  · by_cases l2 : x = y
    · by_cases l3 : (0 : Int) = 1
      · rw [hB1 l1 l2 l3] at k
        exact sB (by simp [AllP, Ob.k, l2, l3]) hs k
      · rw [hC1 l1 l2 l3] at k
        exact sC (by simp [AllP, Ob.k, l2]) hs k
    · rw [hD1 l1 l2] at k
      exact sD (by simp [AllP, Ob.k, l1, l2]) hs k

theorem rmT1 (a b : U4) (v0 v1 v2 v3 c : Int) (hc : c = 0 ∨ c = 1) (hs : Sim w0 F0 K ac (rmS1 a b v0 v1 v2 v3 c) cX aX)
    (k : ∀ c' : Int, (c' = 0 ∨ c' = 1) → (IntKind.wrap IntKind.u64 (IntKind.wrap IntKind.u64 ((limb (Ob.n (Ob.fr a)) 1) - (limb (Ob.n (Ob.fr b)) 1)) - c)) = (limb (Ob.n (Ob.fr a)) 1) - (limb (Ob.n (Ob.fr b)) 1) - c + 18446744073709551616 * c' → ∀ ac cY aY, Sim w0 F0 K ac (rmS2 a b v0 (IntKind.wrap IntKind.u64 (IntKind.wrap IntKind.u64 ((limb (Ob.n (Ob.fr a)) 1) - (limb (Ob.n (Ob.fr b)) 1)) - c)) v2 v3 c') cY aY → Wq Try.prog Q rmA1_k ac .normal aY cY.w) : Wq Try.prog Q rmA0_k ac .normal aX cX.w := by
  have hA : Lim (limb (Ob.n (Ob.fr a)) 1) := by obtain ⟨h0, h1, h2, h3, _⟩ := fr_lims a; assumption
  have hB : Lim (limb (Ob.n (Ob.fr b)) 1) := by obtain ⟨h0, h1, h2, h3, _⟩ := fr_lims b; assumption
  obtain ⟨c', h1, hA1, hB1, hC1, hD1, e⟩ := borrow_step (c := c) hA hB hc
  have sA := @rmA1 a b v0 v1 v2 v3 c w0 F0 K ac Q cX aX
  have sB := @rmB1 a b v0 v1 v2 v3 c w0 F0 K ac Q cX aX
  have sC := @rmC1 a b v0 v1 v2 v3 c w0 F0 K ac Q cX aX
  have sD := @rmD1 a b v0 v1 v2 v3 c w0 F0 K ac Q cX aX
  replace k := k c' h1 e
  clear e hA hB
  generalize (limb (Ob.n (Ob.fr a)) 1) = x at *
  generalize (limb (Ob.n (Ob.fr b)) 1) = y at *
  by_cases l1 : x < y
  · rw [hA1 l1] at k
    exact sA (by simp [AllP, Ob.k, l1]) hs k
  · by_cases l2 : x = y
    · by_cases l3 : (c : Int) = 1
      · rw [hB1 l1 l2 l3] at k
        exact sB (by simp [AllP, Ob.k, l2, l3]) hs k
      · rw [hC1 l1 l2 l3] at k
        exact sC (by simp [AllP, Ob.k, l2, l3]) hs k
    · rw [hD1 l1 l2] at k
      exact sD (by simp [AllP, Ob.k, l1, l2]) hs k

theorem rmT2 (a b : U4) (v0 v1 v2 v3 c : Int) (hc : c = 0 ∨ c = 1) (hs : Sim w0 F0 K ac (rmS2 a b v0 v1 v2 v3 c) cX aX)
    (k : ∀ c' : Int, (c' = 0 ∨ c' = 1) → (IntKind.wrap IntKind.u64 (IntKind.wrap IntKind.u64 ((limb (Ob.n (Ob.fr a)) 2) - (limb (Ob.n (Ob.fr b)) 2)) - c)) = (limb (Ob.n (Ob.fr a)) 2) - (limb (Ob.n (Ob.fr b)) 2) - c + 18446744073709551616 * c' → ∀ ac cY aY, Sim w0 F0 K ac (rmS3 a b v0 v1 (IntKind.wrap IntKind.u64 (IntKind.wrap IntKind.u64 ((limb (Ob.n (Ob.fr a)) 2) - (limb (Ob.n (Ob.fr b)) 2)) - c)) v3 c') cY aY → Wq Try.prog Q rmA2_k ac .normal aY cY.w) : Wq Try.prog Q rmA1_k ac .normal aX cX.w := by
  have hA : Lim (limb (Ob.n (Ob.fr a)) 2) := by obtain ⟨h0, h1, h2, h3, _⟩ := fr_lims a; assumption
  have hB : Lim (limb (Ob.n (Ob.fr b)) 2) := by obtain ⟨h0, h1, h2, h3, _⟩ := fr_lims b; assumption
  obtain ⟨c', h1, hA1, hB1, hC1, hD1, e⟩ := borrow_step (c := c) hA hB hc
  have sA := @rmA2 a b v0 v1 v2 v3 c w0 F0 K ac Q cX aX
  have sB := @rmB2 a b v0 v1 v2 v3 c w0 F0 K ac Q cX aX
  have sC := @rmC2 a b v0 v1 v2 v3 c w0 F0 K ac Q cX aX
  have sD := @rmD2 a b v0 v1 v2 v3 c w0 F0 K ac Q cX aX
  replace k := k c' h1 e
  clear e hA hB
  generalize (limb (Ob.n (Ob.fr a)) 2) = x at *
  generalize (limb (Ob.n (Ob.fr b)) 2) = y at *
  by_cases l1 : x < y
  · rw [hA1 l1] at k
    exact sA (by simp [AllP, Ob.k, l1]) hs k
  · by_cases l2 : x = y
    · by_cases l3 : (c : Int) = 1
      · rw [hB1 l1 l2 l3] at k
        exact sB (by simp [AllP, Ob.k, l2, l3]) hs k
      · rw [hC1 l1 l2 l3] at k
        exact sC (by simp [AllP, Ob.k, l2, l3]) hs k
    · rw [hD1 l1 l2] at k
      exact sD (by simp [AllP, Ob.k, l1, l2]) hs k

theorem rmT3 (a b : U4) (v0 v1 v2 v3 c : Int) (hc : c = 0 ∨ c = 1) (hs : Sim w0 F0 K ac (rmS3 a b v0 v1 v2 v3 c) cX aX)
    (k : ∀ c' : Int, (c' = 0 ∨ c' = 1) → (IntKind.wrap IntKind.u64 (IntKind.wrap IntKind.u64 ((limb (Ob.n (Ob.fr a)) 3) - (limb (Ob.n (Ob.fr b)) 3)) - c)) = (limb (Ob.n (Ob.fr a)) 3) - (limb (Ob.n (Ob.fr b)) 3) - c + 18446744073709551616 * c' → ∀ ac cY aY, Sim w0 F0 K ac (rmS4 a b v0 v1 v2 (IntKind.wrap IntKind.u64 (IntKind.wrap IntKind.u64 ((limb (Ob.n (Ob.fr a)) 3) - (limb (Ob.n (Ob.fr b)) 3)) - c)) c') cY aY → Wq Try.prog Q rmA3_k ac .normal aY cY.w) : Wq Try.prog Q rmA2_k ac .normal aX cX.w := by
  have hA : Lim (limb (Ob.n (Ob.fr a)) 3) := by obtain ⟨h0, h1, h2, h3, _⟩ := fr_lims a; assumption
  have hB : Lim (limb (Ob.n (Ob.fr b)) 3) := by obtain ⟨h0, h1, h2, h3, _⟩ := fr_lims b; assumption
  obtain ⟨c', h1, hA1, hB1, hC1, hD1, e⟩ := borrow_step (c := c) hA hB hc
  have sA := @rmA3 a b v0 v1 v2 v3 c w0 F0 K ac Q cX aX
  have sB := @rmB3 a b v0 v1 v2 v3 c w0 F0 K ac Q cX aX
  have sC := @rmC3 a b v0 v1 v2 v3 c w0 F0 K ac Q cX aX
  have sD := @rmD3 a b v0 v1 v2 v3 c w0 F0 K ac Q cX aX
  replace k := k c' h1 e
  clear e hA hB
  generalize (limb (Ob.n (Ob.fr a)) 3) = x at *
  generalize (limb (Ob.n (Ob.fr b)) 3) = y at *
  by_cases l1 : x < y
  · rw [hA1 l1] at k
    exact sA (by simp [AllP, Ob.k, l1]) hs k
  · by_cases l2 : x = y
    · by_cases l3 : (c : Int) = 1
      · rw [hB1 l1 l2 l3] at k
        exact sB (by simp [AllP, Ob.k, l2, l3]) hs k
      · rw [hC1 l1 l2 l3] at k
        exact sC (by simp [AllP, Ob.k, l2, l3]) hs k
    · rw [hD1 l1 l2] at k
      exact sD (by simp [AllP, Ob.k, l1, l2]) hs k

end

theorem minus79_fnd (a b : U4) : FnD Try.prog 79 [.v (.a [.ob (.fr a)]), .v (.a [.ob (.fr b)])] (.v (.a [.ob (.fr (a - b))])) [] := by
  refine fn_start (fn := Try.f79) (c := bodyOf Try.f79) Try.func79 rfl rfl fun x a0 hk hF hs => ?_
  obtain ⟨g0, g1, g2, g3, ha⟩ := fr_lims a
  obtain ⟨h0, h1, h2, h3, hb⟩ := fr_lims b
  refine rmT0 a b hs fun c0 hc0 e0 ac cY aY hs => ?_
  refine rmT1 a b _ _ _ _ c0 hc0 hs fun c1 hc1 e1 ac cY aY hs => ?_
  refine rmT2 a b _ _ _ _ c1 hc1 hs fun c2 hc2 e2 ac cY aY hs => ?_
  refine rmT3 a b _ _ _ _ c2 hc2 hs fun c3 hc3 e3 ac cY aY hs => ?_
  refine run_end2 envH_ok hk hF (rmX_end a b _ _ _ _ c3) (by simp [AllP]) (fun y v hd => ?_) hs
  have l0 := wrap_lim (IntKind.wrap IntKind.u64 (limb (Ob.n (Ob.fr a)) 0 - limb (Ob.n (Ob.fr b)) 0) - 0)
  have l1 := wrap_lim (IntKind.wrap IntKind.u64 (limb (Ob.n (Ob.fr a)) 1 - limb (Ob.n (Ob.fr b)) 1) - c0)
  have l2 := wrap_lim (IntKind.wrap IntKind.u64 (limb (Ob.n (Ob.fr a)) 2 - limb (Ob.n (Ob.fr b)) 2) - c1)
  have l3 := wrap_lim (IntKind.wrap IntKind.u64 (limb (Ob.n (Ob.fr a)) 3 - limb (Ob.n (Ob.fr b)) 3) - c2)
  generalize IntKind.wrap IntKind.u64 (IntKind.wrap IntKind.u64 (limb (Ob.n (Ob.fr a)) 0 - limb (Ob.n (Ob.fr b)) 0) - 0) = u0 at *
  generalize IntKind.wrap IntKind.u64 (IntKind.wrap IntKind.u64 (limb (Ob.n (Ob.fr a)) 1 - limb (Ob.n (Ob.fr b)) 1) - c0) = u1 at *
  generalize IntKind.wrap IntKind.u64 (IntKind.wrap IntKind.u64 (limb (Ob.n (Ob.fr a)) 2 - limb (Ob.n (Ob.fr b)) 2) - c1) = u2 at *
  generalize IntKind.wrap IntKind.u64 (IntKind.wrap IntKind.u64 (limb (Ob.n (Ob.fr a)) 3 - limb (Ob.n (Ob.fr b)) 3) - c2) = u3 at *
  refine ints_ob (o := .fr (a - b)) (Eq.refl 4) (limbsAre4 l0.1 l0.2 l1.1 l1.2 l2.1 l2.2 l3.1 l3.2 ?_) hd
  show ((a - b : U4).val : Int) = num4 u0 u1 u2 u3
  have hN : num4 u0 u1 u2 u3 = num4 (limb (Ob.n (Ob.fr a)) 0) (limb (Ob.n (Ob.fr a)) 1) (limb (Ob.n (Ob.fr a)) 2) (limb (Ob.n (Ob.fr a)) 3) - num4 (limb (Ob.n (Ob.fr b)) 0) (limb (Ob.n (Ob.fr b)) 1) (limb (Ob.n (Ob.fr b)) 2) (limb (Ob.n (Ob.fr b)) 3) + 115792089237316195423570985008687907853269984665640564039457584007913129639936 * c3 := by
    clear ha hb hd hs hk hF l0 l1 l2 l3 g0 g1 g2 g3 h0 h1 h2 h3
    unfold num4
    omega
  rw [← ha, ← hb] at hN
  exact sub_u4 (num4_lt l0 l1 l2 l3) hc3 hN

end Go.Proofs.Ytlfllehomhcbfaa

/- The reference's plus, walked. No conditions. -/
namespace Go.Proofs.Ytlfllehomhcbfaa

noncomputable def rp0 (a b : U4) : Cfg := ⟨[.code (bodyOf Try.f105)], .normal, initSt Try.f105.ntmps [.v (.a [.ob (.fr a)]), .v (.a [.ob (.fr b)])]⟩
--@env envH envH_ok
--@unroll true
noncomputable def rpA0_k : List KI := (run envH true 42 ((fun (a b : U4) => (rp0 a b : Cfg)) default default) [true, true, true]).cfg.k
theorem rpA0_at (a b : U4) : runAt envH true 42 ((rp0 a b : Cfg)) [true, true, true] [2, 3, 4, 5, 6, 7] [16, 32, 48, 80] [] = some ⟨[((decide ((0 : Int) < (4 : Int))) = true), ((0 : Int) ≤ (0 : Int)), ((0 : Int) < (4 : Int)), (0 < (Ob.k (Ob.fr a))), ((0 : Int) ≤ (0 : Int)), ((0 : Int) < (4 : Int)), (0 < (Ob.k (Ob.fr b))), ((0 : Int) ≤ (0 : Int)), ((0 : Int) < (4 : Int)), ((0 : Int) ≤ (0 : Int)), ((0 : Int) < (4 : Int)), ((0 : Int) ≤ (0 : Int)), ((0 : Int) < (4 : Int)), (0 < (Ob.k (Ob.fr a))), ((decide ((IntKind.wrap IntKind.u64 ((IntKind.wrap IntKind.u64 ((limb (Ob.n (Ob.fr a)) 0) + (limb (Ob.n (Ob.fr b)) 0))) + (0 : Int))) < (limb (Ob.n (Ob.fr a)) 0))) = true)], Exit.normal, [(SV.v (V1.c (It.ptr 16 0))), (SV.v (V1.c (It.ptr 32 0))), (SV.v (V1.c (It.ptr 48 0))), (SV.v (V1.c (It.ptr 80 0))), (SV.v (V1.c (It.int IntKind.u64 (1 : Int)))), (SV.v (V1.c (It.int IntKind.i64 (0 : Int))))], [(Option.some (En.fl [(It.ob (Ob.fr a))])), (Option.some (En.fl [(It.ob (Ob.fr b))])), (Option.some (En.fl [(It.ob (Ob.fr (0 : U4)))])), (Option.some (En.fl [(It.int IntKind.u64 (IntKind.wrap IntKind.u64 ((IntKind.wrap IntKind.u64 ((limb (Ob.n (Ob.fr a)) 0) + (limb (Ob.n (Ob.fr b)) 0))) + (0 : Int)))), (It.int IntKind.u64 (0 : Int)), (It.int IntKind.u64 (0 : Int)), (It.int IntKind.u64 (0 : Int))]))], 45, 704, []⟩ := by kernel_rfl
theorem rpA0_hk (a b : U4) : (run envH true 42 ((rp0 a b : Cfg)) [true, true, true]).cfg.k = rpA0_k := by kernel_rfl
theorem rpA0 (a b : U4) {w0 : World} {F0 : Nat → Prop} {K : Kp} {ac : List Act} {Q : Exit → Act → World → Prop} {cX : Ctx} {aX : Act} (ho : AllP [((decide ((0 : Int) < (4 : Int))) = true), ((0 : Int) ≤ (0 : Int)), ((0 : Int) < (4 : Int)), (0 < (Ob.k (Ob.fr a))), ((0 : Int) ≤ (0 : Int)), ((0 : Int) < (4 : Int)), (0 < (Ob.k (Ob.fr b))), ((0 : Int) ≤ (0 : Int)), ((0 : Int) < (4 : Int)), ((0 : Int) ≤ (0 : Int)), ((0 : Int) < (4 : Int)), ((0 : Int) ≤ (0 : Int)), ((0 : Int) < (4 : Int)), (0 < (Ob.k (Ob.fr a))), ((decide ((IntKind.wrap IntKind.u64 ((IntKind.wrap IntKind.u64 ((limb (Ob.n (Ob.fr a)) 0) + (limb (Ob.n (Ob.fr b)) 0))) + (0 : Int))) < (limb (Ob.n (Ob.fr a)) 0))) = true)]) (hs : Sim w0 F0 K ac (((rp0 a b : Cfg)).σ) cX aX) (hK : ∀ ac cY aY, Sim w0 F0 K ac (mkSt 45 [2, 3, 4, 5, 6, 7] [(SV.v (V1.c (It.ptr 16 0))), (SV.v (V1.c (It.ptr 32 0))), (SV.v (V1.c (It.ptr 48 0))), (SV.v (V1.c (It.ptr 80 0))), (SV.v (V1.c (It.int IntKind.u64 (1 : Int)))), (SV.v (V1.c (It.int IntKind.i64 (0 : Int))))] [16, 32, 48, 80] [(Option.some (En.fl [(It.ob (Ob.fr a))])), (Option.some (En.fl [(It.ob (Ob.fr b))])), (Option.some (En.fl [(It.ob (Ob.fr (0 : U4)))])), (Option.some (En.fl [(It.int IntKind.u64 (IntKind.wrap IntKind.u64 ((IntKind.wrap IntKind.u64 ((limb (Ob.n (Ob.fr a)) 0) + (limb (Ob.n (Ob.fr b)) 0))) + (0 : Int)))), (It.int IntKind.u64 (0 : Int)), (It.int IntKind.u64 (0 : Int)), (It.int IntKind.u64 (0 : Int))]))] 704 [] []) cY aY → Wq Try.prog Q (rpA0_k) ac Exit.normal aY cY.w) : Wq Try.prog Q (((rp0 a b : Cfg)).k) ac ((rp0 a b : Cfg)).x aX cX.w :=
  run_at envH_ok (rpA0_at a b) (rpA0_hk a b) ho hs hK
theorem rpB0_at (a b : U4) : runAt envH true 42 ((rp0 a b : Cfg)) [true, true, false, true] [2, 3, 4, 5, 6, 7] [16, 32, 48, 80] [] = some ⟨[((decide ((0 : Int) < (4 : Int))) = true), ((0 : Int) ≤ (0 : Int)), ((0 : Int) < (4 : Int)), (0 < (Ob.k (Ob.fr a))), ((0 : Int) ≤ (0 : Int)), ((0 : Int) < (4 : Int)), (0 < (Ob.k (Ob.fr b))), ((0 : Int) ≤ (0 : Int)), ((0 : Int) < (4 : Int)), ((0 : Int) ≤ (0 : Int)), ((0 : Int) < (4 : Int)), ((0 : Int) ≤ (0 : Int)), ((0 : Int) < (4 : Int)), (0 < (Ob.k (Ob.fr a))), ((decide ((IntKind.wrap IntKind.u64 ((IntKind.wrap IntKind.u64 ((limb (Ob.n (Ob.fr a)) 0) + (limb (Ob.n (Ob.fr b)) 0))) + (0 : Int))) < (limb (Ob.n (Ob.fr a)) 0))) = false), ((0 : Int) ≤ (0 : Int)), ((0 : Int) < (4 : Int)), ((0 : Int) ≤ (0 : Int)), ((0 : Int) < (4 : Int)), (0 < (Ob.k (Ob.fr a))), (((IntKind.wrap IntKind.u64 ((IntKind.wrap IntKind.u64 ((limb (Ob.n (Ob.fr a)) 0) + (limb (Ob.n (Ob.fr b)) 0))) + (0 : Int))) == (limb (Ob.n (Ob.fr a)) 0)) = true), (((0 : Int) == (1 : Int)) = true)], Exit.normal, [(SV.v (V1.c (It.ptr 16 0))), (SV.v (V1.c (It.ptr 32 0))), (SV.v (V1.c (It.ptr 48 0))), (SV.v (V1.c (It.ptr 80 0))), (SV.v (V1.c (It.int IntKind.u64 (1 : Int)))), (SV.v (V1.c (It.int IntKind.i64 (0 : Int))))], [(Option.some (En.fl [(It.ob (Ob.fr a))])), (Option.some (En.fl [(It.ob (Ob.fr b))])), (Option.some (En.fl [(It.ob (Ob.fr (0 : U4)))])), (Option.some (En.fl [(It.int IntKind.u64 (IntKind.wrap IntKind.u64 ((IntKind.wrap IntKind.u64 ((limb (Ob.n (Ob.fr a)) 0) + (limb (Ob.n (Ob.fr b)) 0))) + (0 : Int)))), (It.int IntKind.u64 (0 : Int)), (It.int IntKind.u64 (0 : Int)), (It.int IntKind.u64 (0 : Int))]))], 45, 704, []⟩ := by kernel_rfl
theorem rpB0_hk (a b : U4) : (run envH true 42 ((rp0 a b : Cfg)) [true, true, false, true]).cfg.k = rpA0_k := by kernel_rfl
theorem rpB0 (a b : U4) {w0 : World} {F0 : Nat → Prop} {K : Kp} {ac : List Act} {Q : Exit → Act → World → Prop} {cX : Ctx} {aX : Act} (ho : AllP [((decide ((0 : Int) < (4 : Int))) = true), ((0 : Int) ≤ (0 : Int)), ((0 : Int) < (4 : Int)), (0 < (Ob.k (Ob.fr a))), ((0 : Int) ≤ (0 : Int)), ((0 : Int) < (4 : Int)), (0 < (Ob.k (Ob.fr b))), ((0 : Int) ≤ (0 : Int)), ((0 : Int) < (4 : Int)), ((0 : Int) ≤ (0 : Int)), ((0 : Int) < (4 : Int)), ((0 : Int) ≤ (0 : Int)), ((0 : Int) < (4 : Int)), (0 < (Ob.k (Ob.fr a))), ((decide ((IntKind.wrap IntKind.u64 ((IntKind.wrap IntKind.u64 ((limb (Ob.n (Ob.fr a)) 0) + (limb (Ob.n (Ob.fr b)) 0))) + (0 : Int))) < (limb (Ob.n (Ob.fr a)) 0))) = false), ((0 : Int) ≤ (0 : Int)), ((0 : Int) < (4 : Int)), ((0 : Int) ≤ (0 : Int)), ((0 : Int) < (4 : Int)), (0 < (Ob.k (Ob.fr a))), (((IntKind.wrap IntKind.u64 ((IntKind.wrap IntKind.u64 ((limb (Ob.n (Ob.fr a)) 0) + (limb (Ob.n (Ob.fr b)) 0))) + (0 : Int))) == (limb (Ob.n (Ob.fr a)) 0)) = true), (((0 : Int) == (1 : Int)) = true)]) (hs : Sim w0 F0 K ac (((rp0 a b : Cfg)).σ) cX aX) (hK : ∀ ac cY aY, Sim w0 F0 K ac (mkSt 45 [2, 3, 4, 5, 6, 7] [(SV.v (V1.c (It.ptr 16 0))), (SV.v (V1.c (It.ptr 32 0))), (SV.v (V1.c (It.ptr 48 0))), (SV.v (V1.c (It.ptr 80 0))), (SV.v (V1.c (It.int IntKind.u64 (1 : Int)))), (SV.v (V1.c (It.int IntKind.i64 (0 : Int))))] [16, 32, 48, 80] [(Option.some (En.fl [(It.ob (Ob.fr a))])), (Option.some (En.fl [(It.ob (Ob.fr b))])), (Option.some (En.fl [(It.ob (Ob.fr (0 : U4)))])), (Option.some (En.fl [(It.int IntKind.u64 (IntKind.wrap IntKind.u64 ((IntKind.wrap IntKind.u64 ((limb (Ob.n (Ob.fr a)) 0) + (limb (Ob.n (Ob.fr b)) 0))) + (0 : Int)))), (It.int IntKind.u64 (0 : Int)), (It.int IntKind.u64 (0 : Int)), (It.int IntKind.u64 (0 : Int))]))] 704 [] []) cY aY → Wq Try.prog Q (rpA0_k) ac Exit.normal aY cY.w) : Wq Try.prog Q (((rp0 a b : Cfg)).k) ac ((rp0 a b : Cfg)).x aX cX.w :=
  run_at envH_ok (rpB0_at a b) (rpB0_hk a b) ho hs hK
theorem rpC0_at (a b : U4) : runAt envH true 42 ((rp0 a b : Cfg)) [true, true, false, false] [2, 3, 4, 5, 6, 7] [16, 32, 48, 80] [] = some ⟨[((decide ((0 : Int) < (4 : Int))) = true), ((0 : Int) ≤ (0 : Int)), ((0 : Int) < (4 : Int)), (0 < (Ob.k (Ob.fr a))), ((0 : Int) ≤ (0 : Int)), ((0 : Int) < (4 : Int)), (0 < (Ob.k (Ob.fr b))), ((0 : Int) ≤ (0 : Int)), ((0 : Int) < (4 : Int)), ((0 : Int) ≤ (0 : Int)), ((0 : Int) < (4 : Int)), ((0 : Int) ≤ (0 : Int)), ((0 : Int) < (4 : Int)), (0 < (Ob.k (Ob.fr a))), ((decide ((IntKind.wrap IntKind.u64 ((IntKind.wrap IntKind.u64 ((limb (Ob.n (Ob.fr a)) 0) + (limb (Ob.n (Ob.fr b)) 0))) + (0 : Int))) < (limb (Ob.n (Ob.fr a)) 0))) = false), ((0 : Int) ≤ (0 : Int)), ((0 : Int) < (4 : Int)), ((0 : Int) ≤ (0 : Int)), ((0 : Int) < (4 : Int)), (0 < (Ob.k (Ob.fr a))), (((IntKind.wrap IntKind.u64 ((IntKind.wrap IntKind.u64 ((limb (Ob.n (Ob.fr a)) 0) + (limb (Ob.n (Ob.fr b)) 0))) + (0 : Int))) == (limb (Ob.n (Ob.fr a)) 0)) = true), (((0 : Int) == (1 : Int)) = false)], Exit.normal, [(SV.v (V1.c (It.ptr 16 0))), (SV.v (V1.c (It.ptr 32 0))), (SV.v (V1.c (It.ptr 48 0))), (SV.v (V1.c (It.ptr 80 0))), (SV.v (V1.c (It.int IntKind.u64 (0 : Int)))), (SV.v (V1.c (It.int IntKind.i64 (0 : Int))))], [(Option.some (En.fl [(It.ob (Ob.fr a))])), (Option.some (En.fl [(It.ob (Ob.fr b))])), (Option.some (En.fl [(It.ob (Ob.fr (0 : U4)))])), (Option.some (En.fl [(It.int IntKind.u64 (IntKind.wrap IntKind.u64 ((IntKind.wrap IntKind.u64 ((limb (Ob.n (Ob.fr a)) 0) + (limb (Ob.n (Ob.fr b)) 0))) + (0 : Int)))), (It.int IntKind.u64 (0 : Int)), (It.int IntKind.u64 (0 : Int)), (It.int IntKind.u64 (0 : Int))]))], 45, 704, []⟩ := by kernel_rfl
theorem rpC0_hk (a b : U4) : (run envH true 42 ((rp0 a b : Cfg)) [true, true, false, false]).cfg.k = rpA0_k := by kernel_rfl
theorem rpC0 (a b : U4) {w0 : World} {F0 : Nat → Prop} {K : Kp} {ac : List Act} {Q : Exit → Act → World → Prop} {cX : Ctx} {aX : Act} (ho : AllP [((decide ((0 : Int) < (4 : Int))) = true), ((0 : Int) ≤ (0 : Int)), ((0 : Int) < (4 : Int)), (0 < (Ob.k (Ob.fr a))), ((0 : Int) ≤ (0 : Int)), ((0 : Int) < (4 : Int)), (0 < (Ob.k (Ob.fr b))), ((0 : Int) ≤ (0 : Int)), ((0 : Int) < (4 : Int)), ((0 : Int) ≤ (0 : Int)), ((0 : Int) < (4 : Int)), ((0 : Int) ≤ (0 : Int)), ((0 : Int) < (4 : Int)), (0 < (Ob.k (Ob.fr a))), ((decide ((IntKind.wrap IntKind.u64 ((IntKind.wrap IntKind.u64 ((limb (Ob.n (Ob.fr a)) 0) + (limb (Ob.n (Ob.fr b)) 0))) + (0 : Int))) < (limb (Ob.n (Ob.fr a)) 0))) = false), ((0 : Int) ≤ (0 : Int)), ((0 : Int) < (4 : Int)), ((0 : Int) ≤ (0 : Int)), ((0 : Int) < (4 : Int)), (0 < (Ob.k (Ob.fr a))), (((IntKind.wrap IntKind.u64 ((IntKind.wrap IntKind.u64 ((limb (Ob.n (Ob.fr a)) 0) + (limb (Ob.n (Ob.fr b)) 0))) + (0 : Int))) == (limb (Ob.n (Ob.fr a)) 0)) = true), (((0 : Int) == (1 : Int)) = false)]) (hs : Sim w0 F0 K ac (((rp0 a b : Cfg)).σ) cX aX) (hK : ∀ ac cY aY, Sim w0 F0 K ac (mkSt 45 [2, 3, 4, 5, 6, 7] [(SV.v (V1.c (It.ptr 16 0))), (SV.v (V1.c (It.ptr 32 0))), (SV.v (V1.c (It.ptr 48 0))), (SV.v (V1.c (It.ptr 80 0))), (SV.v (V1.c (It.int IntKind.u64 (0 : Int)))), (SV.v (V1.c (It.int IntKind.i64 (0 : Int))))] [16, 32, 48, 80] [(Option.some (En.fl [(It.ob (Ob.fr a))])), (Option.some (En.fl [(It.ob (Ob.fr b))])), (Option.some (En.fl [(It.ob (Ob.fr (0 : U4)))])), (Option.some (En.fl [(It.int IntKind.u64 (IntKind.wrap IntKind.u64 ((IntKind.wrap IntKind.u64 ((limb (Ob.n (Ob.fr a)) 0) + (limb (Ob.n (Ob.fr b)) 0))) + (0 : Int)))), (It.int IntKind.u64 (0 : Int)), (It.int IntKind.u64 (0 : Int)), (It.int IntKind.u64 (0 : Int))]))] 704 [] []) cY aY → Wq Try.prog Q (rpA0_k) ac Exit.normal aY cY.w) : Wq Try.prog Q (((rp0 a b : Cfg)).k) ac ((rp0 a b : Cfg)).x aX cX.w :=
  run_at envH_ok (rpC0_at a b) (rpC0_hk a b) ho hs hK
theorem rpD0_at (a b : U4) : runAt envH true 42 ((rp0 a b : Cfg)) [true, false, false] [2, 3, 4, 5, 6, 7] [16, 32, 48, 80] [] = some ⟨[((decide ((0 : Int) < (4 : Int))) = true), ((0 : Int) ≤ (0 : Int)), ((0 : Int) < (4 : Int)), (0 < (Ob.k (Ob.fr a))), ((0 : Int) ≤ (0 : Int)), ((0 : Int) < (4 : Int)), (0 < (Ob.k (Ob.fr b))), ((0 : Int) ≤ (0 : Int)), ((0 : Int) < (4 : Int)), ((0 : Int) ≤ (0 : Int)), ((0 : Int) < (4 : Int)), ((0 : Int) ≤ (0 : Int)), ((0 : Int) < (4 : Int)), (0 < (Ob.k (Ob.fr a))), ((decide ((IntKind.wrap IntKind.u64 ((IntKind.wrap IntKind.u64 ((limb (Ob.n (Ob.fr a)) 0) + (limb (Ob.n (Ob.fr b)) 0))) + (0 : Int))) < (limb (Ob.n (Ob.fr a)) 0))) = false), ((0 : Int) ≤ (0 : Int)), ((0 : Int) < (4 : Int)), ((0 : Int) ≤ (0 : Int)), ((0 : Int) < (4 : Int)), (0 < (Ob.k (Ob.fr a))), (((IntKind.wrap IntKind.u64 ((IntKind.wrap IntKind.u64 ((limb (Ob.n (Ob.fr a)) 0) + (limb (Ob.n (Ob.fr b)) 0))) + (0 : Int))) == (limb (Ob.n (Ob.fr a)) 0)) = false)], Exit.normal, [(SV.v (V1.c (It.ptr 16 0))), (SV.v (V1.c (It.ptr 32 0))), (SV.v (V1.c (It.ptr 48 0))), (SV.v (V1.c (It.ptr 80 0))), (SV.v (V1.c (It.int IntKind.u64 (0 : Int)))), (SV.v (V1.c (It.int IntKind.i64 (0 : Int))))], [(Option.some (En.fl [(It.ob (Ob.fr a))])), (Option.some (En.fl [(It.ob (Ob.fr b))])), (Option.some (En.fl [(It.ob (Ob.fr (0 : U4)))])), (Option.some (En.fl [(It.int IntKind.u64 (IntKind.wrap IntKind.u64 ((IntKind.wrap IntKind.u64 ((limb (Ob.n (Ob.fr a)) 0) + (limb (Ob.n (Ob.fr b)) 0))) + (0 : Int)))), (It.int IntKind.u64 (0 : Int)), (It.int IntKind.u64 (0 : Int)), (It.int IntKind.u64 (0 : Int))]))], 45, 704, []⟩ := by kernel_rfl
theorem rpD0_hk (a b : U4) : (run envH true 42 ((rp0 a b : Cfg)) [true, false, false]).cfg.k = rpA0_k := by kernel_rfl
theorem rpD0 (a b : U4) {w0 : World} {F0 : Nat → Prop} {K : Kp} {ac : List Act} {Q : Exit → Act → World → Prop} {cX : Ctx} {aX : Act} (ho : AllP [((decide ((0 : Int) < (4 : Int))) = true), ((0 : Int) ≤ (0 : Int)), ((0 : Int) < (4 : Int)), (0 < (Ob.k (Ob.fr a))), ((0 : Int) ≤ (0 : Int)), ((0 : Int) < (4 : Int)), (0 < (Ob.k (Ob.fr b))), ((0 : Int) ≤ (0 : Int)), ((0 : Int) < (4 : Int)), ((0 : Int) ≤ (0 : Int)), ((0 : Int) < (4 : Int)), ((0 : Int) ≤ (0 : Int)), ((0 : Int) < (4 : Int)), (0 < (Ob.k (Ob.fr a))), ((decide ((IntKind.wrap IntKind.u64 ((IntKind.wrap IntKind.u64 ((limb (Ob.n (Ob.fr a)) 0) + (limb (Ob.n (Ob.fr b)) 0))) + (0 : Int))) < (limb (Ob.n (Ob.fr a)) 0))) = false), ((0 : Int) ≤ (0 : Int)), ((0 : Int) < (4 : Int)), ((0 : Int) ≤ (0 : Int)), ((0 : Int) < (4 : Int)), (0 < (Ob.k (Ob.fr a))), (((IntKind.wrap IntKind.u64 ((IntKind.wrap IntKind.u64 ((limb (Ob.n (Ob.fr a)) 0) + (limb (Ob.n (Ob.fr b)) 0))) + (0 : Int))) == (limb (Ob.n (Ob.fr a)) 0)) = false)]) (hs : Sim w0 F0 K ac (((rp0 a b : Cfg)).σ) cX aX) (hK : ∀ ac cY aY, Sim w0 F0 K ac (mkSt 45 [2, 3, 4, 5, 6, 7] [(SV.v (V1.c (It.ptr 16 0))), (SV.v (V1.c (It.ptr 32 0))), (SV.v (V1.c (It.ptr 48 0))), (SV.v (V1.c (It.ptr 80 0))), (SV.v (V1.c (It.int IntKind.u64 (0 : Int)))), (SV.v (V1.c (It.int IntKind.i64 (0 : Int))))] [16, 32, 48, 80] [(Option.some (En.fl [(It.ob (Ob.fr a))])), (Option.some (En.fl [(It.ob (Ob.fr b))])), (Option.some (En.fl [(It.ob (Ob.fr (0 : U4)))])), (Option.some (En.fl [(It.int IntKind.u64 (IntKind.wrap IntKind.u64 ((IntKind.wrap IntKind.u64 ((limb (Ob.n (Ob.fr a)) 0) + (limb (Ob.n (Ob.fr b)) 0))) + (0 : Int)))), (It.int IntKind.u64 (0 : Int)), (It.int IntKind.u64 (0 : Int)), (It.int IntKind.u64 (0 : Int))]))] 704 [] []) cY aY → Wq Try.prog Q (rpA0_k) ac Exit.normal aY cY.w) : Wq Try.prog Q (((rp0 a b : Cfg)).k) ac ((rp0 a b : Cfg)).x aX cX.w :=
  run_at envH_ok (rpD0_at a b) (rpD0_hk a b) ho hs hK
noncomputable def rpS1 (a b : U4) (v0 v1 v2 v3 c : Int) : St := mkSt 45 [2, 3, 4, 5, 6, 7] [(SV.v (V1.c (It.ptr 16 0))), (SV.v (V1.c (It.ptr 32 0))), (SV.v (V1.c (It.ptr 48 0))), (SV.v (V1.c (It.ptr 80 0))), .v (.c (.int .u64 c)), (SV.v (V1.c (It.int IntKind.i64 (0 : Int))))] [16, 32, 48, 80] [(Option.some (En.fl [(It.ob (Ob.fr a))])), (Option.some (En.fl [(It.ob (Ob.fr b))])), (Option.some (En.fl [(It.ob (Ob.fr (0 : U4)))])), some (.fl [.int .u64 v0, .int .u64 v1, .int .u64 v2, .int .u64 v3])] 704 [] []
noncomputable def rpA1_k : List KI := (run envH true 25 ((fun (a b : U4) (v0 v1 v2 v3 c : Int) => (⟨rpA0_k, .normal, rpS1 a b v0 v1 v2 v3 c⟩ : Cfg)) default default default default default default default) [true, true, true]).cfg.k
theorem rpA1_at (a b : U4) (v0 v1 v2 v3 c : Int) : runAt envH true 25 ((⟨rpA0_k, .normal, rpS1 a b v0 v1 v2 v3 c⟩ : Cfg)) [true, true, true] [2, 3, 4, 5, 6, 7] [16, 32, 48, 80] [] = some ⟨[((decide ((1 : Int) < (4 : Int))) = true), ((0 : Int) ≤ (1 : Int)), ((1 : Int) < (4 : Int)), (1 < (Ob.k (Ob.fr a))), ((0 : Int) ≤ (1 : Int)), ((1 : Int) < (4 : Int)), (1 < (Ob.k (Ob.fr b))), ((0 : Int) ≤ (1 : Int)), ((1 : Int) < (4 : Int)), ((0 : Int) ≤ (1 : Int)), ((1 : Int) < (4 : Int)), ((0 : Int) ≤ (1 : Int)), ((1 : Int) < (4 : Int)), (1 < (Ob.k (Ob.fr a))), ((decide ((IntKind.wrap IntKind.u64 ((IntKind.wrap IntKind.u64 ((limb (Ob.n (Ob.fr a)) 1) + (limb (Ob.n (Ob.fr b)) 1))) + c)) < (limb (Ob.n (Ob.fr a)) 1))) = true)], Exit.normal, [(SV.v (V1.c (It.ptr 16 0))), (SV.v (V1.c (It.ptr 32 0))), (SV.v (V1.c (It.ptr 48 0))), (SV.v (V1.c (It.ptr 80 0))), (SV.v (V1.c (It.int IntKind.u64 (1 : Int)))), (SV.v (V1.c (It.int IntKind.i64 (1 : Int))))], [(Option.some (En.fl [(It.ob (Ob.fr a))])), (Option.some (En.fl [(It.ob (Ob.fr b))])), (Option.some (En.fl [(It.ob (Ob.fr (0 : U4)))])), (Option.some (En.fl [(It.int IntKind.u64 v0), (It.int IntKind.u64 (IntKind.wrap IntKind.u64 ((IntKind.wrap IntKind.u64 ((limb (Ob.n (Ob.fr a)) 1) + (limb (Ob.n (Ob.fr b)) 1))) + c))), (It.int IntKind.u64 v2), (It.int IntKind.u64 v3)]))], 45, 1312, []⟩ := by kernel_rfl
theorem rpA1_hk (a b : U4) (v0 v1 v2 v3 c : Int) : (run envH true 25 ((⟨rpA0_k, .normal, rpS1 a b v0 v1 v2 v3 c⟩ : Cfg)) [true, true, true]).cfg.k = rpA1_k := by kernel_rfl
theorem rpA1 (a b : U4) (v0 v1 v2 v3 c : Int) {w0 : World} {F0 : Nat → Prop} {K : Kp} {ac : List Act} {Q : Exit → Act → World → Prop} {cX : Ctx} {aX : Act} (ho : AllP [((decide ((1 : Int) < (4 : Int))) = true), ((0 : Int) ≤ (1 : Int)), ((1 : Int) < (4 : Int)), (1 < (Ob.k (Ob.fr a))), ((0 : Int) ≤ (1 : Int)), ((1 : Int) < (4 : Int)), (1 < (Ob.k (Ob.fr b))), ((0 : Int) ≤ (1 : Int)), ((1 : Int) < (4 : Int)), ((0 : Int) ≤ (1 : Int)), ((1 : Int) < (4 : Int)), ((0 : Int) ≤ (1 : Int)), ((1 : Int) < (4 : Int)), (1 < (Ob.k (Ob.fr a))), ((decide ((IntKind.wrap IntKind.u64 ((IntKind.wrap IntKind.u64 ((limb (Ob.n (Ob.fr a)) 1) + (limb (Ob.n (Ob.fr b)) 1))) + c)) < (limb (Ob.n (Ob.fr a)) 1))) = true)]) (hs : Sim w0 F0 K ac (rpS1 a b v0 v1 v2 v3 c) cX aX) (hK : ∀ ac cY aY, Sim w0 F0 K ac (mkSt 45 [2, 3, 4, 5, 6, 7] [(SV.v (V1.c (It.ptr 16 0))), (SV.v (V1.c (It.ptr 32 0))), (SV.v (V1.c (It.ptr 48 0))), (SV.v (V1.c (It.ptr 80 0))), (SV.v (V1.c (It.int IntKind.u64 (1 : Int)))), (SV.v (V1.c (It.int IntKind.i64 (1 : Int))))] [16, 32, 48, 80] [(Option.some (En.fl [(It.ob (Ob.fr a))])), (Option.some (En.fl [(It.ob (Ob.fr b))])), (Option.some (En.fl [(It.ob (Ob.fr (0 : U4)))])), (Option.some (En.fl [(It.int IntKind.u64 v0), (It.int IntKind.u64 (IntKind.wrap IntKind.u64 ((IntKind.wrap IntKind.u64 ((limb (Ob.n (Ob.fr a)) 1) + (limb (Ob.n (Ob.fr b)) 1))) + c))), (It.int IntKind.u64 v2), (It.int IntKind.u64 v3)]))] 1312 [] []) cY aY → Wq Try.prog Q (rpA1_k) ac Exit.normal aY cY.w) : Wq Try.prog Q (rpA0_k) ac .normal aX cX.w :=
  run_at2 envH_ok (rpA1_at a b v0 v1 v2 v3 c) (rpA1_hk a b v0 v1 v2 v3 c) ho hs hK
theorem rpB1_at (a b : U4) (v0 v1 v2 v3 c : Int) : runAt envH true 25 ((⟨rpA0_k, .normal, rpS1 a b v0 v1 v2 v3 c⟩ : Cfg)) [true, true, false, true] [2, 3, 4, 5, 6, 7] [16, 32, 48, 80] [] = some ⟨[((decide ((1 : Int) < (4 : Int))) = true), ((0 : Int) ≤ (1 : Int)), ((1 : Int) < (4 : Int)), (1 < (Ob.k (Ob.fr a))), ((0 : Int) ≤ (1 : Int)), ((1 : Int) < (4 : Int)), (1 < (Ob.k (Ob.fr b))), ((0 : Int) ≤ (1 : Int)), ((1 : Int) < (4 : Int)), ((0 : Int) ≤ (1 : Int)), ((1 : Int) < (4 : Int)), ((0 : Int) ≤ (1 : Int)), ((1 : Int) < (4 : Int)), (1 < (Ob.k (Ob.fr a))), ((decide ((IntKind.wrap IntKind.u64 ((IntKind.wrap IntKind.u64 ((limb (Ob.n (Ob.fr a)) 1) + (limb (Ob.n (Ob.fr b)) 1))) + c)) < (limb (Ob.n (Ob.fr a)) 1))) = false), ((0 : Int) ≤ (1 : Int)), ((1 : Int) < (4 : Int)), ((0 : Int) ≤ (1 : Int)), ((1 : Int) < (4 : Int)), (1 < (Ob.k (Ob.fr a))), (((IntKind.wrap IntKind.u64 ((IntKind.wrap IntKind.u64 ((limb (Ob.n (Ob.fr a)) 1) + (limb (Ob.n (Ob.fr b)) 1))) + c)) == (limb (Ob.n (Ob.fr a)) 1)) = true), ((c == (1 : Int)) = true)], Exit.normal, [(SV.v (V1.c (It.ptr 16 0))), (SV.v (V1.c (It.ptr 32 0))), (SV.v (V1.c (It.ptr 48 0))), (SV.v (V1.c (It.ptr 80 0))), (SV.v (V1.c (It.int IntKind.u64 (1 : Int)))), (SV.v (V1.c (It.int IntKind.i64 (1 : Int))))], [(Option.some (En.fl [(It.ob (Ob.fr a))])), (Option.some (En.fl [(It.ob (Ob.fr b))])), (Option.some (En.fl [(It.ob (Ob.fr (0 : U4)))])), (Option.some (En.fl [(It.int IntKind.u64 v0), (It.int IntKind.u64 (IntKind.wrap IntKind.u64 ((IntKind.wrap IntKind.u64 ((limb (Ob.n (Ob.fr a)) 1) + (limb (Ob.n (Ob.fr b)) 1))) + c))), (It.int IntKind.u64 v2), (It.int IntKind.u64 v3)]))], 45, 1312, []⟩ := by kernel_rfl
theorem rpB1_hk (a b : U4) (v0 v1 v2 v3 c : Int) : (run envH true 25 ((⟨rpA0_k, .normal, rpS1 a b v0 v1 v2 v3 c⟩ : Cfg)) [true, true, false, true]).cfg.k = rpA1_k := by kernel_rfl
theorem rpB1 (a b : U4) (v0 v1 v2 v3 c : Int) {w0 : World} {F0 : Nat → Prop} {K : Kp} {ac : List Act} {Q : Exit → Act → World → Prop} {cX : Ctx} {aX : Act} (ho : AllP [((decide ((1 : Int) < (4 : Int))) = true), ((0 : Int) ≤ (1 : Int)), ((1 : Int) < (4 : Int)), (1 < (Ob.k (Ob.fr a))), ((0 : Int) ≤ (1 : Int)), ((1 : Int) < (4 : Int)), (1 < (Ob.k (Ob.fr b))), ((0 : Int) ≤ (1 : Int)), ((1 : Int) < (4 : Int)), ((0 : Int) ≤ (1 : Int)), ((1 : Int) < (4 : Int)), ((0 : Int) ≤ (1 : Int)), ((1 : Int) < (4 : Int)), (1 < (Ob.k (Ob.fr a))), ((decide ((IntKind.wrap IntKind.u64 ((IntKind.wrap IntKind.u64 ((limb (Ob.n (Ob.fr a)) 1) + (limb (Ob.n (Ob.fr b)) 1))) + c)) < (limb (Ob.n (Ob.fr a)) 1))) = false), ((0 : Int) ≤ (1 : Int)), ((1 : Int) < (4 : Int)), ((0 : Int) ≤ (1 : Int)), ((1 : Int) < (4 : Int)), (1 < (Ob.k (Ob.fr a))), (((IntKind.wrap IntKind.u64 ((IntKind.wrap IntKind.u64 ((limb (Ob.n (Ob.fr a)) 1) + (limb (Ob.n (Ob.fr b)) 1))) + c)) == (limb (Ob.n (Ob.fr a)) 1)) = true), ((c == (1 : Int)) = true)]) (hs : Sim w0 F0 K ac (rpS1 a b v0 v1 v2 v3 c) cX aX) (hK : ∀ ac cY aY, Sim w0 F0 K ac (mkSt 45 [2, 3, 4, 5, 6, 7] [(SV.v (V1.c (It.ptr 16 0))), (SV.v (V1.c (It.ptr 32 0))), (SV.v (V1.c (It.ptr 48 0))), (SV.v (V1.c (It.ptr 80 0))), (SV.v (V1.c (It.int IntKind.u64 (1 : Int)))), (SV.v (V1.c (It.int IntKind.i64 (1 : Int))))] [16, 32, 48, 80] [(Option.some (En.fl [(It.ob (Ob.fr a))])), (Option.some (En.fl [(It.ob (Ob.fr b))])), (Option.some (En.fl [(It.ob (Ob.fr (0 : U4)))])), (Option.some (En.fl [(It.int IntKind.u64 v0), (It.int IntKind.u64 (IntKind.wrap IntKind.u64 ((IntKind.wrap IntKind.u64 ((limb (Ob.n (Ob.fr a)) 1) + (limb (Ob.n (Ob.fr b)) 1))) + c))), (It.int IntKind.u64 v2), (It.int IntKind.u64 v3)]))] 1312 [] []) cY aY → Wq Try.prog Q (rpA1_k) ac Exit.normal aY cY.w) : Wq Try.prog Q (rpA0_k) ac .normal aX cX.w :=
  run_at2 envH_ok (rpB1_at a b v0 v1 v2 v3 c) (rpB1_hk a b v0 v1 v2 v3 c) ho hs hK
theorem rpC1_at (a b : U4) (v0 v1 v2 v3 c : Int) : runAt envH true 25 ((⟨rpA0_k, .normal, rpS1 a b v0 v1 v2 v3 c⟩ : Cfg)) [true, true, false, false] [2, 3, 4, 5, 6, 7] [16, 32, 48, 80] [] = some ⟨[((decide ((1 : Int) < (4 : Int))) = true), ((0 : Int) ≤ (1 : Int)), ((1 : Int) < (4 : Int)), (1 < (Ob.k (Ob.fr a))), ((0 : Int) ≤ (1 : Int)), ((1 : Int) < (4 : Int)), (1 < (Ob.k (Ob.fr b))), ((0 : Int) ≤ (1 : Int)), ((1 : Int) < (4 : Int)), ((0 : Int) ≤ (1 : Int)), ((1 : Int) < (4 : Int)), ((0 : Int) ≤ (1 : Int)), ((1 : Int) < (4 : Int)), (1 < (Ob.k (Ob.fr a))), ((decide ((IntKind.wrap IntKind.u64 ((IntKind.wrap IntKind.u64 ((limb (Ob.n (Ob.fr a)) 1) + (limb (Ob.n (Ob.fr b)) 1))) + c)) < (limb (Ob.n (Ob.fr a)) 1))) = false), ((0 : Int) ≤ (1 : Int)), ((1 : Int) < (4 : Int)), ((0 : Int) ≤ (1 : Int)), ((1 : Int) < (4 : Int)), (1 < (Ob.k (Ob.fr a))), (((IntKind.wrap IntKind.u64 ((IntKind.wrap IntKind.u64 ((limb (Ob.n (Ob.fr a)) 1) + (limb (Ob.n (Ob.fr b)) 1))) + c)) == (limb (Ob.n (Ob.fr a)) 1)) = true), ((c == (1 : Int)) = false)], Exit.normal, [(SV.v (V1.c (It.ptr 16 0))), (SV.v (V1.c (It.ptr 32 0))), (SV.v (V1.c (It.ptr 48 0))), (SV.v (V1.c (It.ptr 80 0))), (SV.v (V1.c (It.int IntKind.u64 (0 : Int)))), (SV.v (V1.c (It.int IntKind.i64 (1 : Int))))], [(Option.some (En.fl [(It.ob (Ob.fr a))])), (Option.some (En.fl [(It.ob (Ob.fr b))])), (Option.some (En.fl [(It.ob (Ob.fr (0 : U4)))])), (Option.some (En.fl [(It.int IntKind.u64 v0), (It.int IntKind.u64 (IntKind.wrap IntKind.u64 ((IntKind.wrap IntKind.u64 ((limb (Ob.n (Ob.fr a)) 1) + (limb (Ob.n (Ob.fr b)) 1))) + c))), (It.int IntKind.u64 v2), (It.int IntKind.u64 v3)]))], 45, 1312, []⟩ := by kernel_rfl
theorem rpC1_hk (a b : U4) (v0 v1 v2 v3 c : Int) : (run envH true 25 ((⟨rpA0_k, .normal, rpS1 a b v0 v1 v2 v3 c⟩ : Cfg)) [true, true, false, false]).cfg.k = rpA1_k := by kernel_rfl
theorem rpC1 (a b : U4) (v0 v1 v2 v3 c : Int) {w0 : World} {F0 : Nat → Prop} {K : Kp} {ac : List Act} {Q : Exit → Act → World → Prop} {cX : Ctx} {aX : Act} (ho : AllP [((decide ((1 : Int) < (4 : Int))) = true), ((0 : Int) ≤ (1 : Int)), ((1 : Int) < (4 : Int)), (1 < (Ob.k (Ob.fr a))), ((0 : Int) ≤ (1 : Int)), ((1 : Int) < (4 : Int)), (1 < (Ob.k (Ob.fr b))), ((0 : Int) ≤ (1 : Int)), ((1 : Int) < (4 : Int)), ((0 : Int) ≤ (1 : Int)), ((1 : Int) < (4 : Int)), ((0 : Int) ≤ (1 : Int)), ((1 : Int) < (4 : Int)), (1 < (Ob.k (Ob.fr a))), ((decide ((IntKind.wrap IntKind.u64 ((IntKind.wrap IntKind.u64 ((limb (Ob.n (Ob.fr a)) 1) + (limb (Ob.n (Ob.fr b)) 1))) + c)) < (limb (Ob.n (Ob.fr a)) 1))) = false), ((0 : Int) ≤ (1 : Int)), ((1 : Int) < (4 : Int)), ((0 : Int) ≤ (1 : Int)), ((1 : Int) < (4 : Int)), (1 < (Ob.k (Ob.fr a))), (((IntKind.wrap IntKind.u64 ((IntKind.wrap IntKind.u64 ((limb (Ob.n (Ob.fr a)) 1) + (limb (Ob.n (Ob.fr b)) 1))) + c)) == (limb (Ob.n (Ob.fr a)) 1)) = true), ((c == (1 : Int)) = false)]) (hs : Sim w0 F0 K ac (rpS1 a b v0 v1 v2 v3 c) cX aX) (hK : ∀ ac cY aY, Sim w0 F0 K ac (mkSt 45 [2, 3, 4, 5, 6, 7] [(SV.v (V1.c (It.ptr 16 0))), (SV.v (V1.c (It.ptr 32 0))), (SV.v (V1.c (It.ptr 48 0))), (SV.v (V1.c (It.ptr 80 0))), (SV.v (V1.c (It.int IntKind.u64 (0 : Int)))), (SV.v (V1.c (It.int IntKind.i64 (1 : Int))))] [16, 32, 48, 80] [(Option.some (En.fl [(It.ob (Ob.fr a))])), (Option.some (En.fl [(It.ob (Ob.fr b))])), (Option.some (En.fl [(It.ob (Ob.fr (0 : U4)))])), (Option.some (En.fl [(It.int IntKind.u64 v0), (It.int IntKind.u64 (IntKind.wrap IntKind.u64 ((IntKind.wrap IntKind.u64 ((limb (Ob.n (Ob.fr a)) 1) + (limb (Ob.n (Ob.fr b)) 1))) + c))), (It.int IntKind.u64 v2), (It.int IntKind.u64 v3)]))] 1312 [] []) cY aY → Wq Try.prog Q (rpA1_k) ac Exit.normal aY cY.w) : Wq Try.prog Q (rpA0_k) ac .normal aX cX.w :=
  run_at2 envH_ok (rpC1_at a b v0 v1 v2 v3 c) (rpC1_hk a b v0 v1 v2 v3 c) ho hs hK
theorem rpD1_at (a b : U4) (v0 v1 v2 v3 c : Int) : runAt envH true 25 ((⟨rpA0_k, .normal, rpS1 a b v0 v1 v2 v3 c⟩ : Cfg)) [true, false, false] [2, 3, 4, 5, 6, 7] [16, 32, 48, 80] [] = some ⟨[((decide ((1 : Int) < (4 : Int))) = true), ((0 : Int) ≤ (1 : Int)), ((1 : Int) < (4 : Int)), (1 < (Ob.k (Ob.fr a))), ((0 : Int) ≤ (1 : Int)), ((1 : Int) < (4 : Int)), (1 < (Ob.k (Ob.fr b))), ((0 : Int) ≤ (1 : Int)), ((1 : Int) < (4 : Int)), ((0 : Int) ≤ (1 : Int)), ((1 : Int) < (4 : Int)), ((0 : Int) ≤ (1 : Int)), ((1 : Int) < (4 : Int)), (1 < (Ob.k (Ob.fr a))), ((decide ((IntKind.wrap IntKind.u64 ((IntKind.wrap IntKind.u64 ((limb (Ob.n (Ob.fr a)) 1) + (limb (Ob.n (Ob.fr b)) 1))) + c)) < (limb (Ob.n (Ob.fr a)) 1))) = false), ((0 : Int) ≤ (1 : Int)), ((1 : Int) < (4 : Int)), ((0 : Int) ≤ (1 : Int)), ((1 : Int) < (4 : Int)), (1 < (Ob.k (Ob.fr a))), (((IntKind.wrap IntKind.u64 ((IntKind.wrap IntKind.u64 ((limb (Ob.n (Ob.fr a)) 1) + (limb (Ob.n (Ob.fr b)) 1))) + c)) == (limb (Ob.n (Ob.fr a)) 1)) = false)], Exit.normal, [(SV.v (V1.c (It.ptr 16 0))), (SV.v (V1.c (It.ptr 32 0))), (SV.v (V1.c (It.ptr 48 0))), (SV.v (V1.c (It.ptr 80 0))), (SV.v (V1.c (It.int IntKind.u64 (0 : Int)))), (SV.v (V1.c (It.int IntKind.i64 (1 : Int))))], [(Option.some (En.fl [(It.ob (Ob.fr a))])), (Option.some (En.fl [(It.ob (Ob.fr b))])), (Option.some (En.fl [(It.ob (Ob.fr (0 : U4)))])), (Option.some (En.fl [(It.int IntKind.u64 v0), (It.int IntKind.u64 (IntKind.wrap IntKind.u64 ((IntKind.wrap IntKind.u64 ((limb (Ob.n (Ob.fr a)) 1) + (limb (Ob.n (Ob.fr b)) 1))) + c))), (It.int IntKind.u64 v2), (It.int IntKind.u64 v3)]))], 45, 1312, []⟩ := by kernel_rfl
theorem rpD1_hk (a b : U4) (v0 v1 v2 v3 c : Int) : (run envH true 25 ((⟨rpA0_k, .normal, rpS1 a b v0 v1 v2 v3 c⟩ : Cfg)) [true, false, false]).cfg.k = rpA1_k := by kernel_rfl
theorem rpD1 (a b : U4) (v0 v1 v2 v3 c : Int) {w0 : World} {F0 : Nat → Prop} {K : Kp} {ac : List Act} {Q : Exit → Act → World → Prop} {cX : Ctx} {aX : Act} (ho : AllP [((decide ((1 : Int) < (4 : Int))) = true), ((0 : Int) ≤ (1 : Int)), ((1 : Int) < (4 : Int)), (1 < (Ob.k (Ob.fr a))), ((0 : Int) ≤ (1 : Int)), ((1 : Int) < (4 : Int)), (1 < (Ob.k (Ob.fr b))), ((0 : Int) ≤ (1 : Int)), ((1 : Int) < (4 : Int)), ((0 : Int) ≤ (1 : Int)), ((1 : Int) < (4 : Int)), ((0 : Int) ≤ (1 : Int)), ((1 : Int) < (4 : Int)), (1 < (Ob.k (Ob.fr a))), ((decide ((IntKind.wrap IntKind.u64 ((IntKind.wrap IntKind.u64 ((limb (Ob.n (Ob.fr a)) 1) + (limb (Ob.n (Ob.fr b)) 1))) + c)) < (limb (Ob.n (Ob.fr a)) 1))) = false), ((0 : Int) ≤ (1 : Int)), ((1 : Int) < (4 : Int)), ((0 : Int) ≤ (1 : Int)), ((1 : Int) < (4 : Int)), (1 < (Ob.k (Ob.fr a))), (((IntKind.wrap IntKind.u64 ((IntKind.wrap IntKind.u64 ((limb (Ob.n (Ob.fr a)) 1) + (limb (Ob.n (Ob.fr b)) 1))) + c)) == (limb (Ob.n (Ob.fr a)) 1)) = false)]) (hs : Sim w0 F0 K ac (rpS1 a b v0 v1 v2 v3 c) cX aX) (hK : ∀ ac cY aY, Sim w0 F0 K ac (mkSt 45 [2, 3, 4, 5, 6, 7] [(SV.v (V1.c (It.ptr 16 0))), (SV.v (V1.c (It.ptr 32 0))), (SV.v (V1.c (It.ptr 48 0))), (SV.v (V1.c (It.ptr 80 0))), (SV.v (V1.c (It.int IntKind.u64 (0 : Int)))), (SV.v (V1.c (It.int IntKind.i64 (1 : Int))))] [16, 32, 48, 80] [(Option.some (En.fl [(It.ob (Ob.fr a))])), (Option.some (En.fl [(It.ob (Ob.fr b))])), (Option.some (En.fl [(It.ob (Ob.fr (0 : U4)))])), (Option.some (En.fl [(It.int IntKind.u64 v0), (It.int IntKind.u64 (IntKind.wrap IntKind.u64 ((IntKind.wrap IntKind.u64 ((limb (Ob.n (Ob.fr a)) 1) + (limb (Ob.n (Ob.fr b)) 1))) + c))), (It.int IntKind.u64 v2), (It.int IntKind.u64 v3)]))] 1312 [] []) cY aY → Wq Try.prog Q (rpA1_k) ac Exit.normal aY cY.w) : Wq Try.prog Q (rpA0_k) ac .normal aX cX.w :=
  run_at2 envH_ok (rpD1_at a b v0 v1 v2 v3 c) (rpD1_hk a b v0 v1 v2 v3 c) ho hs hK
noncomputable def rpS2 (a b : U4) (v0 v1 v2 v3 c : Int) : St := mkSt 45 [2, 3, 4, 5, 6, 7] [(SV.v (V1.c (It.ptr 16 0))), (SV.v (V1.c (It.ptr 32 0))), (SV.v (V1.c (It.ptr 48 0))), (SV.v (V1.c (It.ptr 80 0))), .v (.c (.int .u64 c)), (SV.v (V1.c (It.int IntKind.i64 (1 : Int))))] [16, 32, 48, 80] [(Option.some (En.fl [(It.ob (Ob.fr a))])), (Option.some (En.fl [(It.ob (Ob.fr b))])), (Option.some (En.fl [(It.ob (Ob.fr (0 : U4)))])), some (.fl [.int .u64 v0, .int .u64 v1, .int .u64 v2, .int .u64 v3])] 1312 [] []
noncomputable def rpA2_k : List KI := (run envH true 25 ((fun (a b : U4) (v0 v1 v2 v3 c : Int) => (⟨rpA1_k, .normal, rpS2 a b v0 v1 v2 v3 c⟩ : Cfg)) default default default default default default default) [true, true, true]).cfg.k
theorem rpA2_at (a b : U4) (v0 v1 v2 v3 c : Int) : runAt envH true 25 ((⟨rpA1_k, .normal, rpS2 a b v0 v1 v2 v3 c⟩ : Cfg)) [true, true, true] [2, 3, 4, 5, 6, 7] [16, 32, 48, 80] [] = some ⟨[((decide ((2 : Int) < (4 : Int))) = true), ((0 : Int) ≤ (2 : Int)), ((2 : Int) < (4 : Int)), (2 < (Ob.k (Ob.fr a))), ((0 : Int) ≤ (2 : Int)), ((2 : Int) < (4 : Int)), (2 < (Ob.k (Ob.fr b))), ((0 : Int) ≤ (2 : Int)), ((2 : Int) < (4 : Int)), ((0 : Int) ≤ (2 : Int)), ((2 : Int) < (4 : Int)), ((0 : Int) ≤ (2 : Int)), ((2 : Int) < (4 : Int)), (2 < (Ob.k (Ob.fr a))), ((decide ((IntKind.wrap IntKind.u64 ((IntKind.wrap IntKind.u64 ((limb (Ob.n (Ob.fr a)) 2) + (limb (Ob.n (Ob.fr b)) 2))) + c)) < (limb (Ob.n (Ob.fr a)) 2))) = true)], Exit.normal, [(SV.v (V1.c (It.ptr 16 0))), (SV.v (V1.c (It.ptr 32 0))), (SV.v (V1.c (It.ptr 48 0))), (SV.v (V1.c (It.ptr 80 0))), (SV.v (V1.c (It.int IntKind.u64 (1 : Int)))), (SV.v (V1.c (It.int IntKind.i64 (2 : Int))))], [(Option.some (En.fl [(It.ob (Ob.fr a))])), (Option.some (En.fl [(It.ob (Ob.fr b))])), (Option.some (En.fl [(It.ob (Ob.fr (0 : U4)))])), (Option.some (En.fl [(It.int IntKind.u64 v0), (It.int IntKind.u64 v1), (It.int IntKind.u64 (IntKind.wrap IntKind.u64 ((IntKind.wrap IntKind.u64 ((limb (Ob.n (Ob.fr a)) 2) + (limb (Ob.n (Ob.fr b)) 2))) + c))), (It.int IntKind.u64 v3)]))], 45, 1920, []⟩ := by kernel_rfl
theorem rpA2_hk (a b : U4) (v0 v1 v2 v3 c : Int) : (run envH true 25 ((⟨rpA1_k, .normal, rpS2 a b v0 v1 v2 v3 c⟩ : Cfg)) [true, true, true]).cfg.k = rpA2_k := by kernel_rfl
theorem rpA2 (a b : U4) (v0 v1 v2 v3 c : Int) {w0 : World} {F0 : Nat → Prop} {K : Kp} {ac : List Act} {Q : Exit → Act → World → Prop} {cX : Ctx} {aX : Act} (ho : AllP [((decide ((2 : Int) < (4 : Int))) = true), ((0 : Int) ≤ (2 : Int)), ((2 : Int) < (4 : Int)), (2 < (Ob.k (Ob.fr a))), ((0 : Int) ≤ (2 : Int)), ((2 : Int) < (4 : Int)), (2 < (Ob.k (Ob.fr b))), ((0 : Int) ≤ (2 : Int)), ((2 : Int) < (4 : Int)), ((0 : Int) ≤ (2 : Int)), ((2 : Int) < (4 : Int)), ((0 : Int) ≤ (2 : Int)), ((2 : Int) < (4 : Int)), (2 < (Ob.k (Ob.fr a))), ((decide ((IntKind.wrap IntKind.u64 ((IntKind.wrap IntKind.u64 ((limb (Ob.n (Ob.fr a)) 2) + (limb (Ob.n (Ob.fr b)) 2))) + c)) < (limb (Ob.n (Ob.fr a)) 2))) = true)]) (hs : Sim w0 F0 K ac (rpS2 a b v0 v1 v2 v3 c) cX aX) (hK : ∀ ac cY aY, Sim w0 F0 K ac (mkSt 45 [2, 3, 4, 5, 6, 7] [(SV.v (V1.c (It.ptr 16 0))), (SV.v (V1.c (It.ptr 32 0))), (SV.v (V1.c (It.ptr 48 0))), (SV.v (V1.c (It.ptr 80 0))), (SV.v (V1.c (It.int IntKind.u64 (1 : Int)))), (SV.v (V1.c (It.int IntKind.i64 (2 : Int))))] [16, 32, 48, 80] [(Option.some (En.fl [(It.ob (Ob.fr a))])), (Option.some (En.fl [(It.ob (Ob.fr b))])), (Option.some (En.fl [(It.ob (Ob.fr (0 : U4)))])), (Option.some (En.fl [(It.int IntKind.u64 v0), (It.int IntKind.u64 v1), (It.int IntKind.u64 (IntKind.wrap IntKind.u64 ((IntKind.wrap IntKind.u64 ((limb (Ob.n (Ob.fr a)) 2) + (limb (Ob.n (Ob.fr b)) 2))) + c))), (It.int IntKind.u64 v3)]))] 1920 [] []) cY aY → Wq Try.prog Q (rpA2_k) ac Exit.normal aY cY.w) : Wq Try.prog Q (rpA1_k) ac .normal aX cX.w :=
  run_at2 envH_ok (rpA2_at a b v0 v1 v2 v3 c) (rpA2_hk a b v0 v1 v2 v3 c) ho hs hK
theorem rpB2_at (a b : U4) (v0 v1 v2 v3 c : Int) : runAt envH true 25 ((⟨rpA1_k, .normal, rpS2 a b v0 v1 v2 v3 c⟩ : Cfg)) [true, true, false, true] [2, 3, 4, 5, 6, 7] [16, 32, 48, 80] [] = some ⟨[((decide ((2 : Int) < (4 : Int))) = true), ((0 : Int) ≤ (2 : Int)), ((2 : Int) < (4 : Int)), (2 < (Ob.k (Ob.fr a))), ((0 : Int) ≤ (2 : Int)), ((2 : Int) < (4 : Int)), (2 < (Ob.k (Ob.fr b))), ((0 : Int) ≤ (2 : Int)), ((2 : Int) < (4 : Int)), ((0 : Int) ≤ (2 : Int)), ((2 : Int) < (4 : Int)), ((0 : Int) ≤ (2 : Int)), ((2 : Int) < (4 : Int)), (2 < (Ob.k (Ob.fr a))), ((decide ((IntKind.wrap IntKind.u64 ((IntKind.wrap IntKind.u64 ((limb (Ob.n (Ob.fr a)) 2) + (limb (Ob.n (Ob.fr b)) 2))) + c)) < (limb (Ob.n (Ob.fr a)) 2))) = false), ((0 : Int) ≤ (2 : Int)), ((2 : Int) < (4 : Int)), ((0 : Int) ≤ (2 : Int)), ((2 : Int) < (4 : Int)), (2 < (Ob.k (Ob.fr a))), (((IntKind.wrap IntKind.u64 ((IntKind.wrap IntKind.u64 ((limb (Ob.n (Ob.fr a)) 2) + (limb (Ob.n (Ob.fr b)) 2))) + c)) == (limb (Ob.n (Ob.fr a)) 2)) = true), ((c == (1 : Int)) = true)], Exit.normal, [(SV.v (V1.c (It.ptr 16 0))), (SV.v (V1.c (It.ptr 32 0))), (SV.v (V1.c (It.ptr 48 0))), (SV.v (V1.c (It.ptr 80 0))), (SV.v (V1.c (It.int IntKind.u64 (1 : Int)))), (SV.v (V1.c (It.int IntKind.i64 (2 : Int))))], [(Option.some (En.fl [(It.ob (Ob.fr a))])), (Option.some (En.fl [(It.ob (Ob.fr b))])), (Option.some (En.fl [(It.ob (Ob.fr (0 : U4)))])), (Option.some (En.fl [(It.int IntKind.u64 v0), (It.int IntKind.u64 v1), (It.int IntKind.u64 (IntKind.wrap IntKind.u64 ((IntKind.wrap IntKind.u64 ((limb (Ob.n (Ob.fr a)) 2) + (limb (Ob.n (Ob.fr b)) 2))) + c))), (It.int IntKind.u64 v3)]))], 45, 1920, []⟩ := by kernel_rfl
theorem rpB2_hk (a b : U4) (v0 v1 v2 v3 c : Int) : (run envH true 25 ((⟨rpA1_k, .normal, rpS2 a b v0 v1 v2 v3 c⟩ : Cfg)) [true, true, false, true]).cfg.k = rpA2_k := by kernel_rfl
theorem rpB2 (a b : U4) (v0 v1 v2 v3 c : Int) {w0 : World} {F0 : Nat → Prop} {K : Kp} {ac : List Act} {Q : Exit → Act → World → Prop} {cX : Ctx} {aX : Act} (ho : AllP [((decide ((2 : Int) < (4 : Int))) = true), ((0 : Int) ≤ (2 : Int)), ((2 : Int) < (4 : Int)), (2 < (Ob.k (Ob.fr a))), ((0 : Int) ≤ (2 : Int)), ((2 : Int) < (4 : Int)), (2 < (Ob.k (Ob.fr b))), ((0 : Int) ≤ (2 : Int)), ((2 : Int) < (4 : Int)), ((0 : Int) ≤ (2 : Int)), ((2 : Int) < (4 : Int)), ((0 : Int) ≤ (2 : Int)), ((2 : Int) < (4 : Int)), (2 < (Ob.k (Ob.fr a))), ((decide ((IntKind.wrap IntKind.u64 ((IntKind.wrap IntKind.u64 ((limb (Ob.n (Ob.fr a)) 2) + (limb (Ob.n (Ob.fr b)) 2))) + c)) < (limb (Ob.n (Ob.fr a)) 2))) = false), ((0 : Int) ≤ (2 : Int)), ((2 : Int) < (4 : Int)), ((0 : Int) ≤ (2 : Int)), ((2 : Int) < (4 : Int)), (2 < (Ob.k (Ob.fr a))), (((IntKind.wrap IntKind.u64 ((IntKind.wrap IntKind.u64 ((limb (Ob.n (Ob.fr a)) 2) + (limb (Ob.n (Ob.fr b)) 2))) + c)) == (limb (Ob.n (Ob.fr a)) 2)) = true), ((c == (1 : Int)) = true)]) (hs : Sim w0 F0 K ac (rpS2 a b v0 v1 v2 v3 c) cX aX) (hK : ∀ ac cY aY, Sim w0 F0 K ac (mkSt 45 [2, 3, 4, 5, 6, 7] [(SV.v (V1.c (It.ptr 16 0))), (SV.v (V1.c (It.ptr 32 0))), (SV.v (V1.c (It.ptr 48 0))), (SV.v (V1.c (It.ptr 80 0))), (SV.v (V1.c (It.int IntKind.u64 (1 : Int)))), (SV.v (V1.c (It.int IntKind.i64 (2 : Int))))] [16, 32, 48, 80] [(Option.some (En.fl [(It.ob (Ob.fr a))])), (Option.some (En.fl [(It.ob (Ob.fr b))])), (Option.some (En.fl [(It.ob (Ob.fr (0 : U4)))])), (Option.some (En.fl [(It.int IntKind.u64 v0), (It.int IntKind.u64 v1), (It.int IntKind.u64 (IntKind.wrap IntKind.u64 ((IntKind.wrap IntKind.u64 ((limb (Ob.n (Ob.fr a)) 2) + (limb (Ob.n (Ob.fr b)) 2))) + c))), (It.int IntKind.u64 v3)]))] 1920 [] []) cY aY → Wq Try.prog Q (rpA2_k) ac Exit.normal aY cY.w) : Wq Try.prog Q (rpA1_k) ac .normal aX cX.w :=
  run_at2 envH_ok (rpB2_at a b v0 v1 v2 v3 c) (rpB2_hk a b v0 v1 v2 v3 c) ho hs hK
theorem rpC2_at (a b : U4) (v0 v1 v2 v3 c : Int) : runAt envH true 25 ((⟨rpA1_k, .normal, rpS2 a b v0 v1 v2 v3 c⟩ : Cfg)) [true, true, false, false] [2, 3, 4, 5, 6, 7] [16, 32, 48, 80] [] = some ⟨[((decide ((2 : Int) < (4 : Int))) = true), ((0 : Int) ≤ (2 : Int)), ((2 : Int) < (4 : Int)), (2 < (Ob.k (Ob.fr a))), ((0 : Int) ≤ (2 : Int)), ((2 : Int) < (4 : Int)), (2 < (Ob.k (Ob.fr b))), ((0 : Int) ≤ (2 : Int)), ((2 : Int) < (4 : Int)), ((0 : Int) ≤ (2 : Int)), ((2 : Int) < (4 : Int)), ((0 : Int) ≤ (2 : Int)), ((2 : Int) < (4 : Int)), (2 < (Ob.k (Ob.fr a))), ((decide ((IntKind.wrap IntKind.u64 ((IntKind.wrap IntKind.u64 ((limb (Ob.n (Ob.fr a)) 2) + (limb (Ob.n (Ob.fr b)) 2))) + c)) < (limb (Ob.n (Ob.fr a)) 2))) = false), ((0 : Int) ≤ (2 : Int)), ((2 : Int) < (4 : Int)), ((0 : Int) ≤ (2 : Int)), ((2 : Int) < (4 : Int)), (2 < (Ob.k (Ob.fr a))), (((IntKind.wrap IntKind.u64 ((IntKind.wrap IntKind.u64 ((limb (Ob.n (Ob.fr a)) 2) + (limb (Ob.n (Ob.fr b)) 2))) + c)) == (limb (Ob.n (Ob.fr a)) 2)) = true), ((c == (1 : Int)) = false)], Exit.normal, [(SV.v (V1.c (It.ptr 16 0))), (SV.v (V1.c (It.ptr 32 0))), (SV.v (V1.c (It.ptr 48 0))), (SV.v (V1.c (It.ptr 80 0))), (SV.v (V1.c (It.int IntKind.u64 (0 : Int)))), (SV.v (V1.c (It.int IntKind.i64 (2 : Int))))], [(Option.some (En.fl [(It.ob (Ob.fr a))])), (Option.some (En.fl [(It.ob (Ob.fr b))])), (Option.some (En.fl [(It.ob (Ob.fr (0 : U4)))])), (Option.some (En.fl [(It.int IntKind.u64 v0), (It.int IntKind.u64 v1), (It.int IntKind.u64 (IntKind.wrap IntKind.u64 ((IntKind.wrap IntKind.u64 ((limb (Ob.n (Ob.fr a)) 2) + (limb (Ob.n (Ob.fr b)) 2))) + c))), (It.int IntKind.u64 v3)]))], 45, 1920, []⟩ := by kernel_rfl
theorem rpC2_hk (a b : U4) (v0 v1 v2 v3 c : Int) : (run envH true 25 ((⟨rpA1_k, .normal, rpS2 a b v0 v1 v2 v3 c⟩ : Cfg)) [true, true, false, false]).cfg.k = rpA2_k := by kernel_rfl
theorem rpC2 (a b : U4) (v0 v1 v2 v3 c : Int) {w0 : World} {F0 : Nat → Prop} {K : Kp} {ac : List Act} {Q : Exit → Act → World → Prop} {cX : Ctx} {aX : Act} (ho : AllP [((decide ((2 : Int) < (4 : Int))) = true), ((0 : Int) ≤ (2 : Int)), ((2 : Int) < (4 : Int)), (2 < (Ob.k (Ob.fr a))), ((0 : Int) ≤ (2 : Int)), ((2 : Int) < (4 : Int)), (2 < (Ob.k (Ob.fr b))), ((0 : Int) ≤ (2 : Int)), ((2 : Int) < (4 : Int)), ((0 : Int) ≤ (2 : Int)), ((2 : Int) < (4 : Int)), ((0 : Int) ≤ (2 : Int)), ((2 : Int) < (4 : Int)), (2 < (Ob.k (Ob.fr a))), ((decide ((IntKind.wrap IntKind.u64 ((IntKind.wrap IntKind.u64 ((limb (Ob.n (Ob.fr a)) 2) + (limb (Ob.n (Ob.fr b)) 2))) + c)) < (limb (Ob.n (Ob.fr a)) 2))) = false), ((0 : Int) ≤ (2 : Int)), ((2 : Int) < (4 : Int)), ((0 : Int) ≤ (2 : Int)), ((2 : Int) < (4 : Int)), (2 < (Ob.k (Ob.fr a))), (((IntKind.wrap IntKind.u64 ((IntKind.wrap IntKind.u64 ((limb (Ob.n (Ob.fr a)) 2) + (limb (Ob.n (Ob.fr b)) 2))) + c)) == (limb (Ob.n (Ob.fr a)) 2)) = true), ((c == (1 : Int)) = false)]) (hs : Sim w0 F0 K ac (rpS2 a b v0 v1 v2 v3 c) cX aX) (hK : ∀ ac cY aY, Sim w0 F0 K ac (mkSt 45 [2, 3, 4, 5, 6, 7] [(SV.v (V1.c (It.ptr 16 0))), (SV.v (V1.c (It.ptr 32 0))), (SV.v (V1.c (It.ptr 48 0))), (SV.v (V1.c (It.ptr 80 0))), (SV.v (V1.c (It.int IntKind.u64 (0 : Int)))), (SV.v (V1.c (It.int IntKind.i64 (2 : Int))))] [16, 32, 48, 80] [(Option.some (En.fl [(It.ob (Ob.fr a))])), (Option.some (En.fl [(It.ob (Ob.fr b))])), (Option.some (En.fl [(It.ob (Ob.fr (0 : U4)))])), (Option.some (En.fl [(It.int IntKind.u64 v0), (It.int IntKind.u64 v1), (It.int IntKind.u64 (IntKind.wrap IntKind.u64 ((IntKind.wrap IntKind.u64 ((limb (Ob.n (Ob.fr a)) 2) + (limb (Ob.n (Ob.fr b)) 2))) + c))), (It.int IntKind.u64 v3)]))] 1920 [] []) cY aY → Wq Try.prog Q (rpA2_k) ac Exit.normal aY cY.w) : Wq Try.prog Q (rpA1_k) ac .normal aX cX.w :=
  run_at2 envH_ok (rpC2_at a b v0 v1 v2 v3 c) (rpC2_hk a b v0 v1 v2 v3 c) ho hs hK
theorem rpD2_at (a b : U4) (v0 v1 v2 v3 c : Int) : runAt envH true 25 ((⟨rpA1_k, .normal, rpS2 a b v0 v1 v2 v3 c⟩ : Cfg)) [true, false, false] [2, 3, 4, 5, 6, 7] [16, 32, 48, 80] [] = some ⟨[((decide ((2 : Int) < (4 : Int))) = true), ((0 : Int) ≤ (2 : Int)), ((2 : Int) < (4 : Int)), (2 < (Ob.k (Ob.fr a))), ((0 : Int) ≤ (2 : Int)), ((2 : Int) < (4 : Int)), (2 < (Ob.k (Ob.fr b))), ((0 : Int) ≤ (2 : Int)), ((2 : Int) < (4 : Int)), ((0 : Int) ≤ (2 : Int)), ((2 : Int) < (4 : Int)), ((0 : Int) ≤ (2 : Int)), ((2 : Int) < (4 : Int)), (2 < (Ob.k (Ob.fr a))), ((decide ((IntKind.wrap IntKind.u64 ((IntKind.wrap IntKind.u64 ((limb (Ob.n (Ob.fr a)) 2) + (limb (Ob.n (Ob.fr b)) 2))) + c)) < (limb (Ob.n (Ob.fr a)) 2))) = false), ((0 : Int) ≤ (2 : Int)), ((2 : Int) < (4 : Int)), ((0 : Int) ≤ (2 : Int)), ((2 : Int) < (4 : Int)), (2 < (Ob.k (Ob.fr a))), (((IntKind.wrap IntKind.u64 ((IntKind.wrap IntKind.u64 ((limb (Ob.n (Ob.fr a)) 2) + (limb (Ob.n (Ob.fr b)) 2))) + c)) == (limb (Ob.n (Ob.fr a)) 2)) = false)], Exit.normal, [(SV.v (V1.c (It.ptr 16 0))), (SV.v (V1.c (It.ptr 32 0))), (SV.v (V1.c (It.ptr 48 0))), (SV.v (V1.c (It.ptr 80 0))), (SV.v (V1.c (It.int IntKind.u64 (0 : Int)))), (SV.v (V1.c (It.int IntKind.i64 (2 : Int))))], [(Option.some (En.fl [(It.ob (Ob.fr a))])), (Option.some (En.fl [(It.ob (Ob.fr b))])), (Option.some (En.fl [(It.ob (Ob.fr (0 : U4)))])), (Option.some (En.fl [(It.int IntKind.u64 v0), (It.int IntKind.u64 v1), (It.int IntKind.u64 (IntKind.wrap IntKind.u64 ((IntKind.wrap IntKind.u64 ((limb (Ob.n (Ob.fr a)) 2) + (limb (Ob.n (Ob.fr b)) 2))) + c))), (It.int IntKind.u64 v3)]))], 45, 1920, []⟩ := by kernel_rfl
theorem rpD2_hk (a b : U4) (v0 v1 v2 v3 c : Int) : (run envH true 25 ((⟨rpA1_k, .normal, rpS2 a b v0 v1 v2 v3 c⟩ : Cfg)) [true, false, false]).cfg.k = rpA2_k := by kernel_rfl
theorem rpD2 (a b : U4) (v0 v1 v2 v3 c : Int) {w0 : World} {F0 : Nat → Prop} {K : Kp} {ac : List Act} {Q : Exit → Act → World → Prop} {cX : Ctx} {aX : Act} (ho : AllP [((decide ((2 : Int) < (4 : Int))) = true), ((0 : Int) ≤ (2 : Int)), ((2 : Int) < (4 : Int)), (2 < (Ob.k (Ob.fr a))), ((0 : Int) ≤ (2 : Int)), ((2 : Int) < (4 : Int)), (2 < (Ob.k (Ob.fr b))), ((0 : Int) ≤ (2 : Int)), ((2 : Int) < (4 : Int)), ((0 : Int) ≤ (2 : Int)), ((2 : Int) < (4 : Int)), ((0 : Int) ≤ (2 : Int)), ((2 : Int) < (4 : Int)), (2 < (Ob.k (Ob.fr a))), ((decide ((IntKind.wrap IntKind.u64 ((IntKind.wrap IntKind.u64 ((limb (Ob.n (Ob.fr a)) 2) + (limb (Ob.n (Ob.fr b)) 2))) + c)) < (limb (Ob.n (Ob.fr a)) 2))) = false), ((0 : Int) ≤ (2 : Int)), ((2 : Int) < (4 : Int)), ((0 : Int) ≤ (2 : Int)), ((2 : Int) < (4 : Int)), (2 < (Ob.k (Ob.fr a))), (((IntKind.wrap IntKind.u64 ((IntKind.wrap IntKind.u64 ((limb (Ob.n (Ob.fr a)) 2) + (limb (Ob.n (Ob.fr b)) 2))) + c)) == (limb (Ob.n (Ob.fr a)) 2)) = false)]) (hs : Sim w0 F0 K ac (rpS2 a b v0 v1 v2 v3 c) cX aX) (hK : ∀ ac cY aY, Sim w0 F0 K ac (mkSt 45 [2, 3, 4, 5, 6, 7] [(SV.v (V1.c (It.ptr 16 0))), (SV.v (V1.c (It.ptr 32 0))), (SV.v (V1.c (It.ptr 48 0))), (SV.v (V1.c (It.ptr 80 0))), (SV.v (V1.c (It.int IntKind.u64 (0 : Int)))), (SV.v (V1.c (It.int IntKind.i64 (2 : Int))))] [16, 32, 48, 80] [(Option.some (En.fl [(It.ob (Ob.fr a))])), (Option.some (En.fl [(It.ob (Ob.fr b))])), (Option.some (En.fl [(It.ob (Ob.fr (0 : U4)))])), (Option.some (En.fl [(It.int IntKind.u64 v0), (It.int IntKind.u64 v1), (It.int IntKind.u64 (IntKind.wrap IntKind.u64 ((IntKind.wrap IntKind.u64 ((limb (Ob.n (Ob.fr a)) 2) + (limb (Ob.n (Ob.fr b)) 2))) + c))), (It.int IntKind.u64 v3)]))] 1920 [] []) cY aY → Wq Try.prog Q (rpA2_k) ac Exit.normal aY cY.w) : Wq Try.prog Q (rpA1_k) ac .normal aX cX.w :=
  run_at2 envH_ok (rpD2_at a b v0 v1 v2 v3 c) (rpD2_hk a b v0 v1 v2 v3 c) ho hs hK
noncomputable def rpS3 (a b : U4) (v0 v1 v2 v3 c : Int) : St := mkSt 45 [2, 3, 4, 5, 6, 7] [(SV.v (V1.c (It.ptr 16 0))), (SV.v (V1.c (It.ptr 32 0))), (SV.v (V1.c (It.ptr 48 0))), (SV.v (V1.c (It.ptr 80 0))), .v (.c (.int .u64 c)), (SV.v (V1.c (It.int IntKind.i64 (2 : Int))))] [16, 32, 48, 80] [(Option.some (En.fl [(It.ob (Ob.fr a))])), (Option.some (En.fl [(It.ob (Ob.fr b))])), (Option.some (En.fl [(It.ob (Ob.fr (0 : U4)))])), some (.fl [.int .u64 v0, .int .u64 v1, .int .u64 v2, .int .u64 v3])] 1920 [] []
noncomputable def rpA3_k : List KI := (run envH true 25 ((fun (a b : U4) (v0 v1 v2 v3 c : Int) => (⟨rpA2_k, .normal, rpS3 a b v0 v1 v2 v3 c⟩ : Cfg)) default default default default default default default) [true, true, true]).cfg.k
theorem rpA3_at (a b : U4) (v0 v1 v2 v3 c : Int) : runAt envH true 25 ((⟨rpA2_k, .normal, rpS3 a b v0 v1 v2 v3 c⟩ : Cfg)) [true, true, true] [2, 3, 4, 5, 6, 7] [16, 32, 48, 80] [] = some ⟨[((decide ((3 : Int) < (4 : Int))) = true), ((0 : Int) ≤ (3 : Int)), ((3 : Int) < (4 : Int)), (3 < (Ob.k (Ob.fr a))), ((0 : Int) ≤ (3 : Int)), ((3 : Int) < (4 : Int)), (3 < (Ob.k (Ob.fr b))), ((0 : Int) ≤ (3 : Int)), ((3 : Int) < (4 : Int)), ((0 : Int) ≤ (3 : Int)), ((3 : Int) < (4 : Int)), ((0 : Int) ≤ (3 : Int)), ((3 : Int) < (4 : Int)), (3 < (Ob.k (Ob.fr a))), ((decide ((IntKind.wrap IntKind.u64 ((IntKind.wrap IntKind.u64 ((limb (Ob.n (Ob.fr a)) 3) + (limb (Ob.n (Ob.fr b)) 3))) + c)) < (limb (Ob.n (Ob.fr a)) 3))) = true)], Exit.normal, [(SV.v (V1.c (It.ptr 16 0))), (SV.v (V1.c (It.ptr 32 0))), (SV.v (V1.c (It.ptr 48 0))), (SV.v (V1.c (It.ptr 80 0))), (SV.v (V1.c (It.int IntKind.u64 (1 : Int)))), (SV.v (V1.c (It.int IntKind.i64 (3 : Int))))], [(Option.some (En.fl [(It.ob (Ob.fr a))])), (Option.some (En.fl [(It.ob (Ob.fr b))])), (Option.some (En.fl [(It.ob (Ob.fr (0 : U4)))])), (Option.some (En.fl [(It.int IntKind.u64 v0), (It.int IntKind.u64 v1), (It.int IntKind.u64 v2), (It.int IntKind.u64 (IntKind.wrap IntKind.u64 ((IntKind.wrap IntKind.u64 ((limb (Ob.n (Ob.fr a)) 3) + (limb (Ob.n (Ob.fr b)) 3))) + c)))]))], 45, 2528, []⟩ := by kernel_rfl
theorem rpA3_hk (a b : U4) (v0 v1 v2 v3 c : Int) : (run envH true 25 ((⟨rpA2_k, .normal, rpS3 a b v0 v1 v2 v3 c⟩ : Cfg)) [true, true, true]).cfg.k = rpA3_k := by kernel_rfl
theorem rpA3 (a b : U4) (v0 v1 v2 v3 c : Int) {w0 : World} {F0 : Nat → Prop} {K : Kp} {ac : List Act} {Q : Exit → Act → World → Prop} {cX : Ctx} {aX : Act} (ho : AllP [((decide ((3 : Int) < (4 : Int))) = true), ((0 : Int) ≤ (3 : Int)), ((3 : Int) < (4 : Int)), (3 < (Ob.k (Ob.fr a))), ((0 : Int) ≤ (3 : Int)), ((3 : Int) < (4 : Int)), (3 < (Ob.k (Ob.fr b))), ((0 : Int) ≤ (3 : Int)), ((3 : Int) < (4 : Int)), ((0 : Int) ≤ (3 : Int)), ((3 : Int) < (4 : Int)), ((0 : Int) ≤ (3 : Int)), ((3 : Int) < (4 : Int)), (3 < (Ob.k (Ob.fr a))), ((decide ((IntKind.wrap IntKind.u64 ((IntKind.wrap IntKind.u64 ((limb (Ob.n (Ob.fr a)) 3) + (limb (Ob.n (Ob.fr b)) 3))) + c)) < (limb (Ob.n (Ob.fr a)) 3))) = true)]) (hs : Sim w0 F0 K ac (rpS3 a b v0 v1 v2 v3 c) cX aX) (hK : ∀ ac cY aY, Sim w0 F0 K ac (mkSt 45 [2, 3, 4, 5, 6, 7] [(SV.v (V1.c (It.ptr 16 0))), (SV.v (V1.c (It.ptr 32 0))), (SV.v (V1.c (It.ptr 48 0))), (SV.v (V1.c (It.ptr 80 0))), (SV.v (V1.c (It.int IntKind.u64 (1 : Int)))), (SV.v (V1.c (It.int IntKind.i64 (3 : Int))))] [16, 32, 48, 80] [(Option.some (En.fl [(It.ob (Ob.fr a))])), (Option.some (En.fl [(It.ob (Ob.fr b))])), (Option.some (En.fl [(It.ob (Ob.fr (0 : U4)))])), (Option.some (En.fl [(It.int IntKind.u64 v0), (It.int IntKind.u64 v1), (It.int IntKind.u64 v2), (It.int IntKind.u64 (IntKind.wrap IntKind.u64 ((IntKind.wrap IntKind.u64 ((limb (Ob.n (Ob.fr a)) 3) + (limb (Ob.n (Ob.fr b)) 3))) + c)))]))] 2528 [] []) cY aY → Wq Try.prog Q (rpA3_k) ac Exit.normal aY cY.w) : Wq Try.prog Q (rpA2_k) ac .normal aX cX.w :=
  run_at2 envH_ok (rpA3_at a b v0 v1 v2 v3 c) (rpA3_hk a b v0 v1 v2 v3 c) ho hs hK
theorem rpB3_at (a b : U4) (v0 v1 v2 v3 c : Int) : runAt envH true 25 ((⟨rpA2_k, .normal, rpS3 a b v0 v1 v2 v3 c⟩ : Cfg)) [true, true, false, true] [2, 3, 4, 5, 6, 7] [16, 32, 48, 80] [] = some ⟨[((decide ((3 : Int) < (4 : Int))) = true), ((0 : Int) ≤ (3 : Int)), ((3 : Int) < (4 : Int)), (3 < (Ob.k (Ob.fr a))), ((0 : Int) ≤ (3 : Int)), ((3 : Int) < (4 : Int)), (3 < (Ob.k (Ob.fr b))), ((0 : Int) ≤ (3 : Int)), ((3 : Int) < (4 : Int)), ((0 : Int) ≤ (3 : Int)), ((3 : Int) < (4 : Int)), ((0 : Int) ≤ (3 : Int)), ((3 : Int) < (4 : Int)), (3 < (Ob.k (Ob.fr a))), ((decide ((IntKind.wrap IntKind.u64 ((IntKind.wrap IntKind.u64 ((limb (Ob.n (Ob.fr a)) 3) + (limb (Ob.n (Ob.fr b)) 3))) + c)) < (limb (Ob.n (Ob.fr a)) 3))) = false), ((0 : Int) ≤ (3 : Int)), ((3 : Int) < (4 : Int)), ((0 : Int) ≤ (3 : Int)), ((3 : Int) < (4 : Int)), (3 < (Ob.k (Ob.fr a))), (((IntKind.wrap IntKind.u64 ((IntKind.wrap IntKind.u64 ((limb (Ob.n (Ob.fr a)) 3) + (limb (Ob.n (Ob.fr b)) 3))) + c)) == (limb (Ob.n (Ob.fr a)) 3)) = true), ((c == (1 : Int)) = true)], Exit.normal, [(SV.v (V1.c (It.ptr 16 0))), (SV.v (V1.c (It.ptr 32 0))), (SV.v (V1.c (It.ptr 48 0))), (SV.v (V1.c (It.ptr 80 0))), (SV.v (V1.c (It.int IntKind.u64 (1 : Int)))), (SV.v (V1.c (It.int IntKind.i64 (3 : Int))))], [(Option.some (En.fl [(It.ob (Ob.fr a))])), (Option.some (En.fl [(It.ob (Ob.fr b))])), (Option.some (En.fl [(It.ob (Ob.fr (0 : U4)))])), (Option.some (En.fl [(It.int IntKind.u64 v0), (It.int IntKind.u64 v1), (It.int IntKind.u64 v2), (It.int IntKind.u64 (IntKind.wrap IntKind.u64 ((IntKind.wrap IntKind.u64 ((limb (Ob.n (Ob.fr a)) 3) + (limb (Ob.n (Ob.fr b)) 3))) + c)))]))], 45, 2528, []⟩ := by kernel_rfl
theorem rpB3_hk (a b : U4) (v0 v1 v2 v3 c : Int) : (run envH true 25 ((⟨rpA2_k, .normal, rpS3 a b v0 v1 v2 v3 c⟩ : Cfg)) [true, true, false, true]).cfg.k = rpA3_k := by kernel_rfl
theorem rpB3 (a b : U4) (v0 v1 v2 v3 c : Int) {w0 : World} {F0 : Nat → Prop} {K : Kp} {ac : List Act} {Q : Exit → Act → World → Prop} {cX : Ctx} {aX : Act} (ho : AllP [((decide ((3 : Int) < (4 : Int))) = true), ((0 : Int) ≤ (3 : Int)), ((3 : Int) < (4 : Int)), (3 < (Ob.k (Ob.fr a))), ((0 : Int) ≤ (3 : Int)), ((3 : Int) < (4 : Int)), (3 < (Ob.k (Ob.fr b))), ((0 : Int) ≤ (3 : Int)), ((3 : Int) < (4 : Int)), ((0 : Int) ≤ (3 : Int)), ((3 : Int) < (4 : Int)), ((0 : Int) ≤ (3 : Int)), ((3 : Int) < (4 : Int)), (3 < (Ob.k (Ob.fr a))), ((decide ((IntKind.wrap IntKind.u64 ((IntKind.wrap IntKind.u64 ((limb (Ob.n (Ob.fr a)) 3) + (limb (Ob.n (Ob.fr b)) 3))) + c)) < (limb (Ob.n (Ob.fr a)) 3))) = false), ((0 : Int) ≤ (3 : Int)), ((3 : Int) < (4 : Int)), ((0 : Int) ≤ (3 : Int)), ((3 : Int) < (4 : Int)), (3 < (Ob.k (Ob.fr a))), (((IntKind.wrap IntKind.u64 ((IntKind.wrap IntKind.u64 ((limb (Ob.n (Ob.fr a)) 3) + (limb (Ob.n (Ob.fr b)) 3))) + c)) == (limb (Ob.n (Ob.fr a)) 3)) = true), ((c == (1 : Int)) = true)]) (hs : Sim w0 F0 K ac (rpS3 a b v0 v1 v2 v3 c) cX aX) (hK : ∀ ac cY aY, Sim w0 F0 K ac (mkSt 45 [2, 3, 4, 5, 6, 7] [(SV.v (V1.c (It.ptr 16 0))), (SV.v (V1.c (It.ptr 32 0))), (SV.v (V1.c (It.ptr 48 0))), (SV.v (V1.c (It.ptr 80 0))), (SV.v (V1.c (It.int IntKind.u64 (1 : Int)))), (SV.v (V1.c (It.int IntKind.i64 (3 : Int))))] [16, 32, 48, 80] [(Option.some (En.fl [(It.ob (Ob.fr a))])), (Option.some (En.fl [(It.ob (Ob.fr b))])), (Option.some (En.fl [(It.ob (Ob.fr (0 : U4)))])), (Option.some (En.fl [(It.int IntKind.u64 v0), (It.int IntKind.u64 v1), (It.int IntKind.u64 v2), (It.int IntKind.u64 (IntKind.wrap IntKind.u64 ((IntKind.wrap IntKind.u64 ((limb (Ob.n (Ob.fr a)) 3) + (limb (Ob.n (Ob.fr b)) 3))) + c)))]))] 2528 [] []) cY aY → Wq Try.prog Q (rpA3_k) ac Exit.normal aY cY.w) : Wq Try.prog Q (rpA2_k) ac .normal aX cX.w :=
  run_at2 envH_ok (rpB3_at a b v0 v1 v2 v3 c) (rpB3_hk a b v0 v1 v2 v3 c) ho hs hK
theorem rpC3_at (a b : U4) (v0 v1 v2 v3 c : Int) : runAt envH true 25 ((⟨rpA2_k, .normal, rpS3 a b v0 v1 v2 v3 c⟩ : Cfg)) [true, true, false, false] [2, 3, 4, 5, 6, 7] [16, 32, 48, 80] [] = some ⟨[((decide ((3 : Int) < (4 : Int))) = true), ((0 : Int) ≤ (3 : Int)), ((3 : Int) < (4 : Int)), (3 < (Ob.k (Ob.fr a))), ((0 : Int) ≤ (3 : Int)), ((3 : Int) < (4 : Int)), (3 < (Ob.k (Ob.fr b))), ((0 : Int) ≤ (3 : Int)), ((3 : Int) < (4 : Int)), ((0 : Int) ≤ (3 : Int)), ((3 : Int) < (4 : Int)), ((0 : Int) ≤ (3 : Int)), ((3 : Int) < (4 : Int)), (3 < (Ob.k (Ob.fr a))), ((decide ((IntKind.wrap IntKind.u64 ((IntKind.wrap IntKind.u64 ((limb (Ob.n (Ob.fr a)) 3) + (limb (Ob.n (Ob.fr b)) 3))) + c)) < (limb (Ob.n (Ob.fr a)) 3))) = false), ((0 : Int) ≤ (3 : Int)), ((3 : Int) < (4 : Int)), ((0 : Int) ≤ (3 : Int)), ((3 : Int) < (4 : Int)), (3 < (Ob.k (Ob.fr a))), (((IntKind.wrap IntKind.u64 ((IntKind.wrap IntKind.u64 ((limb (Ob.n (Ob.fr a)) 3) + (limb (Ob.n (Ob.fr b)) 3))) + c)) == (limb (Ob.n (Ob.fr a)) 3)) = true), ((c == (1 : Int)) = false)], Exit.normal, [(SV.v (V1.c (It.ptr 16 0))), (SV.v (V1.c (It.ptr 32 0))), (SV.v (V1.c (It.ptr 48 0))), (SV.v (V1.c (It.ptr 80 0))), (SV.v (V1.c (It.int IntKind.u64 (0 : Int)))), (SV.v (V1.c (It.int IntKind.i64 (3 : Int))))], [(Option.some (En.fl [(It.ob (Ob.fr a))])), (Option.some (En.fl [(It.ob (Ob.fr b))])), (Option.some (En.fl [(It.ob (Ob.fr (0 : U4)))])), (Option.some (En.fl [(It.int IntKind.u64 v0), (It.int IntKind.u64 v1), (It.int IntKind.u64 v2), (It.int IntKind.u64 (IntKind.wrap IntKind.u64 ((IntKind.wrap IntKind.u64 ((limb (Ob.n (Ob.fr a)) 3) + (limb (Ob.n (Ob.fr b)) 3))) + c)))]))], 45, 2528, []⟩ := by kernel_rfl
theorem rpC3_hk (a b : U4) (v0 v1 v2 v3 c : Int) : (run envH true 25 ((⟨rpA2_k, .normal, rpS3 a b v0 v1 v2 v3 c⟩ : Cfg)) [true, true, false, false]).cfg.k = rpA3_k := by kernel_rfl
theorem rpC3 (a b : U4) (v0 v1 v2 v3 c : Int) {w0 : World} {F0 : Nat → Prop} {K : Kp} {ac : List Act} {Q : Exit → Act → World → Prop} {cX : Ctx} {aX : Act} (ho : AllP [((decide ((3 : Int) < (4 : Int))) = true), ((0 : Int) ≤ (3 : Int)), ((3 : Int) < (4 : Int)), (3 < (Ob.k (Ob.fr a))), ((0 : Int) ≤ (3 : Int)), ((3 : Int) < (4 : Int)), (3 < (Ob.k (Ob.fr b))), ((0 : Int) ≤ (3 : Int)), ((3 : Int) < (4 : Int)), ((0 : Int) ≤ (3 : Int)), ((3 : Int) < (4 : Int)), ((0 : Int) ≤ (3 : Int)), ((3 : Int) < (4 : Int)), (3 < (Ob.k (Ob.fr a))), ((decide ((IntKind.wrap IntKind.u64 ((IntKind.wrap IntKind.u64 ((limb (Ob.n (Ob.fr a)) 3) + (limb (Ob.n (Ob.fr b)) 3))) + c)) < (limb (Ob.n (Ob.fr a)) 3))) = false), ((0 : Int) ≤ (3 : Int)), ((3 : Int) < (4 : Int)), ((0 : Int) ≤ (3 : Int)), ((3 : Int) < (4 : Int)), (3 < (Ob.k (Ob.fr a))), (((IntKind.wrap IntKind.u64 ((IntKind.wrap IntKind.u64 ((limb (Ob.n (Ob.fr a)) 3) + (limb (Ob.n (Ob.fr b)) 3))) + c)) == (limb (Ob.n (Ob.fr a)) 3)) = true), ((c == (1 : Int)) = false)]) (hs : Sim w0 F0 K ac (rpS3 a b v0 v1 v2 v3 c) cX aX) (hK : ∀ ac cY aY, Sim w0 F0 K ac (mkSt 45 [2, 3, 4, 5, 6, 7] [(SV.v (V1.c (It.ptr 16 0))), (SV.v (V1.c (It.ptr 32 0))), (SV.v (V1.c (It.ptr 48 0))), (SV.v (V1.c (It.ptr 80 0))), (SV.v (V1.c (It.int IntKind.u64 (0 : Int)))), (SV.v (V1.c (It.int IntKind.i64 (3 : Int))))] [16, 32, 48, 80] [(Option.some (En.fl [(It.ob (Ob.fr a))])), (Option.some (En.fl [(It.ob (Ob.fr b))])), (Option.some (En.fl [(It.ob (Ob.fr (0 : U4)))])), (Option.some (En.fl [(It.int IntKind.u64 v0), (It.int IntKind.u64 v1), (It.int IntKind.u64 v2), (It.int IntKind.u64 (IntKind.wrap IntKind.u64 ((IntKind.wrap IntKind.u64 ((limb (Ob.n (Ob.fr a)) 3) + (limb (Ob.n (Ob.fr b)) 3))) + c)))]))] 2528 [] []) cY aY → Wq Try.prog Q (rpA3_k) ac Exit.normal aY cY.w) : Wq Try.prog Q (rpA2_k) ac .normal aX cX.w :=
  run_at2 envH_ok (rpC3_at a b v0 v1 v2 v3 c) (rpC3_hk a b v0 v1 v2 v3 c) ho hs hK
theorem rpD3_at (a b : U4) (v0 v1 v2 v3 c : Int) : runAt envH true 25 ((⟨rpA2_k, .normal, rpS3 a b v0 v1 v2 v3 c⟩ : Cfg)) [true, false, false] [2, 3, 4, 5, 6, 7] [16, 32, 48, 80] [] = some ⟨[((decide ((3 : Int) < (4 : Int))) = true), ((0 : Int) ≤ (3 : Int)), ((3 : Int) < (4 : Int)), (3 < (Ob.k (Ob.fr a))), ((0 : Int) ≤ (3 : Int)), ((3 : Int) < (4 : Int)), (3 < (Ob.k (Ob.fr b))), ((0 : Int) ≤ (3 : Int)), ((3 : Int) < (4 : Int)), ((0 : Int) ≤ (3 : Int)), ((3 : Int) < (4 : Int)), ((0 : Int) ≤ (3 : Int)), ((3 : Int) < (4 : Int)), (3 < (Ob.k (Ob.fr a))), ((decide ((IntKind.wrap IntKind.u64 ((IntKind.wrap IntKind.u64 ((limb (Ob.n (Ob.fr a)) 3) + (limb (Ob.n (Ob.fr b)) 3))) + c)) < (limb (Ob.n (Ob.fr a)) 3))) = false), ((0 : Int) ≤ (3 : Int)), ((3 : Int) < (4 : Int)), ((0 : Int) ≤ (3 : Int)), ((3 : Int) < (4 : Int)), (3 < (Ob.k (Ob.fr a))), (((IntKind.wrap IntKind.u64 ((IntKind.wrap IntKind.u64 ((limb (Ob.n (Ob.fr a)) 3) + (limb (Ob.n (Ob.fr b)) 3))) + c)) == (limb (Ob.n (Ob.fr a)) 3)) = false)], Exit.normal, [(SV.v (V1.c (It.ptr 16 0))), (SV.v (V1.c (It.ptr 32 0))), (SV.v (V1.c (It.ptr 48 0))), (SV.v (V1.c (It.ptr 80 0))), (SV.v (V1.c (It.int IntKind.u64 (0 : Int)))), (SV.v (V1.c (It.int IntKind.i64 (3 : Int))))], [(Option.some (En.fl [(It.ob (Ob.fr a))])), (Option.some (En.fl [(It.ob (Ob.fr b))])), (Option.some (En.fl [(It.ob (Ob.fr (0 : U4)))])), (Option.some (En.fl [(It.int IntKind.u64 v0), (It.int IntKind.u64 v1), (It.int IntKind.u64 v2), (It.int IntKind.u64 (IntKind.wrap IntKind.u64 ((IntKind.wrap IntKind.u64 ((limb (Ob.n (Ob.fr a)) 3) + (limb (Ob.n (Ob.fr b)) 3))) + c)))]))], 45, 2528, []⟩ := by kernel_rfl
theorem rpD3_hk (a b : U4) (v0 v1 v2 v3 c : Int) : (run envH true 25 ((⟨rpA2_k, .normal, rpS3 a b v0 v1 v2 v3 c⟩ : Cfg)) [true, false, false]).cfg.k = rpA3_k := by kernel_rfl
theorem rpD3 (a b : U4) (v0 v1 v2 v3 c : Int) {w0 : World} {F0 : Nat → Prop} {K : Kp} {ac : List Act} {Q : Exit → Act → World → Prop} {cX : Ctx} {aX : Act} (ho : AllP [((decide ((3 : Int) < (4 : Int))) = true), ((0 : Int) ≤ (3 : Int)), ((3 : Int) < (4 : Int)), (3 < (Ob.k (Ob.fr a))), ((0 : Int) ≤ (3 : Int)), ((3 : Int) < (4 : Int)), (3 < (Ob.k (Ob.fr b))), ((0 : Int) ≤ (3 : Int)), ((3 : Int) < (4 : Int)), ((0 : Int) ≤ (3 : Int)), ((3 : Int) < (4 : Int)), ((0 : Int) ≤ (3 : Int)), ((3 : Int) < (4 : Int)), (3 < (Ob.k (Ob.fr a))), ((decide ((IntKind.wrap IntKind.u64 ((IntKind.wrap IntKind.u64 ((limb (Ob.n (Ob.fr a)) 3) + (limb (Ob.n (Ob.fr b)) 3))) + c)) < (limb (Ob.n (Ob.fr a)) 3))) = false), ((0 : Int) ≤ (3 : Int)), ((3 : Int) < (4 : Int)), ((0 : Int) ≤ (3 : Int)), ((3 : Int) < (4 : Int)), (3 < (Ob.k (Ob.fr a))), (((IntKind.wrap IntKind.u64 ((IntKind.wrap IntKind.u64 ((limb (Ob.n (Ob.fr a)) 3) + (limb (Ob.n (Ob.fr b)) 3))) + c)) == (limb (Ob.n (Ob.fr a)) 3)) = false)]) (hs : Sim w0 F0 K ac (rpS3 a b v0 v1 v2 v3 c) cX aX) (hK : ∀ ac cY aY, Sim w0 F0 K ac (mkSt 45 [2, 3, 4, 5, 6, 7] [(SV.v (V1.c (It.ptr 16 0))), (SV.v (V1.c (It.ptr 32 0))), (SV.v (V1.c (It.ptr 48 0))), (SV.v (V1.c (It.ptr 80 0))), (SV.v (V1.c (It.int IntKind.u64 (0 : Int)))), (SV.v (V1.c (It.int IntKind.i64 (3 : Int))))] [16, 32, 48, 80] [(Option.some (En.fl [(It.ob (Ob.fr a))])), (Option.some (En.fl [(It.ob (Ob.fr b))])), (Option.some (En.fl [(It.ob (Ob.fr (0 : U4)))])), (Option.some (En.fl [(It.int IntKind.u64 v0), (It.int IntKind.u64 v1), (It.int IntKind.u64 v2), (It.int IntKind.u64 (IntKind.wrap IntKind.u64 ((IntKind.wrap IntKind.u64 ((limb (Ob.n (Ob.fr a)) 3) + (limb (Ob.n (Ob.fr b)) 3))) + c)))]))] 2528 [] []) cY aY → Wq Try.prog Q (rpA3_k) ac Exit.normal aY cY.w) : Wq Try.prog Q (rpA2_k) ac .normal aX cX.w :=
  run_at2 envH_ok (rpD3_at a b v0 v1 v2 v3 c) (rpD3_hk a b v0 v1 v2 v3 c) ho hs hK
noncomputable def rpS4 (a b : U4) (v0 v1 v2 v3 c : Int) : St := mkSt 45 [2, 3, 4, 5, 6, 7] [(SV.v (V1.c (It.ptr 16 0))), (SV.v (V1.c (It.ptr 32 0))), (SV.v (V1.c (It.ptr 48 0))), (SV.v (V1.c (It.ptr 80 0))), .v (.c (.int .u64 c)), (SV.v (V1.c (It.int IntKind.i64 (3 : Int))))] [16, 32, 48, 80] [(Option.some (En.fl [(It.ob (Ob.fr a))])), (Option.some (En.fl [(It.ob (Ob.fr b))])), (Option.some (En.fl [(It.ob (Ob.fr (0 : U4)))])), some (.fl [.int .u64 v0, .int .u64 v1, .int .u64 v2, .int .u64 v3])] 2528 [] []
theorem rpX_end (a b : U4) (v0 v1 v2 v3 c : Int) : runEnd envH Try.f105 true 3000 (⟨rpA3_k, .normal, rpS4 a b v0 v1 v2 v3 c⟩) [false] [] [] = (Option.some ([((decide ((4 : Int) < (4 : Int))) = false)], ((SV.v (V1.a [(It.int IntKind.u64 v0), (It.int IntKind.u64 v1), (It.int IntKind.u64 v2), (It.int IntKind.u64 v3)])), []))) := by kernel_rfl
end Go.Proofs.Ytlfllehomhcbfaa

/- The reference's plus: contract. No conditions. -/
namespace Go.Proofs.Ytlfllehomhcbfaa

theorem add_u4 {a b : U4} {N c : Int} (hN : 0 ≤ N ∧ N < 115792089237316195423570985008687907853269984665640564039457584007913129639936) (_hc : c = 0 ∨ c = 1)
    (h : N + 115792089237316195423570985008687907853269984665640564039457584007913129639936 * c = (a.val : Int) + (b.val : Int)) : ((a + b : U4).val : Int) = N := by
  have ha := a.isLt
  have hb := b.isLt
  have e : (a + b : U4).val = (a.val + b.val) % B4 := rfl
  rw [e]
  unfold B4 at *
  obtain ⟨_, _⟩ := hN
  omega

theorem carry_step {a b c : Int} (ha : Lim a) (hb : Lim b) (hc : c = 0 ∨ c = 1) : ∃ c' : Int, (c' = 0 ∨ c' = 1) ∧ (IntKind.wrap IntKind.u64 (IntKind.wrap IntKind.u64 (a + b) + c) < a → c' = 1) ∧ (¬ IntKind.wrap IntKind.u64 (IntKind.wrap IntKind.u64 (a + b) + c) < a → IntKind.wrap IntKind.u64 (IntKind.wrap IntKind.u64 (a + b) + c) = a → c = 1 → c' = 1) ∧
    (¬ IntKind.wrap IntKind.u64 (IntKind.wrap IntKind.u64 (a + b) + c) < a → IntKind.wrap IntKind.u64 (IntKind.wrap IntKind.u64 (a + b) + c) = a → ¬ c = 1 → c' = 0) ∧ (¬ IntKind.wrap IntKind.u64 (IntKind.wrap IntKind.u64 (a + b) + c) < a → ¬ IntKind.wrap IntKind.u64 (IntKind.wrap IntKind.u64 (a + b) + c) = a → c' = 0) ∧
    IntKind.wrap IntKind.u64 (IntKind.wrap IntKind.u64 (a + b) + c) + 18446744073709551616 * c' = a + b + c := by
  obtain ⟨_, _⟩ := ha
  obtain ⟨_, _⟩ := hb
  rw [wrapU, wrapU]
  refine ⟨if 18446744073709551616 ≤ a + b + c then 1 else 0, ?_, ?_, ?_, ?_, ?_, ?_⟩
  · split <;> omega
  · intro h; rw [if_pos (by omega)]
  · intro h1 h2 h3; rw [if_pos (by omega)]
  · intro h1 h2 h3; rw [if_neg (by omega)]
  · intro h1 h2; rw [if_neg (by omega)]
  · split <;> omega

section
variable {w0 : World} {F0 : Nat → Prop} {K : Kp} {ac : List Act} {Q : Exit → Act → World → Prop} {cX : Ctx} {aX : Act}

theorem rpT0 (a b : U4) (hs : Sim w0 F0 K ac (rp0 a b : Cfg).σ cX aX)
    (k : ∀ c' : Int, (c' = 0 ∨ c' = 1) → (IntKind.wrap IntKind.u64 (IntKind.wrap IntKind.u64 ((limb (Ob.n (Ob.fr a)) 0) + (limb (Ob.n (Ob.fr b)) 0)) + 0)) + 18446744073709551616 * c' = (limb (Ob.n (Ob.fr a)) 0) + (limb (Ob.n (Ob.fr b)) 0) + 0 → ∀ ac cY aY, Sim w0 F0 K ac (rpS1 a b (IntKind.wrap IntKind.u64 (IntKind.wrap IntKind.u64 ((limb (Ob.n (Ob.fr a)) 0) + (limb (Ob.n (Ob.fr b)) 0)) + 0)) 0 0 0 c') cY aY → Wq Try.prog Q rpA0_k ac .normal aY cY.w) : Wq Try.prog Q (rp0 a b : Cfg).k ac (rp0 a b : Cfg).x aX cX.w := by
  have hA : Lim (limb (Ob.n (Ob.fr a)) 0) := by obtain ⟨h0, h1, h2, h3, _⟩ := fr_lims a; assumption
  have hB : Lim (limb (Ob.n (Ob.fr b)) 0) := by obtain ⟨h0, h1, h2, h3, _⟩ := fr_lims b; assumption
  obtain ⟨c', h1, hA1, hB1, hC1, hD1, e⟩ := carry_step (c := 0) hA hB (.inl rfl)
  have sA := @rpA0 a b w0 F0 K ac Q cX aX
  have sB := @rpB0 a b w0 F0 K ac Q cX aX
  have sC := @rpC0 a b w0 F0 K ac Q cX aX
  have sD := @rpD0 a b w0 F0 K ac Q cX aX
  replace k := k c' h1 e
  clear e hA hB
  generalize (IntKind.wrap IntKind.u64 (IntKind.wrap IntKind.u64 ((limb (Ob.n (Ob.fr a)) 0) + (limb (Ob.n (Ob.fr b)) 0)) + 0)) = x at *
  generalize (limb (Ob.n (Ob.fr a)) 0) = y at *
  by_cases l1 : x < y
  · rw [hA1 l1] at k
    exact sA (by simp [AllP, Ob.k, l1]) hs k
  · by_cases l2 : x = y
    · by_cases l3 : (0 : Int) = 1
      · rw [hB1 l1 l2 l3] at k
        exact sB (by simp [AllP, Ob.k, l2, l3]) hs k
      · rw [hC1 l1 l2 l3] at k
        exact sC (by simp [AllP, Ob.k, l2]) hs k
    · rw [hD1 l1 l2] at k
      exact sD (by simp [AllP, Ob.k, l1, l2]) hs k

theorem rpT1 (a b : U4) (v0 v1 v2 v3 c : Int) (hc : c = 0 ∨ c = 1) (hs : Sim w0 F0 K ac (rpS1 a b v0 v1 v2 v3 c) cX aX)
    (k : ∀ c' : Int, (c' = 0 ∨ c' = 1) → (IntKind.wrap IntKind.u64 (IntKind.wrap IntKind.u64 ((limb (Ob.n (Ob.fr a)) 1) + (limb (Ob.n (Ob.fr b)) 1)) + c)) + 18446744073709551616 * c' = (limb (Ob.n (Ob.fr a)) 1) + (limb (Ob.n (Ob.fr b)) 1) + c → ∀ ac cY aY, Sim w0 F0 K ac (rpS2 a b v0 (IntKind.wrap IntKind.u64 (IntKind.wrap IntKind.u64 ((limb (Ob.n (Ob.fr a)) 1) + (limb (Ob.n (Ob.fr b)) 1)) + c)) v2 v3 c') cY aY → Wq Try.prog Q rpA1_k ac .normal aY cY.w) : Wq Try.prog Q rpA0_k ac .normal aX cX.w := by
  have hA : Lim (limb (Ob.n (Ob.fr a)) 1) := by obtain ⟨h0, h1, h2, h3, _⟩ := fr_lims a; assumption
  have hB : Lim (limb (Ob.n (Ob.fr b)) 1) := by obtain ⟨h0, h1, h2, h3, _⟩ := fr_lims b; assumption
  obtain ⟨c', h1, hA1, hB1, hC1, hD1, e⟩ := carry_step (c := c) hA hB hc
  have sA := @rpA1 a b v0 v1 v2 v3 c w0 F0 K ac Q cX aX
  have sB := @rpB1 a b v0 v1 v2 v3 c w0 F0 K ac Q cX aX
  have sC := @rpC1 a b v0 v1 v2 v3 c w0 F0 K ac Q cX aX
  have sD := @rpD1 a b v0 v1 v2 v3 c w0 F0 K ac Q cX aX
  replace k := k c' h1 e
  clear e hA hB
  generalize (IntKind.wrap IntKind.u64 (IntKind.wrap IntKind.u64 ((limb (Ob.n (Ob.fr a)) 1) + (limb (Ob.n (Ob.fr b)) 1)) + c)) = x at *
  generalize (limb (Ob.n (Ob.fr a)) 1) = y at *
  by_cases l1 : x < y
  · rw [hA1 l1] at k
    exact sA (by simp [AllP, Ob.k, l1]) hs k
  · by_cases l2 : x = y
    · by_cases l3 : (c : Int) = 1
      · rw [hB1 l1 l2 l3] at k
        exact sB (by simp [AllP, Ob.k, l2, l3]) hs k
      · rw [hC1 l1 l2 l3] at k
        exact sC (by simp [AllP, Ob.k, l2, l3]) hs k
    · rw [hD1 l1 l2] at k
      exact sD (by simp [AllP, Ob.k, l1, l2]) hs k

theorem rpT2 (a b : U4) (v0 v1 v2 v3 c : Int) (hc : c = 0 ∨ c = 1) (hs : Sim w0 F0 K ac (rpS2 a b v0 v1 v2 v3 c) cX aX)
    (k : ∀ c' : Int, (c' = 0 ∨ c' = 1) → (IntKind.wrap IntKind.u64 (IntKind.wrap IntKind.u64 ((limb (Ob.n (Ob.fr a)) 2) + (limb (Ob.n (Ob.fr b)) 2)) + c)) + 18446744073709551616 * c' = (limb (Ob.n (Ob.fr a)) 2) + (limb (Ob.n (Ob.fr b)) 2) + c → ∀ ac cY aY, Sim w0 F0 K ac (rpS3 a b v0 v1 (IntKind.wrap IntKind.u64 (IntKind.wrap IntKind.u64 ((limb (Ob.n (Ob.fr a)) 2) + (limb (Ob.n (Ob.fr b)) 2)) + c)) v3 c') cY aY → Wq Try.prog Q rpA2_k ac .normal aY cY.w) : Wq Try.prog Q rpA1_k ac .normal aX cX.w := by
  have hA : Lim (limb (Ob.n (Ob.fr a)) 2) := by obtain ⟨h0, h1, h2, h3, _⟩ := fr_lims a; assumption
  have hB : Lim (limb (Ob.n (Ob.fr b)) 2) := by obtain ⟨h0, h1, h2, h3, _⟩ := fr_lims b; assumption
  obtain ⟨c', h1, hA1, hB1, hC1, hD1, e⟩ := carry_step (c := c) hA hB hc
  have sA := @rpA2 a b v0 v1 v2 v3 c w0 F0 K ac Q cX aX
  have sB := @rpB2 a b v0 v1 v2 v3 c w0 F0 K ac Q cX aX
  have sC := @rpC2 a b v0 v1 v2 v3 c w0 F0 K ac Q cX aX
  have sD := @rpD2 a b v0 v1 v2 v3 c w0 F0 K ac Q cX aX
  replace k := k c' h1 e
  clear e hA hB
  generalize (IntKind.wrap IntKind.u64 (IntKind.wrap IntKind.u64 ((limb (Ob.n (Ob.fr a)) 2) + (limb (Ob.n (Ob.fr b)) 2)) + c)) = x at *
  generalize (limb (Ob.n (Ob.fr a)) 2) = y at *
  by_cases l1 : x < y
  · rw [hA1 l1] at k
    exact sA (by simp [AllP, Ob.k, l1]) hs k
  · by_cases l2 : x = y
    · by_cases l3 : (c : Int) = 1
      · rw [hB1 l1 l2 l3] at k
        exact sB (by simp [AllP, Ob.k, l2, l3]) hs k
      · rw [hC1 l1 l2 l3] at k
        exact sC (by simp [AllP, Ob.k, l2, l3]) hs k
    · rw [hD1 l1 l2] at k
      exact sD (by simp [AllP, Ob.k, l1, l2]) hs k

theorem rpT3 (a b : U4) (v0 v1 v2 v3 c : Int) (hc : c = 0 ∨ c = 1) (hs : Sim w0 F0 K ac (rpS3 a b v0 v1 v2 v3 c) cX aX)
    (k : ∀ c' : Int, (c' = 0 ∨ c' = 1) → (IntKind.wrap IntKind.u64 (IntKind.wrap IntKind.u64 ((limb (Ob.n (Ob.fr a)) 3) + (limb (Ob.n (Ob.fr b)) 3)) + c)) + 18446744073709551616 * c' = (limb (Ob.n (Ob.fr a)) 3) + (limb (Ob.n (Ob.fr b)) 3) + c → ∀ ac cY aY, Sim w0 F0 K ac (rpS4 a b v0 v1 v2 (IntKind.wrap IntKind.u64 (IntKind.wrap IntKind.u64 ((limb (Ob.n (Ob.fr a)) 3) + (limb (Ob.n (Ob.fr b)) 3)) + c)) c') cY aY → Wq Try.prog Q rpA3_k ac .normal aY cY.w) : Wq Try.prog Q rpA2_k ac .normal aX cX.w := by
  have hA : Lim (limb (Ob.n (Ob.fr a)) 3) := by obtain ⟨h0, h1, h2, h3, _⟩ := fr_lims a; assumption
  have hB : Lim (limb (Ob.n (Ob.fr b)) 3) := by obtain ⟨h0, h1, h2, h3, _⟩ := fr_lims b; assumption
  obtain ⟨c', h1, hA1, hB1, hC1, hD1, e⟩ := carry_step (c := c) hA hB hc
  have sA := @rpA3 a b v0 v1 v2 v3 c w0 F0 K ac Q cX aX
  have sB := @rpB3 a b v0 v1 v2 v3 c w0 F0 K ac Q cX aX
  have sC := @rpC3 a b v0 v1 v2 v3 c w0 F0 K ac Q cX aX
  have sD := @rpD3 a b v0 v1 v2 v3 c w0 F0 K ac Q cX aX
  replace k := k c' h1 e
  clear e hA hB
  generalize (IntKind.wrap IntKind.u64 (IntKind.wrap IntKind.u64 ((limb (Ob.n (Ob.fr a)) 3) + (limb (Ob.n (Ob.fr b)) 3)) + c)) = x at *
  generalize (limb (Ob.n (Ob.fr a)) 3) = y at *
  by_cases l1 : x < y
  · rw [hA1 l1] at k
    exact sA (by simp [AllP, Ob.k, l1]) hs k
  · by_cases l2 : x = y
    · by_cases l3 : (c : Int) = 1
      · rw [hB1 l1 l2 l3] at k
        exact sB (by simp [AllP, Ob.k, l2, l3]) hs k
      · rw [hC1 l1 l2 l3] at k
        exact sC (by simp [AllP, Ob.k, l2, l3]) hs k
    · rw [hD1 l1 l2] at k
      exact sD (by simp [AllP, Ob.k, l1, l2]) hs k

end

theorem plus105_fnd (a b : U4) : FnD Try.prog 105 [.v (.a [.ob (.fr a)]), .v (.a [.ob (.fr b)])] (.v (.a [.ob (.fr (a + b))])) [] := by
  refine fn_start (fn := Try.f105) (c := bodyOf Try.f105) Try.func105 rfl rfl fun x a0 hk hF hs => ?_
  obtain ⟨g0, g1, g2, g3, ha⟩ := fr_lims a
  obtain ⟨h0, h1, h2, h3, hb⟩ := fr_lims b
  refine rpT0 a b hs fun c0 hc0 e0 ac cY aY hs => ?_
  refine rpT1 a b _ _ _ _ c0 hc0 hs fun c1 hc1 e1 ac cY aY hs => ?_
  refine rpT2 a b _ _ _ _ c1 hc1 hs fun c2 hc2 e2 ac cY aY hs => ?_
  refine rpT3 a b _ _ _ _ c2 hc2 hs fun c3 hc3 e3 ac cY aY hs => ?_
  refine run_end2 envH_ok hk hF (rpX_end a b _ _ _ _ c3) (by simp [AllP]) (fun y v hd => ?_) hs
  have l0 : Lim (IntKind.wrap IntKind.u64 (IntKind.wrap IntKind.u64 (limb (Ob.n (Ob.fr a)) 0 + limb (Ob.n (Ob.fr b)) 0) + 0)) := wrap_lim _
  have l1 : Lim (IntKind.wrap IntKind.u64 (IntKind.wrap IntKind.u64 (limb (Ob.n (Ob.fr a)) 1 + limb (Ob.n (Ob.fr b)) 1) + c0)) := wrap_lim _
  have l2 : Lim (IntKind.wrap IntKind.u64 (IntKind.wrap IntKind.u64 (limb (Ob.n (Ob.fr a)) 2 + limb (Ob.n (Ob.fr b)) 2) + c1)) := wrap_lim _
  have l3 : Lim (IntKind.wrap IntKind.u64 (IntKind.wrap IntKind.u64 (limb (Ob.n (Ob.fr a)) 3 + limb (Ob.n (Ob.fr b)) 3) + c2)) := wrap_lim _
  generalize IntKind.wrap IntKind.u64 (IntKind.wrap IntKind.u64 (limb (Ob.n (Ob.fr a)) 0 + limb (Ob.n (Ob.fr b)) 0) + 0) = u0 at *
  generalize IntKind.wrap IntKind.u64 (IntKind.wrap IntKind.u64 (limb (Ob.n (Ob.fr a)) 1 + limb (Ob.n (Ob.fr b)) 1) + c0) = u1 at *
  generalize IntKind.wrap IntKind.u64 (IntKind.wrap IntKind.u64 (limb (Ob.n (Ob.fr a)) 2 + limb (Ob.n (Ob.fr b)) 2) + c1) = u2 at *
  generalize IntKind.wrap IntKind.u64 (IntKind.wrap IntKind.u64 (limb (Ob.n (Ob.fr a)) 3 + limb (Ob.n (Ob.fr b)) 3) + c2) = u3 at *
  refine ints_ob (o := .fr (a + b)) (Eq.refl 4) (limbsAre4 l0.1 l0.2 l1.1 l1.2 l2.1 l2.2 l3.1 l3.2 ?_) hd
  show ((a + b : U4).val : Int) = num4 u0 u1 u2 u3
  have hN : num4 u0 u1 u2 u3 + 115792089237316195423570985008687907853269984665640564039457584007913129639936 * c3 = num4 (limb (Ob.n (Ob.fr a)) 0) (limb (Ob.n (Ob.fr a)) 1) (limb (Ob.n (Ob.fr a)) 2) (limb (Ob.n (Ob.fr a)) 3) + num4 (limb (Ob.n (Ob.fr b)) 0) (limb (Ob.n (Ob.fr b)) 1) (limb (Ob.n (Ob.fr b)) 2) (limb (Ob.n (Ob.fr b)) 3) := by
    clear ha hb hd hs hk hF l0 l1 l2 l3 g0 g1 g2 g3 h0 h1 h2 h3
    unfold num4
    omega
  rw [← ha, ← hb] at hN
  exact add_u4 (num4_lt l0 l1 l2 l3) hc3 hN

end Go.Proofs.Ytlfllehomhcbfaa

/- The reference's Clean, walked. No conditions. -/
namespace Go.Proofs.Ytlfllehomhcbfaa

def lessSpec : FnSpec
  | [.v (.a [.ob (.fr a)]), .v (.a [.ob (.fr b)])] => some ([], .v (.c (.bool (decide (a.val < b.val)))), [])
  | _ => none
def minusUSpec : FnSpec
  | [.v (.a [.ob (.fr a)]), .v (.a [.ob (.fr b)])] => some ([], .v (.a [.ob (.fr (a - b))]), [])
  | _ => none
def plusUSpec : FnSpec
  | [.v (.a [.ob (.fr a)]), .v (.a [.ob (.fr b)])] => some ([], .v (.a [.ob (.fr (a + b))]), [])
  | _ => none

noncomputable def envI1 : Env := envH.set (addT envH.fn 37 coreRSpec)
theorem envI1_ok : EnvOk Try.prog envI1 := env_add envH_ok 37 coreRSpec (enters_of Try.func37 rfl rfl) fun args o r es h _ => by
  unfold coreRSpec at h
  split at h
  · cases h
    refine (fn_sound envH_ok Try.func37 refR ⟨by decide, by decide, by decide, by decide, by decide, by decide, by decide, by decide, trivial⟩).conv (fun _ _ h => h) fun y v hd => ?_
    have e : rU = Fin.ofNat B4 52435875175126190479447740508185965837690552500527637822603658699938581184513 := by kernel_rfl
    rw [e]
    exact hd
  · cases h
noncomputable def envI2 : Env := envI1.set (addT envI1.fn 36 lessSpec)
theorem envI2_ok : EnvOk Try.prog envI2 := env_add envI1_ok 36 lessSpec (enters_of Try.func36 rfl rfl) fun args o r es h _ => by
  unfold lessSpec at h
  split at h
  · cases h; exact less_fnd _ _
  · cases h
noncomputable def envI3 : Env := envI2.set (addT envI2.fn 79 minusUSpec)
theorem envI3_ok : EnvOk Try.prog envI3 := env_add envI2_ok 79 minusUSpec (enters_of Try.func79 rfl rfl) fun args o r es h _ => by
  unfold minusUSpec at h
  split at h
  · cases h; exact minus79_fnd _ _
  · cases h
noncomputable def envI : Env := envI3.set (addT envI3.fn 105 plusUSpec)
theorem envI_ok : EnvOk Try.prog envI := env_add envI3_ok 105 plusUSpec (enters_of Try.func105 rfl rfl) fun args o r es h _ => by
  unfold plusUSpec at h
  split at h
  · cases h; exact plus105_fnd _ _
  · cases h

noncomputable def cl0 (a : U4) : Cfg := ⟨[.code (bodyOf Try.f32)], .normal, initSt Try.f32.ntmps [.v (.a [.ob (.fr a)])]⟩
--@env envI envI_ok
noncomputable def clIn_k : List KI := (run envI false 3000 ((fun (a : U4) => (cl0 a : Cfg)) default) []).cfg.k
theorem clIn_at (a : U4) : runAt envI false 3000 ((cl0 a : Cfg)) [] [1, 2] [16, 32] [] = some ⟨[], Exit.normal, [(SV.v (V1.c (It.ptr 16 0))), (SV.v (V1.c (It.ptr 32 0)))], [(Option.some (En.fl [(It.ob (Ob.fr a))])), (Option.some (En.fl [(It.ob (Ob.fr (0 : U4)))]))], 11, 48, []⟩ := by kernel_rfl
theorem clIn_hk (a : U4) : (run envI false 3000 ((cl0 a : Cfg)) []).cfg.k = clIn_k := by kernel_rfl
theorem clIn (a : U4) {w0 : World} {F0 : Nat → Prop} {K : Kp} {ac : List Act} {Q : Exit → Act → World → Prop} {cX : Ctx} {aX : Act} (ho : AllP []) (hs : Sim w0 F0 K ac (((cl0 a : Cfg)).σ) cX aX) (hK : ∀ ac cY aY, Sim w0 F0 K ac (mkSt 11 [1, 2] [(SV.v (V1.c (It.ptr 16 0))), (SV.v (V1.c (It.ptr 32 0)))] [16, 32] [(Option.some (En.fl [(It.ob (Ob.fr a))])), (Option.some (En.fl [(It.ob (Ob.fr (0 : U4)))]))] 48 [] []) cY aY → Wq Try.prog Q (clIn_k) ac Exit.normal aY cY.w) : Wq Try.prog Q (((cl0 a : Cfg)).k) ac ((cl0 a : Cfg)).x aX cX.w :=
  run_at envI_ok (clIn_at a) (clIn_hk a) ho hs hK
noncomputable def clS (a : U4) : St := mkSt 11 [1, 2] [(SV.v (V1.c (It.ptr 16 0))), (SV.v (V1.c (It.ptr 32 0)))] [16, 32] [(Option.some (En.fl [(It.ob (Ob.fr a))])), (Option.some (En.fl [(It.ob (Ob.fr (0 : U4)))]))] 48 [] []
theorem clN_at (a : U4) : runAt envI false 3000 ((⟨lpIn clIn_k, .normal, clS a⟩ : Cfg)) [true] [1, 2] [16, 32] [] = some ⟨[((Bool.not (decide ((Fin.val a) < 52435875175126190479447740508185965837690552500527637822603658699938581184513))) = true)], Exit.normal, [(SV.v (V1.c (It.ptr 16 0))), (SV.v (V1.c (It.ptr 32 0)))], [(Option.some (En.fl [(It.ob (Ob.fr (a - rU)))])), (Option.some (En.fl [(It.ob (Ob.fr (0 : U4)))]))], 11, 176, []⟩ := by kernel_rfl
theorem clN_hk (a : U4) : (run envI false 3000 ((⟨lpIn clIn_k, .normal, clS a⟩ : Cfg)) [true]).cfg.k = lpBk clIn_k := by kernel_rfl
theorem clN (a : U4) {w0 : World} {F0 : Nat → Prop} {K : Kp} {ac : List Act} {Q : Exit → Act → World → Prop} {cX : Ctx} {aX : Act} (ho : AllP [((Bool.not (decide ((Fin.val a) < 52435875175126190479447740508185965837690552500527637822603658699938581184513))) = true)]) (hs : Sim w0 F0 K ac (clS a) cX aX) (hK : ∀ ac cY aY, Sim w0 F0 K ac (mkSt 11 [1, 2] [(SV.v (V1.c (It.ptr 16 0))), (SV.v (V1.c (It.ptr 32 0)))] [16, 32] [(Option.some (En.fl [(It.ob (Ob.fr (a - rU)))])), (Option.some (En.fl [(It.ob (Ob.fr (0 : U4)))]))] 176 [] []) cY aY → Wq Try.prog Q (lpBk clIn_k) ac Exit.normal aY cY.w) : Wq Try.prog Q (lpIn clIn_k) ac .normal aX cX.w :=
  run_at2 envI_ok (clN_at a) (clN_hk a) ho hs hK
theorem clX_end (a : U4) : runEnd envI Try.f32 false 3000 (⟨lpIn clIn_k, .normal, clS a⟩) [false] [] [] = (Option.some ([((Bool.not (decide ((Fin.val a) < 52435875175126190479447740508185965837690552500527637822603658699938581184513))) = false)], ((SV.v (V1.a [(It.ob (Ob.fr a))])), []))) := by kernel_rfl
end Go.Proofs.Ytlfllehomhcbfaa

/- The reference's Clean: a number, taken modulo r. No conditions. -/
namespace Go.Proofs.Ytlfllehomhcbfaa

def cleanU (a : U4) : U4 := Fin.ofNat B4 (a.val % rN)
theorem cleanU_val (a : U4) : (cleanU a).val = a.val % rN := Nat.mod_eq_of_lt (Nat.lt_trans (Nat.mod_lt _ (by decide)) (by decide))

theorem rU_val : rU.val = rN := by kernel_rfl

theorem sub_rU {a : U4} (h : rN ≤ a.val) : (a - rU).val = a.val - rN := by
  have e : (a - rU).val = (B4 - rU.val + a.val) % B4 := rfl
  rw [e, rU_val]
  have ha := a.isLt
  have hr : rN < B4 := by decide
  rw [show B4 - rN + a.val = (a.val - rN) + B4 from by omega, Nat.add_mod_right, Nat.mod_eq_of_lt (by omega)]

theorem clean_fnd (a : U4) : FnD Try.prog 32 [.v (.a [.ob (.fr a)])] (.v (.a [.ob (.fr (cleanU a))])) [] := by
  refine fn_start (fn := Try.f32) (c := bodyOf Try.f32) Try.func32 rfl rfl fun x a0 hk hF hs => ?_
  refine clIn a trivial hs fun ac cY aY hs1 => ?_
  refine loop_rule (ι := { b : U4 // cleanU b = cleanU a }) (fun b => clS b.1) (fun b => b.1.val) (c := lpC clIn_k) (k := lpR clIn_k) (by kernel_rfl) (fun b ih ac cY aY hs => ?_) ⟨a, rfl⟩ hs1
  obtain ⟨b, hb⟩ := b
  simp only at ih hs
  by_cases h : b.val < rU.val
  · have h2 : b.val < rN := by rw [← rU_val]; exact h
    unfold rN at h2
    refine run_end2 envI_ok hk hF (clX_end b) ⟨by simp [h2], trivial⟩ (fun y v hd => ?_) hs
    refine ob_ob (o := .fr b) (o' := .fr (cleanU a)) (Eq.refl 4) ?_ hd
    show b.val = (cleanU a).val
    rw [← hb, cleanU_val]
    rw [rU_val] at h
    exact (Nat.mod_eq_of_lt h).symm
  · have h' : rN ≤ b.val := by rw [rU_val] at h; omega
    have h2 := h'
    unfold rN at h2
    refine clN b ⟨by simp [h2], trivial⟩ hs fun ac cY aY hs2 => ?_
    refine ih ⟨b - rU, ?_⟩ ?_ ac cY aY (hs2.nx _)
    · rw [← hb]
      apply Fin.ext
      rw [cleanU_val, cleanU_val, sub_rU h', ← Nat.mod_eq_sub_mod h']
    · show (b - rU).val < b.val
      rw [sub_rU h']
      have : 0 < rN := by decide
      omega

end Go.Proofs.Ytlfllehomhcbfaa

/- The reference's Add, Neg, Bit, walked. No conditions. -/
namespace Go.Proofs.Ytlfllehomhcbfaa

def cleanSpec : FnSpec
  | [.v (.a [.ob (.fr a)])] => some ([], .v (.a [.ob (.fr (cleanU a))]), [])
  | _ => none
noncomputable def envJ : Env := envI.set (addT envI.fn 32 cleanSpec)
theorem envJ_ok : EnvOk Try.prog envJ := env_add envI_ok 32 cleanSpec (enters_of Try.func32 rfl rfl) fun args o r es h _ => by
  unfold cleanSpec at h
  split at h
  · cases h; exact clean_fnd _
  · cases h

--@env envJ envJ_ok
theorem addR (a b : U4) : fnRes envJ Try.f77 3000 [.v (.a [.ob (.fr a)]), .v (.a [.ob (.fr b)])] [] [] [] = (Option.some ([], ((SV.v (V1.a [(It.ob (Ob.fr (cleanU (a + b))))])), []))) := by kernel_rfl
theorem negA (a : U4) : fnRes envJ Try.f78 3000 [.v (.a [.ob (.fr a)])] [true] [] [] = (Option.some ([((ite (true = true) (decide (a = (0 : U4))) (Bool.not (decide (a = (0 : U4))))) = true)], ((SV.v (V1.a [(It.ob (Ob.fr a))])), []))) := by kernel_rfl
theorem negB (a : U4) : fnRes envJ Try.f78 3000 [.v (.a [.ob (.fr a)])] [false] [] [] = (Option.some ([((ite (true = true) (decide (a = (0 : U4))) (Bool.not (decide (a = (0 : U4))))) = false)], ((SV.v (V1.a [(It.ob (Ob.fr (rU - a)))])), []))) := by kernel_rfl
theorem bitR (a : U4) (i : Int) : fnRes envJ Try.f104 3000 [.v (.a [.ob (.fr a)]), .v (.c (.int .i64 i))] [] [] [] = (Option.some ([((64 : Int) ≠ (0 : Int)), ((0 : Int) ≤ (IntKind.wrap IntKind.i64 (Int.tdiv i (64 : Int)))), ((IntKind.wrap IntKind.i64 (Int.tdiv i (64 : Int))) < (4 : Int)), ((0 + (((IntKind.wrap IntKind.i64 (Int.tdiv i (64 : Int)))).toNat * 1)) < (Ob.k (Ob.fr a))), ((64 : Int) ≠ (0 : Int)), ((0 : Int) ≤ (IntKind.wrap IntKind.u64 (Int.tmod i (64 : Int)))), ((2 : Int) ≠ (0 : Int))], ((SV.v (V1.c (It.int IntKind.u64 (Int.tmod (Int.fdiv (limb (Ob.n (Ob.fr a)) (0 + (((IntKind.wrap IntKind.i64 (Int.tdiv i (64 : Int)))).toNat * 1))) ((2 : Int) ^ (Min.min ((IntKind.wrap IntKind.u64 (Int.tmod i (64 : Int)))).toNat 64))) (2 : Int))))), []))) := by kernel_rfl
end Go.Proofs.Ytlfllehomhcbfaa

/- The reference's Add, Neg, Bit: contracts. No conditions. -/
namespace Go.Proofs.Ytlfllehomhcbfaa

theorem bit_nat (n i : Nat) : n / 2 ^ (64 * (i / 64)) % 18446744073709551616 / 2 ^ (i % 64) % 2 = n / 2 ^ i % 2 := by
  have h64 : 18446744073709551616 = 2 ^ (i % 64) * (2 * 2 ^ (63 - i % 64)) := by
    rw [← Nat.pow_succ', ← Nat.pow_add, show i % 64 + (63 - i % 64 + 1) = 64 from by omega]
  rw [h64, Nat.mod_mul_right_div_self, Nat.mod_mul_right_mod, Nat.div_div_eq_div_mul, ← Nat.pow_add, show 64 * (i / 64) + i % 64 = i from Nat.div_add_mod i 64]

def bitV (a : U4) (i : Nat) : Int := ((a.val / 2 ^ i % 2 : Nat) : Int)

theorem bit_fnd (a : U4) (i : Nat) (hi : i < 256) : FnD Try.prog 104 [.v (.a [.ob (.fr a)]), .v (.c (.int .i64 (i : Int)))] (.v (.c (.int .u64 (bitV a i)))) [] := by
  have e1 : IntKind.wrap IntKind.i64 (Int.tdiv (i : Int) 64) = ((i / 64 : Nat) : Int) := by
    rw [show Int.tdiv (i : Int) 64 = ((i / 64 : Nat) : Int) from by rw [Int.tdiv_eq_ediv_of_nonneg (by omega)]; omega]
    exact wrap_id (by omega) (by omega)
  have e2 : IntKind.wrap IntKind.u64 (Int.tmod (i : Int) 64) = ((i % 64 : Nat) : Int) := by
    rw [show Int.tmod (i : Int) 64 = ((i % 64 : Nat) : Int) from by rw [Int.tmod_eq_emod_of_nonneg (by omega)]; omega, wrapU]
    omega
  have r := bitR a (i : Int)
  rw [e1, e2, Int.toNat_natCast, Int.toNat_natCast] at r
  refine (fn_sound envJ_ok Try.func104 r ?_).conv (fun _ _ h => h) fun y v hd => ?_
  · refine ⟨by decide, by omega, by omega, by show 0 + i / 64 * 1 < 4; omega, by decide, by omega, by decide, trivial⟩
  · have e3 : Min.min (i % 64) 64 = i % 64 := by omega
    have e4 : 0 + i / 64 * 1 = i / 64 := by omega
    rw [e3, e4] at hd
    have hl : limb (Ob.n (Ob.fr a)) (i / 64) = ((a.val / 2 ^ (64 * (i / 64)) % 18446744073709551616 : Nat) : Int) := rfl
    rw [hl] at hd
    have e5 : Int.tmod (Int.fdiv ((a.val / 2 ^ (64 * (i / 64)) % 18446744073709551616 : Nat) : Int) ((2 : Int) ^ (i % 64))) 2 = bitV a i := by
      unfold bitV
      rw [← bit_nat a.val i]
      generalize a.val / 2 ^ (64 * (i / 64)) % 18446744073709551616 = m
      have hp : ((2 : Int) ^ (i % 64)) = ((2 ^ (i % 64) : Nat) : Int) := by simp
      rw [hp, Int.fdiv_eq_ediv_of_nonneg _ (Int.natCast_nonneg _), ← Int.natCast_ediv, Int.tmod_eq_emod_of_nonneg (Int.natCast_nonneg _)]
      rfl
    rw [e5] at hd
    exact hd

end Go.Proofs.Ytlfllehomhcbfaa

/- The reference's Mul, walked. No conditions. -/
namespace Go.Proofs.Ytlfllehomhcbfaa

def addUSpec : FnSpec
  | [.v (.a [.ob (.fr a)]), .v (.a [.ob (.fr b)])] => some ([], .v (.a [.ob (.fr (cleanU (a + b)))]), [])
  | _ => none
def bitSpec : FnSpec
  | [.v (.a [.ob (.fr a)]), .v (.c (.int .i64 i))] => some ([0 ≤ i, i < 256], .v (.c (.int .u64 (bitV a i.toNat))), [])
  | _ => none
noncomputable def envK1 : Env := envJ.set (addT envJ.fn 77 addUSpec)
theorem envK1_ok : EnvOk Try.prog envK1 := env_add envJ_ok 77 addUSpec (enters_of Try.func77 rfl rfl) fun args o r es h _ => by
  unfold addUSpec at h
  split at h
  · cases h; exact fn_sound envJ_ok Try.func77 (addR _ _) trivial
  · cases h
noncomputable def envK : Env := envK1.set (addT envK1.fn 104 bitSpec)
theorem envK_ok : EnvOk Try.prog envK := env_add envK1_ok 104 bitSpec (enters_of Try.func104 rfl rfl) fun args o r es h ho => by
  unfold bitSpec at h
  split at h
  · cases h
    obtain ⟨h1, h2, _⟩ := ho
    obtain ⟨i, rfl⟩ := Int.eq_ofNat_of_zero_le h1
    exact bit_fnd _ i (by omega)
  · cases h

noncomputable def mu0 (a b : U4) : Cfg := ⟨[.code (bodyOf Try.f72)], .normal, initSt Try.f72.ntmps [.v (.a [.ob (.fr a)]), .v (.a [.ob (.fr b)])]⟩
--@env envK envK_ok
noncomputable def muIn_k : List KI := (run envK false 3000 ((fun (a b : U4) => (mu0 a b : Cfg)) default default) []).cfg.k
theorem muIn_at (a b : U4) : runAt envK false 3000 ((mu0 a b : Cfg)) [] [2, 3, 4, 5, 6] [16, 32, 48, 80] [] = some ⟨[], Exit.normal, [(SV.v (V1.c (It.ptr 16 0))), (SV.v (V1.c (It.ptr 32 0))), (SV.v (V1.c (It.ptr 48 0))), (SV.v (V1.c (It.ptr 80 0))), (SV.v (V1.c (It.int IntKind.i64 (255 : Int))))], [(Option.some (En.fl [(It.ob (Ob.fr a))])), (Option.some (En.fl [(It.ob (Ob.fr b))])), (Option.some (En.fl [(It.ob (Ob.fr (0 : U4)))])), (Option.some (En.fl [(It.ob (Ob.fr (0 : U4)))]))], 23, 128, []⟩ := by kernel_rfl
theorem muIn_hk (a b : U4) : (run envK false 3000 ((mu0 a b : Cfg)) []).cfg.k = muIn_k := by kernel_rfl
theorem muIn (a b : U4) {w0 : World} {F0 : Nat → Prop} {K : Kp} {ac : List Act} {Q : Exit → Act → World → Prop} {cX : Ctx} {aX : Act} (ho : AllP []) (hs : Sim w0 F0 K ac (((mu0 a b : Cfg)).σ) cX aX) (hK : ∀ ac cY aY, Sim w0 F0 K ac (mkSt 23 [2, 3, 4, 5, 6] [(SV.v (V1.c (It.ptr 16 0))), (SV.v (V1.c (It.ptr 32 0))), (SV.v (V1.c (It.ptr 48 0))), (SV.v (V1.c (It.ptr 80 0))), (SV.v (V1.c (It.int IntKind.i64 (255 : Int))))] [16, 32, 48, 80] [(Option.some (En.fl [(It.ob (Ob.fr a))])), (Option.some (En.fl [(It.ob (Ob.fr b))])), (Option.some (En.fl [(It.ob (Ob.fr (0 : U4)))])), (Option.some (En.fl [(It.ob (Ob.fr (0 : U4)))]))] 128 [] []) cY aY → Wq Try.prog Q (muIn_k) ac Exit.normal aY cY.w) : Wq Try.prog Q (((mu0 a b : Cfg)).k) ac ((mu0 a b : Cfg)).x aX cX.w :=
  run_at envK_ok (muIn_at a b) (muIn_hk a b) ho hs hK
noncomputable def muS (a b o : U4) (i : Int) : St := mkSt 23 [2, 3, 4, 5, 6] [(SV.v (V1.c (It.ptr 16 0))), (SV.v (V1.c (It.ptr 32 0))), (SV.v (V1.c (It.ptr 48 0))), (SV.v (V1.c (It.ptr 80 0))), .v (.c (.int .i64 i))] [16, 32, 48, 80] [(Option.some (En.fl [(It.ob (Ob.fr a))])), (Option.some (En.fl [(It.ob (Ob.fr b))])), (Option.some (En.fl [(It.ob (Ob.fr (0 : U4)))])), some (.fl [.ob (.fr o)])] 128 [] []
theorem muA_at (a b o : U4) (i : Int) : runAt envK false 3000 ((⟨lpIn muIn_k, .normal, muS a b o i⟩ : Cfg)) [true, true] [2, 3, 4, 5, 6] [16, 32, 48, 80] [] = some ⟨[((decide (i ≥ (0 : Int))) = true), ((0 : Int) ≤ i), (i < (256 : Int)), (((bitV a (i).toNat) == (1 : Int)) = true)], Exit.normal, [(SV.v (V1.c (It.ptr 16 0))), (SV.v (V1.c (It.ptr 32 0))), (SV.v (V1.c (It.ptr 48 0))), (SV.v (V1.c (It.ptr 80 0))), (SV.v (V1.c (It.int IntKind.i64 (IntKind.wrap IntKind.i64 (i - (1 : Int))))))], [(Option.some (En.fl [(It.ob (Ob.fr a))])), (Option.some (En.fl [(It.ob (Ob.fr b))])), (Option.some (En.fl [(It.ob (Ob.fr (0 : U4)))])), (Option.some (En.fl [(It.ob (Ob.fr (cleanU ((cleanU (o + o)) + b))))]))], 23, 400, []⟩ := by kernel_rfl
theorem muA_hk (a b o : U4) (i : Int) : (run envK false 3000 ((⟨lpIn muIn_k, .normal, muS a b o i⟩ : Cfg)) [true, true]).cfg.k = lpBk muIn_k := by kernel_rfl
theorem muA (a b o : U4) (i : Int) {w0 : World} {F0 : Nat → Prop} {K : Kp} {ac : List Act} {Q : Exit → Act → World → Prop} {cX : Ctx} {aX : Act} (ho : AllP [((decide (i ≥ (0 : Int))) = true), ((0 : Int) ≤ i), (i < (256 : Int)), (((bitV a (i).toNat) == (1 : Int)) = true)]) (hs : Sim w0 F0 K ac (muS a b o i) cX aX) (hK : ∀ ac cY aY, Sim w0 F0 K ac (mkSt 23 [2, 3, 4, 5, 6] [(SV.v (V1.c (It.ptr 16 0))), (SV.v (V1.c (It.ptr 32 0))), (SV.v (V1.c (It.ptr 48 0))), (SV.v (V1.c (It.ptr 80 0))), (SV.v (V1.c (It.int IntKind.i64 (IntKind.wrap IntKind.i64 (i - (1 : Int))))))] [16, 32, 48, 80] [(Option.some (En.fl [(It.ob (Ob.fr a))])), (Option.some (En.fl [(It.ob (Ob.fr b))])), (Option.some (En.fl [(It.ob (Ob.fr (0 : U4)))])), (Option.some (En.fl [(It.ob (Ob.fr (cleanU ((cleanU (o + o)) + b))))]))] 400 [] []) cY aY → Wq Try.prog Q (lpBk muIn_k) ac Exit.normal aY cY.w) : Wq Try.prog Q (lpIn muIn_k) ac .normal aX cX.w :=
  run_at2 envK_ok (muA_at a b o i) (muA_hk a b o i) ho hs hK
theorem muB_at (a b o : U4) (i : Int) : runAt envK false 3000 ((⟨lpIn muIn_k, .normal, muS a b o i⟩ : Cfg)) [true, false] [2, 3, 4, 5, 6] [16, 32, 48, 80] [] = some ⟨[((decide (i ≥ (0 : Int))) = true), ((0 : Int) ≤ i), (i < (256 : Int)), (((bitV a (i).toNat) == (1 : Int)) = false)], Exit.normal, [(SV.v (V1.c (It.ptr 16 0))), (SV.v (V1.c (It.ptr 32 0))), (SV.v (V1.c (It.ptr 48 0))), (SV.v (V1.c (It.ptr 80 0))), (SV.v (V1.c (It.int IntKind.i64 (IntKind.wrap IntKind.i64 (i - (1 : Int))))))], [(Option.some (En.fl [(It.ob (Ob.fr a))])), (Option.some (En.fl [(It.ob (Ob.fr b))])), (Option.some (En.fl [(It.ob (Ob.fr (0 : U4)))])), (Option.some (En.fl [(It.ob (Ob.fr (cleanU (o + o))))]))], 23, 336, []⟩ := by kernel_rfl
theorem muB_hk (a b o : U4) (i : Int) : (run envK false 3000 ((⟨lpIn muIn_k, .normal, muS a b o i⟩ : Cfg)) [true, false]).cfg.k = lpBk muIn_k := by kernel_rfl
theorem muB (a b o : U4) (i : Int) {w0 : World} {F0 : Nat → Prop} {K : Kp} {ac : List Act} {Q : Exit → Act → World → Prop} {cX : Ctx} {aX : Act} (ho : AllP [((decide (i ≥ (0 : Int))) = true), ((0 : Int) ≤ i), (i < (256 : Int)), (((bitV a (i).toNat) == (1 : Int)) = false)]) (hs : Sim w0 F0 K ac (muS a b o i) cX aX) (hK : ∀ ac cY aY, Sim w0 F0 K ac (mkSt 23 [2, 3, 4, 5, 6] [(SV.v (V1.c (It.ptr 16 0))), (SV.v (V1.c (It.ptr 32 0))), (SV.v (V1.c (It.ptr 48 0))), (SV.v (V1.c (It.ptr 80 0))), (SV.v (V1.c (It.int IntKind.i64 (IntKind.wrap IntKind.i64 (i - (1 : Int))))))] [16, 32, 48, 80] [(Option.some (En.fl [(It.ob (Ob.fr a))])), (Option.some (En.fl [(It.ob (Ob.fr b))])), (Option.some (En.fl [(It.ob (Ob.fr (0 : U4)))])), (Option.some (En.fl [(It.ob (Ob.fr (cleanU (o + o))))]))] 336 [] []) cY aY → Wq Try.prog Q (lpBk muIn_k) ac Exit.normal aY cY.w) : Wq Try.prog Q (lpIn muIn_k) ac .normal aX cX.w :=
  run_at2 envK_ok (muB_at a b o i) (muB_hk a b o i) ho hs hK
theorem muX_end (a b o : U4) (i : Int) : runEnd envK Try.f72 false 3000 (⟨lpIn muIn_k, .normal, muS a b o i⟩) [false] [] [] = (Option.some ([((decide (i ≥ (0 : Int))) = false)], ((SV.v (V1.a [(It.ob (Ob.fr o))])), []))) := by kernel_rfl
end Go.Proofs.Ytlfllehomhcbfaa

/- The reference's Mul: contract. No conditions. -/
namespace Go.Proofs.Ytlfllehomhcbfaa

theorem clean_add_val {x y : U4} (hx : x.val < rN) (hy : y.val < rN) : (cleanU (x + y)).val = (x.val + y.val) % rN := by
  rw [cleanU_val]
  have e : (x + y : U4).val = (x.val + y.val) % B4 := rfl
  have hr : rN + rN < B4 := by decide
  rw [e, Nat.mod_eq_of_lt (a := x.val + y.val) (by omega)]

theorem half_step (n j : Nat) : n / 2 ^ j = 2 * (n / 2 ^ (j + 1)) + n / 2 ^ j % 2 := by
  rw [Nat.pow_succ, ← Nat.div_div_eq_div_mul]
  omega

theorem dbl_mod {r p q b : Nat} (x : Nat) (hx : x = p * b % r) (_hq : q = 0 ∨ q = 1) : ((x + x) % r + q * b) % r = (2 * p + q) * b % r := by
  subst hx
  rw [Nat.mod_add_mod, ← Nat.two_mul, Nat.add_mod, Nat.mul_mod_mod, ← Nat.add_mod]
  congr 1
  rw [Nat.add_mul, Nat.mul_assoc]

theorem mulU_fnd (a b : U4) (hb : b.val < rN) : FnD Try.prog 72 [.v (.a [.ob (.fr a)]), .v (.a [.ob (.fr b)])] (.v (.a [.ob (.fr (Fin.ofNat B4 (a.val * b.val % rN)))])) [] := by
  refine fn_start (fn := Try.f72) (c := bodyOf Try.f72) Try.func72 rfl rfl fun x a0 hk hF hs => ?_
  refine muIn a b trivial hs fun ac cY aY hs1 => ?_
  refine loop_rule (ι := { p : Int × U4 // -1 ≤ p.1 ∧ p.1 ≤ 255 ∧ p.2.val = a.val / 2 ^ (p.1 + 1).toNat * b.val % rN }) (fun p => muS a b p.1.2 p.1.1) (fun p => (p.1.1 + 1).toNat) (c := lpC muIn_k) (k := lpR muIn_k) (by kernel_rfl) (fun p ih ac cY aY hs => ?_)
    ⟨(255, 0), by decide, by decide, by
      show (0 : Nat) = a.val / 2 ^ 256 * b.val % rN
      have ha : a.val < 2 ^ 256 := a.isLt
      rw [Nat.div_eq_of_lt ha, Nat.zero_mul, Nat.zero_mod]⟩ hs1
  obtain ⟨⟨i, o⟩, hi1, hi2, ho⟩ := p
  simp only at ih hs ho hi1 hi2
  have hor : o.val < rN := by rw [ho]; exact Nat.mod_lt _ (by decide)
  by_cases h : 0 ≤ i
  · obtain ⟨j, rfl⟩ := Int.eq_ofNat_of_zero_le h
    have e1 : ((j : Int) + 1).toNat = j + 1 := by omega
    rw [e1] at ho
    have hd := clean_add_val hor hor
    have hdr : (cleanU (o + o)).val < rN := by rw [hd]; exact Nat.mod_lt _ (by decide)
    have hhs := half_step a.val j
    have e2 : ((j : Int) - 1 + 1).toNat = j := by omega
    by_cases hbit : a.val / 2 ^ j % 2 = 1
    · refine muA a b o j ⟨by simp, by omega, by omega, by simp [bitV, hbit], trivial⟩ hs fun ac cY aY hs2 => ?_
      rw [wrap_id (by omega) (by omega)] at hs2
      refine ih ⟨((j : Int) - 1, cleanU (cleanU (o + o) + b)), by omega, by omega, ?_⟩ (by show ((j : Int) - 1 + 1).toNat < ((j : Int) + 1).toNat; omega) ac cY aY (hs2.nx _)
      show (cleanU (cleanU (o + o) + b)).val = a.val / 2 ^ ((j : Int) - 1 + 1).toNat * b.val % rN
      rw [e2, clean_add_val hdr hb, hd, hhs, hbit]
      have := dbl_mod (q := 1) o.val ho (.inr rfl)
      rw [Nat.one_mul] at this
      exact this
    · have hbit0 : a.val / 2 ^ j % 2 = 0 := by omega
      refine muB a b o j ⟨by simp, by omega, by omega, by simp [bitV, hbit0], trivial⟩ hs fun ac cY aY hs2 => ?_
      rw [wrap_id (by omega) (by omega)] at hs2
      refine ih ⟨((j : Int) - 1, cleanU (o + o)), by omega, by omega, ?_⟩ (by show ((j : Int) - 1 + 1).toNat < ((j : Int) + 1).toNat; omega) ac cY aY (hs2.nx _)
      show (cleanU (o + o)).val = a.val / 2 ^ ((j : Int) - 1 + 1).toNat * b.val % rN
      rw [e2, hd, hhs, hbit0]
      have := dbl_mod (q := 0) o.val ho (.inl rfl)
      rw [Nat.zero_mul, Nat.add_zero, Nat.mod_mod] at this
      exact this
  · have hi : i = -1 := by omega
    subst hi
    refine run_end2 envK_ok hk hF (muX_end a b o (-1)) ⟨by decide, trivial⟩ (fun y v hd => ?_) hs
    refine ob_ob (o := .fr o) (o' := .fr (Fin.ofNat B4 (a.val * b.val % rN))) (Eq.refl 4) ?_ hd
    show o.val = (a.val * b.val % rN) % B4
    rw [Nat.mod_eq_of_lt (a := a.val * b.val % rN) (Nat.lt_trans (Nat.mod_lt _ (by decide)) (by decide)), ho]
    show a.val / 2 ^ 0 * b.val % rN = _
    rw [Nat.pow_zero, Nat.div_one]

end Go.Proofs.Ytlfllehomhcbfaa

/- The reference's Pow, walked. No conditions. -/
namespace Go.Proofs.Ytlfllehomhcbfaa

def mulU (a b : U4) : U4 := Fin.ofNat B4 (a.val * b.val % rN)
def mulUSpec : FnSpec
  | [.v (.a [.ob (.fr a)]), .v (.a [.ob (.fr b)])] => some ([b.val < rN], .v (.a [.ob (.fr (mulU a b))]), [])
  | _ => none
noncomputable def envL : Env := envK.set (addT envK.fn 72 mulUSpec)
theorem envL_ok : EnvOk Try.prog envL := env_add envK_ok 72 mulUSpec (enters_of Try.func72 rfl rfl) fun args o r es h ho => by
  unfold mulUSpec at h
  split at h
  · cases h; exact mulU_fnd _ _ ho.1
  · cases h

noncomputable def pw0 (a b : U4) : Cfg := ⟨[.code (bodyOf Try.f103)], .normal, initSt Try.f103.ntmps [.v (.a [.ob (.fr a)]), .v (.a [.ob (.fr b)])]⟩
--@env envL envL_ok
noncomputable def pwIn_k : List KI := (run envL false 3000 ((fun (a b : U4) => (pw0 a b : Cfg)) default default) []).cfg.k
theorem pwIn_at (a b : U4) : runAt envL false 3000 ((pw0 a b : Cfg)) [] [2, 3, 4, 5, 6] [16, 32, 48, 80] [] = some ⟨[((0 : Int) ≤ (1 : Int)), ((1 : Int) < (18446744073709551616 : Int)), ((0 : Int) ≤ (0 : Int)), ((0 : Int) < (18446744073709551616 : Int)), ((0 : Int) ≤ (0 : Int)), ((0 : Int) < (18446744073709551616 : Int)), ((0 : Int) ≤ (0 : Int)), ((0 : Int) < (18446744073709551616 : Int))], Exit.normal, [(SV.v (V1.c (It.ptr 16 0))), (SV.v (V1.c (It.ptr 32 0))), (SV.v (V1.c (It.ptr 48 0))), (SV.v (V1.c (It.ptr 80 0))), (SV.v (V1.c (It.int IntKind.i64 (255 : Int))))], [(Option.some (En.fl [(It.ob (Ob.fr a))])), (Option.some (En.fl [(It.ob (Ob.fr b))])), (Option.some (En.fl [(It.ob (Ob.fr (0 : U4)))])), (Option.some (En.fl [(It.ob (Ob.fr (Fin.ofNat B4 1)))]))], 23, 128, []⟩ := by kernel_rfl
theorem pwIn_hk (a b : U4) : (run envL false 3000 ((pw0 a b : Cfg)) []).cfg.k = pwIn_k := by kernel_rfl
theorem pwIn (a b : U4) {w0 : World} {F0 : Nat → Prop} {K : Kp} {ac : List Act} {Q : Exit → Act → World → Prop} {cX : Ctx} {aX : Act} (ho : AllP [((0 : Int) ≤ (1 : Int)), ((1 : Int) < (18446744073709551616 : Int)), ((0 : Int) ≤ (0 : Int)), ((0 : Int) < (18446744073709551616 : Int)), ((0 : Int) ≤ (0 : Int)), ((0 : Int) < (18446744073709551616 : Int)), ((0 : Int) ≤ (0 : Int)), ((0 : Int) < (18446744073709551616 : Int))]) (hs : Sim w0 F0 K ac (((pw0 a b : Cfg)).σ) cX aX) (hK : ∀ ac cY aY, Sim w0 F0 K ac (mkSt 23 [2, 3, 4, 5, 6] [(SV.v (V1.c (It.ptr 16 0))), (SV.v (V1.c (It.ptr 32 0))), (SV.v (V1.c (It.ptr 48 0))), (SV.v (V1.c (It.ptr 80 0))), (SV.v (V1.c (It.int IntKind.i64 (255 : Int))))] [16, 32, 48, 80] [(Option.some (En.fl [(It.ob (Ob.fr a))])), (Option.some (En.fl [(It.ob (Ob.fr b))])), (Option.some (En.fl [(It.ob (Ob.fr (0 : U4)))])), (Option.some (En.fl [(It.ob (Ob.fr (Fin.ofNat B4 1)))]))] 128 [] []) cY aY → Wq Try.prog Q (pwIn_k) ac Exit.normal aY cY.w) : Wq Try.prog Q (((pw0 a b : Cfg)).k) ac ((pw0 a b : Cfg)).x aX cX.w :=
  run_at envL_ok (pwIn_at a b) (pwIn_hk a b) ho hs hK
noncomputable def pwS (a b o : U4) (i : Int) : St := mkSt 23 [2, 3, 4, 5, 6] [(SV.v (V1.c (It.ptr 16 0))), (SV.v (V1.c (It.ptr 32 0))), (SV.v (V1.c (It.ptr 48 0))), (SV.v (V1.c (It.ptr 80 0))), .v (.c (.int .i64 i))] [16, 32, 48, 80] [(Option.some (En.fl [(It.ob (Ob.fr a))])), (Option.some (En.fl [(It.ob (Ob.fr b))])), (Option.some (En.fl [(It.ob (Ob.fr (0 : U4)))])), some (.fl [.ob (.fr o)])] 128 [] []
theorem pwA_at (a b o : U4) (i : Int) : runAt envL false 3000 ((⟨lpIn pwIn_k, .normal, pwS a b o i⟩ : Cfg)) [true, true] [2, 3, 4, 5, 6] [16, 32, 48, 80] [] = some ⟨[((decide (i ≥ (0 : Int))) = true), ((Fin.val o) < rN), ((0 : Int) ≤ i), (i < (256 : Int)), (((bitV b (i).toNat) == (1 : Int)) = true), ((Fin.val a) < rN)], Exit.normal, [(SV.v (V1.c (It.ptr 16 0))), (SV.v (V1.c (It.ptr 32 0))), (SV.v (V1.c (It.ptr 48 0))), (SV.v (V1.c (It.ptr 80 0))), (SV.v (V1.c (It.int IntKind.i64 (IntKind.wrap IntKind.i64 (i - (1 : Int))))))], [(Option.some (En.fl [(It.ob (Ob.fr a))])), (Option.some (En.fl [(It.ob (Ob.fr b))])), (Option.some (En.fl [(It.ob (Ob.fr (0 : U4)))])), (Option.some (En.fl [(It.ob (Ob.fr (mulU (mulU o o) a)))]))], 23, 400, []⟩ := by kernel_rfl
theorem pwA_hk (a b o : U4) (i : Int) : (run envL false 3000 ((⟨lpIn pwIn_k, .normal, pwS a b o i⟩ : Cfg)) [true, true]).cfg.k = lpBk pwIn_k := by kernel_rfl
theorem pwA (a b o : U4) (i : Int) {w0 : World} {F0 : Nat → Prop} {K : Kp} {ac : List Act} {Q : Exit → Act → World → Prop} {cX : Ctx} {aX : Act} (ho : AllP [((decide (i ≥ (0 : Int))) = true), ((Fin.val o) < rN), ((0 : Int) ≤ i), (i < (256 : Int)), (((bitV b (i).toNat) == (1 : Int)) = true), ((Fin.val a) < rN)]) (hs : Sim w0 F0 K ac (pwS a b o i) cX aX) (hK : ∀ ac cY aY, Sim w0 F0 K ac (mkSt 23 [2, 3, 4, 5, 6] [(SV.v (V1.c (It.ptr 16 0))), (SV.v (V1.c (It.ptr 32 0))), (SV.v (V1.c (It.ptr 48 0))), (SV.v (V1.c (It.ptr 80 0))), (SV.v (V1.c (It.int IntKind.i64 (IntKind.wrap IntKind.i64 (i - (1 : Int))))))] [16, 32, 48, 80] [(Option.some (En.fl [(It.ob (Ob.fr a))])), (Option.some (En.fl [(It.ob (Ob.fr b))])), (Option.some (En.fl [(It.ob (Ob.fr (0 : U4)))])), (Option.some (En.fl [(It.ob (Ob.fr (mulU (mulU o o) a)))]))] 400 [] []) cY aY → Wq Try.prog Q (lpBk pwIn_k) ac Exit.normal aY cY.w) : Wq Try.prog Q (lpIn pwIn_k) ac .normal aX cX.w :=
  run_at2 envL_ok (pwA_at a b o i) (pwA_hk a b o i) ho hs hK
theorem pwB_at (a b o : U4) (i : Int) : runAt envL false 3000 ((⟨lpIn pwIn_k, .normal, pwS a b o i⟩ : Cfg)) [true, false] [2, 3, 4, 5, 6] [16, 32, 48, 80] [] = some ⟨[((decide (i ≥ (0 : Int))) = true), ((Fin.val o) < rN), ((0 : Int) ≤ i), (i < (256 : Int)), (((bitV b (i).toNat) == (1 : Int)) = false)], Exit.normal, [(SV.v (V1.c (It.ptr 16 0))), (SV.v (V1.c (It.ptr 32 0))), (SV.v (V1.c (It.ptr 48 0))), (SV.v (V1.c (It.ptr 80 0))), (SV.v (V1.c (It.int IntKind.i64 (IntKind.wrap IntKind.i64 (i - (1 : Int))))))], [(Option.some (En.fl [(It.ob (Ob.fr a))])), (Option.some (En.fl [(It.ob (Ob.fr b))])), (Option.some (En.fl [(It.ob (Ob.fr (0 : U4)))])), (Option.some (En.fl [(It.ob (Ob.fr (mulU o o)))]))], 23, 336, []⟩ := by kernel_rfl
theorem pwB_hk (a b o : U4) (i : Int) : (run envL false 3000 ((⟨lpIn pwIn_k, .normal, pwS a b o i⟩ : Cfg)) [true, false]).cfg.k = lpBk pwIn_k := by kernel_rfl
theorem pwB (a b o : U4) (i : Int) {w0 : World} {F0 : Nat → Prop} {K : Kp} {ac : List Act} {Q : Exit → Act → World → Prop} {cX : Ctx} {aX : Act} (ho : AllP [((decide (i ≥ (0 : Int))) = true), ((Fin.val o) < rN), ((0 : Int) ≤ i), (i < (256 : Int)), (((bitV b (i).toNat) == (1 : Int)) = false)]) (hs : Sim w0 F0 K ac (pwS a b o i) cX aX) (hK : ∀ ac cY aY, Sim w0 F0 K ac (mkSt 23 [2, 3, 4, 5, 6] [(SV.v (V1.c (It.ptr 16 0))), (SV.v (V1.c (It.ptr 32 0))), (SV.v (V1.c (It.ptr 48 0))), (SV.v (V1.c (It.ptr 80 0))), (SV.v (V1.c (It.int IntKind.i64 (IntKind.wrap IntKind.i64 (i - (1 : Int))))))] [16, 32, 48, 80] [(Option.some (En.fl [(It.ob (Ob.fr a))])), (Option.some (En.fl [(It.ob (Ob.fr b))])), (Option.some (En.fl [(It.ob (Ob.fr (0 : U4)))])), (Option.some (En.fl [(It.ob (Ob.fr (mulU o o)))]))] 336 [] []) cY aY → Wq Try.prog Q (lpBk pwIn_k) ac Exit.normal aY cY.w) : Wq Try.prog Q (lpIn pwIn_k) ac .normal aX cX.w :=
  run_at2 envL_ok (pwB_at a b o i) (pwB_hk a b o i) ho hs hK
theorem pwX_end (a b o : U4) (i : Int) : runEnd envL Try.f103 false 3000 (⟨lpIn pwIn_k, .normal, pwS a b o i⟩) [false] [] [] = (Option.some ([((decide (i ≥ (0 : Int))) = false)], ((SV.v (V1.a [(It.ob (Ob.fr o))])), []))) := by kernel_rfl
end Go.Proofs.Ytlfllehomhcbfaa

/- The reference's Pow: contract. No conditions. -/
namespace Go.Proofs.Ytlfllehomhcbfaa

def powN (x : Fr) : Nat → Fr
  | 0 => 1
  | n + 1 => powN x n * x

theorem powN_add (x : Fr) (m : Nat) : ∀ n, powN x (m + n) = powN x m * powN x n
  | 0 => (Fin.mul_one _).symm
  | n + 1 => by
    show powN x (m + n) * x = powN x m * (powN x n * x)
    rw [powN_add x m n, Fin.mul_assoc]

theorem mulU_out (x y : Fr) : mulU (outF x) (outF y) = outF (x * y) := by
  apply Fin.ext
  rw [outF_val]
  show ((outF x).val * (outF y).val % rN) % B4 = (x * y).val
  rw [outF_val, outF_val]
  exact Nat.mod_eq_of_lt (Nat.lt_trans (Nat.mod_lt _ (by decide)) (by decide))

theorem outF_lt (x : Fr) : (outF x).val < rN := by rw [outF_val]; exact x.isLt

theorem out_one1 : outF 1 = Fin.ofNat B4 1 := by
  apply Fin.ext
  rw [outF_val]
  rfl

theorem pow103_fnd (x : Fr) (e : U4) : FnD Try.prog 103 [.v (.a [.ob (.fr (outF x))]), .v (.a [.ob (.fr e)])] (.v (.a [.ob (.fr (outF (powN x e.val)))])) [] := by
  refine fn_start (fn := Try.f103) (c := bodyOf Try.f103) Try.func103 rfl rfl fun cx a0 hk hF hs => ?_
  refine pwIn (outF x) e ⟨by decide, by decide, by decide, by decide, by decide, by decide, by decide, by decide, trivial⟩ hs fun ac cY aY hs1 => ?_
  rw [← out_one1] at hs1
  refine loop_rule (ι := { p : Int × Fr // -1 ≤ p.1 ∧ p.1 ≤ 255 ∧ p.2 = powN x (e.val / 2 ^ (p.1 + 1).toNat) }) (fun p => pwS (outF x) e (outF p.1.2) p.1.1) (fun p => (p.1.1 + 1).toNat) (c := lpC pwIn_k) (k := lpR pwIn_k) (by kernel_rfl) (fun p ih ac cY aY hs => ?_)
    ⟨(255, 1), by decide, by decide, by
      show (1 : Fr) = powN x (e.val / 2 ^ 256)
      have he : e.val < 2 ^ 256 := e.isLt
      rw [Nat.div_eq_of_lt he]; rfl⟩ hs1
  obtain ⟨⟨i, o⟩, hi1, hi2, ho⟩ := p
  simp only at ih hs ho hi1 hi2
  by_cases h : 0 ≤ i
  · obtain ⟨j, rfl⟩ := Int.eq_ofNat_of_zero_le h
    have e1 : ((j : Int) + 1).toNat = j + 1 := by omega
    rw [e1] at ho
    have hhs := half_step e.val j
    have e2 : ((j : Int) - 1 + 1).toNat = j := by omega
    by_cases hbit : e.val / 2 ^ j % 2 = 1
    · refine pwA (outF x) e (outF o) j ⟨by simp, outF_lt o, by omega, by omega, by simp [bitV, hbit], outF_lt x, trivial⟩ hs fun ac cY aY hs2 => ?_
      rw [wrap_id (by omega) (by omega), mulU_out, mulU_out] at hs2
      refine ih ⟨((j : Int) - 1, o * o * x), by omega, by omega, ?_⟩ (by show ((j : Int) - 1 + 1).toNat < ((j : Int) + 1).toNat; omega) ac cY aY (hs2.nx _)
      show o * o * x = powN x (e.val / 2 ^ ((j : Int) - 1 + 1).toNat)
      rw [e2, hhs, hbit, Nat.two_mul]
      show _ = powN x (e.val / 2 ^ (j + 1) + e.val / 2 ^ (j + 1)) * x
      rw [powN_add, ← ho]
    · have hbit0 : e.val / 2 ^ j % 2 = 0 := by omega
      refine pwB (outF x) e (outF o) j ⟨by simp, outF_lt o, by omega, by omega, by simp [bitV, hbit0], trivial⟩ hs fun ac cY aY hs2 => ?_
      rw [wrap_id (by omega) (by omega), mulU_out] at hs2
      refine ih ⟨((j : Int) - 1, o * o), by omega, by omega, ?_⟩ (by show ((j : Int) - 1 + 1).toNat < ((j : Int) + 1).toNat; omega) ac cY aY (hs2.nx _)
      show o * o = powN x (e.val / 2 ^ ((j : Int) - 1 + 1).toNat)
      rw [e2, hhs, hbit0, Nat.add_zero, Nat.two_mul, powN_add, ← ho]
  · have hi : i = -1 := by omega
    subst hi
    refine run_end2 envL_ok hk hF (pwX_end (outF x) e (outF o) (-1)) ⟨by decide, trivial⟩ (fun y v hd => ?_) hs
    have : o = powN x e.val := by
      rw [ho]
      show powN x (e.val / 2 ^ 0) = _
      rw [Nat.pow_zero, Nat.div_one]
    rw [← this]
    exact hd

end Go.Proofs.Ytlfllehomhcbfaa

/- The reference's Root, walked. No conditions. -/
namespace Go.Proofs.Ytlfllehomhcbfaa

def powU (a : U4) (e : Nat) : U4 := outF (powN (inF a) e)
def num4i (a b c d : Int) : Nat := (a + 18446744073709551616 * b + 340282366920938463463374607431768211456 * c + 6277101735386680763835789423207666416102355444464034512896 * d).toNat
def powSpec : FnSpec
  | [.v (.a [.ob (.fr a)]), .v (.a [.int .u64 e0, .int .u64 e1, .int .u64 e2, .int .u64 e3])] =>
    some ([a.val < rN, 0 ≤ e0, e0 < 18446744073709551616, 0 ≤ e1, e1 < 18446744073709551616, 0 ≤ e2, e2 < 18446744073709551616, 0 ≤ e3, e3 < 18446744073709551616], .v (.a [.ob (.fr (powU a (num4i e0 e1 e2 e3)))]), [])
  | _ => none

theorem num4i_lt {a b c d : Int} (ha : 0 ≤ a) (ha1 : a < 18446744073709551616) (hb : 0 ≤ b) (hb1 : b < 18446744073709551616) (hc : 0 ≤ c) (hc1 : c < 18446744073709551616) (hd : 0 ≤ d) (hd1 : d < 18446744073709551616) : num4i a b c d < B4 ∧ ((num4i a b c d : Nat) : Int) = a + 18446744073709551616 * b + 340282366920938463463374607431768211456 * c + 6277101735386680763835789423207666416102355444464034512896 * d := by
  unfold num4i B4
  omega

theorem out_in {a : U4} (h : a.val < rN) : outF (inF a) = a := by
  apply Fin.ext
  rw [outF_val]
  exact Nat.mod_eq_of_lt h

noncomputable def envM1 : Env := envL.set (addT envL.fn 103 powSpec)
theorem envM1_ok : EnvOk Try.prog envM1 := env_add envL_ok 103 powSpec (enters_of Try.func103 rfl rfl) fun args o r es h ho => by
  unfold powSpec at h
  split at h
  · rename_i a e0 e1 e2 e3
    cases h
    obtain ⟨h0, h1, h2, h3, h4, h5, h6, h7, h8, _⟩ := ho
    obtain ⟨hlt, he⟩ := num4i_lt h1 h2 h3 h4 h5 h6 h7 h8
    have hp := pow103_fnd (inF a) (Fin.ofNat B4 (num4i e0 e1 e2 e3))
    rw [out_in h0] at hp
    have hv : (Fin.ofNat B4 (num4i e0 e1 e2 e3)).val = num4i e0 e1 e2 e3 := Nat.mod_eq_of_lt hlt
    rw [hv] at hp
    refine hp.conv (fun x vs hd => ?_) (fun _ _ h => h)
    cases hd with | cons ha hd => cases hd with | cons hb hd =>
    cases hd
    refine .cons ha (.cons (ints_ob (Eq.refl 4) ?_ hb) .nil)
    show limb (Fin.ofNat B4 (num4i e0 e1 e2 e3)).val 0 = _ ∧ limb (Fin.ofNat B4 (num4i e0 e1 e2 e3)).val 1 = _ ∧ limb (Fin.ofNat B4 (num4i e0 e1 e2 e3)).val 2 = _ ∧ limb (Fin.ofNat B4 (num4i e0 e1 e2 e3)).val 3 = _
    rw [hv]
    exact limbsAre4 h1 h2 h3 h4 h5 h6 h7 h8 he
  · cases h

noncomputable def rt0 (log : Int) : Cfg := ⟨[.code (bodyOf Try.f68)], .normal, initSt Try.f68.ntmps [.v (.c (.int .i64 log))]⟩
--@env envM1 envM1_ok
noncomputable def rtIn_k : List KI := (run envM1 false 3000 ((fun (log : Int) => (rt0 log : Cfg)) default) []).cfg.k
theorem rtIn_at (log : Int) : runAt envM1 false 3000 ((rt0 log : Cfg)) [] [2, 4, 5] [16, 688] [] = some ⟨[((0 : Int) ≤ (0 : Int)), ((0 : Int) < (4 : Int)), (0 < 4), ((4294967296 : Int) ≠ (0 : Int)), ((0 : Int) ≤ (1 : Int)), ((1 : Int) < (4 : Int)), (1 < 4), ((4294967296 : Int) ≠ (0 : Int)), ((0 : Int) ≤ (0 : Int)), ((0 : Int) < (4 : Int)), ((0 : Int) ≤ (1 : Int)), ((1 : Int) < (4 : Int)), ((4294967296 : Int) ≠ (0 : Int)), ((0 : Int) ≤ (2 : Int)), ((2 : Int) < (4 : Int)), ((4294967296 : Int) ≠ (0 : Int)), ((0 : Int) ≤ (1 : Int)), ((1 : Int) < (4 : Int)), ((0 : Int) ≤ (2 : Int)), ((2 : Int) < (4 : Int)), ((4294967296 : Int) ≠ (0 : Int)), ((0 : Int) ≤ (3 : Int)), ((3 : Int) < (4 : Int)), ((4294967296 : Int) ≠ (0 : Int)), ((0 : Int) ≤ (2 : Int)), ((2 : Int) < (4 : Int)), ((0 : Int) ≤ (3 : Int)), ((3 : Int) < (4 : Int)), ((4294967296 : Int) ≠ (0 : Int)), ((0 : Int) ≤ (3 : Int)), ((3 : Int) < (4 : Int)), ((0 : Int) ≤ (7 : Int)), ((7 : Int) < (18446744073709551616 : Int)), ((0 : Int) ≤ (0 : Int)), ((0 : Int) < (18446744073709551616 : Int)), ((0 : Int) ≤ (0 : Int)), ((0 : Int) < (18446744073709551616 : Int)), ((0 : Int) ≤ (0 : Int)), ((0 : Int) < (18446744073709551616 : Int)), (7 < rN), ((0 : Int) ≤ (18446282274530918399 : Int)), ((18446282274530918399 : Int) < (18446744073709551616 : Int)), ((0 : Int) ≤ (694073334983140354 : Int)), ((694073334983140354 : Int) < (18446744073709551616 : Int)), ((0 : Int) ≤ (2998690675949164552 : Int)), ((2998690675949164552 : Int) < (18446744073709551616 : Int)), ((0 : Int) ≤ (1944954707 : Int)), ((1944954707 : Int) < (18446744073709551616 : Int))], Exit.normal, [(SV.v (V1.c (It.ptr 16 0))), (SV.v (V1.c (It.ptr 688 0))), (SV.v (V1.c (It.int IntKind.i64 log)))], [(Option.some (En.fl [(It.ob (Ob.fr (0 : U4)))])), (Option.some (En.fl [(It.ob (Ob.fr (powU (Fin.ofNat B4 7) 12208678567578594777604504606729831043093128246378069236549469339647)))]))], 50, 752, []⟩ := by kernel_rfl
theorem rtIn_hk (log : Int) : (run envM1 false 3000 ((rt0 log : Cfg)) []).cfg.k = rtIn_k := by kernel_rfl
theorem rtIn (log : Int) {w0 : World} {F0 : Nat → Prop} {K : Kp} {ac : List Act} {Q : Exit → Act → World → Prop} {cX : Ctx} {aX : Act} (ho : AllP [((0 : Int) ≤ (0 : Int)), ((0 : Int) < (4 : Int)), (0 < 4), ((4294967296 : Int) ≠ (0 : Int)), ((0 : Int) ≤ (1 : Int)), ((1 : Int) < (4 : Int)), (1 < 4), ((4294967296 : Int) ≠ (0 : Int)), ((0 : Int) ≤ (0 : Int)), ((0 : Int) < (4 : Int)), ((0 : Int) ≤ (1 : Int)), ((1 : Int) < (4 : Int)), ((4294967296 : Int) ≠ (0 : Int)), ((0 : Int) ≤ (2 : Int)), ((2 : Int) < (4 : Int)), ((4294967296 : Int) ≠ (0 : Int)), ((0 : Int) ≤ (1 : Int)), ((1 : Int) < (4 : Int)), ((0 : Int) ≤ (2 : Int)), ((2 : Int) < (4 : Int)), ((4294967296 : Int) ≠ (0 : Int)), ((0 : Int) ≤ (3 : Int)), ((3 : Int) < (4 : Int)), ((4294967296 : Int) ≠ (0 : Int)), ((0 : Int) ≤ (2 : Int)), ((2 : Int) < (4 : Int)), ((0 : Int) ≤ (3 : Int)), ((3 : Int) < (4 : Int)), ((4294967296 : Int) ≠ (0 : Int)), ((0 : Int) ≤ (3 : Int)), ((3 : Int) < (4 : Int)), ((0 : Int) ≤ (7 : Int)), ((7 : Int) < (18446744073709551616 : Int)), ((0 : Int) ≤ (0 : Int)), ((0 : Int) < (18446744073709551616 : Int)), ((0 : Int) ≤ (0 : Int)), ((0 : Int) < (18446744073709551616 : Int)), ((0 : Int) ≤ (0 : Int)), ((0 : Int) < (18446744073709551616 : Int)), (7 < rN), ((0 : Int) ≤ (18446282274530918399 : Int)), ((18446282274530918399 : Int) < (18446744073709551616 : Int)), ((0 : Int) ≤ (694073334983140354 : Int)), ((694073334983140354 : Int) < (18446744073709551616 : Int)), ((0 : Int) ≤ (2998690675949164552 : Int)), ((2998690675949164552 : Int) < (18446744073709551616 : Int)), ((0 : Int) ≤ (1944954707 : Int)), ((1944954707 : Int) < (18446744073709551616 : Int))]) (hs : Sim w0 F0 K ac (((rt0 log : Cfg)).σ) cX aX) (hK : ∀ ac cY aY, Sim w0 F0 K ac (mkSt 50 [2, 4, 5] [(SV.v (V1.c (It.ptr 16 0))), (SV.v (V1.c (It.ptr 688 0))), (SV.v (V1.c (It.int IntKind.i64 log)))] [16, 688] [(Option.some (En.fl [(It.ob (Ob.fr (0 : U4)))])), (Option.some (En.fl [(It.ob (Ob.fr (powU (Fin.ofNat B4 7) 12208678567578594777604504606729831043093128246378069236549469339647)))]))] 752 [] []) cY aY → Wq Try.prog Q (rtIn_k) ac Exit.normal aY cY.w) : Wq Try.prog Q (((rt0 log : Cfg)).k) ac ((rt0 log : Cfg)).x aX cX.w :=
  run_at envM1_ok (rtIn_at log) (rtIn_hk log) ho hs hK
noncomputable def rtS (i : Int) (w : U4) : St := mkSt 50 [2, 4, 5] [(SV.v (V1.c (It.ptr 16 0))), (SV.v (V1.c (It.ptr 688 0))), .v (.c (.int .i64 i))] [16, 688] [(Option.some (En.fl [(It.ob (Ob.fr (0 : U4)))])), some (.fl [.ob (.fr w)])] 752 [] []
theorem rtN_at (i : Int) (w : U4) : runAt envM1 false 3000 ((⟨lpIn rtIn_k, .normal, rtS i w⟩ : Cfg)) [true] [2, 4, 5] [16, 688] [] = some ⟨[((decide (i < (32 : Int))) = true), ((Fin.val w) < rN)], Exit.normal, [(SV.v (V1.c (It.ptr 16 0))), (SV.v (V1.c (It.ptr 688 0))), (SV.v (V1.c (It.int IntKind.i64 (IntKind.wrap IntKind.i64 (i + (1 : Int))))))], [(Option.some (En.fl [(It.ob (Ob.fr (0 : U4)))])), (Option.some (En.fl [(It.ob (Ob.fr (mulU w w)))]))], 50, 896, []⟩ := by kernel_rfl
theorem rtN_hk (i : Int) (w : U4) : (run envM1 false 3000 ((⟨lpIn rtIn_k, .normal, rtS i w⟩ : Cfg)) [true]).cfg.k = lpBk rtIn_k := by kernel_rfl
theorem rtN (i : Int) (w : U4) {w0 : World} {F0 : Nat → Prop} {K : Kp} {ac : List Act} {Q : Exit → Act → World → Prop} {cX : Ctx} {aX : Act} (ho : AllP [((decide (i < (32 : Int))) = true), ((Fin.val w) < rN)]) (hs : Sim w0 F0 K ac (rtS i w) cX aX) (hK : ∀ ac cY aY, Sim w0 F0 K ac (mkSt 50 [2, 4, 5] [(SV.v (V1.c (It.ptr 16 0))), (SV.v (V1.c (It.ptr 688 0))), (SV.v (V1.c (It.int IntKind.i64 (IntKind.wrap IntKind.i64 (i + (1 : Int))))))] [16, 688] [(Option.some (En.fl [(It.ob (Ob.fr (0 : U4)))])), (Option.some (En.fl [(It.ob (Ob.fr (mulU w w)))]))] 896 [] []) cY aY → Wq Try.prog Q (lpBk rtIn_k) ac Exit.normal aY cY.w) : Wq Try.prog Q (lpIn rtIn_k) ac .normal aX cX.w :=
  run_at2 envM1_ok (rtN_at i w) (rtN_hk i w) ho hs hK
theorem rtX_end (i : Int) (w : U4) : runEnd envM1 Try.f68 false 3000 (⟨lpIn rtIn_k, .normal, rtS i w⟩) [false] [] [] = (Option.some ([((decide (i < (32 : Int))) = false)], ((SV.v (V1.a [(It.ob (Ob.fr w))])), []))) := by kernel_rfl
end Go.Proofs.Ytlfllehomhcbfaa

/- The reference's Root: contract. No conditions. -/
namespace Go.Proofs.Ytlfllehomhcbfaa

/-- A power of a number, modulo another one, bit by bit. -/
def pwm (r x : Nat) : Nat → Nat → Nat
  | 0, _ => 1 % r
  | f + 1, e => (pwm r x f (e / 2) * pwm r x f (e / 2) % r) * (if e % 2 = 1 then x else 1) % r

theorem powN_val (x : Fr) : ∀ n, (powN x n).val = x.val ^ n % rN
  | 0 => rfl
  | n + 1 => by
    show ((powN x n).val * x.val) % rN = _
    rw [powN_val x n, Nat.pow_succ, Nat.mod_mul_mod]

theorem pwm_eq (r x : Nat) : ∀ f e, e < 2 ^ f → pwm r x f e = x ^ e % r
  | 0, e, h => by
    have : e = 0 := by omega
    subst this
    rfl
  | f + 1, e, h => by
    show (pwm r x f (e / 2) * pwm r x f (e / 2) % r) * (if e % 2 = 1 then x else 1) % r = _
    rw [pwm_eq r x f (e / 2) (by rw [Nat.pow_succ] at h; omega), ← Nat.mul_mod, Nat.mod_mul_mod, ← Nat.pow_add]
    by_cases h1 : e % 2 = 1
    · rw [if_pos h1, ← Nat.pow_succ]
      congr 2
      omega
    · rw [if_neg h1, Nat.mul_one]
      congr 2
      omega

theorem root_num : pwm rN 7 224 12208678567578594777604504606729831043093128246378069236549469339647 = 10238227357739495823651030575849232062558860180284477541189508159991286009131 := by kernel_rfl

theorem root_pow : powU (Fin.ofNat B4 7) 12208678567578594777604504606729831043093128246378069236549469339647 = outF rootF := by
  apply Fin.ext
  unfold powU
  rw [outF_val, outF_val, powN_val]
  have h7 : (inF (Fin.ofNat B4 7)).val = 7 := by rw [inF_ofNat (by decide)]; rfl
  have hr : rootF.val = 10238227357739495823651030575849232062558860180284477541189508159991286009131 := by kernel_rfl
  rw [h7, hr, ← root_num, pwm_eq _ _ _ _ (by decide)]

theorem refRoot_fnd (log : Int) (h0 : 0 ≤ log) (h1 : log ≤ 16) : FnD Try.prog 68 [.v (.c (.int .i64 log))] (.v (.a [.ob (.fr (outF (sqN rootF (32 - log).toNat)))])) [] := by
  refine fn_start (fn := Try.f68) (c := bodyOf Try.f68) Try.func68 rfl rfl fun x a hk hF hs => ?_
  refine rtIn log (by and_intros <;> first | trivial | decide) hs fun ac cY aY hs1 => ?_
  rw [root_pow] at hs1
  refine loop_rule (ι := { p : Int × Nat // p.1 = log + p.2 ∧ p.1 ≤ 32 }) (fun p => rtS p.1.1 (outF (sqN rootF p.1.2))) (fun p => (32 - p.1.1).toNat) (c := lpC rtIn_k) (k := lpR rtIn_k) (by kernel_rfl) (fun p ih ac cY aY hs => ?_) ⟨(log, 0), by simp, by show log ≤ 32; omega⟩ hs1
  obtain ⟨⟨i, n⟩, hi, hi2⟩ := p
  simp only at ih hs hi hi2
  by_cases h : i < 32
  · refine rtN i (outF (sqN rootF n)) ⟨by simp [h], outF_lt _, trivial⟩ hs fun ac cY aY hs2 => ?_
    rw [wrap_id (by omega) (by omega), mulU_out] at hs2
    exact ih ⟨(i + 1, n + 1), by show i + 1 = log + ((n + 1 : Nat) : Int); omega, by show i + 1 ≤ 32; omega⟩ (by show (32 - (i + 1)).toNat < (32 - i).toNat; omega) ac cY aY (hs2.nx _)
  · refine run_end2 envM1_ok hk hF (rtX_end i (outF (sqN rootF n))) ⟨by simp [h], trivial⟩ (fun y v hd => ?_) hs
    have e : (32 - log).toNat = n := by omega
    rw [e]
    exact hd

end Go.Proofs.Ytlfllehomhcbfaa

/- The reference's New, what a domain must be, walked. No conditions. -/
namespace Go.Proofs.Ytlfllehomhcbfaa

def rootSpec2 : FnSpec
  | [.v (.c (.int .i64 log))] => some ([0 ≤ log, log ≤ 16], .v (.a [.ob (.fr (outF (sqN rootF (32 - log).toNat)))]), [])
  | _ => none
noncomputable def envM2 : Env := envM1.set (addT envM1.fn 68 rootSpec2)
theorem envM2_ok : EnvOk Try.prog envM2 := env_add envM1_ok 68 rootSpec2 (enters_of Try.func68 rfl rfl) fun args o r es h ho => by
  unfold rootSpec2 at h
  split at h
  · cases h; exact refRoot_fnd _ ho.1 ho.2.1
  · cases h
def newSpec : FnSpec
  | [.v (.c (.int .i64 log))] => some ([], newV log, [])
  | _ => none
noncomputable def envM3 : Env := envM2.set (addT envM2.fn 21 newSpec)
theorem envM3_ok : EnvOk Try.prog envM3 := env_add envM2_ok 21 newSpec (enters_of Try.func21 rfl rfl) fun args o r es h ho => by
  unfold newSpec at h
  split at h
  · cases h; exact new_fnd _
  · cases h

--@env envM2 envM2_ok
theorem rnA (log : Int) : fnRes envM2 Try.f22 3000 [.v (.c (.int .i64 log))] [true] [] [] = (Option.some ([((decide (log < (0 : Int))) = true)], ((SV.t [(V1.a [(It.int IntKind.i64 (0 : Int)), (It.ob (Ob.fr (0 : U4)))]), (V1.c (It.int IntKind.i64 (40 : Int)))]), []))) := by kernel_rfl
theorem rnB (log : Int) : fnRes envM2 Try.f22 3000 [.v (.c (.int .i64 log))] [false, true] [] [] = (Option.some ([((decide (log < (0 : Int))) = false), ((decide (log > (16 : Int))) = true)], ((SV.t [(V1.a [(It.int IntKind.i64 (0 : Int)), (It.ob (Ob.fr (0 : U4)))]), (V1.c (It.int IntKind.i64 (40 : Int)))]), []))) := by kernel_rfl
theorem rnC (log : Int) : fnRes envM2 Try.f22 3000 [.v (.c (.int .i64 log))] [false, false] [] [] = (Option.some ([((decide (log < (0 : Int))) = false), ((decide (log > (16 : Int))) = false), ((0 : Int) ≤ log), (log ≤ (16 : Int))], ((SV.t [(V1.a [(It.int IntKind.i64 log), (It.ob (Ob.fr (outF (sqN rootF (((32 : Int) - log)).toNat))))]), (V1.c (It.int IntKind.i64 (0 : Int)))]), []))) := by kernel_rfl

theorem new22_fnd (log : Int) : FnD Try.prog 22 [.v (.c (.int .i64 log))] (newV log) [] := by
  by_cases h1 : log < 0
  · have hn : okLog log = false := by simp [okLog]; omega
    unfold newV newRoot
    rw [hn]
    exact fn_sound envM2_ok Try.func22 (rnA log) (by simp [AllP]; omega)
  by_cases h2 : log > 16
  · have hn : okLog log = false := by simp [okLog]; omega
    unfold newV newRoot
    rw [hn]
    exact fn_sound envM2_ok Try.func22 (rnB log) (by simp [AllP]; omega)
  have hn : okLog log = true := by simp [okLog]; omega
  unfold newV newRoot
  rw [hn]
  exact fn_sound envM2_ok Try.func22 (rnC log) (by simp [AllP]; omega)

noncomputable def envM4 : Env := envM3.set (addT envM3.fn 22 newSpec)
theorem envM4_ok : EnvOk Try.prog envM4 := env_add envM3_ok 22 newSpec (enters_of Try.func22 rfl rfl) fun args o r es h ho => by
  unfold newSpec at h
  split at h
  · cases h; exact new22_fnd _
  · cases h

--@env envM4 envM4_ok
theorem rgA (log : Int) (w : U4) : fnRes envM4 Try.f23 3000 [.v (.a [.int .i64 log, .ob (.fr w)])] [true] [] [] = (Option.some ([(((ite ((okLog log) = true) (0 : Int) (40 : Int)) == (0 : Int)) = true)], ((SV.v (V1.c (It.bool (ite (true = true) (Bool.and ((ite ((okLog log) = true) log (0 : Int)) == log) (decide ((newRoot log) = w))) (Bool.not (Bool.and ((ite ((okLog log) = true) log (0 : Int)) == log) (decide ((newRoot log) = w)))))))), []))) := by kernel_rfl
theorem rgB (log : Int) (w : U4) : fnRes envM4 Try.f23 3000 [.v (.a [.int .i64 log, .ob (.fr w)])] [false] [] [] = (Option.some ([(((ite ((okLog log) = true) (0 : Int) (40 : Int)) == (0 : Int)) = false)], ((SV.v (V1.c (It.lit false))), []))) := by kernel_rfl
theorem rhA (log : Int) (w : U4) : fnRes envM4 Try.f24 3000 [.v (.a [.int .i64 log, .ob (.fr w)])] [true] [] [] = (Option.some ([(((ite ((okLog log) = true) (0 : Int) (40 : Int)) == (0 : Int)) = true)], ((SV.v (V1.c (It.bool (ite (true = true) (Bool.and (log == (ite ((okLog log) = true) log (0 : Int))) (decide (w = (newRoot log)))) (Bool.not (Bool.and (log == (ite ((okLog log) = true) log (0 : Int))) (decide (w = (newRoot log))))))))), []))) := by kernel_rfl
theorem rhB (log : Int) (w : U4) : fnRes envM4 Try.f24 3000 [.v (.a [.int .i64 log, .ob (.fr w)])] [false] [] [] = (Option.some ([(((ite ((okLog log) = true) (0 : Int) (40 : Int)) == (0 : Int)) = false)], ((SV.v (V1.c (It.lit false))), []))) := by kernel_rfl
theorem alA  : fnRes envM4 Try.f25 3000 [] [true] [] [] = (Option.some ([(((0 : Int) == (0 : Int)) = true), ((0 : Int) ≤ (1 : Int)), ((1 : Int) < (18446744073709551616 : Int)), ((0 : Int) ≤ (0 : Int)), ((0 : Int) < (18446744073709551616 : Int)), ((0 : Int) ≤ (0 : Int)), ((0 : Int) < (18446744073709551616 : Int)), ((0 : Int) ≤ (0 : Int)), ((0 : Int) < (18446744073709551616 : Int))], ((SV.v (V1.c (It.bool (ite (true = true) (decide ((newRoot (0 : Int)) = (Fin.ofNat B4 1))) (Bool.not (decide ((newRoot (0 : Int)) = (Fin.ofNat B4 1)))))))), []))) := by kernel_rfl
end Go.Proofs.Ytlfllehomhcbfaa

/- Which domains there may be: contracts. No conditions. -/
namespace Go.Proofs.Ytlfllehomhcbfaa

def domOk (log : Int) (w : U4) : Bool := okLog log && decide (newRoot log = w)

theorem right23_fnd (log : Int) (w : U4) : FnD Try.prog 23 [.v (.a [.int .i64 log, .ob (.fr w)])] (.v (.c (.bool (domOk log w)))) [] := by
  cases h : okLog log with
  | true =>
    refine (fn_sound envM4_ok Try.func23 (rgA log w) (by rw [h]; exact ⟨rfl, trivial⟩)).conv (fun _ _ h => h) fun y v hd => ?_
    rw [h, if_pos rfl, if_pos rfl, beq_self_eq_true, Bool.true_and] at hd
    unfold domOk
    rw [h, Bool.true_and]
    exact hd
  | false =>
    refine (fn_sound envM4_ok Try.func23 (rgB log w) (by rw [h]; exact ⟨rfl, trivial⟩)).conv (fun _ _ h => h) fun y v hd => ?_
    unfold domOk
    rw [h, Bool.false_and]
    exact lit_bool rfl hd

theorem right24_fnd (log : Int) (w : U4) : FnD Try.prog 24 [.v (.a [.int .i64 log, .ob (.fr w)])] (.v (.c (.bool (domOk log w)))) [] := by
  cases h : okLog log with
  | true =>
    refine (fn_sound envM4_ok Try.func24 (rhA log w) (by rw [h]; exact ⟨rfl, trivial⟩)).conv (fun _ _ h => h) fun y v hd => ?_
    rw [h, if_pos rfl, if_pos rfl, beq_self_eq_true, Bool.true_and] at hd
    unfold domOk
    rw [h, Bool.true_and]
    have e : decide (w = newRoot log) = decide (newRoot log = w) := by
      by_cases hw : w = newRoot log
      · rw [decide_eq_true hw, decide_eq_true hw.symm]
      · rw [decide_eq_false hw, decide_eq_false (fun h => hw h.symm)]
    rw [← e]
    exact hd
  | false =>
    refine (fn_sound envM4_ok Try.func24 (rhB log w) (by rw [h]; exact ⟨rfl, trivial⟩)).conv (fun _ _ h => h) fun y v hd => ?_
    unfold domOk
    rw [h, Bool.false_and]
    exact lit_bool rfl hd

theorem bool_lit {x : Ctx} {b : Bool} {v : Value} (h : denS x (.v (.c (.bool b))) v) : denS x (.v (.c (.lit b))) v := by
  obtain ⟨hs, d, h⟩ := h
  exact ⟨hs, d, by cases d <;> exact h⟩

def sqm (r w : Nat) : Nat → Nat
  | 0 => w
  | n + 1 => sqm r w n * sqm r w n % r

theorem sqN_val (w : Fr) : ∀ n, (sqN w n).val = sqm rN w.val n
  | 0 => rfl
  | n + 1 => by
    show ((sqN w n).val * (sqN w n).val) % rN = sqm rN w.val n * sqm rN w.val n % rN
    rw [sqN_val w n]

theorem sqm32 : sqm rN 10238227357739495823651030575849232062558860180284477541189508159991286009131 32 = 1 := by kernel_rfl

theorem root32 : sqN rootF 32 = 1 := by
  apply Fin.ext
  rw [sqN_val]
  have hr : rootF.val = 10238227357739495823651030575849232062558860180284477541189508159991286009131 := by kernel_rfl
  rw [hr]
  exact sqm32

theorem newRoot0 : newRoot 0 = Fin.ofNat B4 1 := by
  unfold newRoot
  rw [if_pos (by decide), show ((32 : Int) - 0).toNat = 32 from rfl, root32, out_one1]

theorem alive25_fnd : FnD Try.prog 25 [] (.v (.c (.lit true))) [] := by
  refine (fn_sound envM4_ok Try.func25 alA (by and_intros <;> first | trivial | decide)).conv (fun _ _ h => h) fun y v hd => ?_
  rw [if_pos rfl, newRoot0, decide_eq_true rfl] at hd
  exact bool_lit hd

def domSpec : FnSpec
  | [.v (.a [.int .i64 log, .ob (.fr w)])] => some ([], .v (.c (.bool (domOk log w))), [])
  | _ => none
def trueSpec : FnSpec
  | [] => some ([], .v (.c (.lit true)), [])
  | _ => none
noncomputable def envM5 : Env := envM4.set (addT envM4.fn 23 domSpec)
theorem envM5_ok : EnvOk Try.prog envM5 := env_add envM4_ok 23 domSpec (enters_of Try.func23 rfl rfl) fun args o r es h ho => by
  unfold domSpec at h
  split at h
  · cases h; exact right23_fnd _ _
  · cases h
noncomputable def envM6 : Env := envM5.set (addT envM5.fn 24 domSpec)
theorem envM6_ok : EnvOk Try.prog envM6 := env_add envM5_ok 24 domSpec (enters_of Try.func24 rfl rfl) fun args o r es h ho => by
  unfold domSpec at h
  split at h
  · cases h; exact right24_fnd _ _
  · cases h
noncomputable def envM : Env := envM6.set (addT envM6.fn 25 trueSpec)
theorem envM_ok : EnvOk Try.prog envM := env_add envM6_ok 25 trueSpec (enters_of Try.func25 rfl rfl) fun args o r es h ho => by
  unfold trueSpec at h
  split at h
  · cases h; exact alive25_fnd
  · cases h

end Go.Proofs.Ytlfllehomhcbfaa

/- Powers, a row of elements, the rows' comparison, walked. No conditions. -/
namespace Go.Proofs.Ytlfllehomhcbfaa

noncomputable def ps0 (w : Fr) (n : Int) : Cfg := ⟨[.code (bodyOf Try.f70)], .normal, initSt Try.f70.ntmps [.v (.a [.ob (.s w)]), .v (.c (.int .i64 n))]⟩
noncomputable def ot0 (l : List Fr) : Cfg := ⟨[.code (bodyOf Try.f69)], .normal, initSt Try.f69.ntmps [.v (.c (.sl (.s l)))]⟩
noncomputable def re0 (log : Int) (w : U4) : Cfg := ⟨[.code (bodyOf Try.f28)], .normal, initSt Try.f28.ntmps [.v (.a [.int .i64 log, .ob (.fr w)])]⟩
noncomputable def lk0 (a b : List U4) : Cfg := ⟨[.code (bodyOf Try.f27)], .normal, initSt Try.f27.ntmps [.v (.c (.sl (.fr a))), .v (.c (.sl (.fr b)))]⟩
--@env envM envM_ok
noncomputable def psIn_k : List KI := (run envM false 3000 ((fun (w : Fr) (n : Int) => (ps0 w n : Cfg)) default default) []).cfg.k
theorem psIn_at (w : Fr) (n : Int) : runAt envM false 3000 ((ps0 w n : Cfg)) [] [2, 5, 6, 12, 13] [16, 64, 112] [] = some ⟨[((0 : Int) ≤ n), (n = n), (((32 : Int) * n) ≤ (281474976710656 : Int)), (n ≤ (9223372036854775807 : Int)), ((0 : Int) ≤ (1 : Int)), ((1 : Int) < (18446744073709551616 : Int))], Exit.normal, [(SV.v (V1.c (It.ptr 16 0))), (SV.v (V1.c (It.slc 64 0 (n).toNat 4))), (SV.v (V1.c (It.ptr 112 0))), (SV.v (V1.c (It.int IntKind.i64 (((n).toNat : Nat) : Int)))), (SV.v (V1.c (It.int IntKind.i64 (0 : Int))))], [(Option.some (En.fl [(It.ob (Ob.s w))])), (Option.some (En.sq (Sq.s (List.replicate (n).toNat (0 : Fr))))), (Option.some (En.fl [(It.ob (Ob.s (Fin.ofNat rN 1)))]))], 25, 192, []⟩ := by kernel_rfl
theorem psIn_hk (w : Fr) (n : Int) : (run envM false 3000 ((ps0 w n : Cfg)) []).cfg.k = psIn_k := by kernel_rfl
theorem psIn (w : Fr) (n : Int) {w0 : World} {F0 : Nat → Prop} {K : Kp} {ac : List Act} {Q : Exit → Act → World → Prop} {cX : Ctx} {aX : Act} (ho : AllP [((0 : Int) ≤ n), (n = n), (((32 : Int) * n) ≤ (281474976710656 : Int)), (n ≤ (9223372036854775807 : Int)), ((0 : Int) ≤ (1 : Int)), ((1 : Int) < (18446744073709551616 : Int))]) (hs : Sim w0 F0 K ac (((ps0 w n : Cfg)).σ) cX aX) (hK : ∀ ac cY aY, Sim w0 F0 K ac (mkSt 25 [2, 5, 6, 12, 13] [(SV.v (V1.c (It.ptr 16 0))), (SV.v (V1.c (It.slc 64 0 (n).toNat 4))), (SV.v (V1.c (It.ptr 112 0))), (SV.v (V1.c (It.int IntKind.i64 (((n).toNat : Nat) : Int)))), (SV.v (V1.c (It.int IntKind.i64 (0 : Int))))] [16, 64, 112] [(Option.some (En.fl [(It.ob (Ob.s w))])), (Option.some (En.sq (Sq.s (List.replicate (n).toNat (0 : Fr))))), (Option.some (En.fl [(It.ob (Ob.s (Fin.ofNat rN 1)))]))] 192 [] []) cY aY → Wq Try.prog Q (psIn_k) ac Exit.normal aY cY.w) : Wq Try.prog Q (((ps0 w n : Cfg)).k) ac ((ps0 w n : Cfg)).x aX cX.w :=
  run_at envM_ok (psIn_at w n) (psIn_hk w n) ho hs hK
noncomputable def otIn_k : List KI := (run envM false 3000 ((fun (l : List Fr) => (ot0 l : Cfg)) default) []).cfg.k
theorem otIn_at (l : List Fr) : runAt envM false 3000 ((ot0 l : Cfg)) [] [3, 9, 10, 11] [64] [] = some ⟨[((0 : Int) ≤ (((List.length l) : Nat) : Int)), ((((List.length l) : Nat) : Int) = (((List.length l) : Nat) : Int)), (((32 : Int) * (((List.length l) : Nat) : Int)) ≤ (281474976710656 : Int)), ((((List.length l) : Nat) : Int) ≤ (9223372036854775807 : Int))], Exit.normal, [(SV.v (V1.c (It.slc 64 0 ((((List.length l) : Nat) : Int)).toNat 4))), (SV.v (V1.c (It.sl (Sq.s l)))), (SV.v (V1.c (It.int IntKind.i64 (((List.length l) : Nat) : Int)))), (SV.v (V1.c (It.int IntKind.i64 (0 : Int))))], [(Option.some (En.sq (Sq.fr (List.replicate ((((List.length l) : Nat) : Int)).toNat (0 : U4)))))], 23, 144, []⟩ := by kernel_rfl
theorem otIn_hk (l : List Fr) : (run envM false 3000 ((ot0 l : Cfg)) []).cfg.k = otIn_k := by kernel_rfl
theorem otIn (l : List Fr) {w0 : World} {F0 : Nat → Prop} {K : Kp} {ac : List Act} {Q : Exit → Act → World → Prop} {cX : Ctx} {aX : Act} (ho : AllP [((0 : Int) ≤ (((List.length l) : Nat) : Int)), ((((List.length l) : Nat) : Int) = (((List.length l) : Nat) : Int)), (((32 : Int) * (((List.length l) : Nat) : Int)) ≤ (281474976710656 : Int)), ((((List.length l) : Nat) : Int) ≤ (9223372036854775807 : Int))]) (hs : Sim w0 F0 K ac (((ot0 l : Cfg)).σ) cX aX) (hK : ∀ ac cY aY, Sim w0 F0 K ac (mkSt 23 [3, 9, 10, 11] [(SV.v (V1.c (It.slc 64 0 ((((List.length l) : Nat) : Int)).toNat 4))), (SV.v (V1.c (It.sl (Sq.s l)))), (SV.v (V1.c (It.int IntKind.i64 (((List.length l) : Nat) : Int)))), (SV.v (V1.c (It.int IntKind.i64 (0 : Int))))] [64] [(Option.some (En.sq (Sq.fr (List.replicate ((((List.length l) : Nat) : Int)).toNat (0 : U4)))))] 144 [] []) cY aY → Wq Try.prog Q (otIn_k) ac Exit.normal aY cY.w) : Wq Try.prog Q (((ot0 l : Cfg)).k) ac ((ot0 l : Cfg)).x aX cX.w :=
  run_at envM_ok (otIn_at l) (otIn_hk l) ho hs hK
noncomputable def reIn_k : List KI := (run envM false 3000 ((fun (log : Int) (w : U4) => (re0 log w : Cfg)) default default) []).cfg.k
theorem reIn_at (log : Int) (w : U4) : runAt envM false 3000 ((re0 log w : Cfg)) [] [1, 3, 4, 5] [16, 48, 96] [] = some ⟨[((0 : Int) ≤ (1 : Int)), ((1 : Int) < (18446744073709551616 : Int)), ((0 : Int) ≤ (0 : Int)), ((0 : Int) < (18446744073709551616 : Int)), ((0 : Int) ≤ (0 : Int)), ((0 : Int) < (18446744073709551616 : Int)), ((0 : Int) ≤ (0 : Int)), ((0 : Int) < (18446744073709551616 : Int))], Exit.normal, [(SV.v (V1.c (It.ptr 16 0))), (SV.v (V1.c (It.slc 48 0 0 4))), (SV.v (V1.c (It.ptr 96 0))), (SV.v (V1.c (It.int IntKind.i64 (0 : Int))))], [(Option.some (En.fl [(It.int IntKind.i64 log), (It.ob (Ob.fr w))])), (Option.some (En.sq (Sq.fr ([] : List U4)))), (Option.some (En.fl [(It.ob (Ob.fr (Fin.ofNat B4 1)))]))], 25, 144, []⟩ := by kernel_rfl
theorem reIn_hk (log : Int) (w : U4) : (run envM false 3000 ((re0 log w : Cfg)) []).cfg.k = reIn_k := by kernel_rfl
theorem reIn (log : Int) (w : U4) {w0 : World} {F0 : Nat → Prop} {K : Kp} {ac : List Act} {Q : Exit → Act → World → Prop} {cX : Ctx} {aX : Act} (ho : AllP [((0 : Int) ≤ (1 : Int)), ((1 : Int) < (18446744073709551616 : Int)), ((0 : Int) ≤ (0 : Int)), ((0 : Int) < (18446744073709551616 : Int)), ((0 : Int) ≤ (0 : Int)), ((0 : Int) < (18446744073709551616 : Int)), ((0 : Int) ≤ (0 : Int)), ((0 : Int) < (18446744073709551616 : Int))]) (hs : Sim w0 F0 K ac (((re0 log w : Cfg)).σ) cX aX) (hK : ∀ ac cY aY, Sim w0 F0 K ac (mkSt 25 [1, 3, 4, 5] [(SV.v (V1.c (It.ptr 16 0))), (SV.v (V1.c (It.slc 48 0 0 4))), (SV.v (V1.c (It.ptr 96 0))), (SV.v (V1.c (It.int IntKind.i64 (0 : Int))))] [16, 48, 96] [(Option.some (En.fl [(It.int IntKind.i64 log), (It.ob (Ob.fr w))])), (Option.some (En.sq (Sq.fr ([] : List U4)))), (Option.some (En.fl [(It.ob (Ob.fr (Fin.ofNat B4 1)))]))] 144 [] []) cY aY → Wq Try.prog Q (reIn_k) ac Exit.normal aY cY.w) : Wq Try.prog Q (((re0 log w : Cfg)).k) ac ((re0 log w : Cfg)).x aX cX.w :=
  run_at envM_ok (reIn_at log w) (reIn_hk log w) ho hs hK
noncomputable def psS (w : Fr) (N : Nat) (L : List Fr) (x : Fr) (i : Nat) : St := mkSt 25 [2, 5, 6, 12, 13] [(SV.v (V1.c (It.ptr 16 0))), .v (.c (.slc 64 0 N 4)), (SV.v (V1.c (It.ptr 112 0))), .v (.c (.int .i64 (N : Int))), .v (.c (.int .i64 (i : Int)))] [16, 64, 112] [(Option.some (En.fl [(It.ob (Ob.s w))])), some (.sq (.s L)), some (.fl [.ob (.s x)])] 192 [] []
theorem psN_at (w : Fr) (N : Nat) (L : List Fr) (x : Fr) (i : Nat) : runAt envM false 3000 ((⟨lpIn psIn_k, .normal, psS w N L x i⟩ : Cfg)) [true] [2, 5, 6, 12, 13] [16, 64, 112] [] = some ⟨[((decide (((i : Nat) : Int) < ((N : Nat) : Int))) = true), ((0 : Int) ≤ ((i : Nat) : Int)), (((i : Nat) : Int) < ((N : Nat) : Int)), (0 = 0), ((((i : Nat) : Int)).toNat < (List.length L))], Exit.normal, [(SV.v (V1.c (It.ptr 16 0))), (SV.v (V1.c (It.slc 64 0 N 4))), (SV.v (V1.c (It.ptr 112 0))), (SV.v (V1.c (It.int IntKind.i64 ((N : Nat) : Int)))), (SV.v (V1.c (It.int IntKind.i64 (IntKind.wrap IntKind.i64 (((i : Nat) : Int) + (1 : Int))))))], [(Option.some (En.fl [(It.ob (Ob.s w))])), (Option.some (En.sq (Sq.s (List.set L (((i : Nat) : Int)).toNat x)))), (Option.some (En.fl [(It.ob (Ob.s (x * w)))]))], 25, 416, []⟩ := by kernel_rfl
theorem psN_hk (w : Fr) (N : Nat) (L : List Fr) (x : Fr) (i : Nat) : (run envM false 3000 ((⟨lpIn psIn_k, .normal, psS w N L x i⟩ : Cfg)) [true]).cfg.k = lpBk psIn_k := by kernel_rfl
theorem psN (w : Fr) (N : Nat) (L : List Fr) (x : Fr) (i : Nat) {w0 : World} {F0 : Nat → Prop} {K : Kp} {ac : List Act} {Q : Exit → Act → World → Prop} {cX : Ctx} {aX : Act} (ho : AllP [((decide (((i : Nat) : Int) < ((N : Nat) : Int))) = true), ((0 : Int) ≤ ((i : Nat) : Int)), (((i : Nat) : Int) < ((N : Nat) : Int)), (0 = 0), ((((i : Nat) : Int)).toNat < (List.length L))]) (hs : Sim w0 F0 K ac (psS w N L x i) cX aX) (hK : ∀ ac cY aY, Sim w0 F0 K ac (mkSt 25 [2, 5, 6, 12, 13] [(SV.v (V1.c (It.ptr 16 0))), (SV.v (V1.c (It.slc 64 0 N 4))), (SV.v (V1.c (It.ptr 112 0))), (SV.v (V1.c (It.int IntKind.i64 ((N : Nat) : Int)))), (SV.v (V1.c (It.int IntKind.i64 (IntKind.wrap IntKind.i64 (((i : Nat) : Int) + (1 : Int))))))] [16, 64, 112] [(Option.some (En.fl [(It.ob (Ob.s w))])), (Option.some (En.sq (Sq.s (List.set L (((i : Nat) : Int)).toNat x)))), (Option.some (En.fl [(It.ob (Ob.s (x * w)))]))] 416 [] []) cY aY → Wq Try.prog Q (lpBk psIn_k) ac Exit.normal aY cY.w) : Wq Try.prog Q (lpIn psIn_k) ac .normal aX cX.w :=
  run_at2 envM_ok (psN_at w N L x i) (psN_hk w N L x i) ho hs hK
theorem psX_end (w : Fr) (N : Nat) (L : List Fr) (x : Fr) (i : Nat) : runEnd envM Try.f70 false 3000 (⟨lpIn psIn_k, .normal, psS w N L x i⟩) [false] [64] [] = (Option.some ([((decide (((i : Nat) : Int) < ((N : Nat) : Int))) = false)], ((SV.v (V1.c (It.slc 0 0 N 4))), [(En.sq (Sq.s L))]))) := by kernel_rfl
noncomputable def otS (l : List Fr) (N : Nat) (L : List U4) (i : Nat) : St := mkSt 23 [3, 9, 10, 11] [.v (.c (.slc 64 0 N 4)), (SV.v (V1.c (It.sl (Sq.s l)))), .v (.c (.int .i64 (N : Int))), .v (.c (.int .i64 (i : Int)))] [64] [some (.sq (.fr L))] 144 [] []
theorem otN_at (l : List Fr) (N : Nat) (L : List U4) (i : Nat) : runAt envM false 3000 ((⟨lpIn otIn_k, .normal, otS l N L i⟩ : Cfg)) [true] [3, 9, 10, 11] [64] [] = some ⟨[((decide (((i : Nat) : Int) < ((N : Nat) : Int))) = true), ((0 : Int) ≤ ((i : Nat) : Int)), (((i : Nat) : Int) < (((List.length l) : Nat) : Int)), ((0 : Int) ≤ ((i : Nat) : Int)), (((i : Nat) : Int) < ((N : Nat) : Int)), (0 = 0), ((((i : Nat) : Int)).toNat < (List.length L))], Exit.normal, [(SV.v (V1.c (It.slc 64 0 N 4))), (SV.v (V1.c (It.sl (Sq.s l)))), (SV.v (V1.c (It.int IntKind.i64 ((N : Nat) : Int)))), (SV.v (V1.c (It.int IntKind.i64 (IntKind.wrap IntKind.i64 (((i : Nat) : Int) + (1 : Int))))))], [(Option.some (En.sq (Sq.fr (List.set L (((i : Nat) : Int)).toNat (outF (List.getD l (((i : Nat) : Int)).toNat (0 : Fr)))))))], 23, 384, []⟩ := by kernel_rfl
theorem otN_hk (l : List Fr) (N : Nat) (L : List U4) (i : Nat) : (run envM false 3000 ((⟨lpIn otIn_k, .normal, otS l N L i⟩ : Cfg)) [true]).cfg.k = lpBk otIn_k := by kernel_rfl
theorem otN (l : List Fr) (N : Nat) (L : List U4) (i : Nat) {w0 : World} {F0 : Nat → Prop} {K : Kp} {ac : List Act} {Q : Exit → Act → World → Prop} {cX : Ctx} {aX : Act} (ho : AllP [((decide (((i : Nat) : Int) < ((N : Nat) : Int))) = true), ((0 : Int) ≤ ((i : Nat) : Int)), (((i : Nat) : Int) < (((List.length l) : Nat) : Int)), ((0 : Int) ≤ ((i : Nat) : Int)), (((i : Nat) : Int) < ((N : Nat) : Int)), (0 = 0), ((((i : Nat) : Int)).toNat < (List.length L))]) (hs : Sim w0 F0 K ac (otS l N L i) cX aX) (hK : ∀ ac cY aY, Sim w0 F0 K ac (mkSt 23 [3, 9, 10, 11] [(SV.v (V1.c (It.slc 64 0 N 4))), (SV.v (V1.c (It.sl (Sq.s l)))), (SV.v (V1.c (It.int IntKind.i64 ((N : Nat) : Int)))), (SV.v (V1.c (It.int IntKind.i64 (IntKind.wrap IntKind.i64 (((i : Nat) : Int) + (1 : Int))))))] [64] [(Option.some (En.sq (Sq.fr (List.set L (((i : Nat) : Int)).toNat (outF (List.getD l (((i : Nat) : Int)).toNat (0 : Fr)))))))] 384 [] []) cY aY → Wq Try.prog Q (lpBk otIn_k) ac Exit.normal aY cY.w) : Wq Try.prog Q (lpIn otIn_k) ac .normal aX cX.w :=
  run_at2 envM_ok (otN_at l N L i) (otN_hk l N L i) ho hs hK
theorem otX_end (l : List Fr) (N : Nat) (L : List U4) (i : Nat) : runEnd envM Try.f69 false 3000 (⟨lpIn otIn_k, .normal, otS l N L i⟩) [false] [64] [] = (Option.some ([((decide (((i : Nat) : Int) < ((N : Nat) : Int))) = false)], ((SV.v (V1.c (It.slc 0 0 N 4))), [(En.sq (Sq.fr L))]))) := by kernel_rfl
noncomputable def reS (log : Int) (w : U4) (N : Nat) (L : List U4) (x : U4) (i : Nat) : St := mkSt 25 [1, 3, 4, 5] [(SV.v (V1.c (It.ptr 16 0))), .v (.c (.slc 48 0 N 4)), (SV.v (V1.c (It.ptr 96 0))), .v (.c (.int .i64 (i : Int)))] [16, 48, 96] [(Option.some (En.fl [(It.int IntKind.i64 log), (It.ob (Ob.fr w))])), some (.sq (.fr L)), some (.fl [.ob (.fr x)])] 144 [] []
theorem reN_at (log : Int) (w : U4) (N : Nat) (L : List U4) (x : U4) (i : Nat) : runAt envM false 3000 ((⟨lpIn reIn_k, .normal, reS log w N L x i⟩ : Cfg)) [true] [1, 3, 4, 5] [16, 48, 96] [] = some ⟨[((0 : Int) ≤ (IntKind.wrap IntKind.u64 log)), ((decide (((i : Nat) : Int) < (IntKind.wrap IntKind.i64 ((1 : Int) * ((2 : Int) ^ (Min.min ((IntKind.wrap IntKind.u64 log)).toNat 64)))))) = true), ((((List.length L) + (List.length ([] ++ [x]))) * 32) ≤ 140737488355328), (((List.length L) + (List.length ([] ++ [x]))) ≤ maxLen), (N = (List.length L)), (1 = (List.length ([] ++ [x]))), ((Fin.val w) < rN)], Exit.normal, [(SV.v (V1.c (It.ptr 16 0))), (SV.v (V1.c (It.slc 48 0 ((List.length L) + (List.length ([] ++ [x]))) 4))), (SV.v (V1.c (It.ptr 96 0))), (SV.v (V1.c (It.int IntKind.i64 (IntKind.wrap IntKind.i64 (((i : Nat) : Int) + (1 : Int))))))], [(Option.some (En.fl [(It.int IntKind.i64 log), (It.ob (Ob.fr w))])), (Option.some (En.sq (Sq.fr (L ++ ([] ++ [x]))))), (Option.some (En.fl [(It.ob (Ob.fr (mulU x w)))]))], 25, 448, []⟩ := by kernel_rfl
theorem reN_hk (log : Int) (w : U4) (N : Nat) (L : List U4) (x : U4) (i : Nat) : (run envM false 3000 ((⟨lpIn reIn_k, .normal, reS log w N L x i⟩ : Cfg)) [true]).cfg.k = lpBk reIn_k := by kernel_rfl
theorem reN (log : Int) (w : U4) (N : Nat) (L : List U4) (x : U4) (i : Nat) {w0 : World} {F0 : Nat → Prop} {K : Kp} {ac : List Act} {Q : Exit → Act → World → Prop} {cX : Ctx} {aX : Act} (ho : AllP [((0 : Int) ≤ (IntKind.wrap IntKind.u64 log)), ((decide (((i : Nat) : Int) < (IntKind.wrap IntKind.i64 ((1 : Int) * ((2 : Int) ^ (Min.min ((IntKind.wrap IntKind.u64 log)).toNat 64)))))) = true), ((((List.length L) + (List.length ([] ++ [x]))) * 32) ≤ 140737488355328), (((List.length L) + (List.length ([] ++ [x]))) ≤ maxLen), (N = (List.length L)), (1 = (List.length ([] ++ [x]))), ((Fin.val w) < rN)]) (hs : Sim w0 F0 K ac (reS log w N L x i) cX aX) (hK : ∀ ac cY aY, Sim w0 F0 K ac (mkSt 25 [1, 3, 4, 5] [(SV.v (V1.c (It.ptr 16 0))), (SV.v (V1.c (It.slc 48 0 ((List.length L) + (List.length ([] ++ [x]))) 4))), (SV.v (V1.c (It.ptr 96 0))), (SV.v (V1.c (It.int IntKind.i64 (IntKind.wrap IntKind.i64 (((i : Nat) : Int) + (1 : Int))))))] [16, 48, 96] [(Option.some (En.fl [(It.int IntKind.i64 log), (It.ob (Ob.fr w))])), (Option.some (En.sq (Sq.fr (L ++ ([] ++ [x]))))), (Option.some (En.fl [(It.ob (Ob.fr (mulU x w)))]))] 448 [] []) cY aY → Wq Try.prog Q (lpBk reIn_k) ac Exit.normal aY cY.w) : Wq Try.prog Q (lpIn reIn_k) ac .normal aX cX.w :=
  run_at2 envM_ok (reN_at log w N L x i) (reN_hk log w N L x i) ho hs hK
theorem reX_end (log : Int) (w : U4) (N : Nat) (L : List U4) (x : U4) (i : Nat) : runEnd envM Try.f28 false 3000 (⟨lpIn reIn_k, .normal, reS log w N L x i⟩) [false] [48] [] = (Option.some ([((0 : Int) ≤ (IntKind.wrap IntKind.u64 log)), ((decide (((i : Nat) : Int) < (IntKind.wrap IntKind.i64 ((1 : Int) * ((2 : Int) ^ (Min.min ((IntKind.wrap IntKind.u64 log)).toNat 64)))))) = false)], ((SV.v (V1.c (It.slc 0 0 N 4))), [(En.sq (Sq.fr L))]))) := by kernel_rfl
theorem lkA_end (a b : List U4) : runEnd envM Try.f27 false 3000 (lk0 a b) [true] [] [] = (Option.some ([(((((List.length a) : Nat) : Int) != (((List.length b) : Nat) : Int)) = true)], ((SV.v (V1.c (It.lit false))), []))) := by kernel_rfl
noncomputable def lkIn_k : List KI := (run envM false 3000 ((fun (a b : List U4) => (lk0 a b : Cfg)) default default) [false]).cfg.k
theorem lkIn_at (a b : List U4) : runAt envM false 3000 ((lk0 a b : Cfg)) [false] [0, 1, 12, 13] [] [] = some ⟨[(((((List.length a) : Nat) : Int) != (((List.length b) : Nat) : Int)) = false)], Exit.normal, [(SV.v (V1.c (It.sl (Sq.fr a)))), (SV.v (V1.c (It.sl (Sq.fr b)))), (SV.v (V1.c (It.int IntKind.i64 (((List.length a) : Nat) : Int)))), (SV.v (V1.c (It.int IntKind.i64 (0 : Int))))], [], 26, 160, []⟩ := by kernel_rfl
theorem lkIn_hk (a b : List U4) : (run envM false 3000 ((lk0 a b : Cfg)) [false]).cfg.k = lkIn_k := by kernel_rfl
theorem lkIn (a b : List U4) {w0 : World} {F0 : Nat → Prop} {K : Kp} {ac : List Act} {Q : Exit → Act → World → Prop} {cX : Ctx} {aX : Act} (ho : AllP [(((((List.length a) : Nat) : Int) != (((List.length b) : Nat) : Int)) = false)]) (hs : Sim w0 F0 K ac (((lk0 a b : Cfg)).σ) cX aX) (hK : ∀ ac cY aY, Sim w0 F0 K ac (mkSt 26 [0, 1, 12, 13] [(SV.v (V1.c (It.sl (Sq.fr a)))), (SV.v (V1.c (It.sl (Sq.fr b)))), (SV.v (V1.c (It.int IntKind.i64 (((List.length a) : Nat) : Int)))), (SV.v (V1.c (It.int IntKind.i64 (0 : Int))))] [] [] 160 [] []) cY aY → Wq Try.prog Q (lkIn_k) ac Exit.normal aY cY.w) : Wq Try.prog Q (((lk0 a b : Cfg)).k) ac ((lk0 a b : Cfg)).x aX cX.w :=
  run_at envM_ok (lkIn_at a b) (lkIn_hk a b) ho hs hK
noncomputable def lkS (a b : List U4) (N i : Nat) : St := mkSt 26 [0, 1, 12, 13] [(SV.v (V1.c (It.sl (Sq.fr a)))), (SV.v (V1.c (It.sl (Sq.fr b)))), .v (.c (.int .i64 (N : Int))), .v (.c (.int .i64 (i : Int)))] [] [] 160 [] []
theorem lkN_at (a b : List U4) (N i : Nat) : runAt envM false 3000 ((⟨lpIn lkIn_k, .normal, lkS a b N i⟩ : Cfg)) [true, false] [0, 1, 12, 13] [] [] = some ⟨[((decide (((i : Nat) : Int) < ((N : Nat) : Int))) = true), ((0 : Int) ≤ ((i : Nat) : Int)), (((i : Nat) : Int) < (((List.length a) : Nat) : Int)), ((0 : Int) ≤ ((i : Nat) : Int)), (((i : Nat) : Int) < (((List.length b) : Nat) : Int)), ((ite (false = true) (decide ((List.getD a (((i : Nat) : Int)).toNat (0 : U4)) = (List.getD b (((i : Nat) : Int)).toNat (0 : U4)))) (Bool.not (decide ((List.getD a (((i : Nat) : Int)).toNat (0 : U4)) = (List.getD b (((i : Nat) : Int)).toNat (0 : U4)))))) = false)], Exit.normal, [(SV.v (V1.c (It.sl (Sq.fr a)))), (SV.v (V1.c (It.sl (Sq.fr b)))), (SV.v (V1.c (It.int IntKind.i64 ((N : Nat) : Int)))), (SV.v (V1.c (It.int IntKind.i64 (IntKind.wrap IntKind.i64 (((i : Nat) : Int) + (1 : Int))))))], [], 26, 384, []⟩ := by kernel_rfl
theorem lkN_hk (a b : List U4) (N i : Nat) : (run envM false 3000 ((⟨lpIn lkIn_k, .normal, lkS a b N i⟩ : Cfg)) [true, false]).cfg.k = lpBk lkIn_k := by kernel_rfl
theorem lkN (a b : List U4) (N i : Nat) {w0 : World} {F0 : Nat → Prop} {K : Kp} {ac : List Act} {Q : Exit → Act → World → Prop} {cX : Ctx} {aX : Act} (ho : AllP [((decide (((i : Nat) : Int) < ((N : Nat) : Int))) = true), ((0 : Int) ≤ ((i : Nat) : Int)), (((i : Nat) : Int) < (((List.length a) : Nat) : Int)), ((0 : Int) ≤ ((i : Nat) : Int)), (((i : Nat) : Int) < (((List.length b) : Nat) : Int)), ((ite (false = true) (decide ((List.getD a (((i : Nat) : Int)).toNat (0 : U4)) = (List.getD b (((i : Nat) : Int)).toNat (0 : U4)))) (Bool.not (decide ((List.getD a (((i : Nat) : Int)).toNat (0 : U4)) = (List.getD b (((i : Nat) : Int)).toNat (0 : U4)))))) = false)]) (hs : Sim w0 F0 K ac (lkS a b N i) cX aX) (hK : ∀ ac cY aY, Sim w0 F0 K ac (mkSt 26 [0, 1, 12, 13] [(SV.v (V1.c (It.sl (Sq.fr a)))), (SV.v (V1.c (It.sl (Sq.fr b)))), (SV.v (V1.c (It.int IntKind.i64 ((N : Nat) : Int)))), (SV.v (V1.c (It.int IntKind.i64 (IntKind.wrap IntKind.i64 (((i : Nat) : Int) + (1 : Int))))))] [] [] 384 [] []) cY aY → Wq Try.prog Q (lpBk lkIn_k) ac Exit.normal aY cY.w) : Wq Try.prog Q (lpIn lkIn_k) ac .normal aX cX.w :=
  run_at2 envM_ok (lkN_at a b N i) (lkN_hk a b N i) ho hs hK
theorem lkB_end (a b : List U4) (N i : Nat) : runEnd envM Try.f27 false 3000 (⟨lpIn lkIn_k, .normal, lkS a b N i⟩) [true, true] [] [] = (Option.some ([((decide (((i : Nat) : Int) < ((N : Nat) : Int))) = true), ((0 : Int) ≤ ((i : Nat) : Int)), (((i : Nat) : Int) < (((List.length a) : Nat) : Int)), ((0 : Int) ≤ ((i : Nat) : Int)), (((i : Nat) : Int) < (((List.length b) : Nat) : Int)), ((ite (false = true) (decide ((List.getD a (((i : Nat) : Int)).toNat (0 : U4)) = (List.getD b (((i : Nat) : Int)).toNat (0 : U4)))) (Bool.not (decide ((List.getD a (((i : Nat) : Int)).toNat (0 : U4)) = (List.getD b (((i : Nat) : Int)).toNat (0 : U4)))))) = true)], ((SV.v (V1.c (It.lit false))), []))) := by kernel_rfl
theorem lkX_end (a b : List U4) (N i : Nat) : runEnd envM Try.f27 false 3000 (⟨lpIn lkIn_k, .normal, lkS a b N i⟩) [false] [] [] = (Option.some ([((decide (((i : Nat) : Int) < ((N : Nat) : Int))) = false)], ((SV.v (V1.c (It.lit true))), []))) := by kernel_rfl
end Go.Proofs.Ytlfllehomhcbfaa

/- Powers, a row of elements, the rows' comparison: contracts. No conditions. -/
namespace Go.Proofs.Ytlfllehomhcbfaa

/-- A row that is filled from its front. -/
theorem fill_set {α : Type} (f : Nat → α) (z : α) {i N : Nat} (h : i < N) : ((List.range i).map f ++ List.replicate (N - i) z).set i (f i) = (List.range (i + 1)).map f ++ List.replicate (N - (i + 1)) z := by
  rw [List.set_append_right _ _ (by simp)]
  have e : N - i = (N - (i + 1)) + 1 := by omega
  rw [e, List.replicate_succ]
  simp [List.range_succ]

theorem fill_len {α : Type} (f : Nat → α) (z : α) {i N : Nat} (h : i ≤ N) : ((List.range i).map f ++ List.replicate (N - i) z).length = N := by
  simp
  omega

theorem range_getD {α β : Type} (g : α → β) (l : List α) (d : α) : (List.range l.length).map (fun i => g (l.getD i d)) = l.map g := by
  apply List.ext_getElem
  · simp
  · intro i h1 h2
    simp at h1
    simp [List.getD, h1]

def powF (w : Fr) (n : Nat) : List Fr := (List.range n).map (powN w)

theorem powers_fnd (w : Fr) (n : Nat) (hn : n ≤ 8796093022208) : FnD Try.prog 70 [.v (.a [.ob (.s w)]), .v (.c (.int .i64 (n : Int)))] (.v (.c (.slc 0 0 n 4))) [.sq (.s (powF w n))] := by
  refine fn_start (fn := Try.f70) (c := bodyOf Try.f70) Try.func70 rfl rfl fun x a hk hF hs => ?_
  refine psIn w n (by and_intros <;> first | trivial | decide | omega) hs fun ac cY aY hs1 => ?_
  rw [Int.toNat_natCast] at hs1
  refine loop_rule (ι := { i : Nat // i ≤ n }) (fun i => psS w n ((List.range i.1).map (powN w) ++ List.replicate (n - i.1) 0) (powN w i.1) i.1) (fun i => n - i.1) (c := lpC psIn_k) (k := lpR psIn_k) (by kernel_rfl) (fun i ih ac cY aY hs => ?_) ⟨0, Nat.zero_le _⟩ hs1
  obtain ⟨i, hi⟩ := i
  simp only at ih hs
  have hl := fill_len (powN w) 0 hi
  by_cases h : i < n
  · refine psN w n _ _ i ⟨by simp [h], by omega, by omega, rfl, by rw [hl]; omega, trivial⟩ hs fun ac cY aY hs2 => ?_
    rw [Int.toNat_natCast, fill_set _ _ h, wrap_id (by omega) (by omega)] at hs2
    exact ih ⟨i + 1, by omega⟩ (by show n - (i + 1) < n - i; omega) ac cY aY (hs2.nx _)
  · obtain rfl : i = n := by omega
    rw [Nat.sub_self, List.replicate_zero, List.append_nil] at hs
    exact run_end2 envM_ok hk hF (psX_end w i _ _ i) ⟨by simp, trivial⟩ (fun y v hd => hd) hs

theorem out69_fnd (l : List Fr) (hl0 : l.length ≤ 8796093022208) : FnD Try.prog 69 [.v (.c (.sl (.s l)))] (.v (.c (.slc 0 0 l.length 4))) [.sq (.fr (l.map outF))] := by
  refine fn_start (fn := Try.f69) (c := bodyOf Try.f69) Try.func69 rfl rfl fun x a hk hF hs => ?_
  refine otIn l (by and_intros <;> first | trivial | decide | omega) hs fun ac cY aY hs1 => ?_
  rw [Int.toNat_natCast] at hs1
  refine loop_rule (ι := { i : Nat // i ≤ l.length }) (fun i => otS l l.length ((List.range i.1).map (fun i => outF (l.getD i 0)) ++ List.replicate (l.length - i.1) 0) i.1) (fun i => l.length - i.1) (c := lpC otIn_k) (k := lpR otIn_k) (by kernel_rfl) (fun i ih ac cY aY hs => ?_) ⟨0, Nat.zero_le _⟩ hs1
  obtain ⟨i, hi⟩ := i
  simp only at ih hs
  have hl := fill_len (fun i => outF (l.getD i 0)) 0 hi
  by_cases h : i < l.length
  · refine otN l l.length _ i ⟨by simp [h], by omega, by omega, by omega, by omega, rfl, by rw [hl]; omega, trivial⟩ hs fun ac cY aY hs2 => ?_
    rw [Int.toNat_natCast, fill_set (fun i => outF (l.getD i 0)) _ h, wrap_id (by omega) (by omega)] at hs2
    exact ih ⟨i + 1, by omega⟩ (by show l.length - (i + 1) < l.length - i; omega) ac cY aY (hs2.nx _)
  · have e : i = l.length := by omega
    rw [e, Nat.sub_self, List.replicate_zero, List.append_nil, range_getD] at hs
    exact run_end2 envM_ok hk hF (otX_end l l.length _ l.length) ⟨by simp, trivial⟩ (fun y v hd => hd) hs

theorem shl1 (k : Nat) (h : k ≤ 30) : IntKind.wrap IntKind.i64 ((1 : Int) * ((2 : Int) ^ (Min.min ((IntKind.wrap IntKind.u64 (k : Int))).toNat 64))) = ((2 ^ k : Nat) : Int) ∧ 2 ^ k ≤ 1073741824 := by
  have h2 : (2 : Nat) ^ k ≤ 2 ^ 30 := Nat.pow_le_pow_right (by decide) h
  have h3 : (2 : Nat) ^ 30 = 1073741824 := by decide
  rw [wrap_u (by omega) (by omega), Int.toNat_natCast, Nat.min_eq_left (by omega), Int.one_mul]
  have e : ((2 : Int) ^ k) = ((2 ^ k : Nat) : Int) := by simp
  rw [e]
  generalize 2 ^ k = m at h2
  rw [wrap_id (by omega) (by omega)]
  exact ⟨rfl, by omega⟩

theorem in_out (x : Fr) : inF (outF x) = x := by
  apply Fin.ext
  show (outF x).val % rN = x.val
  rw [outF_val, Nat.mod_eq_of_lt x.isLt]

theorem refElems_fnd (k : Nat) (w : Fr) (hk0 : k ≤ 30) : FnD Try.prog 28 [.v (.a [.int .i64 (k : Int), .ob (.fr (outF w))])] (.v (.c (.slc 0 0 (2 ^ k) 4))) [.sq (.fr ((powF w (2 ^ k)).map outF))] := by
  refine fn_start (fn := Try.f28) (c := bodyOf Try.f28) Try.func28 rfl rfl fun x a hk hF hs => ?_
  refine reIn k (outF w) (by and_intros <;> first | trivial | decide) hs fun ac cY aY hs1 => ?_
  rw [← out_one1] at hs1
  obtain ⟨e1, e2⟩ := shl1 k hk0
  refine loop_rule (ι := { i : Nat // i ≤ 2 ^ k }) (fun i => reS k (outF w) i.1 ((powF w i.1).map outF) (outF (powN w i.1)) i.1) (fun i => 2 ^ k - i.1) (c := lpC reIn_k) (k := lpR reIn_k) (by kernel_rfl) (fun i ih ac cY aY hs => ?_) ⟨0, Nat.zero_le _⟩ hs1
  obtain ⟨i, hi⟩ := i
  simp only at ih hs
  have hl : ((powF w i).map outF).length = i := by simp [powF]
  have hw : 0 ≤ IntKind.wrap IntKind.u64 (k : Int) := by rw [wrap_u (by omega) (by omega)]; omega
  have hl1 : ([] ++ [outF (powN w i)]).length = 1 := rfl
  by_cases h : i < 2 ^ k
  · refine reN k (outF w) i _ _ i ⟨hw, by rw [e1]; simp only [decide_eq_true_eq]; exact_mod_cast h, by rw [hl, hl1]; omega, by rw [hl, hl1]; unfold maxLen; omega, hl.symm, hl1.symm, outF_lt _, trivial⟩ hs fun ac cY aY hs2 => ?_
    have e3 : (powF w i).map outF ++ ([] ++ [outF (powN w i)]) = (powF w (i + 1)).map outF := by simp [powF, List.range_succ]
    rw [hl, hl1, e3, mulU_out, wrap_id (by omega) (by omega)] at hs2
    exact ih ⟨i + 1, by omega⟩ (by show 2 ^ k - (i + 1) < 2 ^ k - i; omega) ac cY aY (hs2.nx _)
  · have e : i = 2 ^ k := by omega
    rw [e] at hs
    exact run_end2 envM_ok hk hF (reX_end k (outF w) (2 ^ k) _ _ (2 ^ k)) ⟨hw, by rw [e1]; simp, trivial⟩ (fun y v hd => hd) hs

theorem like_fnd (a b : List U4) : FnD Try.prog 27 [.v (.c (.sl (.fr a))), .v (.c (.sl (.fr b)))] (.v (.c (.bool (decide (a = b))))) [] := by
  refine fn_start (fn := Try.f27) (c := bodyOf Try.f27) Try.func27 rfl rfl fun x a0 hk hF hs => ?_
  have hla := sl_len (q := .fr a) (hs.t 0)
  by_cases hab : a.length = b.length
  · refine lkIn a b ⟨by simp [hab], trivial⟩ hs fun ac cY aY hs1 => ?_
    refine loop_rule (ι := { i : Nat // i ≤ a.length ∧ a.take i = b.take i }) (fun i => lkS a b a.length i.1) (fun i => a.length - i.1) (c := lpC lkIn_k) (k := lpR lkIn_k) (by kernel_rfl) (fun i ih ac cY aY hs => ?_) ⟨0, Nat.zero_le _, rfl⟩ hs1
    obtain ⟨i, hi, ht⟩ := i
    simp only at ih hs
    by_cases h : i < a.length
    · have hg : a.getD i 0 = a[i] := by simp [List.getD, h]
      have hg' : b.getD i 0 = b[i]'(by omega) := by simp [List.getD, show i < b.length from by omega]
      by_cases he : a.getD i 0 = b.getD i 0
      · refine lkN a b a.length i ⟨by simp [h], by omega, by omega, by omega, by omega, by rw [Int.toNat_natCast, decide_eq_true he]; rfl, trivial⟩ hs fun ac cY aY hs2 => ?_
        have : a.length ≤ maxLen := hla
        unfold maxLen at this
        rw [wrap_id (by omega) (by omega)] at hs2
        refine ih ⟨i + 1, by omega, ?_⟩ (by show a.length - (i + 1) < a.length - i; omega) ac cY aY (hs2.nx _)
        rw [List.take_succ_eq_append_getElem h, List.take_succ_eq_append_getElem (show i < b.length from by omega), ht, ← hg, ← hg', he]
      · refine run_end2 envM_ok hk hF (lkB_end a b a.length i) ⟨by simp [h], by omega, by omega, by omega, by omega, by rw [Int.toNat_natCast, decide_eq_false he]; rfl, trivial⟩ (fun y v hd => ?_) hs
        have hne : a ≠ b := fun e => he (by rw [e])
        rw [decide_eq_false hne]
        exact lit_bool rfl hd
    · have e : i = a.length := by omega
      refine run_end2 envM_ok hk hF (lkX_end a b a.length i) ⟨by simp [h], trivial⟩ (fun y v hd => ?_) hs
      have heq : a = b := by
        rw [e, List.take_length, hab, List.take_length] at ht
        exact ht
      rw [decide_eq_true heq]
      exact lit_bool rfl hd
  · refine run_end envM_ok hk hF (lkA_end a b) ⟨by simp only [bne_iff_ne, ne_eq]; omega, trivial⟩ (fun y v hd => ?_) hs
    have hne : a ≠ b := fun e => hab (by rw [e])
    rw [decide_eq_false hne]
    exact lit_bool rfl hd

end Go.Proofs.Ytlfllehomhcbfaa
