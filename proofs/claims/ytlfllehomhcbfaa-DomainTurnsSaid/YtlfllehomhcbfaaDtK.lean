/- Parts of a proof, one behind the other: PRefM, WRefP, PRefP, WClean, PClean, WRef2, PRef2, WMulU, PMulU, WPow, PPow, WRoot, PRoot, WDoms, PDoms, WElems, PElems, WMakes, PMakes, Fe, Rv, WSw, PSw, WTf, Nt, PTf. No conditions. -/
import Derived.Test.YtlfllehomhcbfaaDtJ
/- The reference's minus: contract. No conditions. -/
namespace Go.Proofs.Ytlfllehomhcbfaa


theorem sub_u4 {a b : U4} {N c : Int} (hN : 0 ≤ N ∧ N < 115792089237316195423570985008687907853269984665640564039457584007913129639936) (_hc : c = 0 ∨ c = 1)
    (h : N = (a.val : Int) - (b.val : Int) + 115792089237316195423570985008687907853269984665640564039457584007913129639936 * c) : ((a - b : U4).val : Int) = N := by
  have ha := a.isLt
  have hb := b.isLt
  have e : (a - b : U4).val = (B4 - b.val + a.val) % B4 := rfl
  rw [e]
  unfold B4 at *
  obtain ⟨_, _⟩ := hN
  omega

theorem borrow_step {a b c : Int} (ha : Lim a) (hb : Lim b) (hc : c = 0 ∨ c = 1) : ∃ c' : Int, (c' = 0 ∨ c' = 1) ∧ (a < b → c' = 1) ∧ (¬ a < b → a = b → c = 1 → c' = 1) ∧ (¬ a < b → a = b → ¬ c = 1 → c' = 0) ∧ (¬ a < b → ¬ a = b → c' = 0) ∧
    IntKind.wrap IntKind.u64 (IntKind.wrap IntKind.u64 (a - b) - c) = a - b - c + 18446744073709551616 * c' := by
  obtain ⟨_, _⟩ := ha
  obtain ⟨_, _⟩ := hb
  rw [wrapU, wrapU]
  refine ⟨if a < b + c then 1 else 0, ?_, ?_, ?_, ?_, ?_, ?_⟩
  · split <;> omega
  · intro h; rw [if_pos (by omega)]
  · intro h1 h2 h3; rw [if_pos (by omega)]
  · intro h1 h2 h3; rw [if_neg (by omega)]
  · intro h1 h2; rw [if_neg (by omega)]
  · split <;> omega

section
variable {w0 : World} {F0 : Nat → Prop} {K : Kp} {ac : List Act} {Q : Exit → Act → World → Prop} {cX : Ctx} {aX : Act}

theorem rmT0 (a b : U4) (hs : Sim w0 F0 K ac (rm0 a b : Cfg).σ cX aX)
    (k : ∀ c' : Int, (c' = 0 ∨ c' = 1) → (IntKind.wrap IntKind.u64 (IntKind.wrap IntKind.u64 ((limb (Ob.n (Ob.fr a)) 0) - (limb (Ob.n (Ob.fr b)) 0)) - 0)) = (limb (Ob.n (Ob.fr a)) 0) - (limb (Ob.n (Ob.fr b)) 0) - 0 + 18446744073709551616 * c' → ∀ ac cY aY, Sim w0 F0 K ac (rmS1 a b (IntKind.wrap IntKind.u64 (IntKind.wrap IntKind.u64 ((limb (Ob.n (Ob.fr a)) 0) - (limb (Ob.n (Ob.fr b)) 0)) - 0)) 0 0 0 c') cY aY → Wq Try.prog Q rmA0_k ac .normal aY cY.w) : Wq Try.prog Q (rm0 a b : Cfg).k ac (rm0 a b : Cfg).x aX cX.w := by
  have hA : Lim (limb (Ob.n (Ob.fr a)) 0) := by obtain ⟨h0, h1, h2, h3, _⟩ := fr_lims a; assumption
  have hB : Lim (limb (Ob.n (Ob.fr b)) 0) := by obtain ⟨h0, h1, h2, h3, _⟩ := fr_lims b; assumption
  obtain ⟨c', h1, hA1, hB1, hC1, hD1, e⟩ := borrow_step (c := 0) hA hB (.inl rfl)
  have sA := @rmA0 a b w0 F0 K ac Q cX aX
  have sB := @rmB0 a b w0 F0 K ac Q cX aX
  have sC := @rmC0 a b w0 F0 K ac Q cX aX
  have sD := @rmD0 a b w0 F0 K ac Q cX aX
  replace k := k c' h1 e
  clear e hA hB
  generalize (limb (Ob.n (Ob.fr a)) 0) = x at *
  generalize (limb (Ob.n (Ob.fr b)) 0) = y at *
  by_cases l1 : x < y
  · rw [hA1 l1] at k
    exact sA (by simp [AllP, Ob.k, l1]) hs k
  · by_cases l2 : x = y
    · by_cases l3 : (0 : Int) = 1
      · rw [hB1 l1 l2 l3] at k
        exact sB (by simp [AllP, Ob.k, l2, l3]) hs k
      · rw [hC1 l1 l2 l3] at k
        exact sC (by simp [AllP, Ob.k, l2]) hs k
    · rw [hD1 l1 l2] at k
      exact sD (by simp [AllP, Ob.k, l1, l2]) hs k

theorem rmT1 (a b : U4) (v0 v1 v2 v3 c : Int) (hc : c = 0 ∨ c = 1) (hs : Sim w0 F0 K ac (rmS1 a b v0 v1 v2 v3 c) cX aX)
    (k : ∀ c' : Int, (c' = 0 ∨ c' = 1) → (IntKind.wrap IntKind.u64 (IntKind.wrap IntKind.u64 ((limb (Ob.n (Ob.fr a)) 1) - (limb (Ob.n (Ob.fr b)) 1)) - c)) = (limb (Ob.n (Ob.fr a)) 1) - (limb (Ob.n (Ob.fr b)) 1) - c + 18446744073709551616 * c' → ∀ ac cY aY, Sim w0 F0 K ac (rmS2 a b v0 (IntKind.wrap IntKind.u64 (IntKind.wrap IntKind.u64 ((limb (Ob.n (Ob.fr a)) 1) - (limb (Ob.n (Ob.fr b)) 1)) - c)) v2 v3 c') cY aY → Wq Try.prog Q rmA1_k ac .normal aY cY.w) : Wq Try.prog Q rmA0_k ac .normal aX cX.w := by
  have hA : Lim (limb (Ob.n (Ob.fr a)) 1) := by obtain ⟨h0, h1, h2, h3, _⟩ := fr_lims a; assumption
  have hB : Lim (limb (Ob.n (Ob.fr b)) 1) := by obtain ⟨h0, h1, h2, h3, _⟩ := fr_lims b; assumption
  obtain ⟨c', h1, hA1, hB1, hC1, hD1, e⟩ := borrow_step (c := c) hA hB hc
  have sA := @rmA1 a b v0 v1 v2 v3 c w0 F0 K ac Q cX aX
  have sB := @rmB1 a b v0 v1 v2 v3 c w0 F0 K ac Q cX aX
  have sC := @rmC1 a b v0 v1 v2 v3 c w0 F0 K ac Q cX aX
  have sD := @rmD1 a b v0 v1 v2 v3 c w0 F0 K ac Q cX aX
  replace k := k c' h1 e
  clear e hA hB
  generalize (limb (Ob.n (Ob.fr a)) 1) = x at *
  generalize (limb (Ob.n (Ob.fr b)) 1) = y at *
  by_cases l1 : x < y
  · rw [hA1 l1] at k
    exact sA (by simp [AllP, Ob.k, l1]) hs k
  · by_cases l2 : x = y
    · by_cases l3 : (c : Int) = 1
      · rw [hB1 l1 l2 l3] at k
        exact sB (by simp [AllP, Ob.k, l2, l3]) hs k
      · rw [hC1 l1 l2 l3] at k
        exact sC (by simp [AllP, Ob.k, l2, l3]) hs k
    · rw [hD1 l1 l2] at k
      exact sD (by simp [AllP, Ob.k, l1, l2]) hs k

theorem rmT2 (a b : U4) (v0 v1 v2 v3 c : Int) (hc : c = 0 ∨ c = 1) (hs : Sim w0 F0 K ac (rmS2 a b v0 v1 v2 v3 c) cX aX)
    (k : ∀ c' : Int, (c' = 0 ∨ c' = 1) → (IntKind.wrap IntKind.u64 (IntKind.wrap IntKind.u64 ((limb (Ob.n (Ob.fr a)) 2) - (limb (Ob.n (Ob.fr b)) 2)) - c)) = (limb (Ob.n (Ob.fr a)) 2) - (limb (Ob.n (Ob.fr b)) 2) - c + 18446744073709551616 * c' → ∀ ac cY aY, Sim w0 F0 K ac (rmS3 a b v0 v1 (IntKind.wrap IntKind.u64 (IntKind.wrap IntKind.u64 ((limb (Ob.n (Ob.fr a)) 2) - (limb (Ob.n (Ob.fr b)) 2)) - c)) v3 c') cY aY → Wq Try.prog Q rmA2_k ac .normal aY cY.w) : Wq Try.prog Q rmA1_k ac .normal aX cX.w := by
  have hA : Lim (limb (Ob.n (Ob.fr a)) 2) := by obtain ⟨h0, h1, h2, h3, _⟩ := fr_lims a; assumption
  have hB : Lim (limb (Ob.n (Ob.fr b)) 2) := by obtain ⟨h0, h1, h2, h3, _⟩ := fr_lims b; assumption
  obtain ⟨c', h1, hA1, hB1, hC1, hD1, e⟩ := borrow_step (c := c) hA hB hc
  have sA := @rmA2 a b v0 v1 v2 v3 c w0 F0 K ac Q cX aX
  have sB := @rmB2 a b v0 v1 v2 v3 c w0 F0 K ac Q cX aX
  have sC := @rmC2 a b v0 v1 v2 v3 c w0 F0 K ac Q cX aX
  have sD := @rmD2 a b v0 v1 v2 v3 c w0 F0 K ac Q cX aX
  replace k := k c' h1 e
  clear e hA hB
  generalize (limb (Ob.n (Ob.fr a)) 2) = x at *
  generalize (limb (Ob.n (Ob.fr b)) 2) = y at *
  by_cases l1 : x < y
  · rw [hA1 l1] at k
    exact sA (by simp [AllP, Ob.k, l1]) hs k
  · by_cases l2 : x = y
    · by_cases l3 : (c : Int) = 1
      · rw [hB1 l1 l2 l3] at k
        exact sB (by simp [AllP, Ob.k, l2, l3]) hs k
      · rw [hC1 l1 l2 l3] at k
        exact sC (by simp [AllP, Ob.k, l2, l3]) hs k
    · rw [hD1 l1 l2] at k
      exact sD (by simp [AllP, Ob.k, l1, l2]) hs k

theorem rmT3 (a b : U4) (v0 v1 v2 v3 c : Int) (hc : c = 0 ∨ c = 1) (hs : Sim w0 F0 K ac (rmS3 a b v0 v1 v2 v3 c) cX aX)
    (k : ∀ c' : Int, (c' = 0 ∨ c' = 1) → (IntKind.wrap IntKind.u64 (IntKind.wrap IntKind.u64 ((limb (Ob.n (Ob.fr a)) 3) - (limb (Ob.n (Ob.fr b)) 3)) - c)) = (limb (Ob.n (Ob.fr a)) 3) - (limb (Ob.n (Ob.fr b)) 3) - c + 18446744073709551616 * c' → ∀ ac cY aY, Sim w0 F0 K ac (rmS4 a b v0 v1 v2 (IntKind.wrap IntKind.u64 (IntKind.wrap IntKind.u64 ((limb (Ob.n (Ob.fr a)) 3) - (limb (Ob.n (Ob.fr b)) 3)) - c)) c') cY aY → Wq Try.prog Q rmA3_k ac .normal aY cY.w) : Wq Try.prog Q rmA2_k ac .normal aX cX.w := by
  have hA : Lim (limb (Ob.n (Ob.fr a)) 3) := by obtain ⟨h0, h1, h2, h3, _⟩ := fr_lims a; assumption
  have hB : Lim (limb (Ob.n (Ob.fr b)) 3) := by obtain ⟨h0, h1, h2, h3, _⟩ := fr_lims b; assumption
  obtain ⟨c', h1, hA1, hB1, hC1, hD1, e⟩ := borrow_step (c := c) hA hB hc
  have sA := @rmA3 a b v0 v1 v2 v3 c w0 F0 K ac Q cX aX
  have sB := @rmB3 a b v0 v1 v2 v3 c w0 F0 K ac Q cX aX
  have sC := @rmC3 a b v0 v1 v2 v3 c w0 F0 K ac Q cX aX
  have sD := @rmD3 a b v0 v1 v2 v3 c w0 F0 K ac Q cX aX
  replace k := k c' h1 e
  clear e hA hB
  generalize (limb (Ob.n (Ob.fr a)) 3) = x at *
  generalize (limb (Ob.n (Ob.fr b)) 3) = y at *
  by_cases l1 : x < y
  · rw [hA1 l1] at k
    exact sA (by simp [AllP, Ob.k, l1]) hs k
  · by_cases l2 : x = y
    · by_cases l3 : (c : Int) = 1
      · rw [hB1 l1 l2 l3] at k
        exact sB (by simp [AllP, Ob.k, l2, l3]) hs k
      · rw [hC1 l1 l2 l3] at k
        exact sC (by simp [AllP, Ob.k, l2, l3]) hs k
    · rw [hD1 l1 l2] at k
      exact sD (by simp [AllP, Ob.k, l1, l2]) hs k

end

theorem minus79_fnd (a b : U4) : FnD Try.prog 79 [.v (.a [.ob (.fr a)]), .v (.a [.ob (.fr b)])] (.v (.a [.ob (.fr (a - b))])) [] := by
  refine fn_start (fn := Try.f79) (c := bodyOf Try.f79) Try.func79 rfl rfl fun x a0 hk hF hs => ?_
  obtain ⟨g0, g1, g2, g3, ha⟩ := fr_lims a
  obtain ⟨h0, h1, h2, h3, hb⟩ := fr_lims b
  refine rmT0 a b hs fun c0 hc0 e0 ac cY aY hs => ?_
  refine rmT1 a b _ _ _ _ c0 hc0 hs fun c1 hc1 e1 ac cY aY hs => ?_
  refine rmT2 a b _ _ _ _ c1 hc1 hs fun c2 hc2 e2 ac cY aY hs => ?_
  refine rmT3 a b _ _ _ _ c2 hc2 hs fun c3 hc3 e3 ac cY aY hs => ?_
  refine run_end2 envH_ok hk hF (rmX_end a b _ _ _ _ c3) (by simp [AllP]) (fun y v hd => ?_) hs
  have l0 := wrap_lim (IntKind.wrap IntKind.u64 (limb (Ob.n (Ob.fr a)) 0 - limb (Ob.n (Ob.fr b)) 0) - 0)
  have l1 := wrap_lim (IntKind.wrap IntKind.u64 (limb (Ob.n (Ob.fr a)) 1 - limb (Ob.n (Ob.fr b)) 1) - c0)
  have l2 := wrap_lim (IntKind.wrap IntKind.u64 (limb (Ob.n (Ob.fr a)) 2 - limb (Ob.n (Ob.fr b)) 2) - c1)
  have l3 := wrap_lim (IntKind.wrap IntKind.u64 (limb (Ob.n (Ob.fr a)) 3 - limb (Ob.n (Ob.fr b)) 3) - c2)
  generalize IntKind.wrap IntKind.u64 (IntKind.wrap IntKind.u64 (limb (Ob.n (Ob.fr a)) 0 - limb (Ob.n (Ob.fr b)) 0) - 0) = u0 at *
  generalize IntKind.wrap IntKind.u64 (IntKind.wrap IntKind.u64 (limb (Ob.n (Ob.fr a)) 1 - limb (Ob.n (Ob.fr b)) 1) - c0) = u1 at *
  generalize IntKind.wrap IntKind.u64 (IntKind.wrap IntKind.u64 (limb (Ob.n (Ob.fr a)) 2 - limb (Ob.n (Ob.fr b)) 2) - c1) = u2 at *
  generalize IntKind.wrap IntKind.u64 (IntKind.wrap IntKind.u64 (limb (Ob.n (Ob.fr a)) 3 - limb (Ob.n (Ob.fr b)) 3) - c2) = u3 at *
  refine ints_ob (o := .fr (a - b)) (Eq.refl 4) (limbsAre4 l0.1 l0.2 l1.1 l1.2 l2.1 l2.2 l3.1 l3.2 ?_) hd
  show ((a - b : U4).val : Int) = num4 u0 u1 u2 u3
  have hN : num4 u0 u1 u2 u3 = num4 (limb (Ob.n (Ob.fr a)) 0) (limb (Ob.n (Ob.fr a)) 1) (limb (Ob.n (Ob.fr a)) 2) (limb (Ob.n (Ob.fr a)) 3) - num4 (limb (Ob.n (Ob.fr b)) 0) (limb (Ob.n (Ob.fr b)) 1) (limb (Ob.n (Ob.fr b)) 2) (limb (Ob.n (Ob.fr b)) 3) + 115792089237316195423570985008687907853269984665640564039457584007913129639936 * c3 := by
    clear ha hb hd hs hk hF l0 l1 l2 l3 g0 g1 g2 g3 h0 h1 h2 h3
    unfold num4
    omega
  rw [← ha, ← hb] at hN
  exact sub_u4 (num4_lt l0 l1 l2 l3) hc3 hN

end Go.Proofs.Ytlfllehomhcbfaa

/- The reference's plus, walked. No conditions. -/
namespace Go.Proofs.Ytlfllehomhcbfaa

noncomputable def rp0 (a b : U4) : Cfg := ⟨[.code (bodyOf Try.f105)], .normal, initSt Try.f105.ntmps [.v (.a [.ob (.fr a)]), .v (.a [.ob (.fr b)])]⟩
--@env envH envH_ok
--@unroll true
noncomputable def rpA0_k : List KI := (run envH true 42 ((fun (a b : U4) => (rp0 a b : Cfg)) default default) [true, true, true]).cfg.k
theorem rpA0_at (a b : U4) : runAt envH true 42 ((rp0 a b : Cfg)) [true, true, true] [2, 3, 4, 5, 6, 7] [16, 32, 48, 80] [] = some ⟨[((decide ((0 : Int) < (4 : Int))) = true), ((0 : Int) ≤ (0 : Int)), ((0 : Int) < (4 : Int)), (0 < (Ob.k (Ob.fr a))), ((0 : Int) ≤ (0 : Int)), ((0 : Int) < (4 : Int)), (0 < (Ob.k (Ob.fr b))), ((0 : Int) ≤ (0 : Int)), ((0 : Int) < (4 : Int)), ((0 : Int) ≤ (0 : Int)), ((0 : Int) < (4 : Int)), ((0 : Int) ≤ (0 : Int)), ((0 : Int) < (4 : Int)), (0 < (Ob.k (Ob.fr a))), ((decide ((IntKind.wrap IntKind.u64 ((IntKind.wrap IntKind.u64 ((limb (Ob.n (Ob.fr a)) 0) + (limb (Ob.n (Ob.fr b)) 0))) + (0 : Int))) < (limb (Ob.n (Ob.fr a)) 0))) = true)], Exit.normal, [(SV.v (V1.c (It.ptr 16 0))), (SV.v (V1.c (It.ptr 32 0))), (SV.v (V1.c (It.ptr 48 0))), (SV.v (V1.c (It.ptr 80 0))), (SV.v (V1.c (It.int IntKind.u64 (1 : Int)))), (SV.v (V1.c (It.int IntKind.i64 (0 : Int))))], [(Option.some (En.fl [(It.ob (Ob.fr a))])), (Option.some (En.fl [(It.ob (Ob.fr b))])), (Option.some (En.fl [(It.ob (Ob.fr (0 : U4)))])), (Option.some (En.fl [(It.int IntKind.u64 (IntKind.wrap IntKind.u64 ((IntKind.wrap IntKind.u64 ((limb (Ob.n (Ob.fr a)) 0) + (limb (Ob.n (Ob.fr b)) 0))) + (0 : Int)))), (It.int IntKind.u64 (0 : Int)), (It.int IntKind.u64 (0 : Int)), (It.int IntKind.u64 (0 : Int))]))], 45, 704, []⟩ := by kernel_rfl
theorem rpA0_hk (a b : U4) : (run envH true 42 ((rp0 a b : Cfg)) [true, true, true]).cfg.k = rpA0_k := by kernel_rfl
theorem rpA0 (a b : U4) {w0 : World} {F0 : Nat → Prop} {K : Kp} {ac : List Act} {Q : Exit → Act → World → Prop} {cX : Ctx} {aX : Act} (ho : AllP [((decide ((0 : Int) < (4 : Int))) = true), ((0 : Int) ≤ (0 : Int)), ((0 : Int) < (4 : Int)), (0 < (Ob.k (.fr a))), ((0 : Int) ≤ (0 : Int)), ((0 : Int) < (4 : Int)), (0 < (Ob.k (.fr b))), ((0 : Int) ≤ (0 : Int)), ((0 : Int) < (4 : Int)), ((0 : Int) ≤ (0 : Int)), ((0 : Int) < (4 : Int)), ((0 : Int) ≤ (0 : Int)), ((0 : Int) < (4 : Int)), (0 < (Ob.k (.fr a))), ((decide ((IntKind.wrap .u64 ((IntKind.wrap .u64 ((limb (Ob.n (.fr a)) 0) + (limb (Ob.n (.fr b)) 0))) + (0 : Int))) < (limb (Ob.n (.fr a)) 0))) = true)]) (hs : Sim w0 F0 K ac (((rp0 a b : Cfg)).σ) cX aX) (hK : ∀ ac cY aY, Sim w0 F0 K ac (mkSt 45 [2, 3, 4, 5, 6, 7] [(.v (.c (.ptr 16 0))), (.v (.c (.ptr 32 0))), (.v (.c (.ptr 48 0))), (.v (.c (.ptr 80 0))), (.v (.c (.int .u64 (1 : Int)))), (.v (.c (.int .i64 (0 : Int))))] [16, 32, 48, 80] [(some (.fl [(.ob (.fr a))])), (some (.fl [(.ob (.fr b))])), (some (.fl [(.ob (.fr (0 : U4)))])), (some (.fl [(.int .u64 (IntKind.wrap .u64 ((IntKind.wrap .u64 ((limb (Ob.n (.fr a)) 0) + (limb (Ob.n (.fr b)) 0))) + (0 : Int)))), (.int .u64 (0 : Int)), (.int .u64 (0 : Int)), (.int .u64 (0 : Int))]))] 704 [] []) cY aY → Wq Try.prog Q (rpA0_k) ac Exit.normal aY cY.w) : Wq Try.prog Q (((rp0 a b : Cfg)).k) ac ((rp0 a b : Cfg)).x aX cX.w :=
  run_at envH_ok (rpA0_at a b) (rpA0_hk a b) ho hs hK
theorem rpB0_at (a b : U4) : runAt envH true 42 ((rp0 a b : Cfg)) [true, true, false, true] [2, 3, 4, 5, 6, 7] [16, 32, 48, 80] [] = some ⟨[((decide ((0 : Int) < (4 : Int))) = true), ((0 : Int) ≤ (0 : Int)), ((0 : Int) < (4 : Int)), (0 < (Ob.k (Ob.fr a))), ((0 : Int) ≤ (0 : Int)), ((0 : Int) < (4 : Int)), (0 < (Ob.k (Ob.fr b))), ((0 : Int) ≤ (0 : Int)), ((0 : Int) < (4 : Int)), ((0 : Int) ≤ (0 : Int)), ((0 : Int) < (4 : Int)), ((0 : Int) ≤ (0 : Int)), ((0 : Int) < (4 : Int)), (0 < (Ob.k (Ob.fr a))), ((decide ((IntKind.wrap IntKind.u64 ((IntKind.wrap IntKind.u64 ((limb (Ob.n (Ob.fr a)) 0) + (limb (Ob.n (Ob.fr b)) 0))) + (0 : Int))) < (limb (Ob.n (Ob.fr a)) 0))) = false), ((0 : Int) ≤ (0 : Int)), ((0 : Int) < (4 : Int)), ((0 : Int) ≤ (0 : Int)), ((0 : Int) < (4 : Int)), (0 < (Ob.k (Ob.fr a))), (((IntKind.wrap IntKind.u64 ((IntKind.wrap IntKind.u64 ((limb (Ob.n (Ob.fr a)) 0) + (limb (Ob.n (Ob.fr b)) 0))) + (0 : Int))) == (limb (Ob.n (Ob.fr a)) 0)) = true), (((0 : Int) == (1 : Int)) = true)], Exit.normal, [(SV.v (V1.c (It.ptr 16 0))), (SV.v (V1.c (It.ptr 32 0))), (SV.v (V1.c (It.ptr 48 0))), (SV.v (V1.c (It.ptr 80 0))), (SV.v (V1.c (It.int IntKind.u64 (1 : Int)))), (SV.v (V1.c (It.int IntKind.i64 (0 : Int))))], [(Option.some (En.fl [(It.ob (Ob.fr a))])), (Option.some (En.fl [(It.ob (Ob.fr b))])), (Option.some (En.fl [(It.ob (Ob.fr (0 : U4)))])), (Option.some (En.fl [(It.int IntKind.u64 (IntKind.wrap IntKind.u64 ((IntKind.wrap IntKind.u64 ((limb (Ob.n (Ob.fr a)) 0) + (limb (Ob.n (Ob.fr b)) 0))) + (0 : Int)))), (It.int IntKind.u64 (0 : Int)), (It.int IntKind.u64 (0 : Int)), (It.int IntKind.u64 (0 : Int))]))], 45, 704, []⟩ := by kernel_rfl
theorem rpB0_hk (a b : U4) : (run envH true 42 ((rp0 a b : Cfg)) [true, true, false, true]).cfg.k = rpA0_k := by kernel_rfl
theorem rpB0 (a b : U4) {w0 : World} {F0 : Nat → Prop} {K : Kp} {ac : List Act} {Q : Exit → Act → World → Prop} {cX : Ctx} {aX : Act} (ho : AllP [((decide ((0 : Int) < (4 : Int))) = true), ((0 : Int) ≤ (0 : Int)), ((0 : Int) < (4 : Int)), (0 < (Ob.k (.fr a))), ((0 : Int) ≤ (0 : Int)), ((0 : Int) < (4 : Int)), (0 < (Ob.k (.fr b))), ((0 : Int) ≤ (0 : Int)), ((0 : Int) < (4 : Int)), ((0 : Int) ≤ (0 : Int)), ((0 : Int) < (4 : Int)), ((0 : Int) ≤ (0 : Int)), ((0 : Int) < (4 : Int)), (0 < (Ob.k (.fr a))), ((decide ((IntKind.wrap .u64 ((IntKind.wrap .u64 ((limb (Ob.n (.fr a)) 0) + (limb (Ob.n (.fr b)) 0))) + (0 : Int))) < (limb (Ob.n (.fr a)) 0))) = false), ((0 : Int) ≤ (0 : Int)), ((0 : Int) < (4 : Int)), ((0 : Int) ≤ (0 : Int)), ((0 : Int) < (4 : Int)), (0 < (Ob.k (.fr a))), (((IntKind.wrap .u64 ((IntKind.wrap .u64 ((limb (Ob.n (.fr a)) 0) + (limb (Ob.n (.fr b)) 0))) + (0 : Int))) == (limb (Ob.n (.fr a)) 0)) = true), (((0 : Int) == (1 : Int)) = true)]) (hs : Sim w0 F0 K ac (((rp0 a b : Cfg)).σ) cX aX) (hK : ∀ ac cY aY, Sim w0 F0 K ac (mkSt 45 [2, 3, 4, 5, 6, 7] [(.v (.c (.ptr 16 0))), (.v (.c (.ptr 32 0))), (.v (.c (.ptr 48 0))), (.v (.c (.ptr 80 0))), (.v (.c (.int .u64 (1 : Int)))), (.v (.c (.int .i64 (0 : Int))))] [16, 32, 48, 80] [(some (.fl [(.ob (.fr a))])), (some (.fl [(.ob (.fr b))])), (some (.fl [(.ob (.fr (0 : U4)))])), (some (.fl [(.int .u64 (IntKind.wrap .u64 ((IntKind.wrap .u64 ((limb (Ob.n (.fr a)) 0) + (limb (Ob.n (.fr b)) 0))) + (0 : Int)))), (.int .u64 (0 : Int)), (.int .u64 (0 : Int)), (.int .u64 (0 : Int))]))] 704 [] []) cY aY → Wq Try.prog Q (rpA0_k) ac Exit.normal aY cY.w) : Wq Try.prog Q (((rp0 a b : Cfg)).k) ac ((rp0 a b : Cfg)).x aX cX.w :=
  run_at envH_ok (rpB0_at a b) (rpB0_hk a b) ho hs hK
theorem rpC0_at (a b : U4) : runAt envH true 42 ((rp0 a b : Cfg)) [true, true, false, false] [2, 3, 4, 5, 6, 7] [16, 32, 48, 80] [] = some ⟨[((decide ((0 : Int) < (4 : Int))) = true), ((0 : Int) ≤ (0 : Int)), ((0 : Int) < (4 : Int)), (0 < (Ob.k (Ob.fr a))), ((0 : Int) ≤ (0 : Int)), ((0 : Int) < (4 : Int)), (0 < (Ob.k (Ob.fr b))), ((0 : Int) ≤ (0 : Int)), ((0 : Int) < (4 : Int)), ((0 : Int) ≤ (0 : Int)), ((0 : Int) < (4 : Int)), ((0 : Int) ≤ (0 : Int)), ((0 : Int) < (4 : Int)), (0 < (Ob.k (Ob.fr a))), ((decide ((IntKind.wrap IntKind.u64 ((IntKind.wrap IntKind.u64 ((limb (Ob.n (Ob.fr a)) 0) + (limb (Ob.n (Ob.fr b)) 0))) + (0 : Int))) < (limb (Ob.n (Ob.fr a)) 0))) = false), ((0 : Int) ≤ (0 : Int)), ((0 : Int) < (4 : Int)), ((0 : Int) ≤ (0 : Int)), ((0 : Int) < (4 : Int)), (0 < (Ob.k (Ob.fr a))), (((IntKind.wrap IntKind.u64 ((IntKind.wrap IntKind.u64 ((limb (Ob.n (Ob.fr a)) 0) + (limb (Ob.n (Ob.fr b)) 0))) + (0 : Int))) == (limb (Ob.n (Ob.fr a)) 0)) = true), (((0 : Int) == (1 : Int)) = false)], Exit.normal, [(SV.v (V1.c (It.ptr 16 0))), (SV.v (V1.c (It.ptr 32 0))), (SV.v (V1.c (It.ptr 48 0))), (SV.v (V1.c (It.ptr 80 0))), (SV.v (V1.c (It.int IntKind.u64 (0 : Int)))), (SV.v (V1.c (It.int IntKind.i64 (0 : Int))))], [(Option.some (En.fl [(It.ob (Ob.fr a))])), (Option.some (En.fl [(It.ob (Ob.fr b))])), (Option.some (En.fl [(It.ob (Ob.fr (0 : U4)))])), (Option.some (En.fl [(It.int IntKind.u64 (IntKind.wrap IntKind.u64 ((IntKind.wrap IntKind.u64 ((limb (Ob.n (Ob.fr a)) 0) + (limb (Ob.n (Ob.fr b)) 0))) + (0 : Int)))), (It.int IntKind.u64 (0 : Int)), (It.int IntKind.u64 (0 : Int)), (It.int IntKind.u64 (0 : Int))]))], 45, 704, []⟩ := by kernel_rfl
theorem rpC0_hk (a b : U4) : (run envH true 42 ((rp0 a b : Cfg)) [true, true, false, false]).cfg.k = rpA0_k := by kernel_rfl
theorem rpC0 (a b : U4) {w0 : World} {F0 : Nat → Prop} {K : Kp} {ac : List Act} {Q : Exit → Act → World → Prop} {cX : Ctx} {aX : Act} (ho : AllP [((decide ((0 : Int) < (4 : Int))) = true), ((0 : Int) ≤ (0 : Int)), ((0 : Int) < (4 : Int)), (0 < (Ob.k (.fr a))), ((0 : Int) ≤ (0 : Int)), ((0 : Int) < (4 : Int)), (0 < (Ob.k (.fr b))), ((0 : Int) ≤ (0 : Int)), ((0 : Int) < (4 : Int)), ((0 : Int) ≤ (0 : Int)), ((0 : Int) < (4 : Int)), ((0 : Int) ≤ (0 : Int)), ((0 : Int) < (4 : Int)), (0 < (Ob.k (.fr a))), ((decide ((IntKind.wrap .u64 ((IntKind.wrap .u64 ((limb (Ob.n (.fr a)) 0) + (limb (Ob.n (.fr b)) 0))) + (0 : Int))) < (limb (Ob.n (.fr a)) 0))) = false), ((0 : Int) ≤ (0 : Int)), ((0 : Int) < (4 : Int)), ((0 : Int) ≤ (0 : Int)), ((0 : Int) < (4 : Int)), (0 < (Ob.k (.fr a))), (((IntKind.wrap .u64 ((IntKind.wrap .u64 ((limb (Ob.n (.fr a)) 0) + (limb (Ob.n (.fr b)) 0))) + (0 : Int))) == (limb (Ob.n (.fr a)) 0)) = true), (((0 : Int) == (1 : Int)) = false)]) (hs : Sim w0 F0 K ac (((rp0 a b : Cfg)).σ) cX aX) (hK : ∀ ac cY aY, Sim w0 F0 K ac (mkSt 45 [2, 3, 4, 5, 6, 7] [(.v (.c (.ptr 16 0))), (.v (.c (.ptr 32 0))), (.v (.c (.ptr 48 0))), (.v (.c (.ptr 80 0))), (.v (.c (.int .u64 (0 : Int)))), (.v (.c (.int .i64 (0 : Int))))] [16, 32, 48, 80] [(some (.fl [(.ob (.fr a))])), (some (.fl [(.ob (.fr b))])), (some (.fl [(.ob (.fr (0 : U4)))])), (some (.fl [(.int .u64 (IntKind.wrap .u64 ((IntKind.wrap .u64 ((limb (Ob.n (.fr a)) 0) + (limb (Ob.n (.fr b)) 0))) + (0 : Int)))), (.int .u64 (0 : Int)), (.int .u64 (0 : Int)), (.int .u64 (0 : Int))]))] 704 [] []) cY aY → Wq Try.prog Q (rpA0_k) ac Exit.normal aY cY.w) : Wq Try.prog Q (((rp0 a b : Cfg)).k) ac ((rp0 a b : Cfg)).x aX cX.w :=
  run_at envH_ok (rpC0_at a b) (rpC0_hk a b) ho hs hK
theorem rpD0_at (a b : U4) : runAt envH true 42 ((rp0 a b : Cfg)) [true, false, false] [2, 3, 4, 5, 6, 7] [16, 32, 48, 80] [] = some ⟨[((decide ((0 : Int) < (4 : Int))) = true), ((0 : Int) ≤ (0 : Int)), ((0 : Int) < (4 : Int)), (0 < (Ob.k (Ob.fr a))), ((0 : Int) ≤ (0 : Int)), ((0 : Int) < (4 : Int)), (0 < (Ob.k (Ob.fr b))), ((0 : Int) ≤ (0 : Int)), ((0 : Int) < (4 : Int)), ((0 : Int) ≤ (0 : Int)), ((0 : Int) < (4 : Int)), ((0 : Int) ≤ (0 : Int)), ((0 : Int) < (4 : Int)), (0 < (Ob.k (Ob.fr a))), ((decide ((IntKind.wrap IntKind.u64 ((IntKind.wrap IntKind.u64 ((limb (Ob.n (Ob.fr a)) 0) + (limb (Ob.n (Ob.fr b)) 0))) + (0 : Int))) < (limb (Ob.n (Ob.fr a)) 0))) = false), ((0 : Int) ≤ (0 : Int)), ((0 : Int) < (4 : Int)), ((0 : Int) ≤ (0 : Int)), ((0 : Int) < (4 : Int)), (0 < (Ob.k (Ob.fr a))), (((IntKind.wrap IntKind.u64 ((IntKind.wrap IntKind.u64 ((limb (Ob.n (Ob.fr a)) 0) + (limb (Ob.n (Ob.fr b)) 0))) + (0 : Int))) == (limb (Ob.n (Ob.fr a)) 0)) = false)], Exit.normal, [(SV.v (V1.c (It.ptr 16 0))), (SV.v (V1.c (It.ptr 32 0))), (SV.v (V1.c (It.ptr 48 0))), (SV.v (V1.c (It.ptr 80 0))), (SV.v (V1.c (It.int IntKind.u64 (0 : Int)))), (SV.v (V1.c (It.int IntKind.i64 (0 : Int))))], [(Option.some (En.fl [(It.ob (Ob.fr a))])), (Option.some (En.fl [(It.ob (Ob.fr b))])), (Option.some (En.fl [(It.ob (Ob.fr (0 : U4)))])), (Option.some (En.fl [(It.int IntKind.u64 (IntKind.wrap IntKind.u64 ((IntKind.wrap IntKind.u64 ((limb (Ob.n (Ob.fr a)) 0) + (limb (Ob.n (Ob.fr b)) 0))) + (0 : Int)))), (It.int IntKind.u64 (0 : Int)), (It.int IntKind.u64 (0 : Int)), (It.int IntKind.u64 (0 : Int))]))], 45, 704, []⟩ := by kernel_rfl
theorem rpD0_hk (a b : U4) : (run envH true 42 ((rp0 a b : Cfg)) [true, false, false]).cfg.k = rpA0_k := by kernel_rfl
theorem rpD0 (a b : U4) {w0 : World} {F0 : Nat → Prop} {K : Kp} {ac : List Act} {Q : Exit → Act → World → Prop} {cX : Ctx} {aX : Act} (ho : AllP [((decide ((0 : Int) < (4 : Int))) = true), ((0 : Int) ≤ (0 : Int)), ((0 : Int) < (4 : Int)), (0 < (Ob.k (.fr a))), ((0 : Int) ≤ (0 : Int)), ((0 : Int) < (4 : Int)), (0 < (Ob.k (.fr b))), ((0 : Int) ≤ (0 : Int)), ((0 : Int) < (4 : Int)), ((0 : Int) ≤ (0 : Int)), ((0 : Int) < (4 : Int)), ((0 : Int) ≤ (0 : Int)), ((0 : Int) < (4 : Int)), (0 < (Ob.k (.fr a))), ((decide ((IntKind.wrap .u64 ((IntKind.wrap .u64 ((limb (Ob.n (.fr a)) 0) + (limb (Ob.n (.fr b)) 0))) + (0 : Int))) < (limb (Ob.n (.fr a)) 0))) = false), ((0 : Int) ≤ (0 : Int)), ((0 : Int) < (4 : Int)), ((0 : Int) ≤ (0 : Int)), ((0 : Int) < (4 : Int)), (0 < (Ob.k (.fr a))), (((IntKind.wrap .u64 ((IntKind.wrap .u64 ((limb (Ob.n (.fr a)) 0) + (limb (Ob.n (.fr b)) 0))) + (0 : Int))) == (limb (Ob.n (.fr a)) 0)) = false)]) (hs : Sim w0 F0 K ac (((rp0 a b : Cfg)).σ) cX aX) (hK : ∀ ac cY aY, Sim w0 F0 K ac (mkSt 45 [2, 3, 4, 5, 6, 7] [(.v (.c (.ptr 16 0))), (.v (.c (.ptr 32 0))), (.v (.c (.ptr 48 0))), (.v (.c (.ptr 80 0))), (.v (.c (.int .u64 (0 : Int)))), (.v (.c (.int .i64 (0 : Int))))] [16, 32, 48, 80] [(some (.fl [(.ob (.fr a))])), (some (.fl [(.ob (.fr b))])), (some (.fl [(.ob (.fr (0 : U4)))])), (some (.fl [(.int .u64 (IntKind.wrap .u64 ((IntKind.wrap .u64 ((limb (Ob.n (.fr a)) 0) + (limb (Ob.n (.fr b)) 0))) + (0 : Int)))), (.int .u64 (0 : Int)), (.int .u64 (0 : Int)), (.int .u64 (0 : Int))]))] 704 [] []) cY aY → Wq Try.prog Q (rpA0_k) ac Exit.normal aY cY.w) : Wq Try.prog Q (((rp0 a b : Cfg)).k) ac ((rp0 a b : Cfg)).x aX cX.w :=
  run_at envH_ok (rpD0_at a b) (rpD0_hk a b) ho hs hK
noncomputable def rpS1 (a b : U4) (v0 v1 v2 v3 c : Int) : St := mkSt 45 [2, 3, 4, 5, 6, 7] [(SV.v (V1.c (It.ptr 16 0))), (SV.v (V1.c (It.ptr 32 0))), (SV.v (V1.c (It.ptr 48 0))), (SV.v (V1.c (It.ptr 80 0))), .v (.c (.int .u64 c)), (SV.v (V1.c (It.int IntKind.i64 (0 : Int))))] [16, 32, 48, 80] [(Option.some (En.fl [(It.ob (Ob.fr a))])), (Option.some (En.fl [(It.ob (Ob.fr b))])), (Option.some (En.fl [(It.ob (Ob.fr (0 : U4)))])), some (.fl [.int .u64 v0, .int .u64 v1, .int .u64 v2, .int .u64 v3])] 704 [] []
noncomputable def rpA1_k : List KI := (run envH true 25 ((fun (a b : U4) (v0 v1 v2 v3 c : Int) => (⟨rpA0_k, .normal, rpS1 a b v0 v1 v2 v3 c⟩ : Cfg)) default default default default default default default) [true, true, true]).cfg.k
theorem rpA1_hk (a b : U4) (v0 v1 v2 v3 c : Int) : (run envH true 25 ((⟨rpA0_k, .normal, rpS1 a b v0 v1 v2 v3 c⟩ : Cfg)) [true, true, true]).cfg.k = rpA1_k := by kernel_rfl
theorem rpA1 (a b : U4) (v0 v1 v2 v3 c : Int) {w0 : World} {F0 : Nat → Prop} {K : Kp} {ac : List Act} {Q : Exit → Act → World → Prop} {cX : Ctx} {aX : Act} (ho : AllP [((decide ((1 : Int) < (4 : Int))) = true), ((0 : Int) ≤ (1 : Int)), ((1 : Int) < (4 : Int)), (1 < (Ob.k (.fr a))), ((0 : Int) ≤ (1 : Int)), ((1 : Int) < (4 : Int)), (1 < (Ob.k (.fr b))), ((0 : Int) ≤ (1 : Int)), ((1 : Int) < (4 : Int)), ((0 : Int) ≤ (1 : Int)), ((1 : Int) < (4 : Int)), ((0 : Int) ≤ (1 : Int)), ((1 : Int) < (4 : Int)), (1 < (Ob.k (.fr a))), ((decide ((IntKind.wrap .u64 ((IntKind.wrap .u64 ((limb (Ob.n (.fr a)) 1) + (limb (Ob.n (.fr b)) 1))) + c)) < (limb (Ob.n (.fr a)) 1))) = true)]) (hs : Sim w0 F0 K ac (rpS1 a b v0 v1 v2 v3 c) cX aX) (hK : ∀ ac cY aY, Sim w0 F0 K ac (mkSt 45 [2, 3, 4, 5, 6, 7] [(.v (.c (.ptr 16 0))), (.v (.c (.ptr 32 0))), (.v (.c (.ptr 48 0))), (.v (.c (.ptr 80 0))), (.v (.c (.int .u64 (1 : Int)))), (.v (.c (.int .i64 (1 : Int))))] [16, 32, 48, 80] [(some (.fl [(.ob (.fr a))])), (some (.fl [(.ob (.fr b))])), (some (.fl [(.ob (.fr (0 : U4)))])), (some (.fl [(.int .u64 v0), (.int .u64 (IntKind.wrap .u64 ((IntKind.wrap .u64 ((limb (Ob.n (.fr a)) 1) + (limb (Ob.n (.fr b)) 1))) + c))), (.int .u64 v2), (.int .u64 v3)]))] 1312 [] []) cY aY → Wq Try.prog Q (rpA1_k) ac Exit.normal aY cY.w) : Wq Try.prog Q (rpA0_k) ac .normal aX cX.w :=
  run_at2 (o := ⟨_, _, _, _, _, _, _⟩) envH_ok (by kernel_rfl) (rpA1_hk a b v0 v1 v2 v3 c) ho hs hK
theorem rpB1_hk (a b : U4) (v0 v1 v2 v3 c : Int) : (run envH true 25 ((⟨rpA0_k, .normal, rpS1 a b v0 v1 v2 v3 c⟩ : Cfg)) [true, true, false, true]).cfg.k = rpA1_k := by kernel_rfl
theorem rpB1 (a b : U4) (v0 v1 v2 v3 c : Int) {w0 : World} {F0 : Nat → Prop} {K : Kp} {ac : List Act} {Q : Exit → Act → World → Prop} {cX : Ctx} {aX : Act} (ho : AllP [((decide ((1 : Int) < (4 : Int))) = true), ((0 : Int) ≤ (1 : Int)), ((1 : Int) < (4 : Int)), (1 < (Ob.k (.fr a))), ((0 : Int) ≤ (1 : Int)), ((1 : Int) < (4 : Int)), (1 < (Ob.k (.fr b))), ((0 : Int) ≤ (1 : Int)), ((1 : Int) < (4 : Int)), ((0 : Int) ≤ (1 : Int)), ((1 : Int) < (4 : Int)), ((0 : Int) ≤ (1 : Int)), ((1 : Int) < (4 : Int)), (1 < (Ob.k (.fr a))), ((decide ((IntKind.wrap .u64 ((IntKind.wrap .u64 ((limb (Ob.n (.fr a)) 1) + (limb (Ob.n (.fr b)) 1))) + c)) < (limb (Ob.n (.fr a)) 1))) = false), ((0 : Int) ≤ (1 : Int)), ((1 : Int) < (4 : Int)), ((0 : Int) ≤ (1 : Int)), ((1 : Int) < (4 : Int)), (1 < (Ob.k (.fr a))), (((IntKind.wrap .u64 ((IntKind.wrap .u64 ((limb (Ob.n (.fr a)) 1) + (limb (Ob.n (.fr b)) 1))) + c)) == (limb (Ob.n (.fr a)) 1)) = true), ((c == (1 : Int)) = true)]) (hs : Sim w0 F0 K ac (rpS1 a b v0 v1 v2 v3 c) cX aX) (hK : ∀ ac cY aY, Sim w0 F0 K ac (mkSt 45 [2, 3, 4, 5, 6, 7] [(.v (.c (.ptr 16 0))), (.v (.c (.ptr 32 0))), (.v (.c (.ptr 48 0))), (.v (.c (.ptr 80 0))), (.v (.c (.int .u64 (1 : Int)))), (.v (.c (.int .i64 (1 : Int))))] [16, 32, 48, 80] [(some (.fl [(.ob (.fr a))])), (some (.fl [(.ob (.fr b))])), (some (.fl [(.ob (.fr (0 : U4)))])), (some (.fl [(.int .u64 v0), (.int .u64 (IntKind.wrap .u64 ((IntKind.wrap .u64 ((limb (Ob.n (.fr a)) 1) + (limb (Ob.n (.fr b)) 1))) + c))), (.int .u64 v2), (.int .u64 v3)]))] 1312 [] []) cY aY → Wq Try.prog Q (rpA1_k) ac Exit.normal aY cY.w) : Wq Try.prog Q (rpA0_k) ac .normal aX cX.w :=
  run_at2 (o := ⟨_, _, _, _, _, _, _⟩) envH_ok (by kernel_rfl) (rpB1_hk a b v0 v1 v2 v3 c) ho hs hK
theorem rpC1_hk (a b : U4) (v0 v1 v2 v3 c : Int) : (run envH true 25 ((⟨rpA0_k, .normal, rpS1 a b v0 v1 v2 v3 c⟩ : Cfg)) [true, true, false, false]).cfg.k = rpA1_k := by kernel_rfl
theorem rpC1 (a b : U4) (v0 v1 v2 v3 c : Int) {w0 : World} {F0 : Nat → Prop} {K : Kp} {ac : List Act} {Q : Exit → Act → World → Prop} {cX : Ctx} {aX : Act} (ho : AllP [((decide ((1 : Int) < (4 : Int))) = true), ((0 : Int) ≤ (1 : Int)), ((1 : Int) < (4 : Int)), (1 < (Ob.k (.fr a))), ((0 : Int) ≤ (1 : Int)), ((1 : Int) < (4 : Int)), (1 < (Ob.k (.fr b))), ((0 : Int) ≤ (1 : Int)), ((1 : Int) < (4 : Int)), ((0 : Int) ≤ (1 : Int)), ((1 : Int) < (4 : Int)), ((0 : Int) ≤ (1 : Int)), ((1 : Int) < (4 : Int)), (1 < (Ob.k (.fr a))), ((decide ((IntKind.wrap .u64 ((IntKind.wrap .u64 ((limb (Ob.n (.fr a)) 1) + (limb (Ob.n (.fr b)) 1))) + c)) < (limb (Ob.n (.fr a)) 1))) = false), ((0 : Int) ≤ (1 : Int)), ((1 : Int) < (4 : Int)), ((0 : Int) ≤ (1 : Int)), ((1 : Int) < (4 : Int)), (1 < (Ob.k (.fr a))), (((IntKind.wrap .u64 ((IntKind.wrap .u64 ((limb (Ob.n (.fr a)) 1) + (limb (Ob.n (.fr b)) 1))) + c)) == (limb (Ob.n (.fr a)) 1)) = true), ((c == (1 : Int)) = false)]) (hs : Sim w0 F0 K ac (rpS1 a b v0 v1 v2 v3 c) cX aX) (hK : ∀ ac cY aY, Sim w0 F0 K ac (mkSt 45 [2, 3, 4, 5, 6, 7] [(.v (.c (.ptr 16 0))), (.v (.c (.ptr 32 0))), (.v (.c (.ptr 48 0))), (.v (.c (.ptr 80 0))), (.v (.c (.int .u64 (0 : Int)))), (.v (.c (.int .i64 (1 : Int))))] [16, 32, 48, 80] [(some (.fl [(.ob (.fr a))])), (some (.fl [(.ob (.fr b))])), (some (.fl [(.ob (.fr (0 : U4)))])), (some (.fl [(.int .u64 v0), (.int .u64 (IntKind.wrap .u64 ((IntKind.wrap .u64 ((limb (Ob.n (.fr a)) 1) + (limb (Ob.n (.fr b)) 1))) + c))), (.int .u64 v2), (.int .u64 v3)]))] 1312 [] []) cY aY → Wq Try.prog Q (rpA1_k) ac Exit.normal aY cY.w) : Wq Try.prog Q (rpA0_k) ac .normal aX cX.w :=
  run_at2 (o := ⟨_, _, _, _, _, _, _⟩) envH_ok (by kernel_rfl) (rpC1_hk a b v0 v1 v2 v3 c) ho hs hK
theorem rpD1_hk (a b : U4) (v0 v1 v2 v3 c : Int) : (run envH true 25 ((⟨rpA0_k, .normal, rpS1 a b v0 v1 v2 v3 c⟩ : Cfg)) [true, false, false]).cfg.k = rpA1_k := by kernel_rfl
theorem rpD1 (a b : U4) (v0 v1 v2 v3 c : Int) {w0 : World} {F0 : Nat → Prop} {K : Kp} {ac : List Act} {Q : Exit → Act → World → Prop} {cX : Ctx} {aX : Act} (ho : AllP [((decide ((1 : Int) < (4 : Int))) = true), ((0 : Int) ≤ (1 : Int)), ((1 : Int) < (4 : Int)), (1 < (Ob.k (.fr a))), ((0 : Int) ≤ (1 : Int)), ((1 : Int) < (4 : Int)), (1 < (Ob.k (.fr b))), ((0 : Int) ≤ (1 : Int)), ((1 : Int) < (4 : Int)), ((0 : Int) ≤ (1 : Int)), ((1 : Int) < (4 : Int)), ((0 : Int) ≤ (1 : Int)), ((1 : Int) < (4 : Int)), (1 < (Ob.k (.fr a))), ((decide ((IntKind.wrap .u64 ((IntKind.wrap .u64 ((limb (Ob.n (.fr a)) 1) + (limb (Ob.n (.fr b)) 1))) + c)) < (limb (Ob.n (.fr a)) 1))) = false), ((0 : Int) ≤ (1 : Int)), ((1 : Int) < (4 : Int)), ((0 : Int) ≤ (1 : Int)), ((1 : Int) < (4 : Int)), (1 < (Ob.k (.fr a))), (((IntKind.wrap .u64 ((IntKind.wrap .u64 ((limb (Ob.n (.fr a)) 1) + (limb (Ob.n (.fr b)) 1))) + c)) == (limb (Ob.n (.fr a)) 1)) = false)]) (hs : Sim w0 F0 K ac (rpS1 a b v0 v1 v2 v3 c) cX aX) (hK : ∀ ac cY aY, Sim w0 F0 K ac (mkSt 45 [2, 3, 4, 5, 6, 7] [(.v (.c (.ptr 16 0))), (.v (.c (.ptr 32 0))), (.v (.c (.ptr 48 0))), (.v (.c (.ptr 80 0))), (.v (.c (.int .u64 (0 : Int)))), (.v (.c (.int .i64 (1 : Int))))] [16, 32, 48, 80] [(some (.fl [(.ob (.fr a))])), (some (.fl [(.ob (.fr b))])), (some (.fl [(.ob (.fr (0 : U4)))])), (some (.fl [(.int .u64 v0), (.int .u64 (IntKind.wrap .u64 ((IntKind.wrap .u64 ((limb (Ob.n (.fr a)) 1) + (limb (Ob.n (.fr b)) 1))) + c))), (.int .u64 v2), (.int .u64 v3)]))] 1312 [] []) cY aY → Wq Try.prog Q (rpA1_k) ac Exit.normal aY cY.w) : Wq Try.prog Q (rpA0_k) ac .normal aX cX.w :=
  run_at2 (o := ⟨_, _, _, _, _, _, _⟩) envH_ok (by kernel_rfl) (rpD1_hk a b v0 v1 v2 v3 c) ho hs hK
noncomputable def rpS2 (a b : U4) (v0 v1 v2 v3 c : Int) : St := mkSt 45 [2, 3, 4, 5, 6, 7] [(SV.v (V1.c (It.ptr 16 0))), (SV.v (V1.c (It.ptr 32 0))), (SV.v (V1.c (It.ptr 48 0))), (SV.v (V1.c (It.ptr 80 0))), .v (.c (.int .u64 c)), (SV.v (V1.c (It.int IntKind.i64 (1 : Int))))] [16, 32, 48, 80] [(Option.some (En.fl [(It.ob (Ob.fr a))])), (Option.some (En.fl [(It.ob (Ob.fr b))])), (Option.some (En.fl [(It.ob (Ob.fr (0 : U4)))])), some (.fl [.int .u64 v0, .int .u64 v1, .int .u64 v2, .int .u64 v3])] 1312 [] []
noncomputable def rpA2_k : List KI := (run envH true 25 ((fun (a b : U4) (v0 v1 v2 v3 c : Int) => (⟨rpA1_k, .normal, rpS2 a b v0 v1 v2 v3 c⟩ : Cfg)) default default default default default default default) [true, true, true]).cfg.k
theorem rpA2_hk (a b : U4) (v0 v1 v2 v3 c : Int) : (run envH true 25 ((⟨rpA1_k, .normal, rpS2 a b v0 v1 v2 v3 c⟩ : Cfg)) [true, true, true]).cfg.k = rpA2_k := by kernel_rfl
theorem rpA2 (a b : U4) (v0 v1 v2 v3 c : Int) {w0 : World} {F0 : Nat → Prop} {K : Kp} {ac : List Act} {Q : Exit → Act → World → Prop} {cX : Ctx} {aX : Act} (ho : AllP [((decide ((2 : Int) < (4 : Int))) = true), ((0 : Int) ≤ (2 : Int)), ((2 : Int) < (4 : Int)), (2 < (Ob.k (.fr a))), ((0 : Int) ≤ (2 : Int)), ((2 : Int) < (4 : Int)), (2 < (Ob.k (.fr b))), ((0 : Int) ≤ (2 : Int)), ((2 : Int) < (4 : Int)), ((0 : Int) ≤ (2 : Int)), ((2 : Int) < (4 : Int)), ((0 : Int) ≤ (2 : Int)), ((2 : Int) < (4 : Int)), (2 < (Ob.k (.fr a))), ((decide ((IntKind.wrap .u64 ((IntKind.wrap .u64 ((limb (Ob.n (.fr a)) 2) + (limb (Ob.n (.fr b)) 2))) + c)) < (limb (Ob.n (.fr a)) 2))) = true)]) (hs : Sim w0 F0 K ac (rpS2 a b v0 v1 v2 v3 c) cX aX) (hK : ∀ ac cY aY, Sim w0 F0 K ac (mkSt 45 [2, 3, 4, 5, 6, 7] [(.v (.c (.ptr 16 0))), (.v (.c (.ptr 32 0))), (.v (.c (.ptr 48 0))), (.v (.c (.ptr 80 0))), (.v (.c (.int .u64 (1 : Int)))), (.v (.c (.int .i64 (2 : Int))))] [16, 32, 48, 80] [(some (.fl [(.ob (.fr a))])), (some (.fl [(.ob (.fr b))])), (some (.fl [(.ob (.fr (0 : U4)))])), (some (.fl [(.int .u64 v0), (.int .u64 v1), (.int .u64 (IntKind.wrap .u64 ((IntKind.wrap .u64 ((limb (Ob.n (.fr a)) 2) + (limb (Ob.n (.fr b)) 2))) + c))), (.int .u64 v3)]))] 1920 [] []) cY aY → Wq Try.prog Q (rpA2_k) ac Exit.normal aY cY.w) : Wq Try.prog Q (rpA1_k) ac .normal aX cX.w :=
  run_at2 (o := ⟨_, _, _, _, _, _, _⟩) envH_ok (by kernel_rfl) (rpA2_hk a b v0 v1 v2 v3 c) ho hs hK
theorem rpB2_hk (a b : U4) (v0 v1 v2 v3 c : Int) : (run envH true 25 ((⟨rpA1_k, .normal, rpS2 a b v0 v1 v2 v3 c⟩ : Cfg)) [true, true, false, true]).cfg.k = rpA2_k := by kernel_rfl
theorem rpB2 (a b : U4) (v0 v1 v2 v3 c : Int) {w0 : World} {F0 : Nat → Prop} {K : Kp} {ac : List Act} {Q : Exit → Act → World → Prop} {cX : Ctx} {aX : Act} (ho : AllP [((decide ((2 : Int) < (4 : Int))) = true), ((0 : Int) ≤ (2 : Int)), ((2 : Int) < (4 : Int)), (2 < (Ob.k (.fr a))), ((0 : Int) ≤ (2 : Int)), ((2 : Int) < (4 : Int)), (2 < (Ob.k (.fr b))), ((0 : Int) ≤ (2 : Int)), ((2 : Int) < (4 : Int)), ((0 : Int) ≤ (2 : Int)), ((2 : Int) < (4 : Int)), ((0 : Int) ≤ (2 : Int)), ((2 : Int) < (4 : Int)), (2 < (Ob.k (.fr a))), ((decide ((IntKind.wrap .u64 ((IntKind.wrap .u64 ((limb (Ob.n (.fr a)) 2) + (limb (Ob.n (.fr b)) 2))) + c)) < (limb (Ob.n (.fr a)) 2))) = false), ((0 : Int) ≤ (2 : Int)), ((2 : Int) < (4 : Int)), ((0 : Int) ≤ (2 : Int)), ((2 : Int) < (4 : Int)), (2 < (Ob.k (.fr a))), (((IntKind.wrap .u64 ((IntKind.wrap .u64 ((limb (Ob.n (.fr a)) 2) + (limb (Ob.n (.fr b)) 2))) + c)) == (limb (Ob.n (.fr a)) 2)) = true), ((c == (1 : Int)) = true)]) (hs : Sim w0 F0 K ac (rpS2 a b v0 v1 v2 v3 c) cX aX) (hK : ∀ ac cY aY, Sim w0 F0 K ac (mkSt 45 [2, 3, 4, 5, 6, 7] [(.v (.c (.ptr 16 0))), (.v (.c (.ptr 32 0))), (.v (.c (.ptr 48 0))), (.v (.c (.ptr 80 0))), (.v (.c (.int .u64 (1 : Int)))), (.v (.c (.int .i64 (2 : Int))))] [16, 32, 48, 80] [(some (.fl [(.ob (.fr a))])), (some (.fl [(.ob (.fr b))])), (some (.fl [(.ob (.fr (0 : U4)))])), (some (.fl [(.int .u64 v0), (.int .u64 v1), (.int .u64 (IntKind.wrap .u64 ((IntKind.wrap .u64 ((limb (Ob.n (.fr a)) 2) + (limb (Ob.n (.fr b)) 2))) + c))), (.int .u64 v3)]))] 1920 [] []) cY aY → Wq Try.prog Q (rpA2_k) ac Exit.normal aY cY.w) : Wq Try.prog Q (rpA1_k) ac .normal aX cX.w :=
  run_at2 (o := ⟨_, _, _, _, _, _, _⟩) envH_ok (by kernel_rfl) (rpB2_hk a b v0 v1 v2 v3 c) ho hs hK
theorem rpC2_hk (a b : U4) (v0 v1 v2 v3 c : Int) : (run envH true 25 ((⟨rpA1_k, .normal, rpS2 a b v0 v1 v2 v3 c⟩ : Cfg)) [true, true, false, false]).cfg.k = rpA2_k := by kernel_rfl
theorem rpC2 (a b : U4) (v0 v1 v2 v3 c : Int) {w0 : World} {F0 : Nat → Prop} {K : Kp} {ac : List Act} {Q : Exit → Act → World → Prop} {cX : Ctx} {aX : Act} (ho : AllP [((decide ((2 : Int) < (4 : Int))) = true), ((0 : Int) ≤ (2 : Int)), ((2 : Int) < (4 : Int)), (2 < (Ob.k (.fr a))), ((0 : Int) ≤ (2 : Int)), ((2 : Int) < (4 : Int)), (2 < (Ob.k (.fr b))), ((0 : Int) ≤ (2 : Int)), ((2 : Int) < (4 : Int)), ((0 : Int) ≤ (2 : Int)), ((2 : Int) < (4 : Int)), ((0 : Int) ≤ (2 : Int)), ((2 : Int) < (4 : Int)), (2 < (Ob.k (.fr a))), ((decide ((IntKind.wrap .u64 ((IntKind.wrap .u64 ((limb (Ob.n (.fr a)) 2) + (limb (Ob.n (.fr b)) 2))) + c)) < (limb (Ob.n (.fr a)) 2))) = false), ((0 : Int) ≤ (2 : Int)), ((2 : Int) < (4 : Int)), ((0 : Int) ≤ (2 : Int)), ((2 : Int) < (4 : Int)), (2 < (Ob.k (.fr a))), (((IntKind.wrap .u64 ((IntKind.wrap .u64 ((limb (Ob.n (.fr a)) 2) + (limb (Ob.n (.fr b)) 2))) + c)) == (limb (Ob.n (.fr a)) 2)) = true), ((c == (1 : Int)) = false)]) (hs : Sim w0 F0 K ac (rpS2 a b v0 v1 v2 v3 c) cX aX) (hK : ∀ ac cY aY, Sim w0 F0 K ac (mkSt 45 [2, 3, 4, 5, 6, 7] [(.v (.c (.ptr 16 0))), (.v (.c (.ptr 32 0))), (.v (.c (.ptr 48 0))), (.v (.c (.ptr 80 0))), (.v (.c (.int .u64 (0 : Int)))), (.v (.c (.int .i64 (2 : Int))))] [16, 32, 48, 80] [(some (.fl [(.ob (.fr a))])), (some (.fl [(.ob (.fr b))])), (some (.fl [(.ob (.fr (0 : U4)))])), (some (.fl [(.int .u64 v0), (.int .u64 v1), (.int .u64 (IntKind.wrap .u64 ((IntKind.wrap .u64 ((limb (Ob.n (.fr a)) 2) + (limb (Ob.n (.fr b)) 2))) + c))), (.int .u64 v3)]))] 1920 [] []) cY aY → Wq Try.prog Q (rpA2_k) ac Exit.normal aY cY.w) : Wq Try.prog Q (rpA1_k) ac .normal aX cX.w :=
  run_at2 (o := ⟨_, _, _, _, _, _, _⟩) envH_ok (by kernel_rfl) (rpC2_hk a b v0 v1 v2 v3 c) ho hs hK
theorem rpD2_hk (a b : U4) (v0 v1 v2 v3 c : Int) : (run envH true 25 ((⟨rpA1_k, .normal, rpS2 a b v0 v1 v2 v3 c⟩ : Cfg)) [true, false, false]).cfg.k = rpA2_k := by kernel_rfl
theorem rpD2 (a b : U4) (v0 v1 v2 v3 c : Int) {w0 : World} {F0 : Nat → Prop} {K : Kp} {ac : List Act} {Q : Exit → Act → World → Prop} {cX : Ctx} {aX : Act} (ho : AllP [((decide ((2 : Int) < (4 : Int))) = true), ((0 : Int) ≤ (2 : Int)), ((2 : Int) < (4 : Int)), (2 < (Ob.k (.fr a))), ((0 : Int) ≤ (2 : Int)), ((2 : Int) < (4 : Int)), (2 < (Ob.k (.fr b))), ((0 : Int) ≤ (2 : Int)), ((2 : Int) < (4 : Int)), ((0 : Int) ≤ (2 : Int)), ((2 : Int) < (4 : Int)), ((0 : Int) ≤ (2 : Int)), ((2 : Int) < (4 : Int)), (2 < (Ob.k (.fr a))), ((decide ((IntKind.wrap .u64 ((IntKind.wrap .u64 ((limb (Ob.n (.fr a)) 2) + (limb (Ob.n (.fr b)) 2))) + c)) < (limb (Ob.n (.fr a)) 2))) = false), ((0 : Int) ≤ (2 : Int)), ((2 : Int) < (4 : Int)), ((0 : Int) ≤ (2 : Int)), ((2 : Int) < (4 : Int)), (2 < (Ob.k (.fr a))), (((IntKind.wrap .u64 ((IntKind.wrap .u64 ((limb (Ob.n (.fr a)) 2) + (limb (Ob.n (.fr b)) 2))) + c)) == (limb (Ob.n (.fr a)) 2)) = false)]) (hs : Sim w0 F0 K ac (rpS2 a b v0 v1 v2 v3 c) cX aX) (hK : ∀ ac cY aY, Sim w0 F0 K ac (mkSt 45 [2, 3, 4, 5, 6, 7] [(.v (.c (.ptr 16 0))), (.v (.c (.ptr 32 0))), (.v (.c (.ptr 48 0))), (.v (.c (.ptr 80 0))), (.v (.c (.int .u64 (0 : Int)))), (.v (.c (.int .i64 (2 : Int))))] [16, 32, 48, 80] [(some (.fl [(.ob (.fr a))])), (some (.fl [(.ob (.fr b))])), (some (.fl [(.ob (.fr (0 : U4)))])), (some (.fl [(.int .u64 v0), (.int .u64 v1), (.int .u64 (IntKind.wrap .u64 ((IntKind.wrap .u64 ((limb (Ob.n (.fr a)) 2) + (limb (Ob.n (.fr b)) 2))) + c))), (.int .u64 v3)]))] 1920 [] []) cY aY → Wq Try.prog Q (rpA2_k) ac Exit.normal aY cY.w) : Wq Try.prog Q (rpA1_k) ac .normal aX cX.w :=
  run_at2 (o := ⟨_, _, _, _, _, _, _⟩) envH_ok (by kernel_rfl) (rpD2_hk a b v0 v1 v2 v3 c) ho hs hK
noncomputable def rpS3 (a b : U4) (v0 v1 v2 v3 c : Int) : St := mkSt 45 [2, 3, 4, 5, 6, 7] [(SV.v (V1.c (It.ptr 16 0))), (SV.v (V1.c (It.ptr 32 0))), (SV.v (V1.c (It.ptr 48 0))), (SV.v (V1.c (It.ptr 80 0))), .v (.c (.int .u64 c)), (SV.v (V1.c (It.int IntKind.i64 (2 : Int))))] [16, 32, 48, 80] [(Option.some (En.fl [(It.ob (Ob.fr a))])), (Option.some (En.fl [(It.ob (Ob.fr b))])), (Option.some (En.fl [(It.ob (Ob.fr (0 : U4)))])), some (.fl [.int .u64 v0, .int .u64 v1, .int .u64 v2, .int .u64 v3])] 1920 [] []
noncomputable def rpA3_k : List KI := (run envH true 25 ((fun (a b : U4) (v0 v1 v2 v3 c : Int) => (⟨rpA2_k, .normal, rpS3 a b v0 v1 v2 v3 c⟩ : Cfg)) default default default default default default default) [true, true, true]).cfg.k
theorem rpA3_hk (a b : U4) (v0 v1 v2 v3 c : Int) : (run envH true 25 ((⟨rpA2_k, .normal, rpS3 a b v0 v1 v2 v3 c⟩ : Cfg)) [true, true, true]).cfg.k = rpA3_k := by kernel_rfl
theorem rpA3 (a b : U4) (v0 v1 v2 v3 c : Int) {w0 : World} {F0 : Nat → Prop} {K : Kp} {ac : List Act} {Q : Exit → Act → World → Prop} {cX : Ctx} {aX : Act} (ho : AllP [((decide ((3 : Int) < (4 : Int))) = true), ((0 : Int) ≤ (3 : Int)), ((3 : Int) < (4 : Int)), (3 < (Ob.k (.fr a))), ((0 : Int) ≤ (3 : Int)), ((3 : Int) < (4 : Int)), (3 < (Ob.k (.fr b))), ((0 : Int) ≤ (3 : Int)), ((3 : Int) < (4 : Int)), ((0 : Int) ≤ (3 : Int)), ((3 : Int) < (4 : Int)), ((0 : Int) ≤ (3 : Int)), ((3 : Int) < (4 : Int)), (3 < (Ob.k (.fr a))), ((decide ((IntKind.wrap .u64 ((IntKind.wrap .u64 ((limb (Ob.n (.fr a)) 3) + (limb (Ob.n (.fr b)) 3))) + c)) < (limb (Ob.n (.fr a)) 3))) = true)]) (hs : Sim w0 F0 K ac (rpS3 a b v0 v1 v2 v3 c) cX aX) (hK : ∀ ac cY aY, Sim w0 F0 K ac (mkSt 45 [2, 3, 4, 5, 6, 7] [(.v (.c (.ptr 16 0))), (.v (.c (.ptr 32 0))), (.v (.c (.ptr 48 0))), (.v (.c (.ptr 80 0))), (.v (.c (.int .u64 (1 : Int)))), (.v (.c (.int .i64 (3 : Int))))] [16, 32, 48, 80] [(some (.fl [(.ob (.fr a))])), (some (.fl [(.ob (.fr b))])), (some (.fl [(.ob (.fr (0 : U4)))])), (some (.fl [(.int .u64 v0), (.int .u64 v1), (.int .u64 v2), (.int .u64 (IntKind.wrap .u64 ((IntKind.wrap .u64 ((limb (Ob.n (.fr a)) 3) + (limb (Ob.n (.fr b)) 3))) + c)))]))] 2528 [] []) cY aY → Wq Try.prog Q (rpA3_k) ac Exit.normal aY cY.w) : Wq Try.prog Q (rpA2_k) ac .normal aX cX.w :=
  run_at2 (o := ⟨_, _, _, _, _, _, _⟩) envH_ok (by kernel_rfl) (rpA3_hk a b v0 v1 v2 v3 c) ho hs hK
theorem rpB3_hk (a b : U4) (v0 v1 v2 v3 c : Int) : (run envH true 25 ((⟨rpA2_k, .normal, rpS3 a b v0 v1 v2 v3 c⟩ : Cfg)) [true, true, false, true]).cfg.k = rpA3_k := by kernel_rfl
theorem rpB3 (a b : U4) (v0 v1 v2 v3 c : Int) {w0 : World} {F0 : Nat → Prop} {K : Kp} {ac : List Act} {Q : Exit → Act → World → Prop} {cX : Ctx} {aX : Act} (ho : AllP [((decide ((3 : Int) < (4 : Int))) = true), ((0 : Int) ≤ (3 : Int)), ((3 : Int) < (4 : Int)), (3 < (Ob.k (.fr a))), ((0 : Int) ≤ (3 : Int)), ((3 : Int) < (4 : Int)), (3 < (Ob.k (.fr b))), ((0 : Int) ≤ (3 : Int)), ((3 : Int) < (4 : Int)), ((0 : Int) ≤ (3 : Int)), ((3 : Int) < (4 : Int)), ((0 : Int) ≤ (3 : Int)), ((3 : Int) < (4 : Int)), (3 < (Ob.k (.fr a))), ((decide ((IntKind.wrap .u64 ((IntKind.wrap .u64 ((limb (Ob.n (.fr a)) 3) + (limb (Ob.n (.fr b)) 3))) + c)) < (limb (Ob.n (.fr a)) 3))) = false), ((0 : Int) ≤ (3 : Int)), ((3 : Int) < (4 : Int)), ((0 : Int) ≤ (3 : Int)), ((3 : Int) < (4 : Int)), (3 < (Ob.k (.fr a))), (((IntKind.wrap .u64 ((IntKind.wrap .u64 ((limb (Ob.n (.fr a)) 3) + (limb (Ob.n (.fr b)) 3))) + c)) == (limb (Ob.n (.fr a)) 3)) = true), ((c == (1 : Int)) = true)]) (hs : Sim w0 F0 K ac (rpS3 a b v0 v1 v2 v3 c) cX aX) (hK : ∀ ac cY aY, Sim w0 F0 K ac (mkSt 45 [2, 3, 4, 5, 6, 7] [(.v (.c (.ptr 16 0))), (.v (.c (.ptr 32 0))), (.v (.c (.ptr 48 0))), (.v (.c (.ptr 80 0))), (.v (.c (.int .u64 (1 : Int)))), (.v (.c (.int .i64 (3 : Int))))] [16, 32, 48, 80] [(some (.fl [(.ob (.fr a))])), (some (.fl [(.ob (.fr b))])), (some (.fl [(.ob (.fr (0 : U4)))])), (some (.fl [(.int .u64 v0), (.int .u64 v1), (.int .u64 v2), (.int .u64 (IntKind.wrap .u64 ((IntKind.wrap .u64 ((limb (Ob.n (.fr a)) 3) + (limb (Ob.n (.fr b)) 3))) + c)))]))] 2528 [] []) cY aY → Wq Try.prog Q (rpA3_k) ac Exit.normal aY cY.w) : Wq Try.prog Q (rpA2_k) ac .normal aX cX.w :=
  run_at2 (o := ⟨_, _, _, _, _, _, _⟩) envH_ok (by kernel_rfl) (rpB3_hk a b v0 v1 v2 v3 c) ho hs hK
theorem rpC3_hk (a b : U4) (v0 v1 v2 v3 c : Int) : (run envH true 25 ((⟨rpA2_k, .normal, rpS3 a b v0 v1 v2 v3 c⟩ : Cfg)) [true, true, false, false]).cfg.k = rpA3_k := by kernel_rfl
theorem rpC3 (a b : U4) (v0 v1 v2 v3 c : Int) {w0 : World} {F0 : Nat → Prop} {K : Kp} {ac : List Act} {Q : Exit → Act → World → Prop} {cX : Ctx} {aX : Act} (ho : AllP [((decide ((3 : Int) < (4 : Int))) = true), ((0 : Int) ≤ (3 : Int)), ((3 : Int) < (4 : Int)), (3 < (Ob.k (.fr a))), ((0 : Int) ≤ (3 : Int)), ((3 : Int) < (4 : Int)), (3 < (Ob.k (.fr b))), ((0 : Int) ≤ (3 : Int)), ((3 : Int) < (4 : Int)), ((0 : Int) ≤ (3 : Int)), ((3 : Int) < (4 : Int)), ((0 : Int) ≤ (3 : Int)), ((3 : Int) < (4 : Int)), (3 < (Ob.k (.fr a))), ((decide ((IntKind.wrap .u64 ((IntKind.wrap .u64 ((limb (Ob.n (.fr a)) 3) + (limb (Ob.n (.fr b)) 3))) + c)) < (limb (Ob.n (.fr a)) 3))) = false), ((0 : Int) ≤ (3 : Int)), ((3 : Int) < (4 : Int)), ((0 : Int) ≤ (3 : Int)), ((3 : Int) < (4 : Int)), (3 < (Ob.k (.fr a))), (((IntKind.wrap .u64 ((IntKind.wrap .u64 ((limb (Ob.n (.fr a)) 3) + (limb (Ob.n (.fr b)) 3))) + c)) == (limb (Ob.n (.fr a)) 3)) = true), ((c == (1 : Int)) = false)]) (hs : Sim w0 F0 K ac (rpS3 a b v0 v1 v2 v3 c) cX aX) (hK : ∀ ac cY aY, Sim w0 F0 K ac (mkSt 45 [2, 3, 4, 5, 6, 7] [(.v (.c (.ptr 16 0))), (.v (.c (.ptr 32 0))), (.v (.c (.ptr 48 0))), (.v (.c (.ptr 80 0))), (.v (.c (.int .u64 (0 : Int)))), (.v (.c (.int .i64 (3 : Int))))] [16, 32, 48, 80] [(some (.fl [(.ob (.fr a))])), (some (.fl [(.ob (.fr b))])), (some (.fl [(.ob (.fr (0 : U4)))])), (some (.fl [(.int .u64 v0), (.int .u64 v1), (.int .u64 v2), (.int .u64 (IntKind.wrap .u64 ((IntKind.wrap .u64 ((limb (Ob.n (.fr a)) 3) + (limb (Ob.n (.fr b)) 3))) + c)))]))] 2528 [] []) cY aY → Wq Try.prog Q (rpA3_k) ac Exit.normal aY cY.w) : Wq Try.prog Q (rpA2_k) ac .normal aX cX.w :=
  run_at2 (o := ⟨_, _, _, _, _, _, _⟩) envH_ok (by kernel_rfl) (rpC3_hk a b v0 v1 v2 v3 c) ho hs hK
theorem rpD3_hk (a b : U4) (v0 v1 v2 v3 c : Int) : (run envH true 25 ((⟨rpA2_k, .normal, rpS3 a b v0 v1 v2 v3 c⟩ : Cfg)) [true, false, false]).cfg.k = rpA3_k := by kernel_rfl
theorem rpD3 (a b : U4) (v0 v1 v2 v3 c : Int) {w0 : World} {F0 : Nat → Prop} {K : Kp} {ac : List Act} {Q : Exit → Act → World → Prop} {cX : Ctx} {aX : Act} (ho : AllP [((decide ((3 : Int) < (4 : Int))) = true), ((0 : Int) ≤ (3 : Int)), ((3 : Int) < (4 : Int)), (3 < (Ob.k (.fr a))), ((0 : Int) ≤ (3 : Int)), ((3 : Int) < (4 : Int)), (3 < (Ob.k (.fr b))), ((0 : Int) ≤ (3 : Int)), ((3 : Int) < (4 : Int)), ((0 : Int) ≤ (3 : Int)), ((3 : Int) < (4 : Int)), ((0 : Int) ≤ (3 : Int)), ((3 : Int) < (4 : Int)), (3 < (Ob.k (.fr a))), ((decide ((IntKind.wrap .u64 ((IntKind.wrap .u64 ((limb (Ob.n (.fr a)) 3) + (limb (Ob.n (.fr b)) 3))) + c)) < (limb (Ob.n (.fr a)) 3))) = false), ((0 : Int) ≤ (3 : Int)), ((3 : Int) < (4 : Int)), ((0 : Int) ≤ (3 : Int)), ((3 : Int) < (4 : Int)), (3 < (Ob.k (.fr a))), (((IntKind.wrap .u64 ((IntKind.wrap .u64 ((limb (Ob.n (.fr a)) 3) + (limb (Ob.n (.fr b)) 3))) + c)) == (limb (Ob.n (.fr a)) 3)) = false)]) (hs : Sim w0 F0 K ac (rpS3 a b v0 v1 v2 v3 c) cX aX) (hK : ∀ ac cY aY, Sim w0 F0 K ac (mkSt 45 [2, 3, 4, 5, 6, 7] [(.v (.c (.ptr 16 0))), (.v (.c (.ptr 32 0))), (.v (.c (.ptr 48 0))), (.v (.c (.ptr 80 0))), (.v (.c (.int .u64 (0 : Int)))), (.v (.c (.int .i64 (3 : Int))))] [16, 32, 48, 80] [(some (.fl [(.ob (.fr a))])), (some (.fl [(.ob (.fr b))])), (some (.fl [(.ob (.fr (0 : U4)))])), (some (.fl [(.int .u64 v0), (.int .u64 v1), (.int .u64 v2), (.int .u64 (IntKind.wrap .u64 ((IntKind.wrap .u64 ((limb (Ob.n (.fr a)) 3) + (limb (Ob.n (.fr b)) 3))) + c)))]))] 2528 [] []) cY aY → Wq Try.prog Q (rpA3_k) ac Exit.normal aY cY.w) : Wq Try.prog Q (rpA2_k) ac .normal aX cX.w :=
  run_at2 (o := ⟨_, _, _, _, _, _, _⟩) envH_ok (by kernel_rfl) (rpD3_hk a b v0 v1 v2 v3 c) ho hs hK
noncomputable def rpS4 (a b : U4) (v0 v1 v2 v3 c : Int) : St := mkSt 45 [2, 3, 4, 5, 6, 7] [(SV.v (V1.c (It.ptr 16 0))), (SV.v (V1.c (It.ptr 32 0))), (SV.v (V1.c (It.ptr 48 0))), (SV.v (V1.c (It.ptr 80 0))), .v (.c (.int .u64 c)), (SV.v (V1.c (It.int IntKind.i64 (3 : Int))))] [16, 32, 48, 80] [(Option.some (En.fl [(It.ob (Ob.fr a))])), (Option.some (En.fl [(It.ob (Ob.fr b))])), (Option.some (En.fl [(It.ob (Ob.fr (0 : U4)))])), some (.fl [.int .u64 v0, .int .u64 v1, .int .u64 v2, .int .u64 v3])] 2528 [] []
theorem rpX_end (a b : U4) (v0 v1 v2 v3 c : Int) : runEnd envH Try.f105 true 3000 (⟨rpA3_k, .normal, rpS4 a b v0 v1 v2 v3 c⟩) [false] [] [] = (Option.some ([((decide ((4 : Int) < (4 : Int))) = false)], ((SV.v (V1.a [(It.int IntKind.u64 v0), (It.int IntKind.u64 v1), (It.int IntKind.u64 v2), (It.int IntKind.u64 v3)])), []))) := by kernel_rfl
end Go.Proofs.Ytlfllehomhcbfaa

/- The reference's plus: contract. No conditions. -/
namespace Go.Proofs.Ytlfllehomhcbfaa

theorem add_u4 {a b : U4} {N c : Int} (hN : 0 ≤ N ∧ N < 115792089237316195423570985008687907853269984665640564039457584007913129639936) (_hc : c = 0 ∨ c = 1)
    (h : N + 115792089237316195423570985008687907853269984665640564039457584007913129639936 * c = (a.val : Int) + (b.val : Int)) : ((a + b : U4).val : Int) = N := by
  have ha := a.isLt
  have hb := b.isLt
  have e : (a + b : U4).val = (a.val + b.val) % B4 := rfl
  rw [e]
  unfold B4 at *
  obtain ⟨_, _⟩ := hN
  omega

theorem carry_step {a b c : Int} (ha : Lim a) (hb : Lim b) (hc : c = 0 ∨ c = 1) : ∃ c' : Int, (c' = 0 ∨ c' = 1) ∧ (IntKind.wrap IntKind.u64 (IntKind.wrap IntKind.u64 (a + b) + c) < a → c' = 1) ∧ (¬ IntKind.wrap IntKind.u64 (IntKind.wrap IntKind.u64 (a + b) + c) < a → IntKind.wrap IntKind.u64 (IntKind.wrap IntKind.u64 (a + b) + c) = a → c = 1 → c' = 1) ∧
    (¬ IntKind.wrap IntKind.u64 (IntKind.wrap IntKind.u64 (a + b) + c) < a → IntKind.wrap IntKind.u64 (IntKind.wrap IntKind.u64 (a + b) + c) = a → ¬ c = 1 → c' = 0) ∧ (¬ IntKind.wrap IntKind.u64 (IntKind.wrap IntKind.u64 (a + b) + c) < a → ¬ IntKind.wrap IntKind.u64 (IntKind.wrap IntKind.u64 (a + b) + c) = a → c' = 0) ∧
    IntKind.wrap IntKind.u64 (IntKind.wrap IntKind.u64 (a + b) + c) + 18446744073709551616 * c' = a + b + c := by
  obtain ⟨_, _⟩ := ha
  obtain ⟨_, _⟩ := hb
  rw [wrapU, wrapU]
  refine ⟨if 18446744073709551616 ≤ a + b + c then 1 else 0, ?_, ?_, ?_, ?_, ?_, ?_⟩
  · split <;> omega
  · intro h; rw [if_pos (by omega)]
  · intro h1 h2 h3; rw [if_pos (by omega)]
  · intro h1 h2 h3; rw [if_neg (by omega)]
  · intro h1 h2; rw [if_neg (by omega)]
  · split <;> omega

section
variable {w0 : World} {F0 : Nat → Prop} {K : Kp} {ac : List Act} {Q : Exit → Act → World → Prop} {cX : Ctx} {aX : Act}

theorem rpT0 (a b : U4) (hs : Sim w0 F0 K ac (rp0 a b : Cfg).σ cX aX)
    (k : ∀ c' : Int, (c' = 0 ∨ c' = 1) → (IntKind.wrap IntKind.u64 (IntKind.wrap IntKind.u64 ((limb (Ob.n (Ob.fr a)) 0) + (limb (Ob.n (Ob.fr b)) 0)) + 0)) + 18446744073709551616 * c' = (limb (Ob.n (Ob.fr a)) 0) + (limb (Ob.n (Ob.fr b)) 0) + 0 → ∀ ac cY aY, Sim w0 F0 K ac (rpS1 a b (IntKind.wrap IntKind.u64 (IntKind.wrap IntKind.u64 ((limb (Ob.n (Ob.fr a)) 0) + (limb (Ob.n (Ob.fr b)) 0)) + 0)) 0 0 0 c') cY aY → Wq Try.prog Q rpA0_k ac .normal aY cY.w) : Wq Try.prog Q (rp0 a b : Cfg).k ac (rp0 a b : Cfg).x aX cX.w := by
  have hA : Lim (limb (Ob.n (Ob.fr a)) 0) := by obtain ⟨h0, h1, h2, h3, _⟩ := fr_lims a; assumption
  have hB : Lim (limb (Ob.n (Ob.fr b)) 0) := by obtain ⟨h0, h1, h2, h3, _⟩ := fr_lims b; assumption
  obtain ⟨c', h1, hA1, hB1, hC1, hD1, e⟩ := carry_step (c := 0) hA hB (.inl rfl)
  have sA := @rpA0 a b w0 F0 K ac Q cX aX
  have sB := @rpB0 a b w0 F0 K ac Q cX aX
  have sC := @rpC0 a b w0 F0 K ac Q cX aX
  have sD := @rpD0 a b w0 F0 K ac Q cX aX
  replace k := k c' h1 e
  clear e hA hB
  generalize (IntKind.wrap IntKind.u64 (IntKind.wrap IntKind.u64 ((limb (Ob.n (Ob.fr a)) 0) + (limb (Ob.n (Ob.fr b)) 0)) + 0)) = x at *
  generalize (limb (Ob.n (Ob.fr a)) 0) = y at *
  by_cases l1 : x < y
  · rw [hA1 l1] at k
    exact sA (by simp [AllP, Ob.k, l1]) hs k
  · by_cases l2 : x = y
    · by_cases l3 : (0 : Int) = 1
      · rw [hB1 l1 l2 l3] at k
        exact sB (by simp [AllP, Ob.k, l2, l3]) hs k
      · rw [hC1 l1 l2 l3] at k
        exact sC (by simp [AllP, Ob.k, l2]) hs k
    · rw [hD1 l1 l2] at k
      exact sD (by simp [AllP, Ob.k, l1, l2]) hs k

theorem rpT1 (a b : U4) (v0 v1 v2 v3 c : Int) (hc : c = 0 ∨ c = 1) (hs : Sim w0 F0 K ac (rpS1 a b v0 v1 v2 v3 c) cX aX)
    (k : ∀ c' : Int, (c' = 0 ∨ c' = 1) → (IntKind.wrap IntKind.u64 (IntKind.wrap IntKind.u64 ((limb (Ob.n (Ob.fr a)) 1) + (limb (Ob.n (Ob.fr b)) 1)) + c)) + 18446744073709551616 * c' = (limb (Ob.n (Ob.fr a)) 1) + (limb (Ob.n (Ob.fr b)) 1) + c → ∀ ac cY aY, Sim w0 F0 K ac (rpS2 a b v0 (IntKind.wrap IntKind.u64 (IntKind.wrap IntKind.u64 ((limb (Ob.n (Ob.fr a)) 1) + (limb (Ob.n (Ob.fr b)) 1)) + c)) v2 v3 c') cY aY → Wq Try.prog Q rpA1_k ac .normal aY cY.w) : Wq Try.prog Q rpA0_k ac .normal aX cX.w := by
  have hA : Lim (limb (Ob.n (Ob.fr a)) 1) := by obtain ⟨h0, h1, h2, h3, _⟩ := fr_lims a; assumption
  have hB : Lim (limb (Ob.n (Ob.fr b)) 1) := by obtain ⟨h0, h1, h2, h3, _⟩ := fr_lims b; assumption
  obtain ⟨c', h1, hA1, hB1, hC1, hD1, e⟩ := carry_step (c := c) hA hB hc
  have sA := @rpA1 a b v0 v1 v2 v3 c w0 F0 K ac Q cX aX
  have sB := @rpB1 a b v0 v1 v2 v3 c w0 F0 K ac Q cX aX
  have sC := @rpC1 a b v0 v1 v2 v3 c w0 F0 K ac Q cX aX
  have sD := @rpD1 a b v0 v1 v2 v3 c w0 F0 K ac Q cX aX
  replace k := k c' h1 e
  clear e hA hB
  generalize (IntKind.wrap IntKind.u64 (IntKind.wrap IntKind.u64 ((limb (Ob.n (Ob.fr a)) 1) + (limb (Ob.n (Ob.fr b)) 1)) + c)) = x at *
  generalize (limb (Ob.n (Ob.fr a)) 1) = y at *
  by_cases l1 : x < y
  · rw [hA1 l1] at k
    exact sA (by simp [AllP, Ob.k, l1]) hs k
  · by_cases l2 : x = y
    · by_cases l3 : (c : Int) = 1
      · rw [hB1 l1 l2 l3] at k
        exact sB (by simp [AllP, Ob.k, l2, l3]) hs k
      · rw [hC1 l1 l2 l3] at k
        exact sC (by simp [AllP, Ob.k, l2, l3]) hs k
    · rw [hD1 l1 l2] at k
      exact sD (by simp [AllP, Ob.k, l1, l2]) hs k

theorem rpT2 (a b : U4) (v0 v1 v2 v3 c : Int) (hc : c = 0 ∨ c = 1) (hs : Sim w0 F0 K ac (rpS2 a b v0 v1 v2 v3 c) cX aX)
    (k : ∀ c' : Int, (c' = 0 ∨ c' = 1) → (IntKind.wrap IntKind.u64 (IntKind.wrap IntKind.u64 ((limb (Ob.n (Ob.fr a)) 2) + (limb (Ob.n (Ob.fr b)) 2)) + c)) + 18446744073709551616 * c' = (limb (Ob.n (Ob.fr a)) 2) + (limb (Ob.n (Ob.fr b)) 2) + c → ∀ ac cY aY, Sim w0 F0 K ac (rpS3 a b v0 v1 (IntKind.wrap IntKind.u64 (IntKind.wrap IntKind.u64 ((limb (Ob.n (Ob.fr a)) 2) + (limb (Ob.n (Ob.fr b)) 2)) + c)) v3 c') cY aY → Wq Try.prog Q rpA2_k ac .normal aY cY.w) : Wq Try.prog Q rpA1_k ac .normal aX cX.w := by
  have hA : Lim (limb (Ob.n (Ob.fr a)) 2) := by obtain ⟨h0, h1, h2, h3, _⟩ := fr_lims a; assumption
  have hB : Lim (limb (Ob.n (Ob.fr b)) 2) := by obtain ⟨h0, h1, h2, h3, _⟩ := fr_lims b; assumption
  obtain ⟨c', h1, hA1, hB1, hC1, hD1, e⟩ := carry_step (c := c) hA hB hc
  have sA := @rpA2 a b v0 v1 v2 v3 c w0 F0 K ac Q cX aX
  have sB := @rpB2 a b v0 v1 v2 v3 c w0 F0 K ac Q cX aX
  have sC := @rpC2 a b v0 v1 v2 v3 c w0 F0 K ac Q cX aX
  have sD := @rpD2 a b v0 v1 v2 v3 c w0 F0 K ac Q cX aX
  replace k := k c' h1 e
  clear e hA hB
  generalize (IntKind.wrap IntKind.u64 (IntKind.wrap IntKind.u64 ((limb (Ob.n (Ob.fr a)) 2) + (limb (Ob.n (Ob.fr b)) 2)) + c)) = x at *
  generalize (limb (Ob.n (Ob.fr a)) 2) = y at *
  by_cases l1 : x < y
  · rw [hA1 l1] at k
    exact sA (by simp [AllP, Ob.k, l1]) hs k
  · by_cases l2 : x = y
    · by_cases l3 : (c : Int) = 1
      · rw [hB1 l1 l2 l3] at k
        exact sB (by simp [AllP, Ob.k, l2, l3]) hs k
      · rw [hC1 l1 l2 l3] at k
        exact sC (by simp [AllP, Ob.k, l2, l3]) hs k
    · rw [hD1 l1 l2] at k
      exact sD (by simp [AllP, Ob.k, l1, l2]) hs k

theorem rpT3 (a b : U4) (v0 v1 v2 v3 c : Int) (hc : c = 0 ∨ c = 1) (hs : Sim w0 F0 K ac (rpS3 a b v0 v1 v2 v3 c) cX aX)
    (k : ∀ c' : Int, (c' = 0 ∨ c' = 1) → (IntKind.wrap IntKind.u64 (IntKind.wrap IntKind.u64 ((limb (Ob.n (Ob.fr a)) 3) + (limb (Ob.n (Ob.fr b)) 3)) + c)) + 18446744073709551616 * c' = (limb (Ob.n (Ob.fr a)) 3) + (limb (Ob.n (Ob.fr b)) 3) + c → ∀ ac cY aY, Sim w0 F0 K ac (rpS4 a b v0 v1 v2 (IntKind.wrap IntKind.u64 (IntKind.wrap IntKind.u64 ((limb (Ob.n (Ob.fr a)) 3) + (limb (Ob.n (Ob.fr b)) 3)) + c)) c') cY aY → Wq Try.prog Q rpA3_k ac .normal aY cY.w) : Wq Try.prog Q rpA2_k ac .normal aX cX.w := by
  have hA : Lim (limb (Ob.n (Ob.fr a)) 3) := by obtain ⟨h0, h1, h2, h3, _⟩ := fr_lims a; assumption
  have hB : Lim (limb (Ob.n (Ob.fr b)) 3) := by obtain ⟨h0, h1, h2, h3, _⟩ := fr_lims b; assumption
  obtain ⟨c', h1, hA1, hB1, hC1, hD1, e⟩ := carry_step (c := c) hA hB hc
  have sA := @rpA3 a b v0 v1 v2 v3 c w0 F0 K ac Q cX aX
  have sB := @rpB3 a b v0 v1 v2 v3 c w0 F0 K ac Q cX aX
  have sC := @rpC3 a b v0 v1 v2 v3 c w0 F0 K ac Q cX aX
  have sD := @rpD3 a b v0 v1 v2 v3 c w0 F0 K ac Q cX aX
  replace k := k c' h1 e
  clear e hA hB
  generalize (IntKind.wrap IntKind.u64 (IntKind.wrap IntKind.u64 ((limb (Ob.n (Ob.fr a)) 3) + (limb (Ob.n (Ob.fr b)) 3)) + c)) = x at *
  generalize (limb (Ob.n (Ob.fr a)) 3) = y at *
  by_cases l1 : x < y
  · rw [hA1 l1] at k
    exact sA (by simp [AllP, Ob.k, l1]) hs k
  · by_cases l2 : x = y
    · by_cases l3 : (c : Int) = 1
      · rw [hB1 l1 l2 l3] at k
        exact sB (by simp [AllP, Ob.k, l2, l3]) hs k
      · rw [hC1 l1 l2 l3] at k
        exact sC (by simp [AllP, Ob.k, l2, l3]) hs k
    · rw [hD1 l1 l2] at k
      exact sD (by simp [AllP, Ob.k, l1, l2]) hs k

end

theorem plus105_fnd (a b : U4) : FnD Try.prog 105 [.v (.a [.ob (.fr a)]), .v (.a [.ob (.fr b)])] (.v (.a [.ob (.fr (a + b))])) [] := by
  refine fn_start (fn := Try.f105) (c := bodyOf Try.f105) Try.func105 rfl rfl fun x a0 hk hF hs => ?_
  obtain ⟨g0, g1, g2, g3, ha⟩ := fr_lims a
  obtain ⟨h0, h1, h2, h3, hb⟩ := fr_lims b
  refine rpT0 a b hs fun c0 hc0 e0 ac cY aY hs => ?_
  refine rpT1 a b _ _ _ _ c0 hc0 hs fun c1 hc1 e1 ac cY aY hs => ?_
  refine rpT2 a b _ _ _ _ c1 hc1 hs fun c2 hc2 e2 ac cY aY hs => ?_
  refine rpT3 a b _ _ _ _ c2 hc2 hs fun c3 hc3 e3 ac cY aY hs => ?_
  refine run_end2 envH_ok hk hF (rpX_end a b _ _ _ _ c3) (by simp [AllP]) (fun y v hd => ?_) hs
  have l0 : Lim (IntKind.wrap IntKind.u64 (IntKind.wrap IntKind.u64 (limb (Ob.n (Ob.fr a)) 0 + limb (Ob.n (Ob.fr b)) 0) + 0)) := wrap_lim _
  have l1 : Lim (IntKind.wrap IntKind.u64 (IntKind.wrap IntKind.u64 (limb (Ob.n (Ob.fr a)) 1 + limb (Ob.n (Ob.fr b)) 1) + c0)) := wrap_lim _
  have l2 : Lim (IntKind.wrap IntKind.u64 (IntKind.wrap IntKind.u64 (limb (Ob.n (Ob.fr a)) 2 + limb (Ob.n (Ob.fr b)) 2) + c1)) := wrap_lim _
  have l3 : Lim (IntKind.wrap IntKind.u64 (IntKind.wrap IntKind.u64 (limb (Ob.n (Ob.fr a)) 3 + limb (Ob.n (Ob.fr b)) 3) + c2)) := wrap_lim _
  generalize IntKind.wrap IntKind.u64 (IntKind.wrap IntKind.u64 (limb (Ob.n (Ob.fr a)) 0 + limb (Ob.n (Ob.fr b)) 0) + 0) = u0 at *
  generalize IntKind.wrap IntKind.u64 (IntKind.wrap IntKind.u64 (limb (Ob.n (Ob.fr a)) 1 + limb (Ob.n (Ob.fr b)) 1) + c0) = u1 at *
  generalize IntKind.wrap IntKind.u64 (IntKind.wrap IntKind.u64 (limb (Ob.n (Ob.fr a)) 2 + limb (Ob.n (Ob.fr b)) 2) + c1) = u2 at *
  generalize IntKind.wrap IntKind.u64 (IntKind.wrap IntKind.u64 (limb (Ob.n (Ob.fr a)) 3 + limb (Ob.n (Ob.fr b)) 3) + c2) = u3 at *
  refine ints_ob (o := .fr (a + b)) (Eq.refl 4) (limbsAre4 l0.1 l0.2 l1.1 l1.2 l2.1 l2.2 l3.1 l3.2 ?_) hd
  show ((a + b : U4).val : Int) = num4 u0 u1 u2 u3
  have hN : num4 u0 u1 u2 u3 + 115792089237316195423570985008687907853269984665640564039457584007913129639936 * c3 = num4 (limb (Ob.n (Ob.fr a)) 0) (limb (Ob.n (Ob.fr a)) 1) (limb (Ob.n (Ob.fr a)) 2) (limb (Ob.n (Ob.fr a)) 3) + num4 (limb (Ob.n (Ob.fr b)) 0) (limb (Ob.n (Ob.fr b)) 1) (limb (Ob.n (Ob.fr b)) 2) (limb (Ob.n (Ob.fr b)) 3) := by
    clear ha hb hd hs hk hF l0 l1 l2 l3 g0 g1 g2 g3 h0 h1 h2 h3
    unfold num4
    omega
  rw [← ha, ← hb] at hN
  exact add_u4 (num4_lt l0 l1 l2 l3) hc3 hN

end Go.Proofs.Ytlfllehomhcbfaa

/- The reference's Clean, walked. No conditions. -/
namespace Go.Proofs.Ytlfllehomhcbfaa

def lessSpec : FnSpec
  | [.v (.a [.ob (.fr a)]), .v (.a [.ob (.fr b)])] => some ([], .v (.c (.bool (decide (a.val < b.val)))), [])
  | _ => none
def minusUSpec : FnSpec
  | [.v (.a [.ob (.fr a)]), .v (.a [.ob (.fr b)])] => some ([], .v (.a [.ob (.fr (a - b))]), [])
  | _ => none
def plusUSpec : FnSpec
  | [.v (.a [.ob (.fr a)]), .v (.a [.ob (.fr b)])] => some ([], .v (.a [.ob (.fr (a + b))]), [])
  | _ => none

noncomputable def envI1 : Env := envH.set (addT envH.fn 37 coreRSpec)
theorem envI1_ok : EnvOk Try.prog envI1 := env_add envH_ok 37 coreRSpec (enters_of Try.func37 rfl rfl) fun args o r es h _ => by
  unfold coreRSpec at h
  split at h
  · cases h
    refine (fn_sound envH_ok Try.func37 refR ⟨by decide, by decide, by decide, by decide, by decide, by decide, by decide, by decide, trivial⟩).conv (fun _ _ h => h) fun y v hd => ?_
    have e : rU = Fin.ofNat B4 52435875175126190479447740508185965837690552500527637822603658699938581184513 := by kernel_rfl
    rw [e]
    exact hd
  · cases h
noncomputable def envI2 : Env := envI1.set (addT envI1.fn 36 lessSpec)
theorem envI2_ok : EnvOk Try.prog envI2 := env_add envI1_ok 36 lessSpec (enters_of Try.func36 rfl rfl) fun args o r es h _ => by
  unfold lessSpec at h
  split at h
  · cases h; exact less_fnd _ _
  · cases h
noncomputable def envI3 : Env := envI2.set (addT envI2.fn 79 minusUSpec)
theorem envI3_ok : EnvOk Try.prog envI3 := env_add envI2_ok 79 minusUSpec (enters_of Try.func79 rfl rfl) fun args o r es h _ => by
  unfold minusUSpec at h
  split at h
  · cases h; exact minus79_fnd _ _
  · cases h
noncomputable def envI : Env := envI3.set (addT envI3.fn 105 plusUSpec)
theorem envI_ok : EnvOk Try.prog envI := env_add envI3_ok 105 plusUSpec (enters_of Try.func105 rfl rfl) fun args o r es h _ => by
  unfold plusUSpec at h
  split at h
  · cases h; exact plus105_fnd _ _
  · cases h

noncomputable def cl0 (a : U4) : Cfg := ⟨[.code (bodyOf Try.f32)], .normal, initSt Try.f32.ntmps [.v (.a [.ob (.fr a)])]⟩
--@env envI envI_ok
noncomputable def clIn_k : List KI := (run envI false 3000 ((fun (a : U4) => (cl0 a : Cfg)) default) []).cfg.k
theorem clIn_at (a : U4) : runAt envI false 3000 ((cl0 a : Cfg)) [] [1, 2] [16, 32] [] = some ⟨[], Exit.normal, [(SV.v (V1.c (It.ptr 16 0))), (SV.v (V1.c (It.ptr 32 0)))], [(Option.some (En.fl [(It.ob (Ob.fr a))])), (Option.some (En.fl [(It.ob (Ob.fr (0 : U4)))]))], 11, 48, []⟩ := by kernel_rfl
theorem clIn_hk (a : U4) : (run envI false 3000 ((cl0 a : Cfg)) []).cfg.k = clIn_k := by kernel_rfl
theorem clIn (a : U4) {w0 : World} {F0 : Nat → Prop} {K : Kp} {ac : List Act} {Q : Exit → Act → World → Prop} {cX : Ctx} {aX : Act} (ho : AllP []) (hs : Sim w0 F0 K ac (((cl0 a : Cfg)).σ) cX aX) (hK : ∀ ac cY aY, Sim w0 F0 K ac (mkSt 11 [1, 2] [(.v (.c (.ptr 16 0))), (.v (.c (.ptr 32 0)))] [16, 32] [(some (.fl [(.ob (.fr a))])), (some (.fl [(.ob (.fr (0 : U4)))]))] 48 [] []) cY aY → Wq Try.prog Q (clIn_k) ac Exit.normal aY cY.w) : Wq Try.prog Q (((cl0 a : Cfg)).k) ac ((cl0 a : Cfg)).x aX cX.w :=
  run_at envI_ok (clIn_at a) (clIn_hk a) ho hs hK
noncomputable def clS (a : U4) : St := mkSt 11 [1, 2] [(SV.v (V1.c (It.ptr 16 0))), (SV.v (V1.c (It.ptr 32 0)))] [16, 32] [(Option.some (En.fl [(It.ob (Ob.fr a))])), (Option.some (En.fl [(It.ob (Ob.fr (0 : U4)))]))] 48 [] []
theorem clN_hk (a : U4) : (run envI false 3000 ((⟨lpIn clIn_k, .normal, clS a⟩ : Cfg)) [true]).cfg.k = lpBk clIn_k := by kernel_rfl
theorem clN (a : U4) {w0 : World} {F0 : Nat → Prop} {K : Kp} {ac : List Act} {Q : Exit → Act → World → Prop} {cX : Ctx} {aX : Act} (ho : AllP [((Bool.not (decide ((Fin.val a) < 52435875175126190479447740508185965837690552500527637822603658699938581184513))) = true)]) (hs : Sim w0 F0 K ac (clS a) cX aX) (hK : ∀ ac cY aY, Sim w0 F0 K ac (mkSt 11 [1, 2] [(.v (.c (.ptr 16 0))), (.v (.c (.ptr 32 0)))] [16, 32] [(some (.fl [(.ob (.fr (a - rU)))])), (some (.fl [(.ob (.fr (0 : U4)))]))] 176 [] []) cY aY → Wq Try.prog Q (lpBk clIn_k) ac Exit.normal aY cY.w) : Wq Try.prog Q (lpIn clIn_k) ac .normal aX cX.w :=
  run_at2 (o := ⟨_, _, _, _, _, _, _⟩) envI_ok (by kernel_rfl) (clN_hk a) ho hs hK
theorem clX_end (a : U4) : runEnd envI Try.f32 false 3000 (⟨lpIn clIn_k, .normal, clS a⟩) [false] [] [] = (Option.some ([((Bool.not (decide ((Fin.val a) < 52435875175126190479447740508185965837690552500527637822603658699938581184513))) = false)], ((SV.v (V1.a [(It.ob (Ob.fr a))])), []))) := by kernel_rfl
end Go.Proofs.Ytlfllehomhcbfaa

/- The reference's Clean: a number, taken modulo r. No conditions. -/
namespace Go.Proofs.Ytlfllehomhcbfaa

def cleanU (a : U4) : U4 := Fin.ofNat B4 (a.val % rN)
theorem cleanU_val (a : U4) : (cleanU a).val = a.val % rN := Nat.mod_eq_of_lt (Nat.lt_trans (Nat.mod_lt _ (by decide)) (by decide))

theorem rU_val : rU.val = rN := by kernel_rfl

theorem sub_rU {a : U4} (h : rN ≤ a.val) : (a - rU).val = a.val - rN := by
  have e : (a - rU).val = (B4 - rU.val + a.val) % B4 := rfl
  rw [e, rU_val]
  have ha := a.isLt
  have hr : rN < B4 := by decide
  rw [show B4 - rN + a.val = (a.val - rN) + B4 from by omega, Nat.add_mod_right, Nat.mod_eq_of_lt (by omega)]

theorem clean_fnd (a : U4) : FnD Try.prog 32 [.v (.a [.ob (.fr a)])] (.v (.a [.ob (.fr (cleanU a))])) [] := by
  refine fn_start (fn := Try.f32) (c := bodyOf Try.f32) Try.func32 rfl rfl fun x a0 hk hF hs => ?_
  refine clIn a trivial hs fun ac cY aY hs1 => ?_
  refine loop_rule (ι := { b : U4 // cleanU b = cleanU a }) (fun b => clS b.1) (fun b => b.1.val) (c := lpC clIn_k) (k := lpR clIn_k) (by kernel_rfl) (fun b ih ac cY aY hs => ?_) ⟨a, rfl⟩ hs1
  obtain ⟨b, hb⟩ := b
  simp only at ih hs
  by_cases h : b.val < rU.val
  · have h2 : b.val < rN := by rw [← rU_val]; exact h
    unfold rN at h2
    refine run_end2 envI_ok hk hF (clX_end b) ⟨by simp [h2], trivial⟩ (fun y v hd => ?_) hs
    refine ob_ob (o := .fr b) (o' := .fr (cleanU a)) (Eq.refl 4) ?_ hd
    show b.val = (cleanU a).val
    rw [← hb, cleanU_val]
    rw [rU_val] at h
    exact (Nat.mod_eq_of_lt h).symm
  · have h' : rN ≤ b.val := by rw [rU_val] at h; omega
    have h2 := h'
    unfold rN at h2
    refine clN b ⟨by simp [h2], trivial⟩ hs fun ac cY aY hs2 => ?_
    refine ih ⟨b - rU, ?_⟩ ?_ ac cY aY (hs2.nx _)
    · rw [← hb]
      apply Fin.ext
      rw [cleanU_val, cleanU_val, sub_rU h', ← Nat.mod_eq_sub_mod h']
    · show (b - rU).val < b.val
      rw [sub_rU h']
      have : 0 < rN := by decide
      omega

end Go.Proofs.Ytlfllehomhcbfaa

/- The reference's Add, Neg, Bit, walked. No conditions. -/
namespace Go.Proofs.Ytlfllehomhcbfaa

def cleanSpec : FnSpec
  | [.v (.a [.ob (.fr a)])] => some ([], .v (.a [.ob (.fr (cleanU a))]), [])
  | _ => none
noncomputable def envJ : Env := envI.set (addT envI.fn 32 cleanSpec)
theorem envJ_ok : EnvOk Try.prog envJ := env_add envI_ok 32 cleanSpec (enters_of Try.func32 rfl rfl) fun args o r es h _ => by
  unfold cleanSpec at h
  split at h
  · cases h; exact clean_fnd _
  · cases h

--@env envJ envJ_ok
theorem addR (a b : U4) : fnRes envJ Try.f77 3000 [.v (.a [.ob (.fr a)]), .v (.a [.ob (.fr b)])] [] [] [] = (Option.some ([], ((SV.v (V1.a [(It.ob (Ob.fr (cleanU (a + b))))])), []))) := by kernel_rfl
theorem negA (a : U4) : fnRes envJ Try.f78 3000 [.v (.a [.ob (.fr a)])] [true] [] [] = (Option.some ([((ite (true = true) (decide (a = (0 : U4))) (Bool.not (decide (a = (0 : U4))))) = true)], ((SV.v (V1.a [(It.ob (Ob.fr a))])), []))) := by kernel_rfl
theorem negB (a : U4) : fnRes envJ Try.f78 3000 [.v (.a [.ob (.fr a)])] [false] [] [] = (Option.some ([((ite (true = true) (decide (a = (0 : U4))) (Bool.not (decide (a = (0 : U4))))) = false)], ((SV.v (V1.a [(It.ob (Ob.fr (rU - a)))])), []))) := by kernel_rfl
theorem bitR (a : U4) (i : Int) : fnRes envJ Try.f104 3000 [.v (.a [.ob (.fr a)]), .v (.c (.int .i64 i))] [] [] [] = (Option.some ([((64 : Int) ≠ (0 : Int)), ((0 : Int) ≤ (IntKind.wrap IntKind.i64 (Int.tdiv i (64 : Int)))), ((IntKind.wrap IntKind.i64 (Int.tdiv i (64 : Int))) < (4 : Int)), ((0 + (((IntKind.wrap IntKind.i64 (Int.tdiv i (64 : Int)))).toNat * 1)) < (Ob.k (Ob.fr a))), ((64 : Int) ≠ (0 : Int)), ((0 : Int) ≤ (IntKind.wrap IntKind.u64 (Int.tmod i (64 : Int)))), ((2 : Int) ≠ (0 : Int))], ((SV.v (V1.c (It.int IntKind.u64 (Int.tmod (Int.fdiv (limb (Ob.n (Ob.fr a)) (0 + (((IntKind.wrap IntKind.i64 (Int.tdiv i (64 : Int)))).toNat * 1))) ((2 : Int) ^ (Min.min ((IntKind.wrap IntKind.u64 (Int.tmod i (64 : Int)))).toNat 64))) (2 : Int))))), []))) := by kernel_rfl
end Go.Proofs.Ytlfllehomhcbfaa

/- The reference's Add, Neg, Bit: contracts. No conditions. -/
namespace Go.Proofs.Ytlfllehomhcbfaa

theorem bit_nat (n i : Nat) : n / 2 ^ (64 * (i / 64)) % 18446744073709551616 / 2 ^ (i % 64) % 2 = n / 2 ^ i % 2 := by
  have h64 : 18446744073709551616 = 2 ^ (i % 64) * (2 * 2 ^ (63 - i % 64)) := by
    rw [← Nat.pow_succ', ← Nat.pow_add, show i % 64 + (63 - i % 64 + 1) = 64 from by omega]
  rw [h64, Nat.mod_mul_right_div_self, Nat.mod_mul_right_mod, Nat.div_div_eq_div_mul, ← Nat.pow_add, show 64 * (i / 64) + i % 64 = i from Nat.div_add_mod i 64]

def bitV (a : U4) (i : Nat) : Int := ((a.val / 2 ^ i % 2 : Nat) : Int)

theorem bit_fnd (a : U4) (i : Nat) (hi : i < 256) : FnD Try.prog 104 [.v (.a [.ob (.fr a)]), .v (.c (.int .i64 (i : Int)))] (.v (.c (.int .u64 (bitV a i)))) [] := by
  have e1 : IntKind.wrap IntKind.i64 (Int.tdiv (i : Int) 64) = ((i / 64 : Nat) : Int) := by
    rw [show Int.tdiv (i : Int) 64 = ((i / 64 : Nat) : Int) from by rw [Int.tdiv_eq_ediv_of_nonneg (by omega)]; omega]
    exact wrap_id (by omega) (by omega)
  have e2 : IntKind.wrap IntKind.u64 (Int.tmod (i : Int) 64) = ((i % 64 : Nat) : Int) := by
    rw [show Int.tmod (i : Int) 64 = ((i % 64 : Nat) : Int) from by rw [Int.tmod_eq_emod_of_nonneg (by omega)]; omega, wrapU]
    omega
  have r := bitR a (i : Int)
  rw [e1, e2, Int.toNat_natCast, Int.toNat_natCast] at r
  refine (fn_sound envJ_ok Try.func104 r ?_).conv (fun _ _ h => h) fun y v hd => ?_
  · refine ⟨by decide, by omega, by omega, by show 0 + i / 64 * 1 < 4; omega, by decide, by omega, by decide, trivial⟩
  · have e3 : Min.min (i % 64) 64 = i % 64 := by omega
    have e4 : 0 + i / 64 * 1 = i / 64 := by omega
    rw [e3, e4] at hd
    have hl : limb (Ob.n (Ob.fr a)) (i / 64) = ((a.val / 2 ^ (64 * (i / 64)) % 18446744073709551616 : Nat) : Int) := rfl
    rw [hl] at hd
    have e5 : Int.tmod (Int.fdiv ((a.val / 2 ^ (64 * (i / 64)) % 18446744073709551616 : Nat) : Int) ((2 : Int) ^ (i % 64))) 2 = bitV a i := by
      unfold bitV
      rw [← bit_nat a.val i]
      generalize a.val / 2 ^ (64 * (i / 64)) % 18446744073709551616 = m
      have hp : ((2 : Int) ^ (i % 64)) = ((2 ^ (i % 64) : Nat) : Int) := by simp
      rw [hp, Int.fdiv_eq_ediv_of_nonneg _ (Int.natCast_nonneg _), ← Int.natCast_ediv, Int.tmod_eq_emod_of_nonneg (Int.natCast_nonneg _)]
      rfl
    rw [e5] at hd
    exact hd

end Go.Proofs.Ytlfllehomhcbfaa

/- The reference's Mul, walked. No conditions. -/
namespace Go.Proofs.Ytlfllehomhcbfaa

def addUSpec : FnSpec
  | [.v (.a [.ob (.fr a)]), .v (.a [.ob (.fr b)])] => some ([], .v (.a [.ob (.fr (cleanU (a + b)))]), [])
  | _ => none
def bitSpec : FnSpec
  | [.v (.a [.ob (.fr a)]), .v (.c (.int .i64 i))] => some ([0 ≤ i, i < 256], .v (.c (.int .u64 (bitV a i.toNat))), [])
  | _ => none
noncomputable def envK1 : Env := envJ.set (addT envJ.fn 77 addUSpec)
theorem envK1_ok : EnvOk Try.prog envK1 := env_add envJ_ok 77 addUSpec (enters_of Try.func77 rfl rfl) fun args o r es h _ => by
  unfold addUSpec at h
  split at h
  · cases h; exact fn_sound envJ_ok Try.func77 (addR _ _) trivial
  · cases h
noncomputable def envK : Env := envK1.set (addT envK1.fn 104 bitSpec)
theorem envK_ok : EnvOk Try.prog envK := env_add envK1_ok 104 bitSpec (enters_of Try.func104 rfl rfl) fun args o r es h ho => by
  unfold bitSpec at h
  split at h
  · cases h
    obtain ⟨h1, h2, _⟩ := ho
    obtain ⟨i, rfl⟩ := Int.eq_ofNat_of_zero_le h1
    exact bit_fnd _ i (by omega)
  · cases h

noncomputable def mu0 (a b : U4) : Cfg := ⟨[.code (bodyOf Try.f72)], .normal, initSt Try.f72.ntmps [.v (.a [.ob (.fr a)]), .v (.a [.ob (.fr b)])]⟩
--@env envK envK_ok
noncomputable def muIn_k : List KI := (run envK false 3000 ((fun (a b : U4) => (mu0 a b : Cfg)) default default) []).cfg.k
theorem muIn_at (a b : U4) : runAt envK false 3000 ((mu0 a b : Cfg)) [] [2, 3, 4, 5, 6] [16, 32, 48, 80] [] = some ⟨[], Exit.normal, [(SV.v (V1.c (It.ptr 16 0))), (SV.v (V1.c (It.ptr 32 0))), (SV.v (V1.c (It.ptr 48 0))), (SV.v (V1.c (It.ptr 80 0))), (SV.v (V1.c (It.int IntKind.i64 (255 : Int))))], [(Option.some (En.fl [(It.ob (Ob.fr a))])), (Option.some (En.fl [(It.ob (Ob.fr b))])), (Option.some (En.fl [(It.ob (Ob.fr (0 : U4)))])), (Option.some (En.fl [(It.ob (Ob.fr (0 : U4)))]))], 23, 128, []⟩ := by kernel_rfl
theorem muIn_hk (a b : U4) : (run envK false 3000 ((mu0 a b : Cfg)) []).cfg.k = muIn_k := by kernel_rfl
theorem muIn (a b : U4) {w0 : World} {F0 : Nat → Prop} {K : Kp} {ac : List Act} {Q : Exit → Act → World → Prop} {cX : Ctx} {aX : Act} (ho : AllP []) (hs : Sim w0 F0 K ac (((mu0 a b : Cfg)).σ) cX aX) (hK : ∀ ac cY aY, Sim w0 F0 K ac (mkSt 23 [2, 3, 4, 5, 6] [(.v (.c (.ptr 16 0))), (.v (.c (.ptr 32 0))), (.v (.c (.ptr 48 0))), (.v (.c (.ptr 80 0))), (.v (.c (.int .i64 (255 : Int))))] [16, 32, 48, 80] [(some (.fl [(.ob (.fr a))])), (some (.fl [(.ob (.fr b))])), (some (.fl [(.ob (.fr (0 : U4)))])), (some (.fl [(.ob (.fr (0 : U4)))]))] 128 [] []) cY aY → Wq Try.prog Q (muIn_k) ac Exit.normal aY cY.w) : Wq Try.prog Q (((mu0 a b : Cfg)).k) ac ((mu0 a b : Cfg)).x aX cX.w :=
  run_at envK_ok (muIn_at a b) (muIn_hk a b) ho hs hK
noncomputable def muS (a b o : U4) (i : Int) : St := mkSt 23 [2, 3, 4, 5, 6] [(SV.v (V1.c (It.ptr 16 0))), (SV.v (V1.c (It.ptr 32 0))), (SV.v (V1.c (It.ptr 48 0))), (SV.v (V1.c (It.ptr 80 0))), .v (.c (.int .i64 i))] [16, 32, 48, 80] [(Option.some (En.fl [(It.ob (Ob.fr a))])), (Option.some (En.fl [(It.ob (Ob.fr b))])), (Option.some (En.fl [(It.ob (Ob.fr (0 : U4)))])), some (.fl [.ob (.fr o)])] 128 [] []
theorem muA_hk (a b o : U4) (i : Int) : (run envK false 3000 ((⟨lpIn muIn_k, .normal, muS a b o i⟩ : Cfg)) [true, true]).cfg.k = lpBk muIn_k := by kernel_rfl
theorem muA (a b o : U4) (i : Int) {w0 : World} {F0 : Nat → Prop} {K : Kp} {ac : List Act} {Q : Exit → Act → World → Prop} {cX : Ctx} {aX : Act} (ho : AllP [((decide (i ≥ (0 : Int))) = true), ((0 : Int) ≤ i), (i < (256 : Int)), (((bitV a (i).toNat) == (1 : Int)) = true)]) (hs : Sim w0 F0 K ac (muS a b o i) cX aX) (hK : ∀ ac cY aY, Sim w0 F0 K ac (mkSt 23 [2, 3, 4, 5, 6] [(.v (.c (.ptr 16 0))), (.v (.c (.ptr 32 0))), (.v (.c (.ptr 48 0))), (.v (.c (.ptr 80 0))), (.v (.c (.int .i64 (IntKind.wrap .i64 (i - (1 : Int))))))] [16, 32, 48, 80] [(some (.fl [(.ob (.fr a))])), (some (.fl [(.ob (.fr b))])), (some (.fl [(.ob (.fr (0 : U4)))])), (some (.fl [(.ob (.fr (cleanU ((cleanU (o + o)) + b))))]))] 400 [] []) cY aY → Wq Try.prog Q (lpBk muIn_k) ac Exit.normal aY cY.w) : Wq Try.prog Q (lpIn muIn_k) ac .normal aX cX.w :=
  run_at2 (o := ⟨_, _, _, _, _, _, _⟩) envK_ok (by kernel_rfl) (muA_hk a b o i) ho hs hK
theorem muB_hk (a b o : U4) (i : Int) : (run envK false 3000 ((⟨lpIn muIn_k, .normal, muS a b o i⟩ : Cfg)) [true, false]).cfg.k = lpBk muIn_k := by kernel_rfl
theorem muB (a b o : U4) (i : Int) {w0 : World} {F0 : Nat → Prop} {K : Kp} {ac : List Act} {Q : Exit → Act → World → Prop} {cX : Ctx} {aX : Act} (ho : AllP [((decide (i ≥ (0 : Int))) = true), ((0 : Int) ≤ i), (i < (256 : Int)), (((bitV a (i).toNat) == (1 : Int)) = false)]) (hs : Sim w0 F0 K ac (muS a b o i) cX aX) (hK : ∀ ac cY aY, Sim w0 F0 K ac (mkSt 23 [2, 3, 4, 5, 6] [(.v (.c (.ptr 16 0))), (.v (.c (.ptr 32 0))), (.v (.c (.ptr 48 0))), (.v (.c (.ptr 80 0))), (.v (.c (.int .i64 (IntKind.wrap .i64 (i - (1 : Int))))))] [16, 32, 48, 80] [(some (.fl [(.ob (.fr a))])), (some (.fl [(.ob (.fr b))])), (some (.fl [(.ob (.fr (0 : U4)))])), (some (.fl [(.ob (.fr (cleanU (o + o))))]))] 336 [] []) cY aY → Wq Try.prog Q (lpBk muIn_k) ac Exit.normal aY cY.w) : Wq Try.prog Q (lpIn muIn_k) ac .normal aX cX.w :=
  run_at2 (o := ⟨_, _, _, _, _, _, _⟩) envK_ok (by kernel_rfl) (muB_hk a b o i) ho hs hK
theorem muX_end (a b o : U4) (i : Int) : runEnd envK Try.f72 false 3000 (⟨lpIn muIn_k, .normal, muS a b o i⟩) [false] [] [] = (Option.some ([((decide (i ≥ (0 : Int))) = false)], ((SV.v (V1.a [(It.ob (Ob.fr o))])), []))) := by kernel_rfl
end Go.Proofs.Ytlfllehomhcbfaa

/- The reference's Mul: contract. No conditions. -/
namespace Go.Proofs.Ytlfllehomhcbfaa

theorem clean_add_val {x y : U4} (hx : x.val < rN) (hy : y.val < rN) : (cleanU (x + y)).val = (x.val + y.val) % rN := by
  rw [cleanU_val]
  have e : (x + y : U4).val = (x.val + y.val) % B4 := rfl
  have hr : rN + rN < B4 := by decide
  rw [e, Nat.mod_eq_of_lt (a := x.val + y.val) (by omega)]

theorem half_step (n j : Nat) : n / 2 ^ j = 2 * (n / 2 ^ (j + 1)) + n / 2 ^ j % 2 := by
  rw [Nat.pow_succ, ← Nat.div_div_eq_div_mul]
  omega

theorem dbl_mod {r p q b : Nat} (x : Nat) (hx : x = p * b % r) (_hq : q = 0 ∨ q = 1) : ((x + x) % r + q * b) % r = (2 * p + q) * b % r := by
  subst hx
  rw [Nat.mod_add_mod, ← Nat.two_mul, Nat.add_mod, Nat.mul_mod_mod, ← Nat.add_mod]
  congr 1
  rw [Nat.add_mul, Nat.mul_assoc]

theorem mulU_fnd (a b : U4) (hb : b.val < rN) : FnD Try.prog 72 [.v (.a [.ob (.fr a)]), .v (.a [.ob (.fr b)])] (.v (.a [.ob (.fr (Fin.ofNat B4 (a.val * b.val % rN)))])) [] := by
  refine fn_start (fn := Try.f72) (c := bodyOf Try.f72) Try.func72 rfl rfl fun x a0 hk hF hs => ?_
  refine muIn a b trivial hs fun ac cY aY hs1 => ?_
  refine loop_rule (ι := { p : Int × U4 // -1 ≤ p.1 ∧ p.1 ≤ 255 ∧ p.2.val = a.val / 2 ^ (p.1 + 1).toNat * b.val % rN }) (fun p => muS a b p.1.2 p.1.1) (fun p => (p.1.1 + 1).toNat) (c := lpC muIn_k) (k := lpR muIn_k) (by kernel_rfl) (fun p ih ac cY aY hs => ?_)
    ⟨(255, 0), by decide, by decide, by
      show (0 : Nat) = a.val / 2 ^ 256 * b.val % rN
      have ha : a.val < 2 ^ 256 := a.isLt
      rw [Nat.div_eq_of_lt ha, Nat.zero_mul, Nat.zero_mod]⟩ hs1
  obtain ⟨⟨i, o⟩, hi1, hi2, ho⟩ := p
  simp only at ih hs ho hi1 hi2
  have hor : o.val < rN := by rw [ho]; exact Nat.mod_lt _ (by decide)
  by_cases h : 0 ≤ i
  · obtain ⟨j, rfl⟩ := Int.eq_ofNat_of_zero_le h
    have e1 : ((j : Int) + 1).toNat = j + 1 := by omega
    rw [e1] at ho
    have hd := clean_add_val hor hor
    have hdr : (cleanU (o + o)).val < rN := by rw [hd]; exact Nat.mod_lt _ (by decide)
    have hhs := half_step a.val j
    have e2 : ((j : Int) - 1 + 1).toNat = j := by omega
    by_cases hbit : a.val / 2 ^ j % 2 = 1
    · refine muA a b o j ⟨by simp, by omega, by omega, by simp [bitV, hbit], trivial⟩ hs fun ac cY aY hs2 => ?_
      rw [wrap_id (by omega) (by omega)] at hs2
      refine ih ⟨((j : Int) - 1, cleanU (cleanU (o + o) + b)), by omega, by omega, ?_⟩ (by show ((j : Int) - 1 + 1).toNat < ((j : Int) + 1).toNat; omega) ac cY aY (hs2.nx _)
      show (cleanU (cleanU (o + o) + b)).val = a.val / 2 ^ ((j : Int) - 1 + 1).toNat * b.val % rN
      rw [e2, clean_add_val hdr hb, hd, hhs, hbit]
      have := dbl_mod (q := 1) o.val ho (.inr rfl)
      rw [Nat.one_mul] at this
      exact this
    · have hbit0 : a.val / 2 ^ j % 2 = 0 := by omega
      refine muB a b o j ⟨by simp, by omega, by omega, by simp [bitV, hbit0], trivial⟩ hs fun ac cY aY hs2 => ?_
      rw [wrap_id (by omega) (by omega)] at hs2
      refine ih ⟨((j : Int) - 1, cleanU (o + o)), by omega, by omega, ?_⟩ (by show ((j : Int) - 1 + 1).toNat < ((j : Int) + 1).toNat; omega) ac cY aY (hs2.nx _)
      show (cleanU (o + o)).val = a.val / 2 ^ ((j : Int) - 1 + 1).toNat * b.val % rN
      rw [e2, hd, hhs, hbit0]
      have := dbl_mod (q := 0) o.val ho (.inl rfl)
      rw [Nat.zero_mul, Nat.add_zero, Nat.mod_mod] at this
      exact this
  · have hi : i = -1 := by omega
    subst hi
    refine run_end2 envK_ok hk hF (muX_end a b o (-1)) ⟨by decide, trivial⟩ (fun y v hd => ?_) hs
    refine ob_ob (o := .fr o) (o' := .fr (Fin.ofNat B4 (a.val * b.val % rN))) (Eq.refl 4) ?_ hd
    show o.val = (a.val * b.val % rN) % B4
    rw [Nat.mod_eq_of_lt (a := a.val * b.val % rN) (Nat.lt_trans (Nat.mod_lt _ (by decide)) (by decide)), ho]
    show a.val / 2 ^ 0 * b.val % rN = _
    rw [Nat.pow_zero, Nat.div_one]

end Go.Proofs.Ytlfllehomhcbfaa

/- The reference's Pow, walked. No conditions. -/
namespace Go.Proofs.Ytlfllehomhcbfaa

def mulU (a b : U4) : U4 := Fin.ofNat B4 (a.val * b.val % rN)
def mulUSpec : FnSpec
  | [.v (.a [.ob (.fr a)]), .v (.a [.ob (.fr b)])] => some ([b.val < rN], .v (.a [.ob (.fr (mulU a b))]), [])
  | _ => none
noncomputable def envL : Env := envK.set (addT envK.fn 72 mulUSpec)
theorem envL_ok : EnvOk Try.prog envL := env_add envK_ok 72 mulUSpec (enters_of Try.func72 rfl rfl) fun args o r es h ho => by
  unfold mulUSpec at h
  split at h
  · cases h; exact mulU_fnd _ _ ho.1
  · cases h

noncomputable def pw0 (a b : U4) : Cfg := ⟨[.code (bodyOf Try.f103)], .normal, initSt Try.f103.ntmps [.v (.a [.ob (.fr a)]), .v (.a [.ob (.fr b)])]⟩
--@env envL envL_ok
noncomputable def pwIn_k : List KI := (run envL false 3000 ((fun (a b : U4) => (pw0 a b : Cfg)) default default) []).cfg.k
theorem pwIn_at (a b : U4) : runAt envL false 3000 ((pw0 a b : Cfg)) [] [2, 3, 4, 5, 6] [16, 32, 48, 80] [] = some ⟨[((0 : Int) ≤ (1 : Int)), ((1 : Int) < (18446744073709551616 : Int)), ((0 : Int) ≤ (0 : Int)), ((0 : Int) < (18446744073709551616 : Int)), ((0 : Int) ≤ (0 : Int)), ((0 : Int) < (18446744073709551616 : Int)), ((0 : Int) ≤ (0 : Int)), ((0 : Int) < (18446744073709551616 : Int))], Exit.normal, [(SV.v (V1.c (It.ptr 16 0))), (SV.v (V1.c (It.ptr 32 0))), (SV.v (V1.c (It.ptr 48 0))), (SV.v (V1.c (It.ptr 80 0))), (SV.v (V1.c (It.int IntKind.i64 (255 : Int))))], [(Option.some (En.fl [(It.ob (Ob.fr a))])), (Option.some (En.fl [(It.ob (Ob.fr b))])), (Option.some (En.fl [(It.ob (Ob.fr (0 : U4)))])), (Option.some (En.fl [(It.ob (Ob.fr (Fin.ofNat B4 1)))]))], 23, 128, []⟩ := by kernel_rfl
theorem pwIn_hk (a b : U4) : (run envL false 3000 ((pw0 a b : Cfg)) []).cfg.k = pwIn_k := by kernel_rfl
theorem pwIn (a b : U4) {w0 : World} {F0 : Nat → Prop} {K : Kp} {ac : List Act} {Q : Exit → Act → World → Prop} {cX : Ctx} {aX : Act} (ho : AllP [((0 : Int) ≤ (1 : Int)), ((1 : Int) < (18446744073709551616 : Int)), ((0 : Int) ≤ (0 : Int)), ((0 : Int) < (18446744073709551616 : Int)), ((0 : Int) ≤ (0 : Int)), ((0 : Int) < (18446744073709551616 : Int)), ((0 : Int) ≤ (0 : Int)), ((0 : Int) < (18446744073709551616 : Int))]) (hs : Sim w0 F0 K ac (((pw0 a b : Cfg)).σ) cX aX) (hK : ∀ ac cY aY, Sim w0 F0 K ac (mkSt 23 [2, 3, 4, 5, 6] [(.v (.c (.ptr 16 0))), (.v (.c (.ptr 32 0))), (.v (.c (.ptr 48 0))), (.v (.c (.ptr 80 0))), (.v (.c (.int .i64 (255 : Int))))] [16, 32, 48, 80] [(some (.fl [(.ob (.fr a))])), (some (.fl [(.ob (.fr b))])), (some (.fl [(.ob (.fr (0 : U4)))])), (some (.fl [(.ob (.fr (Fin.ofNat B4 1)))]))] 128 [] []) cY aY → Wq Try.prog Q (pwIn_k) ac Exit.normal aY cY.w) : Wq Try.prog Q (((pw0 a b : Cfg)).k) ac ((pw0 a b : Cfg)).x aX cX.w :=
  run_at envL_ok (pwIn_at a b) (pwIn_hk a b) ho hs hK
noncomputable def pwS (a b o : U4) (i : Int) : St := mkSt 23 [2, 3, 4, 5, 6] [(SV.v (V1.c (It.ptr 16 0))), (SV.v (V1.c (It.ptr 32 0))), (SV.v (V1.c (It.ptr 48 0))), (SV.v (V1.c (It.ptr 80 0))), .v (.c (.int .i64 i))] [16, 32, 48, 80] [(Option.some (En.fl [(It.ob (Ob.fr a))])), (Option.some (En.fl [(It.ob (Ob.fr b))])), (Option.some (En.fl [(It.ob (Ob.fr (0 : U4)))])), some (.fl [.ob (.fr o)])] 128 [] []
theorem pwA_hk (a b o : U4) (i : Int) : (run envL false 3000 ((⟨lpIn pwIn_k, .normal, pwS a b o i⟩ : Cfg)) [true, true]).cfg.k = lpBk pwIn_k := by kernel_rfl
theorem pwA (a b o : U4) (i : Int) {w0 : World} {F0 : Nat → Prop} {K : Kp} {ac : List Act} {Q : Exit → Act → World → Prop} {cX : Ctx} {aX : Act} (ho : AllP [((decide (i ≥ (0 : Int))) = true), ((Fin.val o) < rN), ((0 : Int) ≤ i), (i < (256 : Int)), (((bitV b (i).toNat) == (1 : Int)) = true), ((Fin.val a) < rN)]) (hs : Sim w0 F0 K ac (pwS a b o i) cX aX) (hK : ∀ ac cY aY, Sim w0 F0 K ac (mkSt 23 [2, 3, 4, 5, 6] [(.v (.c (.ptr 16 0))), (.v (.c (.ptr 32 0))), (.v (.c (.ptr 48 0))), (.v (.c (.ptr 80 0))), (.v (.c (.int .i64 (IntKind.wrap .i64 (i - (1 : Int))))))] [16, 32, 48, 80] [(some (.fl [(.ob (.fr a))])), (some (.fl [(.ob (.fr b))])), (some (.fl [(.ob (.fr (0 : U4)))])), (some (.fl [(.ob (.fr (mulU (mulU o o) a)))]))] 400 [] []) cY aY → Wq Try.prog Q (lpBk pwIn_k) ac Exit.normal aY cY.w) : Wq Try.prog Q (lpIn pwIn_k) ac .normal aX cX.w :=
  run_at2 (o := ⟨_, _, _, _, _, _, _⟩) envL_ok (by kernel_rfl) (pwA_hk a b o i) ho hs hK
theorem pwB_hk (a b o : U4) (i : Int) : (run envL false 3000 ((⟨lpIn pwIn_k, .normal, pwS a b o i⟩ : Cfg)) [true, false]).cfg.k = lpBk pwIn_k := by kernel_rfl
theorem pwB (a b o : U4) (i : Int) {w0 : World} {F0 : Nat → Prop} {K : Kp} {ac : List Act} {Q : Exit → Act → World → Prop} {cX : Ctx} {aX : Act} (ho : AllP [((decide (i ≥ (0 : Int))) = true), ((Fin.val o) < rN), ((0 : Int) ≤ i), (i < (256 : Int)), (((bitV b (i).toNat) == (1 : Int)) = false)]) (hs : Sim w0 F0 K ac (pwS a b o i) cX aX) (hK : ∀ ac cY aY, Sim w0 F0 K ac (mkSt 23 [2, 3, 4, 5, 6] [(.v (.c (.ptr 16 0))), (.v (.c (.ptr 32 0))), (.v (.c (.ptr 48 0))), (.v (.c (.ptr 80 0))), (.v (.c (.int .i64 (IntKind.wrap .i64 (i - (1 : Int))))))] [16, 32, 48, 80] [(some (.fl [(.ob (.fr a))])), (some (.fl [(.ob (.fr b))])), (some (.fl [(.ob (.fr (0 : U4)))])), (some (.fl [(.ob (.fr (mulU o o)))]))] 336 [] []) cY aY → Wq Try.prog Q (lpBk pwIn_k) ac Exit.normal aY cY.w) : Wq Try.prog Q (lpIn pwIn_k) ac .normal aX cX.w :=
  run_at2 (o := ⟨_, _, _, _, _, _, _⟩) envL_ok (by kernel_rfl) (pwB_hk a b o i) ho hs hK
theorem pwX_end (a b o : U4) (i : Int) : runEnd envL Try.f103 false 3000 (⟨lpIn pwIn_k, .normal, pwS a b o i⟩) [false] [] [] = (Option.some ([((decide (i ≥ (0 : Int))) = false)], ((SV.v (V1.a [(It.ob (Ob.fr o))])), []))) := by kernel_rfl
end Go.Proofs.Ytlfllehomhcbfaa

/- The reference's Pow: contract. No conditions. -/
namespace Go.Proofs.Ytlfllehomhcbfaa

def powN (x : Fr) : Nat → Fr
  | 0 => 1
  | n + 1 => powN x n * x

theorem powN_add (x : Fr) (m : Nat) : ∀ n, powN x (m + n) = powN x m * powN x n
  | 0 => (Fin.mul_one _).symm
  | n + 1 => by
    show powN x (m + n) * x = powN x m * (powN x n * x)
    rw [powN_add x m n, Fin.mul_assoc]

theorem mulU_out (x y : Fr) : mulU (outF x) (outF y) = outF (x * y) := by
  apply Fin.ext
  rw [outF_val]
  show ((outF x).val * (outF y).val % rN) % B4 = (x * y).val
  rw [outF_val, outF_val]
  exact Nat.mod_eq_of_lt (Nat.lt_trans (Nat.mod_lt _ (by decide)) (by decide))

theorem outF_lt (x : Fr) : (outF x).val < rN := by rw [outF_val]; exact x.isLt

theorem out_one1 : outF 1 = Fin.ofNat B4 1 := by
  apply Fin.ext
  rw [outF_val]
  rfl

theorem pow103_fnd (x : Fr) (e : U4) : FnD Try.prog 103 [.v (.a [.ob (.fr (outF x))]), .v (.a [.ob (.fr e)])] (.v (.a [.ob (.fr (outF (powN x e.val)))])) [] := by
  refine fn_start (fn := Try.f103) (c := bodyOf Try.f103) Try.func103 rfl rfl fun cx a0 hk hF hs => ?_
  refine pwIn (outF x) e ⟨by decide, by decide, by decide, by decide, by decide, by decide, by decide, by decide, trivial⟩ hs fun ac cY aY hs1 => ?_
  rw [← out_one1] at hs1
  refine loop_rule (ι := { p : Int × Fr // -1 ≤ p.1 ∧ p.1 ≤ 255 ∧ p.2 = powN x (e.val / 2 ^ (p.1 + 1).toNat) }) (fun p => pwS (outF x) e (outF p.1.2) p.1.1) (fun p => (p.1.1 + 1).toNat) (c := lpC pwIn_k) (k := lpR pwIn_k) (by kernel_rfl) (fun p ih ac cY aY hs => ?_)
    ⟨(255, 1), by decide, by decide, by
      show (1 : Fr) = powN x (e.val / 2 ^ 256)
      have he : e.val < 2 ^ 256 := e.isLt
      rw [Nat.div_eq_of_lt he]; rfl⟩ hs1
  obtain ⟨⟨i, o⟩, hi1, hi2, ho⟩ := p
  simp only at ih hs ho hi1 hi2
  by_cases h : 0 ≤ i
  · obtain ⟨j, rfl⟩ := Int.eq_ofNat_of_zero_le h
    have e1 : ((j : Int) + 1).toNat = j + 1 := by omega
    rw [e1] at ho
    have hhs := half_step e.val j
    have e2 : ((j : Int) - 1 + 1).toNat = j := by omega
    by_cases hbit : e.val / 2 ^ j % 2 = 1
    · refine pwA (outF x) e (outF o) j ⟨by simp, outF_lt o, by omega, by omega, by simp [bitV, hbit], outF_lt x, trivial⟩ hs fun ac cY aY hs2 => ?_
      rw [wrap_id (by omega) (by omega), mulU_out, mulU_out] at hs2
      refine ih ⟨((j : Int) - 1, o * o * x), by omega, by omega, ?_⟩ (by show ((j : Int) - 1 + 1).toNat < ((j : Int) + 1).toNat; omega) ac cY aY (hs2.nx _)
      show o * o * x = powN x (e.val / 2 ^ ((j : Int) - 1 + 1).toNat)
      rw [e2, hhs, hbit, Nat.two_mul]
      show _ = powN x (e.val / 2 ^ (j + 1) + e.val / 2 ^ (j + 1)) * x
      rw [powN_add, ← ho]
    · have hbit0 : e.val / 2 ^ j % 2 = 0 := by omega
      refine pwB (outF x) e (outF o) j ⟨by simp, outF_lt o, by omega, by omega, by simp [bitV, hbit0], trivial⟩ hs fun ac cY aY hs2 => ?_
      rw [wrap_id (by omega) (by omega), mulU_out] at hs2
      refine ih ⟨((j : Int) - 1, o * o), by omega, by omega, ?_⟩ (by show ((j : Int) - 1 + 1).toNat < ((j : Int) + 1).toNat; omega) ac cY aY (hs2.nx _)
      show o * o = powN x (e.val / 2 ^ ((j : Int) - 1 + 1).toNat)
      rw [e2, hhs, hbit0, Nat.add_zero, Nat.two_mul, powN_add, ← ho]
  · have hi : i = -1 := by omega
    subst hi
    refine run_end2 envL_ok hk hF (pwX_end (outF x) e (outF o) (-1)) ⟨by decide, trivial⟩ (fun y v hd => ?_) hs
    have : o = powN x e.val := by
      rw [ho]
      show powN x (e.val / 2 ^ 0) = _
      rw [Nat.pow_zero, Nat.div_one]
    rw [← this]
    exact hd

end Go.Proofs.Ytlfllehomhcbfaa

/- The reference's Root, walked. No conditions. -/
namespace Go.Proofs.Ytlfllehomhcbfaa

def powU (a : U4) (e : Nat) : U4 := outF (powN (inF a) e)
def num4i (a b c d : Int) : Nat := (a + 18446744073709551616 * b + 340282366920938463463374607431768211456 * c + 6277101735386680763835789423207666416102355444464034512896 * d).toNat
def powSpec : FnSpec
  | [.v (.a [.ob (.fr a)]), .v (.a [.int .u64 e0, .int .u64 e1, .int .u64 e2, .int .u64 e3])] =>
    some ([a.val < rN, 0 ≤ e0, e0 < 18446744073709551616, 0 ≤ e1, e1 < 18446744073709551616, 0 ≤ e2, e2 < 18446744073709551616, 0 ≤ e3, e3 < 18446744073709551616], .v (.a [.ob (.fr (powU a (num4i e0 e1 e2 e3)))]), [])
  | _ => none

theorem num4i_lt {a b c d : Int} (ha : 0 ≤ a) (ha1 : a < 18446744073709551616) (hb : 0 ≤ b) (hb1 : b < 18446744073709551616) (hc : 0 ≤ c) (hc1 : c < 18446744073709551616) (hd : 0 ≤ d) (hd1 : d < 18446744073709551616) : num4i a b c d < B4 ∧ ((num4i a b c d : Nat) : Int) = a + 18446744073709551616 * b + 340282366920938463463374607431768211456 * c + 6277101735386680763835789423207666416102355444464034512896 * d := by
  unfold num4i B4
  omega

theorem out_in {a : U4} (h : a.val < rN) : outF (inF a) = a := by
  apply Fin.ext
  rw [outF_val]
  exact Nat.mod_eq_of_lt h

noncomputable def envM1 : Env := envL.set (addT envL.fn 103 powSpec)
theorem envM1_ok : EnvOk Try.prog envM1 := env_add envL_ok 103 powSpec (enters_of Try.func103 rfl rfl) fun args o r es h ho => by
  unfold powSpec at h
  split at h
  · rename_i a e0 e1 e2 e3
    cases h
    obtain ⟨h0, h1, h2, h3, h4, h5, h6, h7, h8, _⟩ := ho
    obtain ⟨hlt, he⟩ := num4i_lt h1 h2 h3 h4 h5 h6 h7 h8
    have hp := pow103_fnd (inF a) (Fin.ofNat B4 (num4i e0 e1 e2 e3))
    rw [out_in h0] at hp
    have hv : (Fin.ofNat B4 (num4i e0 e1 e2 e3)).val = num4i e0 e1 e2 e3 := Nat.mod_eq_of_lt hlt
    rw [hv] at hp
    refine hp.conv (fun x vs hd => ?_) (fun _ _ h => h)
    cases hd with | cons ha hd => cases hd with | cons hb hd =>
    cases hd
    refine .cons ha (.cons (ints_ob (Eq.refl 4) ?_ hb) .nil)
    show limb (Fin.ofNat B4 (num4i e0 e1 e2 e3)).val 0 = _ ∧ limb (Fin.ofNat B4 (num4i e0 e1 e2 e3)).val 1 = _ ∧ limb (Fin.ofNat B4 (num4i e0 e1 e2 e3)).val 2 = _ ∧ limb (Fin.ofNat B4 (num4i e0 e1 e2 e3)).val 3 = _
    rw [hv]
    exact limbsAre4 h1 h2 h3 h4 h5 h6 h7 h8 he
  · cases h

noncomputable def rt0 (log : Int) : Cfg := ⟨[.code (bodyOf Try.f68)], .normal, initSt Try.f68.ntmps [.v (.c (.int .i64 log))]⟩
--@env envM1 envM1_ok
noncomputable def rtIn_k : List KI := (run envM1 false 3000 ((fun (log : Int) => (rt0 log : Cfg)) default) []).cfg.k
theorem rtIn_at (log : Int) : runAt envM1 false 3000 ((rt0 log : Cfg)) [] [2, 4, 5] [16, 688] [] = some ⟨[((0 : Int) ≤ (0 : Int)), ((0 : Int) < (4 : Int)), (0 < 4), ((4294967296 : Int) ≠ (0 : Int)), ((0 : Int) ≤ (1 : Int)), ((1 : Int) < (4 : Int)), (1 < 4), ((4294967296 : Int) ≠ (0 : Int)), ((0 : Int) ≤ (0 : Int)), ((0 : Int) < (4 : Int)), ((0 : Int) ≤ (1 : Int)), ((1 : Int) < (4 : Int)), ((4294967296 : Int) ≠ (0 : Int)), ((0 : Int) ≤ (2 : Int)), ((2 : Int) < (4 : Int)), ((4294967296 : Int) ≠ (0 : Int)), ((0 : Int) ≤ (1 : Int)), ((1 : Int) < (4 : Int)), ((0 : Int) ≤ (2 : Int)), ((2 : Int) < (4 : Int)), ((4294967296 : Int) ≠ (0 : Int)), ((0 : Int) ≤ (3 : Int)), ((3 : Int) < (4 : Int)), ((4294967296 : Int) ≠ (0 : Int)), ((0 : Int) ≤ (2 : Int)), ((2 : Int) < (4 : Int)), ((0 : Int) ≤ (3 : Int)), ((3 : Int) < (4 : Int)), ((4294967296 : Int) ≠ (0 : Int)), ((0 : Int) ≤ (3 : Int)), ((3 : Int) < (4 : Int)), ((0 : Int) ≤ (7 : Int)), ((7 : Int) < (18446744073709551616 : Int)), ((0 : Int) ≤ (0 : Int)), ((0 : Int) < (18446744073709551616 : Int)), ((0 : Int) ≤ (0 : Int)), ((0 : Int) < (18446744073709551616 : Int)), ((0 : Int) ≤ (0 : Int)), ((0 : Int) < (18446744073709551616 : Int)), (7 < rN), ((0 : Int) ≤ (18446282274530918399 : Int)), ((18446282274530918399 : Int) < (18446744073709551616 : Int)), ((0 : Int) ≤ (694073334983140354 : Int)), ((694073334983140354 : Int) < (18446744073709551616 : Int)), ((0 : Int) ≤ (2998690675949164552 : Int)), ((2998690675949164552 : Int) < (18446744073709551616 : Int)), ((0 : Int) ≤ (1944954707 : Int)), ((1944954707 : Int) < (18446744073709551616 : Int))], Exit.normal, [(SV.v (V1.c (It.ptr 16 0))), (SV.v (V1.c (It.ptr 688 0))), (SV.v (V1.c (It.int IntKind.i64 log)))], [(Option.some (En.fl [(It.ob (Ob.fr (0 : U4)))])), (Option.some (En.fl [(It.ob (Ob.fr (powU (Fin.ofNat B4 7) 12208678567578594777604504606729831043093128246378069236549469339647)))]))], 50, 752, []⟩ := by kernel_rfl
theorem rtIn_hk (log : Int) : (run envM1 false 3000 ((rt0 log : Cfg)) []).cfg.k = rtIn_k := by kernel_rfl
theorem rtIn (log : Int) {w0 : World} {F0 : Nat → Prop} {K : Kp} {ac : List Act} {Q : Exit → Act → World → Prop} {cX : Ctx} {aX : Act} (ho : AllP [((0 : Int) ≤ (0 : Int)), ((0 : Int) < (4 : Int)), (0 < 4), ((4294967296 : Int) ≠ (0 : Int)), ((0 : Int) ≤ (1 : Int)), ((1 : Int) < (4 : Int)), (1 < 4), ((4294967296 : Int) ≠ (0 : Int)), ((0 : Int) ≤ (0 : Int)), ((0 : Int) < (4 : Int)), ((0 : Int) ≤ (1 : Int)), ((1 : Int) < (4 : Int)), ((4294967296 : Int) ≠ (0 : Int)), ((0 : Int) ≤ (2 : Int)), ((2 : Int) < (4 : Int)), ((4294967296 : Int) ≠ (0 : Int)), ((0 : Int) ≤ (1 : Int)), ((1 : Int) < (4 : Int)), ((0 : Int) ≤ (2 : Int)), ((2 : Int) < (4 : Int)), ((4294967296 : Int) ≠ (0 : Int)), ((0 : Int) ≤ (3 : Int)), ((3 : Int) < (4 : Int)), ((4294967296 : Int) ≠ (0 : Int)), ((0 : Int) ≤ (2 : Int)), ((2 : Int) < (4 : Int)), ((0 : Int) ≤ (3 : Int)), ((3 : Int) < (4 : Int)), ((4294967296 : Int) ≠ (0 : Int)), ((0 : Int) ≤ (3 : Int)), ((3 : Int) < (4 : Int)), ((0 : Int) ≤ (7 : Int)), ((7 : Int) < (18446744073709551616 : Int)), ((0 : Int) ≤ (0 : Int)), ((0 : Int) < (18446744073709551616 : Int)), ((0 : Int) ≤ (0 : Int)), ((0 : Int) < (18446744073709551616 : Int)), ((0 : Int) ≤ (0 : Int)), ((0 : Int) < (18446744073709551616 : Int)), (7 < rN), ((0 : Int) ≤ (18446282274530918399 : Int)), ((18446282274530918399 : Int) < (18446744073709551616 : Int)), ((0 : Int) ≤ (694073334983140354 : Int)), ((694073334983140354 : Int) < (18446744073709551616 : Int)), ((0 : Int) ≤ (2998690675949164552 : Int)), ((2998690675949164552 : Int) < (18446744073709551616 : Int)), ((0 : Int) ≤ (1944954707 : Int)), ((1944954707 : Int) < (18446744073709551616 : Int))]) (hs : Sim w0 F0 K ac (((rt0 log : Cfg)).σ) cX aX) (hK : ∀ ac cY aY, Sim w0 F0 K ac (mkSt 50 [2, 4, 5] [(.v (.c (.ptr 16 0))), (.v (.c (.ptr 688 0))), (.v (.c (.int .i64 log)))] [16, 688] [(some (.fl [(.ob (.fr (0 : U4)))])), (some (.fl [(.ob (.fr (powU (Fin.ofNat B4 7) 12208678567578594777604504606729831043093128246378069236549469339647)))]))] 752 [] []) cY aY → Wq Try.prog Q (rtIn_k) ac Exit.normal aY cY.w) : Wq Try.prog Q (((rt0 log : Cfg)).k) ac ((rt0 log : Cfg)).x aX cX.w :=
  run_at envM1_ok (rtIn_at log) (rtIn_hk log) ho hs hK
noncomputable def rtS (i : Int) (w : U4) : St := mkSt 50 [2, 4, 5] [(SV.v (V1.c (It.ptr 16 0))), (SV.v (V1.c (It.ptr 688 0))), .v (.c (.int .i64 i))] [16, 688] [(Option.some (En.fl [(It.ob (Ob.fr (0 : U4)))])), some (.fl [.ob (.fr w)])] 752 [] []
theorem rtN_hk (i : Int) (w : U4) : (run envM1 false 3000 ((⟨lpIn rtIn_k, .normal, rtS i w⟩ : Cfg)) [true]).cfg.k = lpBk rtIn_k := by kernel_rfl
theorem rtN (i : Int) (w : U4) {w0 : World} {F0 : Nat → Prop} {K : Kp} {ac : List Act} {Q : Exit → Act → World → Prop} {cX : Ctx} {aX : Act} (ho : AllP [((decide (i < (32 : Int))) = true), ((Fin.val w) < rN)]) (hs : Sim w0 F0 K ac (rtS i w) cX aX) (hK : ∀ ac cY aY, Sim w0 F0 K ac (mkSt 50 [2, 4, 5] [(.v (.c (.ptr 16 0))), (.v (.c (.ptr 688 0))), (.v (.c (.int .i64 (IntKind.wrap .i64 (i + (1 : Int))))))] [16, 688] [(some (.fl [(.ob (.fr (0 : U4)))])), (some (.fl [(.ob (.fr (mulU w w)))]))] 896 [] []) cY aY → Wq Try.prog Q (lpBk rtIn_k) ac Exit.normal aY cY.w) : Wq Try.prog Q (lpIn rtIn_k) ac .normal aX cX.w :=
  run_at2 (o := ⟨_, _, _, _, _, _, _⟩) envM1_ok (by kernel_rfl) (rtN_hk i w) ho hs hK
theorem rtX_end (i : Int) (w : U4) : runEnd envM1 Try.f68 false 3000 (⟨lpIn rtIn_k, .normal, rtS i w⟩) [false] [] [] = (Option.some ([((decide (i < (32 : Int))) = false)], ((SV.v (V1.a [(It.ob (Ob.fr w))])), []))) := by kernel_rfl
end Go.Proofs.Ytlfllehomhcbfaa

/- The reference's Root: contract. No conditions. -/
namespace Go.Proofs.Ytlfllehomhcbfaa

/-- A power of a number, modulo another one, bit by bit. -/
def pwm (r x : Nat) : Nat → Nat → Nat
  | 0, _ => 1 % r
  | f + 1, e => (pwm r x f (e / 2) * pwm r x f (e / 2) % r) * (if e % 2 = 1 then x else 1) % r

theorem powN_val (x : Fr) : ∀ n, (powN x n).val = x.val ^ n % rN
  | 0 => rfl
  | n + 1 => by
    show ((powN x n).val * x.val) % rN = _
    rw [powN_val x n, Nat.pow_succ, Nat.mod_mul_mod]

theorem pwm_eq (r x : Nat) : ∀ f e, e < 2 ^ f → pwm r x f e = x ^ e % r
  | 0, e, h => by
    have : e = 0 := by omega
    subst this
    rfl
  | f + 1, e, h => by
    show (pwm r x f (e / 2) * pwm r x f (e / 2) % r) * (if e % 2 = 1 then x else 1) % r = _
    rw [pwm_eq r x f (e / 2) (by rw [Nat.pow_succ] at h; omega), ← Nat.mul_mod, Nat.mod_mul_mod, ← Nat.pow_add]
    by_cases h1 : e % 2 = 1
    · rw [if_pos h1, ← Nat.pow_succ]
      congr 2
      omega
    · rw [if_neg h1, Nat.mul_one]
      congr 2
      omega

theorem root_num : pwm rN 7 224 12208678567578594777604504606729831043093128246378069236549469339647 = 10238227357739495823651030575849232062558860180284477541189508159991286009131 := by kernel_rfl

theorem root_pow : powU (Fin.ofNat B4 7) 12208678567578594777604504606729831043093128246378069236549469339647 = outF rootF := by
  apply Fin.ext
  unfold powU
  rw [outF_val, outF_val, powN_val]
  have h7 : (inF (Fin.ofNat B4 7)).val = 7 := by rw [inF_ofNat (by decide)]; rfl
  have hr : rootF.val = 10238227357739495823651030575849232062558860180284477541189508159991286009131 := by kernel_rfl
  rw [h7, hr, ← root_num, pwm_eq _ _ _ _ (by decide)]

theorem refRoot_fnd (log : Int) (h0 : 0 ≤ log) (h1 : log ≤ 16) : FnD Try.prog 68 [.v (.c (.int .i64 log))] (.v (.a [.ob (.fr (outF (sqN rootF (32 - log).toNat)))])) [] := by
  refine fn_start (fn := Try.f68) (c := bodyOf Try.f68) Try.func68 rfl rfl fun x a hk hF hs => ?_
  refine rtIn log (by and_intros <;> first | trivial | decide) hs fun ac cY aY hs1 => ?_
  rw [root_pow] at hs1
  refine loop_rule (ι := { p : Int × Nat // p.1 = log + p.2 ∧ p.1 ≤ 32 }) (fun p => rtS p.1.1 (outF (sqN rootF p.1.2))) (fun p => (32 - p.1.1).toNat) (c := lpC rtIn_k) (k := lpR rtIn_k) (by kernel_rfl) (fun p ih ac cY aY hs => ?_) ⟨(log, 0), by simp, by show log ≤ 32; omega⟩ hs1
  obtain ⟨⟨i, n⟩, hi, hi2⟩ := p
  simp only at ih hs hi hi2
  by_cases h : i < 32
  · refine rtN i (outF (sqN rootF n)) ⟨by simp [h], outF_lt _, trivial⟩ hs fun ac cY aY hs2 => ?_
    rw [wrap_id (by omega) (by omega), mulU_out] at hs2
    exact ih ⟨(i + 1, n + 1), by show i + 1 = log + ((n + 1 : Nat) : Int); omega, by show i + 1 ≤ 32; omega⟩ (by show (32 - (i + 1)).toNat < (32 - i).toNat; omega) ac cY aY (hs2.nx _)
  · refine run_end2 envM1_ok hk hF (rtX_end i (outF (sqN rootF n))) ⟨by simp [h], trivial⟩ (fun y v hd => ?_) hs
    have e : (32 - log).toNat = n := by omega
    rw [e]
    exact hd

end Go.Proofs.Ytlfllehomhcbfaa

/- The reference's New, what a domain must be, walked. No conditions. -/
namespace Go.Proofs.Ytlfllehomhcbfaa

def rootSpec2 : FnSpec
  | [.v (.c (.int .i64 log))] => some ([0 ≤ log, log ≤ 16], .v (.a [.ob (.fr (outF (sqN rootF (32 - log).toNat)))]), [])
  | _ => none
noncomputable def envM2 : Env := envM1.set (addT envM1.fn 68 rootSpec2)
theorem envM2_ok : EnvOk Try.prog envM2 := env_add envM1_ok 68 rootSpec2 (enters_of Try.func68 rfl rfl) fun args o r es h ho => by
  unfold rootSpec2 at h
  split at h
  · cases h; exact refRoot_fnd _ ho.1 ho.2.1
  · cases h
def newSpec : FnSpec
  | [.v (.c (.int .i64 log))] => some ([], newV log, [])
  | _ => none
noncomputable def envM3 : Env := envM2.set (addT envM2.fn 21 newSpec)
theorem envM3_ok : EnvOk Try.prog envM3 := env_add envM2_ok 21 newSpec (enters_of Try.func21 rfl rfl) fun args o r es h ho => by
  unfold newSpec at h
  split at h
  · cases h; exact new_fnd _
  · cases h

--@env envM2 envM2_ok
theorem rnA (log : Int) : fnRes envM2 Try.f22 3000 [.v (.c (.int .i64 log))] [true] [] [] = (Option.some ([((decide (log < (0 : Int))) = true)], ((SV.t [(V1.a [(It.int IntKind.i64 (0 : Int)), (It.ob (Ob.fr (0 : U4)))]), (V1.c (It.int IntKind.i64 (40 : Int)))]), []))) := by kernel_rfl
theorem rnB (log : Int) : fnRes envM2 Try.f22 3000 [.v (.c (.int .i64 log))] [false, true] [] [] = (Option.some ([((decide (log < (0 : Int))) = false), ((decide (log > (16 : Int))) = true)], ((SV.t [(V1.a [(It.int IntKind.i64 (0 : Int)), (It.ob (Ob.fr (0 : U4)))]), (V1.c (It.int IntKind.i64 (40 : Int)))]), []))) := by kernel_rfl
theorem rnC (log : Int) : fnRes envM2 Try.f22 3000 [.v (.c (.int .i64 log))] [false, false] [] [] = (Option.some ([((decide (log < (0 : Int))) = false), ((decide (log > (16 : Int))) = false), ((0 : Int) ≤ log), (log ≤ (16 : Int))], ((SV.t [(V1.a [(It.int IntKind.i64 log), (It.ob (Ob.fr (outF (sqN rootF (((32 : Int) - log)).toNat))))]), (V1.c (It.int IntKind.i64 (0 : Int)))]), []))) := by kernel_rfl

theorem new22_fnd (log : Int) : FnD Try.prog 22 [.v (.c (.int .i64 log))] (newV log) [] := by
  by_cases h1 : log < 0
  · have hn : okLog log = false := by simp [okLog]; omega
    unfold newV newRoot
    rw [hn]
    exact fn_sound envM2_ok Try.func22 (rnA log) (by simp [AllP]; omega)
  by_cases h2 : log > 16
  · have hn : okLog log = false := by simp [okLog]; omega
    unfold newV newRoot
    rw [hn]
    exact fn_sound envM2_ok Try.func22 (rnB log) (by simp [AllP]; omega)
  have hn : okLog log = true := by simp [okLog]; omega
  unfold newV newRoot
  rw [hn]
  exact fn_sound envM2_ok Try.func22 (rnC log) (by simp [AllP]; omega)

noncomputable def envM4 : Env := envM3.set (addT envM3.fn 22 newSpec)
theorem envM4_ok : EnvOk Try.prog envM4 := env_add envM3_ok 22 newSpec (enters_of Try.func22 rfl rfl) fun args o r es h ho => by
  unfold newSpec at h
  split at h
  · cases h; exact new22_fnd _
  · cases h

--@env envM4 envM4_ok
theorem rgA (log : Int) (w : U4) : fnRes envM4 Try.f23 3000 [.v (.a [.int .i64 log, .ob (.fr w)])] [true] [] [] = (Option.some ([(((ite ((okLog log) = true) (0 : Int) (40 : Int)) == (0 : Int)) = true)], ((SV.v (V1.c (It.bool (ite (true = true) (Bool.and ((ite ((okLog log) = true) log (0 : Int)) == log) (decide ((newRoot log) = w))) (Bool.not (Bool.and ((ite ((okLog log) = true) log (0 : Int)) == log) (decide ((newRoot log) = w)))))))), []))) := by kernel_rfl
theorem rgB (log : Int) (w : U4) : fnRes envM4 Try.f23 3000 [.v (.a [.int .i64 log, .ob (.fr w)])] [false] [] [] = (Option.some ([(((ite ((okLog log) = true) (0 : Int) (40 : Int)) == (0 : Int)) = false)], ((SV.v (V1.c (It.lit false))), []))) := by kernel_rfl
theorem rhA (log : Int) (w : U4) : fnRes envM4 Try.f24 3000 [.v (.a [.int .i64 log, .ob (.fr w)])] [true] [] [] = (Option.some ([(((ite ((okLog log) = true) (0 : Int) (40 : Int)) == (0 : Int)) = true)], ((SV.v (V1.c (It.bool (ite (true = true) (Bool.and (log == (ite ((okLog log) = true) log (0 : Int))) (decide (w = (newRoot log)))) (Bool.not (Bool.and (log == (ite ((okLog log) = true) log (0 : Int))) (decide (w = (newRoot log))))))))), []))) := by kernel_rfl
theorem rhB (log : Int) (w : U4) : fnRes envM4 Try.f24 3000 [.v (.a [.int .i64 log, .ob (.fr w)])] [false] [] [] = (Option.some ([(((ite ((okLog log) = true) (0 : Int) (40 : Int)) == (0 : Int)) = false)], ((SV.v (V1.c (It.lit false))), []))) := by kernel_rfl
theorem alA  : fnRes envM4 Try.f25 3000 [] [true] [] [] = (Option.some ([(((0 : Int) == (0 : Int)) = true), ((0 : Int) ≤ (1 : Int)), ((1 : Int) < (18446744073709551616 : Int)), ((0 : Int) ≤ (0 : Int)), ((0 : Int) < (18446744073709551616 : Int)), ((0 : Int) ≤ (0 : Int)), ((0 : Int) < (18446744073709551616 : Int)), ((0 : Int) ≤ (0 : Int)), ((0 : Int) < (18446744073709551616 : Int))], ((SV.v (V1.c (It.bool (ite (true = true) (decide ((newRoot (0 : Int)) = (Fin.ofNat B4 1))) (Bool.not (decide ((newRoot (0 : Int)) = (Fin.ofNat B4 1)))))))), []))) := by kernel_rfl
end Go.Proofs.Ytlfllehomhcbfaa

/- Which domains there may be: contracts. No conditions. -/
namespace Go.Proofs.Ytlfllehomhcbfaa

def domOk (log : Int) (w : U4) : Bool := okLog log && decide (newRoot log = w)

theorem right23_fnd (log : Int) (w : U4) : FnD Try.prog 23 [.v (.a [.int .i64 log, .ob (.fr w)])] (.v (.c (.bool (domOk log w)))) [] := by
  cases h : okLog log with
  | true =>
    refine (fn_sound envM4_ok Try.func23 (rgA log w) (by rw [h]; exact ⟨rfl, trivial⟩)).conv (fun _ _ h => h) fun y v hd => ?_
    rw [h, if_pos rfl, if_pos rfl, beq_self_eq_true, Bool.true_and] at hd
    unfold domOk
    rw [h, Bool.true_and]
    exact hd
  | false =>
    refine (fn_sound envM4_ok Try.func23 (rgB log w) (by rw [h]; exact ⟨rfl, trivial⟩)).conv (fun _ _ h => h) fun y v hd => ?_
    unfold domOk
    rw [h, Bool.false_and]
    exact lit_bool rfl hd

theorem right24_fnd (log : Int) (w : U4) : FnD Try.prog 24 [.v (.a [.int .i64 log, .ob (.fr w)])] (.v (.c (.bool (domOk log w)))) [] := by
  cases h : okLog log with
  | true =>
    refine (fn_sound envM4_ok Try.func24 (rhA log w) (by rw [h]; exact ⟨rfl, trivial⟩)).conv (fun _ _ h => h) fun y v hd => ?_
    rw [h, if_pos rfl, if_pos rfl, beq_self_eq_true, Bool.true_and] at hd
    unfold domOk
    rw [h, Bool.true_and]
    have e : decide (w = newRoot log) = decide (newRoot log = w) := by
      by_cases hw : w = newRoot log
      · rw [decide_eq_true hw, decide_eq_true hw.symm]
      · rw [decide_eq_false hw, decide_eq_false (fun h => hw h.symm)]
    rw [← e]
    exact hd
  | false =>
    refine (fn_sound envM4_ok Try.func24 (rhB log w) (by rw [h]; exact ⟨rfl, trivial⟩)).conv (fun _ _ h => h) fun y v hd => ?_
    unfold domOk
    rw [h, Bool.false_and]
    exact lit_bool rfl hd

theorem bool_lit {x : Ctx} {b : Bool} {v : Value} (h : denS x (.v (.c (.bool b))) v) : denS x (.v (.c (.lit b))) v := by
  obtain ⟨hs, d, h⟩ := h
  exact ⟨hs, d, by cases d <;> exact h⟩

def sqm (r w : Nat) : Nat → Nat
  | 0 => w
  | n + 1 => sqm r w n * sqm r w n % r

theorem sqN_val (w : Fr) : ∀ n, (sqN w n).val = sqm rN w.val n
  | 0 => rfl
  | n + 1 => by
    show ((sqN w n).val * (sqN w n).val) % rN = sqm rN w.val n * sqm rN w.val n % rN
    rw [sqN_val w n]

theorem sqm32 : sqm rN 10238227357739495823651030575849232062558860180284477541189508159991286009131 32 = 1 := by kernel_rfl

theorem root32 : sqN rootF 32 = 1 := by
  apply Fin.ext
  rw [sqN_val]
  have hr : rootF.val = 10238227357739495823651030575849232062558860180284477541189508159991286009131 := by kernel_rfl
  rw [hr]
  exact sqm32

theorem newRoot0 : newRoot 0 = Fin.ofNat B4 1 := by
  unfold newRoot
  rw [if_pos (by decide), show ((32 : Int) - 0).toNat = 32 from rfl, root32, out_one1]

theorem alive25_fnd : FnD Try.prog 25 [] (.v (.c (.lit true))) [] := by
  refine (fn_sound envM4_ok Try.func25 alA (by and_intros <;> first | trivial | decide)).conv (fun _ _ h => h) fun y v hd => ?_
  rw [if_pos rfl, newRoot0, decide_eq_true rfl] at hd
  exact bool_lit hd

def domSpec : FnSpec
  | [.v (.a [.int .i64 log, .ob (.fr w)])] => some ([], .v (.c (.bool (domOk log w))), [])
  | _ => none
def trueSpec : FnSpec
  | [] => some ([], .v (.c (.lit true)), [])
  | _ => none
noncomputable def envM5 : Env := envM4.set (addT envM4.fn 23 domSpec)
theorem envM5_ok : EnvOk Try.prog envM5 := env_add envM4_ok 23 domSpec (enters_of Try.func23 rfl rfl) fun args o r es h ho => by
  unfold domSpec at h
  split at h
  · cases h; exact right23_fnd _ _
  · cases h
noncomputable def envM6 : Env := envM5.set (addT envM5.fn 24 domSpec)
theorem envM6_ok : EnvOk Try.prog envM6 := env_add envM5_ok 24 domSpec (enters_of Try.func24 rfl rfl) fun args o r es h ho => by
  unfold domSpec at h
  split at h
  · cases h; exact right24_fnd _ _
  · cases h
noncomputable def envM : Env := envM6.set (addT envM6.fn 25 trueSpec)
theorem envM_ok : EnvOk Try.prog envM := env_add envM6_ok 25 trueSpec (enters_of Try.func25 rfl rfl) fun args o r es h ho => by
  unfold trueSpec at h
  split at h
  · cases h; exact alive25_fnd
  · cases h

end Go.Proofs.Ytlfllehomhcbfaa

/- Powers, a row of elements, the rows' comparison, walked. No conditions. -/
namespace Go.Proofs.Ytlfllehomhcbfaa

noncomputable def ps0 (w : Fr) (n : Int) : Cfg := ⟨[.code (bodyOf Try.f70)], .normal, initSt Try.f70.ntmps [.v (.a [.ob (.s w)]), .v (.c (.int .i64 n))]⟩
noncomputable def ot0 (l : List Fr) : Cfg := ⟨[.code (bodyOf Try.f69)], .normal, initSt Try.f69.ntmps [.v (.c (.sl (.s l)))]⟩
noncomputable def re0 (log : Int) (w : U4) : Cfg := ⟨[.code (bodyOf Try.f28)], .normal, initSt Try.f28.ntmps [.v (.a [.int .i64 log, .ob (.fr w)])]⟩
noncomputable def lk0 (a b : List U4) : Cfg := ⟨[.code (bodyOf Try.f27)], .normal, initSt Try.f27.ntmps [.v (.c (.sl (.fr a))), .v (.c (.sl (.fr b)))]⟩
--@env envM envM_ok
noncomputable def psIn_k : List KI := (run envM false 3000 ((fun (w : Fr) (n : Int) => (ps0 w n : Cfg)) default default) []).cfg.k
theorem psIn_at (w : Fr) (n : Int) : runAt envM false 3000 ((ps0 w n : Cfg)) [] [2, 5, 6, 12, 13] [16, 64, 112] [] = some ⟨[((0 : Int) ≤ n), (n = n), (((32 : Int) * n) ≤ (281474976710656 : Int)), (n ≤ (9223372036854775807 : Int)), ((0 : Int) ≤ (1 : Int)), ((1 : Int) < (18446744073709551616 : Int))], Exit.normal, [(SV.v (V1.c (It.ptr 16 0))), (SV.v (V1.c (It.slc 64 0 (n).toNat 4))), (SV.v (V1.c (It.ptr 112 0))), (SV.v (V1.c (It.int IntKind.i64 (((n).toNat : Nat) : Int)))), (SV.v (V1.c (It.int IntKind.i64 (0 : Int))))], [(Option.some (En.fl [(It.ob (Ob.s w))])), (Option.some (En.sq (Sq.s (List.replicate (n).toNat (0 : Fr))))), (Option.some (En.fl [(It.ob (Ob.s (Fin.ofNat rN 1)))]))], 25, 192, []⟩ := by kernel_rfl
theorem psIn_hk (w : Fr) (n : Int) : (run envM false 3000 ((ps0 w n : Cfg)) []).cfg.k = psIn_k := by kernel_rfl
theorem psIn (w : Fr) (n : Int) {w0 : World} {F0 : Nat → Prop} {K : Kp} {ac : List Act} {Q : Exit → Act → World → Prop} {cX : Ctx} {aX : Act} (ho : AllP [((0 : Int) ≤ n), (n = n), (((32 : Int) * n) ≤ (281474976710656 : Int)), (n ≤ (9223372036854775807 : Int)), ((0 : Int) ≤ (1 : Int)), ((1 : Int) < (18446744073709551616 : Int))]) (hs : Sim w0 F0 K ac (((ps0 w n : Cfg)).σ) cX aX) (hK : ∀ ac cY aY, Sim w0 F0 K ac (mkSt 25 [2, 5, 6, 12, 13] [(.v (.c (.ptr 16 0))), (.v (.c (.slc 64 0 (n).toNat 4))), (.v (.c (.ptr 112 0))), (.v (.c (.int .i64 (((n).toNat : Nat) : Int)))), (.v (.c (.int .i64 (0 : Int))))] [16, 64, 112] [(some (.fl [(.ob (.s w))])), (some (.sq (.s (List.replicate (n).toNat (0 : Fr))))), (some (.fl [(.ob (.s (Fin.ofNat rN 1)))]))] 192 [] []) cY aY → Wq Try.prog Q (psIn_k) ac Exit.normal aY cY.w) : Wq Try.prog Q (((ps0 w n : Cfg)).k) ac ((ps0 w n : Cfg)).x aX cX.w :=
  run_at envM_ok (psIn_at w n) (psIn_hk w n) ho hs hK
noncomputable def otIn_k : List KI := (run envM false 3000 ((fun (l : List Fr) => (ot0 l : Cfg)) default) []).cfg.k
theorem otIn_at (l : List Fr) : runAt envM false 3000 ((ot0 l : Cfg)) [] [3, 9, 10, 11] [64] [] = some ⟨[((0 : Int) ≤ (((List.length l) : Nat) : Int)), ((((List.length l) : Nat) : Int) = (((List.length l) : Nat) : Int)), (((32 : Int) * (((List.length l) : Nat) : Int)) ≤ (281474976710656 : Int)), ((((List.length l) : Nat) : Int) ≤ (9223372036854775807 : Int))], Exit.normal, [(SV.v (V1.c (It.slc 64 0 ((((List.length l) : Nat) : Int)).toNat 4))), (SV.v (V1.c (It.sl (Sq.s l)))), (SV.v (V1.c (It.int IntKind.i64 (((List.length l) : Nat) : Int)))), (SV.v (V1.c (It.int IntKind.i64 (0 : Int))))], [(Option.some (En.sq (Sq.fr (List.replicate ((((List.length l) : Nat) : Int)).toNat (0 : U4)))))], 23, 144, []⟩ := by kernel_rfl
theorem otIn_hk (l : List Fr) : (run envM false 3000 ((ot0 l : Cfg)) []).cfg.k = otIn_k := by kernel_rfl
theorem otIn (l : List Fr) {w0 : World} {F0 : Nat → Prop} {K : Kp} {ac : List Act} {Q : Exit → Act → World → Prop} {cX : Ctx} {aX : Act} (ho : AllP [((0 : Int) ≤ (((List.length l) : Nat) : Int)), ((((List.length l) : Nat) : Int) = (((List.length l) : Nat) : Int)), (((32 : Int) * (((List.length l) : Nat) : Int)) ≤ (281474976710656 : Int)), ((((List.length l) : Nat) : Int) ≤ (9223372036854775807 : Int))]) (hs : Sim w0 F0 K ac (((ot0 l : Cfg)).σ) cX aX) (hK : ∀ ac cY aY, Sim w0 F0 K ac (mkSt 23 [3, 9, 10, 11] [(.v (.c (.slc 64 0 ((((List.length l) : Nat) : Int)).toNat 4))), (.v (.c (.sl (.s l)))), (.v (.c (.int .i64 (((List.length l) : Nat) : Int)))), (.v (.c (.int .i64 (0 : Int))))] [64] [(some (.sq (.fr (List.replicate ((((List.length l) : Nat) : Int)).toNat (0 : U4)))))] 144 [] []) cY aY → Wq Try.prog Q (otIn_k) ac Exit.normal aY cY.w) : Wq Try.prog Q (((ot0 l : Cfg)).k) ac ((ot0 l : Cfg)).x aX cX.w :=
  run_at envM_ok (otIn_at l) (otIn_hk l) ho hs hK
noncomputable def reIn_k : List KI := (run envM false 3000 ((fun (log : Int) (w : U4) => (re0 log w : Cfg)) default default) []).cfg.k
theorem reIn_at (log : Int) (w : U4) : runAt envM false 3000 ((re0 log w : Cfg)) [] [1, 3, 4, 5] [16, 48, 96] [] = some ⟨[((0 : Int) ≤ (1 : Int)), ((1 : Int) < (18446744073709551616 : Int)), ((0 : Int) ≤ (0 : Int)), ((0 : Int) < (18446744073709551616 : Int)), ((0 : Int) ≤ (0 : Int)), ((0 : Int) < (18446744073709551616 : Int)), ((0 : Int) ≤ (0 : Int)), ((0 : Int) < (18446744073709551616 : Int))], Exit.normal, [(SV.v (V1.c (It.ptr 16 0))), (SV.v (V1.c (It.slc 48 0 0 4))), (SV.v (V1.c (It.ptr 96 0))), (SV.v (V1.c (It.int IntKind.i64 (0 : Int))))], [(Option.some (En.fl [(It.int IntKind.i64 log), (It.ob (Ob.fr w))])), (Option.some (En.sq (Sq.fr ([] : List U4)))), (Option.some (En.fl [(It.ob (Ob.fr (Fin.ofNat B4 1)))]))], 25, 144, []⟩ := by kernel_rfl
theorem reIn_hk (log : Int) (w : U4) : (run envM false 3000 ((re0 log w : Cfg)) []).cfg.k = reIn_k := by kernel_rfl
theorem reIn (log : Int) (w : U4) {w0 : World} {F0 : Nat → Prop} {K : Kp} {ac : List Act} {Q : Exit → Act → World → Prop} {cX : Ctx} {aX : Act} (ho : AllP [((0 : Int) ≤ (1 : Int)), ((1 : Int) < (18446744073709551616 : Int)), ((0 : Int) ≤ (0 : Int)), ((0 : Int) < (18446744073709551616 : Int)), ((0 : Int) ≤ (0 : Int)), ((0 : Int) < (18446744073709551616 : Int)), ((0 : Int) ≤ (0 : Int)), ((0 : Int) < (18446744073709551616 : Int))]) (hs : Sim w0 F0 K ac (((re0 log w : Cfg)).σ) cX aX) (hK : ∀ ac cY aY, Sim w0 F0 K ac (mkSt 25 [1, 3, 4, 5] [(.v (.c (.ptr 16 0))), (.v (.c (.slc 48 0 0 4))), (.v (.c (.ptr 96 0))), (.v (.c (.int .i64 (0 : Int))))] [16, 48, 96] [(some (.fl [(.int .i64 log), (.ob (.fr w))])), (some (.sq (.fr ([] : List U4)))), (some (.fl [(.ob (.fr (Fin.ofNat B4 1)))]))] 144 [] []) cY aY → Wq Try.prog Q (reIn_k) ac Exit.normal aY cY.w) : Wq Try.prog Q (((re0 log w : Cfg)).k) ac ((re0 log w : Cfg)).x aX cX.w :=
  run_at envM_ok (reIn_at log w) (reIn_hk log w) ho hs hK
noncomputable def psS (w : Fr) (N : Nat) (L : List Fr) (x : Fr) (i : Nat) : St := mkSt 25 [2, 5, 6, 12, 13] [(SV.v (V1.c (It.ptr 16 0))), .v (.c (.slc 64 0 N 4)), (SV.v (V1.c (It.ptr 112 0))), .v (.c (.int .i64 (N : Int))), .v (.c (.int .i64 (i : Int)))] [16, 64, 112] [(Option.some (En.fl [(It.ob (Ob.s w))])), some (.sq (.s L)), some (.fl [.ob (.s x)])] 192 [] []
theorem psN_hk (w : Fr) (N : Nat) (L : List Fr) (x : Fr) (i : Nat) : (run envM false 3000 ((⟨lpIn psIn_k, .normal, psS w N L x i⟩ : Cfg)) [true]).cfg.k = lpBk psIn_k := by kernel_rfl
theorem psN (w : Fr) (N : Nat) (L : List Fr) (x : Fr) (i : Nat) {w0 : World} {F0 : Nat → Prop} {K : Kp} {ac : List Act} {Q : Exit → Act → World → Prop} {cX : Ctx} {aX : Act} (ho : AllP [((decide (((i : Nat) : Int) < ((N : Nat) : Int))) = true), ((0 : Int) ≤ ((i : Nat) : Int)), (((i : Nat) : Int) < ((N : Nat) : Int)), (0 = 0), ((((i : Nat) : Int)).toNat < (List.length L))]) (hs : Sim w0 F0 K ac (psS w N L x i) cX aX) (hK : ∀ ac cY aY, Sim w0 F0 K ac (mkSt 25 [2, 5, 6, 12, 13] [(.v (.c (.ptr 16 0))), (.v (.c (.slc 64 0 N 4))), (.v (.c (.ptr 112 0))), (.v (.c (.int .i64 ((N : Nat) : Int)))), (.v (.c (.int .i64 (IntKind.wrap .i64 (((i : Nat) : Int) + (1 : Int))))))] [16, 64, 112] [(some (.fl [(.ob (.s w))])), (some (.sq (.s (List.set L (((i : Nat) : Int)).toNat x)))), (some (.fl [(.ob (.s (x * w)))]))] 416 [] []) cY aY → Wq Try.prog Q (lpBk psIn_k) ac Exit.normal aY cY.w) : Wq Try.prog Q (lpIn psIn_k) ac .normal aX cX.w :=
  run_at2 (o := ⟨_, _, _, _, _, _, _⟩) envM_ok (by kernel_rfl) (psN_hk w N L x i) ho hs hK
theorem psX_end (w : Fr) (N : Nat) (L : List Fr) (x : Fr) (i : Nat) : runEnd envM Try.f70 false 3000 (⟨lpIn psIn_k, .normal, psS w N L x i⟩) [false] [64] [] = (Option.some ([((decide (((i : Nat) : Int) < ((N : Nat) : Int))) = false)], ((SV.v (V1.c (It.slc 0 0 N 4))), [(En.sq (Sq.s L))]))) := by kernel_rfl
noncomputable def otS (l : List Fr) (N : Nat) (L : List U4) (i : Nat) : St := mkSt 23 [3, 9, 10, 11] [.v (.c (.slc 64 0 N 4)), (SV.v (V1.c (It.sl (Sq.s l)))), .v (.c (.int .i64 (N : Int))), .v (.c (.int .i64 (i : Int)))] [64] [some (.sq (.fr L))] 144 [] []
theorem otN_hk (l : List Fr) (N : Nat) (L : List U4) (i : Nat) : (run envM false 3000 ((⟨lpIn otIn_k, .normal, otS l N L i⟩ : Cfg)) [true]).cfg.k = lpBk otIn_k := by kernel_rfl
theorem otN (l : List Fr) (N : Nat) (L : List U4) (i : Nat) {w0 : World} {F0 : Nat → Prop} {K : Kp} {ac : List Act} {Q : Exit → Act → World → Prop} {cX : Ctx} {aX : Act} (ho : AllP [((decide (((i : Nat) : Int) < ((N : Nat) : Int))) = true), ((0 : Int) ≤ ((i : Nat) : Int)), (((i : Nat) : Int) < (((List.length l) : Nat) : Int)), ((0 : Int) ≤ ((i : Nat) : Int)), (((i : Nat) : Int) < ((N : Nat) : Int)), (0 = 0), ((((i : Nat) : Int)).toNat < (List.length L))]) (hs : Sim w0 F0 K ac (otS l N L i) cX aX) (hK : ∀ ac cY aY, Sim w0 F0 K ac (mkSt 23 [3, 9, 10, 11] [(.v (.c (.slc 64 0 N 4))), (.v (.c (.sl (.s l)))), (.v (.c (.int .i64 ((N : Nat) : Int)))), (.v (.c (.int .i64 (IntKind.wrap .i64 (((i : Nat) : Int) + (1 : Int))))))] [64] [(some (.sq (.fr (List.set L (((i : Nat) : Int)).toNat (outF (List.getD l (((i : Nat) : Int)).toNat (0 : Fr)))))))] 384 [] []) cY aY → Wq Try.prog Q (lpBk otIn_k) ac Exit.normal aY cY.w) : Wq Try.prog Q (lpIn otIn_k) ac .normal aX cX.w :=
  run_at2 (o := ⟨_, _, _, _, _, _, _⟩) envM_ok (by kernel_rfl) (otN_hk l N L i) ho hs hK
theorem otX_end (l : List Fr) (N : Nat) (L : List U4) (i : Nat) : runEnd envM Try.f69 false 3000 (⟨lpIn otIn_k, .normal, otS l N L i⟩) [false] [64] [] = (Option.some ([((decide (((i : Nat) : Int) < ((N : Nat) : Int))) = false)], ((SV.v (V1.c (It.slc 0 0 N 4))), [(En.sq (Sq.fr L))]))) := by kernel_rfl
noncomputable def reS (log : Int) (w : U4) (N : Nat) (L : List U4) (x : U4) (i : Nat) : St := mkSt 25 [1, 3, 4, 5] [(SV.v (V1.c (It.ptr 16 0))), .v (.c (.slc 48 0 N 4)), (SV.v (V1.c (It.ptr 96 0))), .v (.c (.int .i64 (i : Int)))] [16, 48, 96] [(Option.some (En.fl [(It.int IntKind.i64 log), (It.ob (Ob.fr w))])), some (.sq (.fr L)), some (.fl [.ob (.fr x)])] 144 [] []
theorem reN_hk (log : Int) (w : U4) (N : Nat) (L : List U4) (x : U4) (i : Nat) : (run envM false 3000 ((⟨lpIn reIn_k, .normal, reS log w N L x i⟩ : Cfg)) [true]).cfg.k = lpBk reIn_k := by kernel_rfl
theorem reN (log : Int) (w : U4) (N : Nat) (L : List U4) (x : U4) (i : Nat) {w0 : World} {F0 : Nat → Prop} {K : Kp} {ac : List Act} {Q : Exit → Act → World → Prop} {cX : Ctx} {aX : Act} (ho : AllP [((0 : Int) ≤ (IntKind.wrap .u64 log)), ((decide (((i : Nat) : Int) < (IntKind.wrap .i64 ((1 : Int) * ((2 : Int) ^ (Min.min ((IntKind.wrap .u64 log)).toNat 64)))))) = true), ((((List.length L) + (List.length ([] ++ [x]))) * 32) ≤ 140737488355328), (((List.length L) + (List.length ([] ++ [x]))) ≤ maxLen), (N = (List.length L)), (1 = (List.length ([] ++ [x]))), ((Fin.val w) < rN)]) (hs : Sim w0 F0 K ac (reS log w N L x i) cX aX) (hK : ∀ ac cY aY, Sim w0 F0 K ac (mkSt 25 [1, 3, 4, 5] [(.v (.c (.ptr 16 0))), (.v (.c (.slc 48 0 ((List.length L) + (List.length ([] ++ [x]))) 4))), (.v (.c (.ptr 96 0))), (.v (.c (.int .i64 (IntKind.wrap .i64 (((i : Nat) : Int) + (1 : Int))))))] [16, 48, 96] [(some (.fl [(.int .i64 log), (.ob (.fr w))])), (some (.sq (.fr (L ++ ([] ++ [x]))))), (some (.fl [(.ob (.fr (mulU x w)))]))] 448 [] []) cY aY → Wq Try.prog Q (lpBk reIn_k) ac Exit.normal aY cY.w) : Wq Try.prog Q (lpIn reIn_k) ac .normal aX cX.w :=
  run_at2 (o := ⟨_, _, _, _, _, _, _⟩) envM_ok (by kernel_rfl) (reN_hk log w N L x i) ho hs hK
theorem reX_end (log : Int) (w : U4) (N : Nat) (L : List U4) (x : U4) (i : Nat) : runEnd envM Try.f28 false 3000 (⟨lpIn reIn_k, .normal, reS log w N L x i⟩) [false] [48] [] = (Option.some ([((0 : Int) ≤ (IntKind.wrap IntKind.u64 log)), ((decide (((i : Nat) : Int) < (IntKind.wrap IntKind.i64 ((1 : Int) * ((2 : Int) ^ (Min.min ((IntKind.wrap IntKind.u64 log)).toNat 64)))))) = false)], ((SV.v (V1.c (It.slc 0 0 N 4))), [(En.sq (Sq.fr L))]))) := by kernel_rfl
theorem lkA_end (a b : List U4) : runEnd envM Try.f27 false 3000 (lk0 a b) [true] [] [] = (Option.some ([(((((List.length a) : Nat) : Int) != (((List.length b) : Nat) : Int)) = true)], ((SV.v (V1.c (It.lit false))), []))) := by kernel_rfl
noncomputable def lkIn_k : List KI := (run envM false 3000 ((fun (a b : List U4) => (lk0 a b : Cfg)) default default) [false]).cfg.k
theorem lkIn_at (a b : List U4) : runAt envM false 3000 ((lk0 a b : Cfg)) [false] [0, 1, 12, 13] [] [] = some ⟨[(((((List.length a) : Nat) : Int) != (((List.length b) : Nat) : Int)) = false)], Exit.normal, [(SV.v (V1.c (It.sl (Sq.fr a)))), (SV.v (V1.c (It.sl (Sq.fr b)))), (SV.v (V1.c (It.int IntKind.i64 (((List.length a) : Nat) : Int)))), (SV.v (V1.c (It.int IntKind.i64 (0 : Int))))], [], 26, 160, []⟩ := by kernel_rfl
theorem lkIn_hk (a b : List U4) : (run envM false 3000 ((lk0 a b : Cfg)) [false]).cfg.k = lkIn_k := by kernel_rfl
theorem lkIn (a b : List U4) {w0 : World} {F0 : Nat → Prop} {K : Kp} {ac : List Act} {Q : Exit → Act → World → Prop} {cX : Ctx} {aX : Act} (ho : AllP [(((((List.length a) : Nat) : Int) != (((List.length b) : Nat) : Int)) = false)]) (hs : Sim w0 F0 K ac (((lk0 a b : Cfg)).σ) cX aX) (hK : ∀ ac cY aY, Sim w0 F0 K ac (mkSt 26 [0, 1, 12, 13] [(.v (.c (.sl (.fr a)))), (.v (.c (.sl (.fr b)))), (.v (.c (.int .i64 (((List.length a) : Nat) : Int)))), (.v (.c (.int .i64 (0 : Int))))] [] [] 160 [] []) cY aY → Wq Try.prog Q (lkIn_k) ac Exit.normal aY cY.w) : Wq Try.prog Q (((lk0 a b : Cfg)).k) ac ((lk0 a b : Cfg)).x aX cX.w :=
  run_at envM_ok (lkIn_at a b) (lkIn_hk a b) ho hs hK
noncomputable def lkS (a b : List U4) (N i : Nat) : St := mkSt 26 [0, 1, 12, 13] [(SV.v (V1.c (It.sl (Sq.fr a)))), (SV.v (V1.c (It.sl (Sq.fr b)))), .v (.c (.int .i64 (N : Int))), .v (.c (.int .i64 (i : Int)))] [] [] 160 [] []
theorem lkN_hk (a b : List U4) (N i : Nat) : (run envM false 3000 ((⟨lpIn lkIn_k, .normal, lkS a b N i⟩ : Cfg)) [true, false]).cfg.k = lpBk lkIn_k := by kernel_rfl
theorem lkN (a b : List U4) (N i : Nat) {w0 : World} {F0 : Nat → Prop} {K : Kp} {ac : List Act} {Q : Exit → Act → World → Prop} {cX : Ctx} {aX : Act} (ho : AllP [((decide (((i : Nat) : Int) < ((N : Nat) : Int))) = true), ((0 : Int) ≤ ((i : Nat) : Int)), (((i : Nat) : Int) < (((List.length a) : Nat) : Int)), ((0 : Int) ≤ ((i : Nat) : Int)), (((i : Nat) : Int) < (((List.length b) : Nat) : Int)), ((ite (false = true) (decide ((List.getD a (((i : Nat) : Int)).toNat (0 : U4)) = (List.getD b (((i : Nat) : Int)).toNat (0 : U4)))) (Bool.not (decide ((List.getD a (((i : Nat) : Int)).toNat (0 : U4)) = (List.getD b (((i : Nat) : Int)).toNat (0 : U4)))))) = false)]) (hs : Sim w0 F0 K ac (lkS a b N i) cX aX) (hK : ∀ ac cY aY, Sim w0 F0 K ac (mkSt 26 [0, 1, 12, 13] [(.v (.c (.sl (.fr a)))), (.v (.c (.sl (.fr b)))), (.v (.c (.int .i64 ((N : Nat) : Int)))), (.v (.c (.int .i64 (IntKind.wrap .i64 (((i : Nat) : Int) + (1 : Int))))))] [] [] 384 [] []) cY aY → Wq Try.prog Q (lpBk lkIn_k) ac Exit.normal aY cY.w) : Wq Try.prog Q (lpIn lkIn_k) ac .normal aX cX.w :=
  run_at2 (o := ⟨_, _, _, _, _, _, _⟩) envM_ok (by kernel_rfl) (lkN_hk a b N i) ho hs hK
theorem lkB_end (a b : List U4) (N i : Nat) : runEnd envM Try.f27 false 3000 (⟨lpIn lkIn_k, .normal, lkS a b N i⟩) [true, true] [] [] = (Option.some ([((decide (((i : Nat) : Int) < ((N : Nat) : Int))) = true), ((0 : Int) ≤ ((i : Nat) : Int)), (((i : Nat) : Int) < (((List.length a) : Nat) : Int)), ((0 : Int) ≤ ((i : Nat) : Int)), (((i : Nat) : Int) < (((List.length b) : Nat) : Int)), ((ite (false = true) (decide ((List.getD a (((i : Nat) : Int)).toNat (0 : U4)) = (List.getD b (((i : Nat) : Int)).toNat (0 : U4)))) (Bool.not (decide ((List.getD a (((i : Nat) : Int)).toNat (0 : U4)) = (List.getD b (((i : Nat) : Int)).toNat (0 : U4)))))) = true)], ((SV.v (V1.c (It.lit false))), []))) := by kernel_rfl
theorem lkX_end (a b : List U4) (N i : Nat) : runEnd envM Try.f27 false 3000 (⟨lpIn lkIn_k, .normal, lkS a b N i⟩) [false] [] [] = (Option.some ([((decide (((i : Nat) : Int) < ((N : Nat) : Int))) = false)], ((SV.v (V1.c (It.lit true))), []))) := by kernel_rfl
end Go.Proofs.Ytlfllehomhcbfaa

/- Powers, a row of elements, the rows' comparison: contracts. No conditions. -/
namespace Go.Proofs.Ytlfllehomhcbfaa

/-- A row that is filled from its front. -/
theorem fill_set {α : Type} (f : Nat → α) (z : α) {i N : Nat} (h : i < N) : ((List.range i).map f ++ List.replicate (N - i) z).set i (f i) = (List.range (i + 1)).map f ++ List.replicate (N - (i + 1)) z := by
  rw [List.set_append_right _ _ (by simp)]
  have e : N - i = (N - (i + 1)) + 1 := by omega
  rw [e, List.replicate_succ]
  simp [List.range_succ]

theorem fill_len {α : Type} (f : Nat → α) (z : α) {i N : Nat} (h : i ≤ N) : ((List.range i).map f ++ List.replicate (N - i) z).length = N := by
  simp
  omega

theorem range_getD {α β : Type} (g : α → β) (l : List α) (d : α) : (List.range l.length).map (fun i => g (l.getD i d)) = l.map g := by
  apply List.ext_getElem
  · simp
  · intro i h1 h2
    simp at h1
    simp [List.getD, h1]

def powF (w : Fr) (n : Nat) : List Fr := (List.range n).map (powN w)

theorem powers_fnd (w : Fr) (n : Nat) (hn : n ≤ 8796093022208) : FnD Try.prog 70 [.v (.a [.ob (.s w)]), .v (.c (.int .i64 (n : Int)))] (.v (.c (.slc 0 0 n 4))) [.sq (.s (powF w n))] := by
  refine fn_start (fn := Try.f70) (c := bodyOf Try.f70) Try.func70 rfl rfl fun x a hk hF hs => ?_
  refine psIn w n (by and_intros <;> first | trivial | decide | omega) hs fun ac cY aY hs1 => ?_
  rw [Int.toNat_natCast] at hs1
  refine loop_rule (ι := { i : Nat // i ≤ n }) (fun i => psS w n ((List.range i.1).map (powN w) ++ List.replicate (n - i.1) 0) (powN w i.1) i.1) (fun i => n - i.1) (c := lpC psIn_k) (k := lpR psIn_k) (by kernel_rfl) (fun i ih ac cY aY hs => ?_) ⟨0, Nat.zero_le _⟩ hs1
  obtain ⟨i, hi⟩ := i
  simp only at ih hs
  have hl := fill_len (powN w) 0 hi
  by_cases h : i < n
  · refine psN w n _ _ i ⟨by simp [h], by omega, by omega, rfl, by rw [hl]; omega, trivial⟩ hs fun ac cY aY hs2 => ?_
    rw [Int.toNat_natCast, fill_set _ _ h, wrap_id (by omega) (by omega)] at hs2
    exact ih ⟨i + 1, by omega⟩ (by show n - (i + 1) < n - i; omega) ac cY aY (hs2.nx _)
  · obtain rfl : i = n := by omega
    rw [Nat.sub_self, List.replicate_zero, List.append_nil] at hs
    exact run_end2 envM_ok hk hF (psX_end w i _ _ i) ⟨by simp, trivial⟩ (fun y v hd => hd) hs

theorem out69_fnd (l : List Fr) (hl0 : l.length ≤ 8796093022208) : FnD Try.prog 69 [.v (.c (.sl (.s l)))] (.v (.c (.slc 0 0 l.length 4))) [.sq (.fr (l.map outF))] := by
  refine fn_start (fn := Try.f69) (c := bodyOf Try.f69) Try.func69 rfl rfl fun x a hk hF hs => ?_
  refine otIn l (by and_intros <;> first | trivial | decide | omega) hs fun ac cY aY hs1 => ?_
  rw [Int.toNat_natCast] at hs1
  refine loop_rule (ι := { i : Nat // i ≤ l.length }) (fun i => otS l l.length ((List.range i.1).map (fun i => outF (l.getD i 0)) ++ List.replicate (l.length - i.1) 0) i.1) (fun i => l.length - i.1) (c := lpC otIn_k) (k := lpR otIn_k) (by kernel_rfl) (fun i ih ac cY aY hs => ?_) ⟨0, Nat.zero_le _⟩ hs1
  obtain ⟨i, hi⟩ := i
  simp only at ih hs
  have hl := fill_len (fun i => outF (l.getD i 0)) 0 hi
  by_cases h : i < l.length
  · refine otN l l.length _ i ⟨by simp [h], by omega, by omega, by omega, by omega, rfl, by rw [hl]; omega, trivial⟩ hs fun ac cY aY hs2 => ?_
    rw [Int.toNat_natCast, fill_set (fun i => outF (l.getD i 0)) _ h, wrap_id (by omega) (by omega)] at hs2
    exact ih ⟨i + 1, by omega⟩ (by show l.length - (i + 1) < l.length - i; omega) ac cY aY (hs2.nx _)
  · have e : i = l.length := by omega
    rw [e, Nat.sub_self, List.replicate_zero, List.append_nil, range_getD] at hs
    exact run_end2 envM_ok hk hF (otX_end l l.length _ l.length) ⟨by simp, trivial⟩ (fun y v hd => hd) hs

theorem shl1 (k : Nat) (h : k ≤ 30) : IntKind.wrap IntKind.i64 ((1 : Int) * ((2 : Int) ^ (Min.min ((IntKind.wrap IntKind.u64 (k : Int))).toNat 64))) = ((2 ^ k : Nat) : Int) ∧ 2 ^ k ≤ 1073741824 := by
  have h2 : (2 : Nat) ^ k ≤ 2 ^ 30 := Nat.pow_le_pow_right (by decide) h
  have h3 : (2 : Nat) ^ 30 = 1073741824 := by decide
  rw [wrap_u (by omega) (by omega), Int.toNat_natCast, Nat.min_eq_left (by omega), Int.one_mul]
  have e : ((2 : Int) ^ k) = ((2 ^ k : Nat) : Int) := by simp
  rw [e]
  generalize 2 ^ k = m at h2
  rw [wrap_id (by omega) (by omega)]
  exact ⟨rfl, by omega⟩

theorem in_out (x : Fr) : inF (outF x) = x := by
  apply Fin.ext
  show (outF x).val % rN = x.val
  rw [outF_val, Nat.mod_eq_of_lt x.isLt]

theorem refElems_fnd (k : Nat) (w : Fr) (hk0 : k ≤ 30) : FnD Try.prog 28 [.v (.a [.int .i64 (k : Int), .ob (.fr (outF w))])] (.v (.c (.slc 0 0 (2 ^ k) 4))) [.sq (.fr ((powF w (2 ^ k)).map outF))] := by
  refine fn_start (fn := Try.f28) (c := bodyOf Try.f28) Try.func28 rfl rfl fun x a hk hF hs => ?_
  refine reIn k (outF w) (by and_intros <;> first | trivial | decide) hs fun ac cY aY hs1 => ?_
  rw [← out_one1] at hs1
  obtain ⟨e1, e2⟩ := shl1 k hk0
  refine loop_rule (ι := { i : Nat // i ≤ 2 ^ k }) (fun i => reS k (outF w) i.1 ((powF w i.1).map outF) (outF (powN w i.1)) i.1) (fun i => 2 ^ k - i.1) (c := lpC reIn_k) (k := lpR reIn_k) (by kernel_rfl) (fun i ih ac cY aY hs => ?_) ⟨0, Nat.zero_le _⟩ hs1
  obtain ⟨i, hi⟩ := i
  simp only at ih hs
  have hl : ((powF w i).map outF).length = i := by simp [powF]
  have hw : 0 ≤ IntKind.wrap IntKind.u64 (k : Int) := by rw [wrap_u (by omega) (by omega)]; omega
  have hl1 : ([] ++ [outF (powN w i)]).length = 1 := rfl
  by_cases h : i < 2 ^ k
  · refine reN k (outF w) i _ _ i ⟨hw, by rw [e1]; simp only [decide_eq_true_eq]; exact_mod_cast h, by rw [hl, hl1]; omega, by rw [hl, hl1]; unfold maxLen; omega, hl.symm, hl1.symm, outF_lt _, trivial⟩ hs fun ac cY aY hs2 => ?_
    have e3 : (powF w i).map outF ++ ([] ++ [outF (powN w i)]) = (powF w (i + 1)).map outF := by simp [powF, List.range_succ]
    rw [hl, hl1, e3, mulU_out, wrap_id (by omega) (by omega)] at hs2
    exact ih ⟨i + 1, by omega⟩ (by show 2 ^ k - (i + 1) < 2 ^ k - i; omega) ac cY aY (hs2.nx _)
  · have e : i = 2 ^ k := by omega
    rw [e] at hs
    exact run_end2 envM_ok hk hF (reX_end k (outF w) (2 ^ k) _ _ (2 ^ k)) ⟨hw, by rw [e1]; simp, trivial⟩ (fun y v hd => hd) hs

theorem like_fnd (a b : List U4) : FnD Try.prog 27 [.v (.c (.sl (.fr a))), .v (.c (.sl (.fr b)))] (.v (.c (.bool (decide (a = b))))) [] := by
  refine fn_start (fn := Try.f27) (c := bodyOf Try.f27) Try.func27 rfl rfl fun x a0 hk hF hs => ?_
  have hla := sl_len (q := .fr a) (hs.t 0)
  by_cases hab : a.length = b.length
  · refine lkIn a b ⟨by simp [hab], trivial⟩ hs fun ac cY aY hs1 => ?_
    refine loop_rule (ι := { i : Nat // i ≤ a.length ∧ a.take i = b.take i }) (fun i => lkS a b a.length i.1) (fun i => a.length - i.1) (c := lpC lkIn_k) (k := lpR lkIn_k) (by kernel_rfl) (fun i ih ac cY aY hs => ?_) ⟨0, Nat.zero_le _, rfl⟩ hs1
    obtain ⟨i, hi, ht⟩ := i
    simp only at ih hs
    by_cases h : i < a.length
    · have hg : a.getD i 0 = a[i] := by simp [List.getD, h]
      have hg' : b.getD i 0 = b[i]'(by omega) := by simp [List.getD, show i < b.length from by omega]
      by_cases he : a.getD i 0 = b.getD i 0
      · refine lkN a b a.length i ⟨by simp [h], by omega, by omega, by omega, by omega, by rw [Int.toNat_natCast, decide_eq_true he]; rfl, trivial⟩ hs fun ac cY aY hs2 => ?_
        have : a.length ≤ maxLen := hla
        unfold maxLen at this
        rw [wrap_id (by omega) (by omega)] at hs2
        refine ih ⟨i + 1, by omega, ?_⟩ (by show a.length - (i + 1) < a.length - i; omega) ac cY aY (hs2.nx _)
        rw [List.take_succ_eq_append_getElem h, List.take_succ_eq_append_getElem (show i < b.length from by omega), ht, ← hg, ← hg', he]
      · refine run_end2 envM_ok hk hF (lkB_end a b a.length i) ⟨by simp [h], by omega, by omega, by omega, by omega, by rw [Int.toNat_natCast, decide_eq_false he]; rfl, trivial⟩ (fun y v hd => ?_) hs
        have hne : a ≠ b := fun e => he (by rw [e])
        rw [decide_eq_false hne]
        exact lit_bool rfl hd
    · have e : i = a.length := by omega
      refine run_end2 envM_ok hk hF (lkX_end a b a.length i) ⟨by simp [h], trivial⟩ (fun y v hd => ?_) hs
      have heq : a = b := by
        rw [e, List.take_length, hab, List.take_length] at ht
        exact ht
      rw [decide_eq_true heq]
      exact lit_bool rfl hd
  · refine run_end envM_ok hk hF (lkA_end a b) ⟨by simp only [bne_iff_ne, ne_eq]; omega, trivial⟩ (fun y v hd => ?_) hs
    have hne : a ≠ b := fun e => hab (by rw [e])
    rw [decide_eq_false hne]
    exact lit_bool rfl hd

end Go.Proofs.Ytlfllehomhcbfaa

/- A domain's elements; DomainMakes, walked. No conditions. -/
namespace Go.Proofs.Ytlfllehomhcbfaa

def powersSpec : FnSpec
  | [.v (.a [.ob (.s w)]), .v (.c (.int .i64 n))] => some ([0 ≤ n, n ≤ 8796093022208], .v (.c (.slc 0 0 n.toNat 4)), [.sq (.s (powF w n.toNat))])
  | _ => none
def out69Spec : FnSpec
  | [.v (.c (.sl (.s l)))] => some ([l.length ≤ 8796093022208], .v (.c (.slc 0 0 l.length 4)), [.sq (.fr (l.map outF))])
  | _ => none
def likeSpec : FnSpec
  | [.v (.c (.sl (.fr a))), .v (.c (.sl (.fr b)))] => some ([], .v (.c (.bool (decide (a = b)))), [])
  | _ => none
noncomputable def envN1 : Env := envM.set (addT envM.fn 70 powersSpec)
theorem envN1_ok : EnvOk Try.prog envN1 := env_add envM_ok 70 powersSpec (enters_of Try.func70 rfl rfl) fun args o r es h ho => by
  unfold powersSpec at h
  split at h
  · rename_i w n
    cases h
    obtain ⟨h0, h1, _⟩ := ho
    obtain ⟨m, rfl⟩ := Int.eq_ofNat_of_zero_le h0
    exact powers_fnd w m (by omega)
  · cases h
noncomputable def envN2 : Env := envN1.set (addT envN1.fn 69 out69Spec)
theorem envN2_ok : EnvOk Try.prog envN2 := env_add envN1_ok 69 out69Spec (enters_of Try.func69 rfl rfl) fun args o r es h ho => by
  unfold out69Spec at h
  split at h
  · cases h; exact out69_fnd _ ho.1
  · cases h
noncomputable def envN : Env := envN2.set (addT envN2.fn 27 likeSpec)
theorem envN_ok : EnvOk Try.prog envN := env_add envN2_ok 27 likeSpec (enters_of Try.func27 rfl rfl) fun args o r es h _ => by
  unfold likeSpec at h
  split at h
  · cases h; exact like_fnd _ _
  · cases h

--@env envN envN_ok
theorem elA (log : Int) (w : U4) : fnRes envN Try.f26 3000 [.v (.a [.int .i64 log, .ob (.fr w)])] [true] [] [] = (Option.some ([((Bool.not (domOk log w)) = true)], ((SV.t [(V1.c (It.val (Value.slice Option.none 0 0))), (V1.c (It.int IntKind.i64 (40 : Int)))]), []))) := by kernel_rfl
theorem elB (log : Int) (w : U4) : fnRes envN Try.f26 3000 [.v (.a [.int .i64 log, .ob (.fr w)])] [false] [224] [] = (Option.some ([((Bool.not (domOk log w)) = false), ((0 : Int) ≤ log), ((0 : Int) ≤ (IntKind.wrap IntKind.i64 ((1 : Int) * ((2 : Int) ^ (Min.min (log).toNat 64))))), ((IntKind.wrap IntKind.i64 ((1 : Int) * ((2 : Int) ^ (Min.min (log).toNat 64)))) ≤ (8796093022208 : Int)), (0 = 0), (((IntKind.wrap IntKind.i64 ((1 : Int) * ((2 : Int) ^ (Min.min (log).toNat 64))))).toNat = (List.length (powF (inF w) ((IntKind.wrap IntKind.i64 ((1 : Int) * ((2 : Int) ^ (Min.min (log).toNat 64))))).toNat))), (4 = 4), ((List.length (powF (inF w) ((IntKind.wrap IntKind.i64 ((1 : Int) * ((2 : Int) ^ (Min.min (log).toNat 64))))).toNat)) ≤ 8796093022208)], ((SV.t [(V1.c (It.slc 0 0 (List.length (powF (inF w) ((IntKind.wrap IntKind.i64 ((1 : Int) * ((2 : Int) ^ (Min.min (log).toNat 64))))).toNat)) 4)), (V1.c (It.int IntKind.i64 (0 : Int)))]), [(En.sq (Sq.fr (List.map outF (powF (inF w) ((IntKind.wrap IntKind.i64 ((1 : Int) * ((2 : Int) ^ (Min.min (log).toNat 64))))).toNat))))]))) := by kernel_rfl
def elemF (log : Int) (w : U4) : List U4 := if domOk log w then (powF (inF w) (2 ^ log.toNat)).map outF else []

theorem domOk_log {log : Int} {w : U4} (h : domOk log w = true) : 0 ≤ log ∧ log ≤ 16 ∧ w = outF (sqN rootF (32 - log).toNat) := by
  simp only [domOk, Bool.and_eq_true, decide_eq_true_eq] at h
  obtain ⟨h1, h2⟩ := h
  have h3 := h1
  simp only [okLog, Bool.and_eq_true, decide_eq_true_eq] at h1
  refine ⟨h1.1, h1.2, ?_⟩
  rw [← h2]
  unfold newRoot
  rw [if_pos h3]

theorem shl2 {log : Int} (h0 : 0 ≤ log) (h1 : log ≤ 30) : IntKind.wrap IntKind.i64 ((1 : Int) * ((2 : Int) ^ (Min.min (log).toNat 64))) = ((2 ^ log.toNat : Nat) : Int) ∧ 2 ^ log.toNat ≤ 1073741824 := by
  obtain ⟨k, rfl⟩ := Int.eq_ofNat_of_zero_le h0
  have h := shl1 k (by omega)
  rw [wrap_u (by omega) (by omega)] at h
  exact h

theorem powF_len (w : Fr) (n : Nat) : (powF w n).length = n := by simp [powF]

theorem elems_fnd (log : Int) (w : U4) : FnD Try.prog 26 [.v (.a [.int .i64 log, .ob (.fr w)])] (.t [.c (.slc 0 0 (elemF log w).length 4), .c (.int .i64 (if domOk log w then 0 else 40))]) [.sq (.fr (elemF log w))] := by
  cases h : domOk log w with
  | false =>
    have e : elemF log w = [] := by unfold elemF; rw [h]; rfl
    rw [e]
    exact (fn_sound envN_ok Try.func26 (elA log w) ⟨by rw [h]; rfl, trivial⟩).nil2 rfl
  | true =>
    obtain ⟨h0, h1, _⟩ := domOk_log h
    obtain ⟨e1, e2⟩ := shl2 h0 (by omega)
    have e : elemF log w = (powF (inF w) (2 ^ log.toNat)).map outF := by unfold elemF; rw [h]; rfl
    have r := elB log w
    rw [e1, Int.toNat_natCast, powF_len] at r
    rw [e, List.length_map, powF_len]
    generalize hm : 2 ^ log.toNat = m at r e2
    exact fn_sound envN_ok Try.func26 r ⟨by rw [h]; rfl, h0, by omega, by omega, rfl, rfl, rfl, by omega, trivial⟩

def elemSpec : FnSpec
  | [.v (.a [.int .i64 log, .ob (.fr w)])] => some ([], .t [.c (.slc 0 0 (elemF log w).length 4), .c (.int .i64 (if domOk log w then 0 else 40))], [.sq (.fr (elemF log w))])
  | _ => none
def relemSpec : FnSpec
  | [.v (.a [.int .i64 log, .ob (.fr w)])] => some ([0 ≤ log, log ≤ 16, w.val < rN], .v (.c (.slc 0 0 (2 ^ log.toNat) 4)), [.sq (.fr ((powF (inF w) (2 ^ log.toNat)).map outF))])
  | _ => none
noncomputable def envN3 : Env := envN.set (addT envN.fn 26 elemSpec)
theorem envN3_ok : EnvOk Try.prog envN3 := env_add envN_ok 26 elemSpec (enters_of Try.func26 rfl rfl) fun args o r es h _ => by
  unfold elemSpec at h
  split at h
  · cases h; exact elems_fnd _ _
  · cases h
noncomputable def envO : Env := envN3.set (addT envN3.fn 28 relemSpec)
theorem envO_ok : EnvOk Try.prog envO := env_add envN3_ok 28 relemSpec (enters_of Try.func28 rfl rfl) fun args o r es h ho => by
  unfold relemSpec at h
  split at h
  · rename_i log w
    cases h
    obtain ⟨h0, h1, h2, _⟩ := ho
    obtain ⟨k, rfl⟩ := Int.eq_ofNat_of_zero_le h0
    have hf := refElems_fnd k (inF w) (by omega)
    rw [out_in h2] at hf
    exact hf
  · cases h

--@env envO envO_ok
theorem mkA (log dl : Int) (dw : U4) : fnRes envO Try.f4 3000 [.v (.c (.int .i64 log)), .v (.a [.int .i64 dl, .ob (.fr dw)])] [false, false, false, true] [] [] = (Option.some ([((ite (false = true) (Bool.and ((ite ((okLog log) = true) log (0 : Int)) == (ite ((okLog log) = true) log (0 : Int))) (decide ((newRoot log) = (newRoot log)))) (Bool.not (Bool.and ((ite ((okLog log) = true) log (0 : Int)) == (ite ((okLog log) = true) log (0 : Int))) (decide ((newRoot log) = (newRoot log)))))) = false), (((ite ((okLog log) = true) (0 : Int) (40 : Int)) != (ite ((okLog log) = true) (0 : Int) (40 : Int))) = false), ((ite (false = true) ((domOk dl dw) == (domOk dl dw)) (Bool.not ((domOk dl dw) == (domOk dl dw)))) = false), ((decide (log > (6 : Int))) = true)], ((SV.v (V1.c (It.lit true))), []))) := by kernel_rfl
theorem mkB (log dl : Int) (dw : U4) : fnRes envO Try.f4 3000 [.v (.c (.int .i64 log)), .v (.a [.int .i64 dl, .ob (.fr dw)])] [false, false, false, false, true, true] [] [] = (Option.some ([((ite (false = true) (Bool.and ((ite ((okLog log) = true) log (0 : Int)) == (ite ((okLog log) = true) log (0 : Int))) (decide ((newRoot log) = (newRoot log)))) (Bool.not (Bool.and ((ite ((okLog log) = true) log (0 : Int)) == (ite ((okLog log) = true) log (0 : Int))) (decide ((newRoot log) = (newRoot log)))))) = false), (((ite ((okLog log) = true) (0 : Int) (40 : Int)) != (ite ((okLog log) = true) (0 : Int) (40 : Int))) = false), ((ite (false = true) ((domOk dl dw) == (domOk dl dw)) (Bool.not ((domOk dl dw) == (domOk dl dw)))) = false), ((decide (log > (6 : Int))) = false), (((ite ((okLog log) = true) (0 : Int) (40 : Int)) != (0 : Int)) = true), (((ite ((domOk (ite ((okLog log) = true) log (0 : Int)) (newRoot log)) = true) (0 : Int) (40 : Int)) == (40 : Int)) = true)], ((SV.v (V1.c (It.bool ((((List.length (elemF (ite ((okLog log) = true) log (0 : Int)) (newRoot log))) : Nat) : Int) == (0 : Int))))), []))) := by kernel_rfl
theorem mkC (log dl : Int) (dw : U4) : fnRes envO Try.f4 3000 [.v (.c (.int .i64 log)), .v (.a [.int .i64 dl, .ob (.fr dw)])] [false, false, false, false, false, true] [] [] = (Option.some ([((ite (false = true) (Bool.and ((ite ((okLog log) = true) log (0 : Int)) == (ite ((okLog log) = true) log (0 : Int))) (decide ((newRoot log) = (newRoot log)))) (Bool.not (Bool.and ((ite ((okLog log) = true) log (0 : Int)) == (ite ((okLog log) = true) log (0 : Int))) (decide ((newRoot log) = (newRoot log)))))) = false), (((ite ((okLog log) = true) (0 : Int) (40 : Int)) != (ite ((okLog log) = true) (0 : Int) (40 : Int))) = false), ((ite (false = true) ((domOk dl dw) == (domOk dl dw)) (Bool.not ((domOk dl dw) == (domOk dl dw)))) = false), ((decide (log > (6 : Int))) = false), (((ite ((okLog log) = true) (0 : Int) (40 : Int)) != (0 : Int)) = false), (((ite ((domOk (ite ((okLog log) = true) log (0 : Int)) (newRoot log)) = true) (0 : Int) (40 : Int)) == (0 : Int)) = true), ((0 : Int) ≤ (ite ((okLog log) = true) log (0 : Int))), ((ite ((okLog log) = true) log (0 : Int)) ≤ (16 : Int)), ((Fin.val (newRoot log)) < rN), (0 = 0), ((List.length (elemF (ite ((okLog log) = true) log (0 : Int)) (newRoot log))) = (List.length (elemF (ite ((okLog log) = true) log (0 : Int)) (newRoot log)))), (4 = 4), (0 = 0), ((2 ^ ((ite ((okLog log) = true) log (0 : Int))).toNat) = (List.length (List.map outF (powF (inF (newRoot log)) (2 ^ ((ite ((okLog log) = true) log (0 : Int))).toNat))))), (4 = 4)], ((SV.v (V1.c (It.bool (decide ((elemF (ite ((okLog log) = true) log (0 : Int)) (newRoot log)) = (List.map outF (powF (inF (newRoot log)) (2 ^ ((ite ((okLog log) = true) log (0 : Int))).toNat)))))))), []))) := by kernel_rfl
end Go.Proofs.Ytlfllehomhcbfaa

/- DomainMakes answers true for every number and domain. No conditions. -/
namespace Go.Proofs.Ytlfllehomhcbfaa

theorem ne_self (a : Bool) : (if (false = true) then a else !a) = !a := if_neg (by decide)

theorem dom00 : domOk 0 0 = false := by
  unfold domOk
  rw [newRoot0]
  have h : ¬ ((Fin.ofNat B4 1 : U4) = 0) := fun h => by have := congrArg Fin.val h; revert this; decide
  rw [decide_eq_false h, Bool.and_false]

theorem dom_self {log : Int} (h : okLog log = true) : domOk log (newRoot log) = true := by
  unfold domOk
  rw [h, decide_eq_true rfl]
  rfl

theorem newRoot_lt (log : Int) : (newRoot log).val < rN := by
  unfold newRoot
  split
  · exact outF_lt _
  · decide

theorem makes_fnd (log dl : Int) (dw : U4) : FnD Try.prog 4 [.v (.c (.int .i64 log)), .v (.a [.int .i64 dl, .ob (.fr dw)])] (.v (.c (.bool true))) [] := by
  have q1 : ∀ (a b : Int), (if (false = true) then (a == a && decide (newRoot b = newRoot b)) else !(a == a && decide (newRoot b = newRoot b))) = false := fun a b => by
    rw [ne_self, beq_self_eq_true, decide_eq_true rfl]; rfl
  have q2 : (if (false = true) then (domOk dl dw == domOk dl dw) else !(domOk dl dw == domOk dl dw)) = false := by rw [ne_self, beq_self_eq_true]; rfl
  have q3 : ∀ a : Int, (a != a) = false := fun a => by simp
  by_cases h6 : log > 6
  · exact (fn_sound envO_ok Try.func4 (mkA log dl dw) ⟨q1 _ _, q3 _, q2, by simp [h6], trivial⟩).conv (fun _ _ h => h) fun y v hd => lit_bool rfl hd
  cases hok : okLog log with
  | false =>
    have r := mkB log dl dw
    have hr : newRoot log = 0 := by unfold newRoot; rw [hok]; rfl
    rw [hok, hr] at r
    rw [if_neg (by decide : ¬ (false = true)), if_neg (by decide : ¬ (false = true)), dom00] at r
    have e : elemF 0 0 = [] := by unfold elemF; rw [dom00]; rfl
    rw [e] at r
    refine (fn_sound envO_ok Try.func4 r ⟨?_, rfl, q2, by simp [h6], rfl, rfl, trivial⟩).conv (fun _ _ h => h) fun y v hd => hd
    rfl
  | true =>
    have hl : 0 ≤ log ∧ log ≤ 16 := by simpa [okLog] using hok
    have r := mkC log dl dw
    have hds := dom_self hok
    have hlt := newRoot_lt log
    have e : elemF log (newRoot log) = (powF (inF (newRoot log)) (2 ^ log.toNat)).map outF := by unfold elemF; rw [hds, if_pos rfl]
    rw [hok] at r
    rw [show (if (true = true) then log else (0 : Int)) = log from if_pos rfl, show (if (true = true) then (0 : Int) else 40) = 0 from if_pos rfl, hds, show (if (true = true) then (0 : Int) else 40) = 0 from if_pos rfl] at r
    refine (fn_sound envO_ok Try.func4 r ?_).conv (fun _ _ h => h) fun y v hd => ?_
    · refine ⟨q1 _ _, rfl, q2, by simp [h6], rfl, rfl, hl.1, hl.2, hlt, rfl, rfl, rfl, rfl, by rw [List.length_map, powF_len], rfl, trivial⟩
    · rw [e, decide_eq_true rfl] at hd
      exact hd

end Go.Proofs.Ytlfllehomhcbfaa

/- Elements in and out: sums, zero and one. No conditions. -/
namespace Go.Proofs.Ytlfllehomhcbfaa

theorem clean_out (a : U4) : cleanU a = outF (inF a) := by
  apply Fin.ext
  rw [cleanU_val, outF_val]
  rfl

theorem addU_out (x y : Fr) : cleanU (outF x + outF y) = outF (x + y) := by
  apply Fin.ext
  rw [clean_add_val (outF_lt x) (outF_lt y), outF_val, outF_val, outF_val]
  rfl

theorem fr_zero_add (x : Fr) : 0 + x = x := Fin.zero_add x
theorem fr_add_zero (x : Fr) : x + 0 = x := Fin.add_zero x
theorem fr_mul_zero (x : Fr) : x * 0 = 0 := Fin.mul_zero x
theorem fr_zero_mul (x : Fr) : 0 * x = 0 := Fin.zero_mul x
theorem add_comm_r {r : Nat} [NeZero r] (x y : Fin r) : x + y = y + x := by grind
theorem fr_add_comm (x y : Fr) : x + y = y + x := add_comm_r x y
theorem fr_mul_one (x : Fr) : x * 1 = x := Fin.mul_one x

end Go.Proofs.Ytlfllehomhcbfaa

/- Bits turned round: what the iterator's places are. No conditions. -/
namespace Go.Proofs.Ytlfllehomhcbfaa

/-- Bits of two kinds change places. -/
def swp (m s x : Int) : Int := bitsOp .or .u64 (bitsOp .and .u64 (Int.fdiv x s) m) (IntKind.wrap .u64 ((bitsOp .and .u64 x m) * s))
def rvbV (x : Int) : Int := bitsOp .or .u64 (Int.fdiv (swp 281470681808895 65536 (swp 71777214294589695 256 x)) 4294967296) (IntKind.wrap .u64 (swp 281470681808895 65536 (swp 71777214294589695 256 x) * 4294967296))
def revV (x : Int) : Int := rvbV (swp 1085102592571150095 16 (swp 3689348814741910323 4 (swp 6148914691236517205 2 x)))

def swpB (m : BitVec 64) (s : Nat) (x : BitVec 64) : BitVec 64 := ((x >>> s) &&& m) ||| ((x &&& m) <<< s)

theorem and_bv (x y : BitVec 64) : bitsOp .and .u64 (x.toNat : Int) (y.toNat : Int) = ((x &&& y).toNat : Int) := by
  show IntKind.wrap IntKind.u64 ((BitVec.ofInt 64 (x.toNat : Int) &&& BitVec.ofInt 64 (y.toNat : Int)).toNat : Int) = _
  rw [BitVec.ofInt_natCast, BitVec.ofInt_natCast, BitVec.ofNat_toNat, BitVec.ofNat_toNat]
  exact wrap_u (by omega) (by have := (BitVec.setWidth 64 x &&& BitVec.setWidth 64 y).isLt; omega) |>.trans (by simp)

theorem or_bv (x y : BitVec 64) : bitsOp .or .u64 (x.toNat : Int) (y.toNat : Int) = ((x ||| y).toNat : Int) := by
  show IntKind.wrap IntKind.u64 ((BitVec.ofInt 64 (x.toNat : Int) ||| BitVec.ofInt 64 (y.toNat : Int)).toNat : Int) = _
  rw [BitVec.ofInt_natCast, BitVec.ofInt_natCast, BitVec.ofNat_toNat, BitVec.ofNat_toNat]
  exact wrap_u (by omega) (by have := (BitVec.setWidth 64 x ||| BitVec.setWidth 64 y).isLt; omega) |>.trans (by simp)

theorem shr_bv (x : BitVec 64) (s : Nat) : Int.fdiv (x.toNat : Int) ((2 ^ s : Nat) : Int) = ((x >>> s).toNat : Int) := by
  rw [BitVec.toNat_ushiftRight, Nat.shiftRight_eq_div_pow, Int.fdiv_eq_ediv_of_nonneg _ (Int.natCast_nonneg _)]
  exact (Int.natCast_ediv _ _).symm

theorem shl_bv (x : BitVec 64) (s : Nat) : IntKind.wrap IntKind.u64 ((x.toNat : Int) * ((2 ^ s : Nat) : Int)) = ((x <<< s).toNat : Int) := by
  rw [BitVec.toNat_shiftLeft, Nat.shiftLeft_eq, wrap_u64, ← Int.natCast_mul]
  omega

theorem swp_bv (m : BitVec 64) (s : Nat) (x : BitVec 64) : swp (m.toNat : Int) ((2 ^ s : Nat) : Int) (x.toNat : Int) = ((swpB m s x).toNat : Int) := by
  unfold swp swpB
  rw [shr_bv, and_bv, and_bv, shl_bv, or_bv]

def swap32 (x : BitVec 64) : BitVec 64 := (x >>> 32) ||| (x <<< 32)
def revB (x : BitVec 64) : BitVec 64 := swap32 (swpB 281470681808895#64 16 (swpB 71777214294589695#64 8 (swpB 1085102592571150095#64 4 (swpB 3689348814741910323#64 2 (swpB 6148914691236517205#64 1 x)))))

theorem revV_bv (x : BitVec 64) : revV (x.toNat : Int) = ((revB x).toNat : Int) := by
  unfold revV rvbV revB swap32
  have h1 := swp_bv 6148914691236517205#64 1 x
  have h2 := swp_bv 3689348814741910323#64 2 (swpB 6148914691236517205#64 1 x)
  have h3 := swp_bv 1085102592571150095#64 4 (swpB 3689348814741910323#64 2 (swpB 6148914691236517205#64 1 x))
  have h4 := swp_bv 71777214294589695#64 8 (swpB 1085102592571150095#64 4 (swpB 3689348814741910323#64 2 (swpB 6148914691236517205#64 1 x)))
  have h5 := swp_bv 281470681808895#64 16 (swpB 71777214294589695#64 8 (swpB 1085102592571150095#64 4 (swpB 3689348814741910323#64 2 (swpB 6148914691236517205#64 1 x))))
  have h1 : swp 6148914691236517205 2 (x.toNat : Int) = _ := h1
  rw [h1]
  have h2 : swp 3689348814741910323 4 ((swpB 6148914691236517205#64 1 x).toNat : Int) = _ := h2
  rw [h2]
  have h3 : swp 1085102592571150095 16 _ = _ := h3
  rw [h3]
  have h4 : swp 71777214294589695 256 _ = _ := h4
  rw [h4]
  have h5 : swp 281470681808895 65536 _ = _ := h5
  rw [h5]
  generalize swpB 281470681808895#64 16 _ = y
  have g1 : Int.fdiv (y.toNat : Int) 4294967296 = _ := shr_bv y 32
  have g2 : IntKind.wrap .u64 ((y.toNat : Int) * 4294967296) = _ := shl_bv y 32
  rw [g1, g2, or_bv]

theorem swpB_bit (m : BitVec 64) (s : Nat) (p : Nat → Nat) (h : ∀ i, i < 64 → (m.getLsbD i = true ∧ p i = s + i ∧ (i < s ∨ m.getLsbD (i - s) = false)) ∨ (m.getLsbD i = false ∧ s ≤ i ∧ m.getLsbD (i - s) = true ∧ p i = i - s)) (x : BitVec 64) {i : Nat} (hi : i < 64) :
    (swpB m s x).getLsbD i = x.getLsbD (p i) := by
  unfold swpB
  rw [BitVec.getLsbD_or, BitVec.getLsbD_and, BitVec.getLsbD_ushiftRight, BitVec.getLsbD_shiftLeft, BitVec.getLsbD_and]
  rcases h i hi with ⟨h1, h2, h3⟩ | ⟨h1, h2, h3, h4⟩
  · rw [h1, h2]
    rcases h3 with h3 | h3
    · simp [h3]
    · simp [h3]
  · rw [h1, h3, h4]
    simp [hi, Nat.not_lt.2 h2]

theorem swap32_bit (x : BitVec 64) {i : Nat} (hi : i < 64) : (swap32 x).getLsbD i = x.getLsbD (if i < 32 then 32 + i else i - 32) := by
  unfold swap32
  rw [BitVec.getLsbD_or, BitVec.getLsbD_ushiftRight, BitVec.getLsbD_shiftLeft]
  by_cases h : i < 32
  · simp [h]
  · simp only [h, if_false, hi, decide_true, decide_false, Bool.not_false, Bool.true_and]
    rw [BitVec.getLsbD_of_ge x (32 + i) (by omega)]
    simp

def par (s i : Nat) : Nat := if i / s % 2 = 0 then s + i else i - s

theorem revB_bit (x : BitVec 64) {i : Nat} (hi : i < 64) : (revB x).getLsbD i = x.getLsbD (63 - i) := by
  unfold revB
  have hp : ∀ i, i < 64 → par 1 i < 64 ∧ par 2 i < 64 ∧ par 4 i < 64 ∧ par 8 i < 64 ∧ par 16 i < 64 ∧ (if i < 32 then 32 + i else i - 32) < 64 := by decide
  have he : ∀ i, i < 64 → par 1 (par 2 (par 4 (par 8 (par 16 (if i < 32 then 32 + i else i - 32))))) = 63 - i := by decide
  rw [swap32_bit _ hi, swpB_bit _ 16 (par 16) (by decide) _ (hp _ hi).2.2.2.2.2]
  have h1 := (hp _ (hp _ hi).2.2.2.2.2).2.2.2.2.1
  rw [swpB_bit _ 8 (par 8) (by decide) _ h1]
  have h2 := (hp _ h1).2.2.2.1
  rw [swpB_bit _ 4 (par 4) (by decide) _ h2]
  have h3 := (hp _ h2).2.2.1
  rw [swpB_bit _ 2 (par 2) (by decide) _ h3]
  have h4 := (hp _ h3).2.1
  rw [swpB_bit _ 1 (par 1) (by decide) _ h4, he _ hi]

/-- So many bits turned round. -/
def brv : Nat → Nat → Nat
  | 0, _ => 0
  | m + 1, i => 2 ^ m * (i % 2) + brv m (i / 2)

theorem brv_lt : ∀ m i, brv m i < 2 ^ m
  | 0, _ => by simp [brv]
  | m + 1, i => by
    have := brv_lt m (i / 2)
    have h2 : i % 2 < 2 := Nat.mod_lt _ (by decide)
    simp only [brv, Nat.pow_succ]
    rcases (by omega : i % 2 = 0 ∨ i % 2 = 1) with h | h <;> rw [h] <;> omega

theorem brv_bit : ∀ m i k, (brv m i).testBit k = (decide (k < m) && i.testBit (m - 1 - k))
  | 0, _, k => by simp [brv]
  | m + 1, i, k => by
    simp only [brv]
    rw [Nat.testBit_two_pow_mul_add _ (brv_lt m (i / 2)), brv_bit m (i / 2) k]
    by_cases h : k < m
    · simp only [h, if_true, decide_true, Bool.true_and, Nat.add_sub_cancel]
      rw [show decide (k < m + 1) = true from by simp; omega, Bool.true_and, show m - k = (m - 1 - k) + 1 from by omega, Nat.testBit_succ]
    · simp only [h, if_false]
      by_cases h2 : k = m
      · subst h2
        simp [Nat.testBit_zero]
      · rw [show decide (k < m + 1) = false from by simp; omega, Bool.false_and, Nat.testBit_lt_two_pow]
        exact Nat.lt_of_lt_of_le (Nat.mod_lt _ (by decide)) (by have := Nat.one_lt_two_pow (n := k - m) (by omega); omega)

theorem rev_place {m i : Nat} (hm : 0 < m) (hm2 : m ≤ 16) (hi : i < 2 ^ m) : IntKind.wrap .i64 (Int.fdiv (revV (IntKind.wrap .u64 (i : Int))) ((2 : Int) ^ (Min.min (IntKind.wrap .i64 ((64 : Int) - (m : Int))).toNat 64))) = ((brv m i : Nat) : Int) := by
  have hp : 2 ^ m ≤ 2 ^ 16 := Nat.pow_le_pow_right (by decide) hm2
  have hi64 : i < 18446744073709551616 := by omega
  rw [wrap_u (by omega) (by omega), wrap_id (n := (64 : Int) - (m : Int)) (by omega) (by omega)]
  have e1 : min (((64 : Int) - (m : Int)).toNat) 64 = 64 - m := by omega
  rw [e1]
  have e2 : (i : Int) = ((BitVec.ofNat 64 i).toNat : Int) := by
    rw [BitVec.toNat_ofNat, Nat.mod_eq_of_lt hi64]
  rw [e2, revV_bv]
  have e3 : ((2 : Int) ^ (64 - m)) = ((2 ^ (64 - m) : Nat) : Int) := by simp
  rw [e3, shr_bv]
  have e4 : (revB (BitVec.ofNat 64 i) >>> (64 - m)).toNat = brv m i := by
    apply Nat.eq_of_testBit_eq
    intro k
    rw [brv_bit, BitVec.testBit_toNat, BitVec.getLsbD_ushiftRight]
    by_cases h : k < m
    · rw [revB_bit _ (by omega), show decide (k < m) = true from by simp [h], Bool.true_and, BitVec.getLsbD_ofNat, show 63 - (64 - m + k) = m - 1 - k from by omega]
      simp
      omega
    · rw [BitVec.getLsbD_of_ge _ _ (by omega)]
      simp [h]
  rw [e4]
  have := brv_lt m i
  exact wrap_id (by omega) (by omega)
end Go.Proofs.Ytlfllehomhcbfaa

/- Places whose bits are turned round; the swaps' iterator, walked. No conditions. -/
namespace Go.Proofs.Ytlfllehomhcbfaa

--@env envO envO_ok
theorem rvb (x : Int) : fnRes envO Try.f120 3000 [.v (.c (.int .u64 x))] [] [] [] = (Option.some ([((0 : Int) ≤ (8 : Int)), ((0 : Int) ≤ (8 : Int)), ((0 : Int) ≤ (16 : Int)), ((0 : Int) ≤ (16 : Int)), ((0 : Int) ≤ (32 : Int)), ((0 : Int) ≤ (32 : Int))], ((SV.v (V1.c (It.int IntKind.u64 (bitsOp BinOp.or IntKind.u64 (Int.fdiv (bitsOp BinOp.or IntKind.u64 (bitsOp BinOp.and IntKind.u64 (Int.fdiv (bitsOp BinOp.or IntKind.u64 (bitsOp BinOp.and IntKind.u64 (Int.fdiv x (256 : Int)) (71777214294589695 : Int)) (IntKind.wrap IntKind.u64 ((bitsOp BinOp.and IntKind.u64 x (71777214294589695 : Int)) * (256 : Int)))) (65536 : Int)) (281470681808895 : Int)) (IntKind.wrap IntKind.u64 ((bitsOp BinOp.and IntKind.u64 (bitsOp BinOp.or IntKind.u64 (bitsOp BinOp.and IntKind.u64 (Int.fdiv x (256 : Int)) (71777214294589695 : Int)) (IntKind.wrap IntKind.u64 ((bitsOp BinOp.and IntKind.u64 x (71777214294589695 : Int)) * (256 : Int)))) (281470681808895 : Int)) * (65536 : Int)))) (4294967296 : Int)) (IntKind.wrap IntKind.u64 ((bitsOp BinOp.or IntKind.u64 (bitsOp BinOp.and IntKind.u64 (Int.fdiv (bitsOp BinOp.or IntKind.u64 (bitsOp BinOp.and IntKind.u64 (Int.fdiv x (256 : Int)) (71777214294589695 : Int)) (IntKind.wrap IntKind.u64 ((bitsOp BinOp.and IntKind.u64 x (71777214294589695 : Int)) * (256 : Int)))) (65536 : Int)) (281470681808895 : Int)) (IntKind.wrap IntKind.u64 ((bitsOp BinOp.and IntKind.u64 (bitsOp BinOp.or IntKind.u64 (bitsOp BinOp.and IntKind.u64 (Int.fdiv x (256 : Int)) (71777214294589695 : Int)) (IntKind.wrap IntKind.u64 ((bitsOp BinOp.and IntKind.u64 x (71777214294589695 : Int)) * (256 : Int)))) (281470681808895 : Int)) * (65536 : Int)))) * (4294967296 : Int))))))), []))) := by kernel_rfl

theorem rvb_fnd (x : Int) : FnD Try.prog 120 [.v (.c (.int .u64 x))] (.v (.c (.int .u64 (rvbV x)))) [] :=
  fn_sound envO_ok Try.func120 (rvb x) ⟨by decide, by decide, by decide, by decide, by decide, by decide, trivial⟩
def rvbSpec : FnSpec
  | [.v (.c (.int .u64 x))] => some ([], .v (.c (.int .u64 (rvbV x))), [])
  | _ => none
noncomputable def envW1 : Env := envO.set (addT envO.fn 120 rvbSpec)
theorem envW1_ok : EnvOk Try.prog envW1 := env_add envO_ok 120 rvbSpec (enters_of Try.func120 rfl rfl) fun args o r es h _ => by
  unfold rvbSpec at h
  split at h
  · cases h; exact rvb_fnd _
  · cases h
--@env envW1 envW1_ok
theorem rev (x : Int) : fnRes envW1 Try.f116 3000 [.v (.c (.int .u64 x))] [] [] [] = (Option.some ([((0 : Int) ≤ (1 : Int)), ((0 : Int) ≤ (1 : Int)), ((0 : Int) ≤ (2 : Int)), ((0 : Int) ≤ (2 : Int)), ((0 : Int) ≤ (4 : Int)), ((0 : Int) ≤ (4 : Int))], ((SV.v (V1.c (It.int IntKind.u64 (rvbV (bitsOp BinOp.or IntKind.u64 (bitsOp BinOp.and IntKind.u64 (Int.fdiv (bitsOp BinOp.or IntKind.u64 (bitsOp BinOp.and IntKind.u64 (Int.fdiv (bitsOp BinOp.or IntKind.u64 (bitsOp BinOp.and IntKind.u64 (Int.fdiv x (2 : Int)) (6148914691236517205 : Int)) (IntKind.wrap IntKind.u64 ((bitsOp BinOp.and IntKind.u64 x (6148914691236517205 : Int)) * (2 : Int)))) (4 : Int)) (3689348814741910323 : Int)) (IntKind.wrap IntKind.u64 ((bitsOp BinOp.and IntKind.u64 (bitsOp BinOp.or IntKind.u64 (bitsOp BinOp.and IntKind.u64 (Int.fdiv x (2 : Int)) (6148914691236517205 : Int)) (IntKind.wrap IntKind.u64 ((bitsOp BinOp.and IntKind.u64 x (6148914691236517205 : Int)) * (2 : Int)))) (3689348814741910323 : Int)) * (4 : Int)))) (16 : Int)) (1085102592571150095 : Int)) (IntKind.wrap IntKind.u64 ((bitsOp BinOp.and IntKind.u64 (bitsOp BinOp.or IntKind.u64 (bitsOp BinOp.and IntKind.u64 (Int.fdiv (bitsOp BinOp.or IntKind.u64 (bitsOp BinOp.and IntKind.u64 (Int.fdiv x (2 : Int)) (6148914691236517205 : Int)) (IntKind.wrap IntKind.u64 ((bitsOp BinOp.and IntKind.u64 x (6148914691236517205 : Int)) * (2 : Int)))) (4 : Int)) (3689348814741910323 : Int)) (IntKind.wrap IntKind.u64 ((bitsOp BinOp.and IntKind.u64 (bitsOp BinOp.or IntKind.u64 (bitsOp BinOp.and IntKind.u64 (Int.fdiv x (2 : Int)) (6148914691236517205 : Int)) (IntKind.wrap IntKind.u64 ((bitsOp BinOp.and IntKind.u64 x (6148914691236517205 : Int)) * (2 : Int)))) (3689348814741910323 : Int)) * (4 : Int)))) (1085102592571150095 : Int)) * (16 : Int)))))))), []))) := by kernel_rfl
theorem rev_fnd (x : Int) : FnD Try.prog 116 [.v (.c (.int .u64 x))] (.v (.c (.int .u64 (revV x)))) [] :=
  fn_sound envW1_ok Try.func116 (rev x) ⟨by decide, by decide, by decide, by decide, by decide, by decide, trivial⟩
def revSpec : FnSpec
  | [.v (.c (.int .u64 x))] => some ([], .v (.c (.int .u64 (revV x))), [])
  | _ => none
noncomputable def envW2 : Env := envW1.set (addT envW1.fn 116 revSpec)
theorem envW2_ok : EnvOk Try.prog envW2 := env_add envW1_ok 116 revSpec (enters_of Try.func116 rfl rfl) fun args o r es h _ => by
  unfold revSpec at h
  split at h
  · cases h; exact rev_fnd _
  · cases h

noncomputable def inlW (T : Nat → Option Func) (f : Nat) : Option Func := if f = 107 then some Try.f107 else T f
noncomputable def envW : Env := { envW2 with inl := inlW envW2.inl }
theorem envW_ok : EnvOk Try.prog envW := by
  refine ⟨envW2_ok.ty, envW2_ok.mixed, envW2_ok.fn, envW2_ok.mu, fun f fn h => ?_, envW2_ok.ex, envW2_ok.inv⟩
  have h : inlW envW2.inl f = some fn := h
  unfold inlW at h
  split at h
  · rename_i hf; cases h; subst hf; exact ⟨Try.func107, enters_of Try.func107 rfl rfl⟩
  exact envW2_ok.inl f fn h

--@env envW envW_ok
noncomputable def sw_k : List KI := (run envW false 3000 ((fun (l : Nat) (log : Int) => (⟨[.code (bodyOf Try.f115)], .normal, ⟨argT [.v (.c (.val (.func (.yield l) #[] #[]))), .v (.c (.ptr 0 0))], one (.fl [.int .i64 log]), Try.f115.ntmps, 16, []⟩⟩ : Cfg)) default default) []).cfg.k
theorem sw_hk (l : Nat) (log : Int) : (run envW false 3000 ((⟨[.code (bodyOf Try.f115)], .normal, ⟨argT [.v (.c (.val (.func (.yield l) #[] #[]))), .v (.c (.ptr 0 0))], one (.fl [.int .i64 log]), Try.f115.ntmps, 16, []⟩⟩ : Cfg)) []).cfg.k = sw_k := by kernel_rfl
theorem sw (l : Nat) (log : Int) {w0 : World} {F0 : Nat → Prop} {K : Kp} {ac : List Act} {Q : Exit → Act → World → Prop} {cX : Ctx} {aX : Act} (ho : AllP [((0 : Int) ≤ log)]) (hs : Sim w0 F0 K ac (⟨argT [.v (.c (.val (.func (.yield l) #[] #[]))), .v (.c (.ptr 0 0))], one (.fl [.int .i64 log]), Try.f115.ntmps, 16, []⟩) cX aX) (hK : ∀ ac cY aY, Sim w0 F0 K ac (mkSt 30 [0, 1, 6, 7] [(.v (.c (.val (Value.func (Fn.yield l) (Array.mk ([] : List Value)) (Array.mk ([] : List Value)))))), (.v (.c (.ptr 0 0))), (.v (.c (.int .i64 (IntKind.wrap .i64 ((1 : Int) * ((2 : Int) ^ (Min.min (log).toNat 64))))))), (.v (.c (.int .i64 (0 : Int))))] [0] [(some (.fl [(.int .i64 log)]))] 64 [] []) cY aY → Wq Try.prog Q (sw_k) ac Exit.normal aY cY.w) : Wq Try.prog Q ([.code (bodyOf Try.f115)]) ac .normal aX cX.w :=
  run_at2 (o := ⟨_, _, _, _, _, _, _⟩) envW_ok (by kernel_rfl) (sw_hk l log) ho hs hK
noncomputable def swS (l : Nat) (log n i : Int) : St := mkSt 30 [0, 1, 6, 7] [(SV.v (V1.c (It.val (Value.func (Fn.yield l) (Array.mk ([] : List Value)) (Array.mk ([] : List Value)))))), (SV.v (V1.c (It.ptr 0 0))), .v (.c (.int .i64 n)), .v (.c (.int .i64 i))] [0] [(Option.some (En.fl [(It.int IntKind.i64 log)]))] 64 [] []
noncomputable def swY_k : List KI := (run envW false 3000 ((fun (l : Nat) (log n i : Int) => (⟨lpIn sw_k, .normal, swS l log n i⟩ : Cfg)) default default default default) [true, true, true]).cfg.k
theorem swY_hk (l : Nat) (log n i : Int) : (run envW false 3000 ((⟨lpIn sw_k, .normal, swS l log n i⟩ : Cfg)) [true, true, true]).cfg.k = swY_k := by kernel_rfl
theorem swY (l : Nat) (log n i : Int) {w0 : World} {F0 : Nat → Prop} {K : Kp} {ac : List Act} {Q : Exit → Act → World → Prop} {cX : Ctx} {aX : Act} (ho : AllP [((decide (i < n)) = true), ((decide (log > (0 : Int))) = true), ((0 : Int) ≤ (IntKind.wrap .i64 ((64 : Int) - log))), ((decide (i < (IntKind.wrap .i64 (Int.fdiv (revV (IntKind.wrap .u64 i)) ((2 : Int) ^ (Min.min ((IntKind.wrap .i64 ((64 : Int) - log))).toNat 64)))))) = true)]) (hs : Sim w0 F0 K ac (swS l log n i) cX aX) (hK : ∀ ac cY aY, Sim w0 F0 K ac (mkSt 30 [0, 1, 6, 7, 22, 23, 24, 25] [(.v (.c (.val (Value.func (Fn.yield l) (Array.mk ([] : List Value)) (Array.mk ([] : List Value)))))), (.v (.c (.ptr 0 0))), (.v (.c (.int .i64 n))), (.v (.c (.int .i64 i))), (.v (.c (.lit true))), (.v (.c (.val (Value.func (Fn.yield l) (Array.mk ([] : List Value)) (Array.mk ([] : List Value)))))), (.v (.c (.int .i64 i))), (.v (.c (.int .i64 (IntKind.wrap .i64 (Int.fdiv (revV (IntKind.wrap .u64 i)) ((2 : Int) ^ (Min.min ((IntKind.wrap .i64 ((64 : Int) - log))).toNat 64)))))))] [0] [(some (.fl [(.int .i64 log)]))] 400 [] []) cY aY → Wq Try.prog Q (swY_k) ac Exit.normal aY cY.w) : Wq Try.prog Q (lpIn sw_k) ac .normal aX cX.w :=
  run_at2 (o := ⟨_, _, _, _, _, _, _⟩) envW_ok (by kernel_rfl) (swY_hk l log n i) ho hs hK
theorem swB_hk (l : Nat) (log n i j : Int) : (run envW false 3000 ((⟨opsNext swY_k, .normal, ⟨setT (look .top [0, 1, 6, 7, 22, 23, 24, 25] [(.v (.c (.val (.func (.yield l) #[] #[])))), .v (.c (.ptr 0 0)), .v (.c (.int .i64 n)), .v (.c (.int .i64 i)), .v (.c (.lit true)), (.v (.c (.val (.func (.yield l) #[] #[])))), .v (.c (.int .i64 i)), .v (.c (.int .i64 j))]) 26 (.v (.c (.lit true))), one (.fl [.int .i64 log]), 30, 400, []⟩⟩ : Cfg)) []).cfg.k = lpBk sw_k := by kernel_rfl
theorem swB (l : Nat) (log n i j : Int) {w0 : World} {F0 : Nat → Prop} {K : Kp} {ac : List Act} {Q : Exit → Act → World → Prop} {cX : Ctx} {aX : Act} (ho : AllP []) (hs : Sim w0 F0 K ac (⟨setT (look .top [0, 1, 6, 7, 22, 23, 24, 25] [(.v (.c (.val (.func (.yield l) #[] #[])))), .v (.c (.ptr 0 0)), .v (.c (.int .i64 n)), .v (.c (.int .i64 i)), .v (.c (.lit true)), (.v (.c (.val (.func (.yield l) #[] #[])))), .v (.c (.int .i64 i)), .v (.c (.int .i64 j))]) 26 (.v (.c (.lit true))), one (.fl [.int .i64 log]), 30, 400, []⟩) cX aX) (hK : ∀ ac cY aY, Sim w0 F0 K ac (mkSt 30 [0, 1, 6, 7] [(.v (.c (.val (Value.func (Fn.yield l) (Array.mk ([] : List Value)) (Array.mk ([] : List Value)))))), (.v (.c (.ptr 0 0))), (.v (.c (.int .i64 n))), (.v (.c (.int .i64 (IntKind.wrap .i64 (i + (1 : Int))))))] [0] [(some (.fl [(.int .i64 log)]))] 464 [] []) cY aY → Wq Try.prog Q (lpBk sw_k) ac Exit.normal aY cY.w) : Wq Try.prog Q (opsNext swY_k) ac .normal aX cX.w :=
  run_at2 (o := ⟨_, _, _, _, _, _, _⟩) envW_ok (by kernel_rfl) (swB_hk l log n i j) ho hs hK
theorem swN_hk (l : Nat) (log n i : Int) : (run envW false 3000 ((⟨lpIn sw_k, .normal, swS l log n i⟩ : Cfg)) [true, true, false]).cfg.k = lpBk sw_k := by kernel_rfl
theorem swN (l : Nat) (log n i : Int) {w0 : World} {F0 : Nat → Prop} {K : Kp} {ac : List Act} {Q : Exit → Act → World → Prop} {cX : Ctx} {aX : Act} (ho : AllP [((decide (i < n)) = true), ((decide (log > (0 : Int))) = true), ((0 : Int) ≤ (IntKind.wrap .i64 ((64 : Int) - log))), ((decide (i < (IntKind.wrap .i64 (Int.fdiv (revV (IntKind.wrap .u64 i)) ((2 : Int) ^ (Min.min ((IntKind.wrap .i64 ((64 : Int) - log))).toNat 64)))))) = false)]) (hs : Sim w0 F0 K ac (swS l log n i) cX aX) (hK : ∀ ac cY aY, Sim w0 F0 K ac (mkSt 30 [0, 1, 6, 7] [(.v (.c (.val (Value.func (Fn.yield l) (Array.mk ([] : List Value)) (Array.mk ([] : List Value)))))), (.v (.c (.ptr 0 0))), (.v (.c (.int .i64 n))), (.v (.c (.int .i64 (IntKind.wrap .i64 (i + (1 : Int))))))] [0] [(some (.fl [(.int .i64 log)]))] 480 [] []) cY aY → Wq Try.prog Q (lpBk sw_k) ac Exit.normal aY cY.w) : Wq Try.prog Q (lpIn sw_k) ac .normal aX cX.w :=
  run_at2 (o := ⟨_, _, _, _, _, _, _⟩) envW_ok (by kernel_rfl) (swN_hk l log n i) ho hs hK
theorem swZ_hk (l : Nat) (log n i : Int) : (run envW false 3000 ((⟨lpIn sw_k, .normal, swS l log n i⟩ : Cfg)) [true, false, false]).cfg.k = lpBk sw_k := by kernel_rfl
theorem swZ (l : Nat) (log n i : Int) {w0 : World} {F0 : Nat → Prop} {K : Kp} {ac : List Act} {Q : Exit → Act → World → Prop} {cX : Ctx} {aX : Act} (ho : AllP [((decide (i < n)) = true), ((decide (log > (0 : Int))) = false), ((decide (i < (0 : Int))) = false)]) (hs : Sim w0 F0 K ac (swS l log n i) cX aX) (hK : ∀ ac cY aY, Sim w0 F0 K ac (mkSt 30 [0, 1, 6, 7] [(.v (.c (.val (Value.func (Fn.yield l) (Array.mk ([] : List Value)) (Array.mk ([] : List Value)))))), (.v (.c (.ptr 0 0))), (.v (.c (.int .i64 n))), (.v (.c (.int .i64 (IntKind.wrap .i64 (i + (1 : Int))))))] [0] [(some (.fl [(.int .i64 log)]))] 352 [] []) cY aY → Wq Try.prog Q (lpBk sw_k) ac Exit.normal aY cY.w) : Wq Try.prog Q (lpIn sw_k) ac .normal aX cX.w :=
  run_at2 (o := ⟨_, _, _, _, _, _, _⟩) envW_ok (by kernel_rfl) (swZ_hk l log n i) ho hs hK
theorem swX_hk (l : Nat) (log n i : Int) : (run envW false 3000 ((⟨lpIn sw_k, .normal, swS l log n i⟩ : Cfg)) [false]).cfg.k = [] := by kernel_rfl
theorem swX (l : Nat) (log n i : Int) {w0 : World} {F0 : Nat → Prop} {K : Kp} {ac : List Act} {Q : Exit → Act → World → Prop} {cX : Ctx} {aX : Act} (ho : AllP [((decide (i < n)) = false)]) (hs : Sim w0 F0 K ac (swS l log n i) cX aX) (hK : ∀ ac cY aY, Sim w0 F0 K ac (mkSt 30 [] [] [0] [(some (.fl [(.int .i64 log)]))] 80 [] []) cY aY → Wq Try.prog Q ([]) ac Exit.normal aY cY.w) : Wq Try.prog Q (lpIn sw_k) ac .normal aX cX.w :=
  run_at2 (o := ⟨_, _, _, _, _, _, _⟩) envW_ok (by kernel_rfl) (swX_hk l log n i) ho hs hK
end Go.Proofs.Ytlfllehomhcbfaa

/- The swaps' iterator yields the places of which the first has the greater one as its bits turned round. No conditions. -/
namespace Go.Proofs.Ytlfllehomhcbfaa

/-- The pairs among the first so many places. -/
def prs (log : Nat) : Nat → List (Nat × Nat)
  | 0 => []
  | i + 1 => prs log i ++ (if i < brv log i then [(i, brv log i)] else [])

theorem prs_pre (log : Nat) : ∀ {n i : Nat}, i ≤ n → ∃ t, prs log n = prs log i ++ t
  | 0, i, h => ⟨[], by rw [show i = 0 from by omega]; simp⟩
  | n + 1, i, h => by
    by_cases h1 : i = n + 1
    · exact ⟨[], by rw [h1]; simp⟩
    · obtain ⟨t, ht⟩ := prs_pre log (n := n) (i := i) (by omega)
      exact ⟨_, by simp only [prs]; rw [ht, List.append_assoc]⟩

def prEnc (z : Nat × Nat) : List Value := [.int .i64 (z.1 : Int), .int .i64 (z.2 : Int)]

theorem shl_one {log : Nat} (h : log ≤ 16) : IntKind.wrap .i64 ((1 : Int) * ((2 : Int) ^ (min ((log : Int)).toNat 64))) = ((2 ^ log : Nat) : Int) := by
  have hp : 2 ^ log ≤ 2 ^ 16 := Nat.pow_le_pow_right (by decide) h
  rw [Int.one_mul, show min ((log : Int)).toNat 64 = log from by omega]
  have e3 : ((2 : Int) ^ log) = ((2 ^ log : Nat) : Int) := by simp
  rw [e3]
  generalize 2 ^ log = n at *
  exact wrap_id (by omega) (by omega)

theorem box_den {y : Ctx} {p : Nat} {log : Int} : ∀ (cs : Array Value) ty, y.w.heap[y.β p]? = some (.cells cs ty (0, 0)) → denEn y (.fl [.int .i64 log]) cs.toList → denEn (itCtx y p) (.fl [.int .i64 log]) cs.toList := by
  intro cs ty _ h
  exact pure_En (e := .fl [.int .i64 log]) rfl h

theorem swaps_iter {x : Ctx} {p log : Nat} {M : List (Nat × Nat) → Nat → Option En} (hlog : log ≤ 16) (hM : ∀ s, M s p = some (.fl [.int .i64 (log : Int)])) : IterC Try.prog x 115 [(p, 0)] prEnc (prs log (2 ^ log)) M := by
  intro l J W hgrow hread hyield hJ
  have key : Wq Try.prog (bodyPost Try.prog Try.f115 fun e W' => (∃ v, e = Ending.returned v) ∧ J (prs log (2 ^ log)) W') [.code (bodyOf Try.f115)] [] .normal { tmps := [Value.func (.yield l) #[] #[], .pointer (some ⟨x.β p, 0, none⟩)].toArray ++ Array.replicate 28 undef, defers := [] } W := ?_
  · exact calls_of_wp (c := bodyOf Try.f115) Try.func115 rfl ((wpIn_wide (n := 0)).1 key.wp)
  obtain ⟨y, rfl, hm, hc⟩ := hread [] W hJ
  obtain ⟨hr, hβ⟩ := hc (p, 0) List.mem_cons_self
  have hr : y.k p = .real := hr
  have hβ : y.β p = x.β p := hβ
  have hp2 : 2 ^ log ≤ 2 ^ 16 := Nat.pow_le_pow_right (by decide) hlog
  have hargs : denSs (itCtx y p) [.v (.c (.val (.func (.yield l) #[] #[]))), .v (.c (.ptr 0 0))] [.func (.yield l) #[] #[], .pointer (some ⟨x.β p, 0, none⟩)] :=
    .cons ⟨rfl, 0, rfl, rfl⟩ (.cons ⟨rfl, 0, rfl, by show _ = [Value.pointer (some ⟨y.β p, 0, none⟩)]; rw [hβ]⟩ .nil)
  have hs := it_sim (nx := 16) (nt := 30) (a := { tmps := [Value.func (.yield l) #[] #[], .pointer (some ⟨x.β p, 0, none⟩)].toArray ++ Array.replicate 28 undef, defers := [] }) hm (hM []) hr box_den rfl (by simp) (argT_den hargs 28)
  change Wq Try.prog _ _ _ _ _ (itCtx y p).w
  refine sw l (log : Int) ⟨by omega, trivial⟩ hs fun ac cY aY hs1 => ?_
  rw [shl_one hlog] at hs1
  let I : { i : Nat // i ≤ 2 ^ log } → List Act → Act → World → Prop := fun i ac a w => ∃ y z, z.w = w ∧ y.k p = .real ∧ y.β p = x.β p ∧ Mem y (M (prs log i.1)) ∧ J (prs log i.1) y.w ∧ Sim y.w y.F (kPin (itCtx y p)) ac (swS l (log : Int) ((2 ^ log : Nat) : Int) (i.1 : Int)) z a
  refine loop_inv I (fun i => 2 ^ log - i.1) (c := lpC sw_k) (k := lpR sw_k) (by kernel_rfl) (fun i ih ac b w hI => ?_) ⟨0, Nat.zero_le _⟩ ⟨y, cY, rfl, hr, hβ, hm, hJ, hs1.nx _⟩
  obtain ⟨i, hi⟩ := i
  obtain ⟨y, z, rfl, hr, hβ, hm, hJ, hs⟩ := hI
  simp only at hm hJ hs ih
  have hmb : Mem (itCtx y p) (one (.fl [.int .i64 (log : Int)])) := it_mem hm (hM _) hr box_den
  by_cases h : i < 2 ^ log
  · have hd : decide ((i : Int) < ((2 ^ log : Nat) : Int)) = true := decide_eq_true (Int.ofNat_lt.2 h)
    have hw : IntKind.wrap IntKind.i64 ((i : Int) + 1) = ((i + 1 : Nat) : Int) := by rw [wrap_id (by omega) (by omega)]; omega
    by_cases h0 : log = 0
    · subst h0
      refine swZ l _ _ _ ⟨hd, by simp, by simp, trivial⟩ hs fun ac cZ aZ hs2 => ?_
      rw [hw] at hs2
      have e : prs 0 (i + 1) = prs 0 i := by simp [prs, brv]
      exact ih ⟨i + 1, by omega⟩ (by show 2 ^ 0 - (i + 1) < 2 ^ 0 - i; omega) ac aZ _ ⟨y, cZ, rfl, hr, hβ, by rw [e]; exact hm, by rw [e]; exact hJ, hs2.nx _⟩
    · have hj := rev_place (m := log) (i := i) (by omega) hlog h
      have hpos : decide ((log : Int) > (0 : Int)) = true := by simp; omega
      have hsub : (0 : Int) ≤ IntKind.wrap IntKind.i64 ((64 : Int) - (log : Int)) := by rw [wrap_id (by omega) (by omega)]; omega
      by_cases h1 : i < brv log i
      · have e : prs log (i + 1) = prs log i ++ [(i, brv log i)] := by simp [prs, h1]
        refine swY l _ _ _ ⟨hd, hpos, hsub, by rw [hj]; simp [h1], trivial⟩ hs fun ac cZ aZ hs2 => ?_
        rw [hj] at hs2
        obtain ⟨hg, hk2, hβ2⟩ := it_back hmb rfl hs2 rfl
        have hJ2 := hgrow _ _ _ hJ hg
        obtain ⟨t, ht⟩ := prs_pre log (n := 2 ^ log) (i := i + 1) (by omega)
        refine yield_at (R := fun W' => J (prs log (i + 1)) W') (dst := some 26) (f := .tmp 23) (args := [.tmp 24, .tmp 25]) (by kernel_rfl) hs2 (l := l) rfl (vs := prEnc (i, brv log i)) ?_ ?_ fun W' hJ3 => ?_
        · have h24 := D_int (hs2.t 24)
          have h25 := D_int (hs2.t 25)
          show [aZ.tmps.getD 24 undef, aZ.tmps.getD 25 undef] = _
          rw [h24, h25]
          rfl
        · have := hyield (prs log i) (i, brv log i) _ hJ2 ⟨t, by rw [ht, e, List.append_assoc]; rfl⟩
          rw [← e] at this
          exact this
        · obtain ⟨y3, rfl, hm3, hc3⟩ := hread _ _ hJ3
          obtain ⟨hr3, hβ3⟩ := hc3 (p, 0) List.mem_cons_self
          have hs3 := it_again (nx' := 400) (dst := 26) (b := true) hs2 (by kernel_rfl) rfl hm3 (hM _) hr3 box_den (by rw [hβ2, hβ]; exact hβ3.symm) (by decide)
          change Wq Try.prog _ _ _ _ _ (itCtx y3 p).w
          refine swB l _ _ _ _ trivial hs3 fun ac cV aV hs4 => ?_
          rw [hw] at hs4
          exact ih ⟨i + 1, by omega⟩ (by show 2 ^ log - (i + 1) < 2 ^ log - i; omega) ac aV _ ⟨y3, cV, rfl, hr3, hβ3, hm3, hJ3, hs4.nx _⟩
      · have e : prs log (i + 1) = prs log i := by simp [prs, h1]
        refine swN l _ _ _ ⟨hd, hpos, hsub, by rw [hj]; simp; omega, trivial⟩ hs fun ac cZ aZ hs2 => ?_
        rw [hw] at hs2
        exact ih ⟨i + 1, by omega⟩ (by show 2 ^ log - (i + 1) < 2 ^ log - i; omega) ac aZ _ ⟨y, cZ, rfl, hr, hβ, by rw [e]; exact hm, by rw [e]; exact hJ, hs2.nx _⟩
  · have e : i = 2 ^ log := by omega
    subst e
    refine swX l _ _ _ ⟨by simp, trivial⟩ hs fun ac cZ aZ hs2 => ?_
    obtain ⟨hg, _, _⟩ := it_back hmb rfl hs2 rfl
    exact ⟨it_end envW1_ok hs2 rfl rfl rfl (fun v => ⟨⟨v, rfl⟩, hgrow _ _ _ hJ hg⟩) (.inr rfl)⟩

end Go.Proofs.Ytlfllehomhcbfaa

/- The transform, walked: places change, then rounds of sums and differences. No conditions. -/
namespace Go.Proofs.Ytlfllehomhcbfaa

--@env envW envW_ok
noncomputable def tf_k : List KI := (run envW false 3000 ((fun (L : List Fr) (n : Nat) (log : Int) (w : Fr) => (⟨[.code (bodyOf Try.f86)], .normal, muSt Try.f86.ntmps 0 n 4 (.sq (.s L)) [.v (.c (.int .i64 log)), .v (.a [.ob (.s w)])]⟩ : Cfg)) default default default default) []).cfg.k
theorem tf_hk (L : List Fr) (n : Nat) (log : Int) (w : Fr) : (run envW false 3000 ((⟨[.code (bodyOf Try.f86)], .normal, muSt Try.f86.ntmps 0 n 4 (.sq (.s L)) [.v (.c (.int .i64 log)), .v (.a [.ob (.s w)])]⟩ : Cfg)) []).cfg.k = tf_k := by kernel_rfl
theorem tf (L : List Fr) (n : Nat) (log : Int) (w : Fr) {w0 : World} {F0 : Nat → Prop} {K : Kp} {ac : List Act} {Q : Exit → Act → World → Prop} {cX : Ctx} {aX : Act} (ho : AllP []) (hs : Sim w0 F0 K ac (muSt Try.f86.ntmps 0 n 4 (.sq (.s L)) [.v (.c (.int .i64 log)), .v (.a [.ob (.s w)])]) cX aX) (hK : ∀ ac cY aY, Sim w0 F0 K ac (mkSt 102 [3, 5, 16] [(.v (.c (.ptr 16 0))), (.v (.c (.ptr 32 0))), (.v (.c (.clo 115 [(64, 0)])))] [0, 16, 32, 64] [(some (.sq (.s L))), (some (.fl [(.slc 0 0 n 4)])), (some (.fl [(.ob (.s w))])), (some (.fl [(.int .i64 log)]))] 128 [] []) cY aY → Wq Try.prog Q (tf_k) ac Exit.normal aY cY.w) : Wq Try.prog Q ([.code (bodyOf Try.f86)]) ac .normal aX cX.w :=
  run_at2 (o := ⟨_, _, _, _, _, _, _⟩) envW_ok (by kernel_rfl) (tf_hk L n log w) ho hs hK
noncomputable def tfS (L : List Fr) (n : Nat) (log : Int) (w : Fr) : St := mkSt 102 [3, 5, 16] [(SV.v (V1.c (It.ptr 16 0))), (SV.v (V1.c (It.ptr 32 0))), (SV.v (V1.c (It.clo 115 [(64, 0)])))] [0, 16, 32, 64] [some (.sq (.s L)), (Option.some (En.fl [(It.slc 0 0 n 4)])), (Option.some (En.fl [(It.ob (Ob.s w))])), (Option.some (En.fl [(It.int IntKind.i64 log)]))] 128 [] []
theorem tfA_hk (L : List Fr) (n : Nat) (log : Int) (w : Fr) (i j : Nat) : (run envW false 3000 ((⟨[.code (rfA tf_k)], .normal, roundSt (tfS L n log w) [(17, .v (.c (.int .i64 (i : Int)))), (18, .v (.c (.int .i64 (j : Int))))]⟩ : Cfg)) []).cfg.k = [] := by kernel_rfl
theorem tfA (L : List Fr) (n : Nat) (log : Int) (w : Fr) (i j : Nat) {w0 : World} {F0 : Nat → Prop} {K : Kp} {ac : List Act} {Q : Exit → Act → World → Prop} {cX : Ctx} {aX : Act} {ρ : Option Nat} (ho : AllP []) (hs : Sim w0 F0 K ac (roundSt (tfS L n log w) [(17, .v (.c (.int .i64 (i : Int)))), (18, .v (.c (.int .i64 (j : Int))))]) cX aX) (hK : ∀ cY aY, Sim w0 F0 K ac (mkSt 102 [3, 5, 6, 7] [(.v (.c (.ptr 16 0))), (.v (.c (.ptr 32 0))), (.v (.c (.int .i64 ((i : Nat) : Int)))), (.v (.c (.int .i64 ((j : Nat) : Int))))] [0, 16, 32, 64] [(some (.sq (.s L))), (some (.fl [(.slc 0 0 n 4)])), (some (.fl [(.ob (.s w))])), (some (.fl [(.int .i64 log)]))] 160 [[3, 5, 16]] [([(.v (.c (.ptr 16 0))), (.v (.c (.ptr 32 0))), (.v (.c (.clo 115 [(64, 0)])))], 102)]) cY aY → Wq Try.prog Q ([]) ac Exit.normal aY cY.w ρ) : Wq Try.prog Q ([.code (rfA tf_k)]) ac .normal aX cX.w ρ :=
  run_atT (o := ⟨_, _, _, _, _, _, _⟩) envW_ok (by kernel_rfl) (tfA_hk L n log w i j) ho (by kernel_rfl) (by kernel_rfl) hs hK
noncomputable def tfB (L : List Fr) (n : Nat) (log : Int) (w : Fr) (i j : Nat) : St := mkSt 102 [3, 5, 6, 7] [(SV.v (V1.c (It.ptr 16 0))), (SV.v (V1.c (It.ptr 32 0))), (SV.v (V1.c (It.int IntKind.i64 ((i : Nat) : Int)))), (SV.v (V1.c (It.int IntKind.i64 ((j : Nat) : Int))))] [0, 16, 32, 64] [some (.sq (.s L)), (Option.some (En.fl [(It.slc 0 0 n 4)])), (Option.some (En.fl [(It.ob (Ob.s w))])), (Option.some (En.fl [(It.int IntKind.i64 log)]))] 160 [[3, 5, 16]] [([(SV.v (V1.c (It.ptr 16 0))), (SV.v (V1.c (It.ptr 32 0))), (SV.v (V1.c (It.clo 115 [(64, 0)])))], 102)]
theorem tfC_hk (L : List Fr) (n : Nat) (log : Int) (w : Fr) (i j : Nat) : (run envW false 3000 ((⟨[.code (rfB tf_k)], .normal, tfB L n log w i j⟩ : Cfg)) []).cfg.k = [] := by kernel_rfl
theorem tfC (L : List Fr) (n : Nat) (log : Int) (w : Fr) (i j : Nat) {w0 : World} {F0 : Nat → Prop} {K : Kp} {ac : List Act} {Q : Exit → Act → World → Prop} {cX : Ctx} {aX : Act} {ρ : Option Nat} (ho : AllP [((0 : Int) ≤ ((j : Nat) : Int)), (((j : Nat) : Int) < ((n : Nat) : Int)), (0 = 0), ((((j : Nat) : Int)).toNat < (List.length L)), ((0 : Int) ≤ ((i : Nat) : Int)), (((i : Nat) : Int) < ((n : Nat) : Int)), (0 = 0), ((((i : Nat) : Int)).toNat < (List.length L)), ((0 : Int) ≤ ((i : Nat) : Int)), (((i : Nat) : Int) < ((n : Nat) : Int)), (0 = 0), ((((i : Nat) : Int)).toNat < (List.length L)), ((0 : Int) ≤ ((j : Nat) : Int)), (((j : Nat) : Int) < ((n : Nat) : Int)), (0 = 0), ((((j : Nat) : Int)).toNat < (List.length (List.set L (((i : Nat) : Int)).toNat (List.getD L (((j : Nat) : Int)).toNat (0 : Fr)))))]) (hs : Sim w0 F0 K ac (tfB L n log w i j) cX aX) (hK : ∀ cY aY, Sim w0 F0 K ac (mkSt 102 [] [] [0, 16, 32, 64] [(some (.sq (.s (List.set (List.set L (((i : Nat) : Int)).toNat (List.getD L (((j : Nat) : Int)).toNat (0 : Fr))) (((j : Nat) : Int)).toNat (List.getD L (((i : Nat) : Int)).toNat (0 : Fr)))))), (some (.fl [(.slc 0 0 n 4)])), (some (.fl [(.ob (.s w))])), (some (.fl [(.int .i64 log)]))] 416 [[3, 5, 16]] [([(.v (.c (.ptr 16 0))), (.v (.c (.ptr 32 0))), (.v (.c (.clo 115 [(64, 0)])))], 102)]) cY aY → Wq Try.prog Q ([]) ac Exit.normal aY cY.w ρ) : Wq Try.prog Q ([.code (rfB tf_k)]) ac .normal aX cX.w ρ :=
  run_atT (o := ⟨_, _, _, _, _, _, _⟩) envW_ok (by kernel_rfl) (tfC_hk L n log w i j) ho (by kernel_rfl) (by kernel_rfl) hs hK
noncomputable def tfE (L : List Fr) (n : Nat) (log : Int) (w : Fr) : St := mkSt 102 [] [] [0, 16, 32, 64] [some (.sq (.s L)), (Option.some (En.fl [(It.slc 0 0 n 4)])), (Option.some (En.fl [(It.ob (Ob.s w))])), (Option.some (En.fl [(It.int IntKind.i64 log)]))] 416 [[3, 5, 16]] [([(SV.v (V1.c (It.ptr 16 0))), (SV.v (V1.c (It.ptr 32 0))), (SV.v (V1.c (It.clo 115 [(64, 0)])))], 102)]
noncomputable def tg_k : List KI := (run envW false 3000 ((fun (L : List Fr) (n : Nat) (log : Int) (w : Fr) => (⟨rfR tf_k, .normal, tfS L n log w⟩ : Cfg)) default default default default) []).cfg.k
theorem tg_hk (L : List Fr) (n : Nat) (log : Int) (w : Fr) : (run envW false 3000 ((⟨rfR tf_k, .normal, tfS L n log w⟩ : Cfg)) []).cfg.k = tg_k := by kernel_rfl
theorem tg (L : List Fr) (n : Nat) (log : Int) (w : Fr) {w0 : World} {F0 : Nat → Prop} {K : Kp} {ac : List Act} {Q : Exit → Act → World → Prop} {cX : Ctx} {aX : Act} (ho : AllP [((2 : Int) ≠ (0 : Int)), ((0 : Int) ≤ (ite ((1 : Int) > (IntKind.wrap .i64 (Int.tdiv ((n : Nat) : Int) (2 : Int)))) (1 : Int) (IntKind.wrap .i64 (Int.tdiv ((n : Nat) : Int) (2 : Int))))), ((ite ((1 : Int) > (IntKind.wrap .i64 (Int.tdiv ((n : Nat) : Int) (2 : Int)))) (1 : Int) (IntKind.wrap .i64 (Int.tdiv ((n : Nat) : Int) (2 : Int)))) ≤ (8796093022208 : Int))]) (hs : Sim w0 F0 K ac (tfS L n log w) cX aX) (hK : ∀ ac cY aY, Sim w0 F0 K ac (mkSt 102 [3, 8, 9] [(.v (.c (.ptr 16 0))), (.v (.c (.slc 208 0 ((ite ((1 : Int) > (IntKind.wrap .i64 (Int.tdiv ((n : Nat) : Int) (2 : Int)))) (1 : Int) (IntKind.wrap .i64 (Int.tdiv ((n : Nat) : Int) (2 : Int))))).toNat 4))), (.v (.c (.int .i64 (1 : Int))))] [0, 16, 208] [(some (.sq (.s L))), (some (.fl [(.slc 0 0 n 4)])), (some (.sq (.s (powF w ((ite ((1 : Int) > (IntKind.wrap .i64 (Int.tdiv ((n : Nat) : Int) (2 : Int)))) (1 : Int) (IntKind.wrap .i64 (Int.tdiv ((n : Nat) : Int) (2 : Int))))).toNat))))] 256 [] []) cY aY → Wq Try.prog Q (tg_k) ac Exit.normal aY cY.w) : Wq Try.prog Q (rfR tf_k) ac .normal aX cX.w :=
  run_at2 (o := ⟨_, _, _, _, _, _, _⟩) envW_ok (by kernel_rfl) (tg_hk L n log w) ho hs hK
noncomputable def tgS (L A : List Fr) (n m : Nat) (half : Int) : St := mkSt 102 [3, 8, 9] [(SV.v (V1.c (It.ptr 16 0))), .v (.c (.slc 208 0 m 4)), .v (.c (.int .i64 half))] [0, 16, 208] [some (.sq (.s L)), (Option.some (En.fl [(It.slc 0 0 n 4)])), some (.sq (.s A))] 256 [] []
noncomputable def th_k : List KI := (run envW false 3000 ((fun (L A : List Fr) (n m : Nat) (half : Int) => (⟨lpIn tg_k, .normal, tgS L A n m half⟩ : Cfg)) default default default default default) [true]).cfg.k
theorem th_hk (L A : List Fr) (n m : Nat) (half : Int) : (run envW false 3000 ((⟨lpIn tg_k, .normal, tgS L A n m half⟩ : Cfg)) [true]).cfg.k = th_k := by kernel_rfl
theorem th (L A : List Fr) (n m : Nat) (half : Int) {w0 : World} {F0 : Nat → Prop} {K : Kp} {ac : List Act} {Q : Exit → Act → World → Prop} {cX : Ctx} {aX : Act} (ho : AllP [((decide (half < ((n : Nat) : Int))) = true), ((IntKind.wrap .i64 ((2 : Int) * half)) ≠ (0 : Int))]) (hs : Sim w0 F0 K ac (tgS L A n m half) cX aX) (hK : ∀ ac cY aY, Sim w0 F0 K ac (mkSt 102 [3, 8, 9, 10, 11] [(.v (.c (.ptr 16 0))), (.v (.c (.slc 208 0 m 4))), (.v (.c (.int .i64 half))), (.v (.c (.int .i64 (IntKind.wrap .i64 (Int.tdiv ((n : Nat) : Int) (IntKind.wrap .i64 ((2 : Int) * half))))))), (.v (.c (.int .i64 (0 : Int))))] [0, 16, 208] [(some (.sq (.s L))), (some (.fl [(.slc 0 0 n 4)])), (some (.sq (.s A)))] 432 [] []) cY aY → Wq Try.prog Q (th_k) ac Exit.normal aY cY.w) : Wq Try.prog Q (lpIn tg_k) ac .normal aX cX.w :=
  run_at2 (o := ⟨_, _, _, _, _, _, _⟩) envW_ok (by kernel_rfl) (th_hk L A n m half) ho hs hK
noncomputable def thS (L A : List Fr) (n m : Nat) (half st fr : Int) : St := mkSt 102 [3, 8, 9, 10, 11] [(SV.v (V1.c (It.ptr 16 0))), (SV.v (V1.c (It.slc 208 0 m 4))), (SV.v (V1.c (It.int IntKind.i64 half))), .v (.c (.int .i64 st)), .v (.c (.int .i64 fr))] [0, 16, 208] [(Option.some (En.sq (Sq.s L))), (Option.some (En.fl [(It.slc 0 0 n 4)])), (Option.some (En.sq (Sq.s A)))] 432 [] []
noncomputable def ti_k : List KI := (run envW false 3000 ((fun (L A : List Fr) (n m : Nat) (half st fr : Int) => (⟨lpIn th_k, .normal, thS L A n m half st fr⟩ : Cfg)) default default default default default default default) [true]).cfg.k
theorem ti_hk (L A : List Fr) (n m : Nat) (half st fr : Int) : (run envW false 3000 ((⟨lpIn th_k, .normal, thS L A n m half st fr⟩ : Cfg)) [true]).cfg.k = ti_k := by kernel_rfl
theorem ti (L A : List Fr) (n m : Nat) (half st fr : Int) {w0 : World} {F0 : Nat → Prop} {K : Kp} {ac : List Act} {Q : Exit → Act → World → Prop} {cX : Ctx} {aX : Act} (ho : AllP [((decide (fr < ((n : Nat) : Int))) = true)]) (hs : Sim w0 F0 K ac (thS L A n m half st fr) cX aX) (hK : ∀ ac cY aY, Sim w0 F0 K ac (mkSt 102 [3, 8, 9, 10, 11, 58, 59] [(.v (.c (.ptr 16 0))), (.v (.c (.slc 208 0 m 4))), (.v (.c (.int .i64 half))), (.v (.c (.int .i64 st))), (.v (.c (.int .i64 fr))), (.v (.c (.int .i64 half))), (.v (.c (.int .i64 (0 : Int))))] [0, 16, 208] [(some (.sq (.s L))), (some (.fl [(.slc 0 0 n 4)])), (some (.sq (.s A)))] 528 [] []) cY aY → Wq Try.prog Q (ti_k) ac Exit.normal aY cY.w) : Wq Try.prog Q (lpIn th_k) ac .normal aX cX.w :=
  run_at2 (o := ⟨_, _, _, _, _, _, _⟩) envW_ok (by kernel_rfl) (ti_hk L A n m half st fr) ho hs hK
noncomputable def tiS (L A : List Fr) (n m : Nat) (half st fr i : Int) : St := mkSt 102 [3, 8, 9, 10, 11, 58, 59] [(SV.v (V1.c (It.ptr 16 0))), (SV.v (V1.c (It.slc 208 0 m 4))), (SV.v (V1.c (It.int IntKind.i64 half))), (SV.v (V1.c (It.int IntKind.i64 st))), (SV.v (V1.c (It.int IntKind.i64 fr))), (SV.v (V1.c (It.int IntKind.i64 half))), .v (.c (.int .i64 i))] [0, 16, 208] [(Option.some (En.sq (Sq.s L))), (Option.some (En.fl [(It.slc 0 0 n 4)])), (Option.some (En.sq (Sq.s A)))] 528 [] []
theorem tj_hk (L A : List Fr) (n m : Nat) (half st fr i : Int) : (run envW false 3000 ((⟨lpIn ti_k, .normal, tiS L A n m half st fr i⟩ : Cfg)) [true]).cfg.k = lpBk ti_k := by kernel_rfl
theorem tj (L A : List Fr) (n m : Nat) (half st fr i : Int) {w0 : World} {F0 : Nat → Prop} {K : Kp} {ac : List Act} {Q : Exit → Act → World → Prop} {cX : Ctx} {aX : Act} (ho : AllP [((decide (i < half)) = true), ((0 : Int) ≤ (IntKind.wrap .i64 (fr + i))), ((IntKind.wrap .i64 (fr + i)) < ((n : Nat) : Int)), (0 = 0), (((IntKind.wrap .i64 (fr + i))).toNat < (List.length L)), ((0 : Int) ≤ (IntKind.wrap .i64 ((IntKind.wrap .i64 (fr + i)) + half))), ((IntKind.wrap .i64 ((IntKind.wrap .i64 (fr + i)) + half)) < ((n : Nat) : Int)), (0 = 0), (((IntKind.wrap .i64 ((IntKind.wrap .i64 (fr + i)) + half))).toNat < (List.length L)), ((0 : Int) ≤ (IntKind.wrap .i64 (i * st))), ((IntKind.wrap .i64 (i * st)) < ((m : Nat) : Int)), (0 = 0), (((IntKind.wrap .i64 (i * st))).toNat < (List.length A)), ((0 : Int) ≤ (IntKind.wrap .i64 (fr + i))), ((IntKind.wrap .i64 (fr + i)) < ((n : Nat) : Int)), (0 = 0), (((IntKind.wrap .i64 (fr + i))).toNat < (List.length L)), ((0 : Int) ≤ (IntKind.wrap .i64 ((IntKind.wrap .i64 (fr + i)) + half))), ((IntKind.wrap .i64 ((IntKind.wrap .i64 (fr + i)) + half)) < ((n : Nat) : Int)), (0 = 0), (((IntKind.wrap .i64 ((IntKind.wrap .i64 (fr + i)) + half))).toNat < (List.length (List.set L ((IntKind.wrap .i64 (fr + i))).toNat ((List.getD L ((IntKind.wrap .i64 (fr + i))).toNat (0 : Fr)) + ((List.getD L ((IntKind.wrap .i64 ((IntKind.wrap .i64 (fr + i)) + half))).toNat (0 : Fr)) * (List.getD A ((IntKind.wrap .i64 (i * st))).toNat (0 : Fr)))))))]) (hs : Sim w0 F0 K ac (tiS L A n m half st fr i) cX aX) (hK : ∀ ac cY aY, Sim w0 F0 K ac (mkSt 102 [3, 8, 9, 10, 11, 58, 59] [(.v (.c (.ptr 16 0))), (.v (.c (.slc 208 0 m 4))), (.v (.c (.int .i64 half))), (.v (.c (.int .i64 st))), (.v (.c (.int .i64 fr))), (.v (.c (.int .i64 half))), (.v (.c (.int .i64 (IntKind.wrap .i64 (i + (1 : Int))))))] [0, 16, 208] [(some (.sq (.s (List.set (List.set L ((IntKind.wrap .i64 (fr + i))).toNat ((List.getD L ((IntKind.wrap .i64 (fr + i))).toNat (0 : Fr)) + ((List.getD L ((IntKind.wrap .i64 ((IntKind.wrap .i64 (fr + i)) + half))).toNat (0 : Fr)) * (List.getD A ((IntKind.wrap .i64 (i * st))).toNat (0 : Fr))))) ((IntKind.wrap .i64 ((IntKind.wrap .i64 (fr + i)) + half))).toNat ((List.getD L ((IntKind.wrap .i64 (fr + i))).toNat (0 : Fr)) - ((List.getD L ((IntKind.wrap .i64 ((IntKind.wrap .i64 (fr + i)) + half))).toNat (0 : Fr)) * (List.getD A ((IntKind.wrap .i64 (i * st))).toNat (0 : Fr)))))))), (some (.fl [(.slc 0 0 n 4)])), (some (.sq (.s A)))] 1328 [] []) cY aY → Wq Try.prog Q (lpBk ti_k) ac Exit.normal aY cY.w) : Wq Try.prog Q (lpIn ti_k) ac .normal aX cX.w :=
  run_at2 (o := ⟨_, _, _, _, _, _, _⟩) envW_ok (by kernel_rfl) (tj_hk L A n m half st fr i) ho hs hK
theorem tk_hk (L A : List Fr) (n m : Nat) (half st fr i : Int) : (run envW false 3000 ((⟨lpIn ti_k, .normal, tiS L A n m half st fr i⟩ : Cfg)) [false]).cfg.k = lpBk th_k := by kernel_rfl
theorem tk (L A : List Fr) (n m : Nat) (half st fr i : Int) {w0 : World} {F0 : Nat → Prop} {K : Kp} {ac : List Act} {Q : Exit → Act → World → Prop} {cX : Ctx} {aX : Act} (ho : AllP [((decide (i < half)) = false)]) (hs : Sim w0 F0 K ac (tiS L A n m half st fr i) cX aX) (hK : ∀ ac cY aY, Sim w0 F0 K ac (mkSt 102 [3, 8, 9, 10, 11] [(.v (.c (.ptr 16 0))), (.v (.c (.slc 208 0 m 4))), (.v (.c (.int .i64 half))), (.v (.c (.int .i64 st))), (.v (.c (.int .i64 (IntKind.wrap .i64 (fr + (IntKind.wrap .i64 ((2 : Int) * half)))))))] [0, 16, 208] [(some (.sq (.s L))), (some (.fl [(.slc 0 0 n 4)])), (some (.sq (.s A)))] 624 [] []) cY aY → Wq Try.prog Q (lpBk th_k) ac Exit.normal aY cY.w) : Wq Try.prog Q (lpIn ti_k) ac .normal aX cX.w :=
  run_at2 (o := ⟨_, _, _, _, _, _, _⟩) envW_ok (by kernel_rfl) (tk_hk L A n m half st fr i) ho hs hK
theorem tm_hk (L A : List Fr) (n m : Nat) (half st fr : Int) : (run envW false 3000 ((⟨lpIn th_k, .normal, thS L A n m half st fr⟩ : Cfg)) [false]).cfg.k = lpBk tg_k := by kernel_rfl
theorem tm (L A : List Fr) (n m : Nat) (half st fr : Int) {w0 : World} {F0 : Nat → Prop} {K : Kp} {ac : List Act} {Q : Exit → Act → World → Prop} {cX : Ctx} {aX : Act} (ho : AllP [((decide (fr < ((n : Nat) : Int))) = false)]) (hs : Sim w0 F0 K ac (thS L A n m half st fr) cX aX) (hK : ∀ ac cY aY, Sim w0 F0 K ac (mkSt 102 [3, 8, 9] [(.v (.c (.ptr 16 0))), (.v (.c (.slc 208 0 m 4))), (.v (.c (.int .i64 (IntKind.wrap .i64 (half * (2 : Int))))))] [0, 16, 208] [(some (.sq (.s L))), (some (.fl [(.slc 0 0 n 4)])), (some (.sq (.s A)))] 544 [] []) cY aY → Wq Try.prog Q (lpBk tg_k) ac Exit.normal aY cY.w) : Wq Try.prog Q (lpIn th_k) ac .normal aX cX.w :=
  run_at2 (o := ⟨_, _, _, _, _, _, _⟩) envW_ok (by kernel_rfl) (tm_hk L A n m half st fr) ho hs hK
theorem tn_hk (L A : List Fr) (n m : Nat) (half : Int) : (run envW false 3000 ((⟨lpIn tg_k, .normal, tgS L A n m half⟩ : Cfg)) [false]).cfg.k = [] := by kernel_rfl
theorem tn (L A : List Fr) (n m : Nat) (half : Int) {w0 : World} {F0 : Nat → Prop} {K : Kp} {ac : List Act} {Q : Exit → Act → World → Prop} {cX : Ctx} {aX : Act} (ho : AllP [((decide (half < ((n : Nat) : Int))) = false)]) (hs : Sim w0 F0 K ac (tgS L A n m half) cX aX) (hK : ∀ ac cY aY, Sim w0 F0 K ac (mkSt 102 [] [] [0] [(some (.sq (.s L)))] 320 [] []) cY aY → Wq Try.prog Q ([]) ac Exit.normal aY cY.w) : Wq Try.prog Q (lpIn tg_k) ac .normal aX cX.w :=
  run_at2 (o := ⟨_, _, _, _, _, _, _⟩) envW_ok (by kernel_rfl) (tn_hk L A n m half) ho hs hK
end Go.Proofs.Ytlfllehomhcbfaa

/- Values at the powers of a root, by sums and differences of halves: the plain law. No conditions. -/
namespace Go.Proofs.Ytlfllehomhcbfaa

section
variable {r : Nat} [NeZero r]

def sm (f : Nat → Fin r) : Nat → Fin r
  | 0 => 0
  | n + 1 => sm f n + f n

theorem sm_congr {f g : Nat → Fin r} : ∀ n, (∀ i, i < n → f i = g i) → sm f n = sm g n
  | 0, _ => rfl
  | n + 1, h => by
    simp only [sm]
    rw [sm_congr n (fun i hi => h i (by omega)), h n (by omega)]

theorem sm_mul (k : Fin r) (f : Nat → Fin r) : ∀ n, sm (fun i => k * f i) n = k * sm f n
  | 0 => by simp only [sm]; grind
  | n + 1 => by
    simp only [sm]
    rw [sm_mul k f n]
    grind

theorem sm_add (f g : Nat → Fin r) : ∀ n, sm (fun i => f i + g i) n = sm f n + sm g n
  | 0 => by simp only [sm]; grind
  | n + 1 => by
    simp only [sm]
    rw [sm_add f g n]
    grind

theorem sm_zero : ∀ n, sm (fun _ => (0 : Fin r)) n = 0
  | 0 => rfl
  | n + 1 => by
    simp only [sm]
    rw [sm_zero n]
    grind

theorem sm_two (f : Nat → Fin r) : ∀ n, sm f (2 * n) = sm (fun i => f (2 * i)) n + sm (fun i => f (2 * i + 1)) n
  | 0 => by simp only [sm]; grind
  | n + 1 => by
    rw [show 2 * (n + 1) = 2 * n + 1 + 1 from by omega]
    simp only [sm]
    rw [sm_two f n]
    grind

theorem brv_even (m b : Nat) : brv (m + 1) (2 * b) = brv m b := by
  simp only [brv]
  rw [show 2 * b % 2 = 0 from by omega, show 2 * b / 2 = b from by omega]
  omega
theorem brv_odd (m b : Nat) : brv (m + 1) (2 * b + 1) = brv m b + 2 ^ m := by
  simp only [brv]
  rw [show (2 * b + 1) % 2 = 1 from by omega, show (2 * b + 1) / 2 = b from by omega]
  omega
theorem brv_zero : ∀ m, brv m 0 = 0
  | 0 => rfl
  | m + 1 => by
    have := brv_even m 0
    simp only [Nat.mul_zero] at this
    rw [this, brv_zero m]
theorem brv_brv {m i : Nat} (h : i < 2 ^ m) : brv m (brv m i) = i := by
  apply Nat.eq_of_testBit_eq
  intro k
  rw [brv_bit, brv_bit]
  by_cases hk : k < m
  · rw [show decide (k < m) = true from by simp [hk], show decide (m - 1 - k < m) = true from by simp; omega, Bool.true_and, Bool.true_and, show m - 1 - (m - 1 - k) = k from by omega]
  · rw [show decide (k < m) = false from by simp [hk], Bool.false_and, Nat.testBit_lt_two_pow]
    exact Nat.lt_of_lt_of_le h (Nat.pow_le_pow_right (by decide) (by omega))

variable (c W : Nat → Fin r)

/-- What stands at a place of a block, when blocks are so long. -/
def blkV (m k b i : Nat) : Fin r := sm (fun j => c (brv m b + j * 2 ^ m) * W (i * j * 2 ^ m)) (2 ^ k)

variable (h0 : W 0 = 1) (ha : ∀ a b, W (a + b) = W a * W b)
include h0 ha

omit h0 in
theorem blkV_low (m k b i : Nat) : blkV c W m (k + 1) b i = blkV c W (m + 1) k (2 * b) i + W (i * 2 ^ m) * blkV c W (m + 1) k (2 * b + 1) i := by
  unfold blkV
  rw [Nat.pow_succ 2 k, Nat.mul_comm (2 ^ k) 2, sm_two, ← sm_mul]
  refine congr (congrArg _ (sm_congr _ fun t _ => ?_)) (sm_congr _ fun t _ => ?_)
  · rw [brv_even, Nat.pow_succ]
    rw [show 2 * t * 2 ^ m = t * (2 ^ m * 2) from by ac_rfl, show i * (2 * t) * 2 ^ m = i * t * (2 ^ m * 2) from by ac_rfl]
  · have e1 : brv (m + 1) (2 * b + 1) + t * 2 ^ (m + 1) = brv m b + (2 * t + 1) * 2 ^ m := by
      rw [brv_odd, Nat.pow_succ, Nat.add_mul, Nat.one_mul, Nat.mul_comm (2 ^ m) 2, ← Nat.mul_assoc, Nat.mul_comm t 2]
      omega
    have e2 : i * (2 * t + 1) * 2 ^ m = i * 2 ^ m + i * t * 2 ^ (m + 1) := by
      rw [Nat.pow_succ, Nat.mul_add, Nat.mul_one, Nat.add_mul, show i * (2 * t) * 2 ^ m = i * t * (2 ^ m * 2) from by ac_rfl, Nat.add_comm]
    rw [e1, e2, ha]
    grind

theorem W_pow (a : Nat) (h : W a = 1) : ∀ t, W (a * t) = 1
  | 0 => by rw [Nat.mul_zero]; exact h0
  | t + 1 => by
    rw [Nat.mul_succ, ha, W_pow a h t, h]
    grind

theorem blkV_high (m k b i : Nat) (hn : W (2 ^ (k + m)) = -1) : blkV c W m (k + 1) b (i + 2 ^ k) = blkV c W (m + 1) k (2 * b) i - W (i * 2 ^ m) * blkV c W (m + 1) k (2 * b + 1) i := by
  have hone : W (2 ^ k * 2 ^ (m + 1)) = 1 := by
    rw [← Nat.pow_add, show k + (m + 1) = (k + m) + 1 from by omega, Nat.pow_succ, Nat.mul_two, ha, hn]
    grind
  have hper : ∀ b', blkV c W (m + 1) k b' (i + 2 ^ k) = blkV c W (m + 1) k b' i := by
    intro b'
    unfold blkV
    refine sm_congr _ fun t _ => ?_
    rw [show (i + 2 ^ k) * t * 2 ^ (m + 1) = i * t * 2 ^ (m + 1) + 2 ^ k * 2 ^ (m + 1) * t from by rw [Nat.add_mul, Nat.add_mul, Nat.mul_right_comm (2 ^ k)], ha, W_pow W h0 ha _ hone]
    grind
  rw [blkV_low c W ha, hper, hper, Nat.add_mul, ha, ← Nat.pow_add, hn]
  grind

/-- What stands at a place when blocks are 2^k long. -/
def posV (log k q : Nat) : Fin r := blkV c W (log - k) k (q / 2 ^ k) (q % 2 ^ k)

omit ha in
theorem posV_first (log q : Nat) : posV c W log 0 q = c (brv log q) := by
  simp only [posV, blkV, Nat.pow_zero, Nat.div_one, Nat.mod_one, sm, Nat.sub_zero, Nat.zero_mul, Nat.add_zero, h0]
  grind

omit h0 ha in
theorem posV_last (log q : Nat) (hq : q < 2 ^ log) : posV c W log log q = sm (fun j => c j * W (q * j)) (2 ^ log) := by
  simp only [posV, blkV, Nat.sub_self, brv, Nat.pow_zero, Nat.mul_one, Nat.zero_add, Nat.mod_eq_of_lt hq]

theorem posV_step {log k b i : Nat} (hk : k < log) (hi : i < 2 ^ k) (hn : W (2 ^ (log - 1)) = -1) :
    posV c W log (k + 1) (b * 2 ^ (k + 1) + i) = posV c W log k (b * 2 ^ (k + 1) + i) + posV c W log k (b * 2 ^ (k + 1) + 2 ^ k + i) * W (i * 2 ^ (log - k - 1)) ∧
    posV c W log (k + 1) (b * 2 ^ (k + 1) + 2 ^ k + i) = posV c W log k (b * 2 ^ (k + 1) + i) - posV c W log k (b * 2 ^ (k + 1) + 2 ^ k + i) * W (i * 2 ^ (log - k - 1)) := by
  obtain ⟨m, rfl⟩ : ∃ m, log = m + k + 1 := ⟨log - k - 1, by omega⟩
  have hp : 0 < 2 ^ k := Nat.two_pow_pos k
  have e1 : (b * 2 ^ (k + 1) + i) / 2 ^ (k + 1) = b ∧ (b * 2 ^ (k + 1) + i) % 2 ^ (k + 1) = i := by
    have : i < 2 ^ (k + 1) := by rw [Nat.pow_succ]; omega
    rw [Nat.mul_comm b, Nat.mul_add_mod, Nat.mod_eq_of_lt this, Nat.mul_add_div (Nat.two_pow_pos _), Nat.div_eq_of_lt this]
    exact ⟨rfl, rfl⟩
  have e2 : (b * 2 ^ (k + 1) + 2 ^ k + i) / 2 ^ (k + 1) = b ∧ (b * 2 ^ (k + 1) + 2 ^ k + i) % 2 ^ (k + 1) = i + 2 ^ k := by
    have : 2 ^ k + i < 2 ^ (k + 1) := by rw [Nat.pow_succ]; omega
    rw [Nat.add_assoc, Nat.mul_comm b, Nat.mul_add_mod, Nat.mod_eq_of_lt this, Nat.mul_add_div (Nat.two_pow_pos _), Nat.div_eq_of_lt this]
    exact ⟨rfl, Nat.add_comm _ _⟩
  have e3 : (b * 2 ^ (k + 1) + i) / 2 ^ k = 2 * b ∧ (b * 2 ^ (k + 1) + i) % 2 ^ k = i := by
    rw [show b * 2 ^ (k + 1) = 2 ^ k * (2 * b) from by rw [Nat.pow_succ]; ac_rfl, Nat.mul_add_mod, Nat.mod_eq_of_lt hi, Nat.mul_add_div hp, Nat.div_eq_of_lt hi]
    exact ⟨rfl, rfl⟩
  have e4 : (b * 2 ^ (k + 1) + 2 ^ k + i) / 2 ^ k = 2 * b + 1 ∧ (b * 2 ^ (k + 1) + 2 ^ k + i) % 2 ^ k = i := by
    rw [show b * 2 ^ (k + 1) + 2 ^ k = 2 ^ k * (2 * b + 1) from by rw [Nat.pow_succ, Nat.mul_add, Nat.mul_one]; congr 1; ac_rfl, Nat.mul_add_mod, Nat.mod_eq_of_lt hi, Nat.mul_add_div hp, Nat.div_eq_of_lt hi]
    exact ⟨rfl, rfl⟩
  have h1 := blkV_low c W ha m k b i
  have h2 := blkV_high c W h0 ha m k b i (by rw [← hn]; congr 2; omega)
  unfold posV
  rw [e1.1, e1.2, e2.1, e2.2, e3.1, e3.2, e4.1, e4.2, show m + k + 1 - (k + 1) = m from by omega, show m + k + 1 - k = m + 1 from by omega, show m + 1 - 1 = m from by omega, h1, h2]
  constructor <;> grind

end
/-- Places that are done, and others. -/
def mix {r : Nat} (f g : Nat → Fin r) (fr half i q : Nat) : Fin r := if q < fr ∨ (fr ≤ q ∧ q < fr + i) ∨ (fr + half ≤ q ∧ q < fr + half + i) then g q else f q
section
variable {r : Nat} {f g : Nat → Fin r} {fr half i n q : Nat}

theorem mix_start : mix f g 0 half 0 q = f q := by
  unfold mix
  rw [if_neg (by omega)]
theorem mix_end (h : q < n) : mix f g n half 0 q = g q := by
  unfold mix
  rw [if_pos (.inl h)]
theorem mix_next : mix f g fr half half q = mix f g (fr + 2 * half) half 0 q := by
  unfold mix
  by_cases h : q < fr + 2 * half
  · rw [if_pos (by omega), if_pos (.inl h)]
  · rw [if_neg (by omega), if_neg (by omega)]
theorem mix_at1 (h : i < half) : mix f g fr half i (fr + i) = f (fr + i) := by
  unfold mix
  rw [if_neg (by omega)]
theorem mix_at2 : mix f g fr half i (fr + half + i) = f (fr + half + i) := by
  unfold mix
  rw [if_neg (by omega)]
theorem mix_step (h : i < half) : (if q = fr + half + i then g (fr + half + i) else if q = fr + i then g (fr + i) else mix f g fr half i q) = mix f g fr half (i + 1) q := by
  unfold mix
  by_cases h1 : q = fr + half + i
  · subst h1
    rw [if_pos rfl, if_pos (by omega)]
  · rw [if_neg h1]
    by_cases h2 : q = fr + i
    · subst h2
      rw [if_pos rfl, if_pos (by omega)]
    · rw [if_neg h2]
      by_cases h3 : q < fr ∨ (fr ≤ q ∧ q < fr + i) ∨ (fr + half ≤ q ∧ q < fr + half + i)
      · rw [if_pos h3, if_pos (by omega)]
      · rw [if_neg h3, if_neg (by omega)]

end

/-! Rows as tables. -/
def tab (n : Nat) (F : Nat → Fr) : List Fr := (List.range n).map F
theorem tab_len (n : Nat) (F : Nat → Fr) : (tab n F).length = n := by simp [tab]
theorem tab_congr {n : Nat} {F G : Nat → Fr} (h : ∀ q, q < n → F q = G q) : tab n F = tab n G := by
  unfold tab
  refine List.map_congr_left fun q hq => h q (List.mem_range.1 hq)
theorem tab_get {n : Nat} {F : Nat → Fr} {q : Nat} (h : q < n) : (tab n F).getD q 0 = F q := by
  simp [tab, List.getD, h]
theorem tab_set {n : Nat} {F : Nat → Fr} {p : Nat} {v : Fr} : (tab n F).set p v = tab n (fun q => if q = p then v else F q) := by
  apply List.ext_getElem
  · simp [tab]
  · intro q h1 h2
    simp only [tab, List.getElem_set, List.getElem_map, List.getElem_range]
    by_cases h : q = p
    · simp [h]
    · rw [if_neg (fun e => h e.symm), if_neg h]
theorem tab_self (l : List Fr) : l = tab l.length (fun q => l.getD q 0) := by
  apply List.ext_getElem
  · simp [tab]
  · intro q h1 h2
    simp [tab, List.getD, h1]

/-- Two elements change places. -/
def swp2 (l : List Fr) (z : Nat × Nat) : List Fr := (l.set z.1 (l.getD z.2 0)).set z.2 (l.getD z.1 0)
def swA (l : List Fr) (zs : List (Nat × Nat)) : List Fr := zs.foldl swp2 l
theorem swA_len (l : List Fr) : ∀ zs, (swA l zs).length = l.length := by
  intro zs
  unfold swA
  induction zs generalizing l with
  | nil => rfl
  | cons z zs ih =>
    simp only [List.foldl_cons]
    rw [ih]
    simp [swp2]
theorem swA_snoc (l : List Fr) (zs : List (Nat × Nat)) (z : Nat × Nat) : swA l (zs ++ [z]) = swp2 (swA l zs) z := by
  unfold swA
  rw [List.foldl_append]
  rfl

def swF (c : Nat → Fr) (log i q : Nat) : Fr := if min q (brv log q) < i then c (brv log q) else c q

theorem swF_zero (c : Nat → Fr) (log q : Nat) : swF c log 0 q = c q := by
  unfold swF
  rw [if_neg (by omega)]
theorem swF_all (c : Nat → Fr) {log q : Nat} (h : q < 2 ^ log) : swF c log (2 ^ log) q = c (brv log q) := by
  unfold swF
  rw [if_pos (by have := Nat.min_le_left q (brv log q); omega)]

theorem swF_step {c : Nat → Fr} {log i : Nat} (hi : i < 2 ^ log) (h : i < brv log i) :
    swp2 (tab (2 ^ log) (swF c log i)) (i, brv log i) = tab (2 ^ log) (swF c log (i + 1)) := by
  have hb := brv_lt log i
  unfold swp2
  simp only
  rw [tab_get hb, tab_get hi, tab_set, tab_set]
  refine tab_congr fun q hq => ?_
  have hbb := brv_brv hi
  have hqq := brv_brv hq
  unfold swF
  by_cases h1 : q = brv log i
  · subst h1
    rw [if_pos rfl, hbb, if_neg (by omega), if_pos (by omega)]
  · rw [if_neg h1]
    by_cases h2 : q = i
    · subst h2
      rw [if_pos rfl, hbb, if_neg (by omega), if_pos (by omega)]
    · rw [if_neg h2]
      have h3 : brv log q ≠ i := fun e => h1 (by rw [← hqq, e])
      by_cases h4 : min q (brv log q) < i
      · rw [if_pos h4, if_pos (by omega)]
      · rw [if_neg h4, if_neg (by omega)]

theorem swF_skip {c : Nat → Fr} {log i : Nat} (hi : i < 2 ^ log) (h : ¬ i < brv log i) : tab (2 ^ log) (swF c log i) = tab (2 ^ log) (swF c log (i + 1)) := by
  refine tab_congr fun q hq => ?_
  have hqq := brv_brv hq
  have hbb := brv_brv hi
  unfold swF
  by_cases h4 : min q (brv log q) < i
  · rw [if_pos h4, if_pos (by omega)]
  · rw [if_neg h4]
    by_cases h5 : min q (brv log q) < i + 1
    · rw [if_pos h5]
      by_cases h2 : q = i
      · subst h2
        rw [show brv log q = q from by omega]
      · have h3 : brv log q = i := by omega
        have : q = brv log i := by rw [← h3, hqq]
        omega
    · rw [if_neg h5]

end Go.Proofs.Ytlfllehomhcbfaa

/- The transform: values at the powers of a root, in their places. No conditions. -/
namespace Go.Proofs.Ytlfllehomhcbfaa

theorem swA_prs (c : Nat → Fr) (log : Nat) : ∀ i, i ≤ 2 ^ log → swA (tab (2 ^ log) c) (prs log i) = tab (2 ^ log) (swF c log i)
  | 0, _ => by
    show tab _ c = _
    exact tab_congr fun q _ => (swF_zero c log q).symm
  | i + 1, h => by
    simp only [prs]
    by_cases h1 : i < brv log i
    · rw [if_pos h1, swA_snoc, swA_prs c log i (by omega), swF_step (by omega) h1]
    · rw [if_neg h1, List.append_nil, swA_prs c log i (by omega), swF_skip (by omega) h1]

theorem prs_mem {log : Nat} : ∀ {n : Nat} {z : Nat × Nat}, z ∈ prs log n → z.1 < n ∧ z.2 < 2 ^ log
  | 0, z, h => by cases h
  | n + 1, z, h => by
    simp only [prs, List.mem_append] at h
    rcases h with h | h
    · have := prs_mem h; omega
    · split at h
      · simp only [List.mem_singleton] at h
        subst h
        exact ⟨by simp, brv_lt _ _⟩
      · cases h

/-- The values of a polynomial at the powers of a number. -/
def nttL (c : Nat → Fr) (w : Fr) (n : Nat) : List Fr := tab n (fun q => sm (fun j => c j * powN w (q * j)) n)

def prVals (z : Nat × Nat) : List SV := [.v (.c (.int .i64 (z.1 : Int))), .v (.c (.int .i64 (z.2 : Int)))]

theorem tf_assign {L : List Fr} {n log : Nat} {w : Fr} {z : Nat × Nat} {w1 : World} {F1 : Nat → Prop} {K1 : Kp} {as1 : List Act} {Q1 : Exit → Act → World → Prop} {l : Nat} {y : Ctx} {b : Act} (hs : Sim w1 F1 K1 as1 (roundSt (tfS L n log w) ([17, 18].zip (prVals z))) y b)
    (hQ : ∀ y' b', Sim w1 F1 K1 as1 (tfB L n log w z.1 z.2) y' b' → Q1 .normal b' y'.w) : Wq Try.prog Q1 [.code (rfA tf_k)] as1 .normal b y.w (some l) := by
  exact tfA L n log w z.1 z.2 trivial hs fun cZ aZ hs3 => ⟨hQ _ _ (hs3.nx _)⟩

theorem tf_body {L : List Fr} {n log : Nat} {w : Fr} {z : Nat × Nat} (h1 : z.1 < n) (h2 : z.2 < n) (hl : L.length = n) {w1 : World} {F1 : Nat → Prop} {K1 : Kp} {as1 : List Act} {Q1 : Exit → Act → World → Prop} {l : Nat} {y : Ctx} {b : Act} (hs : Sim w1 F1 K1 as1 (tfB L n log w z.1 z.2) y b)
    (hQ : ∀ y' b', Sim w1 F1 K1 as1 (tfE (swp2 L z) n log w) y' b' → Q1 .normal b' y'.w) : Wq Try.prog Q1 [.code (rfB tf_k)] as1 .normal b y.w (some l) := by
  refine tfC L n (log : Int) w z.1 z.2 (by and_intros <;> first | rfl | trivial | omega | (simp only [List.length_set, Int.toNat_natCast]; omega)) hs fun cZ aZ hs3 => ⟨hQ _ _ ?_⟩
  rw [Int.toNat_natCast, Int.toNat_natCast] at hs3
  exact hs3.nx _

theorem powF_get {w : Fr} {m e : Nat} (h : e < m) : (powF w m).getD e 0 = powN w e := tab_get (F := powN w) h

section
variable {w0 : World} {F0 : Nat → Prop} {K : Kp} {Q : Exit → Act → World → Prop}

theorem tf_inner {f g : Nat → Fr} {w : Fr} {N M H T fr : Nat} (hN : N ≤ 65536) (hM : M ≤ 65536) (hfr : fr + 2 * H ≤ N) (hT : ∀ i, i < H → i * T < M)
    (hst : ∀ i, i < H → g (fr + i) = f (fr + i) + f (fr + H + i) * powN w (i * T) ∧ g (fr + H + i) = f (fr + i) - f (fr + H + i) * powN w (i * T))
    (hK : ∀ ac y b, Sim w0 F0 K ac (thS (tab N (mix f g (fr + 2 * H) H 0)) (powF w M) N M (H : Int) (T : Int) ((fr + 2 * H : Nat) : Int)) y b → Wq Try.prog Q (lpBk th_k) ac .normal b y.w)
    {k0 : List KI} (hl : loopOf k0 = some (lpC ti_k, lpR ti_k)) {ac : List Act} {y : Ctx} {b : Act} (hs : Sim w0 F0 K ac (tiS (tab N (mix f g fr H 0)) (powF w M) N M (H : Int) (T : Int) (fr : Int) 0) y b) : Wq Try.prog Q k0 ac .normal b y.w := by
  refine loop_rule (ι := { i : Nat // i ≤ H }) (fun i => tiS (tab N (mix f g fr H i.1)) (powF w M) N M (H : Int) (T : Int) (fr : Int) (i.1 : Int)) (fun i => H - i.1) hl (fun i ih ac cY aY hs => ?_) ⟨0, Nat.zero_le _⟩ hs
  obtain ⟨i, hi⟩ := i
  simp only at ih hs
  by_cases h : i < H
  · have hiT := hT i h
    have hw1 : IntKind.wrap .i64 ((fr : Int) + (i : Int)) = ((fr + i : Nat) : Int) := by rw [wrap_id (by omega) (by omega)]; omega
    have hw2 : IntKind.wrap .i64 (((fr + i : Nat) : Int) + (H : Int)) = ((fr + H + i : Nat) : Int) := by rw [wrap_id (by omega) (by omega)]; omega
    have hw3 : IntKind.wrap .i64 ((i : Int) * (T : Int)) = ((i * T : Nat) : Int) := by
      rw [← Int.natCast_mul]
      generalize i * T = e at *
      exact wrap_id (by omega) (by omega)
    have hw4 : IntKind.wrap .i64 ((i : Int) + 1) = ((i + 1 : Nat) : Int) := by rw [wrap_id (by omega) (by omega)]; omega
    have hlenA : (powF w M).length = M := powF_len w M
    have hlenL : (tab N (mix f g fr H i)).length = N := tab_len _ _
    obtain ⟨hs1, hs2⟩ := hst i h
    refine tj _ _ _ _ _ _ _ _ ?_ hs fun ac cZ aZ hs3 => ?_
    · rw [hw1, hw2, hw3]
      simp only [Int.toNat_natCast, List.length_set, hlenA, hlenL]
      clear hs1 hs2 hst hT hw1 hw2 hw3 hw4 hlenA hlenL ih hs
      generalize i * T = e at *
      and_intros <;> first | rfl | trivial | omega | (apply decide_eq_true; omega)
    · rw [hw1, hw2, hw3, hw4] at hs3
      simp only [Int.toNat_natCast] at hs3
      rw [tab_get (by omega), tab_get (by omega), powF_get hiT, mix_at1 h, mix_at2, ← hs1, ← hs2, tab_set, tab_set, tab_congr fun q _ => mix_step (q := q) h] at hs3
      exact ih ⟨i + 1, by omega⟩ (by show H - (i + 1) < H - i; omega) ac cZ aZ (hs3.nx _)
  · have e : i = H := by omega
    subst e
    refine tk _ _ _ _ _ _ _ _ ⟨by simp, trivial⟩ hs fun ac cZ aZ hs3 => ?_
    have hw5 : IntKind.wrap .i64 ((2 : Int) * (i : Int)) = ((2 * i : Nat) : Int) := by rw [wrap_id (by omega) (by omega)]; omega
    have hw6 : IntKind.wrap .i64 ((fr : Int) + ((2 * i : Nat) : Int)) = ((fr + 2 * i : Nat) : Int) := by rw [wrap_id (by omega) (by omega)]; omega
    rw [hw5, hw6, tab_congr fun q _ => mix_next (q := q)] at hs3
    exact hK _ _ _ (hs3.nx _)

/-- One round of sums and differences. -/
theorem tf_round {f g : Nat → Fr} {w : Fr} {N M H T B : Nat} (hN : N ≤ 65536) (hM : M ≤ 65536) (hH : 0 < H) (hB : B * (2 * H) = N) (hT : ∀ i, i < H → i * T < M) (hTN : N / (2 * H) = T)
    (hst : ∀ b i, i < H → g (b * (2 * H) + i) = f (b * (2 * H) + i) + f (b * (2 * H) + H + i) * powN w (i * T) ∧ g (b * (2 * H) + H + i) = f (b * (2 * H) + i) - f (b * (2 * H) + H + i) * powN w (i * T))
    (hK : ∀ ac y b, Sim w0 F0 K ac (tgS (tab N g) (powF w M) N M ((2 * H : Nat) : Int)) y b → Wq Try.prog Q (lpBk tg_k) ac .normal b y.w)
    {ac : List Act} {y : Ctx} {b : Act} (hs : Sim w0 F0 K ac (tgS (tab N f) (powF w M) N M (H : Int)) y b) (hHN : H < N) : Wq Try.prog Q (lpIn tg_k) ac .normal b y.w := by
  have hw1 : IntKind.wrap .i64 ((2 : Int) * (H : Int)) = ((2 * H : Nat) : Int) := by rw [wrap_id (by omega) (by omega)]; omega
  have hw2 : IntKind.wrap .i64 (Int.tdiv (N : Int) ((2 * H : Nat) : Int)) = (T : Int) := by
    rw [Int.tdiv_eq_ediv_of_nonneg (by omega), ← Int.natCast_ediv, hTN]
    have : T ≤ N := by rw [← hTN]; exact Nat.div_le_self _ _
    exact wrap_id (by omega) (by omega)
  refine th _ _ _ _ _ ⟨by simp; omega, by rw [hw1]; omega, trivial⟩ hs fun ac cY aY hs1 => ?_
  rw [hw1, hw2, tab_congr fun q _ => (mix_start (f := f) (g := g) (half := H) (q := q)).symm] at hs1
  refine loop_rule (ι := { b : Nat // b ≤ B }) (fun b => thS (tab N (mix f g (b.1 * (2 * H)) H 0)) (powF w M) N M (H : Int) (T : Int) ((b.1 * (2 * H) : Nat) : Int)) (fun b => B - b.1) (c := lpC th_k) (k := lpR th_k) (by kernel_rfl) (fun b ih ac cY aY hs => ?_) ⟨0, Nat.zero_le _⟩ (by simp only [Nat.zero_mul]; exact hs1.nx _)
  obtain ⟨b, hb⟩ := b
  simp only at ih hs
  have hle : b * (2 * H) ≤ N := by rw [← hB]; exact Nat.mul_le_mul_right _ hb
  by_cases h : b < B
  · have hle2 : b * (2 * H) + 2 * H ≤ N := by
      rw [← hB, ← Nat.succ_mul]
      exact Nat.mul_le_mul_right _ h
    have hst' := hst b
    have he : (b + 1) * (2 * H) = b * (2 * H) + 2 * H := Nat.succ_mul _ _
    have ih' := ih ⟨b + 1, h⟩ (by show B - (b + 1) < B - b; omega)
    simp only [he] at ih'
    generalize b * (2 * H) = fr at *
    refine ti _ _ _ _ _ _ _ ⟨by simp; omega, trivial⟩ hs fun ac cZ aZ hs3 => ?_
    exact tf_inner hN hM hle2 hT hst' (fun ac y b hs => ih' ac y b hs) (by kernel_rfl) (hs3.nx _)
  · have e : b = B := by omega
    subst e
    rw [hB] at hs
    refine tm _ _ _ _ _ _ _ ⟨by simp, trivial⟩ hs fun ac cZ aZ hs3 => ?_
    have hw3 : IntKind.wrap .i64 ((H : Int) * (2 : Int)) = ((2 * H : Nat) : Int) := by rw [wrap_id (by omega) (by omega)]; omega
    rw [hw3, tab_congr fun q hq => mix_end hq] at hs3
    exact hK _ _ _ (hs3.nx _)

theorem tf_rounds {c : Nat → Fr} {log M : Nat} {w : Fr} (hlog : log ≤ 16) (hw : 0 < log → powN w (2 ^ (log - 1)) = -1) (hM : M ≤ 65536) (hM2 : 2 ^ log ≤ 2 * M)
    (hK : ∀ ac y b, Sim w0 F0 K ac (tgS (tab (2 ^ log) (posV c (powN w) log log)) (powF w M) (2 ^ log) M ((2 ^ log : Nat) : Int)) y b → Wq Try.prog Q (lpIn tg_k) ac .normal b y.w)
    {ac : List Act} {y : Ctx} {b : Act} (hs : Sim w0 F0 K ac (tgS (tab (2 ^ log) (posV c (powN w) log 0)) (powF w M) (2 ^ log) M 1) y b) : Wq Try.prog Q tg_k ac .normal b y.w := by
  have hp2 : 2 ^ log ≤ 2 ^ 16 := Nat.pow_le_pow_right (by decide) hlog
  refine loop_rule (ι := { k : Nat // k ≤ log }) (fun k => tgS (tab (2 ^ log) (posV c (powN w) log k.1)) (powF w M) (2 ^ log) M ((2 ^ k.1 : Nat) : Int)) (fun k => log - k.1) (c := lpC tg_k) (k := lpR tg_k) (by kernel_rfl) (fun k ih ac cY aY hs => ?_) ⟨0, Nat.zero_le _⟩ hs
  obtain ⟨k, hk⟩ := k
  simp only at ih hs
  by_cases h : k < log
  · have ih' := ih ⟨k + 1, h⟩ (by show log - (k + 1) < log - k; omega)
    simp only at ih'
    have hstep := fun b i (hi : i < 2 ^ k) => posV_step c (powN w) rfl (fun a b => powN_add w a b) (b := b) h hi (hw (by omega))
    have eN : 2 ^ log = 2 ^ (log - k - 1) * (2 * 2 ^ k) := by
      rw [← Nat.pow_succ', ← Nat.pow_add]
      congr 1
      omega
    have e2 : 2 ^ (k + 1) = 2 * 2 ^ k := Nat.pow_succ'
    rw [e2] at ih'
    simp only [e2] at hstep
    have hH := Nat.two_pow_pos k
    have hT0 := Nat.two_pow_pos (log - k - 1)
    generalize 2 ^ k = H at *
    generalize posV c (powN w) log k = f at *
    generalize posV c (powN w) log (k + 1) = g at *
    generalize 2 ^ (log - k - 1) = T at *
    generalize 2 ^ log = N at *
    have hTH : N = T * H + T * H := by rw [eN, Nat.mul_left_comm, Nat.two_mul]
    refine tf_round (B := T) (T := T) (by omega) hM hH eN.symm (fun i hi => ?_) ?_ hstep ih' hs ?_
    · have h1 : i * T < H * T := Nat.mul_lt_mul_of_pos_right hi hT0
      rw [Nat.mul_comm H T] at h1
      omega
    · rw [eN, Nat.mul_div_cancel _ (by omega)]
    · have h1 : 1 * H ≤ T * H := Nat.mul_le_mul_right _ hT0
      omega
  · have e : k = log := by omega
    subst e
    exact hK _ _ _ hs

end

theorem transform_mu (c : Nat → Fr) (log : Nat) (w : Fr) (hlog : log ≤ 16) (hw : 0 < log → powN w (2 ^ (log - 1)) = -1) :
    MuC Try.prog 86 0 (2 ^ log) 4 (.sq (.s (tab (2 ^ log) c))) [.v (.c (.int .i64 (log : Int))), .v (.a [.ob (.s w)])] (.sq (.s (nttL c w (2 ^ log)))) := by
  refine mu_start_m (c := bodyOf Try.f86) Try.func86 rfl rfl fun x a hk hm0 hs => ?_
  have hp2 : 2 ^ log ≤ 2 ^ 16 := Nat.pow_le_pow_right (by decide) hlog
  have hpos : 0 < 2 ^ log := Nat.two_pow_pos log
  refine tf _ _ _ _ trivial hs fun ac cY aY hs1 => ?_
  obtain ⟨e1, e2⟩ := isRf_eq (k := tf_k) (by kernel_rfl)
  rw [e1]
  have eP : (rfP tf_k).toList = [17, 18] := by kernel_rfl
  have eG : rfG tf_k = .tmp 16 := by kernel_rfl
  have hlen : ∀ pre, (swA (tab (2 ^ log) c) pre).length = 2 ^ log := fun pre => by rw [swA_len, tab_len]
  refine range_rule (ps := rfP tf_k) e2 hs1 (gf := 115) (caps := [(64, 0)]) (enters_of Try.func115 rfl rfl) (fun pre => tfS (swA (tab (2 ^ log) c) pre) (2 ^ log) (log : Int) w) (fun s => by rw [eG]; rfl) ⟨_, rfl⟩ (prs log (2 ^ log)) prVals prEnc
    (fun y z => .cons ⟨rfl, 0, rfl⟩ (.cons ⟨rfl, 0, rfl⟩ .nil)) (fun z => by rw [← Array.length_toList, eP]; rfl) (fun pre p hp => ?_) (swaps_iter hlog fun s => rfl) (fun pre z => tfB (swA (tab (2 ^ log) c) pre) (2 ^ log) (log : Int) w z.1 z.2)
    (fun pre z => tfE (swA (tab (2 ^ log) c) (pre ++ [z])) (2 ^ log) (log : Int) w) (fun pre z => ⟨_, rfl⟩) (fun pre z hz w1 F1 K1 as1 Q1 l y b hs2 hQ => ?_) (fun pre z hz w1 F1 K1 as1 Q1 l y b hs2 hQ => ?_) fun D y hs2 hD hF hd => ?_
  · rw [eP] at hp
    have h102 : (tfS (swA (tab (2 ^ log) c) pre) (2 ^ log) (log : Int) w).nt = 102 := rfl
    rw [h102]
    simp only [List.mem_cons, List.not_mem_nil, or_false] at hp
    rcases hp with rfl | rfl <;> decide
  · rw [eP] at hs2
    exact tf_assign hs2 hQ
  · obtain ⟨t, ht⟩ := hz
    obtain ⟨g1, g2⟩ := prs_mem (log := log) (z := z) (n := 2 ^ log) (by rw [ht]; simp)
    rw [swA_snoc] at hQ
    exact tf_body g1 g2 (hlen pre) hs2 hQ
  · have hs3 := hs2.marked rfl rfl D
    have eL : swA (tab (2 ^ log) c) (prs log (2 ^ log)) = tab (2 ^ log) (posV c (powN w) log 0) := by
      rw [swA_prs c log _ (Nat.le_refl _)]
      refine tab_congr fun q hq => ?_
      rw [swF_all c hq]
      exact (posV_first c (powN w) rfl log q).symm
    rw [eL] at hs3
    obtain ⟨M, hMe⟩ : ∃ M, M = max (2 ^ log / 2) 1 := ⟨_, rfl⟩
    have hm : (if (1 : Int) > IntKind.wrap .i64 (Int.tdiv ((2 ^ log : Nat) : Int) (2 : Int)) then (1 : Int) else IntKind.wrap .i64 (Int.tdiv ((2 ^ log : Nat) : Int) (2 : Int))) = (M : Int) := by
      generalize 2 ^ log = N at *
      have e : IntKind.wrap .i64 (Int.tdiv (N : Int) (2 : Int)) = ((N / 2 : Nat) : Int) := by
        rw [Int.tdiv_eq_ediv_of_nonneg (by omega)]
        exact wrap_id (by omega) (by omega)
      rw [e, hMe]
      split <;> omega
    have hMb : M ≤ 65536 ∧ 2 ^ log ≤ 2 * M := by
      clear hm
      have he : 2 ^ log = 1 ∨ 2 ^ log = 2 * 2 ^ (log - 1) := by
        cases log with
        | zero => exact .inl rfl
        | succ l => exact .inr Nat.pow_succ'
      generalize 2 ^ (log - 1) = N2 at *
      generalize 2 ^ log = N at *
      omega
    refine tg _ _ (log : Int) w ⟨by decide, by rw [hm]; omega, by rw [hm]; omega, trivial⟩ hs3 fun ac cZ aZ hs4 => ?_
    rw [hm, Int.toNat_natCast] at hs4
    refine tf_rounds hlog hw hMb.1 hMb.2 (fun ac y2 b2 hs5 => ?_) (hs4.nx _)
    refine tn _ _ _ _ _ ⟨by simp, trivial⟩ hs5 fun ac cV aV hs6 => ⟨?_⟩
    have eR : tab (2 ^ log) (posV c (powN w) log log) = nttL c w (2 ^ log) := tab_congr fun q hq => posV_last c (powN w) log q hq
    rw [eR] at hs6
    exact mu_finish envW_ok hk hm0 rfl hs2 hD hF hd rfl rfl rfl (fun _ _ h => h) (.inr ⟨_, _, rfl, rfl, rfl⟩) hs6

end Go.Proofs.Ytlfllehomhcbfaa
