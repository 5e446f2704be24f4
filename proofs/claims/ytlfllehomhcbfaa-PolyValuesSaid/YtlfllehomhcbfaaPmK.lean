/- Parts of a proof, one behind the other: PRefM, WRefP, PRefP, WClean, PClean, WRef2, PRef2, WMulU, PMulU, WPow, PPow, WRoot, PRoot, WDoms, PDoms, WElems, PElems, WMakes, PMakes, Fe, WPa, PPa, Ng, WPb, PPb, WPc. No conditions. -/
import Derived.Test.YtlfllehomhcbfaaPmJ
/- The reference's minus: contract. No conditions. -/
namespace Go.Proofs.Ytlfllehomhcbfaa


theorem sub_u4 {a b : U4} {N c : Int} (hN : 0 ≤ N ∧ N < 115792089237316195423570985008687907853269984665640564039457584007913129639936) (_hc : c = 0 ∨ c = 1)
    (h : N = (a.val : Int) - (b.val : Int) + 115792089237316195423570985008687907853269984665640564039457584007913129639936 * c) : ((a - b : U4).val : Int) = N := by
  have ha := a.isLt
  have hb := b.isLt
  have e : (a - b : U4).val = (B4 - b.val + a.val) % B4 := rfl
  rw [e]
  unfold B4 at *
  obtain ⟨_, _⟩ := hN
  omega

theorem borrow_step {a b c : Int} (ha : Lim a) (hb : Lim b) (hc : c = 0 ∨ c = 1) : ∃ c' : Int, (c' = 0 ∨ c' = 1) ∧ (a < b → c' = 1) ∧ (¬ a < b → a = b → c = 1 → c' = 1) ∧ (¬ a < b → a = b → ¬ c = 1 → c' = 0) ∧ (¬ a < b → ¬ a = b → c' = 0) ∧
    IntKind.wrap IntKind.u64 (IntKind.wrap IntKind.u64 (a - b) - c) = a - b - c + 18446744073709551616 * c' := by
  obtain ⟨_, _⟩ := ha
  obtain ⟨_, _⟩ := hb
  rw [wrapU, wrapU]
  refine ⟨if a < b + c then 1 else 0, ?_, ?_, ?_, ?_, ?_, ?_⟩
  · split <;> omega
  · intro h; rw [if_pos (by omega)]
  · intro h1 h2 h3; rw [if_pos (by omega)]
  · intro h1 h2 h3; rw [if_neg (by omega)]
  · intro h1 h2; rw [if_neg (by omega)]
  · split <;> omega

section
variable {w0 : World} {F0 : Nat → Prop} {K : Kp} {ac : List Act} {Q : Exit → Act → World → Prop} {cX : Ctx} {aX : Act}

theorem rmT0 (a b : U4) (hs : Sim w0 F0 K ac (rm0 a b : Cfg).σ cX aX)
    (k : ∀ c' : Int, (c' = 0 ∨ c' = 1) → (IntKind.wrap IntKind.u64 (IntKind.wrap IntKind.u64 ((limb (Ob.n (Ob.fr a)) 0) - (limb (Ob.n (Ob.fr b)) 0)) - 0)) = (limb (Ob.n (Ob.fr a)) 0) - (limb (Ob.n (Ob.fr b)) 0) - 0 + 18446744073709551616 * c' → ∀ ac cY aY, Sim w0 F0 K ac (rmS1 a b (IntKind.wrap IntKind.u64 (IntKind.wrap IntKind.u64 ((limb (Ob.n (Ob.fr a)) 0) - (limb (Ob.n (Ob.fr b)) 0)) - 0)) 0 0 0 c') cY aY → Wq Try.prog Q rmA0_k ac .normal aY cY.w) : Wq Try.prog Q (rm0 a b : Cfg).k ac (rm0 a b : Cfg).x aX cX.w := by
  have hA : Lim (limb (Ob.n (Ob.fr a)) 0) := by obtain ⟨h0, h1, h2, h3, _⟩ := fr_lims a; assumption
  have hB : Lim (limb (Ob.n (Ob.fr b)) 0) := by obtain ⟨h0, h1, h2, h3, _⟩ := fr_lims b; assumption
  obtain ⟨c', h1, hA1, hB1, hC1, hD1, e⟩ := borrow_step (c := 0) hA hB (.inl rfl)
  have sA := @rmA0 a b w0 F0 K ac Q cX aX
  have sB := @rmB0 a b w0 F0 K ac Q cX aX
  have sC := @rmC0 a b w0 F0 K ac Q cX aX
  have sD := @rmD0 a b w0 F0 K ac Q cX aX
  replace k := k c' h1 e
  clear e hA hB
  generalize (limb (Ob.n (Ob.fr a)) 0) = x at *
  generalize (limb (Ob.n (Ob.fr b)) 0) = y at *
  by_cases l1 : x < y
  · rw [hA1 l1] at k
    exact sA (by simp [AllP, Ob.k, l1]) hs k
  · by_cases l2 : x = y
    · by_cases l3 : (0 : Int) = 1
      · rw [hB1 l1 l2 l3] at k
        exact sB (by simp [AllP, Ob.k, l2, l3]) hs k
      · rw [hC1 l1 l2 l3] at k
        exact sC (by simp [AllP, Ob.k, l2]) hs k
    · rw [hD1 l1 l2] at k
      exact sD (by simp [AllP, Ob.k, l1, l2]) hs k

theorem rmT1 (a b : U4) (v0 v1 v2 v3 c : Int) (hc : c = 0 ∨ c = 1) (hs : Sim w0 F0 K ac (rmS1 a b v0 v1 v2 v3 c) cX aX)
    (k : ∀ c' : Int, (c' = 0 ∨ c' = 1) → (IntKind.wrap IntKind.u64 (IntKind.wrap IntKind.u64 ((limb (Ob.n (Ob.fr a)) 1) - (limb (Ob.n (Ob.fr b)) 1)) - c)) = (limb (Ob.n (Ob.fr a)) 1) - (limb (Ob.n (Ob.fr b)) 1) - c + 18446744073709551616 * c' → ∀ ac cY aY, Sim w0 F0 K ac (rmS2 a b v0 (IntKind.wrap IntKind.u64 (IntKind.wrap IntKind.u64 ((limb (Ob.n (Ob.fr a)) 1) - (limb (Ob.n (Ob.fr b)) 1)) - c)) v2 v3 c') cY aY → Wq Try.prog Q rmA1_k ac .normal aY cY.w) : Wq Try.prog Q rmA0_k ac .normal aX cX.w := by
  have hA : Lim (limb (Ob.n (Ob.fr a)) 1) := by obtain ⟨h0, h1, h2, h3, _⟩ := fr_lims a; assumption
  have hB : Lim (limb (Ob.n (Ob.fr b)) 1) := by obtain ⟨h0, h1, h2, h3, _⟩ := fr_lims b; assumption
  obtain ⟨c', h1, hA1, hB1, hC1, hD1, e⟩ := borrow_step (c := c) hA hB hc
  have sA := @rmA1 a b v0 v1 v2 v3 c w0 F0 K ac Q cX aX
  have sB := @rmB1 a b v0 v1 v2 v3 c w0 F0 K ac Q cX aX
  have sC := @rmC1 a b v0 v1 v2 v3 c w0 F0 K ac Q cX aX
  have sD := @rmD1 a b v0 v1 v2 v3 c w0 F0 K ac Q cX aX
  replace k := k c' h1 e
  clear e hA hB
  generalize (limb (Ob.n (Ob.fr a)) 1) = x at *
  generalize (limb (Ob.n (Ob.fr b)) 1) = y at *
  by_cases l1 : x < y
  · rw [hA1 l1] at k
    exact sA (by simp [AllP, Ob.k, l1]) hs k
  · by_cases l2 : x = y
    · by_cases l3 : (c : Int) = 1
      · rw [hB1 l1 l2 l3] at k
        exact sB (by simp [AllP, Ob.k, l2, l3]) hs k
      · rw [hC1 l1 l2 l3] at k
        exact sC (by simp [AllP, Ob.k, l2, l3]) hs k
    · rw [hD1 l1 l2] at k
      exact sD (by simp [AllP, Ob.k, l1, l2]) hs k

theorem rmT2 (a b : U4) (v0 v1 v2 v3 c : Int) (hc : c = 0 ∨ c = 1) (hs : Sim w0 F0 K ac (rmS2 a b v0 v1 v2 v3 c) cX aX)
    (k : ∀ c' : Int, (c' = 0 ∨ c' = 1) → (IntKind.wrap IntKind.u64 (IntKind.wrap IntKind.u64 ((limb (Ob.n (Ob.fr a)) 2) - (limb (Ob.n (Ob.fr b)) 2)) - c)) = (limb (Ob.n (Ob.fr a)) 2) - (limb (Ob.n (Ob.fr b)) 2) - c + 18446744073709551616 * c' → ∀ ac cY aY, Sim w0 F0 K ac (rmS3 a b v0 v1 (IntKind.wrap IntKind.u64 (IntKind.wrap IntKind.u64 ((limb (Ob.n (Ob.fr a)) 2) - (limb (Ob.n (Ob.fr b)) 2)) - c)) v3 c') cY aY → Wq Try.prog Q rmA2_k ac .normal aY cY.w) : Wq Try.prog Q rmA1_k ac .normal aX cX.w := by
  have hA : Lim (limb (Ob.n (Ob.fr a)) 2) := by obtain ⟨h0, h1, h2, h3, _⟩ := fr_lims a; assumption
  have hB : Lim (limb (Ob.n (Ob.fr b)) 2) := by obtain ⟨h0, h1, h2, h3, _⟩ := fr_lims b; assumption
  obtain ⟨c', h1, hA1, hB1, hC1, hD1, e⟩ := borrow_step (c := c) hA hB hc
  have sA := @rmA2 a b v0 v1 v2 v3 c w0 F0 K ac Q cX aX
  have sB := @rmB2 a b v0 v1 v2 v3 c w0 F0 K ac Q cX aX
  have sC := @rmC2 a b v0 v1 v2 v3 c w0 F0 K ac Q cX aX
  have sD := @rmD2 a b v0 v1 v2 v3 c w0 F0 K ac Q cX aX
  replace k := k c' h1 e
  clear e hA hB
  generalize (limb (Ob.n (Ob.fr a)) 2) = x at *
  generalize (limb (Ob.n (Ob.fr b)) 2) = y at *
  by_cases l1 : x < y
  · rw [hA1 l1] at k
    exact sA (by simp [AllP, Ob.k, l1]) hs k
  · by_cases l2 : x = y
    · by_cases l3 : (c : Int) = 1
      · rw [hB1 l1 l2 l3] at k
        exact sB (by simp [AllP, Ob.k, l2, l3]) hs k
      · rw [hC1 l1 l2 l3] at k
        exact sC (by simp [AllP, Ob.k, l2, l3]) hs k
    · rw [hD1 l1 l2] at k
      exact sD (by simp [AllP, Ob.k, l1, l2]) hs k

theorem rmT3 (a b : U4) (v0 v1 v2 v3 c : Int) (hc : c = 0 ∨ c = 1) (hs : Sim w0 F0 K ac (rmS3 a b v0 v1 v2 v3 c) cX aX)
    (k : ∀ c' : Int, (c' = 0 ∨ c' = 1) → (IntKind.wrap IntKind.u64 (IntKind.wrap IntKind.u64 ((limb (Ob.n (Ob.fr a)) 3) - (limb (Ob.n (Ob.fr b)) 3)) - c)) = (limb (Ob.n (Ob.fr a)) 3) - (limb (Ob.n (Ob.fr b)) 3) - c + 18446744073709551616 * c' → ∀ ac cY aY, Sim w0 F0 K ac (rmS4 a b v0 v1 v2 (IntKind.wrap IntKind.u64 (IntKind.wrap IntKind.u64 ((limb (Ob.n (Ob.fr a)) 3) - (limb (Ob.n (Ob.fr b)) 3)) - c)) c') cY aY → Wq Try.prog Q rmA3_k ac .normal aY cY.w) : Wq Try.prog Q rmA2_k ac .normal aX cX.w := by
  have hA : Lim (limb (Ob.n (Ob.fr a)) 3) := by obtain ⟨h0, h1, h2, h3, _⟩ := fr_lims a; assumption
  have hB : Lim (limb (Ob.n (Ob.fr b)) 3) := by obtain ⟨h0, h1, h2, h3, _⟩ := fr_lims b; assumption
  obtain ⟨c', h1, hA1, hB1, hC1, hD1, e⟩ := borrow_step (c := c) hA hB hc
  have sA := @rmA3 a b v0 v1 v2 v3 c w0 F0 K ac Q cX aX
  have sB := @rmB3 a b v0 v1 v2 v3 c w0 F0 K ac Q cX aX
  have sC := @rmC3 a b v0 v1 v2 v3 c w0 F0 K ac Q cX aX
  have sD := @rmD3 a b v0 v1 v2 v3 c w0 F0 K ac Q cX aX
  replace k := k c' h1 e
  clear e hA hB
  generalize (limb (Ob.n (Ob.fr a)) 3) = x at *
  generalize (limb (Ob.n (Ob.fr b)) 3) = y at *
  by_cases l1 : x < y
  · rw [hA1 l1] at k
    exact sA (by simp [AllP, Ob.k, l1]) hs k
  · by_cases l2 : x = y
    · by_cases l3 : (c : Int) = 1
      · rw [hB1 l1 l2 l3] at k
        exact sB (by simp [AllP, Ob.k, l2, l3]) hs k
      · rw [hC1 l1 l2 l3] at k
        exact sC (by simp [AllP, Ob.k, l2, l3]) hs k
    · rw [hD1 l1 l2] at k
      exact sD (by simp [AllP, Ob.k, l1, l2]) hs k

end

theorem minus79_fnd (a b : U4) : FnD Try.prog 79 [.v (.a [.ob (.fr a)]), .v (.a [.ob (.fr b)])] (.v (.a [.ob (.fr (a - b))])) [] := by
  refine fn_start (fn := Try.f79) (c := bodyOf Try.f79) Try.func79 rfl rfl fun x a0 hk hF hs => ?_
  obtain ⟨g0, g1, g2, g3, ha⟩ := fr_lims a
  obtain ⟨h0, h1, h2, h3, hb⟩ := fr_lims b
  refine rmT0 a b hs fun c0 hc0 e0 ac cY aY hs => ?_
  refine rmT1 a b _ _ _ _ c0 hc0 hs fun c1 hc1 e1 ac cY aY hs => ?_
  refine rmT2 a b _ _ _ _ c1 hc1 hs fun c2 hc2 e2 ac cY aY hs => ?_
  refine rmT3 a b _ _ _ _ c2 hc2 hs fun c3 hc3 e3 ac cY aY hs => ?_
  refine run_end2 envH_ok hk hF (rmX_end a b _ _ _ _ c3) (by simp [AllP]) (fun y v hd => ?_) hs
  have l0 := wrap_lim (IntKind.wrap IntKind.u64 (limb (Ob.n (Ob.fr a)) 0 - limb (Ob.n (Ob.fr b)) 0) - 0)
  have l1 := wrap_lim (IntKind.wrap IntKind.u64 (limb (Ob.n (Ob.fr a)) 1 - limb (Ob.n (Ob.fr b)) 1) - c0)
  have l2 := wrap_lim (IntKind.wrap IntKind.u64 (limb (Ob.n (Ob.fr a)) 2 - limb (Ob.n (Ob.fr b)) 2) - c1)
  have l3 := wrap_lim (IntKind.wrap IntKind.u64 (limb (Ob.n (Ob.fr a)) 3 - limb (Ob.n (Ob.fr b)) 3) - c2)
  generalize IntKind.wrap IntKind.u64 (IntKind.wrap IntKind.u64 (limb (Ob.n (Ob.fr a)) 0 - limb (Ob.n (Ob.fr b)) 0) - 0) = u0 at *
  generalize IntKind.wrap IntKind.u64 (IntKind.wrap IntKind.u64 (limb (Ob.n (Ob.fr a)) 1 - limb (Ob.n (Ob.fr b)) 1) - c0) = u1 at *
  generalize IntKind.wrap IntKind.u64 (IntKind.wrap IntKind.u64 (limb (Ob.n (Ob.fr a)) 2 - limb (Ob.n (Ob.fr b)) 2) - c1) = u2 at *
  generalize IntKind.wrap IntKind.u64 (IntKind.wrap IntKind.u64 (limb (Ob.n (Ob.fr a)) 3 - limb (Ob.n (Ob.fr b)) 3) - c2) = u3 at *
  refine ints_ob (o := .fr (a - b)) (Eq.refl 4) (limbsAre4 l0.1 l0.2 l1.1 l1.2 l2.1 l2.2 l3.1 l3.2 ?_) hd
  show ((a - b : U4).val : Int) = num4 u0 u1 u2 u3
  have hN : num4 u0 u1 u2 u3 = num4 (limb (Ob.n (Ob.fr a)) 0) (limb (Ob.n (Ob.fr a)) 1) (limb (Ob.n (Ob.fr a)) 2) (limb (Ob.n (Ob.fr a)) 3) - num4 (limb (Ob.n (Ob.fr b)) 0) (limb (Ob.n (Ob.fr b)) 1) (limb (Ob.n (Ob.fr b)) 2) (limb (Ob.n (Ob.fr b)) 3) + 115792089237316195423570985008687907853269984665640564039457584007913129639936 * c3 := by
    clear ha hb hd hs hk hF l0 l1 l2 l3 g0 g1 g2 g3 h0 h1 h2 h3
    unfold num4
    omega
  rw [← ha, ← hb] at hN
  exact sub_u4 (num4_lt l0 l1 l2 l3) hc3 hN

end Go.Proofs.Ytlfllehomhcbfaa

/- The reference's plus, walked. No conditions. -/
namespace Go.Proofs.Ytlfllehomhcbfaa

noncomputable def rp0 (a b : U4) : Cfg := ⟨[.code (bodyOf Try.f105)], .normal, initSt Try.f105.ntmps [.v (.a [.ob (.fr a)]), .v (.a [.ob (.fr b)])]⟩
--@env envH envH_ok
--@unroll true
noncomputable def rpA0_k : List KI := (run envH true 42 ((fun (a b : U4) => (rp0 a b : Cfg)) default default) [true, true, true]).cfg.k
theorem rpA0_at (a b : U4) : runAt envH true 42 ((rp0 a b : Cfg)) [true, true, true] [2, 3, 4, 5, 6, 7] [16, 32, 48, 80] [] = some ⟨[((decide ((0 : Int) < (4 : Int))) = true), ((0 : Int) ≤ (0 : Int)), ((0 : Int) < (4 : Int)), (0 < (Ob.k (Ob.fr a))), ((0 : Int) ≤ (0 : Int)), ((0 : Int) < (4 : Int)), (0 < (Ob.k (Ob.fr b))), ((0 : Int) ≤ (0 : Int)), ((0 : Int) < (4 : Int)), ((0 : Int) ≤ (0 : Int)), ((0 : Int) < (4 : Int)), ((0 : Int) ≤ (0 : Int)), ((0 : Int) < (4 : Int)), (0 < (Ob.k (Ob.fr a))), ((decide ((IntKind.wrap IntKind.u64 ((IntKind.wrap IntKind.u64 ((limb (Ob.n (Ob.fr a)) 0) + (limb (Ob.n (Ob.fr b)) 0))) + (0 : Int))) < (limb (Ob.n (Ob.fr a)) 0))) = true)], Exit.normal, [(SV.v (V1.c (It.ptr 16 0))), (SV.v (V1.c (It.ptr 32 0))), (SV.v (V1.c (It.ptr 48 0))), (SV.v (V1.c (It.ptr 80 0))), (SV.v (V1.c (It.int IntKind.u64 (1 : Int)))), (SV.v (V1.c (It.int IntKind.i64 (0 : Int))))], [(Option.some (En.fl [(It.ob (Ob.fr a))])), (Option.some (En.fl [(It.ob (Ob.fr b))])), (Option.some (En.fl [(It.ob (Ob.fr (0 : U4)))])), (Option.some (En.fl [(It.int IntKind.u64 (IntKind.wrap IntKind.u64 ((IntKind.wrap IntKind.u64 ((limb (Ob.n (Ob.fr a)) 0) + (limb (Ob.n (Ob.fr b)) 0))) + (0 : Int)))), (It.int IntKind.u64 (0 : Int)), (It.int IntKind.u64 (0 : Int)), (It.int IntKind.u64 (0 : Int))]))], 45, 704, []⟩ := by kernel_rfl
theorem rpA0_hk (a b : U4) : (run envH true 42 ((rp0 a b : Cfg)) [true, true, true]).cfg.k = rpA0_k := by kernel_rfl
theorem rpA0 (a b : U4) {w0 : World} {F0 : Nat → Prop} {K : Kp} {ac : List Act} {Q : Exit → Act → World → Prop} {cX : Ctx} {aX : Act} (ho : AllP [((decide ((0 : Int) < (4 : Int))) = true), ((0 : Int) ≤ (0 : Int)), ((0 : Int) < (4 : Int)), (0 < (Ob.k (.fr a))), ((0 : Int) ≤ (0 : Int)), ((0 : Int) < (4 : Int)), (0 < (Ob.k (.fr b))), ((0 : Int) ≤ (0 : Int)), ((0 : Int) < (4 : Int)), ((0 : Int) ≤ (0 : Int)), ((0 : Int) < (4 : Int)), ((0 : Int) ≤ (0 : Int)), ((0 : Int) < (4 : Int)), (0 < (Ob.k (.fr a))), ((decide ((IntKind.wrap .u64 ((IntKind.wrap .u64 ((limb (Ob.n (.fr a)) 0) + (limb (Ob.n (.fr b)) 0))) + (0 : Int))) < (limb (Ob.n (.fr a)) 0))) = true)]) (hs : Sim w0 F0 K ac (((rp0 a b : Cfg)).σ) cX aX) (hK : ∀ ac cY aY, Sim w0 F0 K ac (mkSt 45 [2, 3, 4, 5, 6, 7] [(.v (.c (.ptr 16 0))), (.v (.c (.ptr 32 0))), (.v (.c (.ptr 48 0))), (.v (.c (.ptr 80 0))), (.v (.c (.int .u64 (1 : Int)))), (.v (.c (.int .i64 (0 : Int))))] [16, 32, 48, 80] [(some (.fl [(.ob (.fr a))])), (some (.fl [(.ob (.fr b))])), (some (.fl [(.ob (.fr (0 : U4)))])), (some (.fl [(.int .u64 (IntKind.wrap .u64 ((IntKind.wrap .u64 ((limb (Ob.n (.fr a)) 0) + (limb (Ob.n (.fr b)) 0))) + (0 : Int)))), (.int .u64 (0 : Int)), (.int .u64 (0 : Int)), (.int .u64 (0 : Int))]))] 704 [] []) cY aY → Wq Try.prog Q (rpA0_k) ac Exit.normal aY cY.w) : Wq Try.prog Q (((rp0 a b : Cfg)).k) ac ((rp0 a b : Cfg)).x aX cX.w :=
  run_at envH_ok (rpA0_at a b) (rpA0_hk a b) ho hs hK
theorem rpB0_at (a b : U4) : runAt envH true 42 ((rp0 a b : Cfg)) [true, true, false, true] [2, 3, 4, 5, 6, 7] [16, 32, 48, 80] [] = some ⟨[((decide ((0 : Int) < (4 : Int))) = true), ((0 : Int) ≤ (0 : Int)), ((0 : Int) < (4 : Int)), (0 < (Ob.k (Ob.fr a))), ((0 : Int) ≤ (0 : Int)), ((0 : Int) < (4 : Int)), (0 < (Ob.k (Ob.fr b))), ((0 : Int) ≤ (0 : Int)), ((0 : Int) < (4 : Int)), ((0 : Int) ≤ (0 : Int)), ((0 : Int) < (4 : Int)), ((0 : Int) ≤ (0 : Int)), ((0 : Int) < (4 : Int)), (0 < (Ob.k (Ob.fr a))), ((decide ((IntKind.wrap IntKind.u64 ((IntKind.wrap IntKind.u64 ((limb (Ob.n (Ob.fr a)) 0) + (limb (Ob.n (Ob.fr b)) 0))) + (0 : Int))) < (limb (Ob.n (Ob.fr a)) 0))) = false), ((0 : Int) ≤ (0 : Int)), ((0 : Int) < (4 : Int)), ((0 : Int) ≤ (0 : Int)), ((0 : Int) < (4 : Int)), (0 < (Ob.k (Ob.fr a))), (((IntKind.wrap IntKind.u64 ((IntKind.wrap IntKind.u64 ((limb (Ob.n (Ob.fr a)) 0) + (limb (Ob.n (Ob.fr b)) 0))) + (0 : Int))) == (limb (Ob.n (Ob.fr a)) 0)) = true), (((0 : Int) == (1 : Int)) = true)], Exit.normal, [(SV.v (V1.c (It.ptr 16 0))), (SV.v (V1.c (It.ptr 32 0))), (SV.v (V1.c (It.ptr 48 0))), (SV.v (V1.c (It.ptr 80 0))), (SV.v (V1.c (It.int IntKind.u64 (1 : Int)))), (SV.v (V1.c (It.int IntKind.i64 (0 : Int))))], [(Option.some (En.fl [(It.ob (Ob.fr a))])), (Option.some (En.fl [(It.ob (Ob.fr b))])), (Option.some (En.fl [(It.ob (Ob.fr (0 : U4)))])), (Option.some (En.fl [(It.int IntKind.u64 (IntKind.wrap IntKind.u64 ((IntKind.wrap IntKind.u64 ((limb (Ob.n (Ob.fr a)) 0) + (limb (Ob.n (Ob.fr b)) 0))) + (0 : Int)))), (It.int IntKind.u64 (0 : Int)), (It.int IntKind.u64 (0 : Int)), (It.int IntKind.u64 (0 : Int))]))], 45, 704, []⟩ := by kernel_rfl
theorem rpB0_hk (a b : U4) : (run envH true 42 ((rp0 a b : Cfg)) [true, true, false, true]).cfg.k = rpA0_k := by kernel_rfl
theorem rpB0 (a b : U4) {w0 : World} {F0 : Nat → Prop} {K : Kp} {ac : List Act} {Q : Exit → Act → World → Prop} {cX : Ctx} {aX : Act} (ho : AllP [((decide ((0 : Int) < (4 : Int))) = true), ((0 : Int) ≤ (0 : Int)), ((0 : Int) < (4 : Int)), (0 < (Ob.k (.fr a))), ((0 : Int) ≤ (0 : Int)), ((0 : Int) < (4 : Int)), (0 < (Ob.k (.fr b))), ((0 : Int) ≤ (0 : Int)), ((0 : Int) < (4 : Int)), ((0 : Int) ≤ (0 : Int)), ((0 : Int) < (4 : Int)), ((0 : Int) ≤ (0 : Int)), ((0 : Int) < (4 : Int)), (0 < (Ob.k (.fr a))), ((decide ((IntKind.wrap .u64 ((IntKind.wrap .u64 ((limb (Ob.n (.fr a)) 0) + (limb (Ob.n (.fr b)) 0))) + (0 : Int))) < (limb (Ob.n (.fr a)) 0))) = false), ((0 : Int) ≤ (0 : Int)), ((0 : Int) < (4 : Int)), ((0 : Int) ≤ (0 : Int)), ((0 : Int) < (4 : Int)), (0 < (Ob.k (.fr a))), (((IntKind.wrap .u64 ((IntKind.wrap .u64 ((limb (Ob.n (.fr a)) 0) + (limb (Ob.n (.fr b)) 0))) + (0 : Int))) == (limb (Ob.n (.fr a)) 0)) = true), (((0 : Int) == (1 : Int)) = true)]) (hs : Sim w0 F0 K ac (((rp0 a b : Cfg)).σ) cX aX) (hK : ∀ ac cY aY, Sim w0 F0 K ac (mkSt 45 [2, 3, 4, 5, 6, 7] [(.v (.c (.ptr 16 0))), (.v (.c (.ptr 32 0))), (.v (.c (.ptr 48 0))), (.v (.c (.ptr 80 0))), (.v (.c (.int .u64 (1 : Int)))), (.v (.c (.int .i64 (0 : Int))))] [16, 32, 48, 80] [(some (.fl [(.ob (.fr a))])), (some (.fl [(.ob (.fr b))])), (some (.fl [(.ob (.fr (0 : U4)))])), (some (.fl [(.int .u64 (IntKind.wrap .u64 ((IntKind.wrap .u64 ((limb (Ob.n (.fr a)) 0) + (limb (Ob.n (.fr b)) 0))) + (0 : Int)))), (.int .u64 (0 : Int)), (.int .u64 (0 : Int)), (.int .u64 (0 : Int))]))] 704 [] []) cY aY → Wq Try.prog Q (rpA0_k) ac Exit.normal aY cY.w) : Wq Try.prog Q (((rp0 a b : Cfg)).k) ac ((rp0 a b : Cfg)).x aX cX.w :=
  run_at envH_ok (rpB0_at a b) (rpB0_hk a b) ho hs hK
theorem rpC0_at (a b : U4) : runAt envH true 42 ((rp0 a b : Cfg)) [true, true, false, false] [2, 3, 4, 5, 6, 7] [16, 32, 48, 80] [] = some ⟨[((decide ((0 : Int) < (4 : Int))) = true), ((0 : Int) ≤ (0 : Int)), ((0 : Int) < (4 : Int)), (0 < (Ob.k (Ob.fr a))), ((0 : Int) ≤ (0 : Int)), ((0 : Int) < (4 : Int)), (0 < (Ob.k (Ob.fr b))), ((0 : Int) ≤ (0 : Int)), ((0 : Int) < (4 : Int)), ((0 : Int) ≤ (0 : Int)), ((0 : Int) < (4 : Int)), ((0 : Int) ≤ (0 : Int)), ((0 : Int) < (4 : Int)), (0 < (Ob.k (Ob.fr a))), ((decide ((IntKind.wrap IntKind.u64 ((IntKind.wrap IntKind.u64 ((limb (Ob.n (Ob.fr a)) 0) + (limb (Ob.n (Ob.fr b)) 0))) + (0 : Int))) < (limb (Ob.n (Ob.fr a)) 0))) = false), ((0 : Int) ≤ (0 : Int)), ((0 : Int) < (4 : Int)), ((0 : Int) ≤ (0 : Int)), ((0 : Int) < (4 : Int)), (0 < (Ob.k (Ob.fr a))), (((IntKind.wrap IntKind.u64 ((IntKind.wrap IntKind.u64 ((limb (Ob.n (Ob.fr a)) 0) + (limb (Ob.n (Ob.fr b)) 0))) + (0 : Int))) == (limb (Ob.n (Ob.fr a)) 0)) = true), (((0 : Int) == (1 : Int)) = false)], Exit.normal, [(SV.v (V1.c (It.ptr 16 0))), (SV.v (V1.c (It.ptr 32 0))), (SV.v (V1.c (It.ptr 48 0))), (SV.v (V1.c (It.ptr 80 0))), (SV.v (V1.c (It.int IntKind.u64 (0 : Int)))), (SV.v (V1.c (It.int IntKind.i64 (0 : Int))))], [(Option.some (En.fl [(It.ob (Ob.fr a))])), (Option.some (En.fl [(It.ob (Ob.fr b))])), (Option.some (En.fl [(It.ob (Ob.fr (0 : U4)))])), (Option.some (En.fl [(It.int IntKind.u64 (IntKind.wrap IntKind.u64 ((IntKind.wrap IntKind.u64 ((limb (Ob.n (Ob.fr a)) 0) + (limb (Ob.n (Ob.fr b)) 0))) + (0 : Int)))), (It.int IntKind.u64 (0 : Int)), (It.int IntKind.u64 (0 : Int)), (It.int IntKind.u64 (0 : Int))]))], 45, 704, []⟩ := by kernel_rfl
theorem rpC0_hk (a b : U4) : (run envH true 42 ((rp0 a b : Cfg)) [true, true, false, false]).cfg.k = rpA0_k := by kernel_rfl
theorem rpC0 (a b : U4) {w0 : World} {F0 : Nat → Prop} {K : Kp} {ac : List Act} {Q : Exit → Act → World → Prop} {cX : Ctx} {aX : Act} (ho : AllP [((decide ((0 : Int) < (4 : Int))) = true), ((0 : Int) ≤ (0 : Int)), ((0 : Int) < (4 : Int)), (0 < (Ob.k (.fr a))), ((0 : Int) ≤ (0 : Int)), ((0 : Int) < (4 : Int)), (0 < (Ob.k (.fr b))), ((0 : Int) ≤ (0 : Int)), ((0 : Int) < (4 : Int)), ((0 : Int) ≤ (0 : Int)), ((0 : Int) < (4 : Int)), ((0 : Int) ≤ (0 : Int)), ((0 : Int) < (4 : Int)), (0 < (Ob.k (.fr a))), ((decide ((IntKind.wrap .u64 ((IntKind.wrap .u64 ((limb (Ob.n (.fr a)) 0) + (limb (Ob.n (.fr b)) 0))) + (0 : Int))) < (limb (Ob.n (.fr a)) 0))) = false), ((0 : Int) ≤ (0 : Int)), ((0 : Int) < (4 : Int)), ((0 : Int) ≤ (0 : Int)), ((0 : Int) < (4 : Int)), (0 < (Ob.k (.fr a))), (((IntKind.wrap .u64 ((IntKind.wrap .u64 ((limb (Ob.n (.fr a)) 0) + (limb (Ob.n (.fr b)) 0))) + (0 : Int))) == (limb (Ob.n (.fr a)) 0)) = true), (((0 : Int) == (1 : Int)) = false)]) (hs : Sim w0 F0 K ac (((rp0 a b : Cfg)).σ) cX aX) (hK : ∀ ac cY aY, Sim w0 F0 K ac (mkSt 45 [2, 3, 4, 5, 6, 7] [(.v (.c (.ptr 16 0))), (.v (.c (.ptr 32 0))), (.v (.c (.ptr 48 0))), (.v (.c (.ptr 80 0))), (.v (.c (.int .u64 (0 : Int)))), (.v (.c (.int .i64 (0 : Int))))] [16, 32, 48, 80] [(some (.fl [(.ob (.fr a))])), (some (.fl [(.ob (.fr b))])), (some (.fl [(.ob (.fr (0 : U4)))])), (some (.fl [(.int .u64 (IntKind.wrap .u64 ((IntKind.wrap .u64 ((limb (Ob.n (.fr a)) 0) + (limb (Ob.n (.fr b)) 0))) + (0 : Int)))), (.int .u64 (0 : Int)), (.int .u64 (0 : Int)), (.int .u64 (0 : Int))]))] 704 [] []) cY aY → Wq Try.prog Q (rpA0_k) ac Exit.normal aY cY.w) : Wq Try.prog Q (((rp0 a b : Cfg)).k) ac ((rp0 a b : Cfg)).x aX cX.w :=
  run_at envH_ok (rpC0_at a b) (rpC0_hk a b) ho hs hK
theorem rpD0_at (a b : U4) : runAt envH true 42 ((rp0 a b : Cfg)) [true, false, false] [2, 3, 4, 5, 6, 7] [16, 32, 48, 80] [] = some ⟨[((decide ((0 : Int) < (4 : Int))) = true), ((0 : Int) ≤ (0 : Int)), ((0 : Int) < (4 : Int)), (0 < (Ob.k (Ob.fr a))), ((0 : Int) ≤ (0 : Int)), ((0 : Int) < (4 : Int)), (0 < (Ob.k (Ob.fr b))), ((0 : Int) ≤ (0 : Int)), ((0 : Int) < (4 : Int)), ((0 : Int) ≤ (0 : Int)), ((0 : Int) < (4 : Int)), ((0 : Int) ≤ (0 : Int)), ((0 : Int) < (4 : Int)), (0 < (Ob.k (Ob.fr a))), ((decide ((IntKind.wrap IntKind.u64 ((IntKind.wrap IntKind.u64 ((limb (Ob.n (Ob.fr a)) 0) + (limb (Ob.n (Ob.fr b)) 0))) + (0 : Int))) < (limb (Ob.n (Ob.fr a)) 0))) = false), ((0 : Int) ≤ (0 : Int)), ((0 : Int) < (4 : Int)), ((0 : Int) ≤ (0 : Int)), ((0 : Int) < (4 : Int)), (0 < (Ob.k (Ob.fr a))), (((IntKind.wrap IntKind.u64 ((IntKind.wrap IntKind.u64 ((limb (Ob.n (Ob.fr a)) 0) + (limb (Ob.n (Ob.fr b)) 0))) + (0 : Int))) == (limb (Ob.n (Ob.fr a)) 0)) = false)], Exit.normal, [(SV.v (V1.c (It.ptr 16 0))), (SV.v (V1.c (It.ptr 32 0))), (SV.v (V1.c (It.ptr 48 0))), (SV.v (V1.c (It.ptr 80 0))), (SV.v (V1.c (It.int IntKind.u64 (0 : Int)))), (SV.v (V1.c (It.int IntKind.i64 (0 : Int))))], [(Option.some (En.fl [(It.ob (Ob.fr a))])), (Option.some (En.fl [(It.ob (Ob.fr b))])), (Option.some (En.fl [(It.ob (Ob.fr (0 : U4)))])), (Option.some (En.fl [(It.int IntKind.u64 (IntKind.wrap IntKind.u64 ((IntKind.wrap IntKind.u64 ((limb (Ob.n (Ob.fr a)) 0) + (limb (Ob.n (Ob.fr b)) 0))) + (0 : Int)))), (It.int IntKind.u64 (0 : Int)), (It.int IntKind.u64 (0 : Int)), (It.int IntKind.u64 (0 : Int))]))], 45, 704, []⟩ := by kernel_rfl
theorem rpD0_hk (a b : U4) : (run envH true 42 ((rp0 a b : Cfg)) [true, false, false]).cfg.k = rpA0_k := by kernel_rfl
theorem rpD0 (a b : U4) {w0 : World} {F0 : Nat → Prop} {K : Kp} {ac : List Act} {Q : Exit → Act → World → Prop} {cX : Ctx} {aX : Act} (ho : AllP [((decide ((0 : Int) < (4 : Int))) = true), ((0 : Int) ≤ (0 : Int)), ((0 : Int) < (4 : Int)), (0 < (Ob.k (.fr a))), ((0 : Int) ≤ (0 : Int)), ((0 : Int) < (4 : Int)), (0 < (Ob.k (.fr b))), ((0 : Int) ≤ (0 : Int)), ((0 : Int) < (4 : Int)), ((0 : Int) ≤ (0 : Int)), ((0 : Int) < (4 : Int)), ((0 : Int) ≤ (0 : Int)), ((0 : Int) < (4 : Int)), (0 < (Ob.k (.fr a))), ((decide ((IntKind.wrap .u64 ((IntKind.wrap .u64 ((limb (Ob.n (.fr a)) 0) + (limb (Ob.n (.fr b)) 0))) + (0 : Int))) < (limb (Ob.n (.fr a)) 0))) = false), ((0 : Int) ≤ (0 : Int)), ((0 : Int) < (4 : Int)), ((0 : Int) ≤ (0 : Int)), ((0 : Int) < (4 : Int)), (0 < (Ob.k (.fr a))), (((IntKind.wrap .u64 ((IntKind.wrap .u64 ((limb (Ob.n (.fr a)) 0) + (limb (Ob.n (.fr b)) 0))) + (0 : Int))) == (limb (Ob.n (.fr a)) 0)) = false)]) (hs : Sim w0 F0 K ac (((rp0 a b : Cfg)).σ) cX aX) (hK : ∀ ac cY aY, Sim w0 F0 K ac (mkSt 45 [2, 3, 4, 5, 6, 7] [(.v (.c (.ptr 16 0))), (.v (.c (.ptr 32 0))), (.v (.c (.ptr 48 0))), (.v (.c (.ptr 80 0))), (.v (.c (.int .u64 (0 : Int)))), (.v (.c (.int .i64 (0 : Int))))] [16, 32, 48, 80] [(some (.fl [(.ob (.fr a))])), (some (.fl [(.ob (.fr b))])), (some (.fl [(.ob (.fr (0 : U4)))])), (some (.fl [(.int .u64 (IntKind.wrap .u64 ((IntKind.wrap .u64 ((limb (Ob.n (.fr a)) 0) + (limb (Ob.n (.fr b)) 0))) + (0 : Int)))), (.int .u64 (0 : Int)), (.int .u64 (0 : Int)), (.int .u64 (0 : Int))]))] 704 [] []) cY aY → Wq Try.prog Q (rpA0_k) ac Exit.normal aY cY.w) : Wq Try.prog Q (((rp0 a b : Cfg)).k) ac ((rp0 a b : Cfg)).x aX cX.w :=
  run_at envH_ok (rpD0_at a b) (rpD0_hk a b) ho hs hK
noncomputable def rpS1 (a b : U4) (v0 v1 v2 v3 c : Int) : St := mkSt 45 [2, 3, 4, 5, 6, 7] [(SV.v (V1.c (It.ptr 16 0))), (SV.v (V1.c (It.ptr 32 0))), (SV.v (V1.c (It.ptr 48 0))), (SV.v (V1.c (It.ptr 80 0))), .v (.c (.int .u64 c)), (SV.v (V1.c (It.int IntKind.i64 (0 : Int))))] [16, 32, 48, 80] [(Option.some (En.fl [(It.ob (Ob.fr a))])), (Option.some (En.fl [(It.ob (Ob.fr b))])), (Option.some (En.fl [(It.ob (Ob.fr (0 : U4)))])), some (.fl [.int .u64 v0, .int .u64 v1, .int .u64 v2, .int .u64 v3])] 704 [] []
noncomputable def rpA1_k : List KI := (run envH true 25 ((fun (a b : U4) (v0 v1 v2 v3 c : Int) => (⟨rpA0_k, .normal, rpS1 a b v0 v1 v2 v3 c⟩ : Cfg)) default default default default default default default) [true, true, true]).cfg.k
theorem rpA1_hk (a b : U4) (v0 v1 v2 v3 c : Int) : (run envH true 25 ((⟨rpA0_k, .normal, rpS1 a b v0 v1 v2 v3 c⟩ : Cfg)) [true, true, true]).cfg.k = rpA1_k := by kernel_rfl
theorem rpA1 (a b : U4) (v0 v1 v2 v3 c : Int) {w0 : World} {F0 : Nat → Prop} {K : Kp} {ac : List Act} {Q : Exit → Act → World → Prop} {cX : Ctx} {aX : Act} (ho : AllP [((decide ((1 : Int) < (4 : Int))) = true), ((0 : Int) ≤ (1 : Int)), ((1 : Int) < (4 : Int)), (1 < (Ob.k (.fr a))), ((0 : Int) ≤ (1 : Int)), ((1 : Int) < (4 : Int)), (1 < (Ob.k (.fr b))), ((0 : Int) ≤ (1 : Int)), ((1 : Int) < (4 : Int)), ((0 : Int) ≤ (1 : Int)), ((1 : Int) < (4 : Int)), ((0 : Int) ≤ (1 : Int)), ((1 : Int) < (4 : Int)), (1 < (Ob.k (.fr a))), ((decide ((IntKind.wrap .u64 ((IntKind.wrap .u64 ((limb (Ob.n (.fr a)) 1) + (limb (Ob.n (.fr b)) 1))) + c)) < (limb (Ob.n (.fr a)) 1))) = true)]) (hs : Sim w0 F0 K ac (rpS1 a b v0 v1 v2 v3 c) cX aX) (hK : ∀ ac cY aY, Sim w0 F0 K ac (mkSt 45 [2, 3, 4, 5, 6, 7] [(.v (.c (.ptr 16 0))), (.v (.c (.ptr 32 0))), (.v (.c (.ptr 48 0))), (.v (.c (.ptr 80 0))), (.v (.c (.int .u64 (1 : Int)))), (.v (.c (.int .i64 (1 : Int))))] [16, 32, 48, 80] [(some (.fl [(.ob (.fr a))])), (some (.fl [(.ob (.fr b))])), (some (.fl [(.ob (.fr (0 : U4)))])), (some (.fl [(.int .u64 v0), (.int .u64 (IntKind.wrap .u64 ((IntKind.wrap .u64 ((limb (Ob.n (.fr a)) 1) + (limb (Ob.n (.fr b)) 1))) + c))), (.int .u64 v2), (.int .u64 v3)]))] 1312 [] []) cY aY → Wq Try.prog Q (rpA1_k) ac Exit.normal aY cY.w) : Wq Try.prog Q (rpA0_k) ac .normal aX cX.w :=
  run_at2 (o := ⟨_, _, _, _, _, _, _⟩) envH_ok (by kernel_rfl) (rpA1_hk a b v0 v1 v2 v3 c) ho hs hK
theorem rpB1_hk (a b : U4) (v0 v1 v2 v3 c : Int) : (run envH true 25 ((⟨rpA0_k, .normal, rpS1 a b v0 v1 v2 v3 c⟩ : Cfg)) [true, true, false, true]).cfg.k = rpA1_k := by kernel_rfl
theorem rpB1 (a b : U4) (v0 v1 v2 v3 c : Int) {w0 : World} {F0 : Nat → Prop} {K : Kp} {ac : List Act} {Q : Exit → Act → World → Prop} {cX : Ctx} {aX : Act} (ho : AllP [((decide ((1 : Int) < (4 : Int))) = true), ((0 : Int) ≤ (1 : Int)), ((1 : Int) < (4 : Int)), (1 < (Ob.k (.fr a))), ((0 : Int) ≤ (1 : Int)), ((1 : Int) < (4 : Int)), (1 < (Ob.k (.fr b))), ((0 : Int) ≤ (1 : Int)), ((1 : Int) < (4 : Int)), ((0 : Int) ≤ (1 : Int)), ((1 : Int) < (4 : Int)), ((0 : Int) ≤ (1 : Int)), ((1 : Int) < (4 : Int)), (1 < (Ob.k (.fr a))), ((decide ((IntKind.wrap .u64 ((IntKind.wrap .u64 ((limb (Ob.n (.fr a)) 1) + (limb (Ob.n (.fr b)) 1))) + c)) < (limb (Ob.n (.fr a)) 1))) = false), ((0 : Int) ≤ (1 : Int)), ((1 : Int) < (4 : Int)), ((0 : Int) ≤ (1 : Int)), ((1 : Int) < (4 : Int)), (1 < (Ob.k (.fr a))), (((IntKind.wrap .u64 ((IntKind.wrap .u64 ((limb (Ob.n (.fr a)) 1) + (limb (Ob.n (.fr b)) 1))) + c)) == (limb (Ob.n (.fr a)) 1)) = true), ((c == (1 : Int)) = true)]) (hs : Sim w0 F0 K ac (rpS1 a b v0 v1 v2 v3 c) cX aX) (hK : ∀ ac cY aY, Sim w0 F0 K ac (mkSt 45 [2, 3, 4, 5, 6, 7] [(.v (.c (.ptr 16 0))), (.v (.c (.ptr 32 0))), (.v (.c (.ptr 48 0))), (.v (.c (.ptr 80 0))), (.v (.c (.int .u64 (1 : Int)))), (.v (.c (.int .i64 (1 : Int))))] [16, 32, 48, 80] [(some (.fl [(.ob (.fr a))])), (some (.fl [(.ob (.fr b))])), (some (.fl [(.ob (.fr (0 : U4)))])), (some (.fl [(.int .u64 v0), (.int .u64 (IntKind.wrap .u64 ((IntKind.wrap .u64 ((limb (Ob.n (.fr a)) 1) + (limb (Ob.n (.fr b)) 1))) + c))), (.int .u64 v2), (.int .u64 v3)]))] 1312 [] []) cY aY → Wq Try.prog Q (rpA1_k) ac Exit.normal aY cY.w) : Wq Try.prog Q (rpA0_k) ac .normal aX cX.w :=
  run_at2 (o := ⟨_, _, _, _, _, _, _⟩) envH_ok (by kernel_rfl) (rpB1_hk a b v0 v1 v2 v3 c) ho hs hK
theorem rpC1_hk (a b : U4) (v0 v1 v2 v3 c : Int) : (run envH true 25 ((⟨rpA0_k, .normal, rpS1 a b v0 v1 v2 v3 c⟩ : Cfg)) [true, true, false, false]).cfg.k = rpA1_k := by kernel_rfl
theorem rpC1 (a b : U4) (v0 v1 v2 v3 c : Int) {w0 : World} {F0 : Nat → Prop} {K : Kp} {ac : List Act} {Q : Exit → Act → World → Prop} {cX : Ctx} {aX : Act} (ho : AllP [((decide ((1 : Int) < (4 : Int))) = true), ((0 : Int) ≤ (1 : Int)), ((1 : Int) < (4 : Int)), (1 < (Ob.k (.fr a))), ((0 : Int) ≤ (1 : Int)), ((1 : Int) < (4 : Int)), (1 < (Ob.k (.fr b))), ((0 : Int) ≤ (1 : Int)), ((1 : Int) < (4 : Int)), ((0 : Int) ≤ (1 : Int)), ((1 : Int) < (4 : Int)), ((0 : Int) ≤ (1 : Int)), ((1 : Int) < (4 : Int)), (1 < (Ob.k (.fr a))), ((decide ((IntKind.wrap .u64 ((IntKind.wrap .u64 ((limb (Ob.n (.fr a)) 1) + (limb (Ob.n (.fr b)) 1))) + c)) < (limb (Ob.n (.fr a)) 1))) = false), ((0 : Int) ≤ (1 : Int)), ((1 : Int) < (4 : Int)), ((0 : Int) ≤ (1 : Int)), ((1 : Int) < (4 : Int)), (1 < (Ob.k (.fr a))), (((IntKind.wrap .u64 ((IntKind.wrap .u64 ((limb (Ob.n (.fr a)) 1) + (limb (Ob.n (.fr b)) 1))) + c)) == (limb (Ob.n (.fr a)) 1)) = true), ((c == (1 : Int)) = false)]) (hs : Sim w0 F0 K ac (rpS1 a b v0 v1 v2 v3 c) cX aX) (hK : ∀ ac cY aY, Sim w0 F0 K ac (mkSt 45 [2, 3, 4, 5, 6, 7] [(.v (.c (.ptr 16 0))), (.v (.c (.ptr 32 0))), (.v (.c (.ptr 48 0))), (.v (.c (.ptr 80 0))), (.v (.c (.int .u64 (0 : Int)))), (.v (.c (.int .i64 (1 : Int))))] [16, 32, 48, 80] [(some (.fl [(.ob (.fr a))])), (some (.fl [(.ob (.fr b))])), (some (.fl [(.ob (.fr (0 : U4)))])), (some (.fl [(.int .u64 v0), (.int .u64 (IntKind.wrap .u64 ((IntKind.wrap .u64 ((limb (Ob.n (.fr a)) 1) + (limb (Ob.n (.fr b)) 1))) + c))), (.int .u64 v2), (.int .u64 v3)]))] 1312 [] []) cY aY → Wq Try.prog Q (rpA1_k) ac Exit.normal aY cY.w) : Wq Try.prog Q (rpA0_k) ac .normal aX cX.w :=
  run_at2 (o := ⟨_, _, _, _, _, _, _⟩) envH_ok (by kernel_rfl) (rpC1_hk a b v0 v1 v2 v3 c) ho hs hK
theorem rpD1_hk (a b : U4) (v0 v1 v2 v3 c : Int) : (run envH true 25 ((⟨rpA0_k, .normal, rpS1 a b v0 v1 v2 v3 c⟩ : Cfg)) [true, false, false]).cfg.k = rpA1_k := by kernel_rfl
theorem rpD1 (a b : U4) (v0 v1 v2 v3 c : Int) {w0 : World} {F0 : Nat → Prop} {K : Kp} {ac : List Act} {Q : Exit → Act → World → Prop} {cX : Ctx} {aX : Act} (ho : AllP [((decide ((1 : Int) < (4 : Int))) = true), ((0 : Int) ≤ (1 : Int)), ((1 : Int) < (4 : Int)), (1 < (Ob.k (.fr a))), ((0 : Int) ≤ (1 : Int)), ((1 : Int) < (4 : Int)), (1 < (Ob.k (.fr b))), ((0 : Int) ≤ (1 : Int)), ((1 : Int) < (4 : Int)), ((0 : Int) ≤ (1 : Int)), ((1 : Int) < (4 : Int)), ((0 : Int) ≤ (1 : Int)), ((1 : Int) < (4 : Int)), (1 < (Ob.k (.fr a))), ((decide ((IntKind.wrap .u64 ((IntKind.wrap .u64 ((limb (Ob.n (.fr a)) 1) + (limb (Ob.n (.fr b)) 1))) + c)) < (limb (Ob.n (.fr a)) 1))) = false), ((0 : Int) ≤ (1 : Int)), ((1 : Int) < (4 : Int)), ((0 : Int) ≤ (1 : Int)), ((1 : Int) < (4 : Int)), (1 < (Ob.k (.fr a))), (((IntKind.wrap .u64 ((IntKind.wrap .u64 ((limb (Ob.n (.fr a)) 1) + (limb (Ob.n (.fr b)) 1))) + c)) == (limb (Ob.n (.fr a)) 1)) = false)]) (hs : Sim w0 F0 K ac (rpS1 a b v0 v1 v2 v3 c) cX aX) (hK : ∀ ac cY aY, Sim w0 F0 K ac (mkSt 45 [2, 3, 4, 5, 6, 7] [(.v (.c (.ptr 16 0))), (.v (.c (.ptr 32 0))), (.v (.c (.ptr 48 0))), (.v (.c (.ptr 80 0))), (.v (.c (.int .u64 (0 : Int)))), (.v (.c (.int .i64 (1 : Int))))] [16, 32, 48, 80] [(some (.fl [(.ob (.fr a))])), (some (.fl [(.ob (.fr b))])), (some (.fl [(.ob (.fr (0 : U4)))])), (some (.fl [(.int .u64 v0), (.int .u64 (IntKind.wrap .u64 ((IntKind.wrap .u64 ((limb (Ob.n (.fr a)) 1) + (limb (Ob.n (.fr b)) 1))) + c))), (.int .u64 v2), (.int .u64 v3)]))] 1312 [] []) cY aY → Wq Try.prog Q (rpA1_k) ac Exit.normal aY cY.w) : Wq Try.prog Q (rpA0_k) ac .normal aX cX.w :=
  run_at2 (o := ⟨_, _, _, _, _, _, _⟩) envH_ok (by kernel_rfl) (rpD1_hk a b v0 v1 v2 v3 c) ho hs hK
noncomputable def rpS2 (a b : U4) (v0 v1 v2 v3 c : Int) : St := mkSt 45 [2, 3, 4, 5, 6, 7] [(SV.v (V1.c (It.ptr 16 0))), (SV.v (V1.c (It.ptr 32 0))), (SV.v (V1.c (It.ptr 48 0))), (SV.v (V1.c (It.ptr 80 0))), .v (.c (.int .u64 c)), (SV.v (V1.c (It.int IntKind.i64 (1 : Int))))] [16, 32, 48, 80] [(Option.some (En.fl [(It.ob (Ob.fr a))])), (Option.some (En.fl [(It.ob (Ob.fr b))])), (Option.some (En.fl [(It.ob (Ob.fr (0 : U4)))])), some (.fl [.int .u64 v0, .int .u64 v1, .int .u64 v2, .int .u64 v3])] 1312 [] []
noncomputable def rpA2_k : List KI := (run envH true 25 ((fun (a b : U4) (v0 v1 v2 v3 c : Int) => (⟨rpA1_k, .normal, rpS2 a b v0 v1 v2 v3 c⟩ : Cfg)) default default default default default default default) [true, true, true]).cfg.k
theorem rpA2_hk (a b : U4) (v0 v1 v2 v3 c : Int) : (run envH true 25 ((⟨rpA1_k, .normal, rpS2 a b v0 v1 v2 v3 c⟩ : Cfg)) [true, true, true]).cfg.k = rpA2_k := by kernel_rfl
theorem rpA2 (a b : U4) (v0 v1 v2 v3 c : Int) {w0 : World} {F0 : Nat → Prop} {K : Kp} {ac : List Act} {Q : Exit → Act → World → Prop} {cX : Ctx} {aX : Act} (ho : AllP [((decide ((2 : Int) < (4 : Int))) = true), ((0 : Int) ≤ (2 : Int)), ((2 : Int) < (4 : Int)), (2 < (Ob.k (.fr a))), ((0 : Int) ≤ (2 : Int)), ((2 : Int) < (4 : Int)), (2 < (Ob.k (.fr b))), ((0 : Int) ≤ (2 : Int)), ((2 : Int) < (4 : Int)), ((0 : Int) ≤ (2 : Int)), ((2 : Int) < (4 : Int)), ((0 : Int) ≤ (2 : Int)), ((2 : Int) < (4 : Int)), (2 < (Ob.k (.fr a))), ((decide ((IntKind.wrap .u64 ((IntKind.wrap .u64 ((limb (Ob.n (.fr a)) 2) + (limb (Ob.n (.fr b)) 2))) + c)) < (limb (Ob.n (.fr a)) 2))) = true)]) (hs : Sim w0 F0 K ac (rpS2 a b v0 v1 v2 v3 c) cX aX) (hK : ∀ ac cY aY, Sim w0 F0 K ac (mkSt 45 [2, 3, 4, 5, 6, 7] [(.v (.c (.ptr 16 0))), (.v (.c (.ptr 32 0))), (.v (.c (.ptr 48 0))), (.v (.c (.ptr 80 0))), (.v (.c (.int .u64 (1 : Int)))), (.v (.c (.int .i64 (2 : Int))))] [16, 32, 48, 80] [(some (.fl [(.ob (.fr a))])), (some (.fl [(.ob (.fr b))])), (some (.fl [(.ob (.fr (0 : U4)))])), (some (.fl [(.int .u64 v0), (.int .u64 v1), (.int .u64 (IntKind.wrap .u64 ((IntKind.wrap .u64 ((limb (Ob.n (.fr a)) 2) + (limb (Ob.n (.fr b)) 2))) + c))), (.int .u64 v3)]))] 1920 [] []) cY aY → Wq Try.prog Q (rpA2_k) ac Exit.normal aY cY.w) : Wq Try.prog Q (rpA1_k) ac .normal aX cX.w :=
  run_at2 (o := ⟨_, _, _, _, _, _, _⟩) envH_ok (by kernel_rfl) (rpA2_hk a b v0 v1 v2 v3 c) ho hs hK
theorem rpB2_hk (a b : U4) (v0 v1 v2 v3 c : Int) : (run envH true 25 ((⟨rpA1_k, .normal, rpS2 a b v0 v1 v2 v3 c⟩ : Cfg)) [true, true, false, true]).cfg.k = rpA2_k := by kernel_rfl
theorem rpB2 (a b : U4) (v0 v1 v2 v3 c : Int) {w0 : World} {F0 : Nat → Prop} {K : Kp} {ac : List Act} {Q : Exit → Act → World → Prop} {cX : Ctx} {aX : Act} (ho : AllP [((decide ((2 : Int) < (4 : Int))) = true), ((0 : Int) ≤ (2 : Int)), ((2 : Int) < (4 : Int)), (2 < (Ob.k (.fr a))), ((0 : Int) ≤ (2 : Int)), ((2 : Int) < (4 : Int)), (2 < (Ob.k (.fr b))), ((0 : Int) ≤ (2 : Int)), ((2 : Int) < (4 : Int)), ((0 : Int) ≤ (2 : Int)), ((2 : Int) < (4 : Int)), ((0 : Int) ≤ (2 : Int)), ((2 : Int) < (4 : Int)), (2 < (Ob.k (.fr a))), ((decide ((IntKind.wrap .u64 ((IntKind.wrap .u64 ((limb (Ob.n (.fr a)) 2) + (limb (Ob.n (.fr b)) 2))) + c)) < (limb (Ob.n (.fr a)) 2))) = false), ((0 : Int) ≤ (2 : Int)), ((2 : Int) < (4 : Int)), ((0 : Int) ≤ (2 : Int)), ((2 : Int) < (4 : Int)), (2 < (Ob.k (.fr a))), (((IntKind.wrap .u64 ((IntKind.wrap .u64 ((limb (Ob.n (.fr a)) 2) + (limb (Ob.n (.fr b)) 2))) + c)) == (limb (Ob.n (.fr a)) 2)) = true), ((c == (1 : Int)) = true)]) (hs : Sim w0 F0 K ac (rpS2 a b v0 v1 v2 v3 c) cX aX) (hK : ∀ ac cY aY, Sim w0 F0 K ac (mkSt 45 [2, 3, 4, 5, 6, 7] [(.v (.c (.ptr 16 0))), (.v (.c (.ptr 32 0))), (.v (.c (.ptr 48 0))), (.v (.c (.ptr 80 0))), (.v (.c (.int .u64 (1 : Int)))), (.v (.c (.int .i64 (2 : Int))))] [16, 32, 48, 80] [(some (.fl [(.ob (.fr a))])), (some (.fl [(.ob (.fr b))])), (some (.fl [(.ob (.fr (0 : U4)))])), (some (.fl [(.int .u64 v0), (.int .u64 v1), (.int .u64 (IntKind.wrap .u64 ((IntKind.wrap .u64 ((limb (Ob.n (.fr a)) 2) + (limb (Ob.n (.fr b)) 2))) + c))), (.int .u64 v3)]))] 1920 [] []) cY aY → Wq Try.prog Q (rpA2_k) ac Exit.normal aY cY.w) : Wq Try.prog Q (rpA1_k) ac .normal aX cX.w :=
  run_at2 (o := ⟨_, _, _, _, _, _, _⟩) envH_ok (by kernel_rfl) (rpB2_hk a b v0 v1 v2 v3 c) ho hs hK
theorem rpC2_hk (a b : U4) (v0 v1 v2 v3 c : Int) : (run envH true 25 ((⟨rpA1_k, .normal, rpS2 a b v0 v1 v2 v3 c⟩ : Cfg)) [true, true, false, false]).cfg.k = rpA2_k := by kernel_rfl
theorem rpC2 (a b : U4) (v0 v1 v2 v3 c : Int) {w0 : World} {F0 : Nat → Prop} {K : Kp} {ac : List Act} {Q : Exit → Act → World → Prop} {cX : Ctx} {aX : Act} (ho : AllP [((decide ((2 : Int) < (4 : Int))) = true), ((0 : Int) ≤ (2 : Int)), ((2 : Int) < (4 : Int)), (2 < (Ob.k (.fr a))), ((0 : Int) ≤ (2 : Int)), ((2 : Int) < (4 : Int)), (2 < (Ob.k (.fr b))), ((0 : Int) ≤ (2 : Int)), ((2 : Int) < (4 : Int)), ((0 : Int) ≤ (2 : Int)), ((2 : Int) < (4 : Int)), ((0 : Int) ≤ (2 : Int)), ((2 : Int) < (4 : Int)), (2 < (Ob.k (.fr a))), ((decide ((IntKind.wrap .u64 ((IntKind.wrap .u64 ((limb (Ob.n (.fr a)) 2) + (limb (Ob.n (.fr b)) 2))) + c)) < (limb (Ob.n (.fr a)) 2))) = false), ((0 : Int) ≤ (2 : Int)), ((2 : Int) < (4 : Int)), ((0 : Int) ≤ (2 : Int)), ((2 : Int) < (4 : Int)), (2 < (Ob.k (.fr a))), (((IntKind.wrap .u64 ((IntKind.wrap .u64 ((limb (Ob.n (.fr a)) 2) + (limb (Ob.n (.fr b)) 2))) + c)) == (limb (Ob.n (.fr a)) 2)) = true), ((c == (1 : Int)) = false)]) (hs : Sim w0 F0 K ac (rpS2 a b v0 v1 v2 v3 c) cX aX) (hK : ∀ ac cY aY, Sim w0 F0 K ac (mkSt 45 [2, 3, 4, 5, 6, 7] [(.v (.c (.ptr 16 0))), (.v (.c (.ptr 32 0))), (.v (.c (.ptr 48 0))), (.v (.c (.ptr 80 0))), (.v (.c (.int .u64 (0 : Int)))), (.v (.c (.int .i64 (2 : Int))))] [16, 32, 48, 80] [(some (.fl [(.ob (.fr a))])), (some (.fl [(.ob (.fr b))])), (some (.fl [(.ob (.fr (0 : U4)))])), (some (.fl [(.int .u64 v0), (.int .u64 v1), (.int .u64 (IntKind.wrap .u64 ((IntKind.wrap .u64 ((limb (Ob.n (.fr a)) 2) + (limb (Ob.n (.fr b)) 2))) + c))), (.int .u64 v3)]))] 1920 [] []) cY aY → Wq Try.prog Q (rpA2_k) ac Exit.normal aY cY.w) : Wq Try.prog Q (rpA1_k) ac .normal aX cX.w :=
  run_at2 (o := ⟨_, _, _, _, _, _, _⟩) envH_ok (by kernel_rfl) (rpC2_hk a b v0 v1 v2 v3 c) ho hs hK
theorem rpD2_hk (a b : U4) (v0 v1 v2 v3 c : Int) : (run envH true 25 ((⟨rpA1_k, .normal, rpS2 a b v0 v1 v2 v3 c⟩ : Cfg)) [true, false, false]).cfg.k = rpA2_k := by kernel_rfl
theorem rpD2 (a b : U4) (v0 v1 v2 v3 c : Int) {w0 : World} {F0 : Nat → Prop} {K : Kp} {ac : List Act} {Q : Exit → Act → World → Prop} {cX : Ctx} {aX : Act} (ho : AllP [((decide ((2 : Int) < (4 : Int))) = true), ((0 : Int) ≤ (2 : Int)), ((2 : Int) < (4 : Int)), (2 < (Ob.k (.fr a))), ((0 : Int) ≤ (2 : Int)), ((2 : Int) < (4 : Int)), (2 < (Ob.k (.fr b))), ((0 : Int) ≤ (2 : Int)), ((2 : Int) < (4 : Int)), ((0 : Int) ≤ (2 : Int)), ((2 : Int) < (4 : Int)), ((0 : Int) ≤ (2 : Int)), ((2 : Int) < (4 : Int)), (2 < (Ob.k (.fr a))), ((decide ((IntKind.wrap .u64 ((IntKind.wrap .u64 ((limb (Ob.n (.fr a)) 2) + (limb (Ob.n (.fr b)) 2))) + c)) < (limb (Ob.n (.fr a)) 2))) = false), ((0 : Int) ≤ (2 : Int)), ((2 : Int) < (4 : Int)), ((0 : Int) ≤ (2 : Int)), ((2 : Int) < (4 : Int)), (2 < (Ob.k (.fr a))), (((IntKind.wrap .u64 ((IntKind.wrap .u64 ((limb (Ob.n (.fr a)) 2) + (limb (Ob.n (.fr b)) 2))) + c)) == (limb (Ob.n (.fr a)) 2)) = false)]) (hs : Sim w0 F0 K ac (rpS2 a b v0 v1 v2 v3 c) cX aX) (hK : ∀ ac cY aY, Sim w0 F0 K ac (mkSt 45 [2, 3, 4, 5, 6, 7] [(.v (.c (.ptr 16 0))), (.v (.c (.ptr 32 0))), (.v (.c (.ptr 48 0))), (.v (.c (.ptr 80 0))), (.v (.c (.int .u64 (0 : Int)))), (.v (.c (.int .i64 (2 : Int))))] [16, 32, 48, 80] [(some (.fl [(.ob (.fr a))])), (some (.fl [(.ob (.fr b))])), (some (.fl [(.ob (.fr (0 : U4)))])), (some (.fl [(.int .u64 v0), (.int .u64 v1), (.int .u64 (IntKind.wrap .u64 ((IntKind.wrap .u64 ((limb (Ob.n (.fr a)) 2) + (limb (Ob.n (.fr b)) 2))) + c))), (.int .u64 v3)]))] 1920 [] []) cY aY → Wq Try.prog Q (rpA2_k) ac Exit.normal aY cY.w) : Wq Try.prog Q (rpA1_k) ac .normal aX cX.w :=
  run_at2 (o := ⟨_, _, _, _, _, _, _⟩) envH_ok (by kernel_rfl) (rpD2_hk a b v0 v1 v2 v3 c) ho hs hK
noncomputable def rpS3 (a b : U4) (v0 v1 v2 v3 c : Int) : St := mkSt 45 [2, 3, 4, 5, 6, 7] [(SV.v (V1.c (It.ptr 16 0))), (SV.v (V1.c (It.ptr 32 0))), (SV.v (V1.c (It.ptr 48 0))), (SV.v (V1.c (It.ptr 80 0))), .v (.c (.int .u64 c)), (SV.v (V1.c (It.int IntKind.i64 (2 : Int))))] [16, 32, 48, 80] [(Option.some (En.fl [(It.ob (Ob.fr a))])), (Option.some (En.fl [(It.ob (Ob.fr b))])), (Option.some (En.fl [(It.ob (Ob.fr (0 : U4)))])), some (.fl [.int .u64 v0, .int .u64 v1, .int .u64 v2, .int .u64 v3])] 1920 [] []
noncomputable def rpA3_k : List KI := (run envH true 25 ((fun (a b : U4) (v0 v1 v2 v3 c : Int) => (⟨rpA2_k, .normal, rpS3 a b v0 v1 v2 v3 c⟩ : Cfg)) default default default default default default default) [true, true, true]).cfg.k
theorem rpA3_hk (a b : U4) (v0 v1 v2 v3 c : Int) : (run envH true 25 ((⟨rpA2_k, .normal, rpS3 a b v0 v1 v2 v3 c⟩ : Cfg)) [true, true, true]).cfg.k = rpA3_k := by kernel_rfl
theorem rpA3 (a b : U4) (v0 v1 v2 v3 c : Int) {w0 : World} {F0 : Nat → Prop} {K : Kp} {ac : List Act} {Q : Exit → Act → World → Prop} {cX : Ctx} {aX : Act} (ho : AllP [((decide ((3 : Int) < (4 : Int))) = true), ((0 : Int) ≤ (3 : Int)), ((3 : Int) < (4 : Int)), (3 < (Ob.k (.fr a))), ((0 : Int) ≤ (3 : Int)), ((3 : Int) < (4 : Int)), (3 < (Ob.k (.fr b))), ((0 : Int) ≤ (3 : Int)), ((3 : Int) < (4 : Int)), ((0 : Int) ≤ (3 : Int)), ((3 : Int) < (4 : Int)), ((0 : Int) ≤ (3 : Int)), ((3 : Int) < (4 : Int)), (3 < (Ob.k (.fr a))), ((decide ((IntKind.wrap .u64 ((IntKind.wrap .u64 ((limb (Ob.n (.fr a)) 3) + (limb (Ob.n (.fr b)) 3))) + c)) < (limb (Ob.n (.fr a)) 3))) = true)]) (hs : Sim w0 F0 K ac (rpS3 a b v0 v1 v2 v3 c) cX aX) (hK : ∀ ac cY aY, Sim w0 F0 K ac (mkSt 45 [2, 3, 4, 5, 6, 7] [(.v (.c (.ptr 16 0))), (.v (.c (.ptr 32 0))), (.v (.c (.ptr 48 0))), (.v (.c (.ptr 80 0))), (.v (.c (.int .u64 (1 : Int)))), (.v (.c (.int .i64 (3 : Int))))] [16, 32, 48, 80] [(some (.fl [(.ob (.fr a))])), (some (.fl [(.ob (.fr b))])), (some (.fl [(.ob (.fr (0 : U4)))])), (some (.fl [(.int .u64 v0), (.int .u64 v1), (.int .u64 v2), (.int .u64 (IntKind.wrap .u64 ((IntKind.wrap .u64 ((limb (Ob.n (.fr a)) 3) + (limb (Ob.n (.fr b)) 3))) + c)))]))] 2528 [] []) cY aY → Wq Try.prog Q (rpA3_k) ac Exit.normal aY cY.w) : Wq Try.prog Q (rpA2_k) ac .normal aX cX.w :=
  run_at2 (o := ⟨_, _, _, _, _, _, _⟩) envH_ok (by kernel_rfl) (rpA3_hk a b v0 v1 v2 v3 c) ho hs hK
theorem rpB3_hk (a b : U4) (v0 v1 v2 v3 c : Int) : (run envH true 25 ((⟨rpA2_k, .normal, rpS3 a b v0 v1 v2 v3 c⟩ : Cfg)) [true, true, false, true]).cfg.k = rpA3_k := by kernel_rfl
theorem rpB3 (a b : U4) (v0 v1 v2 v3 c : Int) {w0 : World} {F0 : Nat → Prop} {K : Kp} {ac : List Act} {Q : Exit → Act → World → Prop} {cX : Ctx} {aX : Act} (ho : AllP [((decide ((3 : Int) < (4 : Int))) = true), ((0 : Int) ≤ (3 : Int)), ((3 : Int) < (4 : Int)), (3 < (Ob.k (.fr a))), ((0 : Int) ≤ (3 : Int)), ((3 : Int) < (4 : Int)), (3 < (Ob.k (.fr b))), ((0 : Int) ≤ (3 : Int)), ((3 : Int) < (4 : Int)), ((0 : Int) ≤ (3 : Int)), ((3 : Int) < (4 : Int)), ((0 : Int) ≤ (3 : Int)), ((3 : Int) < (4 : Int)), (3 < (Ob.k (.fr a))), ((decide ((IntKind.wrap .u64 ((IntKind.wrap .u64 ((limb (Ob.n (.fr a)) 3) + (limb (Ob.n (.fr b)) 3))) + c)) < (limb (Ob.n (.fr a)) 3))) = false), ((0 : Int) ≤ (3 : Int)), ((3 : Int) < (4 : Int)), ((0 : Int) ≤ (3 : Int)), ((3 : Int) < (4 : Int)), (3 < (Ob.k (.fr a))), (((IntKind.wrap .u64 ((IntKind.wrap .u64 ((limb (Ob.n (.fr a)) 3) + (limb (Ob.n (.fr b)) 3))) + c)) == (limb (Ob.n (.fr a)) 3)) = true), ((c == (1 : Int)) = true)]) (hs : Sim w0 F0 K ac (rpS3 a b v0 v1 v2 v3 c) cX aX) (hK : ∀ ac cY aY, Sim w0 F0 K ac (mkSt 45 [2, 3, 4, 5, 6, 7] [(.v (.c (.ptr 16 0))), (.v (.c (.ptr 32 0))), (.v (.c (.ptr 48 0))), (.v (.c (.ptr 80 0))), (.v (.c (.int .u64 (1 : Int)))), (.v (.c (.int .i64 (3 : Int))))] [16, 32, 48, 80] [(some (.fl [(.ob (.fr a))])), (some (.fl [(.ob (.fr b))])), (some (.fl [(.ob (.fr (0 : U4)))])), (some (.fl [(.int .u64 v0), (.int .u64 v1), (.int .u64 v2), (.int .u64 (IntKind.wrap .u64 ((IntKind.wrap .u64 ((limb (Ob.n (.fr a)) 3) + (limb (Ob.n (.fr b)) 3))) + c)))]))] 2528 [] []) cY aY → Wq Try.prog Q (rpA3_k) ac Exit.normal aY cY.w) : Wq Try.prog Q (rpA2_k) ac .normal aX cX.w :=
  run_at2 (o := ⟨_, _, _, _, _, _, _⟩) envH_ok (by kernel_rfl) (rpB3_hk a b v0 v1 v2 v3 c) ho hs hK
theorem rpC3_hk (a b : U4) (v0 v1 v2 v3 c : Int) : (run envH true 25 ((⟨rpA2_k, .normal, rpS3 a b v0 v1 v2 v3 c⟩ : Cfg)) [true, true, false, false]).cfg.k = rpA3_k := by kernel_rfl
theorem rpC3 (a b : U4) (v0 v1 v2 v3 c : Int) {w0 : World} {F0 : Nat → Prop} {K : Kp} {ac : List Act} {Q : Exit → Act → World → Prop} {cX : Ctx} {aX : Act} (ho : AllP [((decide ((3 : Int) < (4 : Int))) = true), ((0 : Int) ≤ (3 : Int)), ((3 : Int) < (4 : Int)), (3 < (Ob.k (.fr a))), ((0 : Int) ≤ (3 : Int)), ((3 : Int) < (4 : Int)), (3 < (Ob.k (.fr b))), ((0 : Int) ≤ (3 : Int)), ((3 : Int) < (4 : Int)), ((0 : Int) ≤ (3 : Int)), ((3 : Int) < (4 : Int)), ((0 : Int) ≤ (3 : Int)), ((3 : Int) < (4 : Int)), (3 < (Ob.k (.fr a))), ((decide ((IntKind.wrap .u64 ((IntKind.wrap .u64 ((limb (Ob.n (.fr a)) 3) + (limb (Ob.n (.fr b)) 3))) + c)) < (limb (Ob.n (.fr a)) 3))) = false), ((0 : Int) ≤ (3 : Int)), ((3 : Int) < (4 : Int)), ((0 : Int) ≤ (3 : Int)), ((3 : Int) < (4 : Int)), (3 < (Ob.k (.fr a))), (((IntKind.wrap .u64 ((IntKind.wrap .u64 ((limb (Ob.n (.fr a)) 3) + (limb (Ob.n (.fr b)) 3))) + c)) == (limb (Ob.n (.fr a)) 3)) = true), ((c == (1 : Int)) = false)]) (hs : Sim w0 F0 K ac (rpS3 a b v0 v1 v2 v3 c) cX aX) (hK : ∀ ac cY aY, Sim w0 F0 K ac (mkSt 45 [2, 3, 4, 5, 6, 7] [(.v (.c (.ptr 16 0))), (.v (.c (.ptr 32 0))), (.v (.c (.ptr 48 0))), (.v (.c (.ptr 80 0))), (.v (.c (.int .u64 (0 : Int)))), (.v (.c (.int .i64 (3 : Int))))] [16, 32, 48, 80] [(some (.fl [(.ob (.fr a))])), (some (.fl [(.ob (.fr b))])), (some (.fl [(.ob (.fr (0 : U4)))])), (some (.fl [(.int .u64 v0), (.int .u64 v1), (.int .u64 v2), (.int .u64 (IntKind.wrap .u64 ((IntKind.wrap .u64 ((limb (Ob.n (.fr a)) 3) + (limb (Ob.n (.fr b)) 3))) + c)))]))] 2528 [] []) cY aY → Wq Try.prog Q (rpA3_k) ac Exit.normal aY cY.w) : Wq Try.prog Q (rpA2_k) ac .normal aX cX.w :=
  run_at2 (o := ⟨_, _, _, _, _, _, _⟩) envH_ok (by kernel_rfl) (rpC3_hk a b v0 v1 v2 v3 c) ho hs hK
theorem rpD3_hk (a b : U4) (v0 v1 v2 v3 c : Int) : (run envH true 25 ((⟨rpA2_k, .normal, rpS3 a b v0 v1 v2 v3 c⟩ : Cfg)) [true, false, false]).cfg.k = rpA3_k := by kernel_rfl
theorem rpD3 (a b : U4) (v0 v1 v2 v3 c : Int) {w0 : World} {F0 : Nat → Prop} {K : Kp} {ac : List Act} {Q : Exit → Act → World → Prop} {cX : Ctx} {aX : Act} (ho : AllP [((decide ((3 : Int) < (4 : Int))) = true), ((0 : Int) ≤ (3 : Int)), ((3 : Int) < (4 : Int)), (3 < (Ob.k (.fr a))), ((0 : Int) ≤ (3 : Int)), ((3 : Int) < (4 : Int)), (3 < (Ob.k (.fr b))), ((0 : Int) ≤ (3 : Int)), ((3 : Int) < (4 : Int)), ((0 : Int) ≤ (3 : Int)), ((3 : Int) < (4 : Int)), ((0 : Int) ≤ (3 : Int)), ((3 : Int) < (4 : Int)), (3 < (Ob.k (.fr a))), ((decide ((IntKind.wrap .u64 ((IntKind.wrap .u64 ((limb (Ob.n (.fr a)) 3) + (limb (Ob.n (.fr b)) 3))) + c)) < (limb (Ob.n (.fr a)) 3))) = false), ((0 : Int) ≤ (3 : Int)), ((3 : Int) < (4 : Int)), ((0 : Int) ≤ (3 : Int)), ((3 : Int) < (4 : Int)), (3 < (Ob.k (.fr a))), (((IntKind.wrap .u64 ((IntKind.wrap .u64 ((limb (Ob.n (.fr a)) 3) + (limb (Ob.n (.fr b)) 3))) + c)) == (limb (Ob.n (.fr a)) 3)) = false)]) (hs : Sim w0 F0 K ac (rpS3 a b v0 v1 v2 v3 c) cX aX) (hK : ∀ ac cY aY, Sim w0 F0 K ac (mkSt 45 [2, 3, 4, 5, 6, 7] [(.v (.c (.ptr 16 0))), (.v (.c (.ptr 32 0))), (.v (.c (.ptr 48 0))), (.v (.c (.ptr 80 0))), (.v (.c (.int .u64 (0 : Int)))), (.v (.c (.int .i64 (3 : Int))))] [16, 32, 48, 80] [(some (.fl [(.ob (.fr a))])), (some (.fl [(.ob (.fr b))])), (some (.fl [(.ob (.fr (0 : U4)))])), (some (.fl [(.int .u64 v0), (.int .u64 v1), (.int .u64 v2), (.int .u64 (IntKind.wrap .u64 ((IntKind.wrap .u64 ((limb (Ob.n (.fr a)) 3) + (limb (Ob.n (.fr b)) 3))) + c)))]))] 2528 [] []) cY aY → Wq Try.prog Q (rpA3_k) ac Exit.normal aY cY.w) : Wq Try.prog Q (rpA2_k) ac .normal aX cX.w :=
  run_at2 (o := ⟨_, _, _, _, _, _, _⟩) envH_ok (by kernel_rfl) (rpD3_hk a b v0 v1 v2 v3 c) ho hs hK
noncomputable def rpS4 (a b : U4) (v0 v1 v2 v3 c : Int) : St := mkSt 45 [2, 3, 4, 5, 6, 7] [(SV.v (V1.c (It.ptr 16 0))), (SV.v (V1.c (It.ptr 32 0))), (SV.v (V1.c (It.ptr 48 0))), (SV.v (V1.c (It.ptr 80 0))), .v (.c (.int .u64 c)), (SV.v (V1.c (It.int IntKind.i64 (3 : Int))))] [16, 32, 48, 80] [(Option.some (En.fl [(It.ob (Ob.fr a))])), (Option.some (En.fl [(It.ob (Ob.fr b))])), (Option.some (En.fl [(It.ob (Ob.fr (0 : U4)))])), some (.fl [.int .u64 v0, .int .u64 v1, .int .u64 v2, .int .u64 v3])] 2528 [] []
theorem rpX_end (a b : U4) (v0 v1 v2 v3 c : Int) : runEnd envH Try.f105 true 3000 (⟨rpA3_k, .normal, rpS4 a b v0 v1 v2 v3 c⟩) [false] [] [] = (Option.some ([((decide ((4 : Int) < (4 : Int))) = false)], ((SV.v (V1.a [(It.int IntKind.u64 v0), (It.int IntKind.u64 v1), (It.int IntKind.u64 v2), (It.int IntKind.u64 v3)])), []))) := by kernel_rfl
end Go.Proofs.Ytlfllehomhcbfaa

/- The reference's plus: contract. No conditions. -/
namespace Go.Proofs.Ytlfllehomhcbfaa

theorem add_u4 {a b : U4} {N c : Int} (hN : 0 ≤ N ∧ N < 115792089237316195423570985008687907853269984665640564039457584007913129639936) (_hc : c = 0 ∨ c = 1)
    (h : N + 115792089237316195423570985008687907853269984665640564039457584007913129639936 * c = (a.val : Int) + (b.val : Int)) : ((a + b : U4).val : Int) = N := by
  have ha := a.isLt
  have hb := b.isLt
  have e : (a + b : U4).val = (a.val + b.val) % B4 := rfl
  rw [e]
  unfold B4 at *
  obtain ⟨_, _⟩ := hN
  omega

theorem carry_step {a b c : Int} (ha : Lim a) (hb : Lim b) (hc : c = 0 ∨ c = 1) : ∃ c' : Int, (c' = 0 ∨ c' = 1) ∧ (IntKind.wrap IntKind.u64 (IntKind.wrap IntKind.u64 (a + b) + c) < a → c' = 1) ∧ (¬ IntKind.wrap IntKind.u64 (IntKind.wrap IntKind.u64 (a + b) + c) < a → IntKind.wrap IntKind.u64 (IntKind.wrap IntKind.u64 (a + b) + c) = a → c = 1 → c' = 1) ∧
    (¬ IntKind.wrap IntKind.u64 (IntKind.wrap IntKind.u64 (a + b) + c) < a → IntKind.wrap IntKind.u64 (IntKind.wrap IntKind.u64 (a + b) + c) = a → ¬ c = 1 → c' = 0) ∧ (¬ IntKind.wrap IntKind.u64 (IntKind.wrap IntKind.u64 (a + b) + c) < a → ¬ IntKind.wrap IntKind.u64 (IntKind.wrap IntKind.u64 (a + b) + c) = a → c' = 0) ∧
    IntKind.wrap IntKind.u64 (IntKind.wrap IntKind.u64 (a + b) + c) + 18446744073709551616 * c' = a + b + c := by
  obtain ⟨_, _⟩ := ha
  obtain ⟨_, _⟩ := hb
  rw [wrapU, wrapU]
  refine ⟨if 18446744073709551616 ≤ a + b + c then 1 else 0, ?_, ?_, ?_, ?_, ?_, ?_⟩
  · split <;> omega
  · intro h; rw [if_pos (by omega)]
  · intro h1 h2 h3; rw [if_pos (by omega)]
  · intro h1 h2 h3; rw [if_neg (by omega)]
  · intro h1 h2; rw [if_neg (by omega)]
  · split <;> omega

section
variable {w0 : World} {F0 : Nat → Prop} {K : Kp} {ac : List Act} {Q : Exit → Act → World → Prop} {cX : Ctx} {aX : Act}

theorem rpT0 (a b : U4) (hs : Sim w0 F0 K ac (rp0 a b : Cfg).σ cX aX)
    (k : ∀ c' : Int, (c' = 0 ∨ c' = 1) → (IntKind.wrap IntKind.u64 (IntKind.wrap IntKind.u64 ((limb (Ob.n (Ob.fr a)) 0) + (limb (Ob.n (Ob.fr b)) 0)) + 0)) + 18446744073709551616 * c' = (limb (Ob.n (Ob.fr a)) 0) + (limb (Ob.n (Ob.fr b)) 0) + 0 → ∀ ac cY aY, Sim w0 F0 K ac (rpS1 a b (IntKind.wrap IntKind.u64 (IntKind.wrap IntKind.u64 ((limb (Ob.n (Ob.fr a)) 0) + (limb (Ob.n (Ob.fr b)) 0)) + 0)) 0 0 0 c') cY aY → Wq Try.prog Q rpA0_k ac .normal aY cY.w) : Wq Try.prog Q (rp0 a b : Cfg).k ac (rp0 a b : Cfg).x aX cX.w := by
  have hA : Lim (limb (Ob.n (Ob.fr a)) 0) := by obtain ⟨h0, h1, h2, h3, _⟩ := fr_lims a; assumption
  have hB : Lim (limb (Ob.n (Ob.fr b)) 0) := by obtain ⟨h0, h1, h2, h3, _⟩ := fr_lims b; assumption
  obtain ⟨c', h1, hA1, hB1, hC1, hD1, e⟩ := carry_step (c := 0) hA hB (.inl rfl)
  have sA := @rpA0 a b w0 F0 K ac Q cX aX
  have sB := @rpB0 a b w0 F0 K ac Q cX aX
  have sC := @rpC0 a b w0 F0 K ac Q cX aX
  have sD := @rpD0 a b w0 F0 K ac Q cX aX
  replace k := k c' h1 e
  clear e hA hB
  generalize (IntKind.wrap IntKind.u64 (IntKind.wrap IntKind.u64 ((limb (Ob.n (Ob.fr a)) 0) + (limb (Ob.n (Ob.fr b)) 0)) + 0)) = x at *
  generalize (limb (Ob.n (Ob.fr a)) 0) = y at *
  by_cases l1 : x < y
  · rw [hA1 l1] at k
    exact sA (by simp [AllP, Ob.k, l1]) hs k
  · by_cases l2 : x = y
    · by_cases l3 : (0 : Int) = 1
      · rw [hB1 l1 l2 l3] at k
        exact sB (by simp [AllP, Ob.k, l2, l3]) hs k
      · rw [hC1 l1 l2 l3] at k
        exact sC (by simp [AllP, Ob.k, l2]) hs k
    · rw [hD1 l1 l2] at k
      exact sD (by simp [AllP, Ob.k, l1, l2]) hs k

theorem rpT1 (a b : U4) (v0 v1 v2 v3 c : Int) (hc : c = 0 ∨ c = 1) (hs : Sim w0 F0 K ac (rpS1 a b v0 v1 v2 v3 c) cX aX)
    (k : ∀ c' : Int, (c' = 0 ∨ c' = 1) → (IntKind.wrap IntKind.u64 (IntKind.wrap IntKind.u64 ((limb (Ob.n (Ob.fr a)) 1) + (limb (Ob.n (Ob.fr b)) 1)) + c)) + 18446744073709551616 * c' = (limb (Ob.n (Ob.fr a)) 1) + (limb (Ob.n (Ob.fr b)) 1) + c → ∀ ac cY aY, Sim w0 F0 K ac (rpS2 a b v0 (IntKind.wrap IntKind.u64 (IntKind.wrap IntKind.u64 ((limb (Ob.n (Ob.fr a)) 1) + (limb (Ob.n (Ob.fr b)) 1)) + c)) v2 v3 c') cY aY → Wq Try.prog Q rpA1_k ac .normal aY cY.w) : Wq Try.prog Q rpA0_k ac .normal aX cX.w := by
  have hA : Lim (limb (Ob.n (Ob.fr a)) 1) := by obtain ⟨h0, h1, h2, h3, _⟩ := fr_lims a; assumption
  have hB : Lim (limb (Ob.n (Ob.fr b)) 1) := by obtain ⟨h0, h1, h2, h3, _⟩ := fr_lims b; assumption
  obtain ⟨c', h1, hA1, hB1, hC1, hD1, e⟩ := carry_step (c := c) hA hB hc
  have sA := @rpA1 a b v0 v1 v2 v3 c w0 F0 K ac Q cX aX
  have sB := @rpB1 a b v0 v1 v2 v3 c w0 F0 K ac Q cX aX
  have sC := @rpC1 a b v0 v1 v2 v3 c w0 F0 K ac Q cX aX
  have sD := @rpD1 a b v0 v1 v2 v3 c w0 F0 K ac Q cX aX
  replace k := k c' h1 e
  clear e hA hB
  generalize (IntKind.wrap IntKind.u64 (IntKind.wrap IntKind.u64 ((limb (Ob.n (Ob.fr a)) 1) + (limb (Ob.n (Ob.fr b)) 1)) + c)) = x at *
  generalize (limb (Ob.n (Ob.fr a)) 1) = y at *
  by_cases l1 : x < y
  · rw [hA1 l1] at k
    exact sA (by simp [AllP, Ob.k, l1]) hs k
  · by_cases l2 : x = y
    · by_cases l3 : (c : Int) = 1
      · rw [hB1 l1 l2 l3] at k
        exact sB (by simp [AllP, Ob.k, l2, l3]) hs k
      · rw [hC1 l1 l2 l3] at k
        exact sC (by simp [AllP, Ob.k, l2, l3]) hs k
    · rw [hD1 l1 l2] at k
      exact sD (by simp [AllP, Ob.k, l1, l2]) hs k

theorem rpT2 (a b : U4) (v0 v1 v2 v3 c : Int) (hc : c = 0 ∨ c = 1) (hs : Sim w0 F0 K ac (rpS2 a b v0 v1 v2 v3 c) cX aX)
    (k : ∀ c' : Int, (c' = 0 ∨ c' = 1) → (IntKind.wrap IntKind.u64 (IntKind.wrap IntKind.u64 ((limb (Ob.n (Ob.fr a)) 2) + (limb (Ob.n (Ob.fr b)) 2)) + c)) + 18446744073709551616 * c' = (limb (Ob.n (Ob.fr a)) 2) + (limb (Ob.n (Ob.fr b)) 2) + c → ∀ ac cY aY, Sim w0 F0 K ac (rpS3 a b v0 v1 (IntKind.wrap IntKind.u64 (IntKind.wrap IntKind.u64 ((limb (Ob.n (Ob.fr a)) 2) + (limb (Ob.n (Ob.fr b)) 2)) + c)) v3 c') cY aY → Wq Try.prog Q rpA2_k ac .normal aY cY.w) : Wq Try.prog Q rpA1_k ac .normal aX cX.w := by
  have hA : Lim (limb (Ob.n (Ob.fr a)) 2) := by obtain ⟨h0, h1, h2, h3, _⟩ := fr_lims a; assumption
  have hB : Lim (limb (Ob.n (Ob.fr b)) 2) := by obtain ⟨h0, h1, h2, h3, _⟩ := fr_lims b; assumption
  obtain ⟨c', h1, hA1, hB1, hC1, hD1, e⟩ := carry_step (c := c) hA hB hc
  have sA := @rpA2 a b v0 v1 v2 v3 c w0 F0 K ac Q cX aX
  have sB := @rpB2 a b v0 v1 v2 v3 c w0 F0 K ac Q cX aX
  have sC := @rpC2 a b v0 v1 v2 v3 c w0 F0 K ac Q cX aX
  have sD := @rpD2 a b v0 v1 v2 v3 c w0 F0 K ac Q cX aX
  replace k := k c' h1 e
  clear e hA hB
  generalize (IntKind.wrap IntKind.u64 (IntKind.wrap IntKind.u64 ((limb (Ob.n (Ob.fr a)) 2) + (limb (Ob.n (Ob.fr b)) 2)) + c)) = x at *
  generalize (limb (Ob.n (Ob.fr a)) 2) = y at *
  by_cases l1 : x < y
  · rw [hA1 l1] at k
    exact sA (by simp [AllP, Ob.k, l1]) hs k
  · by_cases l2 : x = y
    · by_cases l3 : (c : Int) = 1
      · rw [hB1 l1 l2 l3] at k
        exact sB (by simp [AllP, Ob.k, l2, l3]) hs k
      · rw [hC1 l1 l2 l3] at k
        exact sC (by simp [AllP, Ob.k, l2, l3]) hs k
    · rw [hD1 l1 l2] at k
      exact sD (by simp [AllP, Ob.k, l1, l2]) hs k

theorem rpT3 (a b : U4) (v0 v1 v2 v3 c : Int) (hc : c = 0 ∨ c = 1) (hs : Sim w0 F0 K ac (rpS3 a b v0 v1 v2 v3 c) cX aX)
    (k : ∀ c' : Int, (c' = 0 ∨ c' = 1) → (IntKind.wrap IntKind.u64 (IntKind.wrap IntKind.u64 ((limb (Ob.n (Ob.fr a)) 3) + (limb (Ob.n (Ob.fr b)) 3)) + c)) + 18446744073709551616 * c' = (limb (Ob.n (Ob.fr a)) 3) + (limb (Ob.n (Ob.fr b)) 3) + c → ∀ ac cY aY, Sim w0 F0 K ac (rpS4 a b v0 v1 v2 (IntKind.wrap IntKind.u64 (IntKind.wrap IntKind.u64 ((limb (Ob.n (Ob.fr a)) 3) + (limb (Ob.n (Ob.fr b)) 3)) + c)) c') cY aY → Wq Try.prog Q rpA3_k ac .normal aY cY.w) : Wq Try.prog Q rpA2_k ac .normal aX cX.w := by
  have hA : Lim (limb (Ob.n (Ob.fr a)) 3) := by obtain ⟨h0, h1, h2, h3, _⟩ := fr_lims a; assumption
  have hB : Lim (limb (Ob.n (Ob.fr b)) 3) := by obtain ⟨h0, h1, h2, h3, _⟩ := fr_lims b; assumption
  obtain ⟨c', h1, hA1, hB1, hC1, hD1, e⟩ := carry_step (c := c) hA hB hc
  have sA := @rpA3 a b v0 v1 v2 v3 c w0 F0 K ac Q cX aX
  have sB := @rpB3 a b v0 v1 v2 v3 c w0 F0 K ac Q cX aX
  have sC := @rpC3 a b v0 v1 v2 v3 c w0 F0 K ac Q cX aX
  have sD := @rpD3 a b v0 v1 v2 v3 c w0 F0 K ac Q cX aX
  replace k := k c' h1 e
  clear e hA hB
  generalize (IntKind.wrap IntKind.u64 (IntKind.wrap IntKind.u64 ((limb (Ob.n (Ob.fr a)) 3) + (limb (Ob.n (Ob.fr b)) 3)) + c)) = x at *
  generalize (limb (Ob.n (Ob.fr a)) 3) = y at *
  by_cases l1 : x < y
  · rw [hA1 l1] at k
    exact sA (by simp [AllP, Ob.k, l1]) hs k
  · by_cases l2 : x = y
    · by_cases l3 : (c : Int) = 1
      · rw [hB1 l1 l2 l3] at k
        exact sB (by simp [AllP, Ob.k, l2, l3]) hs k
      · rw [hC1 l1 l2 l3] at k
        exact sC (by simp [AllP, Ob.k, l2, l3]) hs k
    · rw [hD1 l1 l2] at k
      exact sD (by simp [AllP, Ob.k, l1, l2]) hs k

end

theorem plus105_fnd (a b : U4) : FnD Try.prog 105 [.v (.a [.ob (.fr a)]), .v (.a [.ob (.fr b)])] (.v (.a [.ob (.fr (a + b))])) [] := by
  refine fn_start (fn := Try.f105) (c := bodyOf Try.f105) Try.func105 rfl rfl fun x a0 hk hF hs => ?_
  obtain ⟨g0, g1, g2, g3, ha⟩ := fr_lims a
  obtain ⟨h0, h1, h2, h3, hb⟩ := fr_lims b
  refine rpT0 a b hs fun c0 hc0 e0 ac cY aY hs => ?_
  refine rpT1 a b _ _ _ _ c0 hc0 hs fun c1 hc1 e1 ac cY aY hs => ?_
  refine rpT2 a b _ _ _ _ c1 hc1 hs fun c2 hc2 e2 ac cY aY hs => ?_
  refine rpT3 a b _ _ _ _ c2 hc2 hs fun c3 hc3 e3 ac cY aY hs => ?_
  refine run_end2 envH_ok hk hF (rpX_end a b _ _ _ _ c3) (by simp [AllP]) (fun y v hd => ?_) hs
  have l0 : Lim (IntKind.wrap IntKind.u64 (IntKind.wrap IntKind.u64 (limb (Ob.n (Ob.fr a)) 0 + limb (Ob.n (Ob.fr b)) 0) + 0)) := wrap_lim _
  have l1 : Lim (IntKind.wrap IntKind.u64 (IntKind.wrap IntKind.u64 (limb (Ob.n (Ob.fr a)) 1 + limb (Ob.n (Ob.fr b)) 1) + c0)) := wrap_lim _
  have l2 : Lim (IntKind.wrap IntKind.u64 (IntKind.wrap IntKind.u64 (limb (Ob.n (Ob.fr a)) 2 + limb (Ob.n (Ob.fr b)) 2) + c1)) := wrap_lim _
  have l3 : Lim (IntKind.wrap IntKind.u64 (IntKind.wrap IntKind.u64 (limb (Ob.n (Ob.fr a)) 3 + limb (Ob.n (Ob.fr b)) 3) + c2)) := wrap_lim _
  generalize IntKind.wrap IntKind.u64 (IntKind.wrap IntKind.u64 (limb (Ob.n (Ob.fr a)) 0 + limb (Ob.n (Ob.fr b)) 0) + 0) = u0 at *
  generalize IntKind.wrap IntKind.u64 (IntKind.wrap IntKind.u64 (limb (Ob.n (Ob.fr a)) 1 + limb (Ob.n (Ob.fr b)) 1) + c0) = u1 at *
  generalize IntKind.wrap IntKind.u64 (IntKind.wrap IntKind.u64 (limb (Ob.n (Ob.fr a)) 2 + limb (Ob.n (Ob.fr b)) 2) + c1) = u2 at *
  generalize IntKind.wrap IntKind.u64 (IntKind.wrap IntKind.u64 (limb (Ob.n (Ob.fr a)) 3 + limb (Ob.n (Ob.fr b)) 3) + c2) = u3 at *
  refine ints_ob (o := .fr (a + b)) (Eq.refl 4) (limbsAre4 l0.1 l0.2 l1.1 l1.2 l2.1 l2.2 l3.1 l3.2 ?_) hd
  show ((a + b : U4).val : Int) = num4 u0 u1 u2 u3
  have hN : num4 u0 u1 u2 u3 + 115792089237316195423570985008687907853269984665640564039457584007913129639936 * c3 = num4 (limb (Ob.n (Ob.fr a)) 0) (limb (Ob.n (Ob.fr a)) 1) (limb (Ob.n (Ob.fr a)) 2) (limb (Ob.n (Ob.fr a)) 3) + num4 (limb (Ob.n (Ob.fr b)) 0) (limb (Ob.n (Ob.fr b)) 1) (limb (Ob.n (Ob.fr b)) 2) (limb (Ob.n (Ob.fr b)) 3) := by
    clear ha hb hd hs hk hF l0 l1 l2 l3 g0 g1 g2 g3 h0 h1 h2 h3
    unfold num4
    omega
  rw [← ha, ← hb] at hN
  exact add_u4 (num4_lt l0 l1 l2 l3) hc3 hN

end Go.Proofs.Ytlfllehomhcbfaa

/- The reference's Clean, walked. No conditions. -/
namespace Go.Proofs.Ytlfllehomhcbfaa

def lessSpec : FnSpec
  | [.v (.a [.ob (.fr a)]), .v (.a [.ob (.fr b)])] => some ([], .v (.c (.bool (decide (a.val < b.val)))), [])
  | _ => none
def minusUSpec : FnSpec
  | [.v (.a [.ob (.fr a)]), .v (.a [.ob (.fr b)])] => some ([], .v (.a [.ob (.fr (a - b))]), [])
  | _ => none
def plusUSpec : FnSpec
  | [.v (.a [.ob (.fr a)]), .v (.a [.ob (.fr b)])] => some ([], .v (.a [.ob (.fr (a + b))]), [])
  | _ => none

noncomputable def envI1 : Env := envH.set (addT envH.fn 37 coreRSpec)
theorem envI1_ok : EnvOk Try.prog envI1 := env_add envH_ok 37 coreRSpec (enters_of Try.func37 rfl rfl) fun args o r es h _ => by
  unfold coreRSpec at h
  split at h
  · cases h
    refine (fn_sound envH_ok Try.func37 refR ⟨by decide, by decide, by decide, by decide, by decide, by decide, by decide, by decide, trivial⟩).conv (fun _ _ h => h) fun y v hd => ?_
    have e : rU = Fin.ofNat B4 52435875175126190479447740508185965837690552500527637822603658699938581184513 := by kernel_rfl
    rw [e]
    exact hd
  · cases h
noncomputable def envI2 : Env := envI1.set (addT envI1.fn 36 lessSpec)
theorem envI2_ok : EnvOk Try.prog envI2 := env_add envI1_ok 36 lessSpec (enters_of Try.func36 rfl rfl) fun args o r es h _ => by
  unfold lessSpec at h
  split at h
  · cases h; exact less_fnd _ _
  · cases h
noncomputable def envI3 : Env := envI2.set (addT envI2.fn 79 minusUSpec)
theorem envI3_ok : EnvOk Try.prog envI3 := env_add envI2_ok 79 minusUSpec (enters_of Try.func79 rfl rfl) fun args o r es h _ => by
  unfold minusUSpec at h
  split at h
  · cases h; exact minus79_fnd _ _
  · cases h
noncomputable def envI : Env := envI3.set (addT envI3.fn 105 plusUSpec)
theorem envI_ok : EnvOk Try.prog envI := env_add envI3_ok 105 plusUSpec (enters_of Try.func105 rfl rfl) fun args o r es h _ => by
  unfold plusUSpec at h
  split at h
  · cases h; exact plus105_fnd _ _
  · cases h

noncomputable def cl0 (a : U4) : Cfg := ⟨[.code (bodyOf Try.f32)], .normal, initSt Try.f32.ntmps [.v (.a [.ob (.fr a)])]⟩
--@env envI envI_ok
noncomputable def clIn_k : List KI := (run envI false 3000 ((fun (a : U4) => (cl0 a : Cfg)) default) []).cfg.k
theorem clIn_at (a : U4) : runAt envI false 3000 ((cl0 a : Cfg)) [] [1, 2] [16, 32] [] = some ⟨[], Exit.normal, [(SV.v (V1.c (It.ptr 16 0))), (SV.v (V1.c (It.ptr 32 0)))], [(Option.some (En.fl [(It.ob (Ob.fr a))])), (Option.some (En.fl [(It.ob (Ob.fr (0 : U4)))]))], 11, 48, []⟩ := by kernel_rfl
theorem clIn_hk (a : U4) : (run envI false 3000 ((cl0 a : Cfg)) []).cfg.k = clIn_k := by kernel_rfl
theorem clIn (a : U4) {w0 : World} {F0 : Nat → Prop} {K : Kp} {ac : List Act} {Q : Exit → Act → World → Prop} {cX : Ctx} {aX : Act} (ho : AllP []) (hs : Sim w0 F0 K ac (((cl0 a : Cfg)).σ) cX aX) (hK : ∀ ac cY aY, Sim w0 F0 K ac (mkSt 11 [1, 2] [(.v (.c (.ptr 16 0))), (.v (.c (.ptr 32 0)))] [16, 32] [(some (.fl [(.ob (.fr a))])), (some (.fl [(.ob (.fr (0 : U4)))]))] 48 [] []) cY aY → Wq Try.prog Q (clIn_k) ac Exit.normal aY cY.w) : Wq Try.prog Q (((cl0 a : Cfg)).k) ac ((cl0 a : Cfg)).x aX cX.w :=
  run_at envI_ok (clIn_at a) (clIn_hk a) ho hs hK
noncomputable def clS (a : U4) : St := mkSt 11 [1, 2] [(SV.v (V1.c (It.ptr 16 0))), (SV.v (V1.c (It.ptr 32 0)))] [16, 32] [(Option.some (En.fl [(It.ob (Ob.fr a))])), (Option.some (En.fl [(It.ob (Ob.fr (0 : U4)))]))] 48 [] []
theorem clN_hk (a : U4) : (run envI false 3000 ((⟨lpIn clIn_k, .normal, clS a⟩ : Cfg)) [true]).cfg.k = lpBk clIn_k := by kernel_rfl
theorem clN (a : U4) {w0 : World} {F0 : Nat → Prop} {K : Kp} {ac : List Act} {Q : Exit → Act → World → Prop} {cX : Ctx} {aX : Act} (ho : AllP [((Bool.not (decide ((Fin.val a) < 52435875175126190479447740508185965837690552500527637822603658699938581184513))) = true)]) (hs : Sim w0 F0 K ac (clS a) cX aX) (hK : ∀ ac cY aY, Sim w0 F0 K ac (mkSt 11 [1, 2] [(.v (.c (.ptr 16 0))), (.v (.c (.ptr 32 0)))] [16, 32] [(some (.fl [(.ob (.fr (a - rU)))])), (some (.fl [(.ob (.fr (0 : U4)))]))] 176 [] []) cY aY → Wq Try.prog Q (lpBk clIn_k) ac Exit.normal aY cY.w) : Wq Try.prog Q (lpIn clIn_k) ac .normal aX cX.w :=
  run_at2 (o := ⟨_, _, _, _, _, _, _⟩) envI_ok (by kernel_rfl) (clN_hk a) ho hs hK
theorem clX_end (a : U4) : runEnd envI Try.f32 false 3000 (⟨lpIn clIn_k, .normal, clS a⟩) [false] [] [] = (Option.some ([((Bool.not (decide ((Fin.val a) < 52435875175126190479447740508185965837690552500527637822603658699938581184513))) = false)], ((SV.v (V1.a [(It.ob (Ob.fr a))])), []))) := by kernel_rfl
end Go.Proofs.Ytlfllehomhcbfaa

/- The reference's Clean: a number, taken modulo r. No conditions. -/
namespace Go.Proofs.Ytlfllehomhcbfaa

def cleanU (a : U4) : U4 := Fin.ofNat B4 (a.val % rN)
theorem cleanU_val (a : U4) : (cleanU a).val = a.val % rN := Nat.mod_eq_of_lt (Nat.lt_trans (Nat.mod_lt _ (by decide)) (by decide))

theorem rU_val : rU.val = rN := by kernel_rfl

theorem sub_rU {a : U4} (h : rN ≤ a.val) : (a - rU).val = a.val - rN := by
  have e : (a - rU).val = (B4 - rU.val + a.val) % B4 := rfl
  rw [e, rU_val]
  have ha := a.isLt
  have hr : rN < B4 := by decide
  rw [show B4 - rN + a.val = (a.val - rN) + B4 from by omega, Nat.add_mod_right, Nat.mod_eq_of_lt (by omega)]

theorem clean_fnd (a : U4) : FnD Try.prog 32 [.v (.a [.ob (.fr a)])] (.v (.a [.ob (.fr (cleanU a))])) [] := by
  refine fn_start (fn := Try.f32) (c := bodyOf Try.f32) Try.func32 rfl rfl fun x a0 hk hF hs => ?_
  refine clIn a trivial hs fun ac cY aY hs1 => ?_
  refine loop_rule (ι := { b : U4 // cleanU b = cleanU a }) (fun b => clS b.1) (fun b => b.1.val) (c := lpC clIn_k) (k := lpR clIn_k) (by kernel_rfl) (fun b ih ac cY aY hs => ?_) ⟨a, rfl⟩ hs1
  obtain ⟨b, hb⟩ := b
  simp only at ih hs
  by_cases h : b.val < rU.val
  · have h2 : b.val < rN := by rw [← rU_val]; exact h
    unfold rN at h2
    refine run_end2 envI_ok hk hF (clX_end b) ⟨by simp [h2], trivial⟩ (fun y v hd => ?_) hs
    refine ob_ob (o := .fr b) (o' := .fr (cleanU a)) (Eq.refl 4) ?_ hd
    show b.val = (cleanU a).val
    rw [← hb, cleanU_val]
    rw [rU_val] at h
    exact (Nat.mod_eq_of_lt h).symm
  · have h' : rN ≤ b.val := by rw [rU_val] at h; omega
    have h2 := h'
    unfold rN at h2
    refine clN b ⟨by simp [h2], trivial⟩ hs fun ac cY aY hs2 => ?_
    refine ih ⟨b - rU, ?_⟩ ?_ ac cY aY (hs2.nx _)
    · rw [← hb]
      apply Fin.ext
      rw [cleanU_val, cleanU_val, sub_rU h', ← Nat.mod_eq_sub_mod h']
    · show (b - rU).val < b.val
      rw [sub_rU h']
      have : 0 < rN := by decide
      omega

end Go.Proofs.Ytlfllehomhcbfaa

/- The reference's Add, Neg, Bit, walked. No conditions. -/
namespace Go.Proofs.Ytlfllehomhcbfaa

def cleanSpec : FnSpec
  | [.v (.a [.ob (.fr a)])] => some ([], .v (.a [.ob (.fr (cleanU a))]), [])
  | _ => none
noncomputable def envJ : Env := envI.set (addT envI.fn 32 cleanSpec)
theorem envJ_ok : EnvOk Try.prog envJ := env_add envI_ok 32 cleanSpec (enters_of Try.func32 rfl rfl) fun args o r es h _ => by
  unfold cleanSpec at h
  split at h
  · cases h; exact clean_fnd _
  · cases h

--@env envJ envJ_ok
theorem addR (a b : U4) : fnRes envJ Try.f77 3000 [.v (.a [.ob (.fr a)]), .v (.a [.ob (.fr b)])] [] [] [] = (Option.some ([], ((SV.v (V1.a [(It.ob (Ob.fr (cleanU (a + b))))])), []))) := by kernel_rfl
theorem negA (a : U4) : fnRes envJ Try.f78 3000 [.v (.a [.ob (.fr a)])] [true] [] [] = (Option.some ([((ite (true = true) (decide (a = (0 : U4))) (Bool.not (decide (a = (0 : U4))))) = true)], ((SV.v (V1.a [(It.ob (Ob.fr a))])), []))) := by kernel_rfl
theorem negB (a : U4) : fnRes envJ Try.f78 3000 [.v (.a [.ob (.fr a)])] [false] [] [] = (Option.some ([((ite (true = true) (decide (a = (0 : U4))) (Bool.not (decide (a = (0 : U4))))) = false)], ((SV.v (V1.a [(It.ob (Ob.fr (rU - a)))])), []))) := by kernel_rfl
theorem bitR (a : U4) (i : Int) : fnRes envJ Try.f104 3000 [.v (.a [.ob (.fr a)]), .v (.c (.int .i64 i))] [] [] [] = (Option.some ([((64 : Int) ≠ (0 : Int)), ((0 : Int) ≤ (IntKind.wrap IntKind.i64 (Int.tdiv i (64 : Int)))), ((IntKind.wrap IntKind.i64 (Int.tdiv i (64 : Int))) < (4 : Int)), ((0 + (((IntKind.wrap IntKind.i64 (Int.tdiv i (64 : Int)))).toNat * 1)) < (Ob.k (Ob.fr a))), ((64 : Int) ≠ (0 : Int)), ((0 : Int) ≤ (IntKind.wrap IntKind.u64 (Int.tmod i (64 : Int)))), ((2 : Int) ≠ (0 : Int))], ((SV.v (V1.c (It.int IntKind.u64 (Int.tmod (Int.fdiv (limb (Ob.n (Ob.fr a)) (0 + (((IntKind.wrap IntKind.i64 (Int.tdiv i (64 : Int)))).toNat * 1))) ((2 : Int) ^ (Min.min ((IntKind.wrap IntKind.u64 (Int.tmod i (64 : Int)))).toNat 64))) (2 : Int))))), []))) := by kernel_rfl
end Go.Proofs.Ytlfllehomhcbfaa

/- The reference's Add, Neg, Bit: contracts. No conditions. -/
namespace Go.Proofs.Ytlfllehomhcbfaa

theorem bit_nat (n i : Nat) : n / 2 ^ (64 * (i / 64)) % 18446744073709551616 / 2 ^ (i % 64) % 2 = n / 2 ^ i % 2 := by
  have h64 : 18446744073709551616 = 2 ^ (i % 64) * (2 * 2 ^ (63 - i % 64)) := by
    rw [← Nat.pow_succ', ← Nat.pow_add, show i % 64 + (63 - i % 64 + 1) = 64 from by omega]
  rw [h64, Nat.mod_mul_right_div_self, Nat.mod_mul_right_mod, Nat.div_div_eq_div_mul, ← Nat.pow_add, show 64 * (i / 64) + i % 64 = i from Nat.div_add_mod i 64]

def bitV (a : U4) (i : Nat) : Int := ((a.val / 2 ^ i % 2 : Nat) : Int)

theorem bit_fnd (a : U4) (i : Nat) (hi : i < 256) : FnD Try.prog 104 [.v (.a [.ob (.fr a)]), .v (.c (.int .i64 (i : Int)))] (.v (.c (.int .u64 (bitV a i)))) [] := by
  have e1 : IntKind.wrap IntKind.i64 (Int.tdiv (i : Int) 64) = ((i / 64 : Nat) : Int) := by
    rw [show Int.tdiv (i : Int) 64 = ((i / 64 : Nat) : Int) from by rw [Int.tdiv_eq_ediv_of_nonneg (by omega)]; omega]
    exact wrap_id (by omega) (by omega)
  have e2 : IntKind.wrap IntKind.u64 (Int.tmod (i : Int) 64) = ((i % 64 : Nat) : Int) := by
    rw [show Int.tmod (i : Int) 64 = ((i % 64 : Nat) : Int) from by rw [Int.tmod_eq_emod_of_nonneg (by omega)]; omega, wrapU]
    omega
  have r := bitR a (i : Int)
  rw [e1, e2, Int.toNat_natCast, Int.toNat_natCast] at r
  refine (fn_sound envJ_ok Try.func104 r ?_).conv (fun _ _ h => h) fun y v hd => ?_
  · refine ⟨by decide, by omega, by omega, by show 0 + i / 64 * 1 < 4; omega, by decide, by omega, by decide, trivial⟩
  · have e3 : Min.min (i % 64) 64 = i % 64 := by omega
    have e4 : 0 + i / 64 * 1 = i / 64 := by omega
    rw [e3, e4] at hd
    have hl : limb (Ob.n (Ob.fr a)) (i / 64) = ((a.val / 2 ^ (64 * (i / 64)) % 18446744073709551616 : Nat) : Int) := rfl
    rw [hl] at hd
    have e5 : Int.tmod (Int.fdiv ((a.val / 2 ^ (64 * (i / 64)) % 18446744073709551616 : Nat) : Int) ((2 : Int) ^ (i % 64))) 2 = bitV a i := by
      unfold bitV
      rw [← bit_nat a.val i]
      generalize a.val / 2 ^ (64 * (i / 64)) % 18446744073709551616 = m
      have hp : ((2 : Int) ^ (i % 64)) = ((2 ^ (i % 64) : Nat) : Int) := by simp
      rw [hp, Int.fdiv_eq_ediv_of_nonneg _ (Int.natCast_nonneg _), ← Int.natCast_ediv, Int.tmod_eq_emod_of_nonneg (Int.natCast_nonneg _)]
      rfl
    rw [e5] at hd
    exact hd

end Go.Proofs.Ytlfllehomhcbfaa

/- The reference's Mul, walked. No conditions. -/
namespace Go.Proofs.Ytlfllehomhcbfaa

def addUSpec : FnSpec
  | [.v (.a [.ob (.fr a)]), .v (.a [.ob (.fr b)])] => some ([], .v (.a [.ob (.fr (cleanU (a + b)))]), [])
  | _ => none
def bitSpec : FnSpec
  | [.v (.a [.ob (.fr a)]), .v (.c (.int .i64 i))] => some ([0 ≤ i, i < 256], .v (.c (.int .u64 (bitV a i.toNat))), [])
  | _ => none
noncomputable def envK1 : Env := envJ.set (addT envJ.fn 77 addUSpec)
theorem envK1_ok : EnvOk Try.prog envK1 := env_add envJ_ok 77 addUSpec (enters_of Try.func77 rfl rfl) fun args o r es h _ => by
  unfold addUSpec at h
  split at h
  · cases h; exact fn_sound envJ_ok Try.func77 (addR _ _) trivial
  · cases h
noncomputable def envK : Env := envK1.set (addT envK1.fn 104 bitSpec)
theorem envK_ok : EnvOk Try.prog envK := env_add envK1_ok 104 bitSpec (enters_of Try.func104 rfl rfl) fun args o r es h ho => by
  unfold bitSpec at h
  split at h
  · cases h
    obtain ⟨h1, h2, _⟩ := ho
    obtain ⟨i, rfl⟩ := Int.eq_ofNat_of_zero_le h1
    exact bit_fnd _ i (by omega)
  · cases h

noncomputable def mu0 (a b : U4) : Cfg := ⟨[.code (bodyOf Try.f72)], .normal, initSt Try.f72.ntmps [.v (.a [.ob (.fr a)]), .v (.a [.ob (.fr b)])]⟩
--@env envK envK_ok
noncomputable def muIn_k : List KI := (run envK false 3000 ((fun (a b : U4) => (mu0 a b : Cfg)) default default) []).cfg.k
theorem muIn_at (a b : U4) : runAt envK false 3000 ((mu0 a b : Cfg)) [] [2, 3, 4, 5, 6] [16, 32, 48, 80] [] = some ⟨[], Exit.normal, [(SV.v (V1.c (It.ptr 16 0))), (SV.v (V1.c (It.ptr 32 0))), (SV.v (V1.c (It.ptr 48 0))), (SV.v (V1.c (It.ptr 80 0))), (SV.v (V1.c (It.int IntKind.i64 (255 : Int))))], [(Option.some (En.fl [(It.ob (Ob.fr a))])), (Option.some (En.fl [(It.ob (Ob.fr b))])), (Option.some (En.fl [(It.ob (Ob.fr (0 : U4)))])), (Option.some (En.fl [(It.ob (Ob.fr (0 : U4)))]))], 23, 128, []⟩ := by kernel_rfl
theorem muIn_hk (a b : U4) : (run envK false 3000 ((mu0 a b : Cfg)) []).cfg.k = muIn_k := by kernel_rfl
theorem muIn (a b : U4) {w0 : World} {F0 : Nat → Prop} {K : Kp} {ac : List Act} {Q : Exit → Act → World → Prop} {cX : Ctx} {aX : Act} (ho : AllP []) (hs : Sim w0 F0 K ac (((mu0 a b : Cfg)).σ) cX aX) (hK : ∀ ac cY aY, Sim w0 F0 K ac (mkSt 23 [2, 3, 4, 5, 6] [(.v (.c (.ptr 16 0))), (.v (.c (.ptr 32 0))), (.v (.c (.ptr 48 0))), (.v (.c (.ptr 80 0))), (.v (.c (.int .i64 (255 : Int))))] [16, 32, 48, 80] [(some (.fl [(.ob (.fr a))])), (some (.fl [(.ob (.fr b))])), (some (.fl [(.ob (.fr (0 : U4)))])), (some (.fl [(.ob (.fr (0 : U4)))]))] 128 [] []) cY aY → Wq Try.prog Q (muIn_k) ac Exit.normal aY cY.w) : Wq Try.prog Q (((mu0 a b : Cfg)).k) ac ((mu0 a b : Cfg)).x aX cX.w :=
  run_at envK_ok (muIn_at a b) (muIn_hk a b) ho hs hK
noncomputable def muS (a b o : U4) (i : Int) : St := mkSt 23 [2, 3, 4, 5, 6] [(SV.v (V1.c (It.ptr 16 0))), (SV.v (V1.c (It.ptr 32 0))), (SV.v (V1.c (It.ptr 48 0))), (SV.v (V1.c (It.ptr 80 0))), .v (.c (.int .i64 i))] [16, 32, 48, 80] [(Option.some (En.fl [(It.ob (Ob.fr a))])), (Option.some (En.fl [(It.ob (Ob.fr b))])), (Option.some (En.fl [(It.ob (Ob.fr (0 : U4)))])), some (.fl [.ob (.fr o)])] 128 [] []
theorem muA_hk (a b o : U4) (i : Int) : (run envK false 3000 ((⟨lpIn muIn_k, .normal, muS a b o i⟩ : Cfg)) [true, true]).cfg.k = lpBk muIn_k := by kernel_rfl
theorem muA (a b o : U4) (i : Int) {w0 : World} {F0 : Nat → Prop} {K : Kp} {ac : List Act} {Q : Exit → Act → World → Prop} {cX : Ctx} {aX : Act} (ho : AllP [((decide (i ≥ (0 : Int))) = true), ((0 : Int) ≤ i), (i < (256 : Int)), (((bitV a (i).toNat) == (1 : Int)) = true)]) (hs : Sim w0 F0 K ac (muS a b o i) cX aX) (hK : ∀ ac cY aY, Sim w0 F0 K ac (mkSt 23 [2, 3, 4, 5, 6] [(.v (.c (.ptr 16 0))), (.v (.c (.ptr 32 0))), (.v (.c (.ptr 48 0))), (.v (.c (.ptr 80 0))), (.v (.c (.int .i64 (IntKind.wrap .i64 (i - (1 : Int))))))] [16, 32, 48, 80] [(some (.fl [(.ob (.fr a))])), (some (.fl [(.ob (.fr b))])), (some (.fl [(.ob (.fr (0 : U4)))])), (some (.fl [(.ob (.fr (cleanU ((cleanU (o + o)) + b))))]))] 400 [] []) cY aY → Wq Try.prog Q (lpBk muIn_k) ac Exit.normal aY cY.w) : Wq Try.prog Q (lpIn muIn_k) ac .normal aX cX.w :=
  run_at2 (o := ⟨_, _, _, _, _, _, _⟩) envK_ok (by kernel_rfl) (muA_hk a b o i) ho hs hK
theorem muB_hk (a b o : U4) (i : Int) : (run envK false 3000 ((⟨lpIn muIn_k, .normal, muS a b o i⟩ : Cfg)) [true, false]).cfg.k = lpBk muIn_k := by kernel_rfl
theorem muB (a b o : U4) (i : Int) {w0 : World} {F0 : Nat → Prop} {K : Kp} {ac : List Act} {Q : Exit → Act → World → Prop} {cX : Ctx} {aX : Act} (ho : AllP [((decide (i ≥ (0 : Int))) = true), ((0 : Int) ≤ i), (i < (256 : Int)), (((bitV a (i).toNat) == (1 : Int)) = false)]) (hs : Sim w0 F0 K ac (muS a b o i) cX aX) (hK : ∀ ac cY aY, Sim w0 F0 K ac (mkSt 23 [2, 3, 4, 5, 6] [(.v (.c (.ptr 16 0))), (.v (.c (.ptr 32 0))), (.v (.c (.ptr 48 0))), (.v (.c (.ptr 80 0))), (.v (.c (.int .i64 (IntKind.wrap .i64 (i - (1 : Int))))))] [16, 32, 48, 80] [(some (.fl [(.ob (.fr a))])), (some (.fl [(.ob (.fr b))])), (some (.fl [(.ob (.fr (0 : U4)))])), (some (.fl [(.ob (.fr (cleanU (o + o))))]))] 336 [] []) cY aY → Wq Try.prog Q (lpBk muIn_k) ac Exit.normal aY cY.w) : Wq Try.prog Q (lpIn muIn_k) ac .normal aX cX.w :=
  run_at2 (o := ⟨_, _, _, _, _, _, _⟩) envK_ok (by kernel_rfl) (muB_hk a b o i) ho hs hK
theorem muX_end (a b o : U4) (i : Int) : runEnd envK Try.f72 false 3000 (⟨lpIn muIn_k, .normal, muS a b o i⟩) [false] [] [] = (Option.some ([((decide (i ≥ (0 : Int))) = false)], ((SV.v (V1.a [(It.ob (Ob.fr o))])), []))) := by kernel_rfl
end Go.Proofs.Ytlfllehomhcbfaa

/- The reference's Mul: contract. No conditions. -/
namespace Go.Proofs.Ytlfllehomhcbfaa

theorem clean_add_val {x y : U4} (hx : x.val < rN) (hy : y.val < rN) : (cleanU (x + y)).val = (x.val + y.val) % rN := by
  rw [cleanU_val]
  have e : (x + y : U4).val = (x.val + y.val) % B4 := rfl
  have hr : rN + rN < B4 := by decide
  rw [e, Nat.mod_eq_of_lt (a := x.val + y.val) (by omega)]

theorem half_step (n j : Nat) : n / 2 ^ j = 2 * (n / 2 ^ (j + 1)) + n / 2 ^ j % 2 := by
  rw [Nat.pow_succ, ← Nat.div_div_eq_div_mul]
  omega

theorem dbl_mod {r p q b : Nat} (x : Nat) (hx : x = p * b % r) (_hq : q = 0 ∨ q = 1) : ((x + x) % r + q * b) % r = (2 * p + q) * b % r := by
  subst hx
  rw [Nat.mod_add_mod, ← Nat.two_mul, Nat.add_mod, Nat.mul_mod_mod, ← Nat.add_mod]
  congr 1
  rw [Nat.add_mul, Nat.mul_assoc]

theorem mulU_fnd (a b : U4) (hb : b.val < rN) : FnD Try.prog 72 [.v (.a [.ob (.fr a)]), .v (.a [.ob (.fr b)])] (.v (.a [.ob (.fr (Fin.ofNat B4 (a.val * b.val % rN)))])) [] := by
  refine fn_start (fn := Try.f72) (c := bodyOf Try.f72) Try.func72 rfl rfl fun x a0 hk hF hs => ?_
  refine muIn a b trivial hs fun ac cY aY hs1 => ?_
  refine loop_rule (ι := { p : Int × U4 // -1 ≤ p.1 ∧ p.1 ≤ 255 ∧ p.2.val = a.val / 2 ^ (p.1 + 1).toNat * b.val % rN }) (fun p => muS a b p.1.2 p.1.1) (fun p => (p.1.1 + 1).toNat) (c := lpC muIn_k) (k := lpR muIn_k) (by kernel_rfl) (fun p ih ac cY aY hs => ?_)
    ⟨(255, 0), by decide, by decide, by
      show (0 : Nat) = a.val / 2 ^ 256 * b.val % rN
      have ha : a.val < 2 ^ 256 := a.isLt
      rw [Nat.div_eq_of_lt ha, Nat.zero_mul, Nat.zero_mod]⟩ hs1
  obtain ⟨⟨i, o⟩, hi1, hi2, ho⟩ := p
  simp only at ih hs ho hi1 hi2
  have hor : o.val < rN := by rw [ho]; exact Nat.mod_lt _ (by decide)
  by_cases h : 0 ≤ i
  · obtain ⟨j, rfl⟩ := Int.eq_ofNat_of_zero_le h
    have e1 : ((j : Int) + 1).toNat = j + 1 := by omega
    rw [e1] at ho
    have hd := clean_add_val hor hor
    have hdr : (cleanU (o + o)).val < rN := by rw [hd]; exact Nat.mod_lt _ (by decide)
    have hhs := half_step a.val j
    have e2 : ((j : Int) - 1 + 1).toNat = j := by omega
    by_cases hbit : a.val / 2 ^ j % 2 = 1
    · refine muA a b o j ⟨by simp, by omega, by omega, by simp [bitV, hbit], trivial⟩ hs fun ac cY aY hs2 => ?_
      rw [wrap_id (by omega) (by omega)] at hs2
      refine ih ⟨((j : Int) - 1, cleanU (cleanU (o + o) + b)), by omega, by omega, ?_⟩ (by show ((j : Int) - 1 + 1).toNat < ((j : Int) + 1).toNat; omega) ac cY aY (hs2.nx _)
      show (cleanU (cleanU (o + o) + b)).val = a.val / 2 ^ ((j : Int) - 1 + 1).toNat * b.val % rN
      rw [e2, clean_add_val hdr hb, hd, hhs, hbit]
      have := dbl_mod (q := 1) o.val ho (.inr rfl)
      rw [Nat.one_mul] at this
      exact this
    · have hbit0 : a.val / 2 ^ j % 2 = 0 := by omega
      refine muB a b o j ⟨by simp, by omega, by omega, by simp [bitV, hbit0], trivial⟩ hs fun ac cY aY hs2 => ?_
      rw [wrap_id (by omega) (by omega)] at hs2
      refine ih ⟨((j : Int) - 1, cleanU (o + o)), by omega, by omega, ?_⟩ (by show ((j : Int) - 1 + 1).toNat < ((j : Int) + 1).toNat; omega) ac cY aY (hs2.nx _)
      show (cleanU (o + o)).val = a.val / 2 ^ ((j : Int) - 1 + 1).toNat * b.val % rN
      rw [e2, hd, hhs, hbit0]
      have := dbl_mod (q := 0) o.val ho (.inl rfl)
      rw [Nat.zero_mul, Nat.add_zero, Nat.mod_mod] at this
      exact this
  · have hi : i = -1 := by omega
    subst hi
    refine run_end2 envK_ok hk hF (muX_end a b o (-1)) ⟨by decide, trivial⟩ (fun y v hd => ?_) hs
    refine ob_ob (o := .fr o) (o' := .fr (Fin.ofNat B4 (a.val * b.val % rN))) (Eq.refl 4) ?_ hd
    show o.val = (a.val * b.val % rN) % B4
    rw [Nat.mod_eq_of_lt (a := a.val * b.val % rN) (Nat.lt_trans (Nat.mod_lt _ (by decide)) (by decide)), ho]
    show a.val / 2 ^ 0 * b.val % rN = _
    rw [Nat.pow_zero, Nat.div_one]

end Go.Proofs.Ytlfllehomhcbfaa

/- The reference's Pow, walked. No conditions. -/
namespace Go.Proofs.Ytlfllehomhcbfaa

def mulU (a b : U4) : U4 := Fin.ofNat B4 (a.val * b.val % rN)
def mulUSpec : FnSpec
  | [.v (.a [.ob (.fr a)]), .v (.a [.ob (.fr b)])] => some ([b.val < rN], .v (.a [.ob (.fr (mulU a b))]), [])
  | _ => none
noncomputable def envL : Env := envK.set (addT envK.fn 72 mulUSpec)
theorem envL_ok : EnvOk Try.prog envL := env_add envK_ok 72 mulUSpec (enters_of Try.func72 rfl rfl) fun args o r es h ho => by
  unfold mulUSpec at h
  split at h
  · cases h; exact mulU_fnd _ _ ho.1
  · cases h

noncomputable def pw0 (a b : U4) : Cfg := ⟨[.code (bodyOf Try.f103)], .normal, initSt Try.f103.ntmps [.v (.a [.ob (.fr a)]), .v (.a [.ob (.fr b)])]⟩
--@env envL envL_ok
noncomputable def pwIn_k : List KI := (run envL false 3000 ((fun (a b : U4) => (pw0 a b : Cfg)) default default) []).cfg.k
theorem pwIn_at (a b : U4) : runAt envL false 3000 ((pw0 a b : Cfg)) [] [2, 3, 4, 5, 6] [16, 32, 48, 80] [] = some ⟨[((0 : Int) ≤ (1 : Int)), ((1 : Int) < (18446744073709551616 : Int)), ((0 : Int) ≤ (0 : Int)), ((0 : Int) < (18446744073709551616 : Int)), ((0 : Int) ≤ (0 : Int)), ((0 : Int) < (18446744073709551616 : Int)), ((0 : Int) ≤ (0 : Int)), ((0 : Int) < (18446744073709551616 : Int))], Exit.normal, [(SV.v (V1.c (It.ptr 16 0))), (SV.v (V1.c (It.ptr 32 0))), (SV.v (V1.c (It.ptr 48 0))), (SV.v (V1.c (It.ptr 80 0))), (SV.v (V1.c (It.int IntKind.i64 (255 : Int))))], [(Option.some (En.fl [(It.ob (Ob.fr a))])), (Option.some (En.fl [(It.ob (Ob.fr b))])), (Option.some (En.fl [(It.ob (Ob.fr (0 : U4)))])), (Option.some (En.fl [(It.ob (Ob.fr (Fin.ofNat B4 1)))]))], 23, 128, []⟩ := by kernel_rfl
theorem pwIn_hk (a b : U4) : (run envL false 3000 ((pw0 a b : Cfg)) []).cfg.k = pwIn_k := by kernel_rfl
theorem pwIn (a b : U4) {w0 : World} {F0 : Nat → Prop} {K : Kp} {ac : List Act} {Q : Exit → Act → World → Prop} {cX : Ctx} {aX : Act} (ho : AllP [((0 : Int) ≤ (1 : Int)), ((1 : Int) < (18446744073709551616 : Int)), ((0 : Int) ≤ (0 : Int)), ((0 : Int) < (18446744073709551616 : Int)), ((0 : Int) ≤ (0 : Int)), ((0 : Int) < (18446744073709551616 : Int)), ((0 : Int) ≤ (0 : Int)), ((0 : Int) < (18446744073709551616 : Int))]) (hs : Sim w0 F0 K ac (((pw0 a b : Cfg)).σ) cX aX) (hK : ∀ ac cY aY, Sim w0 F0 K ac (mkSt 23 [2, 3, 4, 5, 6] [(.v (.c (.ptr 16 0))), (.v (.c (.ptr 32 0))), (.v (.c (.ptr 48 0))), (.v (.c (.ptr 80 0))), (.v (.c (.int .i64 (255 : Int))))] [16, 32, 48, 80] [(some (.fl [(.ob (.fr a))])), (some (.fl [(.ob (.fr b))])), (some (.fl [(.ob (.fr (0 : U4)))])), (some (.fl [(.ob (.fr (Fin.ofNat B4 1)))]))] 128 [] []) cY aY → Wq Try.prog Q (pwIn_k) ac Exit.normal aY cY.w) : Wq Try.prog Q (((pw0 a b : Cfg)).k) ac ((pw0 a b : Cfg)).x aX cX.w :=
  run_at envL_ok (pwIn_at a b) (pwIn_hk a b) ho hs hK
noncomputable def pwS (a b o : U4) (i : Int) : St := mkSt 23 [2, 3, 4, 5, 6] [(SV.v (V1.c (It.ptr 16 0))), (SV.v (V1.c (It.ptr 32 0))), (SV.v (V1.c (It.ptr 48 0))), (SV.v (V1.c (It.ptr 80 0))), .v (.c (.int .i64 i))] [16, 32, 48, 80] [(Option.some (En.fl [(It.ob (Ob.fr a))])), (Option.some (En.fl [(It.ob (Ob.fr b))])), (Option.some (En.fl [(It.ob (Ob.fr (0 : U4)))])), some (.fl [.ob (.fr o)])] 128 [] []
theorem pwA_hk (a b o : U4) (i : Int) : (run envL false 3000 ((⟨lpIn pwIn_k, .normal, pwS a b o i⟩ : Cfg)) [true, true]).cfg.k = lpBk pwIn_k := by kernel_rfl
theorem pwA (a b o : U4) (i : Int) {w0 : World} {F0 : Nat → Prop} {K : Kp} {ac : List Act} {Q : Exit → Act → World → Prop} {cX : Ctx} {aX : Act} (ho : AllP [((decide (i ≥ (0 : Int))) = true), ((Fin.val o) < rN), ((0 : Int) ≤ i), (i < (256 : Int)), (((bitV b (i).toNat) == (1 : Int)) = true), ((Fin.val a) < rN)]) (hs : Sim w0 F0 K ac (pwS a b o i) cX aX) (hK : ∀ ac cY aY, Sim w0 F0 K ac (mkSt 23 [2, 3, 4, 5, 6] [(.v (.c (.ptr 16 0))), (.v (.c (.ptr 32 0))), (.v (.c (.ptr 48 0))), (.v (.c (.ptr 80 0))), (.v (.c (.int .i64 (IntKind.wrap .i64 (i - (1 : Int))))))] [16, 32, 48, 80] [(some (.fl [(.ob (.fr a))])), (some (.fl [(.ob (.fr b))])), (some (.fl [(.ob (.fr (0 : U4)))])), (some (.fl [(.ob (.fr (mulU (mulU o o) a)))]))] 400 [] []) cY aY → Wq Try.prog Q (lpBk pwIn_k) ac Exit.normal aY cY.w) : Wq Try.prog Q (lpIn pwIn_k) ac .normal aX cX.w :=
  run_at2 (o := ⟨_, _, _, _, _, _, _⟩) envL_ok (by kernel_rfl) (pwA_hk a b o i) ho hs hK
theorem pwB_hk (a b o : U4) (i : Int) : (run envL false 3000 ((⟨lpIn pwIn_k, .normal, pwS a b o i⟩ : Cfg)) [true, false]).cfg.k = lpBk pwIn_k := by kernel_rfl
theorem pwB (a b o : U4) (i : Int) {w0 : World} {F0 : Nat → Prop} {K : Kp} {ac : List Act} {Q : Exit → Act → World → Prop} {cX : Ctx} {aX : Act} (ho : AllP [((decide (i ≥ (0 : Int))) = true), ((Fin.val o) < rN), ((0 : Int) ≤ i), (i < (256 : Int)), (((bitV b (i).toNat) == (1 : Int)) = false)]) (hs : Sim w0 F0 K ac (pwS a b o i) cX aX) (hK : ∀ ac cY aY, Sim w0 F0 K ac (mkSt 23 [2, 3, 4, 5, 6] [(.v (.c (.ptr 16 0))), (.v (.c (.ptr 32 0))), (.v (.c (.ptr 48 0))), (.v (.c (.ptr 80 0))), (.v (.c (.int .i64 (IntKind.wrap .i64 (i - (1 : Int))))))] [16, 32, 48, 80] [(some (.fl [(.ob (.fr a))])), (some (.fl [(.ob (.fr b))])), (some (.fl [(.ob (.fr (0 : U4)))])), (some (.fl [(.ob (.fr (mulU o o)))]))] 336 [] []) cY aY → Wq Try.prog Q (lpBk pwIn_k) ac Exit.normal aY cY.w) : Wq Try.prog Q (lpIn pwIn_k) ac .normal aX cX.w :=
  run_at2 (o := ⟨_, _, _, _, _, _, _⟩) envL_ok (by kernel_rfl) (pwB_hk a b o i) ho hs hK
theorem pwX_end (a b o : U4) (i : Int) : runEnd envL Try.f103 false 3000 (⟨lpIn pwIn_k, .normal, pwS a b o i⟩) [false] [] [] = (Option.some ([((decide (i ≥ (0 : Int))) = false)], ((SV.v (V1.a [(It.ob (Ob.fr o))])), []))) := by kernel_rfl
end Go.Proofs.Ytlfllehomhcbfaa

/- The reference's Pow: contract. No conditions. -/
namespace Go.Proofs.Ytlfllehomhcbfaa

def powN (x : Fr) : Nat → Fr
  | 0 => 1
  | n + 1 => powN x n * x

theorem powN_add (x : Fr) (m : Nat) : ∀ n, powN x (m + n) = powN x m * powN x n
  | 0 => (Fin.mul_one _).symm
  | n + 1 => by
    show powN x (m + n) * x = powN x m * (powN x n * x)
    rw [powN_add x m n, Fin.mul_assoc]

theorem mulU_out (x y : Fr) : mulU (outF x) (outF y) = outF (x * y) := by
  apply Fin.ext
  rw [outF_val]
  show ((outF x).val * (outF y).val % rN) % B4 = (x * y).val
  rw [outF_val, outF_val]
  exact Nat.mod_eq_of_lt (Nat.lt_trans (Nat.mod_lt _ (by decide)) (by decide))

theorem outF_lt (x : Fr) : (outF x).val < rN := by rw [outF_val]; exact x.isLt

theorem out_one1 : outF 1 = Fin.ofNat B4 1 := by
  apply Fin.ext
  rw [outF_val]
  rfl

theorem pow103_fnd (x : Fr) (e : U4) : FnD Try.prog 103 [.v (.a [.ob (.fr (outF x))]), .v (.a [.ob (.fr e)])] (.v (.a [.ob (.fr (outF (powN x e.val)))])) [] := by
  refine fn_start (fn := Try.f103) (c := bodyOf Try.f103) Try.func103 rfl rfl fun cx a0 hk hF hs => ?_
  refine pwIn (outF x) e ⟨by decide, by decide, by decide, by decide, by decide, by decide, by decide, by decide, trivial⟩ hs fun ac cY aY hs1 => ?_
  rw [← out_one1] at hs1
  refine loop_rule (ι := { p : Int × Fr // -1 ≤ p.1 ∧ p.1 ≤ 255 ∧ p.2 = powN x (e.val / 2 ^ (p.1 + 1).toNat) }) (fun p => pwS (outF x) e (outF p.1.2) p.1.1) (fun p => (p.1.1 + 1).toNat) (c := lpC pwIn_k) (k := lpR pwIn_k) (by kernel_rfl) (fun p ih ac cY aY hs => ?_)
    ⟨(255, 1), by decide, by decide, by
      show (1 : Fr) = powN x (e.val / 2 ^ 256)
      have he : e.val < 2 ^ 256 := e.isLt
      rw [Nat.div_eq_of_lt he]; rfl⟩ hs1
  obtain ⟨⟨i, o⟩, hi1, hi2, ho⟩ := p
  simp only at ih hs ho hi1 hi2
  by_cases h : 0 ≤ i
  · obtain ⟨j, rfl⟩ := Int.eq_ofNat_of_zero_le h
    have e1 : ((j : Int) + 1).toNat = j + 1 := by omega
    rw [e1] at ho
    have hhs := half_step e.val j
    have e2 : ((j : Int) - 1 + 1).toNat = j := by omega
    by_cases hbit : e.val / 2 ^ j % 2 = 1
    · refine pwA (outF x) e (outF o) j ⟨by simp, outF_lt o, by omega, by omega, by simp [bitV, hbit], outF_lt x, trivial⟩ hs fun ac cY aY hs2 => ?_
      rw [wrap_id (by omega) (by omega), mulU_out, mulU_out] at hs2
      refine ih ⟨((j : Int) - 1, o * o * x), by omega, by omega, ?_⟩ (by show ((j : Int) - 1 + 1).toNat < ((j : Int) + 1).toNat; omega) ac cY aY (hs2.nx _)
      show o * o * x = powN x (e.val / 2 ^ ((j : Int) - 1 + 1).toNat)
      rw [e2, hhs, hbit, Nat.two_mul]
      show _ = powN x (e.val / 2 ^ (j + 1) + e.val / 2 ^ (j + 1)) * x
      rw [powN_add, ← ho]
    · have hbit0 : e.val / 2 ^ j % 2 = 0 := by omega
      refine pwB (outF x) e (outF o) j ⟨by simp, outF_lt o, by omega, by omega, by simp [bitV, hbit0], trivial⟩ hs fun ac cY aY hs2 => ?_
      rw [wrap_id (by omega) (by omega), mulU_out] at hs2
      refine ih ⟨((j : Int) - 1, o * o), by omega, by omega, ?_⟩ (by show ((j : Int) - 1 + 1).toNat < ((j : Int) + 1).toNat; omega) ac cY aY (hs2.nx _)
      show o * o = powN x (e.val / 2 ^ ((j : Int) - 1 + 1).toNat)
      rw [e2, hhs, hbit0, Nat.add_zero, Nat.two_mul, powN_add, ← ho]
  · have hi : i = -1 := by omega
    subst hi
    refine run_end2 envL_ok hk hF (pwX_end (outF x) e (outF o) (-1)) ⟨by decide, trivial⟩ (fun y v hd => ?_) hs
    have : o = powN x e.val := by
      rw [ho]
      show powN x (e.val / 2 ^ 0) = _
      rw [Nat.pow_zero, Nat.div_one]
    rw [← this]
    exact hd

end Go.Proofs.Ytlfllehomhcbfaa

/- The reference's Root, walked. No conditions. -/
namespace Go.Proofs.Ytlfllehomhcbfaa

def powU (a : U4) (e : Nat) : U4 := outF (powN (inF a) e)
def num4i (a b c d : Int) : Nat := (a + 18446744073709551616 * b + 340282366920938463463374607431768211456 * c + 6277101735386680763835789423207666416102355444464034512896 * d).toNat
def powSpec : FnSpec
  | [.v (.a [.ob (.fr a)]), .v (.a [.int .u64 e0, .int .u64 e1, .int .u64 e2, .int .u64 e3])] =>
    some ([a.val < rN, 0 ≤ e0, e0 < 18446744073709551616, 0 ≤ e1, e1 < 18446744073709551616, 0 ≤ e2, e2 < 18446744073709551616, 0 ≤ e3, e3 < 18446744073709551616], .v (.a [.ob (.fr (powU a (num4i e0 e1 e2 e3)))]), [])
  | _ => none

theorem num4i_lt {a b c d : Int} (ha : 0 ≤ a) (ha1 : a < 18446744073709551616) (hb : 0 ≤ b) (hb1 : b < 18446744073709551616) (hc : 0 ≤ c) (hc1 : c < 18446744073709551616) (hd : 0 ≤ d) (hd1 : d < 18446744073709551616) : num4i a b c d < B4 ∧ ((num4i a b c d : Nat) : Int) = a + 18446744073709551616 * b + 340282366920938463463374607431768211456 * c + 6277101735386680763835789423207666416102355444464034512896 * d := by
  unfold num4i B4
  omega

theorem out_in {a : U4} (h : a.val < rN) : outF (inF a) = a := by
  apply Fin.ext
  rw [outF_val]
  exact Nat.mod_eq_of_lt h

noncomputable def envM1 : Env := envL.set (addT envL.fn 103 powSpec)
theorem envM1_ok : EnvOk Try.prog envM1 := env_add envL_ok 103 powSpec (enters_of Try.func103 rfl rfl) fun args o r es h ho => by
  unfold powSpec at h
  split at h
  · rename_i a e0 e1 e2 e3
    cases h
    obtain ⟨h0, h1, h2, h3, h4, h5, h6, h7, h8, _⟩ := ho
    obtain ⟨hlt, he⟩ := num4i_lt h1 h2 h3 h4 h5 h6 h7 h8
    have hp := pow103_fnd (inF a) (Fin.ofNat B4 (num4i e0 e1 e2 e3))
    rw [out_in h0] at hp
    have hv : (Fin.ofNat B4 (num4i e0 e1 e2 e3)).val = num4i e0 e1 e2 e3 := Nat.mod_eq_of_lt hlt
    rw [hv] at hp
    refine hp.conv (fun x vs hd => ?_) (fun _ _ h => h)
    cases hd with | cons ha hd => cases hd with | cons hb hd =>
    cases hd
    refine .cons ha (.cons (ints_ob (Eq.refl 4) ?_ hb) .nil)
    show limb (Fin.ofNat B4 (num4i e0 e1 e2 e3)).val 0 = _ ∧ limb (Fin.ofNat B4 (num4i e0 e1 e2 e3)).val 1 = _ ∧ limb (Fin.ofNat B4 (num4i e0 e1 e2 e3)).val 2 = _ ∧ limb (Fin.ofNat B4 (num4i e0 e1 e2 e3)).val 3 = _
    rw [hv]
    exact limbsAre4 h1 h2 h3 h4 h5 h6 h7 h8 he
  · cases h

noncomputable def rt0 (log : Int) : Cfg := ⟨[.code (bodyOf Try.f68)], .normal, initSt Try.f68.ntmps [.v (.c (.int .i64 log))]⟩
--@env envM1 envM1_ok
noncomputable def rtIn_k : List KI := (run envM1 false 3000 ((fun (log : Int) => (rt0 log : Cfg)) default) []).cfg.k
theorem rtIn_at (log : Int) : runAt envM1 false 3000 ((rt0 log : Cfg)) [] [2, 4, 5] [16, 688] [] = some ⟨[((0 : Int) ≤ (0 : Int)), ((0 : Int) < (4 : Int)), (0 < 4), ((4294967296 : Int) ≠ (0 : Int)), ((0 : Int) ≤ (1 : Int)), ((1 : Int) < (4 : Int)), (1 < 4), ((4294967296 : Int) ≠ (0 : Int)), ((0 : Int) ≤ (0 : Int)), ((0 : Int) < (4 : Int)), ((0 : Int) ≤ (1 : Int)), ((1 : Int) < (4 : Int)), ((4294967296 : Int) ≠ (0 : Int)), ((0 : Int) ≤ (2 : Int)), ((2 : Int) < (4 : Int)), ((4294967296 : Int) ≠ (0 : Int)), ((0 : Int) ≤ (1 : Int)), ((1 : Int) < (4 : Int)), ((0 : Int) ≤ (2 : Int)), ((2 : Int) < (4 : Int)), ((4294967296 : Int) ≠ (0 : Int)), ((0 : Int) ≤ (3 : Int)), ((3 : Int) < (4 : Int)), ((4294967296 : Int) ≠ (0 : Int)), ((0 : Int) ≤ (2 : Int)), ((2 : Int) < (4 : Int)), ((0 : Int) ≤ (3 : Int)), ((3 : Int) < (4 : Int)), ((4294967296 : Int) ≠ (0 : Int)), ((0 : Int) ≤ (3 : Int)), ((3 : Int) < (4 : Int)), ((0 : Int) ≤ (7 : Int)), ((7 : Int) < (18446744073709551616 : Int)), ((0 : Int) ≤ (0 : Int)), ((0 : Int) < (18446744073709551616 : Int)), ((0 : Int) ≤ (0 : Int)), ((0 : Int) < (18446744073709551616 : Int)), ((0 : Int) ≤ (0 : Int)), ((0 : Int) < (18446744073709551616 : Int)), (7 < rN), ((0 : Int) ≤ (18446282274530918399 : Int)), ((18446282274530918399 : Int) < (18446744073709551616 : Int)), ((0 : Int) ≤ (694073334983140354 : Int)), ((694073334983140354 : Int) < (18446744073709551616 : Int)), ((0 : Int) ≤ (2998690675949164552 : Int)), ((2998690675949164552 : Int) < (18446744073709551616 : Int)), ((0 : Int) ≤ (1944954707 : Int)), ((1944954707 : Int) < (18446744073709551616 : Int))], Exit.normal, [(SV.v (V1.c (It.ptr 16 0))), (SV.v (V1.c (It.ptr 688 0))), (SV.v (V1.c (It.int IntKind.i64 log)))], [(Option.some (En.fl [(It.ob (Ob.fr (0 : U4)))])), (Option.some (En.fl [(It.ob (Ob.fr (powU (Fin.ofNat B4 7) 12208678567578594777604504606729831043093128246378069236549469339647)))]))], 50, 752, []⟩ := by kernel_rfl
theorem rtIn_hk (log : Int) : (run envM1 false 3000 ((rt0 log : Cfg)) []).cfg.k = rtIn_k := by kernel_rfl
theorem rtIn (log : Int) {w0 : World} {F0 : Nat → Prop} {K : Kp} {ac : List Act} {Q : Exit → Act → World → Prop} {cX : Ctx} {aX : Act} (ho : AllP [((0 : Int) ≤ (0 : Int)), ((0 : Int) < (4 : Int)), (0 < 4), ((4294967296 : Int) ≠ (0 : Int)), ((0 : Int) ≤ (1 : Int)), ((1 : Int) < (4 : Int)), (1 < 4), ((4294967296 : Int) ≠ (0 : Int)), ((0 : Int) ≤ (0 : Int)), ((0 : Int) < (4 : Int)), ((0 : Int) ≤ (1 : Int)), ((1 : Int) < (4 : Int)), ((4294967296 : Int) ≠ (0 : Int)), ((0 : Int) ≤ (2 : Int)), ((2 : Int) < (4 : Int)), ((4294967296 : Int) ≠ (0 : Int)), ((0 : Int) ≤ (1 : Int)), ((1 : Int) < (4 : Int)), ((0 : Int) ≤ (2 : Int)), ((2 : Int) < (4 : Int)), ((4294967296 : Int) ≠ (0 : Int)), ((0 : Int) ≤ (3 : Int)), ((3 : Int) < (4 : Int)), ((4294967296 : Int) ≠ (0 : Int)), ((0 : Int) ≤ (2 : Int)), ((2 : Int) < (4 : Int)), ((0 : Int) ≤ (3 : Int)), ((3 : Int) < (4 : Int)), ((4294967296 : Int) ≠ (0 : Int)), ((0 : Int) ≤ (3 : Int)), ((3 : Int) < (4 : Int)), ((0 : Int) ≤ (7 : Int)), ((7 : Int) < (18446744073709551616 : Int)), ((0 : Int) ≤ (0 : Int)), ((0 : Int) < (18446744073709551616 : Int)), ((0 : Int) ≤ (0 : Int)), ((0 : Int) < (18446744073709551616 : Int)), ((0 : Int) ≤ (0 : Int)), ((0 : Int) < (18446744073709551616 : Int)), (7 < rN), ((0 : Int) ≤ (18446282274530918399 : Int)), ((18446282274530918399 : Int) < (18446744073709551616 : Int)), ((0 : Int) ≤ (694073334983140354 : Int)), ((694073334983140354 : Int) < (18446744073709551616 : Int)), ((0 : Int) ≤ (2998690675949164552 : Int)), ((2998690675949164552 : Int) < (18446744073709551616 : Int)), ((0 : Int) ≤ (1944954707 : Int)), ((1944954707 : Int) < (18446744073709551616 : Int))]) (hs : Sim w0 F0 K ac (((rt0 log : Cfg)).σ) cX aX) (hK : ∀ ac cY aY, Sim w0 F0 K ac (mkSt 50 [2, 4, 5] [(.v (.c (.ptr 16 0))), (.v (.c (.ptr 688 0))), (.v (.c (.int .i64 log)))] [16, 688] [(some (.fl [(.ob (.fr (0 : U4)))])), (some (.fl [(.ob (.fr (powU (Fin.ofNat B4 7) 12208678567578594777604504606729831043093128246378069236549469339647)))]))] 752 [] []) cY aY → Wq Try.prog Q (rtIn_k) ac Exit.normal aY cY.w) : Wq Try.prog Q (((rt0 log : Cfg)).k) ac ((rt0 log : Cfg)).x aX cX.w :=
  run_at envM1_ok (rtIn_at log) (rtIn_hk log) ho hs hK
noncomputable def rtS (i : Int) (w : U4) : St := mkSt 50 [2, 4, 5] [(SV.v (V1.c (It.ptr 16 0))), (SV.v (V1.c (It.ptr 688 0))), .v (.c (.int .i64 i))] [16, 688] [(Option.some (En.fl [(It.ob (Ob.fr (0 : U4)))])), some (.fl [.ob (.fr w)])] 752 [] []
theorem rtN_hk (i : Int) (w : U4) : (run envM1 false 3000 ((⟨lpIn rtIn_k, .normal, rtS i w⟩ : Cfg)) [true]).cfg.k = lpBk rtIn_k := by kernel_rfl
theorem rtN (i : Int) (w : U4) {w0 : World} {F0 : Nat → Prop} {K : Kp} {ac : List Act} {Q : Exit → Act → World → Prop} {cX : Ctx} {aX : Act} (ho : AllP [((decide (i < (32 : Int))) = true), ((Fin.val w) < rN)]) (hs : Sim w0 F0 K ac (rtS i w) cX aX) (hK : ∀ ac cY aY, Sim w0 F0 K ac (mkSt 50 [2, 4, 5] [(.v (.c (.ptr 16 0))), (.v (.c (.ptr 688 0))), (.v (.c (.int .i64 (IntKind.wrap .i64 (i + (1 : Int))))))] [16, 688] [(some (.fl [(.ob (.fr (0 : U4)))])), (some (.fl [(.ob (.fr (mulU w w)))]))] 896 [] []) cY aY → Wq Try.prog Q (lpBk rtIn_k) ac Exit.normal aY cY.w) : Wq Try.prog Q (lpIn rtIn_k) ac .normal aX cX.w :=
  run_at2 (o := ⟨_, _, _, _, _, _, _⟩) envM1_ok (by kernel_rfl) (rtN_hk i w) ho hs hK
theorem rtX_end (i : Int) (w : U4) : runEnd envM1 Try.f68 false 3000 (⟨lpIn rtIn_k, .normal, rtS i w⟩) [false] [] [] = (Option.some ([((decide (i < (32 : Int))) = false)], ((SV.v (V1.a [(It.ob (Ob.fr w))])), []))) := by kernel_rfl
end Go.Proofs.Ytlfllehomhcbfaa

/- The reference's Root: contract. No conditions. -/
namespace Go.Proofs.Ytlfllehomhcbfaa

/-- A power of a number, modulo another one, bit by bit. -/
def pwm (r x : Nat) : Nat → Nat → Nat
  | 0, _ => 1 % r
  | f + 1, e => (pwm r x f (e / 2) * pwm r x f (e / 2) % r) * (if e % 2 = 1 then x else 1) % r

theorem powN_val (x : Fr) : ∀ n, (powN x n).val = x.val ^ n % rN
  | 0 => rfl
  | n + 1 => by
    show ((powN x n).val * x.val) % rN = _
    rw [powN_val x n, Nat.pow_succ, Nat.mod_mul_mod]

theorem pwm_eq (r x : Nat) : ∀ f e, e < 2 ^ f → pwm r x f e = x ^ e % r
  | 0, e, h => by
    have : e = 0 := by omega
    subst this
    rfl
  | f + 1, e, h => by
    show (pwm r x f (e / 2) * pwm r x f (e / 2) % r) * (if e % 2 = 1 then x else 1) % r = _
    rw [pwm_eq r x f (e / 2) (by rw [Nat.pow_succ] at h; omega), ← Nat.mul_mod, Nat.mod_mul_mod, ← Nat.pow_add]
    by_cases h1 : e % 2 = 1
    · rw [if_pos h1, ← Nat.pow_succ]
      congr 2
      omega
    · rw [if_neg h1, Nat.mul_one]
      congr 2
      omega

theorem root_num : pwm rN 7 224 12208678567578594777604504606729831043093128246378069236549469339647 = 10238227357739495823651030575849232062558860180284477541189508159991286009131 := by kernel_rfl

theorem root_pow : powU (Fin.ofNat B4 7) 12208678567578594777604504606729831043093128246378069236549469339647 = outF rootF := by
  apply Fin.ext
  unfold powU
  rw [outF_val, outF_val, powN_val]
  have h7 : (inF (Fin.ofNat B4 7)).val = 7 := by rw [inF_ofNat (by decide)]; rfl
  have hr : rootF.val = 10238227357739495823651030575849232062558860180284477541189508159991286009131 := by kernel_rfl
  rw [h7, hr, ← root_num, pwm_eq _ _ _ _ (by decide)]

theorem refRoot_fnd (log : Int) (h0 : 0 ≤ log) (h1 : log ≤ 16) : FnD Try.prog 68 [.v (.c (.int .i64 log))] (.v (.a [.ob (.fr (outF (sqN rootF (32 - log).toNat)))])) [] := by
  refine fn_start (fn := Try.f68) (c := bodyOf Try.f68) Try.func68 rfl rfl fun x a hk hF hs => ?_
  refine rtIn log (by and_intros <;> first | trivial | decide) hs fun ac cY aY hs1 => ?_
  rw [root_pow] at hs1
  refine loop_rule (ι := { p : Int × Nat // p.1 = log + p.2 ∧ p.1 ≤ 32 }) (fun p => rtS p.1.1 (outF (sqN rootF p.1.2))) (fun p => (32 - p.1.1).toNat) (c := lpC rtIn_k) (k := lpR rtIn_k) (by kernel_rfl) (fun p ih ac cY aY hs => ?_) ⟨(log, 0), by simp, by show log ≤ 32; omega⟩ hs1
  obtain ⟨⟨i, n⟩, hi, hi2⟩ := p
  simp only at ih hs hi hi2
  by_cases h : i < 32
  · refine rtN i (outF (sqN rootF n)) ⟨by simp [h], outF_lt _, trivial⟩ hs fun ac cY aY hs2 => ?_
    rw [wrap_id (by omega) (by omega), mulU_out] at hs2
    exact ih ⟨(i + 1, n + 1), by show i + 1 = log + ((n + 1 : Nat) : Int); omega, by show i + 1 ≤ 32; omega⟩ (by show (32 - (i + 1)).toNat < (32 - i).toNat; omega) ac cY aY (hs2.nx _)
  · refine run_end2 envM1_ok hk hF (rtX_end i (outF (sqN rootF n))) ⟨by simp [h], trivial⟩ (fun y v hd => ?_) hs
    have e : (32 - log).toNat = n := by omega
    rw [e]
    exact hd

end Go.Proofs.Ytlfllehomhcbfaa

/- The reference's New, what a domain must be, walked. No conditions. -/
namespace Go.Proofs.Ytlfllehomhcbfaa

def rootSpec2 : FnSpec
  | [.v (.c (.int .i64 log))] => some ([0 ≤ log, log ≤ 16], .v (.a [.ob (.fr (outF (sqN rootF (32 - log).toNat)))]), [])
  | _ => none
noncomputable def envM2 : Env := envM1.set (addT envM1.fn 68 rootSpec2)
theorem envM2_ok : EnvOk Try.prog envM2 := env_add envM1_ok 68 rootSpec2 (enters_of Try.func68 rfl rfl) fun args o r es h ho => by
  unfold rootSpec2 at h
  split at h
  · cases h; exact refRoot_fnd _ ho.1 ho.2.1
  · cases h
def newSpec : FnSpec
  | [.v (.c (.int .i64 log))] => some ([], newV log, [])
  | _ => none
noncomputable def envM3 : Env := envM2.set (addT envM2.fn 21 newSpec)
theorem envM3_ok : EnvOk Try.prog envM3 := env_add envM2_ok 21 newSpec (enters_of Try.func21 rfl rfl) fun args o r es h ho => by
  unfold newSpec at h
  split at h
  · cases h; exact new_fnd _
  · cases h

--@env envM2 envM2_ok
theorem rnA (log : Int) : fnRes envM2 Try.f22 3000 [.v (.c (.int .i64 log))] [true] [] [] = (Option.some ([((decide (log < (0 : Int))) = true)], ((SV.t [(V1.a [(It.int IntKind.i64 (0 : Int)), (It.ob (Ob.fr (0 : U4)))]), (V1.c (It.int IntKind.i64 (40 : Int)))]), []))) := by kernel_rfl
theorem rnB (log : Int) : fnRes envM2 Try.f22 3000 [.v (.c (.int .i64 log))] [false, true] [] [] = (Option.some ([((decide (log < (0 : Int))) = false), ((decide (log > (16 : Int))) = true)], ((SV.t [(V1.a [(It.int IntKind.i64 (0 : Int)), (It.ob (Ob.fr (0 : U4)))]), (V1.c (It.int IntKind.i64 (40 : Int)))]), []))) := by kernel_rfl
theorem rnC (log : Int) : fnRes envM2 Try.f22 3000 [.v (.c (.int .i64 log))] [false, false] [] [] = (Option.some ([((decide (log < (0 : Int))) = false), ((decide (log > (16 : Int))) = false), ((0 : Int) ≤ log), (log ≤ (16 : Int))], ((SV.t [(V1.a [(It.int IntKind.i64 log), (It.ob (Ob.fr (outF (sqN rootF (((32 : Int) - log)).toNat))))]), (V1.c (It.int IntKind.i64 (0 : Int)))]), []))) := by kernel_rfl

theorem new22_fnd (log : Int) : FnD Try.prog 22 [.v (.c (.int .i64 log))] (newV log) [] := by
  by_cases h1 : log < 0
  · have hn : okLog log = false := by simp [okLog]; omega
    unfold newV newRoot
    rw [hn]
    exact fn_sound envM2_ok Try.func22 (rnA log) (by simp [AllP]; omega)
  by_cases h2 : log > 16
  · have hn : okLog log = false := by simp [okLog]; omega
    unfold newV newRoot
    rw [hn]
    exact fn_sound envM2_ok Try.func22 (rnB log) (by simp [AllP]; omega)
  have hn : okLog log = true := by simp [okLog]; omega
  unfold newV newRoot
  rw [hn]
  exact fn_sound envM2_ok Try.func22 (rnC log) (by simp [AllP]; omega)

noncomputable def envM4 : Env := envM3.set (addT envM3.fn 22 newSpec)
theorem envM4_ok : EnvOk Try.prog envM4 := env_add envM3_ok 22 newSpec (enters_of Try.func22 rfl rfl) fun args o r es h ho => by
  unfold newSpec at h
  split at h
  · cases h; exact new22_fnd _
  · cases h

--@env envM4 envM4_ok
theorem rgA (log : Int) (w : U4) : fnRes envM4 Try.f23 3000 [.v (.a [.int .i64 log, .ob (.fr w)])] [true] [] [] = (Option.some ([(((ite ((okLog log) = true) (0 : Int) (40 : Int)) == (0 : Int)) = true)], ((SV.v (V1.c (It.bool (ite (true = true) (Bool.and ((ite ((okLog log) = true) log (0 : Int)) == log) (decide ((newRoot log) = w))) (Bool.not (Bool.and ((ite ((okLog log) = true) log (0 : Int)) == log) (decide ((newRoot log) = w)))))))), []))) := by kernel_rfl
theorem rgB (log : Int) (w : U4) : fnRes envM4 Try.f23 3000 [.v (.a [.int .i64 log, .ob (.fr w)])] [false] [] [] = (Option.some ([(((ite ((okLog log) = true) (0 : Int) (40 : Int)) == (0 : Int)) = false)], ((SV.v (V1.c (It.lit false))), []))) := by kernel_rfl
theorem rhA (log : Int) (w : U4) : fnRes envM4 Try.f24 3000 [.v (.a [.int .i64 log, .ob (.fr w)])] [true] [] [] = (Option.some ([(((ite ((okLog log) = true) (0 : Int) (40 : Int)) == (0 : Int)) = true)], ((SV.v (V1.c (It.bool (ite (true = true) (Bool.and (log == (ite ((okLog log) = true) log (0 : Int))) (decide (w = (newRoot log)))) (Bool.not (Bool.and (log == (ite ((okLog log) = true) log (0 : Int))) (decide (w = (newRoot log))))))))), []))) := by kernel_rfl
theorem rhB (log : Int) (w : U4) : fnRes envM4 Try.f24 3000 [.v (.a [.int .i64 log, .ob (.fr w)])] [false] [] [] = (Option.some ([(((ite ((okLog log) = true) (0 : Int) (40 : Int)) == (0 : Int)) = false)], ((SV.v (V1.c (It.lit false))), []))) := by kernel_rfl
theorem alA  : fnRes envM4 Try.f25 3000 [] [true] [] [] = (Option.some ([(((0 : Int) == (0 : Int)) = true), ((0 : Int) ≤ (1 : Int)), ((1 : Int) < (18446744073709551616 : Int)), ((0 : Int) ≤ (0 : Int)), ((0 : Int) < (18446744073709551616 : Int)), ((0 : Int) ≤ (0 : Int)), ((0 : Int) < (18446744073709551616 : Int)), ((0 : Int) ≤ (0 : Int)), ((0 : Int) < (18446744073709551616 : Int))], ((SV.v (V1.c (It.bool (ite (true = true) (decide ((newRoot (0 : Int)) = (Fin.ofNat B4 1))) (Bool.not (decide ((newRoot (0 : Int)) = (Fin.ofNat B4 1)))))))), []))) := by kernel_rfl
end Go.Proofs.Ytlfllehomhcbfaa

/- Which domains there may be: contracts. No conditions. -/
namespace Go.Proofs.Ytlfllehomhcbfaa

def domOk (log : Int) (w : U4) : Bool := okLog log && decide (newRoot log = w)

theorem right23_fnd (log : Int) (w : U4) : FnD Try.prog 23 [.v (.a [.int .i64 log, .ob (.fr w)])] (.v (.c (.bool (domOk log w)))) [] := by
  cases h : okLog log with
  | true =>
    refine (fn_sound envM4_ok Try.func23 (rgA log w) (by rw [h]; exact ⟨rfl, trivial⟩)).conv (fun _ _ h => h) fun y v hd => ?_
    rw [h, if_pos rfl, if_pos rfl, beq_self_eq_true, Bool.true_and] at hd
    unfold domOk
    rw [h, Bool.true_and]
    exact hd
  | false =>
    refine (fn_sound envM4_ok Try.func23 (rgB log w) (by rw [h]; exact ⟨rfl, trivial⟩)).conv (fun _ _ h => h) fun y v hd => ?_
    unfold domOk
    rw [h, Bool.false_and]
    exact lit_bool rfl hd

theorem right24_fnd (log : Int) (w : U4) : FnD Try.prog 24 [.v (.a [.int .i64 log, .ob (.fr w)])] (.v (.c (.bool (domOk log w)))) [] := by
  cases h : okLog log with
  | true =>
    refine (fn_sound envM4_ok Try.func24 (rhA log w) (by rw [h]; exact ⟨rfl, trivial⟩)).conv (fun _ _ h => h) fun y v hd => ?_
    rw [h, if_pos rfl, if_pos rfl, beq_self_eq_true, Bool.true_and] at hd
    unfold domOk
    rw [h, Bool.true_and]
    have e : decide (w = newRoot log) = decide (newRoot log = w) := by
      by_cases hw : w = newRoot log
      · rw [decide_eq_true hw, decide_eq_true hw.symm]
      · rw [decide_eq_false hw, decide_eq_false (fun h => hw h.symm)]
    rw [← e]
    exact hd
  | false =>
    refine (fn_sound envM4_ok Try.func24 (rhB log w) (by rw [h]; exact ⟨rfl, trivial⟩)).conv (fun _ _ h => h) fun y v hd => ?_
    unfold domOk
    rw [h, Bool.false_and]
    exact lit_bool rfl hd

theorem bool_lit {x : Ctx} {b : Bool} {v : Value} (h : denS x (.v (.c (.bool b))) v) : denS x (.v (.c (.lit b))) v := by
  obtain ⟨hs, d, h⟩ := h
  exact ⟨hs, d, by cases d <;> exact h⟩

def sqm (r w : Nat) : Nat → Nat
  | 0 => w
  | n + 1 => sqm r w n * sqm r w n % r

theorem sqN_val (w : Fr) : ∀ n, (sqN w n).val = sqm rN w.val n
  | 0 => rfl
  | n + 1 => by
    show ((sqN w n).val * (sqN w n).val) % rN = sqm rN w.val n * sqm rN w.val n % rN
    rw [sqN_val w n]

theorem sqm32 : sqm rN 10238227357739495823651030575849232062558860180284477541189508159991286009131 32 = 1 := by kernel_rfl

theorem root32 : sqN rootF 32 = 1 := by
  apply Fin.ext
  rw [sqN_val]
  have hr : rootF.val = 10238227357739495823651030575849232062558860180284477541189508159991286009131 := by kernel_rfl
  rw [hr]
  exact sqm32

theorem newRoot0 : newRoot 0 = Fin.ofNat B4 1 := by
  unfold newRoot
  rw [if_pos (by decide), show ((32 : Int) - 0).toNat = 32 from rfl, root32, out_one1]

theorem alive25_fnd : FnD Try.prog 25 [] (.v (.c (.lit true))) [] := by
  refine (fn_sound envM4_ok Try.func25 alA (by and_intros <;> first | trivial | decide)).conv (fun _ _ h => h) fun y v hd => ?_
  rw [if_pos rfl, newRoot0, decide_eq_true rfl] at hd
  exact bool_lit hd

def domSpec : FnSpec
  | [.v (.a [.int .i64 log, .ob (.fr w)])] => some ([], .v (.c (.bool (domOk log w))), [])
  | _ => none
def trueSpec : FnSpec
  | [] => some ([], .v (.c (.lit true)), [])
  | _ => none
noncomputable def envM5 : Env := envM4.set (addT envM4.fn 23 domSpec)
theorem envM5_ok : EnvOk Try.prog envM5 := env_add envM4_ok 23 domSpec (enters_of Try.func23 rfl rfl) fun args o r es h ho => by
  unfold domSpec at h
  split at h
  · cases h; exact right23_fnd _ _
  · cases h
noncomputable def envM6 : Env := envM5.set (addT envM5.fn 24 domSpec)
theorem envM6_ok : EnvOk Try.prog envM6 := env_add envM5_ok 24 domSpec (enters_of Try.func24 rfl rfl) fun args o r es h ho => by
  unfold domSpec at h
  split at h
  · cases h; exact right24_fnd _ _
  · cases h
noncomputable def envM : Env := envM6.set (addT envM6.fn 25 trueSpec)
theorem envM_ok : EnvOk Try.prog envM := env_add envM6_ok 25 trueSpec (enters_of Try.func25 rfl rfl) fun args o r es h ho => by
  unfold trueSpec at h
  split at h
  · cases h; exact alive25_fnd
  · cases h

end Go.Proofs.Ytlfllehomhcbfaa

/- Powers, a row of elements, the rows' comparison, walked. No conditions. -/
namespace Go.Proofs.Ytlfllehomhcbfaa

noncomputable def ps0 (w : Fr) (n : Int) : Cfg := ⟨[.code (bodyOf Try.f70)], .normal, initSt Try.f70.ntmps [.v (.a [.ob (.s w)]), .v (.c (.int .i64 n))]⟩
noncomputable def ot0 (l : List Fr) : Cfg := ⟨[.code (bodyOf Try.f69)], .normal, initSt Try.f69.ntmps [.v (.c (.sl (.s l)))]⟩
noncomputable def re0 (log : Int) (w : U4) : Cfg := ⟨[.code (bodyOf Try.f28)], .normal, initSt Try.f28.ntmps [.v (.a [.int .i64 log, .ob (.fr w)])]⟩
noncomputable def lk0 (a b : List U4) : Cfg := ⟨[.code (bodyOf Try.f27)], .normal, initSt Try.f27.ntmps [.v (.c (.sl (.fr a))), .v (.c (.sl (.fr b)))]⟩
--@env envM envM_ok
noncomputable def psIn_k : List KI := (run envM false 3000 ((fun (w : Fr) (n : Int) => (ps0 w n : Cfg)) default default) []).cfg.k
theorem psIn_at (w : Fr) (n : Int) : runAt envM false 3000 ((ps0 w n : Cfg)) [] [2, 5, 6, 12, 13] [16, 64, 112] [] = some ⟨[((0 : Int) ≤ n), (n = n), (((32 : Int) * n) ≤ (281474976710656 : Int)), (n ≤ (9223372036854775807 : Int)), ((0 : Int) ≤ (1 : Int)), ((1 : Int) < (18446744073709551616 : Int))], Exit.normal, [(SV.v (V1.c (It.ptr 16 0))), (SV.v (V1.c (It.slc 64 0 (n).toNat 4))), (SV.v (V1.c (It.ptr 112 0))), (SV.v (V1.c (It.int IntKind.i64 (((n).toNat : Nat) : Int)))), (SV.v (V1.c (It.int IntKind.i64 (0 : Int))))], [(Option.some (En.fl [(It.ob (Ob.s w))])), (Option.some (En.sq (Sq.s (List.replicate (n).toNat (0 : Fr))))), (Option.some (En.fl [(It.ob (Ob.s (Fin.ofNat rN 1)))]))], 25, 192, []⟩ := by kernel_rfl
theorem psIn_hk (w : Fr) (n : Int) : (run envM false 3000 ((ps0 w n : Cfg)) []).cfg.k = psIn_k := by kernel_rfl
theorem psIn (w : Fr) (n : Int) {w0 : World} {F0 : Nat → Prop} {K : Kp} {ac : List Act} {Q : Exit → Act → World → Prop} {cX : Ctx} {aX : Act} (ho : AllP [((0 : Int) ≤ n), (n = n), (((32 : Int) * n) ≤ (281474976710656 : Int)), (n ≤ (9223372036854775807 : Int)), ((0 : Int) ≤ (1 : Int)), ((1 : Int) < (18446744073709551616 : Int))]) (hs : Sim w0 F0 K ac (((ps0 w n : Cfg)).σ) cX aX) (hK : ∀ ac cY aY, Sim w0 F0 K ac (mkSt 25 [2, 5, 6, 12, 13] [(.v (.c (.ptr 16 0))), (.v (.c (.slc 64 0 (n).toNat 4))), (.v (.c (.ptr 112 0))), (.v (.c (.int .i64 (((n).toNat : Nat) : Int)))), (.v (.c (.int .i64 (0 : Int))))] [16, 64, 112] [(some (.fl [(.ob (.s w))])), (some (.sq (.s (List.replicate (n).toNat (0 : Fr))))), (some (.fl [(.ob (.s (Fin.ofNat rN 1)))]))] 192 [] []) cY aY → Wq Try.prog Q (psIn_k) ac Exit.normal aY cY.w) : Wq Try.prog Q (((ps0 w n : Cfg)).k) ac ((ps0 w n : Cfg)).x aX cX.w :=
  run_at envM_ok (psIn_at w n) (psIn_hk w n) ho hs hK
noncomputable def otIn_k : List KI := (run envM false 3000 ((fun (l : List Fr) => (ot0 l : Cfg)) default) []).cfg.k
theorem otIn_at (l : List Fr) : runAt envM false 3000 ((ot0 l : Cfg)) [] [3, 9, 10, 11] [64] [] = some ⟨[((0 : Int) ≤ (((List.length l) : Nat) : Int)), ((((List.length l) : Nat) : Int) = (((List.length l) : Nat) : Int)), (((32 : Int) * (((List.length l) : Nat) : Int)) ≤ (281474976710656 : Int)), ((((List.length l) : Nat) : Int) ≤ (9223372036854775807 : Int))], Exit.normal, [(SV.v (V1.c (It.slc 64 0 ((((List.length l) : Nat) : Int)).toNat 4))), (SV.v (V1.c (It.sl (Sq.s l)))), (SV.v (V1.c (It.int IntKind.i64 (((List.length l) : Nat) : Int)))), (SV.v (V1.c (It.int IntKind.i64 (0 : Int))))], [(Option.some (En.sq (Sq.fr (List.replicate ((((List.length l) : Nat) : Int)).toNat (0 : U4)))))], 23, 144, []⟩ := by kernel_rfl
theorem otIn_hk (l : List Fr) : (run envM false 3000 ((ot0 l : Cfg)) []).cfg.k = otIn_k := by kernel_rfl
theorem otIn (l : List Fr) {w0 : World} {F0 : Nat → Prop} {K : Kp} {ac : List Act} {Q : Exit → Act → World → Prop} {cX : Ctx} {aX : Act} (ho : AllP [((0 : Int) ≤ (((List.length l) : Nat) : Int)), ((((List.length l) : Nat) : Int) = (((List.length l) : Nat) : Int)), (((32 : Int) * (((List.length l) : Nat) : Int)) ≤ (281474976710656 : Int)), ((((List.length l) : Nat) : Int) ≤ (9223372036854775807 : Int))]) (hs : Sim w0 F0 K ac (((ot0 l : Cfg)).σ) cX aX) (hK : ∀ ac cY aY, Sim w0 F0 K ac (mkSt 23 [3, 9, 10, 11] [(.v (.c (.slc 64 0 ((((List.length l) : Nat) : Int)).toNat 4))), (.v (.c (.sl (.s l)))), (.v (.c (.int .i64 (((List.length l) : Nat) : Int)))), (.v (.c (.int .i64 (0 : Int))))] [64] [(some (.sq (.fr (List.replicate ((((List.length l) : Nat) : Int)).toNat (0 : U4)))))] 144 [] []) cY aY → Wq Try.prog Q (otIn_k) ac Exit.normal aY cY.w) : Wq Try.prog Q (((ot0 l : Cfg)).k) ac ((ot0 l : Cfg)).x aX cX.w :=
  run_at envM_ok (otIn_at l) (otIn_hk l) ho hs hK
noncomputable def reIn_k : List KI := (run envM false 3000 ((fun (log : Int) (w : U4) => (re0 log w : Cfg)) default default) []).cfg.k
theorem reIn_at (log : Int) (w : U4) : runAt envM false 3000 ((re0 log w : Cfg)) [] [1, 3, 4, 5] [16, 48, 96] [] = some ⟨[((0 : Int) ≤ (1 : Int)), ((1 : Int) < (18446744073709551616 : Int)), ((0 : Int) ≤ (0 : Int)), ((0 : Int) < (18446744073709551616 : Int)), ((0 : Int) ≤ (0 : Int)), ((0 : Int) < (18446744073709551616 : Int)), ((0 : Int) ≤ (0 : Int)), ((0 : Int) < (18446744073709551616 : Int))], Exit.normal, [(SV.v (V1.c (It.ptr 16 0))), (SV.v (V1.c (It.slc 48 0 0 4))), (SV.v (V1.c (It.ptr 96 0))), (SV.v (V1.c (It.int IntKind.i64 (0 : Int))))], [(Option.some (En.fl [(It.int IntKind.i64 log), (It.ob (Ob.fr w))])), (Option.some (En.sq (Sq.fr ([] : List U4)))), (Option.some (En.fl [(It.ob (Ob.fr (Fin.ofNat B4 1)))]))], 25, 144, []⟩ := by kernel_rfl
theorem reIn_hk (log : Int) (w : U4) : (run envM false 3000 ((re0 log w : Cfg)) []).cfg.k = reIn_k := by kernel_rfl
theorem reIn (log : Int) (w : U4) {w0 : World} {F0 : Nat → Prop} {K : Kp} {ac : List Act} {Q : Exit → Act → World → Prop} {cX : Ctx} {aX : Act} (ho : AllP [((0 : Int) ≤ (1 : Int)), ((1 : Int) < (18446744073709551616 : Int)), ((0 : Int) ≤ (0 : Int)), ((0 : Int) < (18446744073709551616 : Int)), ((0 : Int) ≤ (0 : Int)), ((0 : Int) < (18446744073709551616 : Int)), ((0 : Int) ≤ (0 : Int)), ((0 : Int) < (18446744073709551616 : Int))]) (hs : Sim w0 F0 K ac (((re0 log w : Cfg)).σ) cX aX) (hK : ∀ ac cY aY, Sim w0 F0 K ac (mkSt 25 [1, 3, 4, 5] [(.v (.c (.ptr 16 0))), (.v (.c (.slc 48 0 0 4))), (.v (.c (.ptr 96 0))), (.v (.c (.int .i64 (0 : Int))))] [16, 48, 96] [(some (.fl [(.int .i64 log), (.ob (.fr w))])), (some (.sq (.fr ([] : List U4)))), (some (.fl [(.ob (.fr (Fin.ofNat B4 1)))]))] 144 [] []) cY aY → Wq Try.prog Q (reIn_k) ac Exit.normal aY cY.w) : Wq Try.prog Q (((re0 log w : Cfg)).k) ac ((re0 log w : Cfg)).x aX cX.w :=
  run_at envM_ok (reIn_at log w) (reIn_hk log w) ho hs hK
noncomputable def psS (w : Fr) (N : Nat) (L : List Fr) (x : Fr) (i : Nat) : St := mkSt 25 [2, 5, 6, 12, 13] [(SV.v (V1.c (It.ptr 16 0))), .v (.c (.slc 64 0 N 4)), (SV.v (V1.c (It.ptr 112 0))), .v (.c (.int .i64 (N : Int))), .v (.c (.int .i64 (i : Int)))] [16, 64, 112] [(Option.some (En.fl [(It.ob (Ob.s w))])), some (.sq (.s L)), some (.fl [.ob (.s x)])] 192 [] []
theorem psN_hk (w : Fr) (N : Nat) (L : List Fr) (x : Fr) (i : Nat) : (run envM false 3000 ((⟨lpIn psIn_k, .normal, psS w N L x i⟩ : Cfg)) [true]).cfg.k = lpBk psIn_k := by kernel_rfl
theorem psN (w : Fr) (N : Nat) (L : List Fr) (x : Fr) (i : Nat) {w0 : World} {F0 : Nat → Prop} {K : Kp} {ac : List Act} {Q : Exit → Act → World → Prop} {cX : Ctx} {aX : Act} (ho : AllP [((decide (((i : Nat) : Int) < ((N : Nat) : Int))) = true), ((0 : Int) ≤ ((i : Nat) : Int)), (((i : Nat) : Int) < ((N : Nat) : Int)), (0 = 0), ((((i : Nat) : Int)).toNat < (List.length L))]) (hs : Sim w0 F0 K ac (psS w N L x i) cX aX) (hK : ∀ ac cY aY, Sim w0 F0 K ac (mkSt 25 [2, 5, 6, 12, 13] [(.v (.c (.ptr 16 0))), (.v (.c (.slc 64 0 N 4))), (.v (.c (.ptr 112 0))), (.v (.c (.int .i64 ((N : Nat) : Int)))), (.v (.c (.int .i64 (IntKind.wrap .i64 (((i : Nat) : Int) + (1 : Int))))))] [16, 64, 112] [(some (.fl [(.ob (.s w))])), (some (.sq (.s (List.set L (((i : Nat) : Int)).toNat x)))), (some (.fl [(.ob (.s (x * w)))]))] 416 [] []) cY aY → Wq Try.prog Q (lpBk psIn_k) ac Exit.normal aY cY.w) : Wq Try.prog Q (lpIn psIn_k) ac .normal aX cX.w :=
  run_at2 (o := ⟨_, _, _, _, _, _, _⟩) envM_ok (by kernel_rfl) (psN_hk w N L x i) ho hs hK
theorem psX_end (w : Fr) (N : Nat) (L : List Fr) (x : Fr) (i : Nat) : runEnd envM Try.f70 false 3000 (⟨lpIn psIn_k, .normal, psS w N L x i⟩) [false] [64] [] = (Option.some ([((decide (((i : Nat) : Int) < ((N : Nat) : Int))) = false)], ((SV.v (V1.c (It.slc 0 0 N 4))), [(En.sq (Sq.s L))]))) := by kernel_rfl
noncomputable def otS (l : List Fr) (N : Nat) (L : List U4) (i : Nat) : St := mkSt 23 [3, 9, 10, 11] [.v (.c (.slc 64 0 N 4)), (SV.v (V1.c (It.sl (Sq.s l)))), .v (.c (.int .i64 (N : Int))), .v (.c (.int .i64 (i : Int)))] [64] [some (.sq (.fr L))] 144 [] []
theorem otN_hk (l : List Fr) (N : Nat) (L : List U4) (i : Nat) : (run envM false 3000 ((⟨lpIn otIn_k, .normal, otS l N L i⟩ : Cfg)) [true]).cfg.k = lpBk otIn_k := by kernel_rfl
theorem otN (l : List Fr) (N : Nat) (L : List U4) (i : Nat) {w0 : World} {F0 : Nat → Prop} {K : Kp} {ac : List Act} {Q : Exit → Act → World → Prop} {cX : Ctx} {aX : Act} (ho : AllP [((decide (((i : Nat) : Int) < ((N : Nat) : Int))) = true), ((0 : Int) ≤ ((i : Nat) : Int)), (((i : Nat) : Int) < (((List.length l) : Nat) : Int)), ((0 : Int) ≤ ((i : Nat) : Int)), (((i : Nat) : Int) < ((N : Nat) : Int)), (0 = 0), ((((i : Nat) : Int)).toNat < (List.length L))]) (hs : Sim w0 F0 K ac (otS l N L i) cX aX) (hK : ∀ ac cY aY, Sim w0 F0 K ac (mkSt 23 [3, 9, 10, 11] [(.v (.c (.slc 64 0 N 4))), (.v (.c (.sl (.s l)))), (.v (.c (.int .i64 ((N : Nat) : Int)))), (.v (.c (.int .i64 (IntKind.wrap .i64 (((i : Nat) : Int) + (1 : Int))))))] [64] [(some (.sq (.fr (List.set L (((i : Nat) : Int)).toNat (outF (List.getD l (((i : Nat) : Int)).toNat (0 : Fr)))))))] 384 [] []) cY aY → Wq Try.prog Q (lpBk otIn_k) ac Exit.normal aY cY.w) : Wq Try.prog Q (lpIn otIn_k) ac .normal aX cX.w :=
  run_at2 (o := ⟨_, _, _, _, _, _, _⟩) envM_ok (by kernel_rfl) (otN_hk l N L i) ho hs hK
theorem otX_end (l : List Fr) (N : Nat) (L : List U4) (i : Nat) : runEnd envM Try.f69 false 3000 (⟨lpIn otIn_k, .normal, otS l N L i⟩) [false] [64] [] = (Option.some ([((decide (((i : Nat) : Int) < ((N : Nat) : Int))) = false)], ((SV.v (V1.c (It.slc 0 0 N 4))), [(En.sq (Sq.fr L))]))) := by kernel_rfl
noncomputable def reS (log : Int) (w : U4) (N : Nat) (L : List U4) (x : U4) (i : Nat) : St := mkSt 25 [1, 3, 4, 5] [(SV.v (V1.c (It.ptr 16 0))), .v (.c (.slc 48 0 N 4)), (SV.v (V1.c (It.ptr 96 0))), .v (.c (.int .i64 (i : Int)))] [16, 48, 96] [(Option.some (En.fl [(It.int IntKind.i64 log), (It.ob (Ob.fr w))])), some (.sq (.fr L)), some (.fl [.ob (.fr x)])] 144 [] []
theorem reN_hk (log : Int) (w : U4) (N : Nat) (L : List U4) (x : U4) (i : Nat) : (run envM false 3000 ((⟨lpIn reIn_k, .normal, reS log w N L x i⟩ : Cfg)) [true]).cfg.k = lpBk reIn_k := by kernel_rfl
theorem reN (log : Int) (w : U4) (N : Nat) (L : List U4) (x : U4) (i : Nat) {w0 : World} {F0 : Nat → Prop} {K : Kp} {ac : List Act} {Q : Exit → Act → World → Prop} {cX : Ctx} {aX : Act} (ho : AllP [((0 : Int) ≤ (IntKind.wrap .u64 log)), ((decide (((i : Nat) : Int) < (IntKind.wrap .i64 ((1 : Int) * ((2 : Int) ^ (Min.min ((IntKind.wrap .u64 log)).toNat 64)))))) = true), ((((List.length L) + (List.length ([] ++ [x]))) * 32) ≤ 140737488355328), (((List.length L) + (List.length ([] ++ [x]))) ≤ maxLen), (N = (List.length L)), (1 = (List.length ([] ++ [x]))), ((Fin.val w) < rN)]) (hs : Sim w0 F0 K ac (reS log w N L x i) cX aX) (hK : ∀ ac cY aY, Sim w0 F0 K ac (mkSt 25 [1, 3, 4, 5] [(.v (.c (.ptr 16 0))), (.v (.c (.slc 48 0 ((List.length L) + (List.length ([] ++ [x]))) 4))), (.v (.c (.ptr 96 0))), (.v (.c (.int .i64 (IntKind.wrap .i64 (((i : Nat) : Int) + (1 : Int))))))] [16, 48, 96] [(some (.fl [(.int .i64 log), (.ob (.fr w))])), (some (.sq (.fr (L ++ ([] ++ [x]))))), (some (.fl [(.ob (.fr (mulU x w)))]))] 448 [] []) cY aY → Wq Try.prog Q (lpBk reIn_k) ac Exit.normal aY cY.w) : Wq Try.prog Q (lpIn reIn_k) ac .normal aX cX.w :=
  run_at2 (o := ⟨_, _, _, _, _, _, _⟩) envM_ok (by kernel_rfl) (reN_hk log w N L x i) ho hs hK
theorem reX_end (log : Int) (w : U4) (N : Nat) (L : List U4) (x : U4) (i : Nat) : runEnd envM Try.f28 false 3000 (⟨lpIn reIn_k, .normal, reS log w N L x i⟩) [false] [48] [] = (Option.some ([((0 : Int) ≤ (IntKind.wrap IntKind.u64 log)), ((decide (((i : Nat) : Int) < (IntKind.wrap IntKind.i64 ((1 : Int) * ((2 : Int) ^ (Min.min ((IntKind.wrap IntKind.u64 log)).toNat 64)))))) = false)], ((SV.v (V1.c (It.slc 0 0 N 4))), [(En.sq (Sq.fr L))]))) := by kernel_rfl
theorem lkA_end (a b : List U4) : runEnd envM Try.f27 false 3000 (lk0 a b) [true] [] [] = (Option.some ([(((((List.length a) : Nat) : Int) != (((List.length b) : Nat) : Int)) = true)], ((SV.v (V1.c (It.lit false))), []))) := by kernel_rfl
noncomputable def lkIn_k : List KI := (run envM false 3000 ((fun (a b : List U4) => (lk0 a b : Cfg)) default default) [false]).cfg.k
theorem lkIn_at (a b : List U4) : runAt envM false 3000 ((lk0 a b : Cfg)) [false] [0, 1, 12, 13] [] [] = some ⟨[(((((List.length a) : Nat) : Int) != (((List.length b) : Nat) : Int)) = false)], Exit.normal, [(SV.v (V1.c (It.sl (Sq.fr a)))), (SV.v (V1.c (It.sl (Sq.fr b)))), (SV.v (V1.c (It.int IntKind.i64 (((List.length a) : Nat) : Int)))), (SV.v (V1.c (It.int IntKind.i64 (0 : Int))))], [], 26, 160, []⟩ := by kernel_rfl
theorem lkIn_hk (a b : List U4) : (run envM false 3000 ((lk0 a b : Cfg)) [false]).cfg.k = lkIn_k := by kernel_rfl
theorem lkIn (a b : List U4) {w0 : World} {F0 : Nat → Prop} {K : Kp} {ac : List Act} {Q : Exit → Act → World → Prop} {cX : Ctx} {aX : Act} (ho : AllP [(((((List.length a) : Nat) : Int) != (((List.length b) : Nat) : Int)) = false)]) (hs : Sim w0 F0 K ac (((lk0 a b : Cfg)).σ) cX aX) (hK : ∀ ac cY aY, Sim w0 F0 K ac (mkSt 26 [0, 1, 12, 13] [(.v (.c (.sl (.fr a)))), (.v (.c (.sl (.fr b)))), (.v (.c (.int .i64 (((List.length a) : Nat) : Int)))), (.v (.c (.int .i64 (0 : Int))))] [] [] 160 [] []) cY aY → Wq Try.prog Q (lkIn_k) ac Exit.normal aY cY.w) : Wq Try.prog Q (((lk0 a b : Cfg)).k) ac ((lk0 a b : Cfg)).x aX cX.w :=
  run_at envM_ok (lkIn_at a b) (lkIn_hk a b) ho hs hK
noncomputable def lkS (a b : List U4) (N i : Nat) : St := mkSt 26 [0, 1, 12, 13] [(SV.v (V1.c (It.sl (Sq.fr a)))), (SV.v (V1.c (It.sl (Sq.fr b)))), .v (.c (.int .i64 (N : Int))), .v (.c (.int .i64 (i : Int)))] [] [] 160 [] []
theorem lkN_hk (a b : List U4) (N i : Nat) : (run envM false 3000 ((⟨lpIn lkIn_k, .normal, lkS a b N i⟩ : Cfg)) [true, false]).cfg.k = lpBk lkIn_k := by kernel_rfl
theorem lkN (a b : List U4) (N i : Nat) {w0 : World} {F0 : Nat → Prop} {K : Kp} {ac : List Act} {Q : Exit → Act → World → Prop} {cX : Ctx} {aX : Act} (ho : AllP [((decide (((i : Nat) : Int) < ((N : Nat) : Int))) = true), ((0 : Int) ≤ ((i : Nat) : Int)), (((i : Nat) : Int) < (((List.length a) : Nat) : Int)), ((0 : Int) ≤ ((i : Nat) : Int)), (((i : Nat) : Int) < (((List.length b) : Nat) : Int)), ((ite (false = true) (decide ((List.getD a (((i : Nat) : Int)).toNat (0 : U4)) = (List.getD b (((i : Nat) : Int)).toNat (0 : U4)))) (Bool.not (decide ((List.getD a (((i : Nat) : Int)).toNat (0 : U4)) = (List.getD b (((i : Nat) : Int)).toNat (0 : U4)))))) = false)]) (hs : Sim w0 F0 K ac (lkS a b N i) cX aX) (hK : ∀ ac cY aY, Sim w0 F0 K ac (mkSt 26 [0, 1, 12, 13] [(.v (.c (.sl (.fr a)))), (.v (.c (.sl (.fr b)))), (.v (.c (.int .i64 ((N : Nat) : Int)))), (.v (.c (.int .i64 (IntKind.wrap .i64 (((i : Nat) : Int) + (1 : Int))))))] [] [] 384 [] []) cY aY → Wq Try.prog Q (lpBk lkIn_k) ac Exit.normal aY cY.w) : Wq Try.prog Q (lpIn lkIn_k) ac .normal aX cX.w :=
  run_at2 (o := ⟨_, _, _, _, _, _, _⟩) envM_ok (by kernel_rfl) (lkN_hk a b N i) ho hs hK
theorem lkB_end (a b : List U4) (N i : Nat) : runEnd envM Try.f27 false 3000 (⟨lpIn lkIn_k, .normal, lkS a b N i⟩) [true, true] [] [] = (Option.some ([((decide (((i : Nat) : Int) < ((N : Nat) : Int))) = true), ((0 : Int) ≤ ((i : Nat) : Int)), (((i : Nat) : Int) < (((List.length a) : Nat) : Int)), ((0 : Int) ≤ ((i : Nat) : Int)), (((i : Nat) : Int) < (((List.length b) : Nat) : Int)), ((ite (false = true) (decide ((List.getD a (((i : Nat) : Int)).toNat (0 : U4)) = (List.getD b (((i : Nat) : Int)).toNat (0 : U4)))) (Bool.not (decide ((List.getD a (((i : Nat) : Int)).toNat (0 : U4)) = (List.getD b (((i : Nat) : Int)).toNat (0 : U4)))))) = true)], ((SV.v (V1.c (It.lit false))), []))) := by kernel_rfl
theorem lkX_end (a b : List U4) (N i : Nat) : runEnd envM Try.f27 false 3000 (⟨lpIn lkIn_k, .normal, lkS a b N i⟩) [false] [] [] = (Option.some ([((decide (((i : Nat) : Int) < ((N : Nat) : Int))) = false)], ((SV.v (V1.c (It.lit true))), []))) := by kernel_rfl
end Go.Proofs.Ytlfllehomhcbfaa

/- Powers, a row of elements, the rows' comparison: contracts. No conditions. -/
namespace Go.Proofs.Ytlfllehomhcbfaa

/-- A row that is filled from its front. -/
theorem fill_set {α : Type} (f : Nat → α) (z : α) {i N : Nat} (h : i < N) : ((List.range i).map f ++ List.replicate (N - i) z).set i (f i) = (List.range (i + 1)).map f ++ List.replicate (N - (i + 1)) z := by
  rw [List.set_append_right _ _ (by simp)]
  have e : N - i = (N - (i + 1)) + 1 := by omega
  rw [e, List.replicate_succ]
  simp [List.range_succ]

theorem fill_len {α : Type} (f : Nat → α) (z : α) {i N : Nat} (h : i ≤ N) : ((List.range i).map f ++ List.replicate (N - i) z).length = N := by
  simp
  omega

theorem range_getD {α β : Type} (g : α → β) (l : List α) (d : α) : (List.range l.length).map (fun i => g (l.getD i d)) = l.map g := by
  apply List.ext_getElem
  · simp
  · intro i h1 h2
    simp at h1
    simp [List.getD, h1]

def powF (w : Fr) (n : Nat) : List Fr := (List.range n).map (powN w)

theorem powers_fnd (w : Fr) (n : Nat) (hn : n ≤ 8796093022208) : FnD Try.prog 70 [.v (.a [.ob (.s w)]), .v (.c (.int .i64 (n : Int)))] (.v (.c (.slc 0 0 n 4))) [.sq (.s (powF w n))] := by
  refine fn_start (fn := Try.f70) (c := bodyOf Try.f70) Try.func70 rfl rfl fun x a hk hF hs => ?_
  refine psIn w n (by and_intros <;> first | trivial | decide | omega) hs fun ac cY aY hs1 => ?_
  rw [Int.toNat_natCast] at hs1
  refine loop_rule (ι := { i : Nat // i ≤ n }) (fun i => psS w n ((List.range i.1).map (powN w) ++ List.replicate (n - i.1) 0) (powN w i.1) i.1) (fun i => n - i.1) (c := lpC psIn_k) (k := lpR psIn_k) (by kernel_rfl) (fun i ih ac cY aY hs => ?_) ⟨0, Nat.zero_le _⟩ hs1
  obtain ⟨i, hi⟩ := i
  simp only at ih hs
  have hl := fill_len (powN w) 0 hi
  by_cases h : i < n
  · refine psN w n _ _ i ⟨by simp [h], by omega, by omega, rfl, by rw [hl]; omega, trivial⟩ hs fun ac cY aY hs2 => ?_
    rw [Int.toNat_natCast, fill_set _ _ h, wrap_id (by omega) (by omega)] at hs2
    exact ih ⟨i + 1, by omega⟩ (by show n - (i + 1) < n - i; omega) ac cY aY (hs2.nx _)
  · obtain rfl : i = n := by omega
    rw [Nat.sub_self, List.replicate_zero, List.append_nil] at hs
    exact run_end2 envM_ok hk hF (psX_end w i _ _ i) ⟨by simp, trivial⟩ (fun y v hd => hd) hs

theorem out69_fnd (l : List Fr) (hl0 : l.length ≤ 8796093022208) : FnD Try.prog 69 [.v (.c (.sl (.s l)))] (.v (.c (.slc 0 0 l.length 4))) [.sq (.fr (l.map outF))] := by
  refine fn_start (fn := Try.f69) (c := bodyOf Try.f69) Try.func69 rfl rfl fun x a hk hF hs => ?_
  refine otIn l (by and_intros <;> first | trivial | decide | omega) hs fun ac cY aY hs1 => ?_
  rw [Int.toNat_natCast] at hs1
  refine loop_rule (ι := { i : Nat // i ≤ l.length }) (fun i => otS l l.length ((List.range i.1).map (fun i => outF (l.getD i 0)) ++ List.replicate (l.length - i.1) 0) i.1) (fun i => l.length - i.1) (c := lpC otIn_k) (k := lpR otIn_k) (by kernel_rfl) (fun i ih ac cY aY hs => ?_) ⟨0, Nat.zero_le _⟩ hs1
  obtain ⟨i, hi⟩ := i
  simp only at ih hs
  have hl := fill_len (fun i => outF (l.getD i 0)) 0 hi
  by_cases h : i < l.length
  · refine otN l l.length _ i ⟨by simp [h], by omega, by omega, by omega, by omega, rfl, by rw [hl]; omega, trivial⟩ hs fun ac cY aY hs2 => ?_
    rw [Int.toNat_natCast, fill_set (fun i => outF (l.getD i 0)) _ h, wrap_id (by omega) (by omega)] at hs2
    exact ih ⟨i + 1, by omega⟩ (by show l.length - (i + 1) < l.length - i; omega) ac cY aY (hs2.nx _)
  · have e : i = l.length := by omega
    rw [e, Nat.sub_self, List.replicate_zero, List.append_nil, range_getD] at hs
    exact run_end2 envM_ok hk hF (otX_end l l.length _ l.length) ⟨by simp, trivial⟩ (fun y v hd => hd) hs

theorem shl1 (k : Nat) (h : k ≤ 30) : IntKind.wrap IntKind.i64 ((1 : Int) * ((2 : Int) ^ (Min.min ((IntKind.wrap IntKind.u64 (k : Int))).toNat 64))) = ((2 ^ k : Nat) : Int) ∧ 2 ^ k ≤ 1073741824 := by
  have h2 : (2 : Nat) ^ k ≤ 2 ^ 30 := Nat.pow_le_pow_right (by decide) h
  have h3 : (2 : Nat) ^ 30 = 1073741824 := by decide
  rw [wrap_u (by omega) (by omega), Int.toNat_natCast, Nat.min_eq_left (by omega), Int.one_mul]
  have e : ((2 : Int) ^ k) = ((2 ^ k : Nat) : Int) := by simp
  rw [e]
  generalize 2 ^ k = m at h2
  rw [wrap_id (by omega) (by omega)]
  exact ⟨rfl, by omega⟩

theorem in_out (x : Fr) : inF (outF x) = x := by
  apply Fin.ext
  show (outF x).val % rN = x.val
  rw [outF_val, Nat.mod_eq_of_lt x.isLt]

theorem refElems_fnd (k : Nat) (w : Fr) (hk0 : k ≤ 30) : FnD Try.prog 28 [.v (.a [.int .i64 (k : Int), .ob (.fr (outF w))])] (.v (.c (.slc 0 0 (2 ^ k) 4))) [.sq (.fr ((powF w (2 ^ k)).map outF))] := by
  refine fn_start (fn := Try.f28) (c := bodyOf Try.f28) Try.func28 rfl rfl fun x a hk hF hs => ?_
  refine reIn k (outF w) (by and_intros <;> first | trivial | decide) hs fun ac cY aY hs1 => ?_
  rw [← out_one1] at hs1
  obtain ⟨e1, e2⟩ := shl1 k hk0
  refine loop_rule (ι := { i : Nat // i ≤ 2 ^ k }) (fun i => reS k (outF w) i.1 ((powF w i.1).map outF) (outF (powN w i.1)) i.1) (fun i => 2 ^ k - i.1) (c := lpC reIn_k) (k := lpR reIn_k) (by kernel_rfl) (fun i ih ac cY aY hs => ?_) ⟨0, Nat.zero_le _⟩ hs1
  obtain ⟨i, hi⟩ := i
  simp only at ih hs
  have hl : ((powF w i).map outF).length = i := by simp [powF]
  have hw : 0 ≤ IntKind.wrap IntKind.u64 (k : Int) := by rw [wrap_u (by omega) (by omega)]; omega
  have hl1 : ([] ++ [outF (powN w i)]).length = 1 := rfl
  by_cases h : i < 2 ^ k
  · refine reN k (outF w) i _ _ i ⟨hw, by rw [e1]; simp only [decide_eq_true_eq]; exact_mod_cast h, by rw [hl, hl1]; omega, by rw [hl, hl1]; unfold maxLen; omega, hl.symm, hl1.symm, outF_lt _, trivial⟩ hs fun ac cY aY hs2 => ?_
    have e3 : (powF w i).map outF ++ ([] ++ [outF (powN w i)]) = (powF w (i + 1)).map outF := by simp [powF, List.range_succ]
    rw [hl, hl1, e3, mulU_out, wrap_id (by omega) (by omega)] at hs2
    exact ih ⟨i + 1, by omega⟩ (by show 2 ^ k - (i + 1) < 2 ^ k - i; omega) ac cY aY (hs2.nx _)
  · have e : i = 2 ^ k := by omega
    rw [e] at hs
    exact run_end2 envM_ok hk hF (reX_end k (outF w) (2 ^ k) _ _ (2 ^ k)) ⟨hw, by rw [e1]; simp, trivial⟩ (fun y v hd => hd) hs

theorem like_fnd (a b : List U4) : FnD Try.prog 27 [.v (.c (.sl (.fr a))), .v (.c (.sl (.fr b)))] (.v (.c (.bool (decide (a = b))))) [] := by
  refine fn_start (fn := Try.f27) (c := bodyOf Try.f27) Try.func27 rfl rfl fun x a0 hk hF hs => ?_
  have hla := sl_len (q := .fr a) (hs.t 0)
  by_cases hab : a.length = b.length
  · refine lkIn a b ⟨by simp [hab], trivial⟩ hs fun ac cY aY hs1 => ?_
    refine loop_rule (ι := { i : Nat // i ≤ a.length ∧ a.take i = b.take i }) (fun i => lkS a b a.length i.1) (fun i => a.length - i.1) (c := lpC lkIn_k) (k := lpR lkIn_k) (by kernel_rfl) (fun i ih ac cY aY hs => ?_) ⟨0, Nat.zero_le _, rfl⟩ hs1
    obtain ⟨i, hi, ht⟩ := i
    simp only at ih hs
    by_cases h : i < a.length
    · have hg : a.getD i 0 = a[i] := by simp [List.getD, h]
      have hg' : b.getD i 0 = b[i]'(by omega) := by simp [List.getD, show i < b.length from by omega]
      by_cases he : a.getD i 0 = b.getD i 0
      · refine lkN a b a.length i ⟨by simp [h], by omega, by omega, by omega, by omega, by rw [Int.toNat_natCast, decide_eq_true he]; rfl, trivial⟩ hs fun ac cY aY hs2 => ?_
        have : a.length ≤ maxLen := hla
        unfold maxLen at this
        rw [wrap_id (by omega) (by omega)] at hs2
        refine ih ⟨i + 1, by omega, ?_⟩ (by show a.length - (i + 1) < a.length - i; omega) ac cY aY (hs2.nx _)
        rw [List.take_succ_eq_append_getElem h, List.take_succ_eq_append_getElem (show i < b.length from by omega), ht, ← hg, ← hg', he]
      · refine run_end2 envM_ok hk hF (lkB_end a b a.length i) ⟨by simp [h], by omega, by omega, by omega, by omega, by rw [Int.toNat_natCast, decide_eq_false he]; rfl, trivial⟩ (fun y v hd => ?_) hs
        have hne : a ≠ b := fun e => he (by rw [e])
        rw [decide_eq_false hne]
        exact lit_bool rfl hd
    · have e : i = a.length := by omega
      refine run_end2 envM_ok hk hF (lkX_end a b a.length i) ⟨by simp [h], trivial⟩ (fun y v hd => ?_) hs
      have heq : a = b := by
        rw [e, List.take_length, hab, List.take_length] at ht
        exact ht
      rw [decide_eq_true heq]
      exact lit_bool rfl hd
  · refine run_end envM_ok hk hF (lkA_end a b) ⟨by simp only [bne_iff_ne, ne_eq]; omega, trivial⟩ (fun y v hd => ?_) hs
    have hne : a ≠ b := fun e => hab (by rw [e])
    rw [decide_eq_false hne]
    exact lit_bool rfl hd

end Go.Proofs.Ytlfllehomhcbfaa

/- A domain's elements; DomainMakes, walked. No conditions. -/
namespace Go.Proofs.Ytlfllehomhcbfaa

def powersSpec : FnSpec
  | [.v (.a [.ob (.s w)]), .v (.c (.int .i64 n))] => some ([0 ≤ n, n ≤ 8796093022208], .v (.c (.slc 0 0 n.toNat 4)), [.sq (.s (powF w n.toNat))])
  | _ => none
def out69Spec : FnSpec
  | [.v (.c (.sl (.s l)))] => some ([l.length ≤ 8796093022208], .v (.c (.slc 0 0 l.length 4)), [.sq (.fr (l.map outF))])
  | _ => none
def likeSpec : FnSpec
  | [.v (.c (.sl (.fr a))), .v (.c (.sl (.fr b)))] => some ([], .v (.c (.bool (decide (a = b)))), [])
  | _ => none
noncomputable def envN1 : Env := envM.set (addT envM.fn 70 powersSpec)
theorem envN1_ok : EnvOk Try.prog envN1 := env_add envM_ok 70 powersSpec (enters_of Try.func70 rfl rfl) fun args o r es h ho => by
  unfold powersSpec at h
  split at h
  · rename_i w n
    cases h
    obtain ⟨h0, h1, _⟩ := ho
    obtain ⟨m, rfl⟩ := Int.eq_ofNat_of_zero_le h0
    exact powers_fnd w m (by omega)
  · cases h
noncomputable def envN2 : Env := envN1.set (addT envN1.fn 69 out69Spec)
theorem envN2_ok : EnvOk Try.prog envN2 := env_add envN1_ok 69 out69Spec (enters_of Try.func69 rfl rfl) fun args o r es h ho => by
  unfold out69Spec at h
  split at h
  · cases h; exact out69_fnd _ ho.1
  · cases h
noncomputable def envN : Env := envN2.set (addT envN2.fn 27 likeSpec)
theorem envN_ok : EnvOk Try.prog envN := env_add envN2_ok 27 likeSpec (enters_of Try.func27 rfl rfl) fun args o r es h _ => by
  unfold likeSpec at h
  split at h
  · cases h; exact like_fnd _ _
  · cases h

--@env envN envN_ok
theorem elA (log : Int) (w : U4) : fnRes envN Try.f26 3000 [.v (.a [.int .i64 log, .ob (.fr w)])] [true] [] [] = (Option.some ([((Bool.not (domOk log w)) = true)], ((SV.t [(V1.c (It.val (Value.slice Option.none 0 0))), (V1.c (It.int IntKind.i64 (40 : Int)))]), []))) := by kernel_rfl
theorem elB (log : Int) (w : U4) : fnRes envN Try.f26 3000 [.v (.a [.int .i64 log, .ob (.fr w)])] [false] [224] [] = (Option.some ([((Bool.not (domOk log w)) = false), ((0 : Int) ≤ log), ((0 : Int) ≤ (IntKind.wrap IntKind.i64 ((1 : Int) * ((2 : Int) ^ (Min.min (log).toNat 64))))), ((IntKind.wrap IntKind.i64 ((1 : Int) * ((2 : Int) ^ (Min.min (log).toNat 64)))) ≤ (8796093022208 : Int)), (0 = 0), (((IntKind.wrap IntKind.i64 ((1 : Int) * ((2 : Int) ^ (Min.min (log).toNat 64))))).toNat = (List.length (powF (inF w) ((IntKind.wrap IntKind.i64 ((1 : Int) * ((2 : Int) ^ (Min.min (log).toNat 64))))).toNat))), (4 = 4), ((List.length (powF (inF w) ((IntKind.wrap IntKind.i64 ((1 : Int) * ((2 : Int) ^ (Min.min (log).toNat 64))))).toNat)) ≤ 8796093022208)], ((SV.t [(V1.c (It.slc 0 0 (List.length (powF (inF w) ((IntKind.wrap IntKind.i64 ((1 : Int) * ((2 : Int) ^ (Min.min (log).toNat 64))))).toNat)) 4)), (V1.c (It.int IntKind.i64 (0 : Int)))]), [(En.sq (Sq.fr (List.map outF (powF (inF w) ((IntKind.wrap IntKind.i64 ((1 : Int) * ((2 : Int) ^ (Min.min (log).toNat 64))))).toNat))))]))) := by kernel_rfl
def elemF (log : Int) (w : U4) : List U4 := if domOk log w then (powF (inF w) (2 ^ log.toNat)).map outF else []

theorem domOk_log {log : Int} {w : U4} (h : domOk log w = true) : 0 ≤ log ∧ log ≤ 16 ∧ w = outF (sqN rootF (32 - log).toNat) := by
  simp only [domOk, Bool.and_eq_true, decide_eq_true_eq] at h
  obtain ⟨h1, h2⟩ := h
  have h3 := h1
  simp only [okLog, Bool.and_eq_true, decide_eq_true_eq] at h1
  refine ⟨h1.1, h1.2, ?_⟩
  rw [← h2]
  unfold newRoot
  rw [if_pos h3]

theorem shl2 {log : Int} (h0 : 0 ≤ log) (h1 : log ≤ 30) : IntKind.wrap IntKind.i64 ((1 : Int) * ((2 : Int) ^ (Min.min (log).toNat 64))) = ((2 ^ log.toNat : Nat) : Int) ∧ 2 ^ log.toNat ≤ 1073741824 := by
  obtain ⟨k, rfl⟩ := Int.eq_ofNat_of_zero_le h0
  have h := shl1 k (by omega)
  rw [wrap_u (by omega) (by omega)] at h
  exact h

theorem powF_len (w : Fr) (n : Nat) : (powF w n).length = n := by simp [powF]

theorem elems_fnd (log : Int) (w : U4) : FnD Try.prog 26 [.v (.a [.int .i64 log, .ob (.fr w)])] (.t [.c (.slc 0 0 (elemF log w).length 4), .c (.int .i64 (if domOk log w then 0 else 40))]) [.sq (.fr (elemF log w))] := by
  cases h : domOk log w with
  | false =>
    have e : elemF log w = [] := by unfold elemF; rw [h]; rfl
    rw [e]
    exact (fn_sound envN_ok Try.func26 (elA log w) ⟨by rw [h]; rfl, trivial⟩).nil2 rfl
  | true =>
    obtain ⟨h0, h1, _⟩ := domOk_log h
    obtain ⟨e1, e2⟩ := shl2 h0 (by omega)
    have e : elemF log w = (powF (inF w) (2 ^ log.toNat)).map outF := by unfold elemF; rw [h]; rfl
    have r := elB log w
    rw [e1, Int.toNat_natCast, powF_len] at r
    rw [e, List.length_map, powF_len]
    generalize hm : 2 ^ log.toNat = m at r e2
    exact fn_sound envN_ok Try.func26 r ⟨by rw [h]; rfl, h0, by omega, by omega, rfl, rfl, rfl, by omega, trivial⟩

def elemSpec : FnSpec
  | [.v (.a [.int .i64 log, .ob (.fr w)])] => some ([], .t [.c (.slc 0 0 (elemF log w).length 4), .c (.int .i64 (if domOk log w then 0 else 40))], [.sq (.fr (elemF log w))])
  | _ => none
def relemSpec : FnSpec
  | [.v (.a [.int .i64 log, .ob (.fr w)])] => some ([0 ≤ log, log ≤ 16, w.val < rN], .v (.c (.slc 0 0 (2 ^ log.toNat) 4)), [.sq (.fr ((powF (inF w) (2 ^ log.toNat)).map outF))])
  | _ => none
noncomputable def envN3 : Env := envN.set (addT envN.fn 26 elemSpec)
theorem envN3_ok : EnvOk Try.prog envN3 := env_add envN_ok 26 elemSpec (enters_of Try.func26 rfl rfl) fun args o r es h _ => by
  unfold elemSpec at h
  split at h
  · cases h; exact elems_fnd _ _
  · cases h
noncomputable def envO : Env := envN3.set (addT envN3.fn 28 relemSpec)
theorem envO_ok : EnvOk Try.prog envO := env_add envN3_ok 28 relemSpec (enters_of Try.func28 rfl rfl) fun args o r es h ho => by
  unfold relemSpec at h
  split at h
  · rename_i log w
    cases h
    obtain ⟨h0, h1, h2, _⟩ := ho
    obtain ⟨k, rfl⟩ := Int.eq_ofNat_of_zero_le h0
    have hf := refElems_fnd k (inF w) (by omega)
    rw [out_in h2] at hf
    exact hf
  · cases h

--@env envO envO_ok
theorem mkA (log dl : Int) (dw : U4) : fnRes envO Try.f4 3000 [.v (.c (.int .i64 log)), .v (.a [.int .i64 dl, .ob (.fr dw)])] [false, false, false, true] [] [] = (Option.some ([((ite (false = true) (Bool.and ((ite ((okLog log) = true) log (0 : Int)) == (ite ((okLog log) = true) log (0 : Int))) (decide ((newRoot log) = (newRoot log)))) (Bool.not (Bool.and ((ite ((okLog log) = true) log (0 : Int)) == (ite ((okLog log) = true) log (0 : Int))) (decide ((newRoot log) = (newRoot log)))))) = false), (((ite ((okLog log) = true) (0 : Int) (40 : Int)) != (ite ((okLog log) = true) (0 : Int) (40 : Int))) = false), ((ite (false = true) ((domOk dl dw) == (domOk dl dw)) (Bool.not ((domOk dl dw) == (domOk dl dw)))) = false), ((decide (log > (6 : Int))) = true)], ((SV.v (V1.c (It.lit true))), []))) := by kernel_rfl
theorem mkB (log dl : Int) (dw : U4) : fnRes envO Try.f4 3000 [.v (.c (.int .i64 log)), .v (.a [.int .i64 dl, .ob (.fr dw)])] [false, false, false, false, true, true] [] [] = (Option.some ([((ite (false = true) (Bool.and ((ite ((okLog log) = true) log (0 : Int)) == (ite ((okLog log) = true) log (0 : Int))) (decide ((newRoot log) = (newRoot log)))) (Bool.not (Bool.and ((ite ((okLog log) = true) log (0 : Int)) == (ite ((okLog log) = true) log (0 : Int))) (decide ((newRoot log) = (newRoot log)))))) = false), (((ite ((okLog log) = true) (0 : Int) (40 : Int)) != (ite ((okLog log) = true) (0 : Int) (40 : Int))) = false), ((ite (false = true) ((domOk dl dw) == (domOk dl dw)) (Bool.not ((domOk dl dw) == (domOk dl dw)))) = false), ((decide (log > (6 : Int))) = false), (((ite ((okLog log) = true) (0 : Int) (40 : Int)) != (0 : Int)) = true), (((ite ((domOk (ite ((okLog log) = true) log (0 : Int)) (newRoot log)) = true) (0 : Int) (40 : Int)) == (40 : Int)) = true)], ((SV.v (V1.c (It.bool ((((List.length (elemF (ite ((okLog log) = true) log (0 : Int)) (newRoot log))) : Nat) : Int) == (0 : Int))))), []))) := by kernel_rfl
theorem mkC (log dl : Int) (dw : U4) : fnRes envO Try.f4 3000 [.v (.c (.int .i64 log)), .v (.a [.int .i64 dl, .ob (.fr dw)])] [false, false, false, false, false, true] [] [] = (Option.some ([((ite (false = true) (Bool.and ((ite ((okLog log) = true) log (0 : Int)) == (ite ((okLog log) = true) log (0 : Int))) (decide ((newRoot log) = (newRoot log)))) (Bool.not (Bool.and ((ite ((okLog log) = true) log (0 : Int)) == (ite ((okLog log) = true) log (0 : Int))) (decide ((newRoot log) = (newRoot log)))))) = false), (((ite ((okLog log) = true) (0 : Int) (40 : Int)) != (ite ((okLog log) = true) (0 : Int) (40 : Int))) = false), ((ite (false = true) ((domOk dl dw) == (domOk dl dw)) (Bool.not ((domOk dl dw) == (domOk dl dw)))) = false), ((decide (log > (6 : Int))) = false), (((ite ((okLog log) = true) (0 : Int) (40 : Int)) != (0 : Int)) = false), (((ite ((domOk (ite ((okLog log) = true) log (0 : Int)) (newRoot log)) = true) (0 : Int) (40 : Int)) == (0 : Int)) = true), ((0 : Int) ≤ (ite ((okLog log) = true) log (0 : Int))), ((ite ((okLog log) = true) log (0 : Int)) ≤ (16 : Int)), ((Fin.val (newRoot log)) < rN), (0 = 0), ((List.length (elemF (ite ((okLog log) = true) log (0 : Int)) (newRoot log))) = (List.length (elemF (ite ((okLog log) = true) log (0 : Int)) (newRoot log)))), (4 = 4), (0 = 0), ((2 ^ ((ite ((okLog log) = true) log (0 : Int))).toNat) = (List.length (List.map outF (powF (inF (newRoot log)) (2 ^ ((ite ((okLog log) = true) log (0 : Int))).toNat))))), (4 = 4)], ((SV.v (V1.c (It.bool (decide ((elemF (ite ((okLog log) = true) log (0 : Int)) (newRoot log)) = (List.map outF (powF (inF (newRoot log)) (2 ^ ((ite ((okLog log) = true) log (0 : Int))).toNat)))))))), []))) := by kernel_rfl
end Go.Proofs.Ytlfllehomhcbfaa

/- DomainMakes answers true for every number and domain. No conditions. -/
namespace Go.Proofs.Ytlfllehomhcbfaa

theorem ne_self (a : Bool) : (if (false = true) then a else !a) = !a := if_neg (by decide)

theorem dom00 : domOk 0 0 = false := by
  unfold domOk
  rw [newRoot0]
  have h : ¬ ((Fin.ofNat B4 1 : U4) = 0) := fun h => by have := congrArg Fin.val h; revert this; decide
  rw [decide_eq_false h, Bool.and_false]

theorem dom_self {log : Int} (h : okLog log = true) : domOk log (newRoot log) = true := by
  unfold domOk
  rw [h, decide_eq_true rfl]
  rfl

theorem newRoot_lt (log : Int) : (newRoot log).val < rN := by
  unfold newRoot
  split
  · exact outF_lt _
  · decide

theorem makes_fnd (log dl : Int) (dw : U4) : FnD Try.prog 4 [.v (.c (.int .i64 log)), .v (.a [.int .i64 dl, .ob (.fr dw)])] (.v (.c (.bool true))) [] := by
  have q1 : ∀ (a b : Int), (if (false = true) then (a == a && decide (newRoot b = newRoot b)) else !(a == a && decide (newRoot b = newRoot b))) = false := fun a b => by
    rw [ne_self, beq_self_eq_true, decide_eq_true rfl]; rfl
  have q2 : (if (false = true) then (domOk dl dw == domOk dl dw) else !(domOk dl dw == domOk dl dw)) = false := by rw [ne_self, beq_self_eq_true]; rfl
  have q3 : ∀ a : Int, (a != a) = false := fun a => by simp
  by_cases h6 : log > 6
  · exact (fn_sound envO_ok Try.func4 (mkA log dl dw) ⟨q1 _ _, q3 _, q2, by simp [h6], trivial⟩).conv (fun _ _ h => h) fun y v hd => lit_bool rfl hd
  cases hok : okLog log with
  | false =>
    have r := mkB log dl dw
    have hr : newRoot log = 0 := by unfold newRoot; rw [hok]; rfl
    rw [hok, hr] at r
    rw [if_neg (by decide : ¬ (false = true)), if_neg (by decide : ¬ (false = true)), dom00] at r
    have e : elemF 0 0 = [] := by unfold elemF; rw [dom00]; rfl
    rw [e] at r
    refine (fn_sound envO_ok Try.func4 r ⟨?_, rfl, q2, by simp [h6], rfl, rfl, trivial⟩).conv (fun _ _ h => h) fun y v hd => hd
    rfl
  | true =>
    have hl : 0 ≤ log ∧ log ≤ 16 := by simpa [okLog] using hok
    have r := mkC log dl dw
    have hds := dom_self hok
    have hlt := newRoot_lt log
    have e : elemF log (newRoot log) = (powF (inF (newRoot log)) (2 ^ log.toNat)).map outF := by unfold elemF; rw [hds, if_pos rfl]
    rw [hok] at r
    rw [show (if (true = true) then log else (0 : Int)) = log from if_pos rfl, show (if (true = true) then (0 : Int) else 40) = 0 from if_pos rfl, hds, show (if (true = true) then (0 : Int) else 40) = 0 from if_pos rfl] at r
    refine (fn_sound envO_ok Try.func4 r ?_).conv (fun _ _ h => h) fun y v hd => ?_
    · refine ⟨q1 _ _, rfl, q2, by simp [h6], rfl, rfl, hl.1, hl.2, hlt, rfl, rfl, rfl, rfl, by rw [List.length_map, powF_len], rfl, trivial⟩
    · rw [e, decide_eq_true rfl] at hd
      exact hd

end Go.Proofs.Ytlfllehomhcbfaa

/- Elements in and out: sums, zero and one. No conditions. -/
namespace Go.Proofs.Ytlfllehomhcbfaa

theorem clean_out (a : U4) : cleanU a = outF (inF a) := by
  apply Fin.ext
  rw [cleanU_val, outF_val]
  rfl

theorem addU_out (x y : Fr) : cleanU (outF x + outF y) = outF (x + y) := by
  apply Fin.ext
  rw [clean_add_val (outF_lt x) (outF_lt y), outF_val, outF_val, outF_val]
  rfl

theorem fr_zero_add (x : Fr) : 0 + x = x := Fin.zero_add x
theorem fr_add_zero (x : Fr) : x + 0 = x := Fin.add_zero x
theorem fr_mul_zero (x : Fr) : x * 0 = 0 := Fin.mul_zero x
theorem fr_zero_mul (x : Fr) : 0 * x = 0 := Fin.zero_mul x
theorem add_comm_r {r : Nat} [NeZero r] (x y : Fin r) : x + y = y + x := by grind
theorem fr_add_comm (x y : Fr) : x + y = y + x := add_comm_r x y
theorem fr_mul_one (x : Fr) : x * 1 = x := Fin.mul_one x

end Go.Proofs.Ytlfllehomhcbfaa

/- Small functions of polynomials, walked. No conditions. -/
namespace Go.Proofs.Ytlfllehomhcbfaa

noncomputable def lg0 (ls : List (List U4)) : Cfg := ⟨[.code (bodyOf Try.f73)], .normal, initSt Try.f73.ntmps [.v (.c (.sl (.frs ls)))]⟩
noncomputable def in0 (a : List U4) : Cfg := ⟨[.code (bodyOf Try.f74)], .normal, initSt Try.f74.ntmps [.v (.c (.sl (.fr a)))]⟩
noncomputable def bk0 (a : List Fr) : Cfg := ⟨[.code (bodyOf Try.f76)], .normal, initSt Try.f76.ntmps [.v (.c (.sl (.s a)))]⟩
--@env envO envO_ok
theorem fewR (a : List U4) : fnRes envO Try.f29 3000 [.v (.c (.sl (.fr a)))] [] [] [] = (Option.some ([((0 : Int) ≤ (ite ((40 : Int) < (((List.length a) : Nat) : Int)) (40 : Int) (((List.length a) : Nat) : Int))), ((ite ((40 : Int) < (((List.length a) : Nat) : Int)) (40 : Int) (((List.length a) : Nat) : Int)) ≤ (((List.length a) : Nat) : Int))], ((SV.v (V1.c (It.sl (Sq.fr (List.take ((ite ((40 : Int) < (((List.length a) : Nat) : Int)) (40 : Int) (((List.length a) : Nat) : Int))).toNat (List.drop 0 a)))))), []))) := by kernel_rfl
noncomputable def lgIn_k : List KI := (run envO false 3000 ((fun (ls : List (List U4)) => (lg0 ls : Cfg)) default) []).cfg.k
theorem lgIn_at (ls : List (List U4)) : runAt envO false 3000 ((lg0 ls : Cfg)) [] [5, 6, 7] [] [] = some ⟨[], Exit.normal, [(SV.v (V1.c (It.sl (Sq.frs ls)))), (SV.v (V1.c (It.int IntKind.i64 (((List.length ls) : Nat) : Int)))), (SV.v (V1.c (It.int IntKind.i64 (0 : Int))))], [], 15, 80, []⟩ := by kernel_rfl
theorem lgIn_hk (ls : List (List U4)) : (run envO false 3000 ((lg0 ls : Cfg)) []).cfg.k = lgIn_k := by kernel_rfl
theorem lgIn (ls : List (List U4)) {w0 : World} {F0 : Nat → Prop} {K : Kp} {ac : List Act} {Q : Exit → Act → World → Prop} {cX : Ctx} {aX : Act} (ho : AllP []) (hs : Sim w0 F0 K ac (((lg0 ls : Cfg)).σ) cX aX) (hK : ∀ ac cY aY, Sim w0 F0 K ac (mkSt 15 [5, 6, 7] [(.v (.c (.sl (.frs ls)))), (.v (.c (.int .i64 (((List.length ls) : Nat) : Int)))), (.v (.c (.int .i64 (0 : Int))))] [] [] 80 [] []) cY aY → Wq Try.prog Q (lgIn_k) ac Exit.normal aY cY.w) : Wq Try.prog Q (((lg0 ls : Cfg)).k) ac ((lg0 ls : Cfg)).x aX cX.w :=
  run_at envO_ok (lgIn_at ls) (lgIn_hk ls) ho hs hK
noncomputable def inIn_k : List KI := (run envO false 3000 ((fun (a : List U4) => (in0 a : Cfg)) default) []).cfg.k
theorem inIn_at (a : List U4) : runAt envO false 3000 ((in0 a : Cfg)) [] [3, 9, 10, 11] [64] [] = some ⟨[((0 : Int) ≤ (((List.length a) : Nat) : Int)), ((((List.length a) : Nat) : Int) = (((List.length a) : Nat) : Int)), (((32 : Int) * (((List.length a) : Nat) : Int)) ≤ (281474976710656 : Int)), ((((List.length a) : Nat) : Int) ≤ (9223372036854775807 : Int))], Exit.normal, [(SV.v (V1.c (It.slc 64 0 ((((List.length a) : Nat) : Int)).toNat 4))), (SV.v (V1.c (It.sl (Sq.fr a)))), (SV.v (V1.c (It.int IntKind.i64 (((List.length a) : Nat) : Int)))), (SV.v (V1.c (It.int IntKind.i64 (0 : Int))))], [(Option.some (En.sq (Sq.s (List.replicate ((((List.length a) : Nat) : Int)).toNat (0 : Fr)))))], 23, 144, []⟩ := by kernel_rfl
theorem inIn_hk (a : List U4) : (run envO false 3000 ((in0 a : Cfg)) []).cfg.k = inIn_k := by kernel_rfl
theorem inIn (a : List U4) {w0 : World} {F0 : Nat → Prop} {K : Kp} {ac : List Act} {Q : Exit → Act → World → Prop} {cX : Ctx} {aX : Act} (ho : AllP [((0 : Int) ≤ (((List.length a) : Nat) : Int)), ((((List.length a) : Nat) : Int) = (((List.length a) : Nat) : Int)), (((32 : Int) * (((List.length a) : Nat) : Int)) ≤ (281474976710656 : Int)), ((((List.length a) : Nat) : Int) ≤ (9223372036854775807 : Int))]) (hs : Sim w0 F0 K ac (((in0 a : Cfg)).σ) cX aX) (hK : ∀ ac cY aY, Sim w0 F0 K ac (mkSt 23 [3, 9, 10, 11] [(.v (.c (.slc 64 0 ((((List.length a) : Nat) : Int)).toNat 4))), (.v (.c (.sl (.fr a)))), (.v (.c (.int .i64 (((List.length a) : Nat) : Int)))), (.v (.c (.int .i64 (0 : Int))))] [64] [(some (.sq (.s (List.replicate ((((List.length a) : Nat) : Int)).toNat (0 : Fr)))))] 144 [] []) cY aY → Wq Try.prog Q (inIn_k) ac Exit.normal aY cY.w) : Wq Try.prog Q (((in0 a : Cfg)).k) ac ((in0 a : Cfg)).x aX cX.w :=
  run_at envO_ok (inIn_at a) (inIn_hk a) ho hs hK
noncomputable def bkIn_k : List KI := (run envO false 3000 ((fun (a : List Fr) => (bk0 a : Cfg)) default) []).cfg.k
theorem bkIn_at (a : List Fr) : runAt envO false 3000 ((bk0 a : Cfg)) [] [0, 3] [] [] = some ⟨[], Exit.normal, [(SV.v (V1.c (It.sl (Sq.s a)))), (SV.v (V1.c (It.int IntKind.i64 (((List.length a) : Nat) : Int))))], [], 37, 80, []⟩ := by kernel_rfl
theorem bkIn_hk (a : List Fr) : (run envO false 3000 ((bk0 a : Cfg)) []).cfg.k = bkIn_k := by kernel_rfl
theorem bkIn (a : List Fr) {w0 : World} {F0 : Nat → Prop} {K : Kp} {ac : List Act} {Q : Exit → Act → World → Prop} {cX : Ctx} {aX : Act} (ho : AllP []) (hs : Sim w0 F0 K ac (((bk0 a : Cfg)).σ) cX aX) (hK : ∀ ac cY aY, Sim w0 F0 K ac (mkSt 37 [0, 3] [(.v (.c (.sl (.s a)))), (.v (.c (.int .i64 (((List.length a) : Nat) : Int))))] [] [] 80 [] []) cY aY → Wq Try.prog Q (bkIn_k) ac Exit.normal aY cY.w) : Wq Try.prog Q (((bk0 a : Cfg)).k) ac ((bk0 a : Cfg)).x aX cX.w :=
  run_at envO_ok (bkIn_at a) (bkIn_hk a) ho hs hK
noncomputable def lgS (ls : List (List U4)) (N i : Nat) : St := mkSt 15 [5, 6, 7] [(SV.v (V1.c (It.sl (Sq.frs ls)))), .v (.c (.int .i64 (N : Int))), .v (.c (.int .i64 (i : Int)))] [] [] 80 [] []
theorem lgN_hk (ls : List (List U4)) (N i : Nat) : (run envO false 3000 ((⟨lpIn lgIn_k, .normal, lgS ls N i⟩ : Cfg)) [true, false]).cfg.k = lpBk lgIn_k := by kernel_rfl
theorem lgN (ls : List (List U4)) (N i : Nat) {w0 : World} {F0 : Nat → Prop} {K : Kp} {ac : List Act} {Q : Exit → Act → World → Prop} {cX : Ctx} {aX : Act} (ho : AllP [((decide (((i : Nat) : Int) < ((N : Nat) : Int))) = true), ((0 : Int) ≤ ((i : Nat) : Int)), (((i : Nat) : Int) < (((List.length ls) : Nat) : Int)), ((decide ((((List.length (List.getD ls (((i : Nat) : Int)).toNat ([] : List U4))) : Nat) : Int) > (262144 : Int))) = false)]) (hs : Sim w0 F0 K ac (lgS ls N i) cX aX) (hK : ∀ ac cY aY, Sim w0 F0 K ac (mkSt 15 [5, 6, 7] [(.v (.c (.sl (.frs ls)))), (.v (.c (.int .i64 ((N : Nat) : Int)))), (.v (.c (.int .i64 (IntKind.wrap .i64 (((i : Nat) : Int) + (1 : Int))))))] [] [] 224 [] []) cY aY → Wq Try.prog Q (lpBk lgIn_k) ac Exit.normal aY cY.w) : Wq Try.prog Q (lpIn lgIn_k) ac .normal aX cX.w :=
  run_at2 (o := ⟨_, _, _, _, _, _, _⟩) envO_ok (by kernel_rfl) (lgN_hk ls N i) ho hs hK
theorem lgY_end (ls : List (List U4)) (N i : Nat) : runEnd envO Try.f73 false 3000 (⟨lpIn lgIn_k, .normal, lgS ls N i⟩) [true, true] [] [] = (Option.some ([((decide (((i : Nat) : Int) < ((N : Nat) : Int))) = true), ((0 : Int) ≤ ((i : Nat) : Int)), (((i : Nat) : Int) < (((List.length ls) : Nat) : Int)), ((decide ((((List.length (List.getD ls (((i : Nat) : Int)).toNat ([] : List U4))) : Nat) : Int) > (262144 : Int))) = true)], ((SV.v (V1.c (It.lit true))), []))) := by kernel_rfl
theorem lgX_end (ls : List (List U4)) (N i : Nat) : runEnd envO Try.f73 false 3000 (⟨lpIn lgIn_k, .normal, lgS ls N i⟩) [false] [] [] = (Option.some ([((decide (((i : Nat) : Int) < ((N : Nat) : Int))) = false)], ((SV.v (V1.c (It.lit false))), []))) := by kernel_rfl
noncomputable def inS (a : List U4) (N : Nat) (L : List Fr) (i : Nat) : St := mkSt 23 [3, 9, 10, 11] [.v (.c (.slc 64 0 N 4)), (SV.v (V1.c (It.sl (Sq.fr a)))), .v (.c (.int .i64 (N : Int))), .v (.c (.int .i64 (i : Int)))] [64] [some (.sq (.s L))] 144 [] []
theorem inN_hk (a : List U4) (N : Nat) (L : List Fr) (i : Nat) : (run envO false 3000 ((⟨lpIn inIn_k, .normal, inS a N L i⟩ : Cfg)) [true]).cfg.k = lpBk inIn_k := by kernel_rfl
theorem inN (a : List U4) (N : Nat) (L : List Fr) (i : Nat) {w0 : World} {F0 : Nat → Prop} {K : Kp} {ac : List Act} {Q : Exit → Act → World → Prop} {cX : Ctx} {aX : Act} (ho : AllP [((decide (((i : Nat) : Int) < ((N : Nat) : Int))) = true), ((0 : Int) ≤ ((i : Nat) : Int)), (((i : Nat) : Int) < (((List.length a) : Nat) : Int)), ((0 : Int) ≤ ((i : Nat) : Int)), (((i : Nat) : Int) < ((N : Nat) : Int)), (0 = 0), ((((i : Nat) : Int)).toNat < (List.length L))]) (hs : Sim w0 F0 K ac (inS a N L i) cX aX) (hK : ∀ ac cY aY, Sim w0 F0 K ac (mkSt 23 [3, 9, 10, 11] [(.v (.c (.slc 64 0 N 4))), (.v (.c (.sl (.fr a)))), (.v (.c (.int .i64 ((N : Nat) : Int)))), (.v (.c (.int .i64 (IntKind.wrap .i64 (((i : Nat) : Int) + (1 : Int))))))] [64] [(some (.sq (.s (List.set L (((i : Nat) : Int)).toNat (inF (List.getD a (((i : Nat) : Int)).toNat (0 : U4)))))))] 384 [] []) cY aY → Wq Try.prog Q (lpBk inIn_k) ac Exit.normal aY cY.w) : Wq Try.prog Q (lpIn inIn_k) ac .normal aX cX.w :=
  run_at2 (o := ⟨_, _, _, _, _, _, _⟩) envO_ok (by kernel_rfl) (inN_hk a N L i) ho hs hK
theorem inX_end (a : List U4) (N : Nat) (L : List Fr) (i : Nat) : runEnd envO Try.f74 false 3000 (⟨lpIn inIn_k, .normal, inS a N L i⟩) [false] [64] [] = (Option.some ([((decide (((i : Nat) : Int) < ((N : Nat) : Int))) = false)], ((SV.v (V1.c (It.slc 0 0 N 4))), [(En.sq (Sq.s L))]))) := by kernel_rfl
noncomputable def bkS (a : List Fr) (n : Nat) : St := mkSt 37 [0, 3] [(SV.v (V1.c (It.sl (Sq.s a)))), .v (.c (.int .i64 (n : Int)))] [] [] 80 [] []
theorem bkN_hk (a : List Fr) (n : Nat) : (run envO false 3000 ((⟨lpIn bkIn_k, .normal, bkS a n⟩ : Cfg)) [true, true]).cfg.k = lpBk bkIn_k := by kernel_rfl
theorem bkN (a : List Fr) (n : Nat) {w0 : World} {F0 : Nat → Prop} {K : Kp} {ac : List Act} {Q : Exit → Act → World → Prop} {cX : Ctx} {aX : Act} (ho : AllP [((decide (((n : Nat) : Int) > (0 : Int))) = true), ((0 : Int) ≤ (IntKind.wrap .i64 (((n : Nat) : Int) - (1 : Int)))), ((IntKind.wrap .i64 (((n : Nat) : Int) - (1 : Int))) < (((List.length a) : Nat) : Int)), ((decide ((List.getD a ((IntKind.wrap .i64 (((n : Nat) : Int) - (1 : Int)))).toNat (0 : Fr)) = (0 : Fr))) = true)]) (hs : Sim w0 F0 K ac (bkS a n) cX aX) (hK : ∀ ac cY aY, Sim w0 F0 K ac (mkSt 37 [0, 3] [(.v (.c (.sl (.s a)))), (.v (.c (.int .i64 (IntKind.wrap .i64 (((n : Nat) : Int) - (1 : Int))))))] [] [] 288 [] []) cY aY → Wq Try.prog Q (lpBk bkIn_k) ac Exit.normal aY cY.w) : Wq Try.prog Q (lpIn bkIn_k) ac .normal aX cX.w :=
  run_at2 (o := ⟨_, _, _, _, _, _, _⟩) envO_ok (by kernel_rfl) (bkN_hk a n) ho hs hK
noncomputable def bkB_k : List KI := (run envO false 3000 ((fun (a : List Fr) (n : Nat) => (⟨lpIn bkIn_k, .normal, bkS a n⟩ : Cfg)) default default) [true, false]).cfg.k
theorem bkB_hk (a : List Fr) (n : Nat) : (run envO false 3000 ((⟨lpIn bkIn_k, .normal, bkS a n⟩ : Cfg)) [true, false]).cfg.k = bkB_k := by kernel_rfl
theorem bkB (a : List Fr) (n : Nat) {w0 : World} {F0 : Nat → Prop} {K : Kp} {ac : List Act} {Q : Exit → Act → World → Prop} {cX : Ctx} {aX : Act} (ho : AllP [((decide (((n : Nat) : Int) > (0 : Int))) = true), ((0 : Int) ≤ (IntKind.wrap .i64 (((n : Nat) : Int) - (1 : Int)))), ((IntKind.wrap .i64 (((n : Nat) : Int) - (1 : Int))) < (((List.length a) : Nat) : Int)), ((decide ((List.getD a ((IntKind.wrap .i64 (((n : Nat) : Int) - (1 : Int)))).toNat (0 : Fr)) = (0 : Fr))) = false), ((0 : Int) ≤ ((n : Nat) : Int)), (((n : Nat) : Int) = ((n : Nat) : Int)), (((32 : Int) * ((n : Nat) : Int)) ≤ (281474976710656 : Int)), (((n : Nat) : Int) ≤ (9223372036854775807 : Int))]) (hs : Sim w0 F0 K ac (bkS a n) cX aX) (hK : ∀ ac cY aY, Sim w0 F0 K ac (mkSt 37 [0, 4, 23, 24] [(.v (.c (.sl (.s a)))), (.v (.c (.slc 256 0 (((n : Nat) : Int)).toNat 4))), (.v (.c (.int .i64 (((((n : Nat) : Int)).toNat : Nat) : Int)))), (.v (.c (.int .i64 (0 : Int))))] [256] [(some (.sq (.fr (List.replicate (((n : Nat) : Int)).toNat (0 : U4)))))] 336 [] []) cY aY → Wq Try.prog Q (bkB_k) ac Exit.normal aY cY.w) : Wq Try.prog Q (lpIn bkIn_k) ac .normal aX cX.w :=
  run_at2 (o := ⟨_, _, _, _, _, _, _⟩) envO_ok (by kernel_rfl) (bkB_hk a n) ho hs hK
theorem bkC_hk (a : List Fr) (n : Nat) : (run envO false 3000 ((⟨lpIn bkIn_k, .normal, bkS a n⟩ : Cfg)) [false]).cfg.k = bkB_k := by kernel_rfl
theorem bkC (a : List Fr) (n : Nat) {w0 : World} {F0 : Nat → Prop} {K : Kp} {ac : List Act} {Q : Exit → Act → World → Prop} {cX : Ctx} {aX : Act} (ho : AllP [((decide (((n : Nat) : Int) > (0 : Int))) = false), ((0 : Int) ≤ ((n : Nat) : Int)), (((n : Nat) : Int) = ((n : Nat) : Int)), (((32 : Int) * ((n : Nat) : Int)) ≤ (281474976710656 : Int)), (((n : Nat) : Int) ≤ (9223372036854775807 : Int))]) (hs : Sim w0 F0 K ac (bkS a n) cX aX) (hK : ∀ ac cY aY, Sim w0 F0 K ac (mkSt 37 [0, 4, 23, 24] [(.v (.c (.sl (.s a)))), (.v (.c (.slc 256 0 (((n : Nat) : Int)).toNat 4))), (.v (.c (.int .i64 (((((n : Nat) : Int)).toNat : Nat) : Int)))), (.v (.c (.int .i64 (0 : Int))))] [256] [(some (.sq (.fr (List.replicate (((n : Nat) : Int)).toNat (0 : U4)))))] 336 [] []) cY aY → Wq Try.prog Q (bkB_k) ac Exit.normal aY cY.w) : Wq Try.prog Q (lpIn bkIn_k) ac .normal aX cX.w :=
  run_at2 (o := ⟨_, _, _, _, _, _, _⟩) envO_ok (by kernel_rfl) (bkC_hk a n) ho hs hK
noncomputable def bkT (a : List Fr) (N : Nat) (L : List U4) (i : Nat) : St := mkSt 37 [0, 4, 23, 24] [(SV.v (V1.c (It.sl (Sq.s a)))), .v (.c (.slc 256 0 N 4)), .v (.c (.int .i64 (N : Int))), .v (.c (.int .i64 (i : Int)))] [256] [some (.sq (.fr L))] 336 [] []
theorem bkM_hk (a : List Fr) (N : Nat) (L : List U4) (i : Nat) : (run envO false 3000 ((⟨lpIn bkB_k, .normal, bkT a N L i⟩ : Cfg)) [true]).cfg.k = lpBk bkB_k := by kernel_rfl
theorem bkM (a : List Fr) (N : Nat) (L : List U4) (i : Nat) {w0 : World} {F0 : Nat → Prop} {K : Kp} {ac : List Act} {Q : Exit → Act → World → Prop} {cX : Ctx} {aX : Act} (ho : AllP [((decide (((i : Nat) : Int) < ((N : Nat) : Int))) = true), ((0 : Int) ≤ ((i : Nat) : Int)), (((i : Nat) : Int) < (((List.length a) : Nat) : Int)), ((0 : Int) ≤ ((i : Nat) : Int)), (((i : Nat) : Int) < ((N : Nat) : Int)), (0 = 0), ((((i : Nat) : Int)).toNat < (List.length L))]) (hs : Sim w0 F0 K ac (bkT a N L i) cX aX) (hK : ∀ ac cY aY, Sim w0 F0 K ac (mkSt 37 [0, 4, 23, 24] [(.v (.c (.sl (.s a)))), (.v (.c (.slc 256 0 N 4))), (.v (.c (.int .i64 ((N : Nat) : Int)))), (.v (.c (.int .i64 (IntKind.wrap .i64 (((i : Nat) : Int) + (1 : Int))))))] [256] [(some (.sq (.fr (List.set L (((i : Nat) : Int)).toNat (outF (List.getD a (((i : Nat) : Int)).toNat (0 : Fr)))))))] 560 [] []) cY aY → Wq Try.prog Q (lpBk bkB_k) ac Exit.normal aY cY.w) : Wq Try.prog Q (lpIn bkB_k) ac .normal aX cX.w :=
  run_at2 (o := ⟨_, _, _, _, _, _, _⟩) envO_ok (by kernel_rfl) (bkM_hk a N L i) ho hs hK
theorem bkX_end (a : List Fr) (N : Nat) (L : List U4) (i : Nat) : runEnd envO Try.f76 false 3000 (⟨lpIn bkB_k, .normal, bkT a N L i⟩) [false] [256] [] = (Option.some ([((decide (((i : Nat) : Int) < ((N : Nat) : Int))) = false)], ((SV.v (V1.c (It.slc 0 0 N 4))), [(En.sq (Sq.fr L))]))) := by kernel_rfl
theorem cfA (a : List U4) (i : Int) : fnRes envO Try.f80 3000 [.v (.c (.sl (.fr a))), .v (.c (.int .i64 i))] [false, true] [] [] = (Option.some ([((decide (i < (0 : Int))) = false), ((decide (i ≥ (((List.length a) : Nat) : Int))) = true)], ((SV.v (V1.a [(It.ob (Ob.fr (0 : U4)))])), []))) := by kernel_rfl
theorem cfB (a : List U4) (i : Int) : fnRes envO Try.f80 3000 [.v (.c (.sl (.fr a))), .v (.c (.int .i64 i))] [false, false] [] [] = (Option.some ([((decide (i < (0 : Int))) = false), ((decide (i ≥ (((List.length a) : Nat) : Int))) = false), ((0 : Int) ≤ i), (i < (((List.length a) : Nat) : Int))], ((SV.v (V1.a [(It.ob (Ob.fr (cleanU (List.getD a (i).toNat (0 : U4)))))])), []))) := by kernel_rfl
theorem smallM  : fnRes envO Try.f81 3000 [.v (.c (.int .i64 (-1)))] [false] [] [] = (Option.some ([((decide ((-(1 : Int)) ≥ (0 : Int))) = false), ((0 : Int) ≤ (1 : Int)), ((1 : Int) < (18446744073709551616 : Int)), ((0 : Int) ≤ (0 : Int)), ((0 : Int) < (18446744073709551616 : Int)), ((0 : Int) ≤ (0 : Int)), ((0 : Int) < (18446744073709551616 : Int)), ((0 : Int) ≤ (0 : Int)), ((0 : Int) < (18446744073709551616 : Int))], ((SV.v (V1.a [(It.ob (Ob.fr (rU - (Fin.ofNat B4 1))))])), []))) := by kernel_rfl
end Go.Proofs.Ytlfllehomhcbfaa

/- Small functions of polynomials: contracts. No conditions. -/
namespace Go.Proofs.Ytlfllehomhcbfaa

/-- How many coefficients are left of the first n, what is 0 at the end left out. -/
def trimN (l : List Fr) : Nat → Nat
  | 0 => 0
  | n + 1 => if l.getD n 0 = 0 then trimN l n else n + 1
def trimF (l : List Fr) : List Fr := l.take (trimN l l.length)

theorem trimN_le (l : List Fr) : ∀ n, trimN l n ≤ n
  | 0 => Nat.le_refl _
  | n + 1 => by
    show (if l.getD n 0 = 0 then trimN l n else n + 1) ≤ n + 1
    split
    · exact Nat.le_succ_of_le (trimN_le l n)
    · exact Nat.le_refl _

theorem trimF_len (l : List Fr) : (trimF l).length = trimN l l.length := by
  have := trimN_le l l.length
  unfold trimF
  rw [List.length_take]
  omega

theorem few_fnd (a : List U4) : FnD Try.prog 29 [.v (.c (.sl (.fr a)))] (.v (.c (.sl (.fr (a.take 40))))) [] := by
  have r := fewR a
  have e : a.take (if (40 : Int) < (a.length : Int) then (40 : Int) else (a.length : Int)).toNat = a.take 40 := by
    split
    · rfl
    · rw [Int.toNat_natCast, List.take_of_length_le (Nat.le_refl _), List.take_of_length_le (by omega)]
  rw [List.drop_zero, e] at r
  exact fn_sound envO_ok Try.func29 r ⟨by split <;> omega, by split <;> omega, trivial⟩

theorem any_drop {α : Type} (f : α → Bool) (d : α) (l : List α) (i : Nat) (h : i < l.length) : (l.drop i).any f = (f (l.getD i d) || (l.drop (i + 1)).any f) := by
  rw [List.drop_eq_getElem_cons h, List.any_cons]
  simp [List.getD, h]

def longB (ls : List (List U4)) : Bool := ls.any fun l => decide (262144 < l.length)
theorem long_fnd (ls : List (List U4)) : FnD Try.prog 73 [.v (.c (.sl (.frs ls)))] (.v (.c (.bool (longB ls)))) [] := by
  refine fn_start (fn := Try.f73) (c := bodyOf Try.f73) Try.func73 rfl rfl fun x a hk hF hs => ?_
  have hl : ls.length ≤ maxLen := sl_len (q := .frs ls) (hs.t 0)
  unfold maxLen at hl
  refine lgIn ls trivial hs fun ac cY aY hs1 => ?_
  refine loop_rule (ι := { i : Nat // i ≤ ls.length ∧ longB ls = longB (ls.drop i) }) (fun i => lgS ls ls.length i.1) (fun i => ls.length - i.1) (c := lpC lgIn_k) (k := lpR lgIn_k) (by kernel_rfl) (fun i ih ac cY aY hs => ?_) ⟨0, Nat.zero_le _, rfl⟩ hs1
  obtain ⟨i, hi, he⟩ := i
  simp only at ih hs
  by_cases h : i < ls.length
  · have hd := any_drop (fun l : List U4 => decide (262144 < l.length)) [] ls i h
    by_cases hg : 262144 < (ls.getD i []).length
    · refine run_end2 envO_ok hk hF (lgY_end ls ls.length i) ⟨by simp [h], by omega, by omega, by rw [Int.toNat_natCast, decide_eq_true_eq]; omega, trivial⟩ (fun y v hd' => ?_) hs
      rw [he]
      unfold longB
      rw [hd, decide_eq_true hg, Bool.true_or]
      exact lit_bool rfl hd'
    · refine lgN ls ls.length i ⟨by simp [h], by omega, by omega, by rw [Int.toNat_natCast, decide_eq_false_iff_not]; omega, trivial⟩ hs fun ac cY aY hs2 => ?_
      rw [wrap_id (by omega) (by omega)] at hs2
      refine ih ⟨i + 1, by omega, ?_⟩ (by show ls.length - (i + 1) < ls.length - i; omega) ac cY aY (hs2.nx _)
      rw [he]
      unfold longB
      rw [hd, decide_eq_false hg, Bool.false_or]
  · have e : i = ls.length := by omega
    refine run_end2 envO_ok hk hF (lgX_end ls ls.length i) ⟨by simp [h], trivial⟩ (fun y v hd' => ?_) hs
    rw [he, e, List.drop_length]
    exact lit_bool rfl hd'

theorem in_fnd (a : List U4) (hl0 : a.length ≤ 8796093022208) : FnD Try.prog 74 [.v (.c (.sl (.fr a)))] (.v (.c (.slc 0 0 a.length 4))) [.sq (.s (a.map inF))] := by
  refine fn_start (fn := Try.f74) (c := bodyOf Try.f74) Try.func74 rfl rfl fun x a0 hk hF hs => ?_
  refine inIn a (by and_intros <;> first | trivial | decide | omega) hs fun ac cY aY hs1 => ?_
  rw [Int.toNat_natCast] at hs1
  refine loop_rule (ι := { i : Nat // i ≤ a.length }) (fun i => inS a a.length ((List.range i.1).map (fun i => inF (a.getD i 0)) ++ List.replicate (a.length - i.1) 0) i.1) (fun i => a.length - i.1) (c := lpC inIn_k) (k := lpR inIn_k) (by kernel_rfl) (fun i ih ac cY aY hs => ?_) ⟨0, Nat.zero_le _⟩ hs1
  obtain ⟨i, hi⟩ := i
  simp only at ih hs
  have hl := fill_len (fun i => inF (a.getD i 0)) 0 hi
  by_cases h : i < a.length
  · refine inN a a.length _ i ⟨by simp [h], by omega, by omega, by omega, by omega, rfl, by rw [hl]; omega, trivial⟩ hs fun ac cY aY hs2 => ?_
    rw [Int.toNat_natCast, fill_set (fun i => inF (a.getD i 0)) _ h, wrap_id (by omega) (by omega)] at hs2
    exact ih ⟨i + 1, by omega⟩ (by show a.length - (i + 1) < a.length - i; omega) ac cY aY (hs2.nx _)
  · have e : i = a.length := by omega
    rw [e, Nat.sub_self, List.replicate_zero, List.append_nil, range_getD] at hs
    exact run_end2 envO_ok hk hF (inX_end a a.length _ a.length) ⟨by simp, trivial⟩ (fun y v hd => hd) hs

theorem range_take {α β : Type} (g : α → β) (l : List α) (d : α) {n : Nat} (h : n ≤ l.length) : (List.range n).map (fun i => g (l.getD i d)) = (l.take n).map g := by
  apply List.ext_getElem
  · simp; omega
  · intro i h1 h2
    simp at h1
    simp [List.getD, show i < l.length from by omega]

theorem back_fnd (a : List Fr) (hl0 : a.length ≤ 8796093022208) : FnD Try.prog 76 [.v (.c (.sl (.s a)))] (.v (.c (.slc 0 0 (trimF a).length 4))) [.sq (.fr ((trimF a).map outF))] := by
  rw [trimF_len]
  refine fn_start (fn := Try.f76) (c := bodyOf Try.f76) Try.func76 rfl rfl fun x a0 hk hF hs => ?_
  refine bkIn a trivial hs fun ac cY aY hs1 => ?_
  refine loop_rule (ι := { n : Nat // n ≤ a.length ∧ trimN a n = trimN a a.length }) (fun n => bkS a n.1) (fun n => n.1) (c := lpC bkIn_k) (k := lpR bkIn_k) (by kernel_rfl) (fun n ih ac cY aY hs => ?_) ⟨a.length, Nat.le_refl _, rfl⟩ hs1
  obtain ⟨n, hn, he⟩ := n
  simp only at ih hs
  -- from the second loop on
  have key : trimN a a.length = n → ∀ ac cY aY, Sim x.w x.F kAll ac (bkT a n (List.replicate n 0) 0) cY aY → Wq Try.prog (Post Try.prog Try.f76 x (.v (.c (.slc 0 0 (trimN a a.length) 4))) [.sq (.fr ((trimF a).map outF))]) bkB_k ac .normal aY cY.w := by
    intro hN ac cY aY hs
    have hs : Sim x.w x.F kAll ac (bkT a n ((List.range 0).map (fun i => outF (a.getD i 0)) ++ List.replicate (n - 0) 0) 0) cY aY := hs
    refine loop_rule (ι := { i : Nat // i ≤ n }) (fun i => bkT a n ((List.range i.1).map (fun i => outF (a.getD i 0)) ++ List.replicate (n - i.1) 0) i.1) (fun i => n - i.1) (c := lpC bkB_k) (k := lpR bkB_k) (by kernel_rfl) (fun i ih ac cY aY hs => ?_) ⟨0, Nat.zero_le _⟩ hs
    obtain ⟨i, hi⟩ := i
    simp only at ih hs
    have hl := fill_len (fun i => outF (a.getD i 0)) 0 hi
    by_cases h : i < n
    · refine bkM a n _ i ⟨by simp [h], by omega, by omega, by omega, by omega, rfl, by rw [hl]; omega, trivial⟩ hs fun ac cY aY hs2 => ?_
      rw [Int.toNat_natCast, fill_set (fun i => outF (a.getD i 0)) _ h, wrap_id (by omega) (by omega)] at hs2
      exact ih ⟨i + 1, by omega⟩ (by show n - (i + 1) < n - i; omega) ac cY aY (hs2.nx _)
    · have e : i = n := by omega
      unfold trimF
      rw [e, Nat.sub_self, List.replicate_zero, List.append_nil, range_take _ _ _ hn] at hs
      rw [hN]
      exact run_end2 envO_ok hk hF (bkX_end a n _ n) ⟨by simp, trivial⟩ (fun y v hd => hd) hs
  by_cases h0 : n = 0
  · refine bkC a n (by and_intros <;> first | trivial | decide | omega | (simp only [decide_eq_false_iff_not]; omega)) hs fun ac cY aY hs2 => ?_
    rw [Int.toNat_natCast] at hs2
    exact key (by rw [← he, h0]; rfl) ac cY aY (hs2.nx _)
  · obtain ⟨m, rfl⟩ : ∃ m, n = m + 1 := ⟨n - 1, by omega⟩
    have hw : IntKind.wrap IntKind.i64 (((m + 1 : Nat) : Int) - 1) = (m : Int) := by rw [wrap_id (by omega) (by omega)]; omega
    have hT : trimN a (m + 1) = if a.getD m 0 = 0 then trimN a m else m + 1 := rfl
    by_cases hz : a.getD m 0 = 0
    · refine bkN a (m + 1) (by rw [hw]; exact ⟨by simp only [decide_eq_true_eq]; omega, by omega, by omega, by rw [Int.toNat_natCast, decide_eq_true hz], trivial⟩) hs fun ac cY aY hs2 => ?_
      rw [hw] at hs2
      exact ih ⟨m, by omega, by rw [← he, hT, if_pos hz]⟩ (Nat.lt_succ_self m) ac cY aY (hs2.nx _)
    · refine bkB a (m + 1) (by rw [hw]; exact ⟨by simp only [decide_eq_true_eq]; omega, by omega, by omega, by rw [Int.toNat_natCast, decide_eq_false hz], by omega, rfl, by omega, by omega, trivial⟩) hs fun ac cY aY hs2 => ?_
      rw [Int.toNat_natCast] at hs2
      exact key (by rw [← he, hT, if_neg hz]) ac cY aY (hs2.nx _)

theorem coef_fnd (a : List U4) (i : Nat) : FnD Try.prog 80 [.v (.c (.sl (.fr a))), .v (.c (.int .i64 (i : Int)))] (.v (.a [.ob (.fr (outF ((a.map inF).getD i 0)))])) [] := by
  by_cases h : i < a.length
  · have r := cfB a i
    rw [Int.toNat_natCast, clean_out] at r
    have e : (a.map inF).getD i 0 = inF (a.getD i 0) := by simp [List.getD, h]
    rw [e]
    exact fn_sound envO_ok Try.func80 r ⟨by simp only [decide_eq_false_iff_not]; omega, by simp only [decide_eq_false_iff_not]; omega, by omega, by omega, trivial⟩
  · have e : outF ((a.map inF).getD i 0) = 0 := by
      have : (a.map inF).getD i 0 = 0 := by simp [List.getD, show a.length ≤ i from by omega]
      rw [this]
      apply Fin.ext
      rw [outF_val]
      rfl
    rw [e]
    exact fn_sound envO_ok Try.func80 (cfA a i) ⟨by simp only [decide_eq_false_iff_not]; omega, by simp only [decide_eq_true_eq]; omega, trivial⟩

end Go.Proofs.Ytlfllehomhcbfaa

/- Less a number, by the reference. No conditions. -/
namespace Go.Proofs.Ytlfllehomhcbfaa

theorem neg_arith {r B n : Nat} (h0 : 0 < n) (h : n < r) (hb : r < B) : (B - n + r) % B = (r - n) % r := by
  rw [Nat.mod_eq_of_lt (a := r - n) (by omega), show B - n + r = (r - n) + B from by omega, Nat.add_mod_right, Nat.mod_eq_of_lt (by omega)]

theorem negU_val {x : Fr} (h : x ≠ 0) : rU - outF x = outF (0 - x) := by
  apply Fin.ext
  have hx : 0 < x.val := Nat.pos_of_ne_zero fun e => h (Fin.ext e)
  have hlt := x.isLt
  have e1 : (rU - outF x).val = (B4 - (outF x).val + rU.val) % B4 := rfl
  have e2 : (0 - x).val = (rN - x.val + (0 : Fr).val) % rN := rfl
  have e3 : (0 : Fr).val = 0 := rfl
  have hb : rN < B4 := by decide
  rw [e1, outF_val, outF_val, e2, e3, rU_val, Nat.add_zero]
  exact neg_arith hx hlt hb

theorem neg78_fnd (x : Fr) : FnD Try.prog 78 [.v (.a [.ob (.fr (outF x))])] (.v (.a [.ob (.fr (outF (0 - x)))])) [] := by
  by_cases h : x = 0
  · subst h
    have e : outF (0 : Fr) = 0 := by apply Fin.ext; rw [outF_val]; rfl
    have e2 : (0 : Fr) - 0 = 0 := Fin.ext (by show (rN - 0 + 0) % rN = 0; rw [Nat.add_zero, Nat.sub_zero, Nat.mod_self])
    have r := negA (outF 0)
    rw [e2]
    exact fn_sound envJ_ok Try.func78 r ⟨by rw [if_pos rfl, e]; rfl, trivial⟩
  · have r := negB (outF x)
    rw [negU_val h] at r
    have hne : outF x ≠ 0 := fun e => h (Fin.ext (by have := congrArg Fin.val e; rw [outF_val] at this; exact this))
    exact fn_sound envJ_ok Try.func78 r ⟨by rw [if_pos rfl, decide_eq_false hne], trivial⟩

theorem neg78_fnd' (a : U4) (h : a.val < rN) : FnD Try.prog 78 [.v (.a [.ob (.fr a)])] (.v (.a [.ob (.fr (outF (0 - inF a)))])) [] := by
  have := neg78_fnd (inF a)
  rw [out_in h] at this
  exact this

theorem sub_zero_add {r : Nat} [NeZero r] (x y : Fin r) : x + (0 - y) = x - y := by grind

end Go.Proofs.Ytlfllehomhcbfaa

/- Small functions of polynomials joined; the reference's trimming, sums and products, walked. No conditions. -/
namespace Go.Proofs.Ytlfllehomhcbfaa

theorem small81_fnd : FnD Try.prog 81 [.v (.c (.int .i64 (-1)))] (.v (.a [.ob (.fr (outF (0 - 1)))])) [] := by
  have r := smallM
  have h1 : (1 : Fr) ≠ 0 := fun e => by have := congrArg Fin.val e; revert this; decide
  rw [← out_one1, negU_val h1] at r
  exact fn_sound envO_ok Try.func81 r (by and_intros <;> first | trivial | decide)

def fewSpec : FnSpec
  | [.v (.c (.sl (.fr a)))] => some ([], .v (.c (.sl (.fr (a.take 40)))), [])
  | _ => none
noncomputable def envP1 : Env := envO.set (addT envO.fn 29 fewSpec)
theorem envP1_ok : EnvOk Try.prog envP1 := env_add envO_ok 29 fewSpec (enters_of Try.func29 rfl rfl) fun args o r es h _ => by
  unfold fewSpec at h
  split at h
  · cases h; exact few_fnd _
  · cases h
def longSpec : FnSpec
  | [.v (.c (.sl (.frs ls)))] => some ([], .v (.c (.bool (longB ls))), [])
  | _ => none
noncomputable def envP2 : Env := envP1.set (addT envP1.fn 73 longSpec)
theorem envP2_ok : EnvOk Try.prog envP2 := env_add envP1_ok 73 longSpec (enters_of Try.func73 rfl rfl) fun args o r es h _ => by
  unfold longSpec at h
  split at h
  · cases h; exact long_fnd _
  · cases h
def in74Spec : FnSpec
  | [.v (.c (.sl (.fr a)))] => some ([a.length ≤ 8796093022208], .v (.c (.slc 0 0 a.length 4)), [.sq (.s (a.map inF))])
  | _ => none
noncomputable def envP3 : Env := envP2.set (addT envP2.fn 74 in74Spec)
theorem envP3_ok : EnvOk Try.prog envP3 := env_add envP2_ok 74 in74Spec (enters_of Try.func74 rfl rfl) fun args o r es h ho => by
  unfold in74Spec at h
  split at h
  · cases h; exact in_fnd _ ho.1
  · cases h
def backSpec : FnSpec
  | [.v (.c (.sl (.s a)))] => some ([a.length ≤ 8796093022208], .v (.c (.slc 0 0 (trimF a).length 4)), [.sq (.fr ((trimF a).map outF))])
  | _ => none
noncomputable def envP4 : Env := envP3.set (addT envP3.fn 76 backSpec)
theorem envP4_ok : EnvOk Try.prog envP4 := env_add envP3_ok 76 backSpec (enters_of Try.func76 rfl rfl) fun args o r es h ho => by
  unfold backSpec at h
  split at h
  · cases h; exact back_fnd _ ho.1
  · cases h
def coefSpec : FnSpec
  | [.v (.c (.sl (.fr a))), .v (.c (.int .i64 i))] => some ([0 ≤ i], .v (.a [.ob (.fr (outF ((a.map inF).getD i.toNat 0)))]), [])
  | _ => none
noncomputable def envP5 : Env := envP4.set (addT envP4.fn 80 coefSpec)
theorem envP5_ok : EnvOk Try.prog envP5 := env_add envP4_ok 80 coefSpec (enters_of Try.func80 rfl rfl) fun args o r es h ho => by
  unfold coefSpec at h
  split at h
  · cases h; exact (by rename_i a i; obtain ⟨j, rfl⟩ := Int.eq_ofNat_of_zero_le ho.1; exact coef_fnd a j)
  · cases h
def smallMSpec : FnSpec
  | [.v (.c (.int .i64 n))] => some ([n = -1], .v (.a [.ob (.fr (outF (0 - 1)))]), [])
  | _ => none
noncomputable def envP6 : Env := envP5.set (addT envP5.fn 81 smallMSpec)
theorem envP6_ok : EnvOk Try.prog envP6 := env_add envP5_ok 81 smallMSpec (enters_of Try.func81 rfl rfl) fun args o r es h ho => by
  unfold smallMSpec at h
  split at h
  · cases h; exact (by obtain ⟨rfl, _⟩ := ho; exact small81_fnd)
  · cases h
def neg78Spec : FnSpec
  | [.v (.a [.ob (.fr a)])] => some ([a.val < rN], .v (.a [.ob (.fr (outF (0 - inF a)))]), [])
  | _ => none
noncomputable def envP7 : Env := envP6.set (addT envP6.fn 78 neg78Spec)
theorem envP7_ok : EnvOk Try.prog envP7 := env_add envP6_ok 78 neg78Spec (enters_of Try.func78 rfl rfl) fun args o r es h ho => by
  unfold neg78Spec at h
  split at h
  · cases h; exact neg78_fnd' _ ho.1
  · cases h
--@env envP7 envP7_ok
theorem subR (a b : U4) : fnRes envP7 Try.f31 3000 [.v (.a [.ob (.fr a)]), .v (.a [.ob (.fr b)])] [] [] [] = (Option.some ([((Fin.val b) < rN)], ((SV.v (V1.a [(It.ob (Ob.fr (cleanU (a + (outF ((0 : Fr) - (inF b)))))))])), []))) := by kernel_rfl
theorem trimR (a : List U4) : fnRes envP7 Try.f44 3000 [.v (.c (.sl (.fr a)))] [] [64] [] = (Option.some ([((List.length a) ≤ 8796093022208), (0 = 0), ((List.length a) = (List.length (List.map inF a))), (4 = 4), ((List.length (List.map inF a)) ≤ 8796093022208)], ((SV.v (V1.c (It.slc 0 0 (List.length (trimF (List.map inF a))) 4))), [(En.sq (Sq.fr (List.map outF (trimF (List.map inF a)))))]))) := by kernel_rfl
noncomputable def tmIn_k : List KI := (run envP7 false 3000 ((fun (a : List U4) => (⟨[.code (bodyOf Try.f35)], .normal, initSt Try.f35.ntmps [.v (.c (.sl (.fr a)))]⟩ : Cfg)) default) []).cfg.k
theorem tmIn_hk (a : List U4) : (run envP7 false 3000 ((⟨[.code (bodyOf Try.f35)], .normal, initSt Try.f35.ntmps [.v (.c (.sl (.fr a)))]⟩ : Cfg)) []).cfg.k = tmIn_k := by kernel_rfl
theorem tmIn (a : List U4) {w0 : World} {F0 : Nat → Prop} {K : Kp} {ac : List Act} {Q : Exit → Act → World → Prop} {cX : Ctx} {aX : Act} (ho : AllP []) (hs : Sim w0 F0 K ac (initSt Try.f35.ntmps [.v (.c (.sl (.fr a)))]) cX aX) (hK : ∀ ac cY aY, Sim w0 F0 K ac (mkSt 39 [0, 3, 4] [(.v (.c (.sl (.fr a)))), (.v (.c (.slc 32 0 0 4))), (.v (.c (.int .i64 (IntKind.wrap .i64 ((((List.length a) : Nat) : Int) - (1 : Int))))))] [32] [(some (.sq (.fr ([] : List U4))))] 128 [] []) cY aY → Wq Try.prog Q (tmIn_k) ac Exit.normal aY cY.w) : Wq Try.prog Q ([.code (bodyOf Try.f35)]) ac .normal aX cX.w :=
  run_at2 (o := ⟨_, _, _, _, _, _, _⟩) envP7_ok (by kernel_rfl) (tmIn_hk a) ho hs hK
noncomputable def tmS (a : List U4) (i : Int) : St := mkSt 39 [0, 3, 4] [(SV.v (V1.c (It.sl (Sq.fr a)))), (SV.v (V1.c (It.slc 32 0 0 4))), .v (.c (.int .i64 i))] [32] [(Option.some (En.sq (Sq.fr ([] : List U4))))] 128 [] []
theorem tmN_hk (a : List U4) (i : Int) : (run envP7 false 3000 ((⟨lpIn tmIn_k, .normal, tmS a i⟩ : Cfg)) [true, true]).cfg.k = lpBk tmIn_k := by kernel_rfl
theorem tmN (a : List U4) (i : Int) {w0 : World} {F0 : Nat → Prop} {K : Kp} {ac : List Act} {Q : Exit → Act → World → Prop} {cX : Ctx} {aX : Act} (ho : AllP [((decide (i ≥ (0 : Int))) = true), ((0 : Int) ≤ i), (i < (((List.length a) : Nat) : Int)), ((ite (true = true) (decide ((cleanU (List.getD a (i).toNat (0 : U4))) = (0 : U4))) (Bool.not (decide ((cleanU (List.getD a (i).toNat (0 : U4))) = (0 : U4))))) = true)]) (hs : Sim w0 F0 K ac (tmS a i) cX aX) (hK : ∀ ac cY aY, Sim w0 F0 K ac (mkSt 39 [0, 3, 4] [(.v (.c (.sl (.fr a)))), (.v (.c (.slc 32 0 0 4))), (.v (.c (.int .i64 (IntKind.wrap .i64 (i - (1 : Int))))))] [32] [(some (.sq (.fr ([] : List U4))))] 320 [] []) cY aY → Wq Try.prog Q (lpBk tmIn_k) ac Exit.normal aY cY.w) : Wq Try.prog Q (lpIn tmIn_k) ac .normal aX cX.w :=
  run_at2 (o := ⟨_, _, _, _, _, _, _⟩) envP7_ok (by kernel_rfl) (tmN_hk a i) ho hs hK
noncomputable def tmI_k : List KI := (run envP7 false 3000 ((fun (a : List U4) (i : Int) => (⟨lpIn tmIn_k, .normal, tmS a i⟩ : Cfg)) default default) [true, false]).cfg.k
theorem tmI_hk (a : List U4) (i : Int) : (run envP7 false 3000 ((⟨lpIn tmIn_k, .normal, tmS a i⟩ : Cfg)) [true, false]).cfg.k = tmI_k := by kernel_rfl
theorem tmI (a : List U4) (i : Int) {w0 : World} {F0 : Nat → Prop} {K : Kp} {ac : List Act} {Q : Exit → Act → World → Prop} {cX : Ctx} {aX : Act} (ho : AllP [((decide (i ≥ (0 : Int))) = true), ((0 : Int) ≤ i), (i < (((List.length a) : Nat) : Int)), ((ite (true = true) (decide ((cleanU (List.getD a (i).toNat (0 : U4))) = (0 : U4))) (Bool.not (decide ((cleanU (List.getD a (i).toNat (0 : U4))) = (0 : U4))))) = false), ((0 : Int) ≤ (IntKind.wrap .i64 (i + (1 : Int)))), ((IntKind.wrap .i64 (i + (1 : Int))) ≤ (((List.length a) : Nat) : Int))]) (hs : Sim w0 F0 K ac (tmS a i) cX aX) (hK : ∀ ac cY aY, Sim w0 F0 K ac (mkSt 39 [3, 25, 26, 27] [(.v (.c (.slc 32 0 0 4))), (.v (.c (.sl (.fr (List.take ((IntKind.wrap .i64 (i + (1 : Int)))).toNat (List.drop 0 a)))))), (.v (.c (.int .i64 (((Sq.n (Sq.cut (.fr a) 0 ((IntKind.wrap .i64 (i + (1 : Int)))).toNat)) : Nat) : Int)))), (.v (.c (.int .i64 (0 : Int))))] [32] [(some (.sq (.fr ([] : List U4))))] 368 [] []) cY aY → Wq Try.prog Q (tmI_k) ac Exit.normal aY cY.w) : Wq Try.prog Q (lpIn tmIn_k) ac .normal aX cX.w :=
  run_at2 (o := ⟨_, _, _, _, _, _, _⟩) envP7_ok (by kernel_rfl) (tmI_hk a i) ho hs hK
theorem tmX_end (a : List U4) (i : Int) : runEnd envP7 Try.f35 false 3000 (⟨lpIn tmIn_k, .normal, tmS a i⟩) [false] [32] [] = (Option.some ([((decide (i ≥ (0 : Int))) = false)], ((SV.v (V1.c (It.slc 0 0 0 4))), [(En.sq (Sq.fr ([] : List U4)))]))) := by kernel_rfl
noncomputable def tmT (b : List U4) (N : Nat) (n : Nat) (L : List U4) (j : Nat) : St := mkSt 39 [3, 25, 26, 27] [.v (.c (.slc 32 0 n 4)), .v (.c (.sl (.fr b))), .v (.c (.int .i64 (N : Int))), .v (.c (.int .i64 (j : Int)))] [32] [some (.sq (.fr L))] 368 [] []
theorem tmM_hk (b : List U4) (N : Nat) (n : Nat) (L : List U4) (j : Nat) : (run envP7 false 3000 ((⟨lpIn tmI_k, .normal, tmT b N n L j⟩ : Cfg)) [true]).cfg.k = lpBk tmI_k := by kernel_rfl
theorem tmM (b : List U4) (N : Nat) (n : Nat) (L : List U4) (j : Nat) {w0 : World} {F0 : Nat → Prop} {K : Kp} {ac : List Act} {Q : Exit → Act → World → Prop} {cX : Ctx} {aX : Act} (ho : AllP [((decide (((j : Nat) : Int) < ((N : Nat) : Int))) = true), ((0 : Int) ≤ ((j : Nat) : Int)), (((j : Nat) : Int) < (((List.length b) : Nat) : Int)), ((((List.length L) + 1) * 32) ≤ 140737488355328), (((List.length L) + 1) ≤ maxLen), (n = (List.length L)), (1 = 1)]) (hs : Sim w0 F0 K ac (tmT b N n L j) cX aX) (hK : ∀ ac cY aY, Sim w0 F0 K ac (mkSt 39 [3, 25, 26, 27] [(.v (.c (.slc 32 0 ((List.length L) + 1) 4))), (.v (.c (.sl (.fr b)))), (.v (.c (.int .i64 ((N : Nat) : Int)))), (.v (.c (.int .i64 (IntKind.wrap .i64 (((j : Nat) : Int) + (1 : Int))))))] [32] [(some (.sq (.fr (L ++ [(cleanU (List.getD b (((j : Nat) : Int)).toNat (0 : U4)))]))))] 576 [] []) cY aY → Wq Try.prog Q (lpBk tmI_k) ac Exit.normal aY cY.w) : Wq Try.prog Q (lpIn tmI_k) ac .normal aX cX.w :=
  run_at2 (o := ⟨_, _, _, _, _, _, _⟩) envP7_ok (by kernel_rfl) (tmM_hk b N n L j) ho hs hK
theorem tmY_end (b : List U4) (N : Nat) (n : Nat) (L : List U4) (j : Nat) : runEnd envP7 Try.f35 false 3000 (⟨lpIn tmI_k, .normal, tmT b N n L j⟩) [false] [32] [] = (Option.some ([((decide (((j : Nat) : Int) < ((N : Nat) : Int))) = false)], ((SV.v (V1.c (It.slc 0 0 n 4))), [(En.sq (Sq.fr L))]))) := by kernel_rfl
end Go.Proofs.Ytlfllehomhcbfaa

/- The reference's trimming: contract. No conditions. -/
namespace Go.Proofs.Ytlfllehomhcbfaa

theorem outF_zero (x : Fr) : outF x = 0 ↔ x = 0 := by
  refine ⟨fun e => Fin.ext ?_, fun e => ?_⟩
  · have := congrArg Fin.val e
    rw [outF_val] at this
    exact this
  · subst e
    apply Fin.ext
    rw [outF_val]
    rfl

theorem trim44_fnd (a : List U4) (h : a.length ≤ 8796093022208) : FnD Try.prog 44 [.v (.c (.sl (.fr a)))] (.v (.c (.slc 0 0 (trimF (a.map inF)).length 4))) [.sq (.fr ((trimF (a.map inF)).map outF))] :=
  fn_sound envP7_ok Try.func44 (trimR a) ⟨h, rfl, by simp, rfl, by simpa using h, trivial⟩

theorem getD_in (a : List U4) (i : Nat) (h : i < a.length) : (a.map inF).getD i 0 = inF (a.getD i 0) := by simp [List.getD, h]

theorem trim35_fnd (a : List U4) (hl0 : a.length ≤ 1099511627776) : FnD Try.prog 35 [.v (.c (.sl (.fr a)))] (.v (.c (.slc 0 0 (trimF (a.map inF)).length 4))) [.sq (.fr ((trimF (a.map inF)).map outF))] := by
  rw [trimF_len, List.length_map]
  refine fn_start (fn := Try.f35) (c := bodyOf Try.f35) Try.func35 rfl rfl fun x a0 hk hF hs => ?_
  refine tmIn a trivial hs fun ac cY aY hs1 => ?_
  rw [wrap_id (by omega) (by omega)] at hs1
  refine loop_rule (ι := { n : Nat // n ≤ a.length ∧ trimN (a.map inF) n = trimN (a.map inF) a.length }) (fun n => tmS a ((n.1 : Int) - 1)) (fun n => n.1) (c := lpC tmIn_k) (k := lpR tmIn_k) (by kernel_rfl) (fun n ih ac cY aY hs => ?_) ⟨a.length, Nat.le_refl _, rfl⟩ hs1
  obtain ⟨n, hn, he⟩ := n
  simp only at ih hs
  cases n with
  | zero =>
    have h0 : trimN (a.map inF) a.length = 0 := he.symm
    have e : trimF (a.map inF) = [] := by unfold trimF; rw [List.length_map, h0, List.take_zero]
    rw [h0, e]
    exact run_end2 envP7_ok hk hF (tmX_end a _) ⟨by simp only [decide_eq_false_iff_not]; omega, trivial⟩ (fun y v hd => hd) hs
  | succ m =>
    have hm : ((m + 1 : Nat) : Int) - 1 = (m : Int) := by omega
    rw [hm] at hs
    have hT : trimN (a.map inF) (m + 1) = if (a.map inF).getD m 0 = 0 then trimN (a.map inF) m else m + 1 := rfl
    rw [getD_in a m (by omega)] at hT
    by_cases hz : inF (a.getD m 0) = 0
    · rw [if_pos hz] at hT
      refine tmN a m ⟨by simp only [decide_eq_true_eq]; omega, by omega, by omega, by rw [if_pos rfl, Int.toNat_natCast, clean_out, decide_eq_true ((outF_zero _).2 hz)], trivial⟩ hs fun ac cY aY hs2 => ?_
      rw [wrap_id (by omega) (by omega)] at hs2
      exact ih ⟨m, by omega, by rw [← he, hT]⟩ (Nat.lt_succ_self m) ac cY aY (hs2.nx _)
    · rw [if_neg hz] at hT
      have hw : IntKind.wrap IntKind.i64 ((m : Int) + 1) = ((m + 1 : Nat) : Int) := by rw [wrap_id (by omega) (by omega)]; omega
      refine tmI a m (by rw [hw]; exact ⟨by simp only [decide_eq_true_eq]; omega, by omega, by omega, by rw [if_pos rfl, Int.toNat_natCast, clean_out, decide_eq_false fun h => hz ((outF_zero _).1 h)], by omega, by omega, trivial⟩) hs fun ac cY aY hs2 => ?_
      have hlen : (a.take (m + 1)).length = m + 1 := by rw [List.length_take]; omega
      have hn2 : ((Sq.n (Sq.cut (Sq.fr a) 0 (m + 1)) : Nat) : Int) = ((m + 1 : Nat) : Int) := by
        show (((a.drop 0).take (m + 1)).length : Int) = _
        rw [List.drop_zero, hlen]
      rw [hw, Int.toNat_natCast, hn2, List.drop_zero] at hs2
      have hN : trimN (a.map inF) a.length = m + 1 := by rw [← he, hT]
      have hF2 : trimF (a.map inF) = (a.take (m + 1)).map inF := by unfold trimF; rw [List.length_map, hN, List.map_take]
      rw [hN, hF2]
      generalize a.take (m + 1) = b at hs2 hlen ⊢
      rw [← hlen]
      clear ih he hT hF2 hN hz hw hn2
      have hs2 : Sim x.w x.F kAll ac (tmT b b.length 0 ((b.take 0).map fun u => outF (inF u)) 0) cY aY := by rw [hlen]; exact hs2.nx _
      refine loop_rule (ι := { j : Nat // j ≤ b.length }) (fun j => tmT b b.length j.1 ((b.take j.1).map fun u => outF (inF u)) j.1) (fun j => b.length - j.1) (c := lpC tmI_k) (k := lpR tmI_k) (by kernel_rfl) (fun j ih ac cY aY hs => ?_) ⟨0, Nat.zero_le _⟩ hs2
      obtain ⟨j, hj⟩ := j
      simp only at ih hs
      have hLl : ((b.take j).map fun u => outF (inF u)).length = j := by rw [List.length_map, List.length_take]; omega
      by_cases h : j < b.length
      · refine tmM b b.length j _ j ⟨by simp [h], by omega, by omega, by rw [hLl]; omega, by rw [hLl]; unfold maxLen; omega, hLl.symm, rfl, trivial⟩ hs fun ac cY aY hs3 => ?_
        have e3 : (b.take j).map (fun u => outF (inF u)) ++ [outF (inF (b.getD j 0))] = (b.take (j + 1)).map fun u => outF (inF u) := by
          rw [List.take_succ_eq_append_getElem h, List.map_append]
          simp [List.getD, h]
        rw [hLl, Int.toNat_natCast, clean_out, e3, wrap_id (by omega) (by omega)] at hs3
        exact ih ⟨j + 1, by omega⟩ (by show b.length - (j + 1) < b.length - j; omega) ac cY aY (hs3.nx _)
      · have e : j = b.length := by omega
        rw [e, List.take_length] at hs
        rw [List.map_map]
        exact run_end2 envP7_ok hk hF (tmY_end b b.length b.length _ b.length) ⟨by simp, trivial⟩ (fun y v hd => hd) hs

end Go.Proofs.Ytlfllehomhcbfaa

/- The reference's sums, products, X^n - 1; the quotients, walked. No conditions. -/
namespace Go.Proofs.Ytlfllehomhcbfaa


theorem sub31_fnd (a b : U4) (ha : a.val < rN) (hb : b.val < rN) : FnD Try.prog 31 [.v (.a [.ob (.fr a)]), .v (.a [.ob (.fr b)])] (.v (.a [.ob (.fr (outF (inF a - inF b)))])) [] := by
  have r := subR a b
  have e : cleanU (a + outF (0 - inF b)) = outF (inF a - inF b) := by
    have := addU_out (inF a) (0 - inF b)
    rw [out_in ha] at this
    rw [this, sub_zero_add]
  rw [e] at r
  exact fn_sound envP7_ok Try.func31 r ⟨hb, trivial⟩

def sub31Spec : FnSpec
  | [.v (.a [.ob (.fr a)]), .v (.a [.ob (.fr b)])] => some ([a.val < rN, b.val < rN], .v (.a [.ob (.fr (outF (inF a - inF b)))]), [])
  | _ => none
noncomputable def envQ1 : Env := envP7.set (addT envP7.fn 31 sub31Spec)
theorem envQ1_ok : EnvOk Try.prog envQ1 := env_add envP7_ok 31 sub31Spec (enters_of Try.func31 rfl rfl) fun args o r es h ho => by
  unfold sub31Spec at h
  split at h
  · cases h; exact sub31_fnd _ _ ho.1 ho.2.1
  · cases h
def trim44Spec : FnSpec
  | [.v (.c (.sl (.fr a)))] => some ([a.length ≤ 8796093022208], .v (.c (.slc 0 0 (trimF (a.map inF)).length 4)), [.sq (.fr ((trimF (a.map inF)).map outF))])
  | _ => none
noncomputable def envQ2 : Env := envQ1.set (addT envQ1.fn 44 trim44Spec)
theorem envQ2_ok : EnvOk Try.prog envQ2 := env_add envQ1_ok 44 trim44Spec (enters_of Try.func44 rfl rfl) fun args o r es h ho => by
  unfold trim44Spec at h
  split at h
  · cases h; exact trim44_fnd _ ho.1
  · cases h
def trim35Spec : FnSpec
  | [.v (.c (.sl (.fr a)))] => some ([a.length ≤ 1099511627776], .v (.c (.slc 0 0 (trimF (a.map inF)).length 4)), [.sq (.fr ((trimF (a.map inF)).map outF))])
  | _ => none
noncomputable def envQ3 : Env := envQ2.set (addT envQ2.fn 35 trim35Spec)
theorem envQ3_ok : EnvOk Try.prog envQ3 := env_add envQ2_ok 35 trim35Spec (enters_of Try.func35 rfl rfl) fun args o r es h ho => by
  unfold trim35Spec at h
  split at h
  · cases h; exact trim35_fnd _ ho.1
  · cases h
--@env envQ3 envQ3_ok
noncomputable def adIn_k : List KI := (run envQ3 false 3000 ((fun (a b : List U4) => (⟨[.code (bodyOf Try.f33)], .normal, initSt Try.f33.ntmps [.v (.c (.sl (.fr a))), .v (.c (.sl (.fr b)))]⟩ : Cfg)) default default) []).cfg.k
theorem adIn_hk (a b : List U4) : (run envQ3 false 3000 ((⟨[.code (bodyOf Try.f33)], .normal, initSt Try.f33.ntmps [.v (.c (.sl (.fr a))), .v (.c (.sl (.fr b)))]⟩ : Cfg)) []).cfg.k = adIn_k := by kernel_rfl
theorem adIn (a b : List U4) {w0 : World} {F0 : Nat → Prop} {K : Kp} {ac : List Act} {Q : Exit → Act → World → Prop} {cX : Ctx} {aX : Act} (ho : AllP []) (hs : Sim w0 F0 K ac (initSt Try.f33.ntmps [.v (.c (.sl (.fr a))), .v (.c (.sl (.fr b)))]) cX aX) (hK : ∀ ac cY aY, Sim w0 F0 K ac (mkSt 32 [0, 1, 5, 6] [(.v (.c (.sl (.fr a)))), (.v (.c (.sl (.fr b)))), (.v (.c (.slc 32 0 0 4))), (.v (.c (.int .i64 (0 : Int))))] [32] [(some (.sq (.fr ([] : List U4))))] 80 [] []) cY aY → Wq Try.prog Q (adIn_k) ac Exit.normal aY cY.w) : Wq Try.prog Q ([.code (bodyOf Try.f33)]) ac .normal aX cX.w :=
  run_at2 (o := ⟨_, _, _, _, _, _, _⟩) envQ3_ok (by kernel_rfl) (adIn_hk a b) ho hs hK
noncomputable def adS (a b : List U4) (N : Nat) (L : List U4) (i : Nat) : St := mkSt 32 [0, 1, 5, 6] [(SV.v (V1.c (It.sl (Sq.fr a)))), (SV.v (V1.c (It.sl (Sq.fr b)))), .v (.c (.slc 32 0 N 4)), .v (.c (.int .i64 (i : Int)))] [32] [some (.sq (.fr L))] 80 [] []
theorem adM_hk (a b : List U4) (N : Nat) (L : List U4) (i : Nat) : (run envQ3 false 3000 ((⟨lpIn adIn_k, .normal, adS a b N L i⟩ : Cfg)) [true]).cfg.k = lpBk adIn_k := by kernel_rfl
theorem adM (a b : List U4) (N : Nat) (L : List U4) (i : Nat) {w0 : World} {F0 : Nat → Prop} {K : Kp} {ac : List Act} {Q : Exit → Act → World → Prop} {cX : Ctx} {aX : Act} (ho : AllP [((decide (((i : Nat) : Int) < (((List.length a) : Nat) : Int))) = true), ((0 : Int) ≤ ((i : Nat) : Int)), ((0 : Int) ≤ ((i : Nat) : Int)), ((((List.length L) + 1) * 32) ≤ 140737488355328), (((List.length L) + 1) ≤ maxLen), (N = (List.length L)), (1 = 1)]) (hs : Sim w0 F0 K ac (adS a b N L i) cX aX) (hK : ∀ ac cY aY, Sim w0 F0 K ac (mkSt 32 [0, 1, 5, 6] [(.v (.c (.sl (.fr a)))), (.v (.c (.sl (.fr b)))), (.v (.c (.slc 32 0 ((List.length L) + 1) 4))), (.v (.c (.int .i64 (IntKind.wrap .i64 (((i : Nat) : Int) + (1 : Int))))))] [32] [(some (.sq (.fr (L ++ [(cleanU ((outF (List.getD (List.map inF a) (((i : Nat) : Int)).toNat (0 : Fr))) + (outF (List.getD (List.map inF b) (((i : Nat) : Int)).toNat (0 : Fr)))))]))))] 464 [] []) cY aY → Wq Try.prog Q (lpBk adIn_k) ac Exit.normal aY cY.w) : Wq Try.prog Q (lpIn adIn_k) ac .normal aX cX.w :=
  run_at2 (o := ⟨_, _, _, _, _, _, _⟩) envQ3_ok (by kernel_rfl) (adM_hk a b N L i) ho hs hK
theorem adN_hk (a b : List U4) (N : Nat) (L : List U4) (i : Nat) : (run envQ3 false 3000 ((⟨lpIn adIn_k, .normal, adS a b N L i⟩ : Cfg)) [false, true]).cfg.k = lpBk adIn_k := by kernel_rfl
theorem adN (a b : List U4) (N : Nat) (L : List U4) (i : Nat) {w0 : World} {F0 : Nat → Prop} {K : Kp} {ac : List Act} {Q : Exit → Act → World → Prop} {cX : Ctx} {aX : Act} (ho : AllP [((decide (((i : Nat) : Int) < (((List.length a) : Nat) : Int))) = false), ((decide (((i : Nat) : Int) < (((List.length b) : Nat) : Int))) = true), ((0 : Int) ≤ ((i : Nat) : Int)), ((0 : Int) ≤ ((i : Nat) : Int)), ((((List.length L) + 1) * 32) ≤ 140737488355328), (((List.length L) + 1) ≤ maxLen), (N = (List.length L)), (1 = 1)]) (hs : Sim w0 F0 K ac (adS a b N L i) cX aX) (hK : ∀ ac cY aY, Sim w0 F0 K ac (mkSt 32 [0, 1, 5, 6] [(.v (.c (.sl (.fr a)))), (.v (.c (.sl (.fr b)))), (.v (.c (.slc 32 0 ((List.length L) + 1) 4))), (.v (.c (.int .i64 (IntKind.wrap .i64 (((i : Nat) : Int) + (1 : Int))))))] [32] [(some (.sq (.fr (L ++ [(cleanU ((outF (List.getD (List.map inF a) (((i : Nat) : Int)).toNat (0 : Fr))) + (outF (List.getD (List.map inF b) (((i : Nat) : Int)).toNat (0 : Fr)))))]))))] 464 [] []) cY aY → Wq Try.prog Q (lpBk adIn_k) ac Exit.normal aY cY.w) : Wq Try.prog Q (lpIn adIn_k) ac .normal aX cX.w :=
  run_at2 (o := ⟨_, _, _, _, _, _, _⟩) envQ3_ok (by kernel_rfl) (adN_hk a b N L i) ho hs hK
theorem adX_end (a b : List U4) (N : Nat) (L : List U4) (i : Nat) : runEnd envQ3 Try.f33 false 3000 (⟨lpIn adIn_k, .normal, adS a b N L i⟩) [false, false] [256] [] = (Option.some ([((decide (((i : Nat) : Int) < (((List.length a) : Nat) : Int))) = false), ((decide (((i : Nat) : Int) < (((List.length b) : Nat) : Int))) = false), (0 = 0), (N = (List.length L)), (4 = 4), ((List.length L) ≤ 1099511627776)], ((SV.v (V1.c (It.slc 0 0 (List.length (trimF (List.map inF L))) 4))), [(En.sq (Sq.fr (List.map outF (trimF (List.map inF L)))))]))) := by kernel_rfl
noncomputable def mlIn_k : List KI := (run envQ3 false 3000 ((fun (a b : List U4) => (⟨[.code (bodyOf Try.f34)], .normal, initSt Try.f34.ntmps [.v (.c (.sl (.fr a))), .v (.c (.sl (.fr b)))]⟩ : Cfg)) default default) []).cfg.k
theorem mlIn_hk (a b : List U4) : (run envQ3 false 3000 ((⟨[.code (bodyOf Try.f34)], .normal, initSt Try.f34.ntmps [.v (.c (.sl (.fr a))), .v (.c (.sl (.fr b)))]⟩ : Cfg)) []).cfg.k = mlIn_k := by kernel_rfl
theorem mlIn (a b : List U4) {w0 : World} {F0 : Nat → Prop} {K : Kp} {ac : List Act} {Q : Exit → Act → World → Prop} {cX : Ctx} {aX : Act} (ho : AllP []) (hs : Sim w0 F0 K ac (initSt Try.f34.ntmps [.v (.c (.sl (.fr a))), .v (.c (.sl (.fr b)))]) cX aX) (hK : ∀ ac cY aY, Sim w0 F0 K ac (mkSt 54 [0, 1, 5, 6] [(.v (.c (.sl (.fr a)))), (.v (.c (.sl (.fr b)))), (.v (.c (.slc 32 0 0 4))), (.v (.c (.int .i64 (0 : Int))))] [32] [(some (.sq (.fr ([] : List U4))))] 80 [] []) cY aY → Wq Try.prog Q (mlIn_k) ac Exit.normal aY cY.w) : Wq Try.prog Q ([.code (bodyOf Try.f34)]) ac .normal aX cX.w :=
  run_at2 (o := ⟨_, _, _, _, _, _, _⟩) envQ3_ok (by kernel_rfl) (mlIn_hk a b) ho hs hK
noncomputable def mlS (a b : List U4) (N : Nat) (L : List U4) (i : Nat) : St := mkSt 54 [0, 1, 5, 6] [(SV.v (V1.c (It.sl (Sq.fr a)))), (SV.v (V1.c (It.sl (Sq.fr b)))), .v (.c (.slc 32 0 N 4)), .v (.c (.int .i64 (i : Int)))] [32] [some (.sq (.fr L))] 80 [] []
noncomputable def mlI_k : List KI := (run envQ3 false 3000 ((fun (a b : List U4) (N : Nat) (L : List U4) (i : Nat) => (⟨lpIn mlIn_k, .normal, mlS a b N L i⟩ : Cfg)) default default default default default) [true]).cfg.k
theorem mlI_hk (a b : List U4) (N : Nat) (L : List U4) (i : Nat) : (run envQ3 false 3000 ((⟨lpIn mlIn_k, .normal, mlS a b N L i⟩ : Cfg)) [true]).cfg.k = mlI_k := by kernel_rfl
theorem mlI (a b : List U4) (N : Nat) (L : List U4) (i : Nat) {w0 : World} {F0 : Nat → Prop} {K : Kp} {ac : List Act} {Q : Exit → Act → World → Prop} {cX : Ctx} {aX : Act} (ho : AllP [((decide (((i : Nat) : Int) < (IntKind.wrap .i64 ((((List.length a) : Nat) : Int) + (((List.length b) : Nat) : Int))))) = true)]) (hs : Sim w0 F0 K ac (mlS a b N L i) cX aX) (hK : ∀ ac cY aY, Sim w0 F0 K ac (mkSt 54 [0, 1, 5, 6, 7, 8] [(.v (.c (.sl (.fr a)))), (.v (.c (.sl (.fr b)))), (.v (.c (.slc 32 0 N 4))), (.v (.c (.int .i64 ((i : Nat) : Int)))), (.v (.c (.ptr 208 0))), (.v (.c (.int .i64 (0 : Int))))] [32, 208] [(some (.sq (.fr L))), (some (.fl [(.ob (.fr (0 : U4)))]))] 256 [] []) cY aY → Wq Try.prog Q (mlI_k) ac Exit.normal aY cY.w) : Wq Try.prog Q (lpIn mlIn_k) ac .normal aX cX.w :=
  run_at2 (o := ⟨_, _, _, _, _, _, _⟩) envQ3_ok (by kernel_rfl) (mlI_hk a b N L i) ho hs hK
noncomputable def mlT (a b : List U4) (N : Nat) (L : List U4) (i : Nat) (c : Fr) (k : Nat) : St := mkSt 54 [0, 1, 5, 6, 7, 8] [(SV.v (V1.c (It.sl (Sq.fr a)))), (SV.v (V1.c (It.sl (Sq.fr b)))), .v (.c (.slc 32 0 N 4)), .v (.c (.int .i64 (i : Int))), (SV.v (V1.c (It.ptr 208 0))), .v (.c (.int .i64 (k : Int)))] [32, 208] [some (.sq (.fr L)), some (.fl [.ob (.fr (outF c))])] 256 [] []
theorem mlA_hk (a b : List U4) (N : Nat) (L : List U4) (i : Nat) (c : Fr) (k : Nat) : (run envQ3 false 3000 ((⟨lpIn mlI_k, .normal, mlT a b N L i c k⟩ : Cfg)) [true, true, true]).cfg.k = lpBk mlI_k := by kernel_rfl
theorem mlA (a b : List U4) (N : Nat) (L : List U4) (i : Nat) (c : Fr) (k : Nat) {w0 : World} {F0 : Nat → Prop} {K : Kp} {ac : List Act} {Q : Exit → Act → World → Prop} {cX : Ctx} {aX : Act} (ho : AllP [((decide (((k : Nat) : Int) ≤ ((i : Nat) : Int))) = true), ((decide (((k : Nat) : Int) < (((List.length a) : Nat) : Int))) = true), ((decide ((IntKind.wrap .i64 (((i : Nat) : Int) - ((k : Nat) : Int))) < (((List.length b) : Nat) : Int))) = true), ((0 : Int) ≤ ((k : Nat) : Int)), ((0 : Int) ≤ (IntKind.wrap .i64 (((i : Nat) : Int) - ((k : Nat) : Int)))), ((Fin.val (outF (List.getD (List.map inF b) ((IntKind.wrap .i64 (((i : Nat) : Int) - ((k : Nat) : Int)))).toNat (0 : Fr)))) < rN)]) (hs : Sim w0 F0 K ac (mlT a b N L i c k) cX aX) (hK : ∀ ac cY aY, Sim w0 F0 K ac (mkSt 54 [0, 1, 5, 6, 7, 8] [(.v (.c (.sl (.fr a)))), (.v (.c (.sl (.fr b)))), (.v (.c (.slc 32 0 N 4))), (.v (.c (.int .i64 ((i : Nat) : Int)))), (.v (.c (.ptr 208 0))), (.v (.c (.int .i64 (IntKind.wrap .i64 (((k : Nat) : Int) + (1 : Int))))))] [32, 208] [(some (.sq (.fr L))), (some (.fl [(.ob (.fr (cleanU ((outF c) + (mulU (outF (List.getD (List.map inF a) (((k : Nat) : Int)).toNat (0 : Fr))) (outF (List.getD (List.map inF b) ((IntKind.wrap .i64 (((i : Nat) : Int) - ((k : Nat) : Int)))).toNat (0 : Fr))))))))]))] 736 [] []) cY aY → Wq Try.prog Q (lpBk mlI_k) ac Exit.normal aY cY.w) : Wq Try.prog Q (lpIn mlI_k) ac .normal aX cX.w :=
  run_at2 (o := ⟨_, _, _, _, _, _, _⟩) envQ3_ok (by kernel_rfl) (mlA_hk a b N L i c k) ho hs hK
theorem mlB_hk (a b : List U4) (N : Nat) (L : List U4) (i : Nat) (c : Fr) (k : Nat) : (run envQ3 false 3000 ((⟨lpIn mlI_k, .normal, mlT a b N L i c k⟩ : Cfg)) [true, true, false]).cfg.k = lpBk mlI_k := by kernel_rfl
theorem mlB (a b : List U4) (N : Nat) (L : List U4) (i : Nat) (c : Fr) (k : Nat) {w0 : World} {F0 : Nat → Prop} {K : Kp} {ac : List Act} {Q : Exit → Act → World → Prop} {cX : Ctx} {aX : Act} (ho : AllP [((decide (((k : Nat) : Int) ≤ ((i : Nat) : Int))) = true), ((decide (((k : Nat) : Int) < (((List.length a) : Nat) : Int))) = true), ((decide ((IntKind.wrap .i64 (((i : Nat) : Int) - ((k : Nat) : Int))) < (((List.length b) : Nat) : Int))) = false)]) (hs : Sim w0 F0 K ac (mlT a b N L i c k) cX aX) (hK : ∀ ac cY aY, Sim w0 F0 K ac (mkSt 54 [0, 1, 5, 6, 7, 8] [(.v (.c (.sl (.fr a)))), (.v (.c (.sl (.fr b)))), (.v (.c (.slc 32 0 N 4))), (.v (.c (.int .i64 ((i : Nat) : Int)))), (.v (.c (.ptr 208 0))), (.v (.c (.int .i64 (IntKind.wrap .i64 (((k : Nat) : Int) + (1 : Int))))))] [32, 208] [(some (.sq (.fr L))), (some (.fl [(.ob (.fr (outF c)))]))] 544 [] []) cY aY → Wq Try.prog Q (lpBk mlI_k) ac Exit.normal aY cY.w) : Wq Try.prog Q (lpIn mlI_k) ac .normal aX cX.w :=
  run_at2 (o := ⟨_, _, _, _, _, _, _⟩) envQ3_ok (by kernel_rfl) (mlB_hk a b N L i c k) ho hs hK
theorem mlC_hk (a b : List U4) (N : Nat) (L : List U4) (i : Nat) (c : Fr) (k : Nat) : (run envQ3 false 3000 ((⟨lpIn mlI_k, .normal, mlT a b N L i c k⟩ : Cfg)) [true, false]).cfg.k = lpBk mlI_k := by kernel_rfl
theorem mlC (a b : List U4) (N : Nat) (L : List U4) (i : Nat) (c : Fr) (k : Nat) {w0 : World} {F0 : Nat → Prop} {K : Kp} {ac : List Act} {Q : Exit → Act → World → Prop} {cX : Ctx} {aX : Act} (ho : AllP [((decide (((k : Nat) : Int) ≤ ((i : Nat) : Int))) = true), ((decide (((k : Nat) : Int) < (((List.length a) : Nat) : Int))) = false)]) (hs : Sim w0 F0 K ac (mlT a b N L i c k) cX aX) (hK : ∀ ac cY aY, Sim w0 F0 K ac (mkSt 54 [0, 1, 5, 6, 7, 8] [(.v (.c (.sl (.fr a)))), (.v (.c (.sl (.fr b)))), (.v (.c (.slc 32 0 N 4))), (.v (.c (.int .i64 ((i : Nat) : Int)))), (.v (.c (.ptr 208 0))), (.v (.c (.int .i64 (IntKind.wrap .i64 (((k : Nat) : Int) + (1 : Int))))))] [32, 208] [(some (.sq (.fr L))), (some (.fl [(.ob (.fr (outF c)))]))] 544 [] []) cY aY → Wq Try.prog Q (lpBk mlI_k) ac Exit.normal aY cY.w) : Wq Try.prog Q (lpIn mlI_k) ac .normal aX cX.w :=
  run_at2 (o := ⟨_, _, _, _, _, _, _⟩) envQ3_ok (by kernel_rfl) (mlC_hk a b N L i c k) ho hs hK
theorem mlE_hk (a b : List U4) (N : Nat) (L : List U4) (i : Nat) (c : Fr) (k : Nat) : (run envQ3 false 3000 ((⟨lpIn mlI_k, .normal, mlT a b N L i c k⟩ : Cfg)) [false]).cfg.k = lpBk mlIn_k := by kernel_rfl
theorem mlE (a b : List U4) (N : Nat) (L : List U4) (i : Nat) (c : Fr) (k : Nat) {w0 : World} {F0 : Nat → Prop} {K : Kp} {ac : List Act} {Q : Exit → Act → World → Prop} {cX : Ctx} {aX : Act} (ho : AllP [((decide (((k : Nat) : Int) ≤ ((i : Nat) : Int))) = false), ((((List.length L) + 1) * 32) ≤ 140737488355328), (((List.length L) + 1) ≤ maxLen), (N = (List.length L)), (1 = 1)]) (hs : Sim w0 F0 K ac (mlT a b N L i c k) cX aX) (hK : ∀ ac cY aY, Sim w0 F0 K ac (mkSt 54 [0, 1, 5, 6] [(.v (.c (.sl (.fr a)))), (.v (.c (.sl (.fr b)))), (.v (.c (.slc 32 0 ((List.length L) + 1) 4))), (.v (.c (.int .i64 (IntKind.wrap .i64 (((i : Nat) : Int) + (1 : Int))))))] [32] [(some (.sq (.fr (L ++ [(outF c)]))))] 432 [] []) cY aY → Wq Try.prog Q (lpBk mlIn_k) ac Exit.normal aY cY.w) : Wq Try.prog Q (lpIn mlI_k) ac .normal aX cX.w :=
  run_at2 (o := ⟨_, _, _, _, _, _, _⟩) envQ3_ok (by kernel_rfl) (mlE_hk a b N L i c k) ho hs hK
theorem mlX_end (a b : List U4) (N : Nat) (L : List U4) (i : Nat) : runEnd envQ3 Try.f34 false 3000 (⟨lpIn mlIn_k, .normal, mlS a b N L i⟩) [false] [208] [] = (Option.some ([((decide (((i : Nat) : Int) < (IntKind.wrap IntKind.i64 ((((List.length a) : Nat) : Int) + (((List.length b) : Nat) : Int))))) = false), (0 = 0), (N = (List.length L)), (4 = 4), ((List.length L) ≤ 1099511627776)], ((SV.v (V1.c (It.slc 0 0 (List.length (trimF (List.map inF L))) 4))), [(En.sq (Sq.fr (List.map outF (trimF (List.map inF L)))))]))) := by kernel_rfl
theorem zeR (n : Int) : fnRes envQ3 Try.f40 3000 [.v (.c (.int .i64 n))] [] [64] [] = (Option.some ([((0 : Int) ≤ (IntKind.wrap IntKind.i64 (n + (1 : Int)))), ((IntKind.wrap IntKind.i64 (n + (1 : Int))) = (IntKind.wrap IntKind.i64 (n + (1 : Int)))), (((32 : Int) * (IntKind.wrap IntKind.i64 (n + (1 : Int)))) ≤ (281474976710656 : Int)), ((IntKind.wrap IntKind.i64 (n + (1 : Int))) ≤ (9223372036854775807 : Int)), ((-(1 : Int)) = (-(1 : Int))), ((0 : Int) ≤ (0 : Int)), ((0 : Int) < ((((IntKind.wrap IntKind.i64 (n + (1 : Int)))).toNat : Nat) : Int)), (0 = 0), (0 < (List.length (List.replicate ((IntKind.wrap IntKind.i64 (n + (1 : Int)))).toNat (0 : U4)))), ((0 : Int) ≤ n), (n < ((((IntKind.wrap IntKind.i64 (n + (1 : Int)))).toNat : Nat) : Int)), (0 = 0), ((n).toNat < (List.length (List.set (List.replicate ((IntKind.wrap IntKind.i64 (n + (1 : Int)))).toNat (0 : U4)) 0 (outF ((0 : Fr) - (1 : Fr)))))), ((0 : Int) ≤ (1 : Int)), ((1 : Int) < (18446744073709551616 : Int)), ((0 : Int) ≤ (0 : Int)), ((0 : Int) < (18446744073709551616 : Int)), ((0 : Int) ≤ (0 : Int)), ((0 : Int) < (18446744073709551616 : Int)), ((0 : Int) ≤ (0 : Int)), ((0 : Int) < (18446744073709551616 : Int)), ((0 : Int) ≤ n), (n < ((((IntKind.wrap IntKind.i64 (n + (1 : Int)))).toNat : Nat) : Int)), (0 = 0), ((n).toNat < (List.length (List.set (List.replicate ((IntKind.wrap IntKind.i64 (n + (1 : Int)))).toNat (0 : U4)) 0 (outF ((0 : Fr) - (1 : Fr))))))], ((SV.v (V1.c (It.slc 0 0 ((IntKind.wrap IntKind.i64 (n + (1 : Int)))).toNat 4))), [(En.sq (Sq.fr (List.set (List.set (List.replicate ((IntKind.wrap IntKind.i64 (n + (1 : Int)))).toNat (0 : U4)) 0 (outF ((0 : Fr) - (1 : Fr)))) (n).toNat (cleanU ((List.getD (List.set (List.replicate ((IntKind.wrap IntKind.i64 (n + (1 : Int)))).toNat (0 : U4)) 0 (outF ((0 : Fr) - (1 : Fr)))) (n).toNat (0 : U4)) + (Fin.ofNat B4 1))))))]))) := by kernel_rfl
noncomputable def blIn_k : List KI := (run envQ3 false 3000 ((fun (a : List U4) (z : U4) => (⟨[.code (bodyOf Try.f30)], .normal, initSt Try.f30.ntmps [.v (.c (.sl (.fr a))), .v (.a [.ob (.fr z)])]⟩ : Cfg)) default default) [false]).cfg.k
theorem blIn_hk (a : List U4) (z : U4) : (run envQ3 false 3000 ((⟨[.code (bodyOf Try.f30)], .normal, initSt Try.f30.ntmps [.v (.c (.sl (.fr a))), .v (.a [.ob (.fr z)])]⟩ : Cfg)) [false]).cfg.k = blIn_k := by kernel_rfl
theorem blIn (a : List U4) (z : U4) {w0 : World} {F0 : Nat → Prop} {K : Kp} {ac : List Act} {Q : Exit → Act → World → Prop} {cX : Ctx} {aX : Act} (ho : AllP [(0 = 0), (1 = 1), (1 = 1), ((longB [a]) = false), ((List.length a) ≤ 8796093022208)]) (hs : Sim w0 F0 K ac (initSt Try.f30.ntmps [.v (.c (.sl (.fr a))), .v (.a [.ob (.fr z)])]) cX aX) (hK : ∀ ac cY aY, Sim w0 F0 K ac (mkSt 44 [5, 7, 8, 9, 10] [(.v (.c (.ptr 48 0))), (.v (.c (.slc 144 0 (List.length a) 4))), (.v (.c (.ptr 192 0))), (.v (.c (.ptr 240 0))), (.v (.c (.int .i64 (IntKind.wrap .i64 ((((List.length a) : Nat) : Int) - (1 : Int))))))] [48, 144, 192, 240] [(some (.fl [(.ob (.fr (0 : U4)))])), (some (.sq (.s (List.map inF a)))), (some (.fl [(.ob (.s (inF z)))])), (some (.fl [(.ob (.s (0 : Fr)))]))] 320 [] []) cY aY → Wq Try.prog Q (blIn_k) ac Exit.normal aY cY.w) : Wq Try.prog Q ([.code (bodyOf Try.f30)]) ac .normal aX cX.w :=
  run_at2 (o := ⟨_, _, _, _, _, _, _⟩) envQ3_ok (by kernel_rfl) (blIn_hk a z) ho hs hK
noncomputable def blS (l : List Fr) (z w : Fr) (N : Nat) (i : Int) : St := mkSt 44 [5, 7, 8, 9, 10] [(SV.v (V1.c (It.ptr 48 0))), .v (.c (.slc 144 0 N 4)), (SV.v (V1.c (It.ptr 192 0))), (SV.v (V1.c (It.ptr 240 0))), .v (.c (.int .i64 i))] [48, 144, 192, 240] [(Option.some (En.fl [(It.ob (Ob.fr (0 : U4)))])), some (.sq (.s l)), some (.fl [.ob (.s z)]), some (.fl [.ob (.s w)])] 320 [] []
theorem blN_hk (l : List Fr) (z w : Fr) (N : Nat) (i : Int) : (run envQ3 false 3000 ((⟨lpIn blIn_k, .normal, blS l z w N i⟩ : Cfg)) [true]).cfg.k = lpBk blIn_k := by kernel_rfl
theorem blN (l : List Fr) (z w : Fr) (N : Nat) (i : Int) {w0 : World} {F0 : Nat → Prop} {K : Kp} {ac : List Act} {Q : Exit → Act → World → Prop} {cX : Ctx} {aX : Act} (ho : AllP [((decide (i ≥ (0 : Int))) = true), ((0 : Int) ≤ i), (i < ((N : Nat) : Int)), (0 = 0), ((i).toNat < (List.length l)), ((0 : Int) ≤ i), (i < ((N : Nat) : Int)), (0 = 0), ((i).toNat < (List.length l))]) (hs : Sim w0 F0 K ac (blS l z w N i) cX aX) (hK : ∀ ac cY aY, Sim w0 F0 K ac (mkSt 44 [5, 7, 8, 9, 10] [(.v (.c (.ptr 48 0))), (.v (.c (.slc 144 0 N 4))), (.v (.c (.ptr 192 0))), (.v (.c (.ptr 240 0))), (.v (.c (.int .i64 (IntKind.wrap .i64 (i - (1 : Int))))))] [48, 144, 192, 240] [(some (.fl [(.ob (.fr (0 : U4)))])), (some (.sq (.s (List.set l (i).toNat w)))), (some (.fl [(.ob (.s z))])), (some (.fl [(.ob (.s ((w * z) + (List.getD l (i).toNat (0 : Fr)))))]))] 672 [] []) cY aY → Wq Try.prog Q (lpBk blIn_k) ac Exit.normal aY cY.w) : Wq Try.prog Q (lpIn blIn_k) ac .normal aX cX.w :=
  run_at2 (o := ⟨_, _, _, _, _, _, _⟩) envQ3_ok (by kernel_rfl) (blN_hk l z w N i) ho hs hK
theorem blX_end (l : List Fr) (z w : Fr) (N : Nat) (i : Int) : runEnd envQ3 Try.f30 false 3000 (⟨lpIn blIn_k, .normal, blS l z w N i⟩) [false] [368] [] = (Option.some ([((decide (i ≥ (0 : Int))) = false), (0 = 0), (N = (List.length l)), (4 = 4), ((List.length l) ≤ 8796093022208)], ((SV.t [(V1.c (It.slc 0 0 (List.length (trimF l)) 4)), (V1.a [(It.ob (Ob.fr (outF w)))]), (V1.c (It.int IntKind.i64 (0 : Int)))]), [(En.sq (Sq.fr (List.map outF (trimF l))))]))) := by kernel_rfl
theorem blA_end (a : List U4) (z : U4) : runEnd envQ3 Try.f30 false 3000 (⟨[.code (bodyOf Try.f30)], .normal, initSt Try.f30.ntmps [.v (.c (.sl (.fr a))), .v (.a [.ob (.fr z)])]⟩) [true] [] [] = (Option.some ([(0 = 0), (1 = 1), (1 = 1), ((longB [a]) = true)], ((SV.t [(V1.c (It.val (Value.slice Option.none 0 0))), (V1.a [(It.ob (Ob.fr (0 : U4)))]), (V1.c (It.int IntKind.i64 (2 : Int)))]), []))) := by kernel_rfl
noncomputable def bzIn_k : List KI := (run envQ3 false 3000 ((fun (a : List U4) (n : Int) => (⟨[.code (bodyOf Try.f38)], .normal, initSt Try.f38.ntmps [.v (.c (.sl (.fr a))), .v (.c (.int .i64 n))]⟩ : Cfg)) default default) [false, false, false]).cfg.k
theorem bzIn_hk (a : List U4) (n : Int) : (run envQ3 false 3000 ((⟨[.code (bodyOf Try.f38)], .normal, initSt Try.f38.ntmps [.v (.c (.sl (.fr a))), .v (.c (.int .i64 n))]⟩ : Cfg)) [false, false, false]).cfg.k = bzIn_k := by kernel_rfl
theorem bzIn (a : List U4) (n : Int) {w0 : World} {F0 : Nat → Prop} {K : Kp} {ac : List Act} {Q : Exit → Act → World → Prop} {cX : Ctx} {aX : Act} (ho : AllP [(0 = 0), (1 = 1), (1 = 1), ((longB [a]) = false), ((decide (n < (1 : Int))) = false), ((decide (n > (262144 : Int))) = false), ((List.length a) ≤ 8796093022208)]) (hs : Sim w0 F0 K ac (initSt Try.f38.ntmps [.v (.c (.sl (.fr a))), .v (.c (.int .i64 n))]) cX aX) (hK : ∀ ac cY aY, Sim w0 F0 K ac (mkSt 59 [1, 7, 8] [(.v (.c (.int .i64 n))), (.v (.c (.slc 256 0 (List.length a) 4))), (.v (.c (.int .i64 (IntKind.wrap .i64 ((((List.length a) : Nat) : Int) - (1 : Int))))))] [256] [(some (.sq (.s (List.map inF a))))] 352 [] []) cY aY → Wq Try.prog Q (bzIn_k) ac Exit.normal aY cY.w) : Wq Try.prog Q ([.code (bodyOf Try.f38)]) ac .normal aX cX.w :=
  run_at2 (o := ⟨_, _, _, _, _, _, _⟩) envQ3_ok (by kernel_rfl) (bzIn_hk a n) ho hs hK
noncomputable def bzS (n : Int) (N : Nat) (L : List Fr) (i : Int) : St := mkSt 59 [1, 7, 8] [(SV.v (V1.c (It.int IntKind.i64 n))), .v (.c (.slc 256 0 N 4)), .v (.c (.int .i64 i))] [256] [some (.sq (.s L))] 352 [] []
theorem bzN_hk (n : Int) (N : Nat) (L : List Fr) (i : Int) : (run envQ3 false 3000 ((⟨lpIn bzIn_k, .normal, bzS n N L i⟩ : Cfg)) [true]).cfg.k = lpBk bzIn_k := by kernel_rfl
theorem bzN (n : Int) (N : Nat) (L : List Fr) (i : Int) {w0 : World} {F0 : Nat → Prop} {K : Kp} {ac : List Act} {Q : Exit → Act → World → Prop} {cX : Ctx} {aX : Act} (ho : AllP [((decide (i ≥ n)) = true), ((0 : Int) ≤ (IntKind.wrap .i64 (i - n))), ((IntKind.wrap .i64 (i - n)) < ((N : Nat) : Int)), (0 = 0), (((IntKind.wrap .i64 (i - n))).toNat < (List.length L)), ((0 : Int) ≤ i), (i < ((N : Nat) : Int)), (0 = 0), ((i).toNat < (List.length L)), ((0 : Int) ≤ (IntKind.wrap .i64 (i - n))), ((IntKind.wrap .i64 (i - n)) < ((N : Nat) : Int)), (0 = 0), (((IntKind.wrap .i64 (i - n))).toNat < (List.length L))]) (hs : Sim w0 F0 K ac (bzS n N L i) cX aX) (hK : ∀ ac cY aY, Sim w0 F0 K ac (mkSt 59 [1, 7, 8] [(.v (.c (.int .i64 n))), (.v (.c (.slc 256 0 N 4))), (.v (.c (.int .i64 (IntKind.wrap .i64 (i - (1 : Int))))))] [256] [(some (.sq (.s (List.set L ((IntKind.wrap .i64 (i - n))).toNat ((List.getD L ((IntKind.wrap .i64 (i - n))).toNat (0 : Fr)) + (List.getD L (i).toNat (0 : Fr)))))))] 720 [] []) cY aY → Wq Try.prog Q (lpBk bzIn_k) ac Exit.normal aY cY.w) : Wq Try.prog Q (lpIn bzIn_k) ac .normal aX cX.w :=
  run_at2 (o := ⟨_, _, _, _, _, _, _⟩) envQ3_ok (by kernel_rfl) (bzN_hk n N L i) ho hs hK
theorem bzX_end (n : Int) (N : Nat) (L : List Fr) (i : Int) : runEnd envQ3 Try.f38 false 3000 (⟨lpIn bzIn_k, .normal, bzS n N L i⟩) [false] [528, 592] [] = (Option.some ([((decide (i ≥ n)) = false), (0 = 0), (4 = 4), ((0 : Int) ≤ (ite (((N : Nat) : Int) < n) ((N : Nat) : Int) n)), ((ite (((N : Nat) : Int) < n) ((N : Nat) : Int) n) ≤ ((N : Nat) : Int)), ((((ite (((N : Nat) : Int) < n) ((N : Nat) : Int) n)).toNat + (N - ((ite (((N : Nat) : Int) < n) ((N : Nat) : Int) n)).toNat)) ≤ (List.length L)), (4 = 4), ((List.length (List.take (N - ((ite (((N : Nat) : Int) < n) ((N : Nat) : Int) n)).toNat) (List.drop ((ite (((N : Nat) : Int) < n) ((N : Nat) : Int) n)).toNat L))) ≤ 8796093022208), (0 = 0), (4 = 4), ((0 : Int) ≤ (ite (((N : Nat) : Int) < n) ((N : Nat) : Int) n)), ((ite (((N : Nat) : Int) < n) ((N : Nat) : Int) n) ≤ ((N : Nat) : Int)), ((0 + ((ite (((N : Nat) : Int) < n) ((N : Nat) : Int) n)).toNat) ≤ (List.length L)), (4 = 4), ((List.length (List.take ((ite (((N : Nat) : Int) < n) ((N : Nat) : Int) n)).toNat (List.drop 0 L))) ≤ 8796093022208)], ((SV.t [(V1.c (It.slc 0 0 (List.length (trimF (List.take (N - ((ite (((N : Nat) : Int) < n) ((N : Nat) : Int) n)).toNat) (List.drop ((ite (((N : Nat) : Int) < n) ((N : Nat) : Int) n)).toNat L)))) 4)), (V1.c (It.slc 1 0 (List.length (trimF (List.take ((ite (((N : Nat) : Int) < n) ((N : Nat) : Int) n)).toNat (List.drop 0 L)))) 4)), (V1.c (It.int IntKind.i64 (0 : Int)))]), [(En.sq (Sq.fr (List.map outF (trimF (List.take (N - ((ite (((N : Nat) : Int) < n) ((N : Nat) : Int) n)).toNat) (List.drop ((ite (((N : Nat) : Int) < n) ((N : Nat) : Int) n)).toNat L)))))), (En.sq (Sq.fr (List.map outF (trimF (List.take ((ite (((N : Nat) : Int) < n) ((N : Nat) : Int) n)).toNat (List.drop 0 L))))))]))) := by kernel_rfl
theorem bzA_end (a : List U4) (n : Int) : runEnd envQ3 Try.f38 false 3000 (⟨[.code (bodyOf Try.f38)], .normal, initSt Try.f38.ntmps [.v (.c (.sl (.fr a))), .v (.c (.int .i64 n))]⟩) [true] [] [] = (Option.some ([(0 = 0), (1 = 1), (1 = 1), ((longB [a]) = true)], ((SV.t [(V1.c (It.val (Value.slice Option.none 0 0))), (V1.c (It.val (Value.slice Option.none 0 0))), (V1.c (It.int IntKind.i64 (2 : Int)))]), []))) := by kernel_rfl
theorem bzB_end (a : List U4) (n : Int) : runEnd envQ3 Try.f38 false 3000 (⟨[.code (bodyOf Try.f38)], .normal, initSt Try.f38.ntmps [.v (.c (.sl (.fr a))), .v (.c (.int .i64 n))]⟩) [false, true] [] [] = (Option.some ([(0 = 0), (1 = 1), (1 = 1), ((longB [a]) = false), ((decide (n < (1 : Int))) = true)], ((SV.t [(V1.c (It.val (Value.slice Option.none 0 0))), (V1.c (It.val (Value.slice Option.none 0 0))), (V1.c (It.int IntKind.i64 (1 : Int)))]), []))) := by kernel_rfl
theorem bzC_end (a : List U4) (n : Int) : runEnd envQ3 Try.f38 false 3000 (⟨[.code (bodyOf Try.f38)], .normal, initSt Try.f38.ntmps [.v (.c (.sl (.fr a))), .v (.c (.int .i64 n))]⟩) [false, false, true] [] [] = (Option.some ([(0 = 0), (1 = 1), (1 = 1), ((longB [a]) = false), ((decide (n < (1 : Int))) = false), ((decide (n > (262144 : Int))) = true)], ((SV.t [(V1.c (It.val (Value.slice Option.none 0 0))), (V1.c (It.val (Value.slice Option.none 0 0))), (V1.c (It.int IntKind.i64 (1 : Int)))]), []))) := by kernel_rfl
end Go.Proofs.Ytlfllehomhcbfaa
