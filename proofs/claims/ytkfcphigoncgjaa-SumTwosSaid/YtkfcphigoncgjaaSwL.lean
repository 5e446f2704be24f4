/- Parts of a proof, one behind the other: PPs, WPt. No conditions. -/
import Derived.Test.YtkfcphigoncgjaaSwK
/- P.Plus, P.Minus: contracts. No conditions. -/
namespace Go.Proofs.Ytkfcphigoncgjaa

theorem p_add_abs {x y r B : Nat} : ((x + y) % r) * B % r = (x * B % r + y * B % r) % r := by
  rw [Nat.mod_mul_mod, Nat.add_mul, ← Nat.add_mod]
theorem p_add_n (x y : Fp) : (Ob.p (x + y)).n = ((Ob.p x).n + (Ob.p y).n) % pN := by
  exact p_add_abs
theorem fin_sub_add6 {n : Nat} (x y : Fin n) : x - y + y = x := by
  apply Fin.ext
  simp only [Fin.add_def, Fin.sub_def]
  have := y.isLt
  rw [Nat.mod_add_mod, show n - y.val + x.val + y.val = x.val + n from by omega, Nat.add_mod_right, Nat.mod_eq_of_lt x.isLt]
theorem p_sub_n (x y : Fp) : ((Ob.p (x - y)).n + (Ob.p y).n) % pN = (Ob.p x).n := by
  rw [← p_add_n, fin_sub_add6]
theorem add_abs6 {r B v x y : Nat} (e : v * B % r = 1 % r) : (x * B % r + y * B % r) * v % r = (x + y) % r := by
  rw [← Nat.mod_mul_mod, ← Nat.add_mod, Nat.mod_mul_mod, ← Nat.add_mul, Nat.mul_assoc, Nat.mul_comm B, ← Nat.mul_mod_mod, e, Nat.mul_mod_mod, Nat.mul_one]
theorem redQ_add (x y : Fp) : redQ ((Ob.p x).n + (Ob.p y).n) = x + y := by
  apply Fin.ext
  have e : (Ob.p x).n = x.val * B6 % pN := rfl
  have e' : (Ob.p y).n = y.val * B6 % pN := rfl
  rw [e, e']
  exact add_abs6 pnv_B6

theorem addL6 {a0 a1 a2 a3 a4 a5 b0 b1 b2 b3 b4 b5 o0 o1 o2 o3 o4 o5 v0 v1 v2 v3 v4 v5 : Int} (e0 : a0 + b0 + 0 = o0 + 18446744073709551616 * v0) (e1 : a1 + b1 + v0 = o1 + 18446744073709551616 * v1) (e2 : a2 + b2 + v1 = o2 + 18446744073709551616 * v2) (e3 : a3 + b3 + v2 = o3 + 18446744073709551616 * v3) (e4 : a4 + b4 + v3 = o4 + 18446744073709551616 * v4) (e5 : a5 + b5 + v4 = o5 + 18446744073709551616 * v5) :
    num6 o0 o1 o2 o3 o4 o5 + 39402006196394479212279040100143613805079739270465446667948293404245721771497210611414266254884915640806627990306816 * v5 = num6 a0 a1 a2 a3 a4 a5 + num6 b0 b1 b2 b3 b4 b5 := by
  unfold num6
  omega
theorem subL6 {a0 a1 a2 a3 a4 a5 b0 b1 b2 b3 b4 b5 o0 o1 o2 o3 o4 o5 v0 v1 v2 v3 v4 v5 : Int} (e0 : o0 = a0 - b0 - 0 + 18446744073709551616 * v0) (e1 : o1 = a1 - b1 - v0 + 18446744073709551616 * v1) (e2 : o2 = a2 - b2 - v1 + 18446744073709551616 * v2) (e3 : o3 = a3 - b3 - v2 + 18446744073709551616 * v3) (e4 : o4 = a4 - b4 - v3 + 18446744073709551616 * v4) (e5 : o5 = a5 - b5 - v4 + 18446744073709551616 * v5) :
    num6 o0 o1 o2 o3 o4 o5 - 39402006196394479212279040100143613805079739270465446667948293404245721771497210611414266254884915640806627990306816 * v5 = num6 a0 a1 a2 a3 a4 a5 - num6 b0 b1 b2 b3 b4 b5 := by
  unfold num6
  omega

theorem plus6_fnd (x y : Fp) : FnD Try.prog 131 [.v (.a [.ob (.p x)]), .v (.a [.ob (.p y)])] (.v (.a [.ob (.p (x + y))])) [] := by
  have r0 := plusP0 x y
  have hX := p_lt x
  have hY := p_lt y
  have hadd := redQ_add x y
  have ex := (limbsOf6 (Ob.p x).n (Nat.lt_trans (p_lt x) (by decide))).1
  have ey := (limbsOf6 (Ob.p y).n (Nat.lt_trans (p_lt y) (by decide))).1
  have x0 := limb_lim (Ob.p x).n 0
  have x1 := limb_lim (Ob.p x).n 1
  have x2 := limb_lim (Ob.p x).n 2
  have x3 := limb_lim (Ob.p x).n 3
  have x4 := limb_lim (Ob.p x).n 4
  have x5 := limb_lim (Ob.p x).n 5
  have y0 := limb_lim (Ob.p y).n 0
  have y1 := limb_lim (Ob.p y).n 1
  have y2 := limb_lim (Ob.p y).n 2
  have y3 := limb_lim (Ob.p y).n 3
  have y4 := limb_lim (Ob.p y).n 4
  have y5 := limb_lim (Ob.p y).n 5
  generalize limb (Ob.p x).n 0 = a0 at *
  generalize limb (Ob.p x).n 1 = a1 at *
  generalize limb (Ob.p x).n 2 = a2 at *
  generalize limb (Ob.p x).n 3 = a3 at *
  generalize limb (Ob.p x).n 4 = a4 at *
  generalize limb (Ob.p x).n 5 = a5 at *
  generalize limb (Ob.p y).n 0 = b0 at *
  generalize limb (Ob.p y).n 1 = b1 at *
  generalize limb (Ob.p y).n 2 = b2 at *
  generalize limb (Ob.p y).n 3 = b3 at *
  generalize limb (Ob.p y).n 4 = b4 at *
  generalize limb (Ob.p y).n 5 = b5 at *
  obtain ⟨e0, p0, p0', c0, c0'⟩ := add_step (c := 0) x0.1 x0.2 y0.1 y0.2 (by decide) (by decide)
  obtain ⟨e1, p1, p1', c1, c1'⟩ := add_step x1.1 x1.2 y1.1 y1.2 c0 c0'
  obtain ⟨e2, p2, p2', c2, c2'⟩ := add_step x2.1 x2.2 y2.1 y2.2 c1 c1'
  obtain ⟨e3, p3, p3', c3, c3'⟩ := add_step x3.1 x3.2 y3.1 y3.2 c2 c2'
  obtain ⟨e4, p4, p4', c4, c4'⟩ := add_step x4.1 x4.2 y4.1 y4.2 c3 c3'
  obtain ⟨e5, p5, p5', c5, c5'⟩ := add_step x5.1 x5.2 y5.1 y5.2 c4 c4'
  generalize hq0 : exOut 0 a0 b0 0 = q0 at *
  generalize hq1 : exOut 0 a1 b1 q0.2 = q1 at *
  generalize hq2 : exOut 0 a2 b2 q1.2 = q2 at *
  generalize hq3 : exOut 0 a3 b3 q2.2 = q3 at *
  generalize hq4 : exOut 0 a4 b4 q3.2 = q4 at *
  generalize hq5 : exOut 0 a5 b5 q4.2 = q5 at *
  clear hq0 hq1 hq2 hq3 hq4 hq5
  have hS := addL6 e0 e1 e2 e3 e4 e5
  rw [← ex, ← ey] at hS
  have hp := pN_int
  have hO := lt6 p0 p0' p1 p1' p2 p2' p3 p3' p4 p4' p5 p5'
  have hO0 := num6_pos p0 p1 p2 p3 p4 p5
  have hv : q5.2 = 0 := by omega
  rw [hv, Int.mul_zero, Int.add_zero] at hS
  have hlt : num6 q0.1 q1.1 q2.1 q3.1 q4.1 q5.1 < 2 * pN := by omega
  refine (fn_sound qeE_ok Try.func131 r0 ?_).conv (fun _ _ h => h) fun z v hd => ?_
  · simp only [AllP, and_true, Ob.k]
    clear hS hO hO0 hX hY ex ey hadd r0 e0 e1 e2 e3 e4 e5 hp
    obtain ⟨x0, x0'⟩ := x0
    obtain ⟨y0, y0'⟩ := y0
    obtain ⟨x1, x1'⟩ := x1
    obtain ⟨y1, y1'⟩ := y1
    obtain ⟨x2, x2'⟩ := x2
    obtain ⟨y2, y2'⟩ := y2
    obtain ⟨x3, x3'⟩ := x3
    obtain ⟨y3, y3'⟩ := y3
    obtain ⟨x4, x4'⟩ := x4
    obtain ⟨y4, y4'⟩ := y4
    obtain ⟨x5, x5'⟩ := x5
    obtain ⟨y5, y5'⟩ := y5
    and_intros <;> first | assumption | decide | omega
  · have hN' : (num6 q0.1 q1.1 q2.1 q3.1 q4.1 q5.1).toNat = (Ob.p x).n + (Ob.p y).n := by omega
    rw [hN', hadd] at hd
    exact hd

theorem sub_cases6 {X Y Z r : Nat} (_hX : X < r) (hY : Y < r) (hZ : Z < r) (h : (Z + Y) % r = X) : (Y ≤ X ∧ (Z : Int) = X - Y) ∨ (X < Y ∧ (Z : Int) = X + r - Y) := by
  by_cases hl : Z + Y < r
  · rw [Nat.mod_eq_of_lt hl] at h
    left; omega
  · rw [Nat.mod_eq_sub_mod (by omega), Nat.mod_eq_of_lt (by omega)] at h
    right; omega

theorem sub_fin6 {X Y Z : Nat} {N W v : Int} (hX : X < pN) (hY : Y < pN) (hcase : (Y ≤ X ∧ (Z : Int) = X - Y) ∨ (X < Y ∧ (Z : Int) = X + pN - Y))
    (hdiff : N - 39402006196394479212279040100143613805079739270465446667948293404245721771497210611414266254884915640806627990306816 * 1 = (X : Int) - Y) (hN1 : N < 39402006196394479212279040100143613805079739270465446667948293404245721771497210611414266254884915640806627990306816) (hW0 : 0 ≤ W) (hW1 : W < 39402006196394479212279040100143613805079739270465446667948293404245721771497210611414266254884915640806627990306816) (hv0 : 0 ≤ v) (hv1 : v ≤ 1)
    (hsum : W + 39402006196394479212279040100143613805079739270465446667948293404245721771497210611414266254884915640806627990306816 * v = N + num6 13402431016077863595 2210141511517208575 7435674573564081700 7239337960414712511 5412103778470702295 1873798617647539866) : (Z : Int) = W := by
  have hp := pN_int
  have hm : num6 13402431016077863595 2210141511517208575 7435674573564081700 7239337960414712511 5412103778470702295 1873798617647539866 = 4002409555221667393417789825735904156556882819939007885332058136124031650490837864442687629129015664037894272559787 := by decide
  rw [hm] at hsum
  have : v = 0 ∨ v = 1 := by omega
  rcases hcase with ⟨h1, h2⟩ | ⟨h1, h2⟩
  · exfalso; omega
  · rcases this with rfl | rfl <;> omega

theorem minus6_fnd (x y : Fp) : FnD Try.prog 143 [.v (.a [.ob (.p x)]), .v (.a [.ob (.p y)])] (.v (.a [.ob (.p (x - y))])) [] := by
  have r0 := minusP0 x y
  have r1 := minusP1 x y
  have hX := p_lt x
  have hY := p_lt y
  have hZ := p_lt (x - y)
  have hsub := p_sub_n x y
  have ex := (limbsOf6 (Ob.p x).n (Nat.lt_trans (p_lt x) (by decide))).1
  have ey := (limbsOf6 (Ob.p y).n (Nat.lt_trans (p_lt y) (by decide))).1
  have x0 := limb_lim (Ob.p x).n 0
  have x1 := limb_lim (Ob.p x).n 1
  have x2 := limb_lim (Ob.p x).n 2
  have x3 := limb_lim (Ob.p x).n 3
  have x4 := limb_lim (Ob.p x).n 4
  have x5 := limb_lim (Ob.p x).n 5
  have y0 := limb_lim (Ob.p y).n 0
  have y1 := limb_lim (Ob.p y).n 1
  have y2 := limb_lim (Ob.p y).n 2
  have y3 := limb_lim (Ob.p y).n 3
  have y4 := limb_lim (Ob.p y).n 4
  have y5 := limb_lim (Ob.p y).n 5
  generalize limb (Ob.p x).n 0 = a0 at *
  generalize limb (Ob.p x).n 1 = a1 at *
  generalize limb (Ob.p x).n 2 = a2 at *
  generalize limb (Ob.p x).n 3 = a3 at *
  generalize limb (Ob.p x).n 4 = a4 at *
  generalize limb (Ob.p x).n 5 = a5 at *
  generalize limb (Ob.p y).n 0 = b0 at *
  generalize limb (Ob.p y).n 1 = b1 at *
  generalize limb (Ob.p y).n 2 = b2 at *
  generalize limb (Ob.p y).n 3 = b3 at *
  generalize limb (Ob.p y).n 4 = b4 at *
  generalize limb (Ob.p y).n 5 = b5 at *
  obtain ⟨e0, p0, p0', c0, c0'⟩ := sub_step (c := 0) x0.1 x0.2 y0.1 y0.2 (by decide) (by decide)
  obtain ⟨e1, p1, p1', c1, c1'⟩ := sub_step x1.1 x1.2 y1.1 y1.2 c0 c0'
  obtain ⟨e2, p2, p2', c2, c2'⟩ := sub_step x2.1 x2.2 y2.1 y2.2 c1 c1'
  obtain ⟨e3, p3, p3', c3, c3'⟩ := sub_step x3.1 x3.2 y3.1 y3.2 c2 c2'
  obtain ⟨e4, p4, p4', c4, c4'⟩ := sub_step x4.1 x4.2 y4.1 y4.2 c3 c3'
  obtain ⟨e5, p5, p5', c5, c5'⟩ := sub_step x5.1 x5.2 y5.1 y5.2 c4 c4'
  generalize hq0 : exOut 1 a0 b0 0 = q0 at *
  generalize hq1 : exOut 1 a1 b1 q0.2 = q1 at *
  generalize hq2 : exOut 1 a2 b2 q1.2 = q2 at *
  generalize hq3 : exOut 1 a3 b3 q2.2 = q3 at *
  generalize hq4 : exOut 1 a4 b4 q3.2 = q4 at *
  generalize hq5 : exOut 1 a5 b5 q4.2 = q5 at *
  clear hq0 hq1 hq2 hq3 hq4 hq5
  have hcase := sub_cases6 hX hY hZ hsub
  have hdiff := subL6 e0 e1 e2 e3 e4 e5
  rw [← ex, ← ey] at hdiff
  have hO := lt6 p0 p0' p1 p1' p2 p2' p3 p3' p4 p4' p5 p5'
  have hO0 := num6_pos p0 p1 p2 p3 p4 p5
  have hp := pN_int
  by_cases hz : q5.2 = 0
  · refine (fn_sound qeE_ok Try.func143 r0 ?_).conv (fun _ _ h => h) fun z v hd => ints_ob6 rfl (limbsAre6 p0 p0' p1 p1' p2 p2' p3 p3' p4 p4' p5 p5' ?_) hd
    · simp only [AllP, and_true, Ob.k, beq_iff_eq]
      clear hsub hX hY hZ ex ey r0 r1 hcase hdiff hO hO0 hp e0 e1 e2 e3 e4 e5
      obtain ⟨x0, x0'⟩ := x0
      obtain ⟨y0, y0'⟩ := y0
      obtain ⟨x1, x1'⟩ := x1
      obtain ⟨y1, y1'⟩ := y1
      obtain ⟨x2, x2'⟩ := x2
      obtain ⟨y2, y2'⟩ := y2
      obtain ⟨x3, x3'⟩ := x3
      obtain ⟨y3, y3'⟩ := y3
      obtain ⟨x4, x4'⟩ := x4
      obtain ⟨y4, y4'⟩ := y4
      obtain ⟨x5, x5'⟩ := x5
      obtain ⟨y5, y5'⟩ := y5
      and_intros <;> first | assumption | decide | omega
    · rw [hz] at hdiff
      rcases hcase with ⟨h1, h2⟩ | ⟨h1, h2⟩ <;> omega
  · have hz1 : q5.2 = 1 := by omega
    obtain ⟨f0, s0, s0', d0, d0'⟩ := add_step (y := 13402431016077863595) (c := 0) p0 p0' (by decide) (by decide) (by decide) (by decide)
    obtain ⟨f1, s1, s1', d1, d1'⟩ := add_step (y := 2210141511517208575) p1 p1' (by decide) (by decide) d0 d0'
    obtain ⟨f2, s2, s2', d2, d2'⟩ := add_step (y := 7435674573564081700) p2 p2' (by decide) (by decide) d1 d1'
    obtain ⟨f3, s3, s3', d3, d3'⟩ := add_step (y := 7239337960414712511) p3 p3' (by decide) (by decide) d2 d2'
    obtain ⟨f4, s4, s4', d4, d4'⟩ := add_step (y := 5412103778470702295) p4 p4' (by decide) (by decide) d3 d3'
    obtain ⟨f5, s5, s5', d5, d5'⟩ := add_step (y := 1873798617647539866) p5 p5' (by decide) (by decide) d4 d4'
    generalize hw0 : exOut 0 q0.1 13402431016077863595 0 = w0 at *
    generalize hw1 : exOut 0 q1.1 2210141511517208575 w0.2 = w1 at *
    generalize hw2 : exOut 0 q2.1 7435674573564081700 w1.2 = w2 at *
    generalize hw3 : exOut 0 q3.1 7239337960414712511 w2.2 = w3 at *
    generalize hw4 : exOut 0 q4.1 5412103778470702295 w3.2 = w4 at *
    generalize hw5 : exOut 0 q5.1 1873798617647539866 w4.2 = w5 at *
    clear hw0 hw1 hw2 hw3 hw4 hw5
    have hS := addL6 f0 f1 f2 f3 f4 f5
    have hW := lt6 s0 s0' s1 s1' s2 s2' s3 s3' s4 s4' s5 s5'
    have hW0 := num6_pos s0 s1 s2 s3 s4 s5
    refine (fn_sound qeE_ok Try.func143 r1 ?_).conv (fun _ _ h => h) fun z v hd => ints_ob6 rfl (limbsAre6 s0 s0' s1 s1' s2 s2' s3 s3' s4 s4' s5 s5' ?_) hd
    · simp only [AllP, and_true, Ob.k, beq_eq_false_iff_ne]
      clear hsub hX hY hZ ex ey r0 r1 hcase hdiff hO hO0 hp hS hW hW0 e0 e1 e2 e3 e4 e5 f0 f1 f2 f3 f4 f5
      obtain ⟨x0, x0'⟩ := x0
      obtain ⟨y0, y0'⟩ := y0
      obtain ⟨x1, x1'⟩ := x1
      obtain ⟨y1, y1'⟩ := y1
      obtain ⟨x2, x2'⟩ := x2
      obtain ⟨y2, y2'⟩ := y2
      obtain ⟨x3, x3'⟩ := x3
      obtain ⟨y3, y3'⟩ := y3
      obtain ⟨x4, x4'⟩ := x4
      obtain ⟨y4, y4'⟩ := y4
      obtain ⟨x5, x5'⟩ := x5
      obtain ⟨y5, y5'⟩ := y5
      and_intros <;> first | assumption | decide | omega
    · rw [hz1] at hdiff
      exact sub_fin6 hX hY hcase hdiff hO hW0 hW d5 d5' hS

end Go.Proofs.Ytkfcphigoncgjaa

/- Small functions of the greater field, walked. No conditions. -/
namespace Go.Proofs.Ytkfcphigoncgjaa

def inPSpec : FnSpec
  | [.v (.a [.ob (.fp a)])] => some ([], .v (.a [.ob (.p (inP a))]), [])
  | _ => none
noncomputable def qeF1 : Env := qeE.set (addT qeE.fn 111 inPSpec)
theorem qeF1_ok : EnvOk Try.prog qeF1 := env_add qeE_ok 111 inPSpec (enters_of Try.func111 rfl rfl) fun args o r es h _ => by
  unfold inPSpec at h
  split at h
  · cases h; exact inP_fnd _
  · cases h
def outPSpec : FnSpec
  | [.v (.a [.ob (.p x)])] => some ([], .v (.a [.ob (.fp (outP x))]), [])
  | _ => none
noncomputable def qeF2 : Env := qeF1.set (addT qeF1.fn 109 outPSpec)
theorem qeF2_ok : EnvOk Try.prog qeF2 := env_add qeF1_ok 109 outPSpec (enters_of Try.func109 rfl rfl) fun args o r es h _ => by
  unfold outPSpec at h
  split at h
  · cases h; exact outP_fnd _
  · cases h
def timesPSpec : FnSpec
  | [.v (.a [.ob (.p x)]), .v (.a [.ob (.p y)])] => some ([], .v (.a [.ob (.p (x * y))]), [])
  | _ => none
noncomputable def qeF3 : Env := qeF2.set (addT qeF2.fn 130 timesPSpec)
theorem qeF3_ok : EnvOk Try.prog qeF3 := env_add qeF2_ok 130 timesPSpec (enters_of Try.func130 rfl rfl) fun args o r es h _ => by
  unfold timesPSpec at h
  split at h
  · cases h; exact times6_fnd _ _
  · cases h
def plusPSpec : FnSpec
  | [.v (.a [.ob (.p x)]), .v (.a [.ob (.p y)])] => some ([], .v (.a [.ob (.p (x + y))]), [])
  | _ => none
noncomputable def qeF4 : Env := qeF3.set (addT qeF3.fn 131 plusPSpec)
theorem qeF4_ok : EnvOk Try.prog qeF4 := env_add qeF3_ok 131 plusPSpec (enters_of Try.func131 rfl rfl) fun args o r es h _ => by
  unfold plusPSpec at h
  split at h
  · cases h; exact plus6_fnd _ _
  · cases h
def minusPSpec : FnSpec
  | [.v (.a [.ob (.p x)]), .v (.a [.ob (.p y)])] => some ([], .v (.a [.ob (.p (x - y))]), [])
  | _ => none
noncomputable def qeF : Env := qeF4.set (addT qeF4.fn 143 minusPSpec)
theorem qeF_ok : EnvOk Try.prog qeF := env_add qeF4_ok 143 minusPSpec (enters_of Try.func143 rfl rfl) fun args o r es h _ => by
  unfold minusPSpec at h
  split at h
  · cases h; exact minus6_fnd _ _
  · cases h
--@env qeF qeF_ok
theorem smallP0 (n:Int) : fnRes qeF Try.f110 3000 [.v (.c (.int .u64 n))] [] [] [] = (some ([((0:Int) ≤ n),(n < (18446744073709551616:Int)),((0:Int) ≤ (0:Int)),((0:Int) < (18446744073709551616:Int)),((0:Int) ≤ (0:Int)),((0:Int) < (18446744073709551616:Int)),((0:Int) ≤ (0:Int)),((0:Int) < (18446744073709551616:Int)),((0:Int) ≤ (0:Int)),((0:Int) < (18446744073709551616:Int)),((0:Int) ≤ (0:Int)),((0:Int) < (18446744073709551616:Int))],((.v (.a [(.ob (.p (inP (Fin.ofNat B6 ((n).toNat + 0)))))])),[]))) := by kernel_rfl
theorem negP0 (x : Fp) : fnRes qeF Try.f166 3000 [.v (.a [.ob (.p x)])] [] [] [] = (some ([],((.v (.a [(.ob (.p ((0:Fp) - x)))])),[]))) := by kernel_rfl
theorem zeroP0 (x : Fp) : fnRes qeF Try.f84 3000 [.v (.a [.ob (.p x)])] [] [] [] = (some ([],((.v (.c (.bool (ite (true = true) (decide (x = (0:Fp))) (Bool.not (decide (x = (0:Fp)))))))),[]))) := by kernel_rfl
end Go.Proofs.Ytkfcphigoncgjaa
