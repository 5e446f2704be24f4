/- circuit.Right: which circuits may be. No conditions. -/
import Derived.Test.YtlfllehomhcbfaaWRight
set_option linter.unusedSimpArgs false
namespace Go.Proofs.Ytlfllehomhcbfaa

def wireB (v x : Int) : Bool := decide (-1 ≤ x) && decide (x < v)
def gateB (v : Int) (g : GateD) : Bool := wireB v g.a && wireB v g.b && wireB v g.c
/-- Which circuits may be. -/
def rightB (l : List GateD) (p v : Int) : Bool := decide (l.length ≤ 4096) && decide (0 ≤ p) && decide (p ≤ l.length) && decide (0 ≤ v) && l.all (gateB v)

theorem right_fnd (l : List GateD) (p v : Int) : FnD Try.prog 64 [circV l p v] (.v (.c (.bool (rightB l p v)))) [] := by
  refine fn_start (fn := Try.f64) (c := bodyOf Try.f64) Try.func64 rfl rfl fun x a hk hF hs => ?_
  by_cases h1 : (l.length : Int) > 4096
  · exact run_end env0_ok hk hF (rE1_end l p v) (by simp [AllP]; omega) (fun y w hd => lit_bool (by simp [rightB]; omega) hd) hs
  by_cases h2 : p < 0
  · exact run_end env0_ok hk hF (rE2_end l p v) (by simp [AllP]; omega) (fun y w hd => lit_bool (by simp [rightB]; omega) hd) hs
  by_cases h3 : p > (l.length : Int)
  · exact run_end env0_ok hk hF (rE3_end l p v) (by simp [AllP]; omega) (fun y w hd => lit_bool (by simp [rightB]; omega) hd) hs
  by_cases h4 : v < 0
  · exact run_end env0_ok hk hF (rE4_end l p v) (by simp [AllP]; omega) (fun y w hd => lit_bool (by simp [rightB]; omega) hd) hs
  refine rIn l p v (by simp [AllP]; omega) hs fun ac y b hs1 => ?_
  have hb : rightB l p v = l.all (gateB v) := by
    simp only [rightB, show decide (l.length ≤ 4096) = true from by simp; omega, show decide (0 ≤ p) = true from by simp; omega, show decide (p ≤ (l.length : Int)) = true from by simp; omega, show decide (0 ≤ v) = true from by simp; omega, Bool.true_and]
  refine loop_rule (ι := { i : Nat // i ≤ l.length ∧ rightB l p v = (l.drop i).all (gateB v) }) (fun i => rS l p v i.1) (fun i => l.length - i.1) (c := lpC rIn_k) (k := lpR rIn_k) (by kernel_rfl) (fun i ih ac y b hs => ?_) ⟨0, Nat.zero_le _, by rw [hb]; rfl⟩ hs1
  obtain ⟨i, hi, hall⟩ := i
  simp only at ih hs
  by_cases h5 : i < l.length
  · rw [all_drop (gateB v) gate0 l i h5] at hall
    have hg : ∃ g, g = l.getD i gate0 := ⟨_, rfl⟩
    obtain ⟨g, hg⟩ := hg
    rw [← hg] at hall
    unfold gateB at hall
    clear hi
    by_cases a1 : g.a < -1
    · have w : wireB v g.a = false := by simp only [wireB, Bool.and_eq_false_iff, decide_eq_false_iff_not]; omega
      exact run_end env0_ok hk hF (rA1_end l p v i) (by simp only [AllP, and_true, decide_eq_true_eq, decide_eq_false_iff_not, Int.toNat_natCast, wrap01, wrap12, wrap23, ← hg]; omega) (fun y w' hd => by
        rw [show rightB l p v = !(decide ((i : Int) ≥ 0)) from by rw [hall, w]; simp]; exact hd) hs
    by_cases c1 : g.a ≥ v
    · have w : wireB v g.a = false := by simp only [wireB, Bool.and_eq_false_iff, decide_eq_false_iff_not]; omega
      exact run_end env0_ok hk hF (rC1_end l p v i) (by simp only [AllP, and_true, decide_eq_true_eq, decide_eq_false_iff_not, Int.toNat_natCast, wrap01, wrap12, wrap23, ← hg]; omega) (fun y w' hd => by
        rw [show rightB l p v = !(decide ((i : Int) ≥ 0)) from by rw [hall, w]; simp]; exact hd) hs
    have w1 : wireB v g.a = true := by simp only [wireB, Bool.and_eq_true, decide_eq_true_eq]; omega
    by_cases a2 : g.b < -1
    · have w : wireB v g.b = false := by simp only [wireB, Bool.and_eq_false_iff, decide_eq_false_iff_not]; omega
      exact run_end env0_ok hk hF (rA2_end l p v i) (by simp only [AllP, and_true, decide_eq_true_eq, decide_eq_false_iff_not, Int.toNat_natCast, wrap01, wrap12, wrap23, ← hg]; omega) (fun y w' hd => by
        rw [show rightB l p v = !(decide ((i : Int) ≥ 0)) from by rw [hall, w]; simp]; exact hd) hs
    by_cases c2 : g.b ≥ v
    · have w : wireB v g.b = false := by simp only [wireB, Bool.and_eq_false_iff, decide_eq_false_iff_not]; omega
      exact run_end env0_ok hk hF (rC2_end l p v i) (by simp only [AllP, and_true, decide_eq_true_eq, decide_eq_false_iff_not, Int.toNat_natCast, wrap01, wrap12, wrap23, ← hg]; omega) (fun y w' hd => by
        rw [show rightB l p v = !(decide ((i : Int) ≥ 0)) from by rw [hall, w]; simp]; exact hd) hs
    have w2 : wireB v g.b = true := by simp only [wireB, Bool.and_eq_true, decide_eq_true_eq]; omega
    by_cases a3 : g.c < -1
    · have w : wireB v g.c = false := by simp only [wireB, Bool.and_eq_false_iff, decide_eq_false_iff_not]; omega
      exact run_end env0_ok hk hF (rA3_end l p v i) (by simp only [AllP, and_true, decide_eq_true_eq, decide_eq_false_iff_not, Int.toNat_natCast, wrap01, wrap12, wrap23, ← hg]; omega) (fun y w' hd => by
        rw [show rightB l p v = !(decide ((i : Int) ≥ 0)) from by rw [hall, w]; simp]; exact hd) hs
    by_cases c3 : g.c ≥ v
    · have w : wireB v g.c = false := by simp only [wireB, Bool.and_eq_false_iff, decide_eq_false_iff_not]; omega
      exact run_end env0_ok hk hF (rC3_end l p v i) (by simp only [AllP, and_true, decide_eq_true_eq, decide_eq_false_iff_not, Int.toNat_natCast, wrap01, wrap12, wrap23, ← hg]; omega) (fun y w' hd => by
        rw [show rightB l p v = !(decide ((i : Int) ≥ 0)) from by rw [hall, w]; simp]; exact hd) hs
    have w3 : wireB v g.c = true := by simp only [wireB, Bool.and_eq_true, decide_eq_true_eq]; omega
    refine rNx l p v i (by simp only [AllP, and_true, decide_eq_true_eq, decide_eq_false_iff_not, Int.toNat_natCast, wrap01, wrap12, wrap23, ← hg]; omega) hs fun ac y b hs2 => ?_
    rw [wrap_id (by omega) (by omega)] at hs2
    exact ih ⟨i + 1, h5, by rw [hall, w1, w2, w3]; rfl⟩ (by show l.length - (i + 1) < l.length - i; omega) ac y b (hs2.nx 544)
  · exact run_end env0_ok hk hF (rX_end l p v i) (by simp [AllP]; omega) (fun y w hd => by
      rw [show rightB l p v = !(decide (-(1 : Int) ≥ 0)) from by rw [hall, List.drop_eq_nil_of_le (by omega)]; rfl]; exact hd) hs
end Go.Proofs.Ytlfllehomhcbfaa
