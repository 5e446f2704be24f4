/- setup.Size, the reference's Right, alive: contracts. No conditions. -/
import Derived.Test.YtlfllehomhcbfaaWSize
set_option linter.unusedSimpArgs false
namespace Go.Proofs.Ytlfllehomhcbfaa

/-- The log of how many rows so many gates take. -/
def logOf (n : Nat) : Nat := if n ≤ 2 then 1 else if n ≤ 4 then 2 else if n ≤ 8 then 3 else if n ≤ 16 then 4 else if n ≤ 32 then 5 else if n ≤ 64 then 6 else if n ≤ 128 then 7 else if n ≤ 256 then 8 else if n ≤ 512 then 9 else if n ≤ 1024 then 10 else if n ≤ 2048 then 11 else 12

theorem shl_eq {i : Nat} (h : i ≤ 62) : IntKind.wrap IntKind.i64 ((1 : Int) * ((2 : Int) ^ (Min.min ((i : Nat) : Int).toNat (IntKind.bits IntKind.i64)))) = ((2 ^ i : Nat) : Int) := by
  have h1 : Min.min ((i : Nat) : Int).toNat (IntKind.bits IntKind.i64) = i := by
    rw [Int.toNat_natCast]; show min i 64 = i; omega
  rw [h1, Int.one_mul]
  have h2 : ((2 : Int) ^ i) = ((2 ^ i : Nat) : Int) := by simp
  rw [h2]
  have h3 : 2 ^ i ≤ 2 ^ 62 := Nat.pow_le_pow_right (by decide) h
  generalize 2 ^ i = m at h3
  exact wrap_id (by omega) (by omega)

theorem logOf_back (n : Nat) (hn : n ≤ 4096) : 1 ≤ logOf n ∧ logOf n ≤ 12 ∧ n ≤ 2 ^ logOf n ∧ (logOf n = 1 ∨ 2 ^ (logOf n - 1) < n) := by
  unfold logOf
  repeat' split
  all_goals (refine ⟨by decide, by decide, ?_, ?_⟩ <;> simp <;> omega)

theorem logOf_spec {n i : Nat} (hn : n ≤ 4096) (h1 : 1 ≤ i) (h2 : n ≤ 2 ^ i) (h3 : i = 1 ∨ 2 ^ (i - 1) < n) : logOf n = i := by
  obtain ⟨a1, _, a2, a3⟩ := logOf_back n hn
  rcases Nat.lt_trichotomy (logOf n) i with h | h | h
  · have : 2 ^ logOf n ≤ 2 ^ (i - 1) := Nat.pow_le_pow_right (by decide) (by omega)
    omega
  · exact h
  · have : 2 ^ i ≤ 2 ^ (logOf n - 1) := Nat.pow_le_pow_right (by decide) (by omega)
    omega

def sizeR (l : List GateD) (p v : Int) : SV := if rightB l p v then .t [.c (.int .i64 (logOf l.length : Int)), .c (.int .i64 0)] else .t [.c (.int .i64 0), .c (.int .i64 1)]

theorem size_fnd (l : List GateD) (p v : Int) : FnD Try.prog 18 [circV l p v] (sizeR l p v) [] := by
  refine fn_start (fn := Try.f18) (c := bodyOf Try.f18) Try.func18 rfl rfl fun x a hk hF hs => ?_
  by_cases hr : rightB l p v = true
  · have hlen : l.length ≤ 4096 := by simp [rightB] at hr; omega
    have hR : sizeR l p v = .t [.c (.int .i64 (logOf l.length : Int)), .c (.int .i64 0)] := by simp [sizeR, hr]
    rw [hR]
    refine zIn l p v (by simp [AllP, hr]) hs fun ac y b hs1 => ?_
    refine loop_rule (ι := { i : Nat // 1 ≤ i ∧ i < 13 ∧ (i = 1 ∨ 2 ^ (i - 1) < l.length) }) (fun i => zS l p v i.1) (fun i => 13 - i.1) (c := lpC zIn_k) (k := lpR zIn_k) (by kernel_rfl) (fun i ih ac y b hs => ?_) ⟨1, by decide, by decide, .inl rfl⟩ hs1
    obtain ⟨i, hi1, hi2, hi3⟩ := i
    simp only at ih hs
    have hsh := shl_eq (i := i) (by omega)
    by_cases h5 : 2 ^ i < l.length
    · have hi4 : i < 12 := by
        rcases Nat.lt_or_ge i 12 with h | h
        · exact h
        · have : 2 ^ 12 ≤ 2 ^ i := Nat.pow_le_pow_right (by decide) h
          omega
      refine zN l p v i ⟨by omega, by rw [hsh]; simpa using (by exact_mod_cast h5), trivial⟩ hs fun ac y b hs2 => ?_
      rw [wrap_id (by omega) (by omega)] at hs2
      exact ih ⟨i + 1, by omega, by omega, .inr (by simpa using h5)⟩ (by show 13 - (i + 1) < 13 - i; omega) ac y b (hs2.nx 112)
    · refine run_end env1_ok hk hF (zX_end l p v i) ⟨by omega, by rw [hsh]; simp only [decide_eq_false_iff_not]; intro h; exact h5 (by exact_mod_cast h), trivial⟩ (fun y w hd => ?_) hs
      rw [logOf_spec hlen hi1 (by omega) hi3]
      exact hd
  · have hr' : rightB l p v = false := by simpa using hr
    refine run_end env1_ok hk hF (zE_end l p v) (by simp [AllP, hr']) (fun y w hd => ?_) hs
    rw [sizeR, hr']
    exact hd

theorem right18_fnd (l : List GateD) (p v : Int) : FnD Try.prog 19 [circV l p v] (.v (.c (.bool (rightB l p v)))) [] := by
  refine fn_start (fn := Try.f19) (c := bodyOf Try.f19) Try.func19 rfl rfl fun x a hk hF hs => ?_
  refine qIn l p v trivial hs fun ac y b hs1 => ?_
  have hlen : l.length ≤ maxLen := sl_len (q := .gate l) (hs1.t 8)
  unfold maxLen at hlen
  refine loop_rule (ι := { i : Nat // i ≤ l.length ∧ l.all (gateB v) = (l.drop i).all (gateB v) }) (fun i => qS l p v i.1) (fun i => l.length - i.1) (c := lpC qIn_k) (k := lpR qIn_k) (by kernel_rfl) (fun i ih ac y b hs => ?_) ⟨0, Nat.zero_le _, rfl⟩ hs1
  obtain ⟨i, hi, hall⟩ := i
  simp only at ih hs
  by_cases h5 : i < l.length
  · rw [all_drop (gateB v) gate0 l i h5] at hall
    have hg : ∃ g, g = l.getD i gate0 := ⟨_, rfl⟩
    obtain ⟨g, hg⟩ := hg
    rw [← hg] at hall
    have hgb : gateB v g = (wireB v g.a && wireB v g.b && wireB v g.c) := rfl
    rw [hgb] at hall
    clear hi
    by_cases a1 : g.a < -1
    · have w : wireB v g.a = false := by simp only [wireB, Bool.and_eq_false_iff, decide_eq_false_iff_not]; omega
      exact run_end env1_ok hk hF (qA1_end l p v i) (by simp only [AllP, and_true, decide_eq_true_eq, decide_eq_false_iff_not, Int.toNat_natCast, wrap01, wrap12, wrap23, ← hg]; omega) (fun y w' hd => lit_bool (by simp [rightB, hall, w]) hd) hs
    by_cases c1 : g.a ≥ v
    · have w : wireB v g.a = false := by simp only [wireB, Bool.and_eq_false_iff, decide_eq_false_iff_not]; omega
      exact run_end env1_ok hk hF (qC1_end l p v i) (by simp only [AllP, and_true, decide_eq_true_eq, decide_eq_false_iff_not, Int.toNat_natCast, wrap01, wrap12, wrap23, ← hg]; omega) (fun y w' hd => lit_bool (by simp [rightB, hall, w]) hd) hs
    have w1 : wireB v g.a = true := by simp only [wireB, Bool.and_eq_true, decide_eq_true_eq]; omega
    by_cases a2 : g.b < -1
    · have w : wireB v g.b = false := by simp only [wireB, Bool.and_eq_false_iff, decide_eq_false_iff_not]; omega
      exact run_end env1_ok hk hF (qA2_end l p v i) (by simp only [AllP, and_true, decide_eq_true_eq, decide_eq_false_iff_not, Int.toNat_natCast, wrap01, wrap12, wrap23, ← hg]; omega) (fun y w' hd => lit_bool (by simp [rightB, hall, w]) hd) hs
    by_cases c2 : g.b ≥ v
    · have w : wireB v g.b = false := by simp only [wireB, Bool.and_eq_false_iff, decide_eq_false_iff_not]; omega
      exact run_end env1_ok hk hF (qC2_end l p v i) (by simp only [AllP, and_true, decide_eq_true_eq, decide_eq_false_iff_not, Int.toNat_natCast, wrap01, wrap12, wrap23, ← hg]; omega) (fun y w' hd => lit_bool (by simp [rightB, hall, w]) hd) hs
    have w2 : wireB v g.b = true := by simp only [wireB, Bool.and_eq_true, decide_eq_true_eq]; omega
    by_cases a3 : g.c < -1
    · have w : wireB v g.c = false := by simp only [wireB, Bool.and_eq_false_iff, decide_eq_false_iff_not]; omega
      exact run_end env1_ok hk hF (qA3_end l p v i) (by simp only [AllP, and_true, decide_eq_true_eq, decide_eq_false_iff_not, Int.toNat_natCast, wrap01, wrap12, wrap23, ← hg]; omega) (fun y w' hd => lit_bool (by simp [rightB, hall, w]) hd) hs
    by_cases c3 : g.c ≥ v
    · have w : wireB v g.c = false := by simp only [wireB, Bool.and_eq_false_iff, decide_eq_false_iff_not]; omega
      exact run_end env1_ok hk hF (qC3_end l p v i) (by simp only [AllP, and_true, decide_eq_true_eq, decide_eq_false_iff_not, Int.toNat_natCast, wrap01, wrap12, wrap23, ← hg]; omega) (fun y w' hd => lit_bool (by simp [rightB, hall, w]) hd) hs
    have w3 : wireB v g.c = true := by simp only [wireB, Bool.and_eq_true, decide_eq_true_eq]; omega
    refine qNx l p v i (by simp only [AllP, and_true, decide_eq_true_eq, decide_eq_false_iff_not, Int.toNat_natCast, wrap01, wrap12, wrap23, ← hg]; omega) hs fun ac y b hs2 => ?_
    rw [wrap_id (by omega) (by omega)] at hs2
    exact ih ⟨i + 1, h5, by rw [hall, w1, w2, w3]; rfl⟩ (by show l.length - (i + 1) < l.length - i; omega) ac y b (hs2.nx 96)
  · have hall : l.all (gateB v) = true := by rw [hall, List.drop_eq_nil_of_le (by omega)]; rfl
    have hrb : rightB l p v = (decide (l.length ≤ 4096) && decide (0 ≤ p) && decide (p ≤ l.length) && decide (0 ≤ v)) := by simp [rightB, hall]
    by_cases k1 : l.length ≤ 4096
    · by_cases k2 : 0 ≤ p
      · by_cases k3 : p ≤ l.length
        · refine run_end env1_ok hk hF (qX1_end l p v i) (by simp only [AllP, and_true, decide_eq_true_eq, decide_eq_false_iff_not]; omega) (fun y w hd => ?_) hs
          rw [show rightB l p v = decide (v ≥ (0 : Int)) from by rw [hrb]; simp [k1, k2, k3]]; exact hd
        · exact run_end env1_ok hk hF (qX2_end l p v i) (by simp only [AllP, and_true, decide_eq_true_eq, decide_eq_false_iff_not]; omega) (fun y w hd => lit_bool (by rw [hrb]; simp [k3]) hd) hs
      · exact run_end env1_ok hk hF (qX3_end l p v i) (by simp only [AllP, and_true, decide_eq_true_eq, decide_eq_false_iff_not]; omega) (fun y w hd => lit_bool (by rw [hrb]; simp [k2]) hd) hs
    · exact run_end env1_ok hk hF (qX4_end l p v i) (by simp only [AllP, and_true, decide_eq_true_eq, decide_eq_false_iff_not]; omega) (fun y w hd => lit_bool (by rw [hrb]; simp [k1]) hd) hs

end Go.Proofs.Ytlfllehomhcbfaa
