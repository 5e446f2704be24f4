/- SetupSizes answers true for every circuit. No conditions. -/
import Derived.Test.YtlfllehomhcbfaaWSetup
namespace Go.Proofs.Ytlfllehomhcbfaa

theorem sizes_fnd (l : List GateD) (p v : Int) : FnD Try.prog 3 [circV l p v] (.v (.c (.bool true))) [] := by
  by_cases hr : rightB l p v = true
  · have hlen : l.length ≤ 4096 := by simp [rightB] at hr; omega
    obtain ⟨a1, a2, a3, a4⟩ := logOf_back l.length hlen
    have hsh := shl_eq (i := logOf l.length) (by omega)
    have hsh' := shl_eq (i := logOf l.length - 1) (by omega)
    by_cases h1 : logOf l.length = 1
    · refine (fn_sound env3_ok Try.func3 (sB l p v) ?_).conv (fun _ _ h => h) (fun y w hd => lit_bool rfl hd)
      simp only [if_pos hr]
      rw [hsh, hr]
      refine ⟨rfl, rfl, by simp only [decide_eq_true_eq]; omega, by simp only [decide_eq_true_eq]; omega, by omega, by simp only [decide_eq_true_eq]; exact_mod_cast a3, by rw [h1]; rfl, trivial⟩
    · refine (fn_sound env3_ok Try.func3 (sC l p v) ?_).conv (fun _ _ h => h) (fun y w hd => ?_)
      · simp only [if_pos hr]
        rw [hsh, hr]
        refine ⟨rfl, rfl, by simp only [decide_eq_true_eq]; omega, by simp only [decide_eq_true_eq]; omega, by omega, by simp only [decide_eq_true_eq]; exact_mod_cast a3, by simp only [beq_eq_false_iff_ne]; omega, by rw [wrap_id (by omega) (by omega)]; omega, trivial⟩
      · simp only [if_pos hr] at hd
        rw [wrap_id (n := (logOf l.length : Int) - 1) (by omega) (by omega), show ((logOf l.length : Int) - 1) = ((logOf l.length - 1 : Nat) : Int) from by omega, hsh'] at hd
        exact lit_bool (by simp only [decide_eq_true_eq]; exact_mod_cast a4.resolve_left h1) (lit_of hd rfl)
  · have hr' : rightB l p v = false := by simpa using hr
    refine (fn_sound env3_ok Try.func3 (sA l p v) ?_).conv (fun _ _ h => h) (fun y w hd => ?_)
    · rw [hr']; exact ⟨rfl, rfl, trivial⟩
    · rw [hr'] at hd; exact hd

end Go.Proofs.Ytlfllehomhcbfaa
