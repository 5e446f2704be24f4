/- Parts of a proof, one behind the other: Rd, PLong. No conditions. -/
import Derived.Test.YtlfllehomhcbfaaDlK
/- How this seat's arguments are read. No conditions. -/
namespace Go.Proofs.Ytlfllehomhcbfaa
open Go.ChangeShapes Go.WideShapes Go.ChangeAt Go.RowKit

theorem ownKnob_try : ownKnob Try.prog.godebug = none := by kernel_rfl
theorem laid_try : laidOutB Try.prog = true := by kernel_rfl

theorem r_fr (dp : Nat) : Reads Try.prog 32 dp fun its => ∃ x : U4, its = [.ob (.fr x)] := reads_fr Try.underlying32 (by kernel_rfl) Try.underlying30 dp
theorem r_i (dp : Nat) : Reads Try.prog 3 dp fun its => ∃ n, its = [.int .i64 n] ∧ (Lit.int .i64 n).wf = true := reads_int Try.underlying3 dp

theorem r_dom (dp : Nat) : Reads Try.prog 34 dp fun its => ∃ n x, its = [.int .i64 n, .ob (.fr x)] := by
  intro H enc W fuel cs d ps h
  obtain ⟨its, hc, hp⟩ := reads_struct Try.underlying34 (.cons rfl (r_i dp) (.cons (by kernel_rfl) (r_fr dp) (.nil _))) (by kernel_rfl) enc W fuel cs d ps h
  refine ⟨its, hc, ?_⟩
  cases hp with | cons h1 hp => cases hp with | cons h2 hp =>
  cases hp
  obtain ⟨n, rfl, _⟩ := h1
  obtain ⟨x, rfl⟩ := h2
  exact ⟨n, x, rfl⟩

theorem r_frs (dp : Nat) : Reads Try.prog 38 (dp + 1) fun its => ∃ l, its = [.sl (.fr l)] ∧ l.length ≤ maxLen :=
  reads_slice (f := fun x => [.ob (.fr x)]) Try.underlying38 (by kernel_rfl) (r_fr dp) .fr (fun _ => rfl) (fun _ => by kernel_rfl) (fun l i a hi => by simp [Sq.get, List.getD, hi])

set_option maxRecDepth 100000 in
theorem a_int {W : World} {base : Nat} {v : Value} (hv : Value.okWide Try.prog W .any base 3 v) : ∃ n, denS (X0 W) (.v (.c (.int .i64 n))) v ∧ -9223372036854775808 ≤ n ∧ n < 9223372036854775808 := by
  obtain ⟨n, rfl, h1, h2⟩ := arg_int Try.underlying3 hv
  have h1 : (-9223372036854775808 : Int) ≤ n := h1
  have h2 : n ≤ (9223372036854775807 : Int) := h2
  exact ⟨n, ⟨rfl, 0, rfl⟩, h1, by omega⟩

set_option maxRecDepth 100000 in
theorem a_fr {W : World} {base : Nat} {v : Value} {H : Type} {enc : TypeId × Value → H} {d : DataW H} {ps : List MemPlace} (hv : Value.okWide Try.prog W .any base 32 v) (h : DataW.Trod enc Try.prog W 0 (fun _ => true) true 32 v d ps) : ∃ x, denS (X0 W) (.v (.a [.ob (.fr x)])) v := by
  obtain ⟨its, h1, x, rfl⟩ := arg_agg (r_fr 0) (.inr ⟨_, _, Try.underlying32⟩) hv h
  exact ⟨x, h1⟩

set_option maxRecDepth 100000 in
theorem a_dom {W : World} {base : Nat} {v : Value} {H : Type} {enc : TypeId × Value → H} {d : DataW H} {ps : List MemPlace} (hv : Value.okWide Try.prog W .any base 34 v) (h : DataW.Trod enc Try.prog W 0 (fun _ => true) true 34 v d ps) : ∃ n x, denS (X0 W) (.v (.a [.int .i64 n, .ob (.fr x)])) v := by
  obtain ⟨its, h1, n, x, rfl⟩ := arg_agg (r_dom 0) (.inl ⟨_, Try.underlying34⟩) hv h
  exact ⟨n, x, h1⟩

set_option maxRecDepth 100000 in
theorem a_frs {W : World} {base : Nat} {v : Value} {H : Type} {enc : TypeId × Value → H} {d : DataW H} {ps : List MemPlace} (hv : Value.okWide Try.prog W .any base 38 v) (h : DataW.Trod enc Try.prog W 0 (fun _ => true) true 38 v d ps) : ∃ l, denS (X0 W) (.v (.c (.sl (.fr l)))) v ∧ l.length ≤ maxLen :=
  arg_slice (mk := Sq.fr) Try.underlying38 (r_frs 0) hv h

end Go.Proofs.Ytlfllehomhcbfaa

/- PolyLong answers true for all lengths; the claim. No conditions. -/
namespace Go.Proofs.Ytlfllehomhcbfaa
open Go.ChangeShapes Go.WideShapes Go.ChangeAt Go.RowKit

theorem longs (A B : List U4) (hB : B.length ≤ 3) : longB [A] = decide (262144 < A.length) ∧ longB ([A] ++ [B]) = decide (262144 < A.length) ∧ longB ([B] ++ [A]) = decide (262144 < A.length) ∧ longB ([A] ++ [[]]) = decide (262144 < A.length) ∧
    mErr A B = (decide (262144 < A.length) || (decide (0 < A.length) && decide (0 < B.length) && decide (16384 < A.length + B.length))) := by
  have hb : decide (262144 < B.length) = false := decide_eq_false (by omega)
  have e1 : longB [A] = decide (262144 < A.length) := Bool.or_false _
  have e2 : longB ([A] ++ [B]) = decide (262144 < A.length) := by
    show (decide (262144 < A.length) || (decide (262144 < B.length) || false)) = _
    rw [hb, Bool.or_false, Bool.or_false]
  have e3 : longB ([B] ++ [A]) = decide (262144 < A.length) := by
    show (decide (262144 < B.length) || (decide (262144 < A.length) || false)) = _
    rw [hb, Bool.or_false, Bool.false_or]
  have e4 : longB ([A] ++ [[]]) = decide (262144 < A.length) := by
    show (decide (262144 < A.length) || (decide (262144 < ([] : List U4).length) || false)) = _
    rw [show decide (262144 < ([] : List U4).length) = false from rfl, Bool.or_false, Bool.or_false]
  refine ⟨e1, e2, e3, e4, ?_⟩
  unfold mErr
  rw [e2]

theorem longL1_fnd (n m : Int) (N M : Nat) (en : (if (262145 : Int) < (if (0 : Int) > n then (0 : Int) else n) then (262145 : Int) else (if (0 : Int) > n then (0 : Int) else n)) = (N : Int)) (em : (if (3 : Int) < (if (0 : Int) > m then (0 : Int) else m) then (3 : Int) else (if (0 : Int) > m then (0 : Int) else m)) = (M : Int))
    (hN : N ≤ 262145) (hM : M ≤ 3) (h1 : 262144 < N) (h2 : 0 < M) : FnD Try.prog 17 [.v (.c (.int .i64 n)), .v (.c (.int .i64 m))] (.v (.c (.bool true))) [] := by
  have r := lo1 n m
  rw [en, em, Int.toNat_natCast, Int.toNat_natCast] at r
  have hA : (List.replicate N (0 : U4)).length = N := List.length_replicate
  have hB : (List.replicate M (0 : U4)).length = M := List.length_replicate
  generalize List.replicate N (0 : U4) = A at r hA
  generalize List.replicate M (0 : U4) = B at r hB
  obtain ⟨e1, e2, e3, e4, e5⟩ := longs A B (by omega)
  have hl : decide (262144 < A.length) = true := by exact decide_eq_true (by omega)
  have he : mErr A B = true := by
    rw [e5, hl]
    rfl
  rw [e1, e2, e3, e4, hl, he] at r
  have hw : IntKind.wrap IntKind.i64 ((N : Int) + (M : Int)) = ((N + M : Nat) : Int) := by rw [wrap_id (by omega) (by omega)]; omega
  rw [hw] at r
  refine (fn_sound envU_ok Try.func17 r ?_).conv (fun _ _ h => h) fun y v hd => ?_
  · clear r e1 e2 e3 e4 e5 hl he en em
    generalize A.length = lA at *
    generalize B.length = lB at *
    and_intros <;> first | exact True.intro | omega | (simp only [decide_eq_true_eq]; omega) | (simp only [decide_eq_false_iff_not]; omega) | decide | rfl
  · exact hd

theorem longL2_fnd (n m : Int) (N M : Nat) (en : (if (262145 : Int) < (if (0 : Int) > n then (0 : Int) else n) then (262145 : Int) else (if (0 : Int) > n then (0 : Int) else n)) = (N : Int)) (em : (if (3 : Int) < (if (0 : Int) > m then (0 : Int) else m) then (3 : Int) else (if (0 : Int) > m then (0 : Int) else m)) = (M : Int))
    (hN : N ≤ 262145) (_hM : M ≤ 3) (h1 : 262144 < N) (h2 : M = 0) : FnD Try.prog 17 [.v (.c (.int .i64 n)), .v (.c (.int .i64 m))] (.v (.c (.bool true))) [] := by
  have r := lo2 n m
  rw [en, em, Int.toNat_natCast, Int.toNat_natCast] at r
  have hA : (List.replicate N (0 : U4)).length = N := List.length_replicate
  have hB : (List.replicate M (0 : U4)).length = M := List.length_replicate
  generalize List.replicate N (0 : U4) = A at r hA
  generalize List.replicate M (0 : U4) = B at r hB
  obtain ⟨e1, e2, e3, e4, e5⟩ := longs A B (by omega)
  have hl : decide (262144 < A.length) = true := by exact decide_eq_true (by omega)
  have he : mErr A B = true := by
    rw [e5, hl]
    rfl
  rw [e1, e2, e3, e4, hl, he] at r
  have hw : IntKind.wrap IntKind.i64 ((N : Int) + (M : Int)) = ((N + M : Nat) : Int) := by rw [wrap_id (by omega) (by omega)]; omega
  clear hw
  refine (fn_sound envU_ok Try.func17 r ?_).conv (fun _ _ h => h) fun y v hd => ?_
  · clear r e1 e2 e3 e4 e5 hl he en em
    generalize A.length = lA at *
    generalize B.length = lB at *
    and_intros <;> first | exact True.intro | omega | (simp only [decide_eq_true_eq]; omega) | (simp only [decide_eq_false_iff_not]; omega) | decide | rfl
  · exact hd

theorem longL3_fnd (n m : Int) (N M : Nat) (en : (if (262145 : Int) < (if (0 : Int) > n then (0 : Int) else n) then (262145 : Int) else (if (0 : Int) > n then (0 : Int) else n)) = (N : Int)) (em : (if (3 : Int) < (if (0 : Int) > m then (0 : Int) else m) then (3 : Int) else (if (0 : Int) > m then (0 : Int) else m)) = (M : Int))
    (_hN : N ≤ 262145) (hM : M ≤ 3) (h1 : N = 0) : FnD Try.prog 17 [.v (.c (.int .i64 n)), .v (.c (.int .i64 m))] (.v (.c (.bool true))) [] := by
  have r := lo3 n m
  rw [en, em, Int.toNat_natCast, Int.toNat_natCast] at r
  have hA : (List.replicate N (0 : U4)).length = N := List.length_replicate
  have hB : (List.replicate M (0 : U4)).length = M := List.length_replicate
  generalize List.replicate N (0 : U4) = A at r hA
  generalize List.replicate M (0 : U4) = B at r hB
  obtain ⟨e1, e2, e3, e4, e5⟩ := longs A B (by omega)
  have hl : decide (262144 < A.length) = false := by exact decide_eq_false (by omega)
  have he : mErr A B = false := by
    rw [e5, hl]
    rw [decide_eq_false (by omega : ¬ 0 < A.length)]; rfl
  rw [e1, e2, e3, e4, hl, he] at r
  have hw : IntKind.wrap IntKind.i64 ((N : Int) + (M : Int)) = ((N + M : Nat) : Int) := by rw [wrap_id (by omega) (by omega)]; omega
  clear hw
  refine (fn_sound envU_ok Try.func17 r ?_).conv (fun _ _ h => h) fun y v hd => ?_
  · clear r e1 e2 e3 e4 e5 hl he en em
    generalize A.length = lA at *
    generalize B.length = lB at *
    and_intros <;> first | exact True.intro | omega | (simp only [decide_eq_true_eq]; omega) | (simp only [decide_eq_false_iff_not]; omega) | decide | rfl
  · exact hd

theorem longL4_fnd (n m : Int) (N M : Nat) (en : (if (262145 : Int) < (if (0 : Int) > n then (0 : Int) else n) then (262145 : Int) else (if (0 : Int) > n then (0 : Int) else n)) = (N : Int)) (em : (if (3 : Int) < (if (0 : Int) > m then (0 : Int) else m) then (3 : Int) else (if (0 : Int) > m then (0 : Int) else m)) = (M : Int))
    (hN : N ≤ 262145) (_hM : M ≤ 3) (h1 : 0 < N ∧ N ≤ 262144) (h2 : M = 0) : FnD Try.prog 17 [.v (.c (.int .i64 n)), .v (.c (.int .i64 m))] (.v (.c (.bool true))) [] := by
  have r := lo4 n m
  rw [en, em, Int.toNat_natCast, Int.toNat_natCast] at r
  have hA : (List.replicate N (0 : U4)).length = N := List.length_replicate
  have hB : (List.replicate M (0 : U4)).length = M := List.length_replicate
  generalize List.replicate N (0 : U4) = A at r hA
  generalize List.replicate M (0 : U4) = B at r hB
  obtain ⟨e1, e2, e3, e4, e5⟩ := longs A B (by omega)
  have hl : decide (262144 < A.length) = false := by exact decide_eq_false (by omega)
  have he : mErr A B = false := by
    rw [e5, hl]
    rw [decide_eq_false (by omega : ¬ 0 < B.length), Bool.and_false]; rfl
  rw [e1, e2, e3, e4, hl, he] at r
  have hw : IntKind.wrap IntKind.i64 ((N : Int) + (M : Int)) = ((N + M : Nat) : Int) := by rw [wrap_id (by omega) (by omega)]; omega
  clear hw
  refine (fn_sound envU_ok Try.func17 r ?_).conv (fun _ _ h => h) fun y v hd => ?_
  · clear r e1 e2 e3 e4 e5 hl he en em
    generalize A.length = lA at *
    generalize B.length = lB at *
    and_intros <;> first | exact True.intro | omega | (simp only [decide_eq_true_eq]; omega) | (simp only [decide_eq_false_iff_not]; omega) | decide | rfl
  · exact hd

theorem longL5_fnd (n m : Int) (N M : Nat) (en : (if (262145 : Int) < (if (0 : Int) > n then (0 : Int) else n) then (262145 : Int) else (if (0 : Int) > n then (0 : Int) else n)) = (N : Int)) (em : (if (3 : Int) < (if (0 : Int) > m then (0 : Int) else m) then (3 : Int) else (if (0 : Int) > m then (0 : Int) else m)) = (M : Int))
    (hN : N ≤ 262145) (hM : M ≤ 3) (h1 : N ≤ 262144 ∧ 16384 < N + M) (h2 : 0 < N ∧ 0 < M) : FnD Try.prog 17 [.v (.c (.int .i64 n)), .v (.c (.int .i64 m))] (.v (.c (.bool true))) [] := by
  have r := lo5 n m
  rw [en, em, Int.toNat_natCast, Int.toNat_natCast] at r
  have hA : (List.replicate N (0 : U4)).length = N := List.length_replicate
  have hB : (List.replicate M (0 : U4)).length = M := List.length_replicate
  generalize List.replicate N (0 : U4) = A at r hA
  generalize List.replicate M (0 : U4) = B at r hB
  obtain ⟨e1, e2, e3, e4, e5⟩ := longs A B (by omega)
  have hl : decide (262144 < A.length) = false := by exact decide_eq_false (by omega)
  have he : mErr A B = true := by
    rw [e5, hl]
    rw [decide_eq_true (by omega : 0 < A.length), decide_eq_true (by omega : 0 < B.length), decide_eq_true (by omega : 16384 < A.length + B.length)]; rfl
  rw [e1, e2, e3, e4, hl, he] at r
  have hw : IntKind.wrap IntKind.i64 ((N : Int) + (M : Int)) = ((N + M : Nat) : Int) := by rw [wrap_id (by omega) (by omega)]; omega
  rw [hw] at r
  refine (fn_sound envU_ok Try.func17 r ?_).conv (fun _ _ h => h) fun y v hd => ?_
  · clear r e1 e2 e3 e4 e5 hl he en em
    generalize A.length = lA at *
    generalize B.length = lB at *
    and_intros <;> first | exact True.intro | omega | (simp only [decide_eq_true_eq]; omega) | (simp only [decide_eq_false_iff_not]; omega) | decide | rfl
  · exact hd

theorem longL6_fnd (n m : Int) (N M : Nat) (en : (if (262145 : Int) < (if (0 : Int) > n then (0 : Int) else n) then (262145 : Int) else (if (0 : Int) > n then (0 : Int) else n)) = (N : Int)) (em : (if (3 : Int) < (if (0 : Int) > m then (0 : Int) else m) then (3 : Int) else (if (0 : Int) > m then (0 : Int) else m)) = (M : Int))
    (hN : N ≤ 262145) (hM : M ≤ 3) (h1 : N + M ≤ 16384) (h2 : 0 < N ∧ 0 < M) : FnD Try.prog 17 [.v (.c (.int .i64 n)), .v (.c (.int .i64 m))] (.v (.c (.bool true))) [] := by
  have r := lo6 n m
  rw [en, em, Int.toNat_natCast, Int.toNat_natCast] at r
  have hA : (List.replicate N (0 : U4)).length = N := List.length_replicate
  have hB : (List.replicate M (0 : U4)).length = M := List.length_replicate
  generalize List.replicate N (0 : U4) = A at r hA
  generalize List.replicate M (0 : U4) = B at r hB
  obtain ⟨e1, e2, e3, e4, e5⟩ := longs A B (by omega)
  have hl : decide (262144 < A.length) = false := by exact decide_eq_false (by omega)
  have he : mErr A B = false := by
    rw [e5, hl]
    rw [decide_eq_false (by omega : ¬ 16384 < A.length + B.length), Bool.and_false]; rfl
  rw [e1, e2, e3, e4, hl, he] at r
  have hw : IntKind.wrap IntKind.i64 ((N : Int) + (M : Int)) = ((N + M : Nat) : Int) := by rw [wrap_id (by omega) (by omega)]; omega
  rw [hw] at r
  refine (fn_sound envU_ok Try.func17 r ?_).conv (fun _ _ h => h) fun y v hd => ?_
  · clear r e1 e2 e3 e4 e5 hl he en em
    generalize A.length = lA at *
    generalize B.length = lB at *
    and_intros <;> first | exact True.intro | omega | (simp only [decide_eq_true_eq]; omega) | (simp only [decide_eq_false_iff_not]; omega) | decide | rfl
  · exact hd

theorem long_fnd17 (n m : Int) : FnD Try.prog 17 [.v (.c (.int .i64 n)), .v (.c (.int .i64 m))] (.v (.c (.bool true))) [] := by
  have hn : ∃ N : Nat, (if (262145 : Int) < (if (0 : Int) > n then (0 : Int) else n) then (262145 : Int) else (if (0 : Int) > n then (0 : Int) else n)) = (N : Int) ∧ N ≤ 262145 := by
    refine ⟨(if (262145 : Int) < (if (0 : Int) > n then (0 : Int) else n) then (262145 : Int) else (if (0 : Int) > n then (0 : Int) else n)).toNat, ?_, ?_⟩ <;> (split <;> split <;> omega)
  have hm : ∃ M : Nat, (if (3 : Int) < (if (0 : Int) > m then (0 : Int) else m) then (3 : Int) else (if (0 : Int) > m then (0 : Int) else m)) = (M : Int) ∧ M ≤ 3 := by
    refine ⟨(if (3 : Int) < (if (0 : Int) > m then (0 : Int) else m) then (3 : Int) else (if (0 : Int) > m then (0 : Int) else m)).toNat, ?_, ?_⟩ <;> (split <;> split <;> omega)
  obtain ⟨N, en, hN⟩ := hn
  obtain ⟨M, em, hM⟩ := hm
  by_cases h1 : 262144 < N
  · by_cases h2 : M = 0
    · exact longL2_fnd n m N M en em hN hM h1 h2
    · exact longL1_fnd n m N M en em hN hM h1 (by omega)
  by_cases h3 : N = 0
  · exact longL3_fnd n m N M en em hN hM h3
  by_cases h2 : M = 0
  · exact longL4_fnd n m N M en em hN hM ⟨by omega, by omega⟩ h2
  by_cases h4 : 16384 < N + M
  · exact longL5_fnd n m N M en em hN hM ⟨by omega, h4⟩ ⟨by omega, by omega⟩
  · exact longL6_fnd n m N M en em hN hM (by omega) ⟨by omega, by omega⟩

end Go.Proofs.Ytlfllehomhcbfaa
