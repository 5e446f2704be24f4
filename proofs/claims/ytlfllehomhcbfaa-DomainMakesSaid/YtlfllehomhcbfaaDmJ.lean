/- Parts of a proof, one behind the other: WMakes, PMakes. No conditions. -/
import Derived.Test.YtlfllehomhcbfaaDmI
/- A domain's elements; DomainMakes, walked. No conditions. -/
namespace Go.Proofs.Ytlfllehomhcbfaa

def powersSpec : FnSpec
  | [.v (.a [.ob (.s w)]), .v (.c (.int .i64 n))] => some ([0 ≤ n, n ≤ 8796093022208], .v (.c (.slc 0 0 n.toNat 4)), [.sq (.s (powF w n.toNat))])
  | _ => none
def out69Spec : FnSpec
  | [.v (.c (.sl (.s l)))] => some ([l.length ≤ 8796093022208], .v (.c (.slc 0 0 l.length 4)), [.sq (.fr (l.map outF))])
  | _ => none
def likeSpec : FnSpec
  | [.v (.c (.sl (.fr a))), .v (.c (.sl (.fr b)))] => some ([], .v (.c (.bool (decide (a = b)))), [])
  | _ => none
noncomputable def envN1 : Env := envM.set (addT envM.fn 70 powersSpec)
theorem envN1_ok : EnvOk Try.prog envN1 := env_add envM_ok 70 powersSpec (enters_of Try.func70 rfl rfl) fun args o r es h ho => by
  unfold powersSpec at h
  split at h
  · rename_i w n
    cases h
    obtain ⟨h0, h1, _⟩ := ho
    obtain ⟨m, rfl⟩ := Int.eq_ofNat_of_zero_le h0
    exact powers_fnd w m (by omega)
  · cases h
noncomputable def envN2 : Env := envN1.set (addT envN1.fn 69 out69Spec)
theorem envN2_ok : EnvOk Try.prog envN2 := env_add envN1_ok 69 out69Spec (enters_of Try.func69 rfl rfl) fun args o r es h ho => by
  unfold out69Spec at h
  split at h
  · cases h; exact out69_fnd _ ho.1
  · cases h
noncomputable def envN : Env := envN2.set (addT envN2.fn 27 likeSpec)
theorem envN_ok : EnvOk Try.prog envN := env_add envN2_ok 27 likeSpec (enters_of Try.func27 rfl rfl) fun args o r es h _ => by
  unfold likeSpec at h
  split at h
  · cases h; exact like_fnd _ _
  · cases h

--@env envN envN_ok
theorem elA (log : Int) (w : U4) : fnRes envN Try.f26 3000 [.v (.a [.int .i64 log, .ob (.fr w)])] [true] [] [] = (Option.some ([((Bool.not (domOk log w)) = true)], ((SV.t [(V1.c (It.val (Value.slice Option.none 0 0))), (V1.c (It.int IntKind.i64 (40 : Int)))]), []))) := by kernel_rfl
theorem elB (log : Int) (w : U4) : fnRes envN Try.f26 3000 [.v (.a [.int .i64 log, .ob (.fr w)])] [false] [224] [] = (Option.some ([((Bool.not (domOk log w)) = false), ((0 : Int) ≤ log), ((0 : Int) ≤ (IntKind.wrap IntKind.i64 ((1 : Int) * ((2 : Int) ^ (Min.min (log).toNat 64))))), ((IntKind.wrap IntKind.i64 ((1 : Int) * ((2 : Int) ^ (Min.min (log).toNat 64)))) ≤ (8796093022208 : Int)), (0 = 0), (((IntKind.wrap IntKind.i64 ((1 : Int) * ((2 : Int) ^ (Min.min (log).toNat 64))))).toNat = (List.length (powF (inF w) ((IntKind.wrap IntKind.i64 ((1 : Int) * ((2 : Int) ^ (Min.min (log).toNat 64))))).toNat))), (4 = 4), ((List.length (powF (inF w) ((IntKind.wrap IntKind.i64 ((1 : Int) * ((2 : Int) ^ (Min.min (log).toNat 64))))).toNat)) ≤ 8796093022208)], ((SV.t [(V1.c (It.slc 0 0 (List.length (powF (inF w) ((IntKind.wrap IntKind.i64 ((1 : Int) * ((2 : Int) ^ (Min.min (log).toNat 64))))).toNat)) 4)), (V1.c (It.int IntKind.i64 (0 : Int)))]), [(En.sq (Sq.fr (List.map outF (powF (inF w) ((IntKind.wrap IntKind.i64 ((1 : Int) * ((2 : Int) ^ (Min.min (log).toNat 64))))).toNat))))]))) := by kernel_rfl
def elemF (log : Int) (w : U4) : List U4 := if domOk log w then (powF (inF w) (2 ^ log.toNat)).map outF else []

theorem domOk_log {log : Int} {w : U4} (h : domOk log w = true) : 0 ≤ log ∧ log ≤ 16 ∧ w = outF (sqN rootF (32 - log).toNat) := by
  simp only [domOk, Bool.and_eq_true, decide_eq_true_eq] at h
  obtain ⟨h1, h2⟩ := h
  have h3 := h1
  simp only [okLog, Bool.and_eq_true, decide_eq_true_eq] at h1
  refine ⟨h1.1, h1.2, ?_⟩
  rw [← h2]
  unfold newRoot
  rw [if_pos h3]

theorem shl2 {log : Int} (h0 : 0 ≤ log) (h1 : log ≤ 30) : IntKind.wrap IntKind.i64 ((1 : Int) * ((2 : Int) ^ (Min.min (log).toNat 64))) = ((2 ^ log.toNat : Nat) : Int) ∧ 2 ^ log.toNat ≤ 1073741824 := by
  obtain ⟨k, rfl⟩ := Int.eq_ofNat_of_zero_le h0
  have h := shl1 k (by omega)
  rw [wrap_u (by omega) (by omega)] at h
  exact h

theorem powF_len (w : Fr) (n : Nat) : (powF w n).length = n := by simp [powF]

theorem elems_fnd (log : Int) (w : U4) : FnD Try.prog 26 [.v (.a [.int .i64 log, .ob (.fr w)])] (.t [.c (.slc 0 0 (elemF log w).length 4), .c (.int .i64 (if domOk log w then 0 else 40))]) [.sq (.fr (elemF log w))] := by
  cases h : domOk log w with
  | false =>
    have e : elemF log w = [] := by unfold elemF; rw [h]; rfl
    rw [e]
    exact (fn_sound envN_ok Try.func26 (elA log w) ⟨by rw [h]; rfl, trivial⟩).nil2 rfl
  | true =>
    obtain ⟨h0, h1, _⟩ := domOk_log h
    obtain ⟨e1, e2⟩ := shl2 h0 (by omega)
    have e : elemF log w = (powF (inF w) (2 ^ log.toNat)).map outF := by unfold elemF; rw [h]; rfl
    have r := elB log w
    rw [e1, Int.toNat_natCast, powF_len] at r
    rw [e, List.length_map, powF_len]
    generalize hm : 2 ^ log.toNat = m at r e2
    exact fn_sound envN_ok Try.func26 r ⟨by rw [h]; rfl, h0, by omega, by omega, rfl, rfl, rfl, by omega, trivial⟩

def elemSpec : FnSpec
  | [.v (.a [.int .i64 log, .ob (.fr w)])] => some ([], .t [.c (.slc 0 0 (elemF log w).length 4), .c (.int .i64 (if domOk log w then 0 else 40))], [.sq (.fr (elemF log w))])
  | _ => none
def relemSpec : FnSpec
  | [.v (.a [.int .i64 log, .ob (.fr w)])] => some ([0 ≤ log, log ≤ 16, w.val < rN], .v (.c (.slc 0 0 (2 ^ log.toNat) 4)), [.sq (.fr ((powF (inF w) (2 ^ log.toNat)).map outF))])
  | _ => none
noncomputable def envN3 : Env := envN.set (addT envN.fn 26 elemSpec)
theorem envN3_ok : EnvOk Try.prog envN3 := env_add envN_ok 26 elemSpec (enters_of Try.func26 rfl rfl) fun args o r es h _ => by
  unfold elemSpec at h
  split at h
  · cases h; exact elems_fnd _ _
  · cases h
noncomputable def envO : Env := envN3.set (addT envN3.fn 28 relemSpec)
theorem envO_ok : EnvOk Try.prog envO := env_add envN3_ok 28 relemSpec (enters_of Try.func28 rfl rfl) fun args o r es h ho => by
  unfold relemSpec at h
  split at h
  · rename_i log w
    cases h
    obtain ⟨h0, h1, h2, _⟩ := ho
    obtain ⟨k, rfl⟩ := Int.eq_ofNat_of_zero_le h0
    have hf := refElems_fnd k (inF w) (by omega)
    rw [out_in h2] at hf
    exact hf
  · cases h

--@env envO envO_ok
theorem mkA (log dl : Int) (dw : U4) : fnRes envO Try.f4 3000 [.v (.c (.int .i64 log)), .v (.a [.int .i64 dl, .ob (.fr dw)])] [false, false, false, true] [] [] = (Option.some ([((ite (false = true) (Bool.and ((ite ((okLog log) = true) log (0 : Int)) == (ite ((okLog log) = true) log (0 : Int))) (decide ((newRoot log) = (newRoot log)))) (Bool.not (Bool.and ((ite ((okLog log) = true) log (0 : Int)) == (ite ((okLog log) = true) log (0 : Int))) (decide ((newRoot log) = (newRoot log)))))) = false), (((ite ((okLog log) = true) (0 : Int) (40 : Int)) != (ite ((okLog log) = true) (0 : Int) (40 : Int))) = false), ((ite (false = true) ((domOk dl dw) == (domOk dl dw)) (Bool.not ((domOk dl dw) == (domOk dl dw)))) = false), ((decide (log > (6 : Int))) = true)], ((SV.v (V1.c (It.lit true))), []))) := by kernel_rfl
theorem mkB (log dl : Int) (dw : U4) : fnRes envO Try.f4 3000 [.v (.c (.int .i64 log)), .v (.a [.int .i64 dl, .ob (.fr dw)])] [false, false, false, false, true, true] [] [] = (Option.some ([((ite (false = true) (Bool.and ((ite ((okLog log) = true) log (0 : Int)) == (ite ((okLog log) = true) log (0 : Int))) (decide ((newRoot log) = (newRoot log)))) (Bool.not (Bool.and ((ite ((okLog log) = true) log (0 : Int)) == (ite ((okLog log) = true) log (0 : Int))) (decide ((newRoot log) = (newRoot log)))))) = false), (((ite ((okLog log) = true) (0 : Int) (40 : Int)) != (ite ((okLog log) = true) (0 : Int) (40 : Int))) = false), ((ite (false = true) ((domOk dl dw) == (domOk dl dw)) (Bool.not ((domOk dl dw) == (domOk dl dw)))) = false), ((decide (log > (6 : Int))) = false), (((ite ((okLog log) = true) (0 : Int) (40 : Int)) != (0 : Int)) = true), (((ite ((domOk (ite ((okLog log) = true) log (0 : Int)) (newRoot log)) = true) (0 : Int) (40 : Int)) == (40 : Int)) = true)], ((SV.v (V1.c (It.bool ((((List.length (elemF (ite ((okLog log) = true) log (0 : Int)) (newRoot log))) : Nat) : Int) == (0 : Int))))), []))) := by kernel_rfl
theorem mkC (log dl : Int) (dw : U4) : fnRes envO Try.f4 3000 [.v (.c (.int .i64 log)), .v (.a [.int .i64 dl, .ob (.fr dw)])] [false, false, false, false, false, true] [] [] = (Option.some ([((ite (false = true) (Bool.and ((ite ((okLog log) = true) log (0 : Int)) == (ite ((okLog log) = true) log (0 : Int))) (decide ((newRoot log) = (newRoot log)))) (Bool.not (Bool.and ((ite ((okLog log) = true) log (0 : Int)) == (ite ((okLog log) = true) log (0 : Int))) (decide ((newRoot log) = (newRoot log)))))) = false), (((ite ((okLog log) = true) (0 : Int) (40 : Int)) != (ite ((okLog log) = true) (0 : Int) (40 : Int))) = false), ((ite (false = true) ((domOk dl dw) == (domOk dl dw)) (Bool.not ((domOk dl dw) == (domOk dl dw)))) = false), ((decide (log > (6 : Int))) = false), (((ite ((okLog log) = true) (0 : Int) (40 : Int)) != (0 : Int)) = false), (((ite ((domOk (ite ((okLog log) = true) log (0 : Int)) (newRoot log)) = true) (0 : Int) (40 : Int)) == (0 : Int)) = true), ((0 : Int) ≤ (ite ((okLog log) = true) log (0 : Int))), ((ite ((okLog log) = true) log (0 : Int)) ≤ (16 : Int)), ((Fin.val (newRoot log)) < rN), (0 = 0), ((List.length (elemF (ite ((okLog log) = true) log (0 : Int)) (newRoot log))) = (List.length (elemF (ite ((okLog log) = true) log (0 : Int)) (newRoot log)))), (4 = 4), (0 = 0), ((2 ^ ((ite ((okLog log) = true) log (0 : Int))).toNat) = (List.length (List.map outF (powF (inF (newRoot log)) (2 ^ ((ite ((okLog log) = true) log (0 : Int))).toNat))))), (4 = 4)], ((SV.v (V1.c (It.bool (decide ((elemF (ite ((okLog log) = true) log (0 : Int)) (newRoot log)) = (List.map outF (powF (inF (newRoot log)) (2 ^ ((ite ((okLog log) = true) log (0 : Int))).toNat)))))))), []))) := by kernel_rfl
end Go.Proofs.Ytlfllehomhcbfaa

/- DomainMakes answers true for every number and domain. No conditions. -/
namespace Go.Proofs.Ytlfllehomhcbfaa

theorem ne_self (a : Bool) : (if (false = true) then a else !a) = !a := if_neg (by decide)

theorem dom00 : domOk 0 0 = false := by
  unfold domOk
  rw [newRoot0]
  have h : ¬ ((Fin.ofNat B4 1 : U4) = 0) := fun h => by have := congrArg Fin.val h; revert this; decide
  rw [decide_eq_false h, Bool.and_false]

theorem dom_self {log : Int} (h : okLog log = true) : domOk log (newRoot log) = true := by
  unfold domOk
  rw [h, decide_eq_true rfl]
  rfl

theorem newRoot_lt (log : Int) : (newRoot log).val < rN := by
  unfold newRoot
  split
  · exact outF_lt _
  · decide

theorem makes_fnd (log dl : Int) (dw : U4) : FnD Try.prog 4 [.v (.c (.int .i64 log)), .v (.a [.int .i64 dl, .ob (.fr dw)])] (.v (.c (.bool true))) [] := by
  have q1 : ∀ (a b : Int), (if (false = true) then (a == a && decide (newRoot b = newRoot b)) else !(a == a && decide (newRoot b = newRoot b))) = false := fun a b => by
    rw [ne_self, beq_self_eq_true, decide_eq_true rfl]; rfl
  have q2 : (if (false = true) then (domOk dl dw == domOk dl dw) else !(domOk dl dw == domOk dl dw)) = false := by rw [ne_self, beq_self_eq_true]; rfl
  have q3 : ∀ a : Int, (a != a) = false := fun a => by simp
  by_cases h6 : log > 6
  · exact (fn_sound envO_ok Try.func4 (mkA log dl dw) ⟨q1 _ _, q3 _, q2, by simp [h6], trivial⟩).conv (fun _ _ h => h) fun y v hd => lit_bool rfl hd
  cases hok : okLog log with
  | false =>
    have r := mkB log dl dw
    have hr : newRoot log = 0 := by unfold newRoot; rw [hok]; rfl
    rw [hok, hr] at r
    rw [if_neg (by decide : ¬ (false = true)), if_neg (by decide : ¬ (false = true)), dom00] at r
    have e : elemF 0 0 = [] := by unfold elemF; rw [dom00]; rfl
    rw [e] at r
    refine (fn_sound envO_ok Try.func4 r ⟨?_, rfl, q2, by simp [h6], rfl, rfl, trivial⟩).conv (fun _ _ h => h) fun y v hd => hd
    rfl
  | true =>
    have hl : 0 ≤ log ∧ log ≤ 16 := by simpa [okLog] using hok
    have r := mkC log dl dw
    have hds := dom_self hok
    have hlt := newRoot_lt log
    have e : elemF log (newRoot log) = (powF (inF (newRoot log)) (2 ^ log.toNat)).map outF := by unfold elemF; rw [hds, if_pos rfl]
    rw [hok] at r
    rw [show (if (true = true) then log else (0 : Int)) = log from if_pos rfl, show (if (true = true) then (0 : Int) else 40) = 0 from if_pos rfl, hds, show (if (true = true) then (0 : Int) else 40) = 0 from if_pos rfl] at r
    refine (fn_sound envO_ok Try.func4 r ?_).conv (fun _ _ h => h) fun y v hd => ?_
    · refine ⟨q1 _ _, rfl, q2, by simp [h6], rfl, rfl, hl.1, hl.2, hlt, rfl, rfl, rfl, rfl, by rw [List.length_map, powF_len], rfl, trivial⟩
    · rw [e, decide_eq_true rfl] at hd
      exact hd

end Go.Proofs.Ytlfllehomhcbfaa
