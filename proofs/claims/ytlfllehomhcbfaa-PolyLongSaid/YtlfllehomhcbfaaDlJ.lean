/- Parts of a proof, one behind the other: WMakes, PMakes, WPa, PPa, WPb, PPb, WPc, Pm, PPc, WPd, PDiv, WPe, PPe. No conditions. -/
import Derived.Test.YtlfllehomhcbfaaDlI
/- A domain's elements; DomainMakes, walked. No conditions. -/
namespace Go.Proofs.Ytlfllehomhcbfaa

def powersSpec : FnSpec
  | [.v (.a [.ob (.s w)]), .v (.c (.int .i64 n))] => some ([0 ≤ n, n ≤ 8796093022208], .v (.c (.slc 0 0 n.toNat 4)), [.sq (.s (powF w n.toNat))])
  | _ => none
def out69Spec : FnSpec
  | [.v (.c (.sl (.s l)))] => some ([l.length ≤ 8796093022208], .v (.c (.slc 0 0 l.length 4)), [.sq (.fr (l.map outF))])
  | _ => none
def likeSpec : FnSpec
  | [.v (.c (.sl (.fr a))), .v (.c (.sl (.fr b)))] => some ([], .v (.c (.bool (decide (a = b)))), [])
  | _ => none
noncomputable def envN1 : Env := envM.set (addT envM.fn 70 powersSpec)
theorem envN1_ok : EnvOk Try.prog envN1 := env_add envM_ok 70 powersSpec (enters_of Try.func70 rfl rfl) fun args o r es h ho => by
  unfold powersSpec at h
  split at h
  · rename_i w n
    cases h
    obtain ⟨h0, h1, _⟩ := ho
    obtain ⟨m, rfl⟩ := Int.eq_ofNat_of_zero_le h0
    exact powers_fnd w m (by omega)
  · cases h
noncomputable def envN2 : Env := envN1.set (addT envN1.fn 69 out69Spec)
theorem envN2_ok : EnvOk Try.prog envN2 := env_add envN1_ok 69 out69Spec (enters_of Try.func69 rfl rfl) fun args o r es h ho => by
  unfold out69Spec at h
  split at h
  · cases h; exact out69_fnd _ ho.1
  · cases h
noncomputable def envN : Env := envN2.set (addT envN2.fn 27 likeSpec)
theorem envN_ok : EnvOk Try.prog envN := env_add envN2_ok 27 likeSpec (enters_of Try.func27 rfl rfl) fun args o r es h _ => by
  unfold likeSpec at h
  split at h
  · cases h; exact like_fnd _ _
  · cases h

--@env envN envN_ok
theorem elA (log : Int) (w : U4) : fnRes envN Try.f26 3000 [.v (.a [.int .i64 log, .ob (.fr w)])] [true] [] [] = (Option.some ([((Bool.not (domOk log w)) = true)], ((SV.t [(V1.c (It.val (Value.slice Option.none 0 0))), (V1.c (It.int IntKind.i64 (40 : Int)))]), []))) := by kernel_rfl
theorem elB (log : Int) (w : U4) : fnRes envN Try.f26 3000 [.v (.a [.int .i64 log, .ob (.fr w)])] [false] [224] [] = (Option.some ([((Bool.not (domOk log w)) = false), ((0 : Int) ≤ log), ((0 : Int) ≤ (IntKind.wrap IntKind.i64 ((1 : Int) * ((2 : Int) ^ (Min.min (log).toNat 64))))), ((IntKind.wrap IntKind.i64 ((1 : Int) * ((2 : Int) ^ (Min.min (log).toNat 64)))) ≤ (8796093022208 : Int)), (0 = 0), (((IntKind.wrap IntKind.i64 ((1 : Int) * ((2 : Int) ^ (Min.min (log).toNat 64))))).toNat = (List.length (powF (inF w) ((IntKind.wrap IntKind.i64 ((1 : Int) * ((2 : Int) ^ (Min.min (log).toNat 64))))).toNat))), (4 = 4), ((List.length (powF (inF w) ((IntKind.wrap IntKind.i64 ((1 : Int) * ((2 : Int) ^ (Min.min (log).toNat 64))))).toNat)) ≤ 8796093022208)], ((SV.t [(V1.c (It.slc 0 0 (List.length (powF (inF w) ((IntKind.wrap IntKind.i64 ((1 : Int) * ((2 : Int) ^ (Min.min (log).toNat 64))))).toNat)) 4)), (V1.c (It.int IntKind.i64 (0 : Int)))]), [(En.sq (Sq.fr (List.map outF (powF (inF w) ((IntKind.wrap IntKind.i64 ((1 : Int) * ((2 : Int) ^ (Min.min (log).toNat 64))))).toNat))))]))) := by kernel_rfl
def elemF (log : Int) (w : U4) : List U4 := if domOk log w then (powF (inF w) (2 ^ log.toNat)).map outF else []

theorem domOk_log {log : Int} {w : U4} (h : domOk log w = true) : 0 ≤ log ∧ log ≤ 16 ∧ w = outF (sqN rootF (32 - log).toNat) := by
  simp only [domOk, Bool.and_eq_true, decide_eq_true_eq] at h
  obtain ⟨h1, h2⟩ := h
  have h3 := h1
  simp only [okLog, Bool.and_eq_true, decide_eq_true_eq] at h1
  refine ⟨h1.1, h1.2, ?_⟩
  rw [← h2]
  unfold newRoot
  rw [if_pos h3]

theorem shl2 {log : Int} (h0 : 0 ≤ log) (h1 : log ≤ 30) : IntKind.wrap IntKind.i64 ((1 : Int) * ((2 : Int) ^ (Min.min (log).toNat 64))) = ((2 ^ log.toNat : Nat) : Int) ∧ 2 ^ log.toNat ≤ 1073741824 := by
  obtain ⟨k, rfl⟩ := Int.eq_ofNat_of_zero_le h0
  have h := shl1 k (by omega)
  rw [wrap_u (by omega) (by omega)] at h
  exact h

theorem powF_len (w : Fr) (n : Nat) : (powF w n).length = n := by simp [powF]

theorem elems_fnd (log : Int) (w : U4) : FnD Try.prog 26 [.v (.a [.int .i64 log, .ob (.fr w)])] (.t [.c (.slc 0 0 (elemF log w).length 4), .c (.int .i64 (if domOk log w then 0 else 40))]) [.sq (.fr (elemF log w))] := by
  cases h : domOk log w with
  | false =>
    have e : elemF log w = [] := by unfold elemF; rw [h]; rfl
    rw [e]
    exact (fn_sound envN_ok Try.func26 (elA log w) ⟨by rw [h]; rfl, trivial⟩).nil2 rfl
  | true =>
    obtain ⟨h0, h1, _⟩ := domOk_log h
    obtain ⟨e1, e2⟩ := shl2 h0 (by omega)
    have e : elemF log w = (powF (inF w) (2 ^ log.toNat)).map outF := by unfold elemF; rw [h]; rfl
    have r := elB log w
    rw [e1, Int.toNat_natCast, powF_len] at r
    rw [e, List.length_map, powF_len]
    generalize hm : 2 ^ log.toNat = m at r e2
    exact fn_sound envN_ok Try.func26 r ⟨by rw [h]; rfl, h0, by omega, by omega, rfl, rfl, rfl, by omega, trivial⟩

def elemSpec : FnSpec
  | [.v (.a [.int .i64 log, .ob (.fr w)])] => some ([], .t [.c (.slc 0 0 (elemF log w).length 4), .c (.int .i64 (if domOk log w then 0 else 40))], [.sq (.fr (elemF log w))])
  | _ => none
def relemSpec : FnSpec
  | [.v (.a [.int .i64 log, .ob (.fr w)])] => some ([0 ≤ log, log ≤ 16, w.val < rN], .v (.c (.slc 0 0 (2 ^ log.toNat) 4)), [.sq (.fr ((powF (inF w) (2 ^ log.toNat)).map outF))])
  | _ => none
noncomputable def envN3 : Env := envN.set (addT envN.fn 26 elemSpec)
theorem envN3_ok : EnvOk Try.prog envN3 := env_add envN_ok 26 elemSpec (enters_of Try.func26 rfl rfl) fun args o r es h _ => by
  unfold elemSpec at h
  split at h
  · cases h; exact elems_fnd _ _
  · cases h
noncomputable def envO : Env := envN3.set (addT envN3.fn 28 relemSpec)
theorem envO_ok : EnvOk Try.prog envO := env_add envN3_ok 28 relemSpec (enters_of Try.func28 rfl rfl) fun args o r es h ho => by
  unfold relemSpec at h
  split at h
  · rename_i log w
    cases h
    obtain ⟨h0, h1, h2, _⟩ := ho
    obtain ⟨k, rfl⟩ := Int.eq_ofNat_of_zero_le h0
    have hf := refElems_fnd k (inF w) (by omega)
    rw [out_in h2] at hf
    exact hf
  · cases h

--@env envO envO_ok
theorem mkA (log dl : Int) (dw : U4) : fnRes envO Try.f4 3000 [.v (.c (.int .i64 log)), .v (.a [.int .i64 dl, .ob (.fr dw)])] [false, false, false, true] [] [] = (Option.some ([((ite (false = true) (Bool.and ((ite ((okLog log) = true) log (0 : Int)) == (ite ((okLog log) = true) log (0 : Int))) (decide ((newRoot log) = (newRoot log)))) (Bool.not (Bool.and ((ite ((okLog log) = true) log (0 : Int)) == (ite ((okLog log) = true) log (0 : Int))) (decide ((newRoot log) = (newRoot log)))))) = false), (((ite ((okLog log) = true) (0 : Int) (40 : Int)) != (ite ((okLog log) = true) (0 : Int) (40 : Int))) = false), ((ite (false = true) ((domOk dl dw) == (domOk dl dw)) (Bool.not ((domOk dl dw) == (domOk dl dw)))) = false), ((decide (log > (6 : Int))) = true)], ((SV.v (V1.c (It.lit true))), []))) := by kernel_rfl
theorem mkB (log dl : Int) (dw : U4) : fnRes envO Try.f4 3000 [.v (.c (.int .i64 log)), .v (.a [.int .i64 dl, .ob (.fr dw)])] [false, false, false, false, true, true] [] [] = (Option.some ([((ite (false = true) (Bool.and ((ite ((okLog log) = true) log (0 : Int)) == (ite ((okLog log) = true) log (0 : Int))) (decide ((newRoot log) = (newRoot log)))) (Bool.not (Bool.and ((ite ((okLog log) = true) log (0 : Int)) == (ite ((okLog log) = true) log (0 : Int))) (decide ((newRoot log) = (newRoot log)))))) = false), (((ite ((okLog log) = true) (0 : Int) (40 : Int)) != (ite ((okLog log) = true) (0 : Int) (40 : Int))) = false), ((ite (false = true) ((domOk dl dw) == (domOk dl dw)) (Bool.not ((domOk dl dw) == (domOk dl dw)))) = false), ((decide (log > (6 : Int))) = false), (((ite ((okLog log) = true) (0 : Int) (40 : Int)) != (0 : Int)) = true), (((ite ((domOk (ite ((okLog log) = true) log (0 : Int)) (newRoot log)) = true) (0 : Int) (40 : Int)) == (40 : Int)) = true)], ((SV.v (V1.c (It.bool ((((List.length (elemF (ite ((okLog log) = true) log (0 : Int)) (newRoot log))) : Nat) : Int) == (0 : Int))))), []))) := by kernel_rfl
theorem mkC (log dl : Int) (dw : U4) : fnRes envO Try.f4 3000 [.v (.c (.int .i64 log)), .v (.a [.int .i64 dl, .ob (.fr dw)])] [false, false, false, false, false, true] [] [] = (Option.some ([((ite (false = true) (Bool.and ((ite ((okLog log) = true) log (0 : Int)) == (ite ((okLog log) = true) log (0 : Int))) (decide ((newRoot log) = (newRoot log)))) (Bool.not (Bool.and ((ite ((okLog log) = true) log (0 : Int)) == (ite ((okLog log) = true) log (0 : Int))) (decide ((newRoot log) = (newRoot log)))))) = false), (((ite ((okLog log) = true) (0 : Int) (40 : Int)) != (ite ((okLog log) = true) (0 : Int) (40 : Int))) = false), ((ite (false = true) ((domOk dl dw) == (domOk dl dw)) (Bool.not ((domOk dl dw) == (domOk dl dw)))) = false), ((decide (log > (6 : Int))) = false), (((ite ((okLog log) = true) (0 : Int) (40 : Int)) != (0 : Int)) = false), (((ite ((domOk (ite ((okLog log) = true) log (0 : Int)) (newRoot log)) = true) (0 : Int) (40 : Int)) == (0 : Int)) = true), ((0 : Int) ≤ (ite ((okLog log) = true) log (0 : Int))), ((ite ((okLog log) = true) log (0 : Int)) ≤ (16 : Int)), ((Fin.val (newRoot log)) < rN), (0 = 0), ((List.length (elemF (ite ((okLog log) = true) log (0 : Int)) (newRoot log))) = (List.length (elemF (ite ((okLog log) = true) log (0 : Int)) (newRoot log)))), (4 = 4), (0 = 0), ((2 ^ ((ite ((okLog log) = true) log (0 : Int))).toNat) = (List.length (List.map outF (powF (inF (newRoot log)) (2 ^ ((ite ((okLog log) = true) log (0 : Int))).toNat))))), (4 = 4)], ((SV.v (V1.c (It.bool (decide ((elemF (ite ((okLog log) = true) log (0 : Int)) (newRoot log)) = (List.map outF (powF (inF (newRoot log)) (2 ^ ((ite ((okLog log) = true) log (0 : Int))).toNat)))))))), []))) := by kernel_rfl
end Go.Proofs.Ytlfllehomhcbfaa

/- DomainMakes answers true for every number and domain. No conditions. -/
namespace Go.Proofs.Ytlfllehomhcbfaa

theorem ne_self (a : Bool) : (if (false = true) then a else !a) = !a := if_neg (by decide)

theorem dom00 : domOk 0 0 = false := by
  unfold domOk
  rw [newRoot0]
  have h : ¬ ((Fin.ofNat B4 1 : U4) = 0) := fun h => by have := congrArg Fin.val h; revert this; decide
  rw [decide_eq_false h, Bool.and_false]

theorem dom_self {log : Int} (h : okLog log = true) : domOk log (newRoot log) = true := by
  unfold domOk
  rw [h, decide_eq_true rfl]
  rfl

theorem newRoot_lt (log : Int) : (newRoot log).val < rN := by
  unfold newRoot
  split
  · exact outF_lt _
  · decide

theorem makes_fnd (log dl : Int) (dw : U4) : FnD Try.prog 4 [.v (.c (.int .i64 log)), .v (.a [.int .i64 dl, .ob (.fr dw)])] (.v (.c (.bool true))) [] := by
  have q1 : ∀ (a b : Int), (if (false = true) then (a == a && decide (newRoot b = newRoot b)) else !(a == a && decide (newRoot b = newRoot b))) = false := fun a b => by
    rw [ne_self, beq_self_eq_true, decide_eq_true rfl]; rfl
  have q2 : (if (false = true) then (domOk dl dw == domOk dl dw) else !(domOk dl dw == domOk dl dw)) = false := by rw [ne_self, beq_self_eq_true]; rfl
  have q3 : ∀ a : Int, (a != a) = false := fun a => by simp
  by_cases h6 : log > 6
  · exact (fn_sound envO_ok Try.func4 (mkA log dl dw) ⟨q1 _ _, q3 _, q2, by simp [h6], trivial⟩).conv (fun _ _ h => h) fun y v hd => lit_bool rfl hd
  cases hok : okLog log with
  | false =>
    have r := mkB log dl dw
    have hr : newRoot log = 0 := by unfold newRoot; rw [hok]; rfl
    rw [hok, hr] at r
    rw [if_neg (by decide : ¬ (false = true)), if_neg (by decide : ¬ (false = true)), dom00] at r
    have e : elemF 0 0 = [] := by unfold elemF; rw [dom00]; rfl
    rw [e] at r
    refine (fn_sound envO_ok Try.func4 r ⟨?_, rfl, q2, by simp [h6], rfl, rfl, trivial⟩).conv (fun _ _ h => h) fun y v hd => hd
    rfl
  | true =>
    have hl : 0 ≤ log ∧ log ≤ 16 := by simpa [okLog] using hok
    have r := mkC log dl dw
    have hds := dom_self hok
    have hlt := newRoot_lt log
    have e : elemF log (newRoot log) = (powF (inF (newRoot log)) (2 ^ log.toNat)).map outF := by unfold elemF; rw [hds, if_pos rfl]
    rw [hok] at r
    rw [show (if (true = true) then log else (0 : Int)) = log from if_pos rfl, show (if (true = true) then (0 : Int) else 40) = 0 from if_pos rfl, hds, show (if (true = true) then (0 : Int) else 40) = 0 from if_pos rfl] at r
    refine (fn_sound envO_ok Try.func4 r ?_).conv (fun _ _ h => h) fun y v hd => ?_
    · refine ⟨q1 _ _, rfl, q2, by simp [h6], rfl, rfl, hl.1, hl.2, hlt, rfl, rfl, rfl, rfl, by rw [List.length_map, powF_len], rfl, trivial⟩
    · rw [e, decide_eq_true rfl] at hd
      exact hd

end Go.Proofs.Ytlfllehomhcbfaa

/- Small functions of polynomials, walked. No conditions. -/
namespace Go.Proofs.Ytlfllehomhcbfaa

noncomputable def lg0 (ls : List (List U4)) : Cfg := ⟨[.code (bodyOf Try.f73)], .normal, initSt Try.f73.ntmps [.v (.c (.sl (.frs ls)))]⟩
noncomputable def in0 (a : List U4) : Cfg := ⟨[.code (bodyOf Try.f74)], .normal, initSt Try.f74.ntmps [.v (.c (.sl (.fr a)))]⟩
noncomputable def bk0 (a : List Fr) : Cfg := ⟨[.code (bodyOf Try.f76)], .normal, initSt Try.f76.ntmps [.v (.c (.sl (.s a)))]⟩
--@env envO envO_ok
theorem fewR (a : List U4) : fnRes envO Try.f29 3000 [.v (.c (.sl (.fr a)))] [] [] [] = (Option.some ([((0 : Int) ≤ (ite ((40 : Int) < (((List.length a) : Nat) : Int)) (40 : Int) (((List.length a) : Nat) : Int))), ((ite ((40 : Int) < (((List.length a) : Nat) : Int)) (40 : Int) (((List.length a) : Nat) : Int)) ≤ (((List.length a) : Nat) : Int))], ((SV.v (V1.c (It.sl (Sq.fr (List.take ((ite ((40 : Int) < (((List.length a) : Nat) : Int)) (40 : Int) (((List.length a) : Nat) : Int))).toNat (List.drop 0 a)))))), []))) := by kernel_rfl
noncomputable def lgIn_k : List KI := (run envO false 3000 ((fun (ls : List (List U4)) => (lg0 ls : Cfg)) default) []).cfg.k
theorem lgIn_at (ls : List (List U4)) : runAt envO false 3000 ((lg0 ls : Cfg)) [] [5, 6, 7] [] [] = some ⟨[], Exit.normal, [(SV.v (V1.c (It.sl (Sq.frs ls)))), (SV.v (V1.c (It.int IntKind.i64 (((List.length ls) : Nat) : Int)))), (SV.v (V1.c (It.int IntKind.i64 (0 : Int))))], [], 15, 80, []⟩ := by kernel_rfl
theorem lgIn_hk (ls : List (List U4)) : (run envO false 3000 ((lg0 ls : Cfg)) []).cfg.k = lgIn_k := by kernel_rfl
theorem lgIn (ls : List (List U4)) {w0 : World} {F0 : Nat → Prop} {K : Kp} {ac : List Act} {Q : Exit → Act → World → Prop} {cX : Ctx} {aX : Act} (ho : AllP []) (hs : Sim w0 F0 K ac (((lg0 ls : Cfg)).σ) cX aX) (hK : ∀ ac cY aY, Sim w0 F0 K ac (mkSt 15 [5, 6, 7] [(SV.v (V1.c (It.sl (Sq.frs ls)))), (SV.v (V1.c (It.int IntKind.i64 (((List.length ls) : Nat) : Int)))), (SV.v (V1.c (It.int IntKind.i64 (0 : Int))))] [] [] 80 [] []) cY aY → Wq Try.prog Q (lgIn_k) ac Exit.normal aY cY.w) : Wq Try.prog Q (((lg0 ls : Cfg)).k) ac ((lg0 ls : Cfg)).x aX cX.w :=
  run_at envO_ok (lgIn_at ls) (lgIn_hk ls) ho hs hK
noncomputable def inIn_k : List KI := (run envO false 3000 ((fun (a : List U4) => (in0 a : Cfg)) default) []).cfg.k
theorem inIn_at (a : List U4) : runAt envO false 3000 ((in0 a : Cfg)) [] [3, 9, 10, 11] [64] [] = some ⟨[((0 : Int) ≤ (((List.length a) : Nat) : Int)), ((((List.length a) : Nat) : Int) = (((List.length a) : Nat) : Int)), (((32 : Int) * (((List.length a) : Nat) : Int)) ≤ (281474976710656 : Int)), ((((List.length a) : Nat) : Int) ≤ (9223372036854775807 : Int))], Exit.normal, [(SV.v (V1.c (It.slc 64 0 ((((List.length a) : Nat) : Int)).toNat 4))), (SV.v (V1.c (It.sl (Sq.fr a)))), (SV.v (V1.c (It.int IntKind.i64 (((List.length a) : Nat) : Int)))), (SV.v (V1.c (It.int IntKind.i64 (0 : Int))))], [(Option.some (En.sq (Sq.s (List.replicate ((((List.length a) : Nat) : Int)).toNat (0 : Fr)))))], 23, 144, []⟩ := by kernel_rfl
theorem inIn_hk (a : List U4) : (run envO false 3000 ((in0 a : Cfg)) []).cfg.k = inIn_k := by kernel_rfl
theorem inIn (a : List U4) {w0 : World} {F0 : Nat → Prop} {K : Kp} {ac : List Act} {Q : Exit → Act → World → Prop} {cX : Ctx} {aX : Act} (ho : AllP [((0 : Int) ≤ (((List.length a) : Nat) : Int)), ((((List.length a) : Nat) : Int) = (((List.length a) : Nat) : Int)), (((32 : Int) * (((List.length a) : Nat) : Int)) ≤ (281474976710656 : Int)), ((((List.length a) : Nat) : Int) ≤ (9223372036854775807 : Int))]) (hs : Sim w0 F0 K ac (((in0 a : Cfg)).σ) cX aX) (hK : ∀ ac cY aY, Sim w0 F0 K ac (mkSt 23 [3, 9, 10, 11] [(SV.v (V1.c (It.slc 64 0 ((((List.length a) : Nat) : Int)).toNat 4))), (SV.v (V1.c (It.sl (Sq.fr a)))), (SV.v (V1.c (It.int IntKind.i64 (((List.length a) : Nat) : Int)))), (SV.v (V1.c (It.int IntKind.i64 (0 : Int))))] [64] [(Option.some (En.sq (Sq.s (List.replicate ((((List.length a) : Nat) : Int)).toNat (0 : Fr)))))] 144 [] []) cY aY → Wq Try.prog Q (inIn_k) ac Exit.normal aY cY.w) : Wq Try.prog Q (((in0 a : Cfg)).k) ac ((in0 a : Cfg)).x aX cX.w :=
  run_at envO_ok (inIn_at a) (inIn_hk a) ho hs hK
noncomputable def bkIn_k : List KI := (run envO false 3000 ((fun (a : List Fr) => (bk0 a : Cfg)) default) []).cfg.k
theorem bkIn_at (a : List Fr) : runAt envO false 3000 ((bk0 a : Cfg)) [] [0, 3] [] [] = some ⟨[], Exit.normal, [(SV.v (V1.c (It.sl (Sq.s a)))), (SV.v (V1.c (It.int IntKind.i64 (((List.length a) : Nat) : Int))))], [], 37, 80, []⟩ := by kernel_rfl
theorem bkIn_hk (a : List Fr) : (run envO false 3000 ((bk0 a : Cfg)) []).cfg.k = bkIn_k := by kernel_rfl
theorem bkIn (a : List Fr) {w0 : World} {F0 : Nat → Prop} {K : Kp} {ac : List Act} {Q : Exit → Act → World → Prop} {cX : Ctx} {aX : Act} (ho : AllP []) (hs : Sim w0 F0 K ac (((bk0 a : Cfg)).σ) cX aX) (hK : ∀ ac cY aY, Sim w0 F0 K ac (mkSt 37 [0, 3] [(SV.v (V1.c (It.sl (Sq.s a)))), (SV.v (V1.c (It.int IntKind.i64 (((List.length a) : Nat) : Int))))] [] [] 80 [] []) cY aY → Wq Try.prog Q (bkIn_k) ac Exit.normal aY cY.w) : Wq Try.prog Q (((bk0 a : Cfg)).k) ac ((bk0 a : Cfg)).x aX cX.w :=
  run_at envO_ok (bkIn_at a) (bkIn_hk a) ho hs hK
noncomputable def lgS (ls : List (List U4)) (N i : Nat) : St := mkSt 15 [5, 6, 7] [(SV.v (V1.c (It.sl (Sq.frs ls)))), .v (.c (.int .i64 (N : Int))), .v (.c (.int .i64 (i : Int)))] [] [] 80 [] []
theorem lgN_at (ls : List (List U4)) (N i : Nat) : runAt envO false 3000 ((⟨lpIn lgIn_k, .normal, lgS ls N i⟩ : Cfg)) [true, false] [5, 6, 7] [] [] = some ⟨[((decide (((i : Nat) : Int) < ((N : Nat) : Int))) = true), ((0 : Int) ≤ ((i : Nat) : Int)), (((i : Nat) : Int) < (((List.length ls) : Nat) : Int)), ((decide ((((List.length (List.getD ls (((i : Nat) : Int)).toNat ([] : List U4))) : Nat) : Int) > (262144 : Int))) = false)], Exit.normal, [(SV.v (V1.c (It.sl (Sq.frs ls)))), (SV.v (V1.c (It.int IntKind.i64 ((N : Nat) : Int)))), (SV.v (V1.c (It.int IntKind.i64 (IntKind.wrap IntKind.i64 (((i : Nat) : Int) + (1 : Int))))))], [], 15, 224, []⟩ := by kernel_rfl
theorem lgN_hk (ls : List (List U4)) (N i : Nat) : (run envO false 3000 ((⟨lpIn lgIn_k, .normal, lgS ls N i⟩ : Cfg)) [true, false]).cfg.k = lpBk lgIn_k := by kernel_rfl
theorem lgN (ls : List (List U4)) (N i : Nat) {w0 : World} {F0 : Nat → Prop} {K : Kp} {ac : List Act} {Q : Exit → Act → World → Prop} {cX : Ctx} {aX : Act} (ho : AllP [((decide (((i : Nat) : Int) < ((N : Nat) : Int))) = true), ((0 : Int) ≤ ((i : Nat) : Int)), (((i : Nat) : Int) < (((List.length ls) : Nat) : Int)), ((decide ((((List.length (List.getD ls (((i : Nat) : Int)).toNat ([] : List U4))) : Nat) : Int) > (262144 : Int))) = false)]) (hs : Sim w0 F0 K ac (lgS ls N i) cX aX) (hK : ∀ ac cY aY, Sim w0 F0 K ac (mkSt 15 [5, 6, 7] [(SV.v (V1.c (It.sl (Sq.frs ls)))), (SV.v (V1.c (It.int IntKind.i64 ((N : Nat) : Int)))), (SV.v (V1.c (It.int IntKind.i64 (IntKind.wrap IntKind.i64 (((i : Nat) : Int) + (1 : Int))))))] [] [] 224 [] []) cY aY → Wq Try.prog Q (lpBk lgIn_k) ac Exit.normal aY cY.w) : Wq Try.prog Q (lpIn lgIn_k) ac .normal aX cX.w :=
  run_at2 envO_ok (lgN_at ls N i) (lgN_hk ls N i) ho hs hK
theorem lgY_end (ls : List (List U4)) (N i : Nat) : runEnd envO Try.f73 false 3000 (⟨lpIn lgIn_k, .normal, lgS ls N i⟩) [true, true] [] [] = (Option.some ([((decide (((i : Nat) : Int) < ((N : Nat) : Int))) = true), ((0 : Int) ≤ ((i : Nat) : Int)), (((i : Nat) : Int) < (((List.length ls) : Nat) : Int)), ((decide ((((List.length (List.getD ls (((i : Nat) : Int)).toNat ([] : List U4))) : Nat) : Int) > (262144 : Int))) = true)], ((SV.v (V1.c (It.lit true))), []))) := by kernel_rfl
theorem lgX_end (ls : List (List U4)) (N i : Nat) : runEnd envO Try.f73 false 3000 (⟨lpIn lgIn_k, .normal, lgS ls N i⟩) [false] [] [] = (Option.some ([((decide (((i : Nat) : Int) < ((N : Nat) : Int))) = false)], ((SV.v (V1.c (It.lit false))), []))) := by kernel_rfl
noncomputable def inS (a : List U4) (N : Nat) (L : List Fr) (i : Nat) : St := mkSt 23 [3, 9, 10, 11] [.v (.c (.slc 64 0 N 4)), (SV.v (V1.c (It.sl (Sq.fr a)))), .v (.c (.int .i64 (N : Int))), .v (.c (.int .i64 (i : Int)))] [64] [some (.sq (.s L))] 144 [] []
theorem inN_at (a : List U4) (N : Nat) (L : List Fr) (i : Nat) : runAt envO false 3000 ((⟨lpIn inIn_k, .normal, inS a N L i⟩ : Cfg)) [true] [3, 9, 10, 11] [64] [] = some ⟨[((decide (((i : Nat) : Int) < ((N : Nat) : Int))) = true), ((0 : Int) ≤ ((i : Nat) : Int)), (((i : Nat) : Int) < (((List.length a) : Nat) : Int)), ((0 : Int) ≤ ((i : Nat) : Int)), (((i : Nat) : Int) < ((N : Nat) : Int)), (0 = 0), ((((i : Nat) : Int)).toNat < (List.length L))], Exit.normal, [(SV.v (V1.c (It.slc 64 0 N 4))), (SV.v (V1.c (It.sl (Sq.fr a)))), (SV.v (V1.c (It.int IntKind.i64 ((N : Nat) : Int)))), (SV.v (V1.c (It.int IntKind.i64 (IntKind.wrap IntKind.i64 (((i : Nat) : Int) + (1 : Int))))))], [(Option.some (En.sq (Sq.s (List.set L (((i : Nat) : Int)).toNat (inF (List.getD a (((i : Nat) : Int)).toNat (0 : U4)))))))], 23, 384, []⟩ := by kernel_rfl
theorem inN_hk (a : List U4) (N : Nat) (L : List Fr) (i : Nat) : (run envO false 3000 ((⟨lpIn inIn_k, .normal, inS a N L i⟩ : Cfg)) [true]).cfg.k = lpBk inIn_k := by kernel_rfl
theorem inN (a : List U4) (N : Nat) (L : List Fr) (i : Nat) {w0 : World} {F0 : Nat → Prop} {K : Kp} {ac : List Act} {Q : Exit → Act → World → Prop} {cX : Ctx} {aX : Act} (ho : AllP [((decide (((i : Nat) : Int) < ((N : Nat) : Int))) = true), ((0 : Int) ≤ ((i : Nat) : Int)), (((i : Nat) : Int) < (((List.length a) : Nat) : Int)), ((0 : Int) ≤ ((i : Nat) : Int)), (((i : Nat) : Int) < ((N : Nat) : Int)), (0 = 0), ((((i : Nat) : Int)).toNat < (List.length L))]) (hs : Sim w0 F0 K ac (inS a N L i) cX aX) (hK : ∀ ac cY aY, Sim w0 F0 K ac (mkSt 23 [3, 9, 10, 11] [(SV.v (V1.c (It.slc 64 0 N 4))), (SV.v (V1.c (It.sl (Sq.fr a)))), (SV.v (V1.c (It.int IntKind.i64 ((N : Nat) : Int)))), (SV.v (V1.c (It.int IntKind.i64 (IntKind.wrap IntKind.i64 (((i : Nat) : Int) + (1 : Int))))))] [64] [(Option.some (En.sq (Sq.s (List.set L (((i : Nat) : Int)).toNat (inF (List.getD a (((i : Nat) : Int)).toNat (0 : U4)))))))] 384 [] []) cY aY → Wq Try.prog Q (lpBk inIn_k) ac Exit.normal aY cY.w) : Wq Try.prog Q (lpIn inIn_k) ac .normal aX cX.w :=
  run_at2 envO_ok (inN_at a N L i) (inN_hk a N L i) ho hs hK
theorem inX_end (a : List U4) (N : Nat) (L : List Fr) (i : Nat) : runEnd envO Try.f74 false 3000 (⟨lpIn inIn_k, .normal, inS a N L i⟩) [false] [64] [] = (Option.some ([((decide (((i : Nat) : Int) < ((N : Nat) : Int))) = false)], ((SV.v (V1.c (It.slc 0 0 N 4))), [(En.sq (Sq.s L))]))) := by kernel_rfl
noncomputable def bkS (a : List Fr) (n : Nat) : St := mkSt 37 [0, 3] [(SV.v (V1.c (It.sl (Sq.s a)))), .v (.c (.int .i64 (n : Int)))] [] [] 80 [] []
theorem bkN_at (a : List Fr) (n : Nat) : runAt envO false 3000 ((⟨lpIn bkIn_k, .normal, bkS a n⟩ : Cfg)) [true, true] [0, 3] [] [] = some ⟨[((decide (((n : Nat) : Int) > (0 : Int))) = true), ((0 : Int) ≤ (IntKind.wrap IntKind.i64 (((n : Nat) : Int) - (1 : Int)))), ((IntKind.wrap IntKind.i64 (((n : Nat) : Int) - (1 : Int))) < (((List.length a) : Nat) : Int)), ((decide ((List.getD a ((IntKind.wrap IntKind.i64 (((n : Nat) : Int) - (1 : Int)))).toNat (0 : Fr)) = (0 : Fr))) = true)], Exit.normal, [(SV.v (V1.c (It.sl (Sq.s a)))), (SV.v (V1.c (It.int IntKind.i64 (IntKind.wrap IntKind.i64 (((n : Nat) : Int) - (1 : Int))))))], [], 37, 288, []⟩ := by kernel_rfl
theorem bkN_hk (a : List Fr) (n : Nat) : (run envO false 3000 ((⟨lpIn bkIn_k, .normal, bkS a n⟩ : Cfg)) [true, true]).cfg.k = lpBk bkIn_k := by kernel_rfl
theorem bkN (a : List Fr) (n : Nat) {w0 : World} {F0 : Nat → Prop} {K : Kp} {ac : List Act} {Q : Exit → Act → World → Prop} {cX : Ctx} {aX : Act} (ho : AllP [((decide (((n : Nat) : Int) > (0 : Int))) = true), ((0 : Int) ≤ (IntKind.wrap IntKind.i64 (((n : Nat) : Int) - (1 : Int)))), ((IntKind.wrap IntKind.i64 (((n : Nat) : Int) - (1 : Int))) < (((List.length a) : Nat) : Int)), ((decide ((List.getD a ((IntKind.wrap IntKind.i64 (((n : Nat) : Int) - (1 : Int)))).toNat (0 : Fr)) = (0 : Fr))) = true)]) (hs : Sim w0 F0 K ac (bkS a n) cX aX) (hK : ∀ ac cY aY, Sim w0 F0 K ac (mkSt 37 [0, 3] [(SV.v (V1.c (It.sl (Sq.s a)))), (SV.v (V1.c (It.int IntKind.i64 (IntKind.wrap IntKind.i64 (((n : Nat) : Int) - (1 : Int))))))] [] [] 288 [] []) cY aY → Wq Try.prog Q (lpBk bkIn_k) ac Exit.normal aY cY.w) : Wq Try.prog Q (lpIn bkIn_k) ac .normal aX cX.w :=
  run_at2 envO_ok (bkN_at a n) (bkN_hk a n) ho hs hK
noncomputable def bkB_k : List KI := (run envO false 3000 ((fun (a : List Fr) (n : Nat) => (⟨lpIn bkIn_k, .normal, bkS a n⟩ : Cfg)) default default) [true, false]).cfg.k
theorem bkB_at (a : List Fr) (n : Nat) : runAt envO false 3000 ((⟨lpIn bkIn_k, .normal, bkS a n⟩ : Cfg)) [true, false] [0, 4, 23, 24] [256] [] = some ⟨[((decide (((n : Nat) : Int) > (0 : Int))) = true), ((0 : Int) ≤ (IntKind.wrap IntKind.i64 (((n : Nat) : Int) - (1 : Int)))), ((IntKind.wrap IntKind.i64 (((n : Nat) : Int) - (1 : Int))) < (((List.length a) : Nat) : Int)), ((decide ((List.getD a ((IntKind.wrap IntKind.i64 (((n : Nat) : Int) - (1 : Int)))).toNat (0 : Fr)) = (0 : Fr))) = false), ((0 : Int) ≤ ((n : Nat) : Int)), (((n : Nat) : Int) = ((n : Nat) : Int)), (((32 : Int) * ((n : Nat) : Int)) ≤ (281474976710656 : Int)), (((n : Nat) : Int) ≤ (9223372036854775807 : Int))], Exit.normal, [(SV.v (V1.c (It.sl (Sq.s a)))), (SV.v (V1.c (It.slc 256 0 (((n : Nat) : Int)).toNat 4))), (SV.v (V1.c (It.int IntKind.i64 (((((n : Nat) : Int)).toNat : Nat) : Int)))), (SV.v (V1.c (It.int IntKind.i64 (0 : Int))))], [(Option.some (En.sq (Sq.fr (List.replicate (((n : Nat) : Int)).toNat (0 : U4)))))], 37, 336, []⟩ := by kernel_rfl
theorem bkB_hk (a : List Fr) (n : Nat) : (run envO false 3000 ((⟨lpIn bkIn_k, .normal, bkS a n⟩ : Cfg)) [true, false]).cfg.k = bkB_k := by kernel_rfl
theorem bkB (a : List Fr) (n : Nat) {w0 : World} {F0 : Nat → Prop} {K : Kp} {ac : List Act} {Q : Exit → Act → World → Prop} {cX : Ctx} {aX : Act} (ho : AllP [((decide (((n : Nat) : Int) > (0 : Int))) = true), ((0 : Int) ≤ (IntKind.wrap IntKind.i64 (((n : Nat) : Int) - (1 : Int)))), ((IntKind.wrap IntKind.i64 (((n : Nat) : Int) - (1 : Int))) < (((List.length a) : Nat) : Int)), ((decide ((List.getD a ((IntKind.wrap IntKind.i64 (((n : Nat) : Int) - (1 : Int)))).toNat (0 : Fr)) = (0 : Fr))) = false), ((0 : Int) ≤ ((n : Nat) : Int)), (((n : Nat) : Int) = ((n : Nat) : Int)), (((32 : Int) * ((n : Nat) : Int)) ≤ (281474976710656 : Int)), (((n : Nat) : Int) ≤ (9223372036854775807 : Int))]) (hs : Sim w0 F0 K ac (bkS a n) cX aX) (hK : ∀ ac cY aY, Sim w0 F0 K ac (mkSt 37 [0, 4, 23, 24] [(SV.v (V1.c (It.sl (Sq.s a)))), (SV.v (V1.c (It.slc 256 0 (((n : Nat) : Int)).toNat 4))), (SV.v (V1.c (It.int IntKind.i64 (((((n : Nat) : Int)).toNat : Nat) : Int)))), (SV.v (V1.c (It.int IntKind.i64 (0 : Int))))] [256] [(Option.some (En.sq (Sq.fr (List.replicate (((n : Nat) : Int)).toNat (0 : U4)))))] 336 [] []) cY aY → Wq Try.prog Q (bkB_k) ac Exit.normal aY cY.w) : Wq Try.prog Q (lpIn bkIn_k) ac .normal aX cX.w :=
  run_at2 envO_ok (bkB_at a n) (bkB_hk a n) ho hs hK
theorem bkC_at (a : List Fr) (n : Nat) : runAt envO false 3000 ((⟨lpIn bkIn_k, .normal, bkS a n⟩ : Cfg)) [false] [0, 4, 23, 24] [256] [] = some ⟨[((decide (((n : Nat) : Int) > (0 : Int))) = false), ((0 : Int) ≤ ((n : Nat) : Int)), (((n : Nat) : Int) = ((n : Nat) : Int)), (((32 : Int) * ((n : Nat) : Int)) ≤ (281474976710656 : Int)), (((n : Nat) : Int) ≤ (9223372036854775807 : Int))], Exit.normal, [(SV.v (V1.c (It.sl (Sq.s a)))), (SV.v (V1.c (It.slc 256 0 (((n : Nat) : Int)).toNat 4))), (SV.v (V1.c (It.int IntKind.i64 (((((n : Nat) : Int)).toNat : Nat) : Int)))), (SV.v (V1.c (It.int IntKind.i64 (0 : Int))))], [(Option.some (En.sq (Sq.fr (List.replicate (((n : Nat) : Int)).toNat (0 : U4)))))], 37, 336, []⟩ := by kernel_rfl
theorem bkC_hk (a : List Fr) (n : Nat) : (run envO false 3000 ((⟨lpIn bkIn_k, .normal, bkS a n⟩ : Cfg)) [false]).cfg.k = bkB_k := by kernel_rfl
theorem bkC (a : List Fr) (n : Nat) {w0 : World} {F0 : Nat → Prop} {K : Kp} {ac : List Act} {Q : Exit → Act → World → Prop} {cX : Ctx} {aX : Act} (ho : AllP [((decide (((n : Nat) : Int) > (0 : Int))) = false), ((0 : Int) ≤ ((n : Nat) : Int)), (((n : Nat) : Int) = ((n : Nat) : Int)), (((32 : Int) * ((n : Nat) : Int)) ≤ (281474976710656 : Int)), (((n : Nat) : Int) ≤ (9223372036854775807 : Int))]) (hs : Sim w0 F0 K ac (bkS a n) cX aX) (hK : ∀ ac cY aY, Sim w0 F0 K ac (mkSt 37 [0, 4, 23, 24] [(SV.v (V1.c (It.sl (Sq.s a)))), (SV.v (V1.c (It.slc 256 0 (((n : Nat) : Int)).toNat 4))), (SV.v (V1.c (It.int IntKind.i64 (((((n : Nat) : Int)).toNat : Nat) : Int)))), (SV.v (V1.c (It.int IntKind.i64 (0 : Int))))] [256] [(Option.some (En.sq (Sq.fr (List.replicate (((n : Nat) : Int)).toNat (0 : U4)))))] 336 [] []) cY aY → Wq Try.prog Q (bkB_k) ac Exit.normal aY cY.w) : Wq Try.prog Q (lpIn bkIn_k) ac .normal aX cX.w :=
  run_at2 envO_ok (bkC_at a n) (bkC_hk a n) ho hs hK
noncomputable def bkT (a : List Fr) (N : Nat) (L : List U4) (i : Nat) : St := mkSt 37 [0, 4, 23, 24] [(SV.v (V1.c (It.sl (Sq.s a)))), .v (.c (.slc 256 0 N 4)), .v (.c (.int .i64 (N : Int))), .v (.c (.int .i64 (i : Int)))] [256] [some (.sq (.fr L))] 336 [] []
theorem bkM_at (a : List Fr) (N : Nat) (L : List U4) (i : Nat) : runAt envO false 3000 ((⟨lpIn bkB_k, .normal, bkT a N L i⟩ : Cfg)) [true] [0, 4, 23, 24] [256] [] = some ⟨[((decide (((i : Nat) : Int) < ((N : Nat) : Int))) = true), ((0 : Int) ≤ ((i : Nat) : Int)), (((i : Nat) : Int) < (((List.length a) : Nat) : Int)), ((0 : Int) ≤ ((i : Nat) : Int)), (((i : Nat) : Int) < ((N : Nat) : Int)), (0 = 0), ((((i : Nat) : Int)).toNat < (List.length L))], Exit.normal, [(SV.v (V1.c (It.sl (Sq.s a)))), (SV.v (V1.c (It.slc 256 0 N 4))), (SV.v (V1.c (It.int IntKind.i64 ((N : Nat) : Int)))), (SV.v (V1.c (It.int IntKind.i64 (IntKind.wrap IntKind.i64 (((i : Nat) : Int) + (1 : Int))))))], [(Option.some (En.sq (Sq.fr (List.set L (((i : Nat) : Int)).toNat (outF (List.getD a (((i : Nat) : Int)).toNat (0 : Fr)))))))], 37, 560, []⟩ := by kernel_rfl
theorem bkM_hk (a : List Fr) (N : Nat) (L : List U4) (i : Nat) : (run envO false 3000 ((⟨lpIn bkB_k, .normal, bkT a N L i⟩ : Cfg)) [true]).cfg.k = lpBk bkB_k := by kernel_rfl
theorem bkM (a : List Fr) (N : Nat) (L : List U4) (i : Nat) {w0 : World} {F0 : Nat → Prop} {K : Kp} {ac : List Act} {Q : Exit → Act → World → Prop} {cX : Ctx} {aX : Act} (ho : AllP [((decide (((i : Nat) : Int) < ((N : Nat) : Int))) = true), ((0 : Int) ≤ ((i : Nat) : Int)), (((i : Nat) : Int) < (((List.length a) : Nat) : Int)), ((0 : Int) ≤ ((i : Nat) : Int)), (((i : Nat) : Int) < ((N : Nat) : Int)), (0 = 0), ((((i : Nat) : Int)).toNat < (List.length L))]) (hs : Sim w0 F0 K ac (bkT a N L i) cX aX) (hK : ∀ ac cY aY, Sim w0 F0 K ac (mkSt 37 [0, 4, 23, 24] [(SV.v (V1.c (It.sl (Sq.s a)))), (SV.v (V1.c (It.slc 256 0 N 4))), (SV.v (V1.c (It.int IntKind.i64 ((N : Nat) : Int)))), (SV.v (V1.c (It.int IntKind.i64 (IntKind.wrap IntKind.i64 (((i : Nat) : Int) + (1 : Int))))))] [256] [(Option.some (En.sq (Sq.fr (List.set L (((i : Nat) : Int)).toNat (outF (List.getD a (((i : Nat) : Int)).toNat (0 : Fr)))))))] 560 [] []) cY aY → Wq Try.prog Q (lpBk bkB_k) ac Exit.normal aY cY.w) : Wq Try.prog Q (lpIn bkB_k) ac .normal aX cX.w :=
  run_at2 envO_ok (bkM_at a N L i) (bkM_hk a N L i) ho hs hK
theorem bkX_end (a : List Fr) (N : Nat) (L : List U4) (i : Nat) : runEnd envO Try.f76 false 3000 (⟨lpIn bkB_k, .normal, bkT a N L i⟩) [false] [256] [] = (Option.some ([((decide (((i : Nat) : Int) < ((N : Nat) : Int))) = false)], ((SV.v (V1.c (It.slc 0 0 N 4))), [(En.sq (Sq.fr L))]))) := by kernel_rfl
theorem cfA (a : List U4) (i : Int) : fnRes envO Try.f80 3000 [.v (.c (.sl (.fr a))), .v (.c (.int .i64 i))] [false, true] [] [] = (Option.some ([((decide (i < (0 : Int))) = false), ((decide (i ≥ (((List.length a) : Nat) : Int))) = true)], ((SV.v (V1.a [(It.ob (Ob.fr (0 : U4)))])), []))) := by kernel_rfl
theorem cfB (a : List U4) (i : Int) : fnRes envO Try.f80 3000 [.v (.c (.sl (.fr a))), .v (.c (.int .i64 i))] [false, false] [] [] = (Option.some ([((decide (i < (0 : Int))) = false), ((decide (i ≥ (((List.length a) : Nat) : Int))) = false), ((0 : Int) ≤ i), (i < (((List.length a) : Nat) : Int))], ((SV.v (V1.a [(It.ob (Ob.fr (cleanU (List.getD a (i).toNat (0 : U4)))))])), []))) := by kernel_rfl
theorem smallM  : fnRes envO Try.f81 3000 [.v (.c (.int .i64 (-1)))] [false] [] [] = (Option.some ([((decide ((-(1 : Int)) ≥ (0 : Int))) = false), ((0 : Int) ≤ (1 : Int)), ((1 : Int) < (18446744073709551616 : Int)), ((0 : Int) ≤ (0 : Int)), ((0 : Int) < (18446744073709551616 : Int)), ((0 : Int) ≤ (0 : Int)), ((0 : Int) < (18446744073709551616 : Int)), ((0 : Int) ≤ (0 : Int)), ((0 : Int) < (18446744073709551616 : Int))], ((SV.v (V1.a [(It.ob (Ob.fr (rU - (Fin.ofNat B4 1))))])), []))) := by kernel_rfl
end Go.Proofs.Ytlfllehomhcbfaa

/- Small functions of polynomials: contracts. No conditions. -/
namespace Go.Proofs.Ytlfllehomhcbfaa

/-- How many coefficients are left of the first n, what is 0 at the end left out. -/
def trimN (l : List Fr) : Nat → Nat
  | 0 => 0
  | n + 1 => if l.getD n 0 = 0 then trimN l n else n + 1
def trimF (l : List Fr) : List Fr := l.take (trimN l l.length)

theorem trimN_le (l : List Fr) : ∀ n, trimN l n ≤ n
  | 0 => Nat.le_refl _
  | n + 1 => by
    show (if l.getD n 0 = 0 then trimN l n else n + 1) ≤ n + 1
    split
    · exact Nat.le_succ_of_le (trimN_le l n)
    · exact Nat.le_refl _

theorem trimF_len (l : List Fr) : (trimF l).length = trimN l l.length := by
  have := trimN_le l l.length
  unfold trimF
  rw [List.length_take]
  omega

theorem few_fnd (a : List U4) : FnD Try.prog 29 [.v (.c (.sl (.fr a)))] (.v (.c (.sl (.fr (a.take 40))))) [] := by
  have r := fewR a
  have e : a.take (if (40 : Int) < (a.length : Int) then (40 : Int) else (a.length : Int)).toNat = a.take 40 := by
    split
    · rfl
    · rw [Int.toNat_natCast, List.take_of_length_le (Nat.le_refl _), List.take_of_length_le (by omega)]
  rw [List.drop_zero, e] at r
  exact fn_sound envO_ok Try.func29 r ⟨by split <;> omega, by split <;> omega, trivial⟩

theorem any_drop {α : Type} (f : α → Bool) (d : α) (l : List α) (i : Nat) (h : i < l.length) : (l.drop i).any f = (f (l.getD i d) || (l.drop (i + 1)).any f) := by
  rw [List.drop_eq_getElem_cons h, List.any_cons]
  simp [List.getD, h]

def longB (ls : List (List U4)) : Bool := ls.any fun l => decide (262144 < l.length)
theorem long_fnd (ls : List (List U4)) : FnD Try.prog 73 [.v (.c (.sl (.frs ls)))] (.v (.c (.bool (longB ls)))) [] := by
  refine fn_start (fn := Try.f73) (c := bodyOf Try.f73) Try.func73 rfl rfl fun x a hk hF hs => ?_
  have hl : ls.length ≤ maxLen := sl_len (q := .frs ls) (hs.t 0)
  unfold maxLen at hl
  refine lgIn ls trivial hs fun ac cY aY hs1 => ?_
  refine loop_rule (ι := { i : Nat // i ≤ ls.length ∧ longB ls = longB (ls.drop i) }) (fun i => lgS ls ls.length i.1) (fun i => ls.length - i.1) (c := lpC lgIn_k) (k := lpR lgIn_k) (by kernel_rfl) (fun i ih ac cY aY hs => ?_) ⟨0, Nat.zero_le _, rfl⟩ hs1
  obtain ⟨i, hi, he⟩ := i
  simp only at ih hs
  by_cases h : i < ls.length
  · have hd := any_drop (fun l : List U4 => decide (262144 < l.length)) [] ls i h
    by_cases hg : 262144 < (ls.getD i []).length
    · refine run_end2 envO_ok hk hF (lgY_end ls ls.length i) ⟨by simp [h], by omega, by omega, by rw [Int.toNat_natCast, decide_eq_true_eq]; omega, trivial⟩ (fun y v hd' => ?_) hs
      rw [he]
      unfold longB
      rw [hd, decide_eq_true hg, Bool.true_or]
      exact lit_bool rfl hd'
    · refine lgN ls ls.length i ⟨by simp [h], by omega, by omega, by rw [Int.toNat_natCast, decide_eq_false_iff_not]; omega, trivial⟩ hs fun ac cY aY hs2 => ?_
      rw [wrap_id (by omega) (by omega)] at hs2
      refine ih ⟨i + 1, by omega, ?_⟩ (by show ls.length - (i + 1) < ls.length - i; omega) ac cY aY (hs2.nx _)
      rw [he]
      unfold longB
      rw [hd, decide_eq_false hg, Bool.false_or]
  · have e : i = ls.length := by omega
    refine run_end2 envO_ok hk hF (lgX_end ls ls.length i) ⟨by simp [h], trivial⟩ (fun y v hd' => ?_) hs
    rw [he, e, List.drop_length]
    exact lit_bool rfl hd'

theorem in_fnd (a : List U4) (hl0 : a.length ≤ 8796093022208) : FnD Try.prog 74 [.v (.c (.sl (.fr a)))] (.v (.c (.slc 0 0 a.length 4))) [.sq (.s (a.map inF))] := by
  refine fn_start (fn := Try.f74) (c := bodyOf Try.f74) Try.func74 rfl rfl fun x a0 hk hF hs => ?_
  refine inIn a (by and_intros <;> first | trivial | decide | omega) hs fun ac cY aY hs1 => ?_
  rw [Int.toNat_natCast] at hs1
  refine loop_rule (ι := { i : Nat // i ≤ a.length }) (fun i => inS a a.length ((List.range i.1).map (fun i => inF (a.getD i 0)) ++ List.replicate (a.length - i.1) 0) i.1) (fun i => a.length - i.1) (c := lpC inIn_k) (k := lpR inIn_k) (by kernel_rfl) (fun i ih ac cY aY hs => ?_) ⟨0, Nat.zero_le _⟩ hs1
  obtain ⟨i, hi⟩ := i
  simp only at ih hs
  have hl := fill_len (fun i => inF (a.getD i 0)) 0 hi
  by_cases h : i < a.length
  · refine inN a a.length _ i ⟨by simp [h], by omega, by omega, by omega, by omega, rfl, by rw [hl]; omega, trivial⟩ hs fun ac cY aY hs2 => ?_
    rw [Int.toNat_natCast, fill_set (fun i => inF (a.getD i 0)) _ h, wrap_id (by omega) (by omega)] at hs2
    exact ih ⟨i + 1, by omega⟩ (by show a.length - (i + 1) < a.length - i; omega) ac cY aY (hs2.nx _)
  · have e : i = a.length := by omega
    rw [e, Nat.sub_self, List.replicate_zero, List.append_nil, range_getD] at hs
    exact run_end2 envO_ok hk hF (inX_end a a.length _ a.length) ⟨by simp, trivial⟩ (fun y v hd => hd) hs

theorem range_take {α β : Type} (g : α → β) (l : List α) (d : α) {n : Nat} (h : n ≤ l.length) : (List.range n).map (fun i => g (l.getD i d)) = (l.take n).map g := by
  apply List.ext_getElem
  · simp; omega
  · intro i h1 h2
    simp at h1
    simp [List.getD, show i < l.length from by omega]

theorem back_fnd (a : List Fr) (hl0 : a.length ≤ 8796093022208) : FnD Try.prog 76 [.v (.c (.sl (.s a)))] (.v (.c (.slc 0 0 (trimF a).length 4))) [.sq (.fr ((trimF a).map outF))] := by
  rw [trimF_len]
  refine fn_start (fn := Try.f76) (c := bodyOf Try.f76) Try.func76 rfl rfl fun x a0 hk hF hs => ?_
  refine bkIn a trivial hs fun ac cY aY hs1 => ?_
  refine loop_rule (ι := { n : Nat // n ≤ a.length ∧ trimN a n = trimN a a.length }) (fun n => bkS a n.1) (fun n => n.1) (c := lpC bkIn_k) (k := lpR bkIn_k) (by kernel_rfl) (fun n ih ac cY aY hs => ?_) ⟨a.length, Nat.le_refl _, rfl⟩ hs1
  obtain ⟨n, hn, he⟩ := n
  simp only at ih hs
  -- from the second loop on
  have key : trimN a a.length = n → ∀ ac cY aY, Sim x.w x.F kAll ac (bkT a n (List.replicate n 0) 0) cY aY → Wq Try.prog (Post Try.prog Try.f76 x (.v (.c (.slc 0 0 (trimN a a.length) 4))) [.sq (.fr ((trimF a).map outF))]) bkB_k ac .normal aY cY.w := by
    intro hN ac cY aY hs
    have hs : Sim x.w x.F kAll ac (bkT a n ((List.range 0).map (fun i => outF (a.getD i 0)) ++ List.replicate (n - 0) 0) 0) cY aY := hs
    refine loop_rule (ι := { i : Nat // i ≤ n }) (fun i => bkT a n ((List.range i.1).map (fun i => outF (a.getD i 0)) ++ List.replicate (n - i.1) 0) i.1) (fun i => n - i.1) (c := lpC bkB_k) (k := lpR bkB_k) (by kernel_rfl) (fun i ih ac cY aY hs => ?_) ⟨0, Nat.zero_le _⟩ hs
    obtain ⟨i, hi⟩ := i
    simp only at ih hs
    have hl := fill_len (fun i => outF (a.getD i 0)) 0 hi
    by_cases h : i < n
    · refine bkM a n _ i ⟨by simp [h], by omega, by omega, by omega, by omega, rfl, by rw [hl]; omega, trivial⟩ hs fun ac cY aY hs2 => ?_
      rw [Int.toNat_natCast, fill_set (fun i => outF (a.getD i 0)) _ h, wrap_id (by omega) (by omega)] at hs2
      exact ih ⟨i + 1, by omega⟩ (by show n - (i + 1) < n - i; omega) ac cY aY (hs2.nx _)
    · have e : i = n := by omega
      unfold trimF
      rw [e, Nat.sub_self, List.replicate_zero, List.append_nil, range_take _ _ _ hn] at hs
      rw [hN]
      exact run_end2 envO_ok hk hF (bkX_end a n _ n) ⟨by simp, trivial⟩ (fun y v hd => hd) hs
  by_cases h0 : n = 0
  · refine bkC a n (by and_intros <;> first | trivial | decide | omega | (simp only [decide_eq_false_iff_not]; omega)) hs fun ac cY aY hs2 => ?_
    rw [Int.toNat_natCast] at hs2
    exact key (by rw [← he, h0]; rfl) ac cY aY (hs2.nx _)
  · obtain ⟨m, rfl⟩ : ∃ m, n = m + 1 := ⟨n - 1, by omega⟩
    have hw : IntKind.wrap IntKind.i64 (((m + 1 : Nat) : Int) - 1) = (m : Int) := by rw [wrap_id (by omega) (by omega)]; omega
    have hT : trimN a (m + 1) = if a.getD m 0 = 0 then trimN a m else m + 1 := rfl
    by_cases hz : a.getD m 0 = 0
    · refine bkN a (m + 1) (by rw [hw]; exact ⟨by simp only [decide_eq_true_eq]; omega, by omega, by omega, by rw [Int.toNat_natCast, decide_eq_true hz], trivial⟩) hs fun ac cY aY hs2 => ?_
      rw [hw] at hs2
      exact ih ⟨m, by omega, by rw [← he, hT, if_pos hz]⟩ (Nat.lt_succ_self m) ac cY aY (hs2.nx _)
    · refine bkB a (m + 1) (by rw [hw]; exact ⟨by simp only [decide_eq_true_eq]; omega, by omega, by omega, by rw [Int.toNat_natCast, decide_eq_false hz], by omega, rfl, by omega, by omega, trivial⟩) hs fun ac cY aY hs2 => ?_
      rw [Int.toNat_natCast] at hs2
      exact key (by rw [← he, hT, if_neg hz]) ac cY aY (hs2.nx _)

theorem clean_out (a : U4) : cleanU a = outF (inF a) := by
  apply Fin.ext
  rw [cleanU_val, outF_val]
  rfl

theorem coef_fnd (a : List U4) (i : Nat) : FnD Try.prog 80 [.v (.c (.sl (.fr a))), .v (.c (.int .i64 (i : Int)))] (.v (.a [.ob (.fr (outF ((a.map inF).getD i 0)))])) [] := by
  by_cases h : i < a.length
  · have r := cfB a i
    rw [Int.toNat_natCast, clean_out] at r
    have e : (a.map inF).getD i 0 = inF (a.getD i 0) := by simp [List.getD, h]
    rw [e]
    exact fn_sound envO_ok Try.func80 r ⟨by simp only [decide_eq_false_iff_not]; omega, by simp only [decide_eq_false_iff_not]; omega, by omega, by omega, trivial⟩
  · have e : outF ((a.map inF).getD i 0) = 0 := by
      have : (a.map inF).getD i 0 = 0 := by simp [List.getD, show a.length ≤ i from by omega]
      rw [this]
      apply Fin.ext
      rw [outF_val]
      rfl
    rw [e]
    exact fn_sound envO_ok Try.func80 (cfA a i) ⟨by simp only [decide_eq_false_iff_not]; omega, by simp only [decide_eq_true_eq]; omega, trivial⟩

end Go.Proofs.Ytlfllehomhcbfaa

/- Small functions of polynomials joined; the reference's trimming, sums and products, walked. No conditions. -/
namespace Go.Proofs.Ytlfllehomhcbfaa

theorem neg_arith {r B n : Nat} (h0 : 0 < n) (h : n < r) (hb : r < B) : (B - n + r) % B = (r - n) % r := by
  rw [Nat.mod_eq_of_lt (a := r - n) (by omega), show B - n + r = (r - n) + B from by omega, Nat.add_mod_right, Nat.mod_eq_of_lt (by omega)]

theorem negU_val {x : Fr} (h : x ≠ 0) : rU - outF x = outF (0 - x) := by
  apply Fin.ext
  have hx : 0 < x.val := Nat.pos_of_ne_zero fun e => h (Fin.ext e)
  have hlt := x.isLt
  have e1 : (rU - outF x).val = (B4 - (outF x).val + rU.val) % B4 := rfl
  have e2 : (0 - x).val = (rN - x.val + (0 : Fr).val) % rN := rfl
  have e3 : (0 : Fr).val = 0 := rfl
  have hb : rN < B4 := by decide
  rw [e1, outF_val, outF_val, e2, e3, rU_val, Nat.add_zero]
  exact neg_arith hx hlt hb

theorem neg78_fnd (x : Fr) : FnD Try.prog 78 [.v (.a [.ob (.fr (outF x))])] (.v (.a [.ob (.fr (outF (0 - x)))])) [] := by
  by_cases h : x = 0
  · subst h
    have e : outF (0 : Fr) = 0 := by apply Fin.ext; rw [outF_val]; rfl
    have e2 : (0 : Fr) - 0 = 0 := Fin.ext (by show (rN - 0 + 0) % rN = 0; rw [Nat.add_zero, Nat.sub_zero, Nat.mod_self])
    have r := negA (outF 0)
    rw [e2]
    exact fn_sound envJ_ok Try.func78 r ⟨by rw [if_pos rfl, e]; rfl, trivial⟩
  · have r := negB (outF x)
    rw [negU_val h] at r
    have hne : outF x ≠ 0 := fun e => h (Fin.ext (by have := congrArg Fin.val e; rw [outF_val] at this; exact this))
    exact fn_sound envJ_ok Try.func78 r ⟨by rw [if_pos rfl, decide_eq_false hne], trivial⟩

theorem neg78_fnd' (a : U4) (h : a.val < rN) : FnD Try.prog 78 [.v (.a [.ob (.fr a)])] (.v (.a [.ob (.fr (outF (0 - inF a)))])) [] := by
  have := neg78_fnd (inF a)
  rw [out_in h] at this
  exact this

theorem addU_out (x y : Fr) : cleanU (outF x + outF y) = outF (x + y) := by
  apply Fin.ext
  rw [clean_add_val (outF_lt x) (outF_lt y), outF_val, outF_val, outF_val]
  rfl

theorem small81_fnd : FnD Try.prog 81 [.v (.c (.int .i64 (-1)))] (.v (.a [.ob (.fr (outF (0 - 1)))])) [] := by
  have r := smallM
  have h1 : (1 : Fr) ≠ 0 := fun e => by have := congrArg Fin.val e; revert this; decide
  rw [← out_one1, negU_val h1] at r
  exact fn_sound envO_ok Try.func81 r (by and_intros <;> first | trivial | decide)

def fewSpec : FnSpec
  | [.v (.c (.sl (.fr a)))] => some ([], .v (.c (.sl (.fr (a.take 40)))), [])
  | _ => none
noncomputable def envP1 : Env := envO.set (addT envO.fn 29 fewSpec)
theorem envP1_ok : EnvOk Try.prog envP1 := env_add envO_ok 29 fewSpec (enters_of Try.func29 rfl rfl) fun args o r es h _ => by
  unfold fewSpec at h
  split at h
  · cases h; exact few_fnd _
  · cases h
def longSpec : FnSpec
  | [.v (.c (.sl (.frs ls)))] => some ([], .v (.c (.bool (longB ls))), [])
  | _ => none
noncomputable def envP2 : Env := envP1.set (addT envP1.fn 73 longSpec)
theorem envP2_ok : EnvOk Try.prog envP2 := env_add envP1_ok 73 longSpec (enters_of Try.func73 rfl rfl) fun args o r es h _ => by
  unfold longSpec at h
  split at h
  · cases h; exact long_fnd _
  · cases h
def in74Spec : FnSpec
  | [.v (.c (.sl (.fr a)))] => some ([a.length ≤ 8796093022208], .v (.c (.slc 0 0 a.length 4)), [.sq (.s (a.map inF))])
  | _ => none
noncomputable def envP3 : Env := envP2.set (addT envP2.fn 74 in74Spec)
theorem envP3_ok : EnvOk Try.prog envP3 := env_add envP2_ok 74 in74Spec (enters_of Try.func74 rfl rfl) fun args o r es h ho => by
  unfold in74Spec at h
  split at h
  · cases h; exact in_fnd _ ho.1
  · cases h
def backSpec : FnSpec
  | [.v (.c (.sl (.s a)))] => some ([a.length ≤ 8796093022208], .v (.c (.slc 0 0 (trimF a).length 4)), [.sq (.fr ((trimF a).map outF))])
  | _ => none
noncomputable def envP4 : Env := envP3.set (addT envP3.fn 76 backSpec)
theorem envP4_ok : EnvOk Try.prog envP4 := env_add envP3_ok 76 backSpec (enters_of Try.func76 rfl rfl) fun args o r es h ho => by
  unfold backSpec at h
  split at h
  · cases h; exact back_fnd _ ho.1
  · cases h
def coefSpec : FnSpec
  | [.v (.c (.sl (.fr a))), .v (.c (.int .i64 i))] => some ([0 ≤ i], .v (.a [.ob (.fr (outF ((a.map inF).getD i.toNat 0)))]), [])
  | _ => none
noncomputable def envP5 : Env := envP4.set (addT envP4.fn 80 coefSpec)
theorem envP5_ok : EnvOk Try.prog envP5 := env_add envP4_ok 80 coefSpec (enters_of Try.func80 rfl rfl) fun args o r es h ho => by
  unfold coefSpec at h
  split at h
  · cases h; exact (by rename_i a i; obtain ⟨j, rfl⟩ := Int.eq_ofNat_of_zero_le ho.1; exact coef_fnd a j)
  · cases h
def smallMSpec : FnSpec
  | [.v (.c (.int .i64 n))] => some ([n = -1], .v (.a [.ob (.fr (outF (0 - 1)))]), [])
  | _ => none
noncomputable def envP6 : Env := envP5.set (addT envP5.fn 81 smallMSpec)
theorem envP6_ok : EnvOk Try.prog envP6 := env_add envP5_ok 81 smallMSpec (enters_of Try.func81 rfl rfl) fun args o r es h ho => by
  unfold smallMSpec at h
  split at h
  · cases h; exact (by obtain ⟨rfl, _⟩ := ho; exact small81_fnd)
  · cases h
def neg78Spec : FnSpec
  | [.v (.a [.ob (.fr a)])] => some ([a.val < rN], .v (.a [.ob (.fr (outF (0 - inF a)))]), [])
  | _ => none
noncomputable def envP7 : Env := envP6.set (addT envP6.fn 78 neg78Spec)
theorem envP7_ok : EnvOk Try.prog envP7 := env_add envP6_ok 78 neg78Spec (enters_of Try.func78 rfl rfl) fun args o r es h ho => by
  unfold neg78Spec at h
  split at h
  · cases h; exact neg78_fnd' _ ho.1
  · cases h
--@env envP7 envP7_ok
theorem subR (a b : U4) : fnRes envP7 Try.f31 3000 [.v (.a [.ob (.fr a)]), .v (.a [.ob (.fr b)])] [] [] [] = (Option.some ([((Fin.val b) < rN)], ((SV.v (V1.a [(It.ob (Ob.fr (cleanU (a + (outF ((0 : Fr) - (inF b)))))))])), []))) := by kernel_rfl
theorem trimR (a : List U4) : fnRes envP7 Try.f44 3000 [.v (.c (.sl (.fr a)))] [] [64] [] = (Option.some ([((List.length a) ≤ 8796093022208), (0 = 0), ((List.length a) = (List.length (List.map inF a))), (4 = 4), ((List.length (List.map inF a)) ≤ 8796093022208)], ((SV.v (V1.c (It.slc 0 0 (List.length (trimF (List.map inF a))) 4))), [(En.sq (Sq.fr (List.map outF (trimF (List.map inF a)))))]))) := by kernel_rfl
noncomputable def tmIn_k : List KI := (run envP7 false 3000 ((fun (a : List U4) => (⟨[.code (bodyOf Try.f35)], .normal, initSt Try.f35.ntmps [.v (.c (.sl (.fr a)))]⟩ : Cfg)) default) []).cfg.k
theorem tmIn_at (a : List U4) : runAt envP7 false 3000 ((⟨[.code (bodyOf Try.f35)], .normal, initSt Try.f35.ntmps [.v (.c (.sl (.fr a)))]⟩ : Cfg)) [] [0, 3, 4] [32] [] = some ⟨[], Exit.normal, [(SV.v (V1.c (It.sl (Sq.fr a)))), (SV.v (V1.c (It.slc 32 0 0 4))), (SV.v (V1.c (It.int IntKind.i64 (IntKind.wrap IntKind.i64 ((((List.length a) : Nat) : Int) - (1 : Int))))))], [(Option.some (En.sq (Sq.fr ([] : List U4))))], 39, 128, []⟩ := by kernel_rfl
theorem tmIn_hk (a : List U4) : (run envP7 false 3000 ((⟨[.code (bodyOf Try.f35)], .normal, initSt Try.f35.ntmps [.v (.c (.sl (.fr a)))]⟩ : Cfg)) []).cfg.k = tmIn_k := by kernel_rfl
theorem tmIn (a : List U4) {w0 : World} {F0 : Nat → Prop} {K : Kp} {ac : List Act} {Q : Exit → Act → World → Prop} {cX : Ctx} {aX : Act} (ho : AllP []) (hs : Sim w0 F0 K ac (initSt Try.f35.ntmps [.v (.c (.sl (.fr a)))]) cX aX) (hK : ∀ ac cY aY, Sim w0 F0 K ac (mkSt 39 [0, 3, 4] [(SV.v (V1.c (It.sl (Sq.fr a)))), (SV.v (V1.c (It.slc 32 0 0 4))), (SV.v (V1.c (It.int IntKind.i64 (IntKind.wrap IntKind.i64 ((((List.length a) : Nat) : Int) - (1 : Int))))))] [32] [(Option.some (En.sq (Sq.fr ([] : List U4))))] 128 [] []) cY aY → Wq Try.prog Q (tmIn_k) ac Exit.normal aY cY.w) : Wq Try.prog Q ([.code (bodyOf Try.f35)]) ac .normal aX cX.w :=
  run_at2 envP7_ok (tmIn_at a) (tmIn_hk a) ho hs hK
noncomputable def tmS (a : List U4) (i : Int) : St := mkSt 39 [0, 3, 4] [(SV.v (V1.c (It.sl (Sq.fr a)))), (SV.v (V1.c (It.slc 32 0 0 4))), .v (.c (.int .i64 i))] [32] [(Option.some (En.sq (Sq.fr ([] : List U4))))] 128 [] []
theorem tmN_at (a : List U4) (i : Int) : runAt envP7 false 3000 ((⟨lpIn tmIn_k, .normal, tmS a i⟩ : Cfg)) [true, true] [0, 3, 4] [32] [] = some ⟨[((decide (i ≥ (0 : Int))) = true), ((0 : Int) ≤ i), (i < (((List.length a) : Nat) : Int)), ((ite (true = true) (decide ((cleanU (List.getD a (i).toNat (0 : U4))) = (0 : U4))) (Bool.not (decide ((cleanU (List.getD a (i).toNat (0 : U4))) = (0 : U4))))) = true)], Exit.normal, [(SV.v (V1.c (It.sl (Sq.fr a)))), (SV.v (V1.c (It.slc 32 0 0 4))), (SV.v (V1.c (It.int IntKind.i64 (IntKind.wrap IntKind.i64 (i - (1 : Int))))))], [(Option.some (En.sq (Sq.fr ([] : List U4))))], 39, 320, []⟩ := by kernel_rfl
theorem tmN_hk (a : List U4) (i : Int) : (run envP7 false 3000 ((⟨lpIn tmIn_k, .normal, tmS a i⟩ : Cfg)) [true, true]).cfg.k = lpBk tmIn_k := by kernel_rfl
theorem tmN (a : List U4) (i : Int) {w0 : World} {F0 : Nat → Prop} {K : Kp} {ac : List Act} {Q : Exit → Act → World → Prop} {cX : Ctx} {aX : Act} (ho : AllP [((decide (i ≥ (0 : Int))) = true), ((0 : Int) ≤ i), (i < (((List.length a) : Nat) : Int)), ((ite (true = true) (decide ((cleanU (List.getD a (i).toNat (0 : U4))) = (0 : U4))) (Bool.not (decide ((cleanU (List.getD a (i).toNat (0 : U4))) = (0 : U4))))) = true)]) (hs : Sim w0 F0 K ac (tmS a i) cX aX) (hK : ∀ ac cY aY, Sim w0 F0 K ac (mkSt 39 [0, 3, 4] [(SV.v (V1.c (It.sl (Sq.fr a)))), (SV.v (V1.c (It.slc 32 0 0 4))), (SV.v (V1.c (It.int IntKind.i64 (IntKind.wrap IntKind.i64 (i - (1 : Int))))))] [32] [(Option.some (En.sq (Sq.fr ([] : List U4))))] 320 [] []) cY aY → Wq Try.prog Q (lpBk tmIn_k) ac Exit.normal aY cY.w) : Wq Try.prog Q (lpIn tmIn_k) ac .normal aX cX.w :=
  run_at2 envP7_ok (tmN_at a i) (tmN_hk a i) ho hs hK
noncomputable def tmI_k : List KI := (run envP7 false 3000 ((fun (a : List U4) (i : Int) => (⟨lpIn tmIn_k, .normal, tmS a i⟩ : Cfg)) default default) [true, false]).cfg.k
theorem tmI_at (a : List U4) (i : Int) : runAt envP7 false 3000 ((⟨lpIn tmIn_k, .normal, tmS a i⟩ : Cfg)) [true, false] [3, 25, 26, 27] [32] [] = some ⟨[((decide (i ≥ (0 : Int))) = true), ((0 : Int) ≤ i), (i < (((List.length a) : Nat) : Int)), ((ite (true = true) (decide ((cleanU (List.getD a (i).toNat (0 : U4))) = (0 : U4))) (Bool.not (decide ((cleanU (List.getD a (i).toNat (0 : U4))) = (0 : U4))))) = false), ((0 : Int) ≤ (IntKind.wrap IntKind.i64 (i + (1 : Int)))), ((IntKind.wrap IntKind.i64 (i + (1 : Int))) ≤ (((List.length a) : Nat) : Int))], Exit.normal, [(SV.v (V1.c (It.slc 32 0 0 4))), (SV.v (V1.c (It.sl (Sq.fr (List.take ((IntKind.wrap IntKind.i64 (i + (1 : Int)))).toNat (List.drop 0 a)))))), (SV.v (V1.c (It.int IntKind.i64 (((Sq.n (Sq.cut (Sq.fr a) 0 ((IntKind.wrap IntKind.i64 (i + (1 : Int)))).toNat)) : Nat) : Int)))), (SV.v (V1.c (It.int IntKind.i64 (0 : Int))))], [(Option.some (En.sq (Sq.fr ([] : List U4))))], 39, 368, []⟩ := by kernel_rfl
theorem tmI_hk (a : List U4) (i : Int) : (run envP7 false 3000 ((⟨lpIn tmIn_k, .normal, tmS a i⟩ : Cfg)) [true, false]).cfg.k = tmI_k := by kernel_rfl
theorem tmI (a : List U4) (i : Int) {w0 : World} {F0 : Nat → Prop} {K : Kp} {ac : List Act} {Q : Exit → Act → World → Prop} {cX : Ctx} {aX : Act} (ho : AllP [((decide (i ≥ (0 : Int))) = true), ((0 : Int) ≤ i), (i < (((List.length a) : Nat) : Int)), ((ite (true = true) (decide ((cleanU (List.getD a (i).toNat (0 : U4))) = (0 : U4))) (Bool.not (decide ((cleanU (List.getD a (i).toNat (0 : U4))) = (0 : U4))))) = false), ((0 : Int) ≤ (IntKind.wrap IntKind.i64 (i + (1 : Int)))), ((IntKind.wrap IntKind.i64 (i + (1 : Int))) ≤ (((List.length a) : Nat) : Int))]) (hs : Sim w0 F0 K ac (tmS a i) cX aX) (hK : ∀ ac cY aY, Sim w0 F0 K ac (mkSt 39 [3, 25, 26, 27] [(SV.v (V1.c (It.slc 32 0 0 4))), (SV.v (V1.c (It.sl (Sq.fr (List.take ((IntKind.wrap IntKind.i64 (i + (1 : Int)))).toNat (List.drop 0 a)))))), (SV.v (V1.c (It.int IntKind.i64 (((Sq.n (Sq.cut (Sq.fr a) 0 ((IntKind.wrap IntKind.i64 (i + (1 : Int)))).toNat)) : Nat) : Int)))), (SV.v (V1.c (It.int IntKind.i64 (0 : Int))))] [32] [(Option.some (En.sq (Sq.fr ([] : List U4))))] 368 [] []) cY aY → Wq Try.prog Q (tmI_k) ac Exit.normal aY cY.w) : Wq Try.prog Q (lpIn tmIn_k) ac .normal aX cX.w :=
  run_at2 envP7_ok (tmI_at a i) (tmI_hk a i) ho hs hK
theorem tmX_end (a : List U4) (i : Int) : runEnd envP7 Try.f35 false 3000 (⟨lpIn tmIn_k, .normal, tmS a i⟩) [false] [32] [] = (Option.some ([((decide (i ≥ (0 : Int))) = false)], ((SV.v (V1.c (It.slc 0 0 0 4))), [(En.sq (Sq.fr ([] : List U4)))]))) := by kernel_rfl
noncomputable def tmT (b : List U4) (N : Nat) (n : Nat) (L : List U4) (j : Nat) : St := mkSt 39 [3, 25, 26, 27] [.v (.c (.slc 32 0 n 4)), .v (.c (.sl (.fr b))), .v (.c (.int .i64 (N : Int))), .v (.c (.int .i64 (j : Int)))] [32] [some (.sq (.fr L))] 368 [] []
theorem tmM_at (b : List U4) (N : Nat) (n : Nat) (L : List U4) (j : Nat) : runAt envP7 false 3000 ((⟨lpIn tmI_k, .normal, tmT b N n L j⟩ : Cfg)) [true] [3, 25, 26, 27] [32] [] = some ⟨[((decide (((j : Nat) : Int) < ((N : Nat) : Int))) = true), ((0 : Int) ≤ ((j : Nat) : Int)), (((j : Nat) : Int) < (((List.length b) : Nat) : Int)), ((((List.length L) + 1) * 32) ≤ 140737488355328), (((List.length L) + 1) ≤ maxLen), (n = (List.length L)), (1 = 1)], Exit.normal, [(SV.v (V1.c (It.slc 32 0 ((List.length L) + 1) 4))), (SV.v (V1.c (It.sl (Sq.fr b)))), (SV.v (V1.c (It.int IntKind.i64 ((N : Nat) : Int)))), (SV.v (V1.c (It.int IntKind.i64 (IntKind.wrap IntKind.i64 (((j : Nat) : Int) + (1 : Int))))))], [(Option.some (En.sq (Sq.fr (L ++ [(cleanU (List.getD b (((j : Nat) : Int)).toNat (0 : U4)))]))))], 39, 576, []⟩ := by kernel_rfl
theorem tmM_hk (b : List U4) (N : Nat) (n : Nat) (L : List U4) (j : Nat) : (run envP7 false 3000 ((⟨lpIn tmI_k, .normal, tmT b N n L j⟩ : Cfg)) [true]).cfg.k = lpBk tmI_k := by kernel_rfl
theorem tmM (b : List U4) (N : Nat) (n : Nat) (L : List U4) (j : Nat) {w0 : World} {F0 : Nat → Prop} {K : Kp} {ac : List Act} {Q : Exit → Act → World → Prop} {cX : Ctx} {aX : Act} (ho : AllP [((decide (((j : Nat) : Int) < ((N : Nat) : Int))) = true), ((0 : Int) ≤ ((j : Nat) : Int)), (((j : Nat) : Int) < (((List.length b) : Nat) : Int)), ((((List.length L) + 1) * 32) ≤ 140737488355328), (((List.length L) + 1) ≤ maxLen), (n = (List.length L)), (1 = 1)]) (hs : Sim w0 F0 K ac (tmT b N n L j) cX aX) (hK : ∀ ac cY aY, Sim w0 F0 K ac (mkSt 39 [3, 25, 26, 27] [(SV.v (V1.c (It.slc 32 0 ((List.length L) + 1) 4))), (SV.v (V1.c (It.sl (Sq.fr b)))), (SV.v (V1.c (It.int IntKind.i64 ((N : Nat) : Int)))), (SV.v (V1.c (It.int IntKind.i64 (IntKind.wrap IntKind.i64 (((j : Nat) : Int) + (1 : Int))))))] [32] [(Option.some (En.sq (Sq.fr (L ++ [(cleanU (List.getD b (((j : Nat) : Int)).toNat (0 : U4)))]))))] 576 [] []) cY aY → Wq Try.prog Q (lpBk tmI_k) ac Exit.normal aY cY.w) : Wq Try.prog Q (lpIn tmI_k) ac .normal aX cX.w :=
  run_at2 envP7_ok (tmM_at b N n L j) (tmM_hk b N n L j) ho hs hK
theorem tmY_end (b : List U4) (N : Nat) (n : Nat) (L : List U4) (j : Nat) : runEnd envP7 Try.f35 false 3000 (⟨lpIn tmI_k, .normal, tmT b N n L j⟩) [false] [32] [] = (Option.some ([((decide (((j : Nat) : Int) < ((N : Nat) : Int))) = false)], ((SV.v (V1.c (It.slc 0 0 n 4))), [(En.sq (Sq.fr L))]))) := by kernel_rfl
end Go.Proofs.Ytlfllehomhcbfaa

/- The reference's trimming: contract. No conditions. -/
namespace Go.Proofs.Ytlfllehomhcbfaa

theorem outF_zero (x : Fr) : outF x = 0 ↔ x = 0 := by
  refine ⟨fun e => Fin.ext ?_, fun e => ?_⟩
  · have := congrArg Fin.val e
    rw [outF_val] at this
    exact this
  · subst e
    apply Fin.ext
    rw [outF_val]
    rfl

theorem trim44_fnd (a : List U4) (h : a.length ≤ 8796093022208) : FnD Try.prog 44 [.v (.c (.sl (.fr a)))] (.v (.c (.slc 0 0 (trimF (a.map inF)).length 4))) [.sq (.fr ((trimF (a.map inF)).map outF))] :=
  fn_sound envP7_ok Try.func44 (trimR a) ⟨h, rfl, by simp, rfl, by simpa using h, trivial⟩

theorem getD_in (a : List U4) (i : Nat) (h : i < a.length) : (a.map inF).getD i 0 = inF (a.getD i 0) := by simp [List.getD, h]

theorem trim35_fnd (a : List U4) (hl0 : a.length ≤ 1099511627776) : FnD Try.prog 35 [.v (.c (.sl (.fr a)))] (.v (.c (.slc 0 0 (trimF (a.map inF)).length 4))) [.sq (.fr ((trimF (a.map inF)).map outF))] := by
  rw [trimF_len, List.length_map]
  refine fn_start (fn := Try.f35) (c := bodyOf Try.f35) Try.func35 rfl rfl fun x a0 hk hF hs => ?_
  refine tmIn a trivial hs fun ac cY aY hs1 => ?_
  rw [wrap_id (by omega) (by omega)] at hs1
  refine loop_rule (ι := { n : Nat // n ≤ a.length ∧ trimN (a.map inF) n = trimN (a.map inF) a.length }) (fun n => tmS a ((n.1 : Int) - 1)) (fun n => n.1) (c := lpC tmIn_k) (k := lpR tmIn_k) (by kernel_rfl) (fun n ih ac cY aY hs => ?_) ⟨a.length, Nat.le_refl _, rfl⟩ hs1
  obtain ⟨n, hn, he⟩ := n
  simp only at ih hs
  cases n with
  | zero =>
    have h0 : trimN (a.map inF) a.length = 0 := he.symm
    have e : trimF (a.map inF) = [] := by unfold trimF; rw [List.length_map, h0, List.take_zero]
    rw [h0, e]
    exact run_end2 envP7_ok hk hF (tmX_end a _) ⟨by simp only [decide_eq_false_iff_not]; omega, trivial⟩ (fun y v hd => hd) hs
  | succ m =>
    have hm : ((m + 1 : Nat) : Int) - 1 = (m : Int) := by omega
    rw [hm] at hs
    have hT : trimN (a.map inF) (m + 1) = if (a.map inF).getD m 0 = 0 then trimN (a.map inF) m else m + 1 := rfl
    rw [getD_in a m (by omega)] at hT
    by_cases hz : inF (a.getD m 0) = 0
    · rw [if_pos hz] at hT
      refine tmN a m ⟨by simp only [decide_eq_true_eq]; omega, by omega, by omega, by rw [if_pos rfl, Int.toNat_natCast, clean_out, decide_eq_true ((outF_zero _).2 hz)], trivial⟩ hs fun ac cY aY hs2 => ?_
      rw [wrap_id (by omega) (by omega)] at hs2
      exact ih ⟨m, by omega, by rw [← he, hT]⟩ (Nat.lt_succ_self m) ac cY aY (hs2.nx _)
    · rw [if_neg hz] at hT
      have hw : IntKind.wrap IntKind.i64 ((m : Int) + 1) = ((m + 1 : Nat) : Int) := by rw [wrap_id (by omega) (by omega)]; omega
      refine tmI a m (by rw [hw]; exact ⟨by simp only [decide_eq_true_eq]; omega, by omega, by omega, by rw [if_pos rfl, Int.toNat_natCast, clean_out, decide_eq_false fun h => hz ((outF_zero _).1 h)], by omega, by omega, trivial⟩) hs fun ac cY aY hs2 => ?_
      have hlen : (a.take (m + 1)).length = m + 1 := by rw [List.length_take]; omega
      have hn2 : ((Sq.n (Sq.cut (Sq.fr a) 0 (m + 1)) : Nat) : Int) = ((m + 1 : Nat) : Int) := by
        show (((a.drop 0).take (m + 1)).length : Int) = _
        rw [List.drop_zero, hlen]
      rw [hw, Int.toNat_natCast, hn2, List.drop_zero] at hs2
      have hN : trimN (a.map inF) a.length = m + 1 := by rw [← he, hT]
      have hF2 : trimF (a.map inF) = (a.take (m + 1)).map inF := by unfold trimF; rw [List.length_map, hN, List.map_take]
      rw [hN, hF2]
      generalize a.take (m + 1) = b at hs2 hlen ⊢
      rw [← hlen]
      clear ih he hT hF2 hN hz hw hn2
      have hs2 : Sim x.w x.F kAll ac (tmT b b.length 0 ((b.take 0).map fun u => outF (inF u)) 0) cY aY := by rw [hlen]; exact hs2.nx _
      refine loop_rule (ι := { j : Nat // j ≤ b.length }) (fun j => tmT b b.length j.1 ((b.take j.1).map fun u => outF (inF u)) j.1) (fun j => b.length - j.1) (c := lpC tmI_k) (k := lpR tmI_k) (by kernel_rfl) (fun j ih ac cY aY hs => ?_) ⟨0, Nat.zero_le _⟩ hs2
      obtain ⟨j, hj⟩ := j
      simp only at ih hs
      have hLl : ((b.take j).map fun u => outF (inF u)).length = j := by rw [List.length_map, List.length_take]; omega
      by_cases h : j < b.length
      · refine tmM b b.length j _ j ⟨by simp [h], by omega, by omega, by rw [hLl]; omega, by rw [hLl]; unfold maxLen; omega, hLl.symm, rfl, trivial⟩ hs fun ac cY aY hs3 => ?_
        have e3 : (b.take j).map (fun u => outF (inF u)) ++ [outF (inF (b.getD j 0))] = (b.take (j + 1)).map fun u => outF (inF u) := by
          rw [List.take_succ_eq_append_getElem h, List.map_append]
          simp [List.getD, h]
        rw [hLl, Int.toNat_natCast, clean_out, e3, wrap_id (by omega) (by omega)] at hs3
        exact ih ⟨j + 1, by omega⟩ (by show b.length - (j + 1) < b.length - j; omega) ac cY aY (hs3.nx _)
      · have e : j = b.length := by omega
        rw [e, List.take_length] at hs
        rw [List.map_map]
        exact run_end2 envP7_ok hk hF (tmY_end b b.length b.length _ b.length) ⟨by simp, trivial⟩ (fun y v hd => hd) hs

end Go.Proofs.Ytlfllehomhcbfaa

/- The reference's sums, products, X^n - 1; the quotients, walked. No conditions. -/
namespace Go.Proofs.Ytlfllehomhcbfaa

theorem sub_zero_add {r : Nat} [NeZero r] (x y : Fin r) : x + (0 - y) = x - y := by grind

theorem sub31_fnd (a b : U4) (ha : a.val < rN) (hb : b.val < rN) : FnD Try.prog 31 [.v (.a [.ob (.fr a)]), .v (.a [.ob (.fr b)])] (.v (.a [.ob (.fr (outF (inF a - inF b)))])) [] := by
  have r := subR a b
  have e : cleanU (a + outF (0 - inF b)) = outF (inF a - inF b) := by
    have := addU_out (inF a) (0 - inF b)
    rw [out_in ha] at this
    rw [this, sub_zero_add]
  rw [e] at r
  exact fn_sound envP7_ok Try.func31 r ⟨hb, trivial⟩

def sub31Spec : FnSpec
  | [.v (.a [.ob (.fr a)]), .v (.a [.ob (.fr b)])] => some ([a.val < rN, b.val < rN], .v (.a [.ob (.fr (outF (inF a - inF b)))]), [])
  | _ => none
noncomputable def envQ1 : Env := envP7.set (addT envP7.fn 31 sub31Spec)
theorem envQ1_ok : EnvOk Try.prog envQ1 := env_add envP7_ok 31 sub31Spec (enters_of Try.func31 rfl rfl) fun args o r es h ho => by
  unfold sub31Spec at h
  split at h
  · cases h; exact sub31_fnd _ _ ho.1 ho.2.1
  · cases h
def trim44Spec : FnSpec
  | [.v (.c (.sl (.fr a)))] => some ([a.length ≤ 8796093022208], .v (.c (.slc 0 0 (trimF (a.map inF)).length 4)), [.sq (.fr ((trimF (a.map inF)).map outF))])
  | _ => none
noncomputable def envQ2 : Env := envQ1.set (addT envQ1.fn 44 trim44Spec)
theorem envQ2_ok : EnvOk Try.prog envQ2 := env_add envQ1_ok 44 trim44Spec (enters_of Try.func44 rfl rfl) fun args o r es h ho => by
  unfold trim44Spec at h
  split at h
  · cases h; exact trim44_fnd _ ho.1
  · cases h
def trim35Spec : FnSpec
  | [.v (.c (.sl (.fr a)))] => some ([a.length ≤ 1099511627776], .v (.c (.slc 0 0 (trimF (a.map inF)).length 4)), [.sq (.fr ((trimF (a.map inF)).map outF))])
  | _ => none
noncomputable def envQ3 : Env := envQ2.set (addT envQ2.fn 35 trim35Spec)
theorem envQ3_ok : EnvOk Try.prog envQ3 := env_add envQ2_ok 35 trim35Spec (enters_of Try.func35 rfl rfl) fun args o r es h ho => by
  unfold trim35Spec at h
  split at h
  · cases h; exact trim35_fnd _ ho.1
  · cases h
--@env envQ3 envQ3_ok
noncomputable def adIn_k : List KI := (run envQ3 false 3000 ((fun (a b : List U4) => (⟨[.code (bodyOf Try.f33)], .normal, initSt Try.f33.ntmps [.v (.c (.sl (.fr a))), .v (.c (.sl (.fr b)))]⟩ : Cfg)) default default) []).cfg.k
theorem adIn_at (a b : List U4) : runAt envQ3 false 3000 ((⟨[.code (bodyOf Try.f33)], .normal, initSt Try.f33.ntmps [.v (.c (.sl (.fr a))), .v (.c (.sl (.fr b)))]⟩ : Cfg)) [] [0, 1, 5, 6] [32] [] = some ⟨[], Exit.normal, [(SV.v (V1.c (It.sl (Sq.fr a)))), (SV.v (V1.c (It.sl (Sq.fr b)))), (SV.v (V1.c (It.slc 32 0 0 4))), (SV.v (V1.c (It.int IntKind.i64 (0 : Int))))], [(Option.some (En.sq (Sq.fr ([] : List U4))))], 32, 80, []⟩ := by kernel_rfl
theorem adIn_hk (a b : List U4) : (run envQ3 false 3000 ((⟨[.code (bodyOf Try.f33)], .normal, initSt Try.f33.ntmps [.v (.c (.sl (.fr a))), .v (.c (.sl (.fr b)))]⟩ : Cfg)) []).cfg.k = adIn_k := by kernel_rfl
theorem adIn (a b : List U4) {w0 : World} {F0 : Nat → Prop} {K : Kp} {ac : List Act} {Q : Exit → Act → World → Prop} {cX : Ctx} {aX : Act} (ho : AllP []) (hs : Sim w0 F0 K ac (initSt Try.f33.ntmps [.v (.c (.sl (.fr a))), .v (.c (.sl (.fr b)))]) cX aX) (hK : ∀ ac cY aY, Sim w0 F0 K ac (mkSt 32 [0, 1, 5, 6] [(SV.v (V1.c (It.sl (Sq.fr a)))), (SV.v (V1.c (It.sl (Sq.fr b)))), (SV.v (V1.c (It.slc 32 0 0 4))), (SV.v (V1.c (It.int IntKind.i64 (0 : Int))))] [32] [(Option.some (En.sq (Sq.fr ([] : List U4))))] 80 [] []) cY aY → Wq Try.prog Q (adIn_k) ac Exit.normal aY cY.w) : Wq Try.prog Q ([.code (bodyOf Try.f33)]) ac .normal aX cX.w :=
  run_at2 envQ3_ok (adIn_at a b) (adIn_hk a b) ho hs hK
noncomputable def adS (a b : List U4) (N : Nat) (L : List U4) (i : Nat) : St := mkSt 32 [0, 1, 5, 6] [(SV.v (V1.c (It.sl (Sq.fr a)))), (SV.v (V1.c (It.sl (Sq.fr b)))), .v (.c (.slc 32 0 N 4)), .v (.c (.int .i64 (i : Int)))] [32] [some (.sq (.fr L))] 80 [] []
theorem adM_at (a b : List U4) (N : Nat) (L : List U4) (i : Nat) : runAt envQ3 false 3000 ((⟨lpIn adIn_k, .normal, adS a b N L i⟩ : Cfg)) [true] [0, 1, 5, 6] [32] [] = some ⟨[((decide (((i : Nat) : Int) < (((List.length a) : Nat) : Int))) = true), ((0 : Int) ≤ ((i : Nat) : Int)), ((0 : Int) ≤ ((i : Nat) : Int)), ((((List.length L) + 1) * 32) ≤ 140737488355328), (((List.length L) + 1) ≤ maxLen), (N = (List.length L)), (1 = 1)], Exit.normal, [(SV.v (V1.c (It.sl (Sq.fr a)))), (SV.v (V1.c (It.sl (Sq.fr b)))), (SV.v (V1.c (It.slc 32 0 ((List.length L) + 1) 4))), (SV.v (V1.c (It.int IntKind.i64 (IntKind.wrap IntKind.i64 (((i : Nat) : Int) + (1 : Int))))))], [(Option.some (En.sq (Sq.fr (L ++ [(cleanU ((outF (List.getD (List.map inF a) (((i : Nat) : Int)).toNat (0 : Fr))) + (outF (List.getD (List.map inF b) (((i : Nat) : Int)).toNat (0 : Fr)))))]))))], 32, 464, []⟩ := by kernel_rfl
theorem adM_hk (a b : List U4) (N : Nat) (L : List U4) (i : Nat) : (run envQ3 false 3000 ((⟨lpIn adIn_k, .normal, adS a b N L i⟩ : Cfg)) [true]).cfg.k = lpBk adIn_k := by kernel_rfl
theorem adM (a b : List U4) (N : Nat) (L : List U4) (i : Nat) {w0 : World} {F0 : Nat → Prop} {K : Kp} {ac : List Act} {Q : Exit → Act → World → Prop} {cX : Ctx} {aX : Act} (ho : AllP [((decide (((i : Nat) : Int) < (((List.length a) : Nat) : Int))) = true), ((0 : Int) ≤ ((i : Nat) : Int)), ((0 : Int) ≤ ((i : Nat) : Int)), ((((List.length L) + 1) * 32) ≤ 140737488355328), (((List.length L) + 1) ≤ maxLen), (N = (List.length L)), (1 = 1)]) (hs : Sim w0 F0 K ac (adS a b N L i) cX aX) (hK : ∀ ac cY aY, Sim w0 F0 K ac (mkSt 32 [0, 1, 5, 6] [(SV.v (V1.c (It.sl (Sq.fr a)))), (SV.v (V1.c (It.sl (Sq.fr b)))), (SV.v (V1.c (It.slc 32 0 ((List.length L) + 1) 4))), (SV.v (V1.c (It.int IntKind.i64 (IntKind.wrap IntKind.i64 (((i : Nat) : Int) + (1 : Int))))))] [32] [(Option.some (En.sq (Sq.fr (L ++ [(cleanU ((outF (List.getD (List.map inF a) (((i : Nat) : Int)).toNat (0 : Fr))) + (outF (List.getD (List.map inF b) (((i : Nat) : Int)).toNat (0 : Fr)))))]))))] 464 [] []) cY aY → Wq Try.prog Q (lpBk adIn_k) ac Exit.normal aY cY.w) : Wq Try.prog Q (lpIn adIn_k) ac .normal aX cX.w :=
  run_at2 envQ3_ok (adM_at a b N L i) (adM_hk a b N L i) ho hs hK
theorem adN_at (a b : List U4) (N : Nat) (L : List U4) (i : Nat) : runAt envQ3 false 3000 ((⟨lpIn adIn_k, .normal, adS a b N L i⟩ : Cfg)) [false, true] [0, 1, 5, 6] [32] [] = some ⟨[((decide (((i : Nat) : Int) < (((List.length a) : Nat) : Int))) = false), ((decide (((i : Nat) : Int) < (((List.length b) : Nat) : Int))) = true), ((0 : Int) ≤ ((i : Nat) : Int)), ((0 : Int) ≤ ((i : Nat) : Int)), ((((List.length L) + 1) * 32) ≤ 140737488355328), (((List.length L) + 1) ≤ maxLen), (N = (List.length L)), (1 = 1)], Exit.normal, [(SV.v (V1.c (It.sl (Sq.fr a)))), (SV.v (V1.c (It.sl (Sq.fr b)))), (SV.v (V1.c (It.slc 32 0 ((List.length L) + 1) 4))), (SV.v (V1.c (It.int IntKind.i64 (IntKind.wrap IntKind.i64 (((i : Nat) : Int) + (1 : Int))))))], [(Option.some (En.sq (Sq.fr (L ++ [(cleanU ((outF (List.getD (List.map inF a) (((i : Nat) : Int)).toNat (0 : Fr))) + (outF (List.getD (List.map inF b) (((i : Nat) : Int)).toNat (0 : Fr)))))]))))], 32, 464, []⟩ := by kernel_rfl
theorem adN_hk (a b : List U4) (N : Nat) (L : List U4) (i : Nat) : (run envQ3 false 3000 ((⟨lpIn adIn_k, .normal, adS a b N L i⟩ : Cfg)) [false, true]).cfg.k = lpBk adIn_k := by kernel_rfl
theorem adN (a b : List U4) (N : Nat) (L : List U4) (i : Nat) {w0 : World} {F0 : Nat → Prop} {K : Kp} {ac : List Act} {Q : Exit → Act → World → Prop} {cX : Ctx} {aX : Act} (ho : AllP [((decide (((i : Nat) : Int) < (((List.length a) : Nat) : Int))) = false), ((decide (((i : Nat) : Int) < (((List.length b) : Nat) : Int))) = true), ((0 : Int) ≤ ((i : Nat) : Int)), ((0 : Int) ≤ ((i : Nat) : Int)), ((((List.length L) + 1) * 32) ≤ 140737488355328), (((List.length L) + 1) ≤ maxLen), (N = (List.length L)), (1 = 1)]) (hs : Sim w0 F0 K ac (adS a b N L i) cX aX) (hK : ∀ ac cY aY, Sim w0 F0 K ac (mkSt 32 [0, 1, 5, 6] [(SV.v (V1.c (It.sl (Sq.fr a)))), (SV.v (V1.c (It.sl (Sq.fr b)))), (SV.v (V1.c (It.slc 32 0 ((List.length L) + 1) 4))), (SV.v (V1.c (It.int IntKind.i64 (IntKind.wrap IntKind.i64 (((i : Nat) : Int) + (1 : Int))))))] [32] [(Option.some (En.sq (Sq.fr (L ++ [(cleanU ((outF (List.getD (List.map inF a) (((i : Nat) : Int)).toNat (0 : Fr))) + (outF (List.getD (List.map inF b) (((i : Nat) : Int)).toNat (0 : Fr)))))]))))] 464 [] []) cY aY → Wq Try.prog Q (lpBk adIn_k) ac Exit.normal aY cY.w) : Wq Try.prog Q (lpIn adIn_k) ac .normal aX cX.w :=
  run_at2 envQ3_ok (adN_at a b N L i) (adN_hk a b N L i) ho hs hK
theorem adX_end (a b : List U4) (N : Nat) (L : List U4) (i : Nat) : runEnd envQ3 Try.f33 false 3000 (⟨lpIn adIn_k, .normal, adS a b N L i⟩) [false, false] [256] [] = (Option.some ([((decide (((i : Nat) : Int) < (((List.length a) : Nat) : Int))) = false), ((decide (((i : Nat) : Int) < (((List.length b) : Nat) : Int))) = false), (0 = 0), (N = (List.length L)), (4 = 4), ((List.length L) ≤ 1099511627776)], ((SV.v (V1.c (It.slc 0 0 (List.length (trimF (List.map inF L))) 4))), [(En.sq (Sq.fr (List.map outF (trimF (List.map inF L)))))]))) := by kernel_rfl
noncomputable def mlIn_k : List KI := (run envQ3 false 3000 ((fun (a b : List U4) => (⟨[.code (bodyOf Try.f34)], .normal, initSt Try.f34.ntmps [.v (.c (.sl (.fr a))), .v (.c (.sl (.fr b)))]⟩ : Cfg)) default default) []).cfg.k
theorem mlIn_at (a b : List U4) : runAt envQ3 false 3000 ((⟨[.code (bodyOf Try.f34)], .normal, initSt Try.f34.ntmps [.v (.c (.sl (.fr a))), .v (.c (.sl (.fr b)))]⟩ : Cfg)) [] [0, 1, 5, 6] [32] [] = some ⟨[], Exit.normal, [(SV.v (V1.c (It.sl (Sq.fr a)))), (SV.v (V1.c (It.sl (Sq.fr b)))), (SV.v (V1.c (It.slc 32 0 0 4))), (SV.v (V1.c (It.int IntKind.i64 (0 : Int))))], [(Option.some (En.sq (Sq.fr ([] : List U4))))], 54, 80, []⟩ := by kernel_rfl
theorem mlIn_hk (a b : List U4) : (run envQ3 false 3000 ((⟨[.code (bodyOf Try.f34)], .normal, initSt Try.f34.ntmps [.v (.c (.sl (.fr a))), .v (.c (.sl (.fr b)))]⟩ : Cfg)) []).cfg.k = mlIn_k := by kernel_rfl
theorem mlIn (a b : List U4) {w0 : World} {F0 : Nat → Prop} {K : Kp} {ac : List Act} {Q : Exit → Act → World → Prop} {cX : Ctx} {aX : Act} (ho : AllP []) (hs : Sim w0 F0 K ac (initSt Try.f34.ntmps [.v (.c (.sl (.fr a))), .v (.c (.sl (.fr b)))]) cX aX) (hK : ∀ ac cY aY, Sim w0 F0 K ac (mkSt 54 [0, 1, 5, 6] [(SV.v (V1.c (It.sl (Sq.fr a)))), (SV.v (V1.c (It.sl (Sq.fr b)))), (SV.v (V1.c (It.slc 32 0 0 4))), (SV.v (V1.c (It.int IntKind.i64 (0 : Int))))] [32] [(Option.some (En.sq (Sq.fr ([] : List U4))))] 80 [] []) cY aY → Wq Try.prog Q (mlIn_k) ac Exit.normal aY cY.w) : Wq Try.prog Q ([.code (bodyOf Try.f34)]) ac .normal aX cX.w :=
  run_at2 envQ3_ok (mlIn_at a b) (mlIn_hk a b) ho hs hK
noncomputable def mlS (a b : List U4) (N : Nat) (L : List U4) (i : Nat) : St := mkSt 54 [0, 1, 5, 6] [(SV.v (V1.c (It.sl (Sq.fr a)))), (SV.v (V1.c (It.sl (Sq.fr b)))), .v (.c (.slc 32 0 N 4)), .v (.c (.int .i64 (i : Int)))] [32] [some (.sq (.fr L))] 80 [] []
noncomputable def mlI_k : List KI := (run envQ3 false 3000 ((fun (a b : List U4) (N : Nat) (L : List U4) (i : Nat) => (⟨lpIn mlIn_k, .normal, mlS a b N L i⟩ : Cfg)) default default default default default) [true]).cfg.k
theorem mlI_at (a b : List U4) (N : Nat) (L : List U4) (i : Nat) : runAt envQ3 false 3000 ((⟨lpIn mlIn_k, .normal, mlS a b N L i⟩ : Cfg)) [true] [0, 1, 5, 6, 7, 8] [32, 208] [] = some ⟨[((decide (((i : Nat) : Int) < (IntKind.wrap IntKind.i64 ((((List.length a) : Nat) : Int) + (((List.length b) : Nat) : Int))))) = true)], Exit.normal, [(SV.v (V1.c (It.sl (Sq.fr a)))), (SV.v (V1.c (It.sl (Sq.fr b)))), (SV.v (V1.c (It.slc 32 0 N 4))), (SV.v (V1.c (It.int IntKind.i64 ((i : Nat) : Int)))), (SV.v (V1.c (It.ptr 208 0))), (SV.v (V1.c (It.int IntKind.i64 (0 : Int))))], [(Option.some (En.sq (Sq.fr L))), (Option.some (En.fl [(It.ob (Ob.fr (0 : U4)))]))], 54, 256, []⟩ := by kernel_rfl
theorem mlI_hk (a b : List U4) (N : Nat) (L : List U4) (i : Nat) : (run envQ3 false 3000 ((⟨lpIn mlIn_k, .normal, mlS a b N L i⟩ : Cfg)) [true]).cfg.k = mlI_k := by kernel_rfl
theorem mlI (a b : List U4) (N : Nat) (L : List U4) (i : Nat) {w0 : World} {F0 : Nat → Prop} {K : Kp} {ac : List Act} {Q : Exit → Act → World → Prop} {cX : Ctx} {aX : Act} (ho : AllP [((decide (((i : Nat) : Int) < (IntKind.wrap IntKind.i64 ((((List.length a) : Nat) : Int) + (((List.length b) : Nat) : Int))))) = true)]) (hs : Sim w0 F0 K ac (mlS a b N L i) cX aX) (hK : ∀ ac cY aY, Sim w0 F0 K ac (mkSt 54 [0, 1, 5, 6, 7, 8] [(SV.v (V1.c (It.sl (Sq.fr a)))), (SV.v (V1.c (It.sl (Sq.fr b)))), (SV.v (V1.c (It.slc 32 0 N 4))), (SV.v (V1.c (It.int IntKind.i64 ((i : Nat) : Int)))), (SV.v (V1.c (It.ptr 208 0))), (SV.v (V1.c (It.int IntKind.i64 (0 : Int))))] [32, 208] [(Option.some (En.sq (Sq.fr L))), (Option.some (En.fl [(It.ob (Ob.fr (0 : U4)))]))] 256 [] []) cY aY → Wq Try.prog Q (mlI_k) ac Exit.normal aY cY.w) : Wq Try.prog Q (lpIn mlIn_k) ac .normal aX cX.w :=
  run_at2 envQ3_ok (mlI_at a b N L i) (mlI_hk a b N L i) ho hs hK
noncomputable def mlT (a b : List U4) (N : Nat) (L : List U4) (i : Nat) (c : Fr) (k : Nat) : St := mkSt 54 [0, 1, 5, 6, 7, 8] [(SV.v (V1.c (It.sl (Sq.fr a)))), (SV.v (V1.c (It.sl (Sq.fr b)))), .v (.c (.slc 32 0 N 4)), .v (.c (.int .i64 (i : Int))), (SV.v (V1.c (It.ptr 208 0))), .v (.c (.int .i64 (k : Int)))] [32, 208] [some (.sq (.fr L)), some (.fl [.ob (.fr (outF c))])] 256 [] []
theorem mlA_at (a b : List U4) (N : Nat) (L : List U4) (i : Nat) (c : Fr) (k : Nat) : runAt envQ3 false 3000 ((⟨lpIn mlI_k, .normal, mlT a b N L i c k⟩ : Cfg)) [true, true, true] [0, 1, 5, 6, 7, 8] [32, 208] [] = some ⟨[((decide (((k : Nat) : Int) ≤ ((i : Nat) : Int))) = true), ((decide (((k : Nat) : Int) < (((List.length a) : Nat) : Int))) = true), ((decide ((IntKind.wrap IntKind.i64 (((i : Nat) : Int) - ((k : Nat) : Int))) < (((List.length b) : Nat) : Int))) = true), ((0 : Int) ≤ ((k : Nat) : Int)), ((0 : Int) ≤ (IntKind.wrap IntKind.i64 (((i : Nat) : Int) - ((k : Nat) : Int)))), ((Fin.val (outF (List.getD (List.map inF b) ((IntKind.wrap IntKind.i64 (((i : Nat) : Int) - ((k : Nat) : Int)))).toNat (0 : Fr)))) < rN)], Exit.normal, [(SV.v (V1.c (It.sl (Sq.fr a)))), (SV.v (V1.c (It.sl (Sq.fr b)))), (SV.v (V1.c (It.slc 32 0 N 4))), (SV.v (V1.c (It.int IntKind.i64 ((i : Nat) : Int)))), (SV.v (V1.c (It.ptr 208 0))), (SV.v (V1.c (It.int IntKind.i64 (IntKind.wrap IntKind.i64 (((k : Nat) : Int) + (1 : Int))))))], [(Option.some (En.sq (Sq.fr L))), (Option.some (En.fl [(It.ob (Ob.fr (cleanU ((outF c) + (mulU (outF (List.getD (List.map inF a) (((k : Nat) : Int)).toNat (0 : Fr))) (outF (List.getD (List.map inF b) ((IntKind.wrap IntKind.i64 (((i : Nat) : Int) - ((k : Nat) : Int)))).toNat (0 : Fr))))))))]))], 54, 736, []⟩ := by kernel_rfl
theorem mlA_hk (a b : List U4) (N : Nat) (L : List U4) (i : Nat) (c : Fr) (k : Nat) : (run envQ3 false 3000 ((⟨lpIn mlI_k, .normal, mlT a b N L i c k⟩ : Cfg)) [true, true, true]).cfg.k = lpBk mlI_k := by kernel_rfl
theorem mlA (a b : List U4) (N : Nat) (L : List U4) (i : Nat) (c : Fr) (k : Nat) {w0 : World} {F0 : Nat → Prop} {K : Kp} {ac : List Act} {Q : Exit → Act → World → Prop} {cX : Ctx} {aX : Act} (ho : AllP [((decide (((k : Nat) : Int) ≤ ((i : Nat) : Int))) = true), ((decide (((k : Nat) : Int) < (((List.length a) : Nat) : Int))) = true), ((decide ((IntKind.wrap IntKind.i64 (((i : Nat) : Int) - ((k : Nat) : Int))) < (((List.length b) : Nat) : Int))) = true), ((0 : Int) ≤ ((k : Nat) : Int)), ((0 : Int) ≤ (IntKind.wrap IntKind.i64 (((i : Nat) : Int) - ((k : Nat) : Int)))), ((Fin.val (outF (List.getD (List.map inF b) ((IntKind.wrap IntKind.i64 (((i : Nat) : Int) - ((k : Nat) : Int)))).toNat (0 : Fr)))) < rN)]) (hs : Sim w0 F0 K ac (mlT a b N L i c k) cX aX) (hK : ∀ ac cY aY, Sim w0 F0 K ac (mkSt 54 [0, 1, 5, 6, 7, 8] [(SV.v (V1.c (It.sl (Sq.fr a)))), (SV.v (V1.c (It.sl (Sq.fr b)))), (SV.v (V1.c (It.slc 32 0 N 4))), (SV.v (V1.c (It.int IntKind.i64 ((i : Nat) : Int)))), (SV.v (V1.c (It.ptr 208 0))), (SV.v (V1.c (It.int IntKind.i64 (IntKind.wrap IntKind.i64 (((k : Nat) : Int) + (1 : Int))))))] [32, 208] [(Option.some (En.sq (Sq.fr L))), (Option.some (En.fl [(It.ob (Ob.fr (cleanU ((outF c) + (mulU (outF (List.getD (List.map inF a) (((k : Nat) : Int)).toNat (0 : Fr))) (outF (List.getD (List.map inF b) ((IntKind.wrap IntKind.i64 (((i : Nat) : Int) - ((k : Nat) : Int)))).toNat (0 : Fr))))))))]))] 736 [] []) cY aY → Wq Try.prog Q (lpBk mlI_k) ac Exit.normal aY cY.w) : Wq Try.prog Q (lpIn mlI_k) ac .normal aX cX.w :=
  run_at2 envQ3_ok (mlA_at a b N L i c k) (mlA_hk a b N L i c k) ho hs hK
theorem mlB_at (a b : List U4) (N : Nat) (L : List U4) (i : Nat) (c : Fr) (k : Nat) : runAt envQ3 false 3000 ((⟨lpIn mlI_k, .normal, mlT a b N L i c k⟩ : Cfg)) [true, true, false] [0, 1, 5, 6, 7, 8] [32, 208] [] = some ⟨[((decide (((k : Nat) : Int) ≤ ((i : Nat) : Int))) = true), ((decide (((k : Nat) : Int) < (((List.length a) : Nat) : Int))) = true), ((decide ((IntKind.wrap IntKind.i64 (((i : Nat) : Int) - ((k : Nat) : Int))) < (((List.length b) : Nat) : Int))) = false)], Exit.normal, [(SV.v (V1.c (It.sl (Sq.fr a)))), (SV.v (V1.c (It.sl (Sq.fr b)))), (SV.v (V1.c (It.slc 32 0 N 4))), (SV.v (V1.c (It.int IntKind.i64 ((i : Nat) : Int)))), (SV.v (V1.c (It.ptr 208 0))), (SV.v (V1.c (It.int IntKind.i64 (IntKind.wrap IntKind.i64 (((k : Nat) : Int) + (1 : Int))))))], [(Option.some (En.sq (Sq.fr L))), (Option.some (En.fl [(It.ob (Ob.fr (outF c)))]))], 54, 544, []⟩ := by kernel_rfl
theorem mlB_hk (a b : List U4) (N : Nat) (L : List U4) (i : Nat) (c : Fr) (k : Nat) : (run envQ3 false 3000 ((⟨lpIn mlI_k, .normal, mlT a b N L i c k⟩ : Cfg)) [true, true, false]).cfg.k = lpBk mlI_k := by kernel_rfl
theorem mlB (a b : List U4) (N : Nat) (L : List U4) (i : Nat) (c : Fr) (k : Nat) {w0 : World} {F0 : Nat → Prop} {K : Kp} {ac : List Act} {Q : Exit → Act → World → Prop} {cX : Ctx} {aX : Act} (ho : AllP [((decide (((k : Nat) : Int) ≤ ((i : Nat) : Int))) = true), ((decide (((k : Nat) : Int) < (((List.length a) : Nat) : Int))) = true), ((decide ((IntKind.wrap IntKind.i64 (((i : Nat) : Int) - ((k : Nat) : Int))) < (((List.length b) : Nat) : Int))) = false)]) (hs : Sim w0 F0 K ac (mlT a b N L i c k) cX aX) (hK : ∀ ac cY aY, Sim w0 F0 K ac (mkSt 54 [0, 1, 5, 6, 7, 8] [(SV.v (V1.c (It.sl (Sq.fr a)))), (SV.v (V1.c (It.sl (Sq.fr b)))), (SV.v (V1.c (It.slc 32 0 N 4))), (SV.v (V1.c (It.int IntKind.i64 ((i : Nat) : Int)))), (SV.v (V1.c (It.ptr 208 0))), (SV.v (V1.c (It.int IntKind.i64 (IntKind.wrap IntKind.i64 (((k : Nat) : Int) + (1 : Int))))))] [32, 208] [(Option.some (En.sq (Sq.fr L))), (Option.some (En.fl [(It.ob (Ob.fr (outF c)))]))] 544 [] []) cY aY → Wq Try.prog Q (lpBk mlI_k) ac Exit.normal aY cY.w) : Wq Try.prog Q (lpIn mlI_k) ac .normal aX cX.w :=
  run_at2 envQ3_ok (mlB_at a b N L i c k) (mlB_hk a b N L i c k) ho hs hK
theorem mlC_at (a b : List U4) (N : Nat) (L : List U4) (i : Nat) (c : Fr) (k : Nat) : runAt envQ3 false 3000 ((⟨lpIn mlI_k, .normal, mlT a b N L i c k⟩ : Cfg)) [true, false] [0, 1, 5, 6, 7, 8] [32, 208] [] = some ⟨[((decide (((k : Nat) : Int) ≤ ((i : Nat) : Int))) = true), ((decide (((k : Nat) : Int) < (((List.length a) : Nat) : Int))) = false)], Exit.normal, [(SV.v (V1.c (It.sl (Sq.fr a)))), (SV.v (V1.c (It.sl (Sq.fr b)))), (SV.v (V1.c (It.slc 32 0 N 4))), (SV.v (V1.c (It.int IntKind.i64 ((i : Nat) : Int)))), (SV.v (V1.c (It.ptr 208 0))), (SV.v (V1.c (It.int IntKind.i64 (IntKind.wrap IntKind.i64 (((k : Nat) : Int) + (1 : Int))))))], [(Option.some (En.sq (Sq.fr L))), (Option.some (En.fl [(It.ob (Ob.fr (outF c)))]))], 54, 544, []⟩ := by kernel_rfl
theorem mlC_hk (a b : List U4) (N : Nat) (L : List U4) (i : Nat) (c : Fr) (k : Nat) : (run envQ3 false 3000 ((⟨lpIn mlI_k, .normal, mlT a b N L i c k⟩ : Cfg)) [true, false]).cfg.k = lpBk mlI_k := by kernel_rfl
theorem mlC (a b : List U4) (N : Nat) (L : List U4) (i : Nat) (c : Fr) (k : Nat) {w0 : World} {F0 : Nat → Prop} {K : Kp} {ac : List Act} {Q : Exit → Act → World → Prop} {cX : Ctx} {aX : Act} (ho : AllP [((decide (((k : Nat) : Int) ≤ ((i : Nat) : Int))) = true), ((decide (((k : Nat) : Int) < (((List.length a) : Nat) : Int))) = false)]) (hs : Sim w0 F0 K ac (mlT a b N L i c k) cX aX) (hK : ∀ ac cY aY, Sim w0 F0 K ac (mkSt 54 [0, 1, 5, 6, 7, 8] [(SV.v (V1.c (It.sl (Sq.fr a)))), (SV.v (V1.c (It.sl (Sq.fr b)))), (SV.v (V1.c (It.slc 32 0 N 4))), (SV.v (V1.c (It.int IntKind.i64 ((i : Nat) : Int)))), (SV.v (V1.c (It.ptr 208 0))), (SV.v (V1.c (It.int IntKind.i64 (IntKind.wrap IntKind.i64 (((k : Nat) : Int) + (1 : Int))))))] [32, 208] [(Option.some (En.sq (Sq.fr L))), (Option.some (En.fl [(It.ob (Ob.fr (outF c)))]))] 544 [] []) cY aY → Wq Try.prog Q (lpBk mlI_k) ac Exit.normal aY cY.w) : Wq Try.prog Q (lpIn mlI_k) ac .normal aX cX.w :=
  run_at2 envQ3_ok (mlC_at a b N L i c k) (mlC_hk a b N L i c k) ho hs hK
theorem mlE_at (a b : List U4) (N : Nat) (L : List U4) (i : Nat) (c : Fr) (k : Nat) : runAt envQ3 false 3000 ((⟨lpIn mlI_k, .normal, mlT a b N L i c k⟩ : Cfg)) [false] [0, 1, 5, 6] [32] [] = some ⟨[((decide (((k : Nat) : Int) ≤ ((i : Nat) : Int))) = false), ((((List.length L) + 1) * 32) ≤ 140737488355328), (((List.length L) + 1) ≤ maxLen), (N = (List.length L)), (1 = 1)], Exit.normal, [(SV.v (V1.c (It.sl (Sq.fr a)))), (SV.v (V1.c (It.sl (Sq.fr b)))), (SV.v (V1.c (It.slc 32 0 ((List.length L) + 1) 4))), (SV.v (V1.c (It.int IntKind.i64 (IntKind.wrap IntKind.i64 (((i : Nat) : Int) + (1 : Int))))))], [(Option.some (En.sq (Sq.fr (L ++ [(outF c)]))))], 54, 432, []⟩ := by kernel_rfl
theorem mlE_hk (a b : List U4) (N : Nat) (L : List U4) (i : Nat) (c : Fr) (k : Nat) : (run envQ3 false 3000 ((⟨lpIn mlI_k, .normal, mlT a b N L i c k⟩ : Cfg)) [false]).cfg.k = lpBk mlIn_k := by kernel_rfl
theorem mlE (a b : List U4) (N : Nat) (L : List U4) (i : Nat) (c : Fr) (k : Nat) {w0 : World} {F0 : Nat → Prop} {K : Kp} {ac : List Act} {Q : Exit → Act → World → Prop} {cX : Ctx} {aX : Act} (ho : AllP [((decide (((k : Nat) : Int) ≤ ((i : Nat) : Int))) = false), ((((List.length L) + 1) * 32) ≤ 140737488355328), (((List.length L) + 1) ≤ maxLen), (N = (List.length L)), (1 = 1)]) (hs : Sim w0 F0 K ac (mlT a b N L i c k) cX aX) (hK : ∀ ac cY aY, Sim w0 F0 K ac (mkSt 54 [0, 1, 5, 6] [(SV.v (V1.c (It.sl (Sq.fr a)))), (SV.v (V1.c (It.sl (Sq.fr b)))), (SV.v (V1.c (It.slc 32 0 ((List.length L) + 1) 4))), (SV.v (V1.c (It.int IntKind.i64 (IntKind.wrap IntKind.i64 (((i : Nat) : Int) + (1 : Int))))))] [32] [(Option.some (En.sq (Sq.fr (L ++ [(outF c)]))))] 432 [] []) cY aY → Wq Try.prog Q (lpBk mlIn_k) ac Exit.normal aY cY.w) : Wq Try.prog Q (lpIn mlI_k) ac .normal aX cX.w :=
  run_at2 envQ3_ok (mlE_at a b N L i c k) (mlE_hk a b N L i c k) ho hs hK
theorem mlX_end (a b : List U4) (N : Nat) (L : List U4) (i : Nat) : runEnd envQ3 Try.f34 false 3000 (⟨lpIn mlIn_k, .normal, mlS a b N L i⟩) [false] [208] [] = (Option.some ([((decide (((i : Nat) : Int) < (IntKind.wrap IntKind.i64 ((((List.length a) : Nat) : Int) + (((List.length b) : Nat) : Int))))) = false), (0 = 0), (N = (List.length L)), (4 = 4), ((List.length L) ≤ 1099511627776)], ((SV.v (V1.c (It.slc 0 0 (List.length (trimF (List.map inF L))) 4))), [(En.sq (Sq.fr (List.map outF (trimF (List.map inF L)))))]))) := by kernel_rfl
theorem zeR (n : Int) : fnRes envQ3 Try.f40 3000 [.v (.c (.int .i64 n))] [] [64] [] = (Option.some ([((0 : Int) ≤ (IntKind.wrap IntKind.i64 (n + (1 : Int)))), ((IntKind.wrap IntKind.i64 (n + (1 : Int))) = (IntKind.wrap IntKind.i64 (n + (1 : Int)))), (((32 : Int) * (IntKind.wrap IntKind.i64 (n + (1 : Int)))) ≤ (281474976710656 : Int)), ((IntKind.wrap IntKind.i64 (n + (1 : Int))) ≤ (9223372036854775807 : Int)), ((-(1 : Int)) = (-(1 : Int))), ((0 : Int) ≤ (0 : Int)), ((0 : Int) < ((((IntKind.wrap IntKind.i64 (n + (1 : Int)))).toNat : Nat) : Int)), (0 = 0), (0 < (List.length (List.replicate ((IntKind.wrap IntKind.i64 (n + (1 : Int)))).toNat (0 : U4)))), ((0 : Int) ≤ n), (n < ((((IntKind.wrap IntKind.i64 (n + (1 : Int)))).toNat : Nat) : Int)), (0 = 0), ((n).toNat < (List.length (List.set (List.replicate ((IntKind.wrap IntKind.i64 (n + (1 : Int)))).toNat (0 : U4)) 0 (outF ((0 : Fr) - (1 : Fr)))))), ((0 : Int) ≤ (1 : Int)), ((1 : Int) < (18446744073709551616 : Int)), ((0 : Int) ≤ (0 : Int)), ((0 : Int) < (18446744073709551616 : Int)), ((0 : Int) ≤ (0 : Int)), ((0 : Int) < (18446744073709551616 : Int)), ((0 : Int) ≤ (0 : Int)), ((0 : Int) < (18446744073709551616 : Int)), ((0 : Int) ≤ n), (n < ((((IntKind.wrap IntKind.i64 (n + (1 : Int)))).toNat : Nat) : Int)), (0 = 0), ((n).toNat < (List.length (List.set (List.replicate ((IntKind.wrap IntKind.i64 (n + (1 : Int)))).toNat (0 : U4)) 0 (outF ((0 : Fr) - (1 : Fr))))))], ((SV.v (V1.c (It.slc 0 0 ((IntKind.wrap IntKind.i64 (n + (1 : Int)))).toNat 4))), [(En.sq (Sq.fr (List.set (List.set (List.replicate ((IntKind.wrap IntKind.i64 (n + (1 : Int)))).toNat (0 : U4)) 0 (outF ((0 : Fr) - (1 : Fr)))) (n).toNat (cleanU ((List.getD (List.set (List.replicate ((IntKind.wrap IntKind.i64 (n + (1 : Int)))).toNat (0 : U4)) 0 (outF ((0 : Fr) - (1 : Fr)))) (n).toNat (0 : U4)) + (Fin.ofNat B4 1))))))]))) := by kernel_rfl
noncomputable def blIn_k : List KI := (run envQ3 false 3000 ((fun (a : List U4) (z : U4) => (⟨[.code (bodyOf Try.f30)], .normal, initSt Try.f30.ntmps [.v (.c (.sl (.fr a))), .v (.a [.ob (.fr z)])]⟩ : Cfg)) default default) [false]).cfg.k
theorem blIn_at (a : List U4) (z : U4) : runAt envQ3 false 3000 ((⟨[.code (bodyOf Try.f30)], .normal, initSt Try.f30.ntmps [.v (.c (.sl (.fr a))), .v (.a [.ob (.fr z)])]⟩ : Cfg)) [false] [5, 7, 8, 9, 10] [48, 144, 192, 240] [] = some ⟨[(0 = 0), (1 = 1), (1 = 1), ((longB [a]) = false), ((List.length a) ≤ 8796093022208)], Exit.normal, [(SV.v (V1.c (It.ptr 48 0))), (SV.v (V1.c (It.slc 144 0 (List.length a) 4))), (SV.v (V1.c (It.ptr 192 0))), (SV.v (V1.c (It.ptr 240 0))), (SV.v (V1.c (It.int IntKind.i64 (IntKind.wrap IntKind.i64 ((((List.length a) : Nat) : Int) - (1 : Int))))))], [(Option.some (En.fl [(It.ob (Ob.fr (0 : U4)))])), (Option.some (En.sq (Sq.s (List.map inF a)))), (Option.some (En.fl [(It.ob (Ob.s (inF z)))])), (Option.some (En.fl [(It.ob (Ob.s (0 : Fr)))]))], 44, 320, []⟩ := by kernel_rfl
theorem blIn_hk (a : List U4) (z : U4) : (run envQ3 false 3000 ((⟨[.code (bodyOf Try.f30)], .normal, initSt Try.f30.ntmps [.v (.c (.sl (.fr a))), .v (.a [.ob (.fr z)])]⟩ : Cfg)) [false]).cfg.k = blIn_k := by kernel_rfl
theorem blIn (a : List U4) (z : U4) {w0 : World} {F0 : Nat → Prop} {K : Kp} {ac : List Act} {Q : Exit → Act → World → Prop} {cX : Ctx} {aX : Act} (ho : AllP [(0 = 0), (1 = 1), (1 = 1), ((longB [a]) = false), ((List.length a) ≤ 8796093022208)]) (hs : Sim w0 F0 K ac (initSt Try.f30.ntmps [.v (.c (.sl (.fr a))), .v (.a [.ob (.fr z)])]) cX aX) (hK : ∀ ac cY aY, Sim w0 F0 K ac (mkSt 44 [5, 7, 8, 9, 10] [(SV.v (V1.c (It.ptr 48 0))), (SV.v (V1.c (It.slc 144 0 (List.length a) 4))), (SV.v (V1.c (It.ptr 192 0))), (SV.v (V1.c (It.ptr 240 0))), (SV.v (V1.c (It.int IntKind.i64 (IntKind.wrap IntKind.i64 ((((List.length a) : Nat) : Int) - (1 : Int))))))] [48, 144, 192, 240] [(Option.some (En.fl [(It.ob (Ob.fr (0 : U4)))])), (Option.some (En.sq (Sq.s (List.map inF a)))), (Option.some (En.fl [(It.ob (Ob.s (inF z)))])), (Option.some (En.fl [(It.ob (Ob.s (0 : Fr)))]))] 320 [] []) cY aY → Wq Try.prog Q (blIn_k) ac Exit.normal aY cY.w) : Wq Try.prog Q ([.code (bodyOf Try.f30)]) ac .normal aX cX.w :=
  run_at2 envQ3_ok (blIn_at a z) (blIn_hk a z) ho hs hK
noncomputable def blS (l : List Fr) (z w : Fr) (N : Nat) (i : Int) : St := mkSt 44 [5, 7, 8, 9, 10] [(SV.v (V1.c (It.ptr 48 0))), .v (.c (.slc 144 0 N 4)), (SV.v (V1.c (It.ptr 192 0))), (SV.v (V1.c (It.ptr 240 0))), .v (.c (.int .i64 i))] [48, 144, 192, 240] [(Option.some (En.fl [(It.ob (Ob.fr (0 : U4)))])), some (.sq (.s l)), some (.fl [.ob (.s z)]), some (.fl [.ob (.s w)])] 320 [] []
theorem blN_at (l : List Fr) (z w : Fr) (N : Nat) (i : Int) : runAt envQ3 false 3000 ((⟨lpIn blIn_k, .normal, blS l z w N i⟩ : Cfg)) [true] [5, 7, 8, 9, 10] [48, 144, 192, 240] [] = some ⟨[((decide (i ≥ (0 : Int))) = true), ((0 : Int) ≤ i), (i < ((N : Nat) : Int)), (0 = 0), ((i).toNat < (List.length l)), ((0 : Int) ≤ i), (i < ((N : Nat) : Int)), (0 = 0), ((i).toNat < (List.length l))], Exit.normal, [(SV.v (V1.c (It.ptr 48 0))), (SV.v (V1.c (It.slc 144 0 N 4))), (SV.v (V1.c (It.ptr 192 0))), (SV.v (V1.c (It.ptr 240 0))), (SV.v (V1.c (It.int IntKind.i64 (IntKind.wrap IntKind.i64 (i - (1 : Int))))))], [(Option.some (En.fl [(It.ob (Ob.fr (0 : U4)))])), (Option.some (En.sq (Sq.s (List.set l (i).toNat w)))), (Option.some (En.fl [(It.ob (Ob.s z))])), (Option.some (En.fl [(It.ob (Ob.s ((w * z) + (List.getD l (i).toNat (0 : Fr)))))]))], 44, 672, []⟩ := by kernel_rfl
theorem blN_hk (l : List Fr) (z w : Fr) (N : Nat) (i : Int) : (run envQ3 false 3000 ((⟨lpIn blIn_k, .normal, blS l z w N i⟩ : Cfg)) [true]).cfg.k = lpBk blIn_k := by kernel_rfl
theorem blN (l : List Fr) (z w : Fr) (N : Nat) (i : Int) {w0 : World} {F0 : Nat → Prop} {K : Kp} {ac : List Act} {Q : Exit → Act → World → Prop} {cX : Ctx} {aX : Act} (ho : AllP [((decide (i ≥ (0 : Int))) = true), ((0 : Int) ≤ i), (i < ((N : Nat) : Int)), (0 = 0), ((i).toNat < (List.length l)), ((0 : Int) ≤ i), (i < ((N : Nat) : Int)), (0 = 0), ((i).toNat < (List.length l))]) (hs : Sim w0 F0 K ac (blS l z w N i) cX aX) (hK : ∀ ac cY aY, Sim w0 F0 K ac (mkSt 44 [5, 7, 8, 9, 10] [(SV.v (V1.c (It.ptr 48 0))), (SV.v (V1.c (It.slc 144 0 N 4))), (SV.v (V1.c (It.ptr 192 0))), (SV.v (V1.c (It.ptr 240 0))), (SV.v (V1.c (It.int IntKind.i64 (IntKind.wrap IntKind.i64 (i - (1 : Int))))))] [48, 144, 192, 240] [(Option.some (En.fl [(It.ob (Ob.fr (0 : U4)))])), (Option.some (En.sq (Sq.s (List.set l (i).toNat w)))), (Option.some (En.fl [(It.ob (Ob.s z))])), (Option.some (En.fl [(It.ob (Ob.s ((w * z) + (List.getD l (i).toNat (0 : Fr)))))]))] 672 [] []) cY aY → Wq Try.prog Q (lpBk blIn_k) ac Exit.normal aY cY.w) : Wq Try.prog Q (lpIn blIn_k) ac .normal aX cX.w :=
  run_at2 envQ3_ok (blN_at l z w N i) (blN_hk l z w N i) ho hs hK
theorem blX_end (l : List Fr) (z w : Fr) (N : Nat) (i : Int) : runEnd envQ3 Try.f30 false 3000 (⟨lpIn blIn_k, .normal, blS l z w N i⟩) [false] [368] [] = (Option.some ([((decide (i ≥ (0 : Int))) = false), (0 = 0), (N = (List.length l)), (4 = 4), ((List.length l) ≤ 8796093022208)], ((SV.t [(V1.c (It.slc 0 0 (List.length (trimF l)) 4)), (V1.a [(It.ob (Ob.fr (outF w)))]), (V1.c (It.int IntKind.i64 (0 : Int)))]), [(En.sq (Sq.fr (List.map outF (trimF l))))]))) := by kernel_rfl
theorem blA_end (a : List U4) (z : U4) : runEnd envQ3 Try.f30 false 3000 (⟨[.code (bodyOf Try.f30)], .normal, initSt Try.f30.ntmps [.v (.c (.sl (.fr a))), .v (.a [.ob (.fr z)])]⟩) [true] [] [] = (Option.some ([(0 = 0), (1 = 1), (1 = 1), ((longB [a]) = true)], ((SV.t [(V1.c (It.val (Value.slice Option.none 0 0))), (V1.a [(It.ob (Ob.fr (0 : U4)))]), (V1.c (It.int IntKind.i64 (2 : Int)))]), []))) := by kernel_rfl
noncomputable def bzIn_k : List KI := (run envQ3 false 3000 ((fun (a : List U4) (n : Int) => (⟨[.code (bodyOf Try.f38)], .normal, initSt Try.f38.ntmps [.v (.c (.sl (.fr a))), .v (.c (.int .i64 n))]⟩ : Cfg)) default default) [false, false, false]).cfg.k
theorem bzIn_at (a : List U4) (n : Int) : runAt envQ3 false 3000 ((⟨[.code (bodyOf Try.f38)], .normal, initSt Try.f38.ntmps [.v (.c (.sl (.fr a))), .v (.c (.int .i64 n))]⟩ : Cfg)) [false, false, false] [1, 7, 8] [256] [] = some ⟨[(0 = 0), (1 = 1), (1 = 1), ((longB [a]) = false), ((decide (n < (1 : Int))) = false), ((decide (n > (262144 : Int))) = false), ((List.length a) ≤ 8796093022208)], Exit.normal, [(SV.v (V1.c (It.int IntKind.i64 n))), (SV.v (V1.c (It.slc 256 0 (List.length a) 4))), (SV.v (V1.c (It.int IntKind.i64 (IntKind.wrap IntKind.i64 ((((List.length a) : Nat) : Int) - (1 : Int))))))], [(Option.some (En.sq (Sq.s (List.map inF a))))], 59, 352, []⟩ := by kernel_rfl
theorem bzIn_hk (a : List U4) (n : Int) : (run envQ3 false 3000 ((⟨[.code (bodyOf Try.f38)], .normal, initSt Try.f38.ntmps [.v (.c (.sl (.fr a))), .v (.c (.int .i64 n))]⟩ : Cfg)) [false, false, false]).cfg.k = bzIn_k := by kernel_rfl
theorem bzIn (a : List U4) (n : Int) {w0 : World} {F0 : Nat → Prop} {K : Kp} {ac : List Act} {Q : Exit → Act → World → Prop} {cX : Ctx} {aX : Act} (ho : AllP [(0 = 0), (1 = 1), (1 = 1), ((longB [a]) = false), ((decide (n < (1 : Int))) = false), ((decide (n > (262144 : Int))) = false), ((List.length a) ≤ 8796093022208)]) (hs : Sim w0 F0 K ac (initSt Try.f38.ntmps [.v (.c (.sl (.fr a))), .v (.c (.int .i64 n))]) cX aX) (hK : ∀ ac cY aY, Sim w0 F0 K ac (mkSt 59 [1, 7, 8] [(SV.v (V1.c (It.int IntKind.i64 n))), (SV.v (V1.c (It.slc 256 0 (List.length a) 4))), (SV.v (V1.c (It.int IntKind.i64 (IntKind.wrap IntKind.i64 ((((List.length a) : Nat) : Int) - (1 : Int))))))] [256] [(Option.some (En.sq (Sq.s (List.map inF a))))] 352 [] []) cY aY → Wq Try.prog Q (bzIn_k) ac Exit.normal aY cY.w) : Wq Try.prog Q ([.code (bodyOf Try.f38)]) ac .normal aX cX.w :=
  run_at2 envQ3_ok (bzIn_at a n) (bzIn_hk a n) ho hs hK
noncomputable def bzS (n : Int) (N : Nat) (L : List Fr) (i : Int) : St := mkSt 59 [1, 7, 8] [(SV.v (V1.c (It.int IntKind.i64 n))), .v (.c (.slc 256 0 N 4)), .v (.c (.int .i64 i))] [256] [some (.sq (.s L))] 352 [] []
theorem bzN_at (n : Int) (N : Nat) (L : List Fr) (i : Int) : runAt envQ3 false 3000 ((⟨lpIn bzIn_k, .normal, bzS n N L i⟩ : Cfg)) [true] [1, 7, 8] [256] [] = some ⟨[((decide (i ≥ n)) = true), ((0 : Int) ≤ (IntKind.wrap IntKind.i64 (i - n))), ((IntKind.wrap IntKind.i64 (i - n)) < ((N : Nat) : Int)), (0 = 0), (((IntKind.wrap IntKind.i64 (i - n))).toNat < (List.length L)), ((0 : Int) ≤ i), (i < ((N : Nat) : Int)), (0 = 0), ((i).toNat < (List.length L)), ((0 : Int) ≤ (IntKind.wrap IntKind.i64 (i - n))), ((IntKind.wrap IntKind.i64 (i - n)) < ((N : Nat) : Int)), (0 = 0), (((IntKind.wrap IntKind.i64 (i - n))).toNat < (List.length L))], Exit.normal, [(SV.v (V1.c (It.int IntKind.i64 n))), (SV.v (V1.c (It.slc 256 0 N 4))), (SV.v (V1.c (It.int IntKind.i64 (IntKind.wrap IntKind.i64 (i - (1 : Int))))))], [(Option.some (En.sq (Sq.s (List.set L ((IntKind.wrap IntKind.i64 (i - n))).toNat ((List.getD L ((IntKind.wrap IntKind.i64 (i - n))).toNat (0 : Fr)) + (List.getD L (i).toNat (0 : Fr)))))))], 59, 720, []⟩ := by kernel_rfl
theorem bzN_hk (n : Int) (N : Nat) (L : List Fr) (i : Int) : (run envQ3 false 3000 ((⟨lpIn bzIn_k, .normal, bzS n N L i⟩ : Cfg)) [true]).cfg.k = lpBk bzIn_k := by kernel_rfl
theorem bzN (n : Int) (N : Nat) (L : List Fr) (i : Int) {w0 : World} {F0 : Nat → Prop} {K : Kp} {ac : List Act} {Q : Exit → Act → World → Prop} {cX : Ctx} {aX : Act} (ho : AllP [((decide (i ≥ n)) = true), ((0 : Int) ≤ (IntKind.wrap IntKind.i64 (i - n))), ((IntKind.wrap IntKind.i64 (i - n)) < ((N : Nat) : Int)), (0 = 0), (((IntKind.wrap IntKind.i64 (i - n))).toNat < (List.length L)), ((0 : Int) ≤ i), (i < ((N : Nat) : Int)), (0 = 0), ((i).toNat < (List.length L)), ((0 : Int) ≤ (IntKind.wrap IntKind.i64 (i - n))), ((IntKind.wrap IntKind.i64 (i - n)) < ((N : Nat) : Int)), (0 = 0), (((IntKind.wrap IntKind.i64 (i - n))).toNat < (List.length L))]) (hs : Sim w0 F0 K ac (bzS n N L i) cX aX) (hK : ∀ ac cY aY, Sim w0 F0 K ac (mkSt 59 [1, 7, 8] [(SV.v (V1.c (It.int IntKind.i64 n))), (SV.v (V1.c (It.slc 256 0 N 4))), (SV.v (V1.c (It.int IntKind.i64 (IntKind.wrap IntKind.i64 (i - (1 : Int))))))] [256] [(Option.some (En.sq (Sq.s (List.set L ((IntKind.wrap IntKind.i64 (i - n))).toNat ((List.getD L ((IntKind.wrap IntKind.i64 (i - n))).toNat (0 : Fr)) + (List.getD L (i).toNat (0 : Fr)))))))] 720 [] []) cY aY → Wq Try.prog Q (lpBk bzIn_k) ac Exit.normal aY cY.w) : Wq Try.prog Q (lpIn bzIn_k) ac .normal aX cX.w :=
  run_at2 envQ3_ok (bzN_at n N L i) (bzN_hk n N L i) ho hs hK
theorem bzX_end (n : Int) (N : Nat) (L : List Fr) (i : Int) : runEnd envQ3 Try.f38 false 3000 (⟨lpIn bzIn_k, .normal, bzS n N L i⟩) [false] [528, 592] [] = (Option.some ([((decide (i ≥ n)) = false), (0 = 0), (4 = 4), ((0 : Int) ≤ (ite (((N : Nat) : Int) < n) ((N : Nat) : Int) n)), ((ite (((N : Nat) : Int) < n) ((N : Nat) : Int) n) ≤ ((N : Nat) : Int)), ((((ite (((N : Nat) : Int) < n) ((N : Nat) : Int) n)).toNat + (N - ((ite (((N : Nat) : Int) < n) ((N : Nat) : Int) n)).toNat)) ≤ (List.length L)), (4 = 4), ((List.length (List.take (N - ((ite (((N : Nat) : Int) < n) ((N : Nat) : Int) n)).toNat) (List.drop ((ite (((N : Nat) : Int) < n) ((N : Nat) : Int) n)).toNat L))) ≤ 8796093022208), (0 = 0), (4 = 4), ((0 : Int) ≤ (ite (((N : Nat) : Int) < n) ((N : Nat) : Int) n)), ((ite (((N : Nat) : Int) < n) ((N : Nat) : Int) n) ≤ ((N : Nat) : Int)), ((0 + ((ite (((N : Nat) : Int) < n) ((N : Nat) : Int) n)).toNat) ≤ (List.length L)), (4 = 4), ((List.length (List.take ((ite (((N : Nat) : Int) < n) ((N : Nat) : Int) n)).toNat (List.drop 0 L))) ≤ 8796093022208)], ((SV.t [(V1.c (It.slc 0 0 (List.length (trimF (List.take (N - ((ite (((N : Nat) : Int) < n) ((N : Nat) : Int) n)).toNat) (List.drop ((ite (((N : Nat) : Int) < n) ((N : Nat) : Int) n)).toNat L)))) 4)), (V1.c (It.slc 1 0 (List.length (trimF (List.take ((ite (((N : Nat) : Int) < n) ((N : Nat) : Int) n)).toNat (List.drop 0 L)))) 4)), (V1.c (It.int IntKind.i64 (0 : Int)))]), [(En.sq (Sq.fr (List.map outF (trimF (List.take (N - ((ite (((N : Nat) : Int) < n) ((N : Nat) : Int) n)).toNat) (List.drop ((ite (((N : Nat) : Int) < n) ((N : Nat) : Int) n)).toNat L)))))), (En.sq (Sq.fr (List.map outF (trimF (List.take ((ite (((N : Nat) : Int) < n) ((N : Nat) : Int) n)).toNat (List.drop 0 L))))))]))) := by kernel_rfl
theorem bzA_end (a : List U4) (n : Int) : runEnd envQ3 Try.f38 false 3000 (⟨[.code (bodyOf Try.f38)], .normal, initSt Try.f38.ntmps [.v (.c (.sl (.fr a))), .v (.c (.int .i64 n))]⟩) [true] [] [] = (Option.some ([(0 = 0), (1 = 1), (1 = 1), ((longB [a]) = true)], ((SV.t [(V1.c (It.val (Value.slice Option.none 0 0))), (V1.c (It.val (Value.slice Option.none 0 0))), (V1.c (It.int IntKind.i64 (2 : Int)))]), []))) := by kernel_rfl
theorem bzB_end (a : List U4) (n : Int) : runEnd envQ3 Try.f38 false 3000 (⟨[.code (bodyOf Try.f38)], .normal, initSt Try.f38.ntmps [.v (.c (.sl (.fr a))), .v (.c (.int .i64 n))]⟩) [false, true] [] [] = (Option.some ([(0 = 0), (1 = 1), (1 = 1), ((longB [a]) = false), ((decide (n < (1 : Int))) = true)], ((SV.t [(V1.c (It.val (Value.slice Option.none 0 0))), (V1.c (It.val (Value.slice Option.none 0 0))), (V1.c (It.int IntKind.i64 (1 : Int)))]), []))) := by kernel_rfl
theorem bzC_end (a : List U4) (n : Int) : runEnd envQ3 Try.f38 false 3000 (⟨[.code (bodyOf Try.f38)], .normal, initSt Try.f38.ntmps [.v (.c (.sl (.fr a))), .v (.c (.int .i64 n))]⟩) [false, false, true] [] [] = (Option.some ([(0 = 0), (1 = 1), (1 = 1), ((longB [a]) = false), ((decide (n < (1 : Int))) = false), ((decide (n > (262144 : Int))) = true)], ((SV.t [(V1.c (It.val (Value.slice Option.none 0 0))), (V1.c (It.val (Value.slice Option.none 0 0))), (V1.c (It.int IntKind.i64 (1 : Int)))]), []))) := by kernel_rfl
end Go.Proofs.Ytlfllehomhcbfaa

/- Polynomials as rows of coefficients: trimming, sums, products, quotients. No conditions. -/
namespace Go.Proofs.Ytlfllehomhcbfaa

def cf (l : List Fr) (i : Nat) : Fr := l.getD i 0

theorem cf_out {l : List Fr} {i : Nat} (h : l.length ≤ i) : cf l i = 0 := by simp [cf, List.getD, h]

theorem trimN_zero (l : List Fr) : ∀ n i, trimN l n ≤ i → i < n → cf l i = 0
  | 0, i, _, h => by omega
  | n + 1, i, h1, h2 => by
    have e : trimN l (n + 1) = if l.getD n 0 = 0 then trimN l n else n + 1 := rfl
    rw [e] at h1
    split at h1
    · rename_i hz
      by_cases hi : i = n
      · subst hi; exact hz
      · exact trimN_zero l n i h1 (by omega)
    · omega

theorem trimN_last (l : List Fr) : ∀ n, trimN l n = 0 ∨ cf l (trimN l n - 1) ≠ 0
  | 0 => .inl rfl
  | n + 1 => by
    have e : trimN l (n + 1) = if l.getD n 0 = 0 then trimN l n else n + 1 := rfl
    rw [e]
    split
    · exact trimN_last l n
    · rename_i h; exact .inr h

theorem trim_zero (l : List Fr) (i : Nat) (h : trimN l l.length ≤ i) : cf l i = 0 := by
  by_cases hi : i < l.length
  · exact trimN_zero l _ i h hi
  · exact cf_out (by omega)

theorem cf_take (l : List Fr) (k i : Nat) : cf (l.take k) i = if i < k then cf l i else 0 := by
  unfold cf
  by_cases h : i < k
  · simp [List.getD, h]
  · simp [List.getD, List.getElem?_take, h]

theorem cf_drop (l : List Fr) (k i : Nat) : cf (l.drop k) i = cf l (i + k) := by
  unfold cf
  simp [List.getD, Nat.add_comm]

theorem trim_cf (l : List Fr) (i : Nat) : cf (trimF l) i = cf l i := by
  unfold trimF
  rw [cf_take]
  split
  · rfl
  · rw [trim_zero l i (by omega)]

theorem trim_map (l : List Fr) : trimF l = (List.range (trimN l l.length)).map (cf l) := by
  have := range_take (fun x : Fr => x) l 0 (trimN_le l l.length)
  unfold trimF
  rw [List.map_id'] at this
  exact this.symm

theorem trim_ext {l l' : List Fr} (h : ∀ i, cf l i = cf l' i) : trimF l = trimF l' := by
  have e : trimN l l.length = trimN l' l'.length := by
    rcases Nat.lt_trichotomy (trimN l l.length) (trimN l' l'.length) with hlt | heq | hlt
    · exfalso
      rcases trimN_last l' l'.length with h0 | hne
      · omega
      · exact hne (by rw [← h, trim_zero l _ (by omega)])
    · exact heq
    · exfalso
      rcases trimN_last l l.length with h0 | hne
      · omega
      · exact hne (by rw [h, trim_zero l' _ (by omega)])
  rw [trim_map, trim_map, e]
  exact List.map_congr_left fun i _ => h i

theorem trim_trim (l : List Fr) : trimF (trimF l) = trimF l := trim_ext (trim_cf l)

theorem cf_range (f : Nat → Fr) (n i : Nat) (h : ∀ j, n ≤ j → f j = 0) : cf ((List.range n).map f) i = f i := by
  unfold cf
  by_cases hi : i < n
  · simp [List.getD, hi]
  · have : ((List.range n).map f).length ≤ i := by simp; omega
    simp [List.getD, hi, h i (by omega)]

/-! Sums. -/
def sumF (f : Nat → Fr) : Nat → Fr
  | 0 => 0
  | n + 1 => sumF f n + f n

theorem sumF_congr {f g : Nat → Fr} : ∀ {n : Nat}, (∀ i, i < n → f i = g i) → sumF f n = sumF g n
  | 0, _ => rfl
  | n + 1, h => by
    show sumF f n + f n = sumF g n + g n
    rw [sumF_congr fun i hi => h i (by omega), h n (by omega)]

theorem fr_zero_add (x : Fr) : 0 + x = x := Fin.zero_add x
theorem fr_add_zero (x : Fr) : x + 0 = x := Fin.add_zero x
theorem fr_mul_zero (x : Fr) : x * 0 = 0 := Fin.mul_zero x
theorem fr_zero_mul (x : Fr) : 0 * x = 0 := Fin.zero_mul x
theorem add_comm_r {r : Nat} [NeZero r] (x y : Fin r) : x + y = y + x := by grind
theorem fr_add_comm (x y : Fr) : x + y = y + x := add_comm_r x y
theorem fr_mul_one (x : Fr) : x * 1 = x := Fin.mul_one x

theorem sumF_zero {f : Nat → Fr} : ∀ {n : Nat}, (∀ i, i < n → f i = 0) → sumF f n = 0
  | 0, _ => rfl
  | n + 1, h => by
    show sumF f n + f n = 0
    rw [sumF_zero fun i hi => h i (by omega), h n (by omega)]
    exact fr_add_zero 0

theorem sumF_one {f : Nat → Fr} (j : Nat) : ∀ {n : Nat}, j < n → (∀ i, i < n → i ≠ j → f i = 0) → sumF f n = f j
  | 0, h, _ => by omega
  | n + 1, hj, h => by
    show sumF f n + f n = f j
    by_cases e : n = j
    · subst e
      rw [sumF_zero fun i hi => h i (by omega) (by omega), fr_zero_add]
    · rw [sumF_one j (by omega) fun i hi hne => h i (by omega) hne, h n (by omega) e, fr_add_zero]

/-- Coefficient i of a product. -/
def mulC (a b : List Fr) (i : Nat) : Fr := sumF (fun k => cf a k * cf b (i - k)) (i + 1)
def mulL (a b : List Fr) : List Fr := (List.range (a.length + b.length)).map (mulC a b)
def addL (a b : List Fr) : List Fr := (List.range (Nat.max a.length b.length)).map fun i => cf a i + cf b i

theorem mulL_cf (a b : List Fr) (i : Nat) : cf (mulL a b) i = mulC a b i := by
  refine cf_range _ _ _ fun j hj => sumF_zero fun k hk => ?_
  by_cases h : a.length ≤ k
  · rw [cf_out h, fr_zero_mul]
  · rw [cf_out (l := b) (by omega), fr_mul_zero]

theorem addL_cf (a b : List Fr) (i : Nat) : cf (addL a b) i = cf a i + cf b i := by
  refine cf_range (fun i => cf a i + cf b i) _ _ fun j hj => ?_
  have h1 := Nat.le_max_left a.length b.length
  have h2 := Nat.le_max_right a.length b.length
  have hj : max a.length b.length ≤ j := hj
  rw [cf_out (l := a) (by omega), cf_out (l := b) (by omega), fr_add_zero]

theorem mulC_congr {a a' b b' : List Fr} (ha : ∀ i, cf a i = cf a' i) (hb : ∀ i, cf b i = cf b' i) (i : Nat) : mulC a b i = mulC a' b' i :=
  sumF_congr fun k _ => by rw [ha, hb]

/-- A product with X^n + c. -/
theorem mulC_two (a b : List Fr) (c : Fr) (n : Nat) (hn : 0 < n) (h0 : cf b 0 = c) (h1 : cf b n = 1) (h : ∀ j, j ≠ 0 → j ≠ n → cf b j = 0) (i : Nat) : mulC a b i = cf a i * c + (if n ≤ i then cf a (i - n) else 0) := by
  show sumF (fun k => cf a k * cf b (i - k)) i + cf a i * cf b (i - i) = _
  rw [Nat.sub_self, h0]
  have e : sumF (fun k => cf a k * cf b (i - k)) i = if n ≤ i then cf a (i - n) else 0 := by
    split
    · rename_i hle
      rw [sumF_one (i - n) (by omega) fun k hk hne => by rw [h (i - k) (by omega) (by omega), fr_mul_zero]]
      rw [show i - (i - n) = n from by omega, h1, fr_mul_one]
    · exact sumF_zero fun k hk => by rw [h (i - k) (by omega) (by omega), fr_mul_zero]
  rw [e]
  exact fr_add_comm _ _

/-! The quotient by X - z. -/
def divL (z : Fr) : List Fr → List Fr × Fr
  | [] => ([], 0)
  | c :: l => ((divL z l).2 :: (divL z l).1, (divL z l).2 * z + c)

theorem divL_len (z : Fr) : ∀ l, (divL z l).1.length = l.length
  | [] => rfl
  | c :: l => by show (divL z l).1.length + 1 = l.length + 1; rw [divL_len z l]

theorem div_alg0 {r : Nat} [NeZero r] (q z c : Fin r) : q * (0 - z) + 0 + (q * z + c) = c := by grind
theorem div_alg1 {r : Nat} [NeZero r] (a b z c : Fin r) (h : a * (0 - z) + 0 + b = c) : a * (0 - z) + b + 0 = c := by grind

theorem divL_cf (z : Fr) : ∀ (l : List Fr) (i : Nat), cf (divL z l).1 i * (0 - z) + (if 1 ≤ i then cf (divL z l).1 (i - 1) else 0) + (if i = 0 then (divL z l).2 else 0) = cf l i
  | [], i => by
    have e : ∀ j, cf (divL z []).1 j = 0 := fun j => rfl
    have e2 : (divL z []).2 = 0 := rfl
    have e3 : cf [] i = 0 := rfl
    rw [e, e, e2, e3, fr_zero_mul]
    split <;> split <;> rfl
  | c :: l, 0 => by
    have e : cf (divL z (c :: l)).1 0 = (divL z l).2 := rfl
    rw [e, if_neg (by decide), if_pos rfl]
    exact div_alg0 _ _ _
  | c :: l, i + 1 => by
    have ih := divL_cf z l i
    have e : cf (divL z (c :: l)).1 (i + 1) = cf (divL z l).1 i := rfl
    have e2 : cf (c :: l) (i + 1) = cf l i := rfl
    rw [e, e2, if_pos (by omega), if_neg (by omega), Nat.add_sub_cancel]
    cases i with
    | zero =>
      rw [if_neg (by decide), if_pos rfl] at ih
      exact div_alg1 _ _ _ _ ih
    | succ j =>
      rw [if_pos (by omega), if_neg (by omega), Nat.add_sub_cancel] at ih
      exact ih

/-! The quotient by X^n - 1. -/
theorem fold_alg0 {r : Nat} [NeZero r] (x y l : Fin r) (h : x = l + y) : y * (0 - 1) + 0 + x = l := by grind
theorem fold_alg1 {r : Nat} [NeZero r] (x y l : Fin r) (h : x = l + y) : y * (0 - 1) + x + 0 = l := by grind

/-- What the rows of quotient and rest come from. -/
theorem fold_cf {n : Nat} (L l : List Fr) (hl : l.length = L.length) (h : ∀ j, cf l j = cf L j + cf l (j + n)) (i : Nat) :
    cf (l.drop (min n l.length)) i * (0 - 1) + (if n ≤ i then cf (l.drop (min n l.length)) (i - n) else 0) + cf (l.take (min n l.length)) i = cf L i := by
  have hU : ∀ j, cf (l.drop (min n l.length)) j = cf l (j + n) := by
    intro j
    rw [cf_drop]
    by_cases hc : n ≤ l.length
    · rw [Nat.min_eq_left hc]
    · rw [Nat.min_eq_right (by omega), cf_out (by omega), cf_out (by omega)]
  have hV : cf (l.take (min n l.length)) i = if i < n then cf l i else 0 := by
    rw [cf_take]
    by_cases hc : n ≤ l.length
    · rw [Nat.min_eq_left hc]
    · rw [Nat.min_eq_right (by omega)]
      by_cases hi : i < l.length
      · rw [if_pos hi, if_pos (by omega)]
      · rw [if_neg hi, cf_out (by omega)]
        split <;> rfl
  rw [hU, hV]
  by_cases hi : i < n
  · rw [if_neg (by omega), if_pos hi]
    exact fold_alg0 _ _ _ (h i)
  · rw [if_pos (by omega), if_neg hi, hU, show i - n + n = i from by omega]
    exact fold_alg1 _ _ _ (h i)

theorem cf_set (l : List Fr) (k : Nat) (x : Fr) (hk : k < l.length) (j : Nat) : cf (l.set k x) j = if j = k then x else cf l j := by
  unfold cf
  by_cases h : j = k
  · subst h; simp [List.getD, hk]
  · simp [List.getD, h, Ne.symm h]

/-- One step of the folding. -/
theorem fold_step {n : Nat} (hn : 0 < n) (L l : List Fr) {i : Nat} (hi : i < l.length) (hni : n ≤ i) (h : ∀ j, cf l j = cf L j + (if i < j + n then cf l (j + n) else 0)) (j : Nat) :
    cf (l.set (i - n) (cf l (i - n) + cf l i)) j = cf L j + (if i ≤ j + n then cf (l.set (i - n) (cf l (i - n) + cf l i)) (j + n) else 0) := by
  rw [cf_set _ _ _ (by omega), cf_set _ _ _ (by omega)]
  by_cases hj : j = i - n
  · subst hj
    rw [if_pos rfl, if_pos (by omega), if_neg (by omega), show i - n + n = i from by omega]
    have := h (i - n)
    rw [if_neg (by omega), fr_add_zero] at this
    rw [this]
  · rw [if_neg hj, h j]
    by_cases hc : i < j + n
    · rw [if_pos hc, if_pos (by omega), if_neg (by omega)]
    · rw [if_neg hc, if_neg (by omega)]

theorem fold_init {n : Nat} (L : List Fr) (j : Nat) : cf L j = cf L j + (if L.length ≤ j + n then cf L (j + n) else 0) := by
  split
  · rw [cf_out (i := j + n) (by omega), fr_add_zero]
  · rw [fr_add_zero]

end Go.Proofs.Ytlfllehomhcbfaa

/- The reference's sums, products, X^n - 1; the quotients: contracts. No conditions. -/
namespace Go.Proofs.Ytlfllehomhcbfaa

theorem map_in_out (l : List Fr) : (l.map outF).map inF = l := by
  rw [List.map_map]
  have e : (inF ∘ outF) = fun x : Fr => x := funext in_out
  rw [e, List.map_id']

theorem map_range_out (f : Nat → Fr) (n : Nat) : ((List.range n).map fun j => outF (f j)) = ((List.range n).map f).map outF := by
  rw [List.map_map]; rfl

theorem range_snoc {α : Type} (f : Nat → α) (i : Nat) : (List.range i).map f ++ [f i] = (List.range (i + 1)).map f := by simp [List.range_succ]

theorem refAdd_fnd (a b : List U4) (ha : a.length ≤ 1073741824) (hb : b.length ≤ 1073741824) : FnD Try.prog 33 [.v (.c (.sl (.fr a))), .v (.c (.sl (.fr b)))]
    (.v (.c (.slc 0 0 (trimF (addL (a.map inF) (b.map inF))).length 4))) [.sq (.fr ((trimF (addL (a.map inF) (b.map inF))).map outF))] := by
  refine fn_start (fn := Try.f33) (c := bodyOf Try.f33) Try.func33 rfl rfl fun x a0 hk hF hs => ?_
  refine adIn a b trivial hs fun ac cY aY hs1 => ?_
  have hm1 := Nat.le_max_left a.length b.length
  have hm2 := Nat.le_max_right a.length b.length
  have hm3 : max a.length b.length ≤ 1073741824 := Nat.max_le.2 ⟨ha, hb⟩
  have hm4 : max a.length b.length = a.length ∨ max a.length b.length = b.length := by omega
  generalize hM : max a.length b.length = M at hm1 hm2 hm3 hm4
  have hR : addL (a.map inF) (b.map inF) = (List.range M).map fun i => cf (a.map inF) i + cf (b.map inF) i := by
    unfold addL
    rw [List.length_map, List.length_map]
    show List.map _ (List.range (max a.length b.length)) = _
    rw [hM]
  refine loop_rule (ι := { i : Nat // i ≤ M }) (fun i => adS a b i.1 ((List.range i.1).map fun j => outF (cf (a.map inF) j + cf (b.map inF) j)) i.1) (fun i => M - i.1) (c := lpC adIn_k) (k := lpR adIn_k) (by kernel_rfl) (fun i ih ac cY aY hs => ?_) ⟨0, Nat.zero_le _⟩ hs1
  obtain ⟨i, hi⟩ := i
  simp only at ih hs
  have hl : ((List.range i).map fun j => outF (cf (a.map inF) j + cf (b.map inF) j)).length = i := by simp
  have hnx : cleanU (outF ((a.map inF).getD i 0) + outF ((b.map inF).getD i 0)) = outF (cf (a.map inF) i + cf (b.map inF) i) := addU_out _ _
  by_cases h1 : i < a.length
  · refine adM a b i _ i ⟨by simp [h1], by omega, by omega, by rw [hl]; omega, by rw [hl]; unfold maxLen; omega, hl.symm, rfl, trivial⟩ hs fun ac cY aY hs2 => ?_
    rw [hl, Int.toNat_natCast, hnx, range_snoc (fun j => outF (cf (a.map inF) j + cf (b.map inF) j)), wrap_id (by omega) (by omega)] at hs2
    exact ih ⟨i + 1, by omega⟩ (by show M - (i + 1) < M - i; omega) ac cY aY (hs2.nx _)
  by_cases h2 : i < b.length
  · refine adN a b i _ i ⟨by simp [h1], by simp [h2], by omega, by omega, by rw [hl]; omega, by rw [hl]; unfold maxLen; omega, hl.symm, rfl, trivial⟩ hs fun ac cY aY hs2 => ?_
    rw [hl, Int.toNat_natCast, hnx, range_snoc (fun j => outF (cf (a.map inF) j + cf (b.map inF) j)), wrap_id (by omega) (by omega)] at hs2
    exact ih ⟨i + 1, by omega⟩ (by show M - (i + 1) < M - i; omega) ac cY aY (hs2.nx _)
  · have e : i = M := by omega
    rw [hR, ← e]
    have r := adX_end a b i ((List.range i).map fun j => outF (cf (a.map inF) j + cf (b.map inF) j)) i
    have e2 : ((List.range i).map fun j => outF (cf (a.map inF) j + cf (b.map inF) j)).map inF = (List.range i).map fun j => cf (a.map inF) j + cf (b.map inF) j := by rw [map_range_out, map_in_out]
    rw [e2] at r
    exact run_end2 envQ3_ok hk hF r ⟨by simp [h1], by simp [h2], rfl, hl.symm, rfl, by rw [hl]; omega, trivial⟩ (fun y v hd => hd) hs

theorem refMul_fnd (a b : List U4) (ha : a.length ≤ 1073741824) (hb : b.length ≤ 1073741824) : FnD Try.prog 34 [.v (.c (.sl (.fr a))), .v (.c (.sl (.fr b)))]
    (.v (.c (.slc 0 0 (trimF (mulL (a.map inF) (b.map inF))).length 4))) [.sq (.fr ((trimF (mulL (a.map inF) (b.map inF))).map outF))] := by
  refine fn_start (fn := Try.f34) (c := bodyOf Try.f34) Try.func34 rfl rfl fun x a0 hk hF hs => ?_
  refine mlIn a b trivial hs fun ac cY aY hs1 => ?_
  have hR : mulL (a.map inF) (b.map inF) = (List.range (a.length + b.length)).map (mulC (a.map inF) (b.map inF)) := by
    unfold mulL
    rw [List.length_map, List.length_map]
  have hw : IntKind.wrap IntKind.i64 ((a.length : Int) + (b.length : Int)) = ((a.length + b.length : Nat) : Int) := by rw [wrap_id (by omega) (by omega)]; omega
  refine loop_rule (ι := { i : Nat // i ≤ a.length + b.length }) (fun i => mlS a b i.1 ((List.range i.1).map fun j => outF (mulC (a.map inF) (b.map inF) j)) i.1) (fun i => a.length + b.length - i.1) (c := lpC mlIn_k) (k := lpR mlIn_k) (by kernel_rfl) (fun i ih ac cY aY hs => ?_) ⟨0, Nat.zero_le _⟩ hs1
  obtain ⟨i, hi⟩ := i
  simp only at ih hs
  have hl : ((List.range i).map fun j => outF (mulC (a.map inF) (b.map inF) j)).length = i := by simp
  by_cases h1 : i < a.length + b.length
  · refine mlI a b i _ i ⟨by rw [hw]; simp only [decide_eq_true_eq]; omega, trivial⟩ hs fun ac cY aY hs2 => ?_
    have e0 : (0 : U4) = outF (sumF (fun k => cf (a.map inF) k * cf (b.map inF) (i - k)) 0) := ((outF_zero _).2 rfl).symm
    rw [e0] at hs2
    refine loop_rule (ι := { k : Nat // k ≤ i + 1 }) (fun k => mlT a b i ((List.range i).map fun j => outF (mulC (a.map inF) (b.map inF) j)) i (sumF (fun k => cf (a.map inF) k * cf (b.map inF) (i - k)) k.1) k.1) (fun k => i + 1 - k.1) (c := lpC mlI_k) (k := lpR mlI_k) (by kernel_rfl) (fun k ih2 ac cY aY hs => ?_) ⟨0, Nat.zero_le _⟩ hs2
    obtain ⟨k, hk2⟩ := k
    simp only at ih2 hs
    have hs_ : sumF (fun k => cf (a.map inF) k * cf (b.map inF) (i - k)) (k + 1) = sumF (fun k => cf (a.map inF) k * cf (b.map inF) (i - k)) k + cf (a.map inF) k * cf (b.map inF) (i - k) := rfl
    by_cases hki : k ≤ i
    · have hwk : IntKind.wrap IntKind.i64 ((i : Int) - (k : Int)) = ((i - k : Nat) : Int) := by rw [wrap_id (by omega) (by omega)]; omega
      have hw1 : IntKind.wrap IntKind.i64 ((k : Int) + 1) = ((k + 1 : Nat) : Int) := by rw [wrap_id (by omega) (by omega)]; omega
      by_cases hka : k < a.length
      · by_cases hkb : i - k < b.length
        · refine mlA a b i _ i _ k (by rw [hwk]; exact ⟨by simp [hki], by simp [hka], by simp only [decide_eq_true_eq]; omega, by omega, by omega, outF_lt _, trivial⟩) hs fun ac cY aY hs3 => ?_
          rw [hwk, hw1, Int.toNat_natCast, Int.toNat_natCast, mulU_out, addU_out] at hs3
          refine ih2 ⟨k + 1, by omega⟩ (by show i + 1 - (k + 1) < i + 1 - k; omega) ac cY aY ?_
          simp only [hs_]
          exact hs3.nx _
        · refine mlB a b i _ i _ k (by rw [hwk]; exact ⟨by simp [hki], by simp [hka], by simp only [decide_eq_false_iff_not]; omega, trivial⟩) hs fun ac cY aY hs3 => ?_
          rw [hw1] at hs3
          refine ih2 ⟨k + 1, by omega⟩ (by show i + 1 - (k + 1) < i + 1 - k; omega) ac cY aY ?_
          simp only [hs_]
          rw [cf_out (l := b.map inF) (by rw [List.length_map]; omega), fr_mul_zero, fr_add_zero]
          exact hs3.nx _
      · refine mlC a b i _ i _ k ⟨by simp [hki], by simp only [decide_eq_false_iff_not]; omega, trivial⟩ hs fun ac cY aY hs3 => ?_
        rw [hw1] at hs3
        refine ih2 ⟨k + 1, by omega⟩ (by show i + 1 - (k + 1) < i + 1 - k; omega) ac cY aY ?_
        simp only [hs_]
        rw [cf_out (l := a.map inF) (by rw [List.length_map]; omega), fr_zero_mul, fr_add_zero]
        exact hs3.nx _
    · have e : k = i + 1 := by omega
      refine mlE a b i _ i _ k ⟨by simp only [decide_eq_false_iff_not]; omega, by rw [hl]; omega, by rw [hl]; unfold maxLen; omega, hl.symm, rfl, trivial⟩ hs fun ac cY aY hs3 => ?_
      have e4 : outF (sumF (fun k => cf (a.map inF) k * cf (b.map inF) (i - k)) k) = outF (mulC (a.map inF) (b.map inF) i) := by rw [e]; rfl
      rw [hl, e4, range_snoc (fun j => outF (mulC (a.map inF) (b.map inF) j)), wrap_id (by omega) (by omega)] at hs3
      exact ih ⟨i + 1, by omega⟩ (by show a.length + b.length - (i + 1) < a.length + b.length - i; omega) ac cY aY (hs3.nx _)
  · have e : i = a.length + b.length := by omega
    rw [hR, ← e]
    have r := mlX_end a b i ((List.range i).map fun j => outF (mulC (a.map inF) (b.map inF) j)) i
    have e2 : ((List.range i).map fun j => outF (mulC (a.map inF) (b.map inF) j)).map inF = (List.range i).map (mulC (a.map inF) (b.map inF)) := by rw [map_range_out, map_in_out]
    rw [e2] at r
    exact run_end2 envQ3_ok hk hF r ⟨by rw [hw]; simp only [decide_eq_false_iff_not]; omega, rfl, hl.symm, rfl, by rw [hl]; omega, trivial⟩ (fun y v hd => hd) hs

/-- X^n - 1. -/
def zeroL (n : Nat) : List Fr := ((List.replicate (n + 1) 0).set 0 (0 - 1)).set n 1

theorem set0_getD (w : U4) (n : Nat) (h : 1 ≤ n) : ((List.replicate (n + 1) (0 : U4)).set 0 w).getD n 0 = 0 := by
  simp [List.getD, show ¬ 0 = n from by omega]

theorem zero_fnd (n : Nat) (h1 : 1 ≤ n) (h2 : n ≤ 1073741824) : FnD Try.prog 40 [.v (.c (.int .i64 (n : Int)))] (.v (.c (.slc 0 0 (n + 1) 4))) [.sq (.fr ((zeroL n).map outF))] := by
  have r := zeR n
  have hw : IntKind.wrap IntKind.i64 ((n : Int) + 1) = ((n + 1 : Nat) : Int) := by rw [wrap_id (by omega) (by omega)]; omega
  have hz : outF (0 : Fr) = 0 := (outF_zero _).2 rfl
  have e : ((List.replicate (n + 1) (0 : U4)).set 0 (outF (0 - 1))).set n (cleanU (((List.replicate (n + 1) (0 : U4)).set 0 (outF (0 - 1))).getD n 0 + Fin.ofNat B4 1)) = (zeroL n).map outF := by
    have hg := set0_getD (outF (0 - 1)) n h1
    have e1 : cleanU (outF 0 + Fin.ofNat B4 1) = outF 1 := by rw [← out_one1, addU_out, fr_zero_add]
    rw [hz] at e1
    rw [hg, e1]
    unfold zeroL
    rw [List.map_set, List.map_set, List.map_replicate, hz]
  rw [hw, Int.toNat_natCast, Int.toNat_natCast, e] at r
  clear e hz hw
  refine fn_sound envQ3_ok Try.func40 r ?_
  clear r
  have hlen : n < (((List.replicate (n + 1) (0 : U4)).set 0 (outF (0 - 1)))).length := by rw [List.length_set, List.length_replicate]; omega
  have hlen0 : 0 < (List.replicate (n + 1) (0 : U4)).length := by rw [List.length_replicate]; omega
  refine ⟨by omega, rfl, by omega, by omega, rfl, by omega, by omega, rfl, hlen0, by omega, by omega, rfl, hlen, by omega, by omega, by omega, by omega, by omega, by omega, by omega, by omega, by omega, by omega, rfl, hlen, trivial⟩

theorem divL_idx (z : Fr) (L : List Fr) (m : Nat) (h : m < L.length) : divL z (L.drop m) = ((divL z (L.drop (m + 1))).2 :: (divL z (L.drop (m + 1))).1, (divL z (L.drop (m + 1))).2 * z + L.getD m 0) := by
  rw [List.drop_eq_getElem_cons h]
  have e : L.getD m 0 = L[m] := by simp [List.getD, h]
  rw [e]
  rfl

theorem byLinear_fnd (a : List U4) (z : U4) (ha : a.length ≤ 262144) : FnD Try.prog 30 [.v (.c (.sl (.fr a))), .v (.a [.ob (.fr z)])]
    (.t [.c (.slc 0 0 (trimF (divL (inF z) (a.map inF)).1).length 4), .a [.ob (.fr (outF (divL (inF z) (a.map inF)).2))], .c (.int .i64 0)]) [.sq (.fr ((trimF (divL (inF z) (a.map inF)).1).map outF))] := by
  refine fn_start (fn := Try.f30) (c := bodyOf Try.f30) Try.func30 rfl rfl fun x a0 hk hF hs => ?_
  have hlong : longB [a] = false := by simp [longB]; omega
  refine blIn a z ⟨rfl, rfl, rfl, hlong, by omega, trivial⟩ hs fun ac cY aY hs1 => ?_
  rw [wrap_id (by omega) (by omega)] at hs1
  have hlen : (a.map inF).length = a.length := List.length_map ..
  generalize a.map inF = L at hs1 hlen ⊢
  rw [← hlen] at hs1
  have hla : L.length ≤ 262144 := by omega
  clear hlen hlong ha
  refine loop_rule (ι := { m : Nat // m ≤ L.length }) (fun m => blS (L.take m.1 ++ (divL (inF z) (L.drop m.1)).1) (inF z) (divL (inF z) (L.drop m.1)).2 L.length ((m.1 : Int) - 1)) (fun m => m.1) (c := lpC blIn_k) (k := lpR blIn_k) (by kernel_rfl) (fun m ih ac cY aY hs => ?_)
    ⟨L.length, Nat.le_refl _⟩ (by simp only [List.take_length, List.drop_length]; show Sim _ _ _ _ (blS (L ++ []) (inF z) 0 L.length ((L.length : Int) - 1)) cY aY; rw [List.append_nil]; exact hs1.nx _)
  obtain ⟨m, hm⟩ := m
  simp only at ih hs
  have hll : (L.take m ++ (divL (inF z) (L.drop m)).1).length = L.length := by rw [List.length_append, divL_len, List.length_take, List.length_drop]; omega
  cases m with
  | zero =>
    rw [List.take_zero, List.nil_append, List.drop_zero] at hs hll
    refine run_end2 envQ3_ok hk hF (blX_end _ _ _ _ _) ⟨by simp only [decide_eq_false_iff_not]; omega, rfl, hll.symm, rfl, by omega, trivial⟩ (fun y v hd => hd) hs
  | succ m =>
    have hmi : ((m + 1 : Nat) : Int) - 1 = (m : Int) := by omega
    rw [hmi] at hs
    refine blN _ _ _ _ _ ⟨by simp only [decide_eq_true_eq]; omega, by omega, by omega, rfl, by omega, by omega, by omega, rfl, by omega, trivial⟩ hs fun ac cY aY hs2 => ?_
    rw [wrap_id (by omega) (by omega), Int.toNat_natCast] at hs2
    have hg : (L.take (m + 1) ++ (divL (inF z) (L.drop (m + 1))).1).getD m 0 = L.getD m 0 := by
      have h1 : m < (L.take (m + 1)).length := by rw [List.length_take]; omega
      unfold List.getD
      rw [List.getElem?_append_left h1, List.getElem?_take_of_lt (Nat.lt_succ_self m)]
    have hset : (L.take (m + 1) ++ (divL (inF z) (L.drop (m + 1))).1).set m (divL (inF z) (L.drop (m + 1))).2 = L.take m ++ (divL (inF z) (L.drop m)).1 := by
      rw [divL_idx _ _ _ (show m < L.length from by omega), List.take_succ_eq_append_getElem (show m < L.length from by omega), List.append_assoc, List.set_append_right _ _ (by rw [List.length_take]; omega)]
      rw [List.length_take, Nat.min_eq_left (by omega), Nat.sub_self]
      rfl
    have hw2 : (divL (inF z) (L.drop m)).2 = (divL (inF z) (L.drop (m + 1))).2 * inF z + L.getD m 0 := by rw [divL_idx _ _ _ (show m < L.length from by omega)]
    rw [hg, hset, ← hw2] at hs2
    exact ih ⟨m, by omega⟩ (Nat.lt_succ_self m) ac cY aY (hs2.nx _)

end Go.Proofs.Ytlfllehomhcbfaa

/- The quotient by X^n - 1: contract; PolyDivides, walked. No conditions. -/
namespace Go.Proofs.Ytlfllehomhcbfaa

def foldI (n : Nat) : Nat → List Fr → List Fr
  | 0, l => l
  | i + 1, l => if n ≤ i then foldI n i (l.set (i - n) (cf l (i - n) + cf l i)) else l

theorem foldI_len (n : Nat) : ∀ i l, (foldI n i l).length = l.length
  | 0, _ => rfl
  | i + 1, l => by
    show (if n ≤ i then foldI n i (l.set (i - n) (cf l (i - n) + cf l i)) else l).length = _
    split
    · rw [foldI_len n i, List.length_set]
    · rfl

theorem foldI_cf {n : Nat} (hn : 0 < n) (L : List Fr) : ∀ (k : Nat) (l : List Fr), k ≤ l.length → (∀ j, cf l j = cf L j + (if k ≤ j + n then cf l (j + n) else 0)) → ∀ j, cf (foldI n k l) j = cf L j + cf (foldI n k l) (j + n)
  | 0, l, _, h, j => by
    have := h j
    rw [if_pos (Nat.zero_le _)] at this
    exact this
  | i + 1, l, hk, h, j => by
    have e : foldI n (i + 1) l = if n ≤ i then foldI n i (l.set (i - n) (cf l (i - n) + cf l i)) else l := rfl
    rw [e]
    by_cases hni : n ≤ i
    · rw [if_pos hni]
      refine foldI_cf hn L i _ (by rw [List.length_set]; omega) (fold_step hn L l (by omega) hni fun j => ?_) j
      have := h j
      exact this
    · rw [if_neg hni]
      have := h j
      rw [if_pos (by omega)] at this
      exact this

def zOk (n : Int) : Bool := decide (1 ≤ n) && decide (n ≤ 262144)
def bzF (a : List U4) (n : Int) : List Fr := foldI n.toNat a.length (a.map inF)
def bzU (a : List U4) (n : Int) : List U4 := if zOk n then (trimF ((bzF a n).drop (min n.toNat a.length))).map outF else []
def bzV (a : List U4) (n : Int) : List U4 := if zOk n then (trimF ((bzF a n).take (min n.toNat a.length))).map outF else []

theorem FnD.nil22 {P : Program} {f : Nat} {args : List SV} {c : V1} {es : Nat} {q q' : Sq} (h : FnD P f args (.t [.c (.val (.slice none 0 0)), .c (.val (.slice none 0 0)), c]) []) (hq : q.n = 0) (hq' : q'.n = 0) :
    FnD P f args (.t [.c (.slc 0 0 0 es), .c (.slc 1 0 0 es), c]) [.sq q, .sq q'] := by
  have h1 : FnD P f args (.t [.c (.slc 0 0 0 es), .c (.val (.slice none 0 0)), c]) [.sq q] :=
    h.nil (r' := .t [.c (.slc 0 0 0 es), .c (.val (.slice none 0 0)), c]) (q := q) hq fun y v hk ⟨vs, e, hd⟩ => by
      cases hd with | cons h1 hd => exact ⟨_, e, .cons (nil_slc hk h1) hd⟩
  exact h1.nil (r' := .t [.c (.slc 0 0 0 es), .c (.slc 1 0 0 es), c]) (q := q') hq' fun y v hk ⟨vs, e, hd⟩ => by
    cases hd with | cons h1 hd => cases hd with | cons h2 hd => exact ⟨_, e, .cons h1 (.cons (nil_slc hk h2) hd)⟩

theorem byZero_fnd (a : List U4) (n : Int) (ha : a.length ≤ 262144) : FnD Try.prog 38 [.v (.c (.sl (.fr a))), .v (.c (.int .i64 n))]
    (.t [.c (.slc 0 0 (bzU a n).length 4), .c (.slc 1 0 (bzV a n).length 4), .c (.int .i64 (if zOk n then 0 else 1))]) [.sq (.fr (bzU a n)), .sq (.fr (bzV a n))] := by
  have hlong : longB [a] = false := by simp [longB]; omega
  cases hz : zOk n with
  | false =>
    have eU : bzU a n = [] := by unfold bzU; rw [hz]; rfl
    have eV : bzV a n = [] := by unfold bzV; rw [hz]; rfl
    rw [eU, eV]
    refine FnD.nil22 ?_ rfl rfl
    have hz : ¬ (1 ≤ n ∧ n ≤ 262144) := by
      intro h
      have h2 : zOk n = true := by simp [zOk, h.1, h.2]
      rw [hz] at h2
      cases h2
    refine fn_start (fn := Try.f38) (c := bodyOf Try.f38) Try.func38 rfl rfl fun x a0 hk hF hs => ?_
    by_cases h1 : n < 1
    · exact run_end envQ3_ok hk hF (bzB_end a n) ⟨rfl, rfl, rfl, hlong, by simp [h1], trivial⟩ (fun y v hd => hd) hs
    · exact run_end envQ3_ok hk hF (bzC_end a n) ⟨rfl, rfl, rfl, hlong, by simp only [decide_eq_false_iff_not]; omega, by simp only [decide_eq_true_eq]; omega, trivial⟩ (fun y v hd => hd) hs
  | true =>
    have eU : bzU a n = (trimF ((bzF a n).drop (min n.toNat a.length))).map outF := by unfold bzU; rw [hz]; rfl
    have eV : bzV a n = (trimF ((bzF a n).take (min n.toNat a.length))).map outF := by unfold bzV; rw [hz]; rfl
    have hzz : 1 ≤ n ∧ n ≤ 262144 := by simpa [zOk] using hz
    rw [eU, eV, List.length_map, List.length_map]
    obtain ⟨m, rfl⟩ := Int.eq_ofNat_of_zero_le (show 0 ≤ n by omega)
    unfold bzF
    rw [Int.toNat_natCast]
    refine fn_start (fn := Try.f38) (c := bodyOf Try.f38) Try.func38 rfl rfl fun x a0 hk hF hs => ?_
    refine bzIn a m ⟨rfl, rfl, rfl, hlong, by simp only [decide_eq_false_iff_not]; omega, by simp only [decide_eq_false_iff_not]; omega, by omega, trivial⟩ hs fun ac cY aY hs1 => ?_
    rw [wrap_id (by omega) (by omega)] at hs1
    have hlen : (a.map inF).length = a.length := List.length_map ..
    generalize a.map inF = L at hs1 hlen ⊢
    rw [← hlen] at hs1 ⊢
    have hla : L.length ≤ 262144 := by omega
    have hm1 : 1 ≤ m := by omega
    clear hlen hlong ha hz eU eV hzz hs
    refine loop_rule (ι := { p : Nat × List Fr // p.1 ≤ L.length ∧ p.2.length = L.length ∧ foldI m p.1 p.2 = foldI m L.length L }) (fun p => bzS m L.length p.1.2 ((p.1.1 : Int) - 1)) (fun p => p.1.1) (c := lpC bzIn_k) (k := lpR bzIn_k) (by kernel_rfl) (fun p ih ac cY aY hs => ?_)
      ⟨(L.length, L), Nat.le_refl _, rfl, rfl⟩ hs1
    obtain ⟨⟨k, l⟩, hk1, hl1, hf1⟩ := p
    simp only at ih hs hk1 hl1 hf1
    by_cases hki : m + 1 ≤ k
    · obtain ⟨i, rfl⟩ : ∃ i, k = i + 1 := ⟨k - 1, by omega⟩
      have e1 : ((i + 1 : Nat) : Int) - 1 = (i : Int) := by omega
      have e2 : IntKind.wrap IntKind.i64 ((i : Int) - (m : Int)) = ((i - m : Nat) : Int) := by rw [wrap_id (by omega) (by omega)]; omega
      have e3 : IntKind.wrap IntKind.i64 ((i : Int) - 1) = (i : Int) - 1 := wrap_id (by omega) (by omega)
      rw [e1] at hs
      refine bzN m L.length l i (by rw [e2]; exact ⟨by simp only [decide_eq_true_eq]; omega, by omega, by omega, rfl, by omega, by omega, by omega, rfl, by omega, by omega, by omega, rfl, by omega, trivial⟩) hs fun ac cY aY hs2 => ?_
      rw [e2, e3, Int.toNat_natCast, Int.toNat_natCast] at hs2
      refine ih ⟨(i, l.set (i - m) (cf l (i - m) + cf l i)), by show i ≤ L.length; omega, by rw [List.length_set]; exact hl1, ?_⟩ (by show i < i + 1; omega) ac cY aY (hs2.nx _)
      rw [← hf1]
      show _ = if m ≤ i then foldI m i (l.set (i - m) (cf l (i - m) + cf l i)) else l
      rw [if_pos (by omega)]
    · have hfl : l = foldI m L.length L := by
        rw [← hf1]
        cases k with
        | zero => rfl
        | succ i =>
          show l = if m ≤ i then foldI m i (l.set (i - m) (cf l (i - m) + cf l i)) else l
          rw [if_neg (by omega)]
      have hmin : (if ((L.length : Nat) : Int) < (m : Int) then ((L.length : Nat) : Int) else (m : Int)).toNat = min m L.length := by
        split <;> omega
      have hmin2 : (0 : Int) ≤ (if ((L.length : Nat) : Int) < (m : Int) then ((L.length : Nat) : Int) else (m : Int)) ∧ (if ((L.length : Nat) : Int) < (m : Int) then ((L.length : Nat) : Int) else (m : Int)) ≤ ((L.length : Nat) : Int) := by
        split <;> omega
      have r := bzX_end m L.length l ((k : Int) - 1)
      have hd1 : ((l.drop (min m L.length)).take (L.length - min m L.length)) = l.drop (min m L.length) := by
        rw [List.take_of_length_le]
        rw [List.length_drop]; omega
      rw [hmin, List.drop_zero, hd1] at r
      rw [← hfl]
      have hdl : (l.drop (min m L.length)).length ≤ 262144 := by rw [List.length_drop]; omega
      have htl : (l.take (min m L.length)).length ≤ 262144 := by rw [List.length_take]; omega
      exact run_end2 envQ3_ok hk hF r ⟨by simp only [decide_eq_false_iff_not]; omega, rfl, rfl, hmin2.1, hmin2.2, by omega, rfl, by omega, rfl, rfl, hmin2.1, hmin2.2, by omega, rfl, by omega, trivial⟩ (fun y v hd => hd) hs

def refAddSpec : FnSpec
  | [.v (.c (.sl (.fr a))), .v (.c (.sl (.fr b)))] => some ([a.length ≤ 1073741824, b.length ≤ 1073741824], .v (.c (.slc 0 0 (trimF (addL (a.map inF) (b.map inF))).length 4)), [.sq (.fr ((trimF (addL (a.map inF) (b.map inF))).map outF))])
  | _ => none
noncomputable def envR1 : Env := envQ3.set (addT envQ3.fn 33 refAddSpec)
theorem envR1_ok : EnvOk Try.prog envR1 := env_add envQ3_ok 33 refAddSpec (enters_of Try.func33 rfl rfl) fun args o r es h ho => by
  unfold refAddSpec at h
  split at h
  · cases h; exact refAdd_fnd _ _ ho.1 ho.2.1
  · cases h
def refMulSpec : FnSpec
  | [.v (.c (.sl (.fr a))), .v (.c (.sl (.fr b)))] => some ([a.length ≤ 1073741824, b.length ≤ 1073741824], .v (.c (.slc 0 0 (trimF (mulL (a.map inF) (b.map inF))).length 4)), [.sq (.fr ((trimF (mulL (a.map inF) (b.map inF))).map outF))])
  | _ => none
noncomputable def envR2 : Env := envR1.set (addT envR1.fn 34 refMulSpec)
theorem envR2_ok : EnvOk Try.prog envR2 := env_add envR1_ok 34 refMulSpec (enters_of Try.func34 rfl rfl) fun args o r es h ho => by
  unfold refMulSpec at h
  split at h
  · cases h; exact refMul_fnd _ _ ho.1 ho.2.1
  · cases h
def zeroPSpec : FnSpec
  | [.v (.c (.int .i64 n))] => some ([1 ≤ n, n ≤ 1073741824], .v (.c (.slc 0 0 (n.toNat + 1) 4)), [.sq (.fr ((zeroL n.toNat).map outF))])
  | _ => none
noncomputable def envR3 : Env := envR2.set (addT envR2.fn 40 zeroPSpec)
theorem envR3_ok : EnvOk Try.prog envR3 := env_add envR2_ok 40 zeroPSpec (enters_of Try.func40 rfl rfl) fun args o r es h ho => by
  unfold zeroPSpec at h
  split at h
  · cases h; exact (by rename_i n; obtain ⟨m, rfl⟩ := Int.eq_ofNat_of_zero_le (show 0 ≤ n by have := ho.1; omega); exact zero_fnd m (by have := ho.1; omega) (by have := ho.2.1; omega))
  · cases h
def byLinearSpec : FnSpec
  | [.v (.c (.sl (.fr a))), .v (.a [.ob (.fr z)])] => some ([a.length ≤ 262144], .t [.c (.slc 0 0 (trimF (divL (inF z) (a.map inF)).1).length 4), .a [.ob (.fr (outF (divL (inF z) (a.map inF)).2))], .c (.int .i64 0)], [.sq (.fr ((trimF (divL (inF z) (a.map inF)).1).map outF))])
  | _ => none
noncomputable def envR4 : Env := envR3.set (addT envR3.fn 30 byLinearSpec)
theorem envR4_ok : EnvOk Try.prog envR4 := env_add envR3_ok 30 byLinearSpec (enters_of Try.func30 rfl rfl) fun args o r es h ho => by
  unfold byLinearSpec at h
  split at h
  · cases h; exact byLinear_fnd _ _ ho.1
  · cases h
def byZeroSpec : FnSpec
  | [.v (.c (.sl (.fr a))), .v (.c (.int .i64 n))] => some ([a.length ≤ 262144], .t [.c (.slc 0 0 (bzU a n).length 4), .c (.slc 1 0 (bzV a n).length 4), .c (.int .i64 (if zOk n then 0 else 1))], [.sq (.fr (bzU a n)), .sq (.fr (bzV a n))])
  | _ => none
noncomputable def envR5 : Env := envR4.set (addT envR4.fn 38 byZeroSpec)
theorem envR5_ok : EnvOk Try.prog envR5 := env_add envR4_ok 38 byZeroSpec (enters_of Try.func38 rfl rfl) fun args o r es h ho => by
  unfold byZeroSpec at h
  split at h
  · cases h; exact byZero_fnd _ _ ho.1
  · cases h
--@env envR5 envR5_ok
theorem al16  : fnRes envR5 Try.f39 3000 [] [true] [] [] = (Option.some ([((0 : Int) ≤ (3 : Int)), ((3 : Int) < (18446744073709551616 : Int)), ((0 : Int) ≤ (0 : Int)), ((0 : Int) < (18446744073709551616 : Int)), ((0 : Int) ≤ (0 : Int)), ((0 : Int) < (18446744073709551616 : Int)), ((0 : Int) ≤ (0 : Int)), ((0 : Int) < (18446744073709551616 : Int)), (0 = 0), (2 = 2), (4 = 4), (2 ≤ 8796093022208), (((1 : Int) == (1 : Int)) = true), ((0 : Int) ≤ (0 : Int)), ((0 : Int) < (1 : Int)), (0 = 0), (0 < 1), ((0 : Int) ≤ (3 : Int)), ((3 : Int) < (18446744073709551616 : Int)), ((0 : Int) ≤ (0 : Int)), ((0 : Int) < (18446744073709551616 : Int)), ((0 : Int) ≤ (0 : Int)), ((0 : Int) < (18446744073709551616 : Int)), ((0 : Int) ≤ (0 : Int)), ((0 : Int) < (18446744073709551616 : Int))], ((SV.v (V1.c (It.bool (ite (true = true) (decide ((List.getD (List.map outF (trimF (List.map inF ([(Fin.ofNat B4 3)] ++ [(0 : U4)])))) 0 (0 : U4)) = (Fin.ofNat B4 3))) (Bool.not (decide ((List.getD (List.map outF (trimF (List.map inF ([(Fin.ofNat B4 3)] ++ [(0 : U4)])))) 0 (0 : U4)) = (Fin.ofNat B4 3)))))))), []))) := by kernel_rfl

theorem alive39_fnd : FnD Try.prog 39 [] (.v (.c (.lit true))) [] := by
  have e : decide ((List.getD (List.map outF (trimF (List.map inF ([(Fin.ofNat B4 3)] ++ [(0 : U4)])))) 0 (0 : U4)) = (Fin.ofNat B4 3)) = true := by kernel_rfl
  refine (fn_sound envR5_ok Try.func39 al16 (by and_intros <;> first | trivial | decide)).conv (fun _ _ h => h) fun y v hd => ?_
  rw [if_pos rfl, e] at hd
  exact bool_lit hd

def true39Spec : FnSpec
  | [] => some ([], .v (.c (.lit true)), [])
  | _ => none
noncomputable def envR : Env := envR5.set (addT envR5.fn 39 true39Spec)
theorem envR_ok : EnvOk Try.prog envR := env_add envR5_ok 39 true39Spec (enters_of Try.func39 rfl rfl) fun args o r es h _ => by
  unfold true39Spec at h
  split at h
  · cases h; exact alive39_fnd
  · cases h
--@env envR envR_ok
theorem pdA (a : List U4) (z : U4) (n : Int) : fnRes envR Try.f5 3000 [.v (.c (.sl (.fr a))), .v (.a [.ob (.fr z)]), .v (.c (.int .i64 n))] [false, false, false, false, true, true, true] [] [] = (Option.some ([((List.length (List.take 40 a)) ≤ 262144), (0 < rN), ((Fin.val (cleanU z)) < rN), ((0 : Int) ≤ (1 : Int)), ((1 : Int) < (18446744073709551616 : Int)), ((0 : Int) ≤ (0 : Int)), ((0 : Int) < (18446744073709551616 : Int)), ((0 : Int) ≤ (0 : Int)), ((0 : Int) < (18446744073709551616 : Int)), ((0 : Int) ≤ (0 : Int)), ((0 : Int) < (18446744073709551616 : Int)), (((0 : Int) != (0 : Int)) = false), (0 = 0), ((List.length (trimF (Prod.fst (divL (inF z) (List.map inF (List.take 40 a)))))) = (List.length (List.map outF (trimF (Prod.fst (divL (inF z) (List.map inF (List.take 40 a)))))))), (4 = 4), (0 = 0), (2 = (List.length ([(outF ((inF (0 : U4)) - (inF (cleanU z))))] ++ [(Fin.ofNat B4 1)]))), (4 = 4), ((List.length (List.map outF (trimF (Prod.fst (divL (inF z) (List.map inF (List.take 40 a))))))) ≤ 1073741824), ((List.length ([(outF ((inF (0 : U4)) - (inF (cleanU z))))] ++ [(Fin.ofNat B4 1)])) ≤ 1073741824), (0 = 0), ((List.length (trimF (mulL (List.map inF (List.map outF (trimF (Prod.fst (divL (inF z) (List.map inF (List.take 40 a))))))) (List.map inF ([(outF ((inF (0 : U4)) - (inF (cleanU z))))] ++ [(Fin.ofNat B4 1)]))))) = (List.length (List.map outF (trimF (mulL (List.map inF (List.map outF (trimF (Prod.fst (divL (inF z) (List.map inF (List.take 40 a))))))) (List.map inF ([(outF ((inF (0 : U4)) - (inF (cleanU z))))] ++ [(Fin.ofNat B4 1)]))))))), (4 = 4), (0 = 0), (1 = 1), (4 = 4), ((List.length (List.map outF (trimF (mulL (List.map inF (List.map outF (trimF (Prod.fst (divL (inF z) (List.map inF (List.take 40 a))))))) (List.map inF ([(outF ((inF (0 : U4)) - (inF (cleanU z))))] ++ [(Fin.ofNat B4 1)])))))) ≤ 1073741824), (1 ≤ 1073741824), ((List.length (List.take 40 a)) ≤ 1099511627776), (0 = 0), ((List.length (trimF (addL (List.map inF (List.map outF (trimF (mulL (List.map inF (List.map outF (trimF (Prod.fst (divL (inF z) (List.map inF (List.take 40 a))))))) (List.map inF ([(outF ((inF (0 : U4)) - (inF (cleanU z))))] ++ [(Fin.ofNat B4 1)])))))) (List.map inF [(outF (Prod.snd (divL (inF z) (List.map inF (List.take 40 a)))))])))) = (List.length (List.map outF (trimF (addL (List.map inF (List.map outF (trimF (mulL (List.map inF (List.map outF (trimF (Prod.fst (divL (inF z) (List.map inF (List.take 40 a))))))) (List.map inF ([(outF ((inF (0 : U4)) - (inF (cleanU z))))] ++ [(Fin.ofNat B4 1)])))))) (List.map inF [(outF (Prod.snd (divL (inF z) (List.map inF (List.take 40 a)))))])))))), (4 = 4), (0 = 0), ((List.length (trimF (List.map inF (List.take 40 a)))) = (List.length (List.map outF (trimF (List.map inF (List.take 40 a)))))), (4 = 4), ((Bool.not (decide ((List.map outF (trimF (addL (List.map inF (List.map outF (trimF (mulL (List.map inF (List.map outF (trimF (Prod.fst (divL (inF z) (List.map inF (List.take 40 a))))))) (List.map inF ([(outF ((inF (0 : U4)) - (inF (cleanU z))))] ++ [(Fin.ofNat B4 1)])))))) (List.map inF [(outF (Prod.snd (divL (inF z) (List.map inF (List.take 40 a)))))])))) = (List.map outF (trimF (List.map inF (List.take 40 a))))))) = false), (0 = 0), ((List.length (trimF (Prod.fst (divL (inF z) (List.map inF (List.take 40 a)))))) = (List.length (List.map outF (trimF (Prod.fst (divL (inF z) (List.map inF (List.take 40 a)))))))), (4 = 4), ((List.length (List.map outF (trimF (Prod.fst (divL (inF z) (List.map inF (List.take 40 a))))))) ≤ 1099511627776), (0 = 0), ((List.length (trimF (Prod.fst (divL (inF z) (List.map inF (List.take 40 a)))))) = (List.length (List.map outF (trimF (Prod.fst (divL (inF z) (List.map inF (List.take 40 a)))))))), (4 = 4), (0 = 0), ((List.length (trimF (List.map inF (List.map outF (trimF (Prod.fst (divL (inF z) (List.map inF (List.take 40 a))))))))) = (List.length (List.map outF (trimF (List.map inF (List.map outF (trimF (Prod.fst (divL (inF z) (List.map inF (List.take 40 a))))))))))), (4 = 4), ((Bool.not (decide ((List.map outF (trimF (Prod.fst (divL (inF z) (List.map inF (List.take 40 a)))))) = (List.map outF (trimF (List.map inF (List.map outF (trimF (Prod.fst (divL (inF z) (List.map inF (List.take 40 a)))))))))))) = false), ((Bool.not (decide ((Fin.val (outF (Prod.snd (divL (inF z) (List.map inF (List.take 40 a)))))) < 52435875175126190479447740508185965837690552500527637822603658699938581184513))) = false), ((List.length (List.take 40 a)) ≤ 262144), ((decide (n < (1 : Int))) = true), (((ite ((zOk n) = true) (0 : Int) (1 : Int)) == (1 : Int)) = true)], ((SV.v (V1.c (It.bool ((IntKind.wrap IntKind.i64 ((((List.length (bzU (List.take 40 a) n)) : Nat) : Int) + (((List.length (bzV (List.take 40 a) n)) : Nat) : Int))) == (0 : Int))))), []))) := by kernel_rfl
theorem pdB (a : List U4) (z : U4) (n : Int) : fnRes envR Try.f5 3000 [.v (.c (.sl (.fr a))), .v (.a [.ob (.fr z)]), .v (.c (.int .i64 n))] [false, false, false, false, false, true, true, true] [] [] = (Option.some ([((List.length (List.take 40 a)) ≤ 262144), (0 < rN), ((Fin.val (cleanU z)) < rN), ((0 : Int) ≤ (1 : Int)), ((1 : Int) < (18446744073709551616 : Int)), ((0 : Int) ≤ (0 : Int)), ((0 : Int) < (18446744073709551616 : Int)), ((0 : Int) ≤ (0 : Int)), ((0 : Int) < (18446744073709551616 : Int)), ((0 : Int) ≤ (0 : Int)), ((0 : Int) < (18446744073709551616 : Int)), (((0 : Int) != (0 : Int)) = false), (0 = 0), ((List.length (trimF (Prod.fst (divL (inF z) (List.map inF (List.take 40 a)))))) = (List.length (List.map outF (trimF (Prod.fst (divL (inF z) (List.map inF (List.take 40 a)))))))), (4 = 4), (0 = 0), (2 = (List.length ([(outF ((inF (0 : U4)) - (inF (cleanU z))))] ++ [(Fin.ofNat B4 1)]))), (4 = 4), ((List.length (List.map outF (trimF (Prod.fst (divL (inF z) (List.map inF (List.take 40 a))))))) ≤ 1073741824), ((List.length ([(outF ((inF (0 : U4)) - (inF (cleanU z))))] ++ [(Fin.ofNat B4 1)])) ≤ 1073741824), (0 = 0), ((List.length (trimF (mulL (List.map inF (List.map outF (trimF (Prod.fst (divL (inF z) (List.map inF (List.take 40 a))))))) (List.map inF ([(outF ((inF (0 : U4)) - (inF (cleanU z))))] ++ [(Fin.ofNat B4 1)]))))) = (List.length (List.map outF (trimF (mulL (List.map inF (List.map outF (trimF (Prod.fst (divL (inF z) (List.map inF (List.take 40 a))))))) (List.map inF ([(outF ((inF (0 : U4)) - (inF (cleanU z))))] ++ [(Fin.ofNat B4 1)]))))))), (4 = 4), (0 = 0), (1 = 1), (4 = 4), ((List.length (List.map outF (trimF (mulL (List.map inF (List.map outF (trimF (Prod.fst (divL (inF z) (List.map inF (List.take 40 a))))))) (List.map inF ([(outF ((inF (0 : U4)) - (inF (cleanU z))))] ++ [(Fin.ofNat B4 1)])))))) ≤ 1073741824), (1 ≤ 1073741824), ((List.length (List.take 40 a)) ≤ 1099511627776), (0 = 0), ((List.length (trimF (addL (List.map inF (List.map outF (trimF (mulL (List.map inF (List.map outF (trimF (Prod.fst (divL (inF z) (List.map inF (List.take 40 a))))))) (List.map inF ([(outF ((inF (0 : U4)) - (inF (cleanU z))))] ++ [(Fin.ofNat B4 1)])))))) (List.map inF [(outF (Prod.snd (divL (inF z) (List.map inF (List.take 40 a)))))])))) = (List.length (List.map outF (trimF (addL (List.map inF (List.map outF (trimF (mulL (List.map inF (List.map outF (trimF (Prod.fst (divL (inF z) (List.map inF (List.take 40 a))))))) (List.map inF ([(outF ((inF (0 : U4)) - (inF (cleanU z))))] ++ [(Fin.ofNat B4 1)])))))) (List.map inF [(outF (Prod.snd (divL (inF z) (List.map inF (List.take 40 a)))))])))))), (4 = 4), (0 = 0), ((List.length (trimF (List.map inF (List.take 40 a)))) = (List.length (List.map outF (trimF (List.map inF (List.take 40 a)))))), (4 = 4), ((Bool.not (decide ((List.map outF (trimF (addL (List.map inF (List.map outF (trimF (mulL (List.map inF (List.map outF (trimF (Prod.fst (divL (inF z) (List.map inF (List.take 40 a))))))) (List.map inF ([(outF ((inF (0 : U4)) - (inF (cleanU z))))] ++ [(Fin.ofNat B4 1)])))))) (List.map inF [(outF (Prod.snd (divL (inF z) (List.map inF (List.take 40 a)))))])))) = (List.map outF (trimF (List.map inF (List.take 40 a))))))) = false), (0 = 0), ((List.length (trimF (Prod.fst (divL (inF z) (List.map inF (List.take 40 a)))))) = (List.length (List.map outF (trimF (Prod.fst (divL (inF z) (List.map inF (List.take 40 a)))))))), (4 = 4), ((List.length (List.map outF (trimF (Prod.fst (divL (inF z) (List.map inF (List.take 40 a))))))) ≤ 1099511627776), (0 = 0), ((List.length (trimF (Prod.fst (divL (inF z) (List.map inF (List.take 40 a)))))) = (List.length (List.map outF (trimF (Prod.fst (divL (inF z) (List.map inF (List.take 40 a)))))))), (4 = 4), (0 = 0), ((List.length (trimF (List.map inF (List.map outF (trimF (Prod.fst (divL (inF z) (List.map inF (List.take 40 a))))))))) = (List.length (List.map outF (trimF (List.map inF (List.map outF (trimF (Prod.fst (divL (inF z) (List.map inF (List.take 40 a))))))))))), (4 = 4), ((Bool.not (decide ((List.map outF (trimF (Prod.fst (divL (inF z) (List.map inF (List.take 40 a)))))) = (List.map outF (trimF (List.map inF (List.map outF (trimF (Prod.fst (divL (inF z) (List.map inF (List.take 40 a)))))))))))) = false), ((Bool.not (decide ((Fin.val (outF (Prod.snd (divL (inF z) (List.map inF (List.take 40 a)))))) < 52435875175126190479447740508185965837690552500527637822603658699938581184513))) = false), ((List.length (List.take 40 a)) ≤ 262144), ((decide (n < (1 : Int))) = false), ((decide (n > (262144 : Int))) = true), (((ite ((zOk n) = true) (0 : Int) (1 : Int)) == (1 : Int)) = true)], ((SV.v (V1.c (It.bool ((IntKind.wrap IntKind.i64 ((((List.length (bzU (List.take 40 a) n)) : Nat) : Int) + (((List.length (bzV (List.take 40 a) n)) : Nat) : Int))) == (0 : Int))))), []))) := by kernel_rfl
theorem pdC (a : List U4) (z : U4) (n : Int) : fnRes envR Try.f5 3000 [.v (.c (.sl (.fr a))), .v (.a [.ob (.fr z)]), .v (.c (.int .i64 n))] [false, false, false, false, false, false, true, true, true, true] [] [] = (Option.some ([((List.length (List.take 40 a)) ≤ 262144), (0 < rN), ((Fin.val (cleanU z)) < rN), ((0 : Int) ≤ (1 : Int)), ((1 : Int) < (18446744073709551616 : Int)), ((0 : Int) ≤ (0 : Int)), ((0 : Int) < (18446744073709551616 : Int)), ((0 : Int) ≤ (0 : Int)), ((0 : Int) < (18446744073709551616 : Int)), ((0 : Int) ≤ (0 : Int)), ((0 : Int) < (18446744073709551616 : Int)), (((0 : Int) != (0 : Int)) = false), (0 = 0), ((List.length (trimF (Prod.fst (divL (inF z) (List.map inF (List.take 40 a)))))) = (List.length (List.map outF (trimF (Prod.fst (divL (inF z) (List.map inF (List.take 40 a)))))))), (4 = 4), (0 = 0), (2 = (List.length ([(outF ((inF (0 : U4)) - (inF (cleanU z))))] ++ [(Fin.ofNat B4 1)]))), (4 = 4), ((List.length (List.map outF (trimF (Prod.fst (divL (inF z) (List.map inF (List.take 40 a))))))) ≤ 1073741824), ((List.length ([(outF ((inF (0 : U4)) - (inF (cleanU z))))] ++ [(Fin.ofNat B4 1)])) ≤ 1073741824), (0 = 0), ((List.length (trimF (mulL (List.map inF (List.map outF (trimF (Prod.fst (divL (inF z) (List.map inF (List.take 40 a))))))) (List.map inF ([(outF ((inF (0 : U4)) - (inF (cleanU z))))] ++ [(Fin.ofNat B4 1)]))))) = (List.length (List.map outF (trimF (mulL (List.map inF (List.map outF (trimF (Prod.fst (divL (inF z) (List.map inF (List.take 40 a))))))) (List.map inF ([(outF ((inF (0 : U4)) - (inF (cleanU z))))] ++ [(Fin.ofNat B4 1)]))))))), (4 = 4), (0 = 0), (1 = 1), (4 = 4), ((List.length (List.map outF (trimF (mulL (List.map inF (List.map outF (trimF (Prod.fst (divL (inF z) (List.map inF (List.take 40 a))))))) (List.map inF ([(outF ((inF (0 : U4)) - (inF (cleanU z))))] ++ [(Fin.ofNat B4 1)])))))) ≤ 1073741824), (1 ≤ 1073741824), ((List.length (List.take 40 a)) ≤ 1099511627776), (0 = 0), ((List.length (trimF (addL (List.map inF (List.map outF (trimF (mulL (List.map inF (List.map outF (trimF (Prod.fst (divL (inF z) (List.map inF (List.take 40 a))))))) (List.map inF ([(outF ((inF (0 : U4)) - (inF (cleanU z))))] ++ [(Fin.ofNat B4 1)])))))) (List.map inF [(outF (Prod.snd (divL (inF z) (List.map inF (List.take 40 a)))))])))) = (List.length (List.map outF (trimF (addL (List.map inF (List.map outF (trimF (mulL (List.map inF (List.map outF (trimF (Prod.fst (divL (inF z) (List.map inF (List.take 40 a))))))) (List.map inF ([(outF ((inF (0 : U4)) - (inF (cleanU z))))] ++ [(Fin.ofNat B4 1)])))))) (List.map inF [(outF (Prod.snd (divL (inF z) (List.map inF (List.take 40 a)))))])))))), (4 = 4), (0 = 0), ((List.length (trimF (List.map inF (List.take 40 a)))) = (List.length (List.map outF (trimF (List.map inF (List.take 40 a)))))), (4 = 4), ((Bool.not (decide ((List.map outF (trimF (addL (List.map inF (List.map outF (trimF (mulL (List.map inF (List.map outF (trimF (Prod.fst (divL (inF z) (List.map inF (List.take 40 a))))))) (List.map inF ([(outF ((inF (0 : U4)) - (inF (cleanU z))))] ++ [(Fin.ofNat B4 1)])))))) (List.map inF [(outF (Prod.snd (divL (inF z) (List.map inF (List.take 40 a)))))])))) = (List.map outF (trimF (List.map inF (List.take 40 a))))))) = false), (0 = 0), ((List.length (trimF (Prod.fst (divL (inF z) (List.map inF (List.take 40 a)))))) = (List.length (List.map outF (trimF (Prod.fst (divL (inF z) (List.map inF (List.take 40 a)))))))), (4 = 4), ((List.length (List.map outF (trimF (Prod.fst (divL (inF z) (List.map inF (List.take 40 a))))))) ≤ 1099511627776), (0 = 0), ((List.length (trimF (Prod.fst (divL (inF z) (List.map inF (List.take 40 a)))))) = (List.length (List.map outF (trimF (Prod.fst (divL (inF z) (List.map inF (List.take 40 a)))))))), (4 = 4), (0 = 0), ((List.length (trimF (List.map inF (List.map outF (trimF (Prod.fst (divL (inF z) (List.map inF (List.take 40 a))))))))) = (List.length (List.map outF (trimF (List.map inF (List.map outF (trimF (Prod.fst (divL (inF z) (List.map inF (List.take 40 a))))))))))), (4 = 4), ((Bool.not (decide ((List.map outF (trimF (Prod.fst (divL (inF z) (List.map inF (List.take 40 a)))))) = (List.map outF (trimF (List.map inF (List.map outF (trimF (Prod.fst (divL (inF z) (List.map inF (List.take 40 a)))))))))))) = false), ((Bool.not (decide ((Fin.val (outF (Prod.snd (divL (inF z) (List.map inF (List.take 40 a)))))) < 52435875175126190479447740508185965837690552500527637822603658699938581184513))) = false), ((List.length (List.take 40 a)) ≤ 262144), ((decide (n < (1 : Int))) = false), ((decide (n > (262144 : Int))) = false), ((decide (n > (60 : Int))) = true), (((ite ((zOk n) = true) (0 : Int) (1 : Int)) == (0 : Int)) = true), (((((List.length (bzU (List.take 40 a) n)) : Nat) : Int) == (0 : Int)) = true), ((List.length (List.take 40 a)) ≤ 1099511627776), (0 = 0), ((List.length (bzV (List.take 40 a) n)) = (List.length (bzV (List.take 40 a) n))), (4 = 4), (0 = 0), ((List.length (trimF (List.map inF (List.take 40 a)))) = (List.length (List.map outF (trimF (List.map inF (List.take 40 a)))))), (4 = 4)], ((SV.v (V1.c (It.bool (decide ((bzV (List.take 40 a) n) = (List.map outF (trimF (List.map inF (List.take 40 a))))))))), []))) := by kernel_rfl
theorem pdD (a : List U4) (z : U4) (n : Int) : fnRes envR Try.f5 3000 [.v (.c (.sl (.fr a))), .v (.a [.ob (.fr z)]), .v (.c (.int .i64 n))] [false, false, false, false, false, false, false, true, true, true, true, true] [] [] = (Option.some ([((List.length (List.take 40 a)) ≤ 262144), (0 < rN), ((Fin.val (cleanU z)) < rN), ((0 : Int) ≤ (1 : Int)), ((1 : Int) < (18446744073709551616 : Int)), ((0 : Int) ≤ (0 : Int)), ((0 : Int) < (18446744073709551616 : Int)), ((0 : Int) ≤ (0 : Int)), ((0 : Int) < (18446744073709551616 : Int)), ((0 : Int) ≤ (0 : Int)), ((0 : Int) < (18446744073709551616 : Int)), (((0 : Int) != (0 : Int)) = false), (0 = 0), ((List.length (trimF (Prod.fst (divL (inF z) (List.map inF (List.take 40 a)))))) = (List.length (List.map outF (trimF (Prod.fst (divL (inF z) (List.map inF (List.take 40 a)))))))), (4 = 4), (0 = 0), (2 = (List.length ([(outF ((inF (0 : U4)) - (inF (cleanU z))))] ++ [(Fin.ofNat B4 1)]))), (4 = 4), ((List.length (List.map outF (trimF (Prod.fst (divL (inF z) (List.map inF (List.take 40 a))))))) ≤ 1073741824), ((List.length ([(outF ((inF (0 : U4)) - (inF (cleanU z))))] ++ [(Fin.ofNat B4 1)])) ≤ 1073741824), (0 = 0), ((List.length (trimF (mulL (List.map inF (List.map outF (trimF (Prod.fst (divL (inF z) (List.map inF (List.take 40 a))))))) (List.map inF ([(outF ((inF (0 : U4)) - (inF (cleanU z))))] ++ [(Fin.ofNat B4 1)]))))) = (List.length (List.map outF (trimF (mulL (List.map inF (List.map outF (trimF (Prod.fst (divL (inF z) (List.map inF (List.take 40 a))))))) (List.map inF ([(outF ((inF (0 : U4)) - (inF (cleanU z))))] ++ [(Fin.ofNat B4 1)]))))))), (4 = 4), (0 = 0), (1 = 1), (4 = 4), ((List.length (List.map outF (trimF (mulL (List.map inF (List.map outF (trimF (Prod.fst (divL (inF z) (List.map inF (List.take 40 a))))))) (List.map inF ([(outF ((inF (0 : U4)) - (inF (cleanU z))))] ++ [(Fin.ofNat B4 1)])))))) ≤ 1073741824), (1 ≤ 1073741824), ((List.length (List.take 40 a)) ≤ 1099511627776), (0 = 0), ((List.length (trimF (addL (List.map inF (List.map outF (trimF (mulL (List.map inF (List.map outF (trimF (Prod.fst (divL (inF z) (List.map inF (List.take 40 a))))))) (List.map inF ([(outF ((inF (0 : U4)) - (inF (cleanU z))))] ++ [(Fin.ofNat B4 1)])))))) (List.map inF [(outF (Prod.snd (divL (inF z) (List.map inF (List.take 40 a)))))])))) = (List.length (List.map outF (trimF (addL (List.map inF (List.map outF (trimF (mulL (List.map inF (List.map outF (trimF (Prod.fst (divL (inF z) (List.map inF (List.take 40 a))))))) (List.map inF ([(outF ((inF (0 : U4)) - (inF (cleanU z))))] ++ [(Fin.ofNat B4 1)])))))) (List.map inF [(outF (Prod.snd (divL (inF z) (List.map inF (List.take 40 a)))))])))))), (4 = 4), (0 = 0), ((List.length (trimF (List.map inF (List.take 40 a)))) = (List.length (List.map outF (trimF (List.map inF (List.take 40 a)))))), (4 = 4), ((Bool.not (decide ((List.map outF (trimF (addL (List.map inF (List.map outF (trimF (mulL (List.map inF (List.map outF (trimF (Prod.fst (divL (inF z) (List.map inF (List.take 40 a))))))) (List.map inF ([(outF ((inF (0 : U4)) - (inF (cleanU z))))] ++ [(Fin.ofNat B4 1)])))))) (List.map inF [(outF (Prod.snd (divL (inF z) (List.map inF (List.take 40 a)))))])))) = (List.map outF (trimF (List.map inF (List.take 40 a))))))) = false), (0 = 0), ((List.length (trimF (Prod.fst (divL (inF z) (List.map inF (List.take 40 a)))))) = (List.length (List.map outF (trimF (Prod.fst (divL (inF z) (List.map inF (List.take 40 a)))))))), (4 = 4), ((List.length (List.map outF (trimF (Prod.fst (divL (inF z) (List.map inF (List.take 40 a))))))) ≤ 1099511627776), (0 = 0), ((List.length (trimF (Prod.fst (divL (inF z) (List.map inF (List.take 40 a)))))) = (List.length (List.map outF (trimF (Prod.fst (divL (inF z) (List.map inF (List.take 40 a)))))))), (4 = 4), (0 = 0), ((List.length (trimF (List.map inF (List.map outF (trimF (Prod.fst (divL (inF z) (List.map inF (List.take 40 a))))))))) = (List.length (List.map outF (trimF (List.map inF (List.map outF (trimF (Prod.fst (divL (inF z) (List.map inF (List.take 40 a))))))))))), (4 = 4), ((Bool.not (decide ((List.map outF (trimF (Prod.fst (divL (inF z) (List.map inF (List.take 40 a)))))) = (List.map outF (trimF (List.map inF (List.map outF (trimF (Prod.fst (divL (inF z) (List.map inF (List.take 40 a)))))))))))) = false), ((Bool.not (decide ((Fin.val (outF (Prod.snd (divL (inF z) (List.map inF (List.take 40 a)))))) < 52435875175126190479447740508185965837690552500527637822603658699938581184513))) = false), ((List.length (List.take 40 a)) ≤ 262144), ((decide (n < (1 : Int))) = false), ((decide (n > (262144 : Int))) = false), ((decide (n > (60 : Int))) = false), (((ite ((zOk n) = true) (0 : Int) (1 : Int)) == (0 : Int)) = true), ((decide ((((List.length (bzV (List.take 40 a) n)) : Nat) : Int) ≤ n)) = true), ((1 : Int) ≤ n), (n ≤ (1073741824 : Int)), (0 = 0), ((List.length (bzU (List.take 40 a) n)) = (List.length (bzU (List.take 40 a) n))), (4 = 4), (0 = 0), (((n).toNat + 1) = (List.length (List.map outF (zeroL (n).toNat)))), (4 = 4), ((List.length (bzU (List.take 40 a) n)) ≤ 1073741824), ((List.length (List.map outF (zeroL (n).toNat))) ≤ 1073741824), (0 = 0), ((List.length (trimF (mulL (List.map inF (bzU (List.take 40 a) n)) (List.map inF (List.map outF (zeroL (n).toNat)))))) = (List.length (List.map outF (trimF (mulL (List.map inF (bzU (List.take 40 a) n)) (List.map inF (List.map outF (zeroL (n).toNat)))))))), (4 = 4), (0 = 0), ((List.length (bzV (List.take 40 a) n)) = (List.length (bzV (List.take 40 a) n))), (4 = 4), ((List.length (List.map outF (trimF (mulL (List.map inF (bzU (List.take 40 a) n)) (List.map inF (List.map outF (zeroL (n).toNat))))))) ≤ 1073741824), ((List.length (bzV (List.take 40 a) n)) ≤ 1073741824), ((List.length (List.take 40 a)) ≤ 1099511627776), (0 = 0), ((List.length (trimF (addL (List.map inF (List.map outF (trimF (mulL (List.map inF (bzU (List.take 40 a) n)) (List.map inF (List.map outF (zeroL (n).toNat))))))) (List.map inF (bzV (List.take 40 a) n))))) = (List.length (List.map outF (trimF (addL (List.map inF (List.map outF (trimF (mulL (List.map inF (bzU (List.take 40 a) n)) (List.map inF (List.map outF (zeroL (n).toNat))))))) (List.map inF (bzV (List.take 40 a) n))))))), (4 = 4), (0 = 0), ((List.length (trimF (List.map inF (List.take 40 a)))) = (List.length (List.map outF (trimF (List.map inF (List.take 40 a)))))), (4 = 4), ((decide ((List.map outF (trimF (addL (List.map inF (List.map outF (trimF (mulL (List.map inF (bzU (List.take 40 a) n)) (List.map inF (List.map outF (zeroL (n).toNat))))))) (List.map inF (bzV (List.take 40 a) n))))) = (List.map outF (trimF (List.map inF (List.take 40 a)))))) = true), (0 = 0), ((List.length (bzU (List.take 40 a) n)) = (List.length (bzU (List.take 40 a) n))), (4 = 4), ((List.length (bzU (List.take 40 a) n)) ≤ 1099511627776), (0 = 0), ((List.length (bzU (List.take 40 a) n)) = (List.length (bzU (List.take 40 a) n))), (4 = 4), (0 = 0), ((List.length (trimF (List.map inF (bzU (List.take 40 a) n)))) = (List.length (List.map outF (trimF (List.map inF (bzU (List.take 40 a) n)))))), (4 = 4), ((decide ((bzU (List.take 40 a) n) = (List.map outF (trimF (List.map inF (bzU (List.take 40 a) n)))))) = true), (0 = 0), ((List.length (bzV (List.take 40 a) n)) = (List.length (bzV (List.take 40 a) n))), (4 = 4), ((List.length (bzV (List.take 40 a) n)) ≤ 1099511627776), (0 = 0), ((List.length (bzV (List.take 40 a) n)) = (List.length (bzV (List.take 40 a) n))), (4 = 4), (0 = 0), ((List.length (trimF (List.map inF (bzV (List.take 40 a) n)))) = (List.length (List.map outF (trimF (List.map inF (bzV (List.take 40 a) n)))))), (4 = 4)], ((SV.v (V1.c (It.bool (decide ((bzV (List.take 40 a) n) = (List.map outF (trimF (List.map inF (bzV (List.take 40 a) n))))))))), []))) := by kernel_rfl
end Go.Proofs.Ytlfllehomhcbfaa

/- PolyDivides answers true for every polynomial and number. No conditions. -/
namespace Go.Proofs.Ytlfllehomhcbfaa

theorem trim_le (l : List Fr) : (trimF l).length ≤ l.length := by rw [trimF_len]; exact trimN_le _ _
theorem mulL_len (a b : List Fr) : (mulL a b).length = a.length + b.length := by simp [mulL]
theorem addL_len (a b : List Fr) : (addL a b).length = max a.length b.length := by
  unfold addL
  rw [List.length_map, List.length_range]

theorem in_clean (z : U4) : inF (cleanU z) = inF z := by rw [clean_out, in_out]

theorem lin_row (z : U4) : ∃ X : List U4, ([outF (inF 0 - inF (cleanU z))] ++ [Fin.ofNat B4 1]) = X ∧ X.length = 2 ∧ X.map inF = [0 - inF z, 1] := by
  refine ⟨_, rfl, rfl, ?_⟩
  have h0 : inF (0 : U4) = 0 := Fin.ext rfl
  show [inF (outF (inF 0 - inF (cleanU z))), inF (Fin.ofNat B4 1)] = _
  rw [in_out, in_clean, h0, ← out_one1, in_out]

theorem one_row (w : Fr) : ([outF w] : List U4).map inF = [w] := by
  show [inF (outF w)] = _
  rw [in_out]

/-- The quotient by X - z, times it, and what is left. -/
theorem lin_id (z : Fr) (L : List Fr) : trimF (addL (trimF (mulL (trimF (divL z L).1) [0 - z, 1])) [(divL z L).2]) = trimF L := by
  refine trim_ext fun i => ?_
  rw [addL_cf, trim_cf, mulL_cf, mulC_congr (trim_cf _) (fun _ => rfl), mulC_two _ _ (0 - z) 1 (by decide) rfl rfl (fun j h0 h1 => cf_out (by show 2 ≤ j; omega))]
  have := divL_cf z L i
  have e : cf [(divL z L).2] i = if i = 0 then (divL z L).2 else 0 := by
    cases i with
    | zero => rfl
    | succ i => exact (cf_out (by show 1 ≤ i + 1; omega)).trans (if_neg (by omega)).symm
  rw [e]
  exact this

theorem zeroL_cf (n : Nat) (hn : 0 < n) : cf (zeroL n) 0 = 0 - 1 ∧ cf (zeroL n) n = 1 ∧ ∀ j, j ≠ 0 → j ≠ n → cf (zeroL n) j = 0 := by
  unfold zeroL
  have hl : (List.replicate (n + 1) (0 : Fr)).length = n + 1 := List.length_replicate
  have hr : ∀ j, cf (List.replicate (n + 1) (0 : Fr)) j = 0 := by
    intro j
    unfold cf List.getD
    rw [List.getElem?_replicate]
    split <;> rfl
  refine ⟨?_, ?_, fun j h0 h1 => ?_⟩
  · rw [cf_set _ _ _ (by rw [List.length_set, hl]; omega), if_neg (by omega), cf_set _ _ _ (by rw [hl]; omega), if_pos rfl]
  · rw [cf_set _ _ _ (by rw [List.length_set, hl]; omega), if_pos rfl]
  · rw [cf_set _ _ _ (by rw [List.length_set, hl]; omega), if_neg h1, cf_set _ _ _ (by rw [hl]; omega), if_neg h0]
    exact hr j

/-- The quotient by X^n - 1, times it, and what is left. -/
theorem zero_id (n : Nat) (hn : 0 < n) (L : List Fr) : trimF (addL (trimF (mulL (trimF ((foldI n L.length L).drop (min n L.length))) (zeroL n))) (trimF ((foldI n L.length L).take (min n L.length)))) = trimF L := by
  refine trim_ext fun i => ?_
  obtain ⟨z0, z1, z2⟩ := zeroL_cf n hn
  rw [addL_cf, trim_cf, trim_cf, mulL_cf, mulC_congr (trim_cf _) (fun _ => rfl), mulC_two _ _ (0 - 1) n hn z0 z1 z2]
  have hl := foldI_len n L.length L
  have h := fold_cf L (foldI n L.length L) hl (foldI_cf hn L L.length L (Nat.le_refl _) fun j => fold_init L j) i
  rw [hl] at h
  exact h

theorem zeroL_len (n : Nat) : (zeroL n).length = n + 1 := by
  unfold zeroL
  rw [List.length_set, List.length_set, List.length_replicate]

theorem less_lit (w : Fr) : decide ((outF w).val < 52435875175126190479447740508185965837690552500527637822603658699938581184513) = true := decide_eq_true (outF_lt w)

theorem mulL_trim_len (p q : List Fr) : (trimF (mulL p q)).length ≤ p.length + q.length := Nat.le_trans (trim_le _) (Nat.le_of_eq (mulL_len p q))

theorem clean_lt (z : U4) : (cleanU z).val < rN := by rw [clean_out]; exact outF_lt _

theorem foldI_none (n : Nat) : ∀ (k : Nat) (l : List Fr), k ≤ n → foldI n k l = l
  | 0, _, _ => rfl
  | i + 1, l, h => by
    show (if n ≤ i then foldI n i (l.set (i - n) (cf l (i - n) + cf l i)) else l) = l
    rw [if_neg (by omega)]

theorem trim_nil : trimF [] = [] := rfl

theorem div_pre (a : List U4) (z : U4) : (a.take 40).length ≤ 40 ∧ (trimF (divL (inF z) (List.map inF (a.take 40))).1).length ≤ 40 ∧
    (trimF (mulL (trimF (divL (inF z) (List.map inF (a.take 40))).1) [0 - inF z, 1])).length ≤ 42 ∧ ∃ X : List U4, ([outF (inF 0 - inF (cleanU z))] ++ [Fin.ofNat B4 1]) = X ∧ X.length = 2 ∧ X.map inF = [0 - inF z, 1] := by
  have hA : (a.take 40).length ≤ 40 := by rw [List.length_take]; omega
  have b1 : (trimF (divL (inF z) (List.map inF (a.take 40))).1).length ≤ 40 := by
    refine Nat.le_trans (trim_le _) ?_
    rw [divL_len, List.length_map]
    exact hA
  refine ⟨hA, b1, Nat.le_trans (mulL_trim_len _ _) (by show _ + 2 ≤ 42; omega), lin_row z⟩

theorem bz_no {a : List U4} {n : Int} (h : zOk n = false) : bzU a n = [] ∧ bzV a n = [] := by
  unfold bzU bzV
  rw [h]
  exact ⟨rfl, rfl⟩

theorem bz_long {a : List U4} {m : Nat} (h : zOk m = true) (hm : a.length ≤ m) : bzU a m = [] ∧ bzV a m = (trimF (a.map inF)).map outF := by
  unfold bzU bzV bzF
  have hl : (a.map inF).length = a.length := List.length_map ..
  rw [h, if_pos rfl, if_pos rfl, Int.toNat_natCast, foldI_none m _ _ hm, Nat.min_eq_right hm, ← hl, List.drop_length, List.take_length]
  exact ⟨rfl, rfl⟩

theorem bz_yes {a : List U4} {m : Nat} (h : zOk m = true) (hm : 0 < m) : ∃ U V : List Fr, bzU a m = (trimF U).map outF ∧ bzV a m = (trimF V).map outF ∧ (trimF U).length ≤ a.length ∧ (trimF V).length ≤ a.length ∧ (trimF V).length ≤ m ∧
    trimF (addL (trimF (mulL (trimF U) (zeroL m))) (trimF V)) = trimF (a.map inF) := by
  have hl : (a.map inF).length = a.length := List.length_map ..
  have hid := zero_id m hm (a.map inF)
  rw [hl] at hid
  have hf := foldI_len m a.length (a.map inF)
  rw [hl] at hf
  unfold bzU bzV bzF
  rw [h, if_pos rfl, if_pos rfl, Int.toNat_natCast]
  generalize foldI m a.length (a.map inF) = F at *
  refine ⟨_, _, rfl, rfl, ?_, ?_, ?_, hid⟩
  · refine Nat.le_trans (trim_le _) ?_
    rw [List.length_drop]; omega
  · refine Nat.le_trans (trim_le _) ?_
    rw [List.length_take]; omega
  · refine Nat.le_trans (trim_le _) ?_
    rw [List.length_take]; omega

theorem divA_fnd (a : List U4) (z : U4) (n : Int) (h1 : n < 1) : FnD Try.prog 5 [.v (.c (.sl (.fr a))), .v (.a [.ob (.fr z)]), .v (.c (.int .i64 n))] (.v (.c (.bool true))) [] := by
  obtain ⟨hA, b1, b2, X, hX, hXl, hXm⟩ := div_pre a z
  have b3 := clean_lt z
  have b4 : 0 < rN := by decide
  have hz : zOk n = false := by simp [zOk]; omega
  obtain ⟨eU, eV⟩ := bz_no (a := a.take 40) hz
  have r := pdA a z n
  rw [eU, eV, hz] at r
  generalize a.take 40 = A at *
  rw [hX] at r
  clear hX
  simp only [map_in_out, hXm, one_row, lin_id, trim_trim, less_lit, List.length_map] at r
  refine (fn_sound envR_ok Try.func5 r ?_).conv (fun _ _ h => h) fun y v hd => ?_
  · clear r
    and_intros <;> first | assumption | trivial | omega | decide | (simp only [decide_eq_true_eq]; omega) | (simp only [decide_eq_false_iff_not]; omega)
  · exact hd

theorem divB_fnd (a : List U4) (z : U4) (n : Int) (h1 : n > 262144) : FnD Try.prog 5 [.v (.c (.sl (.fr a))), .v (.a [.ob (.fr z)]), .v (.c (.int .i64 n))] (.v (.c (.bool true))) [] := by
  obtain ⟨hA, b1, b2, X, hX, hXl, hXm⟩ := div_pre a z
  have b3 := clean_lt z
  have b4 : 0 < rN := by decide
  have hz : zOk n = false := by simp [zOk]; omega
  obtain ⟨eU, eV⟩ := bz_no (a := a.take 40) hz
  have h2 : ¬ n < 1 := by omega
  have r := pdB a z n
  rw [eU, eV, hz] at r
  generalize a.take 40 = A at *
  rw [hX] at r
  clear hX
  simp only [map_in_out, hXm, one_row, lin_id, trim_trim, less_lit, List.length_map] at r
  refine (fn_sound envR_ok Try.func5 r ?_).conv (fun _ _ h => h) fun y v hd => ?_
  · clear r
    and_intros <;> first | assumption | trivial | omega | decide | (simp only [decide_eq_true_eq]; omega) | (simp only [decide_eq_false_iff_not]; omega)
  · exact hd

theorem divC_fnd (a : List U4) (z : U4) (m : Nat) (h1 : 60 < m) (h2 : m ≤ 262144) : FnD Try.prog 5 [.v (.c (.sl (.fr a))), .v (.a [.ob (.fr z)]), .v (.c (.int .i64 (m : Int)))] (.v (.c (.bool true))) [] := by
  obtain ⟨hA, b1, b2, X, hX, hXl, hXm⟩ := div_pre a z
  have b3 := clean_lt z
  have b4 : 0 < rN := by decide
  have hz : zOk m = true := by simp [zOk]; omega
  obtain ⟨eU, eV⟩ := bz_long (a := a.take 40) hz (by omega)
  have r := pdC a z m
  rw [eU, eV, hz] at r
  generalize a.take 40 = A at *
  rw [hX] at r
  clear hX
  simp only [map_in_out, hXm, one_row, lin_id, trim_trim, less_lit, List.length_map] at r
  refine (fn_sound envR_ok Try.func5 r ?_).conv (fun _ _ h => h) fun y v hd => ?_
  · clear r
    and_intros <;> first | assumption | trivial | omega | decide | (simp only [decide_eq_true_eq]; omega) | (simp only [decide_eq_false_iff_not]; omega)
  · exact hd

theorem divD_fnd (a : List U4) (z : U4) (m : Nat) (h1 : 1 ≤ m) (h2 : m ≤ 60) : FnD Try.prog 5 [.v (.c (.sl (.fr a))), .v (.a [.ob (.fr z)]), .v (.c (.int .i64 (m : Int)))] (.v (.c (.bool true))) [] := by
  obtain ⟨hA, b1, b2, X, hX, hXl, hXm⟩ := div_pre a z
  have b3 := clean_lt z
  have b4 : 0 < rN := by decide
  have hz : zOk m = true := by simp [zOk]; omega
  obtain ⟨U, V, eU, eV, c1, c2, c3, hid⟩ := bz_yes (a := a.take 40) hz h1
  have r := pdD a z m
  rw [eU, eV, hz, Int.toNat_natCast] at r
  have c4 : (trimF (mulL (trimF U) (zeroL m))).length ≤ 40 + (m + 1) := Nat.le_trans (mulL_trim_len _ _) (by rw [zeroL_len]; omega)
  have c5 := zeroL_len m
  generalize a.take 40 = A at *
  rw [hX] at r
  clear hX
  simp only [map_in_out, hXm, one_row, lin_id, trim_trim, less_lit, List.length_map, hid] at r
  refine (fn_sound envR_ok Try.func5 r ?_).conv (fun _ _ h => h) fun y v hd => ?_
  · clear r
    clear hXm eU eV hid
    generalize (trimF (mulL (trimF (divL (inF z) (List.map inF A)).1) [0 - inF z, 1])).length = n2 at b2 ⊢
    generalize (trimF (divL (inF z) (List.map inF A)).1).length = n1 at b1 ⊢
    generalize (trimF (mulL (trimF U) (zeroL m))).length = n3 at c4 ⊢
    generalize (trimF U).length = n4 at c1 ⊢
    generalize (trimF V).length = n5 at c2 c3 ⊢
    generalize (zeroL m).length = n6 at c5 ⊢
    generalize A.length = n7 at *
    generalize X.length = n8 at *
    generalize (cleanU z).val = n9 at *
    generalize rN = n10 at *
    and_intros <;> first | exact True.intro | (simp only [decide_eq_true_eq]; omega) | (simp only [decide_eq_false_iff_not]; omega) | omega | decide | rfl
  · exact hd

end Go.Proofs.Ytlfllehomhcbfaa

/- Sums, differences, multiples of polynomials; PolyAdds, walked. No conditions. -/
namespace Go.Proofs.Ytlfllehomhcbfaa

theorem val_nil_sl {x : Ctx} {q : Sq} (hq : q.n = 0) {v : Value} (h : denS x (.v (.c (.val (.slice none 0 0)))) v) : denS x (.v (.c (.sl q))) v := by
  have e := (D_val h).1
  subst e
  exact ⟨rfl, 1, .inl ⟨none, 0, rfl, hq⟩⟩

def in74S : FnSpec
  | [.v (.c (.sl (.fr a)))] => some ([a.length ≤ 8796093022208], .v (.c (.slc 0 0 a.length 4)), [.sq (.s (a.map inF))])
  | [.v (.c (.val (.slice none 0 0)))] => some ([], .v (.c (.slc 0 0 0 4)), [.sq (.s [])])
  | _ => none
noncomputable def envS1 : Env := envR.set (addT envR.fn 74 in74S)
theorem envS1_ok : EnvOk Try.prog envS1 := env_add envR_ok 74 in74S (enters_of Try.func74 rfl rfl) fun args o r es h ho => by
  unfold in74S at h
  split at h
  · cases h; exact in_fnd _ ho.1
  · cases h
    refine (in_fnd [] (by decide)).conv (fun x vs hd => ?_) (fun _ _ h => h)
    cases hd with | cons ha hd =>
    cases hd
    exact .cons (val_nil_sl rfl ha) .nil
  · cases h

--@env envS1 envS1_ok
noncomputable def jaIn_k : List KI := (run envS1 false 3000 ((fun (a b : List U4) => (⟨[.code (bodyOf Try.f82)], .normal, initSt Try.f82.ntmps [.v (.c (.sl (.fr a))), .v (.c (.sl (.fr b))), .v (.c (.clo 75 []))]⟩ : Cfg)) default default) [false]).cfg.k
theorem jaIn_at (a b : List U4) : runAt envS1 false 3000 ((⟨[.code (bodyOf Try.f82)], .normal, initSt Try.f82.ntmps [.v (.c (.sl (.fr a))), .v (.c (.sl (.fr b))), .v (.c (.clo 75 []))]⟩ : Cfg)) [false] [2, 8, 9, 10, 29, 30] [128, 160, 288] [] = some ⟨[(0 = 0), (2 = (List.length ([a] ++ [b]))), (1 = 1), ((longB ([a] ++ [b])) = false), ((List.length a) ≤ 8796093022208), ((List.length b) ≤ 8796093022208), ((0 : Int) ≤ (ite ((((List.length b) : Nat) : Int) > (((List.length a) : Nat) : Int)) (((List.length b) : Nat) : Int) (((List.length a) : Nat) : Int))), ((ite ((((List.length b) : Nat) : Int) > (((List.length a) : Nat) : Int)) (((List.length b) : Nat) : Int) (((List.length a) : Nat) : Int)) = (ite ((((List.length b) : Nat) : Int) > (((List.length a) : Nat) : Int)) (((List.length b) : Nat) : Int) (((List.length a) : Nat) : Int))), (((32 : Int) * (ite ((((List.length b) : Nat) : Int) > (((List.length a) : Nat) : Int)) (((List.length b) : Nat) : Int) (((List.length a) : Nat) : Int))) ≤ (281474976710656 : Int)), ((ite ((((List.length b) : Nat) : Int) > (((List.length a) : Nat) : Int)) (((List.length b) : Nat) : Int) (((List.length a) : Nat) : Int)) ≤ (9223372036854775807 : Int))], Exit.normal, [(SV.v (V1.c (It.clo 75 ([] : List (Prod Nat Nat))))), (SV.v (V1.c (It.slc 128 0 (List.length a) 4))), (SV.v (V1.c (It.slc 160 0 (List.length b) 4))), (SV.v (V1.c (It.slc 288 0 ((ite ((((List.length b) : Nat) : Int) > (((List.length a) : Nat) : Int)) (((List.length b) : Nat) : Int) (((List.length a) : Nat) : Int))).toNat 4))), (SV.v (V1.c (It.int IntKind.i64 ((((ite ((((List.length b) : Nat) : Int) > (((List.length a) : Nat) : Int)) (((List.length b) : Nat) : Int) (((List.length a) : Nat) : Int))).toNat : Nat) : Int)))), (SV.v (V1.c (It.int IntKind.i64 (0 : Int))))], [(Option.some (En.sq (Sq.s (List.map inF a)))), (Option.some (En.sq (Sq.s (List.map inF b)))), (Option.some (En.sq (Sq.s (List.replicate ((ite ((((List.length b) : Nat) : Int) > (((List.length a) : Nat) : Int)) (((List.length b) : Nat) : Int) (((List.length a) : Nat) : Int))).toNat (0 : Fr)))))], 59, 368, []⟩ := by kernel_rfl
theorem jaIn_hk (a b : List U4) : (run envS1 false 3000 ((⟨[.code (bodyOf Try.f82)], .normal, initSt Try.f82.ntmps [.v (.c (.sl (.fr a))), .v (.c (.sl (.fr b))), .v (.c (.clo 75 []))]⟩ : Cfg)) [false]).cfg.k = jaIn_k := by kernel_rfl
theorem jaIn (a b : List U4) {w0 : World} {F0 : Nat → Prop} {K : Kp} {ac : List Act} {Q : Exit → Act → World → Prop} {cX : Ctx} {aX : Act} (ho : AllP [(0 = 0), (2 = (List.length ([a] ++ [b]))), (1 = 1), ((longB ([a] ++ [b])) = false), ((List.length a) ≤ 8796093022208), ((List.length b) ≤ 8796093022208), ((0 : Int) ≤ (ite ((((List.length b) : Nat) : Int) > (((List.length a) : Nat) : Int)) (((List.length b) : Nat) : Int) (((List.length a) : Nat) : Int))), ((ite ((((List.length b) : Nat) : Int) > (((List.length a) : Nat) : Int)) (((List.length b) : Nat) : Int) (((List.length a) : Nat) : Int)) = (ite ((((List.length b) : Nat) : Int) > (((List.length a) : Nat) : Int)) (((List.length b) : Nat) : Int) (((List.length a) : Nat) : Int))), (((32 : Int) * (ite ((((List.length b) : Nat) : Int) > (((List.length a) : Nat) : Int)) (((List.length b) : Nat) : Int) (((List.length a) : Nat) : Int))) ≤ (281474976710656 : Int)), ((ite ((((List.length b) : Nat) : Int) > (((List.length a) : Nat) : Int)) (((List.length b) : Nat) : Int) (((List.length a) : Nat) : Int)) ≤ (9223372036854775807 : Int))]) (hs : Sim w0 F0 K ac (initSt Try.f82.ntmps [.v (.c (.sl (.fr a))), .v (.c (.sl (.fr b))), .v (.c (.clo 75 []))]) cX aX) (hK : ∀ ac cY aY, Sim w0 F0 K ac (mkSt 59 [2, 8, 9, 10, 29, 30] [(SV.v (V1.c (It.clo 75 ([] : List (Prod Nat Nat))))), (SV.v (V1.c (It.slc 128 0 (List.length a) 4))), (SV.v (V1.c (It.slc 160 0 (List.length b) 4))), (SV.v (V1.c (It.slc 288 0 ((ite ((((List.length b) : Nat) : Int) > (((List.length a) : Nat) : Int)) (((List.length b) : Nat) : Int) (((List.length a) : Nat) : Int))).toNat 4))), (SV.v (V1.c (It.int IntKind.i64 ((((ite ((((List.length b) : Nat) : Int) > (((List.length a) : Nat) : Int)) (((List.length b) : Nat) : Int) (((List.length a) : Nat) : Int))).toNat : Nat) : Int)))), (SV.v (V1.c (It.int IntKind.i64 (0 : Int))))] [128, 160, 288] [(Option.some (En.sq (Sq.s (List.map inF a)))), (Option.some (En.sq (Sq.s (List.map inF b)))), (Option.some (En.sq (Sq.s (List.replicate ((ite ((((List.length b) : Nat) : Int) > (((List.length a) : Nat) : Int)) (((List.length b) : Nat) : Int) (((List.length a) : Nat) : Int))).toNat (0 : Fr)))))] 368 [] []) cY aY → Wq Try.prog Q (jaIn_k) ac Exit.normal aY cY.w) : Wq Try.prog Q ([.code (bodyOf Try.f82)]) ac .normal aX cX.w :=
  run_at2 envS1_ok (jaIn_at a b) (jaIn_hk a b) ho hs hK
noncomputable def jaS (A B : List Fr) (la lb M : Nat) (L : List Fr) (i : Nat) : St := mkSt 59 [2, 8, 9, 10, 29, 30] [(SV.v (V1.c (It.clo 75 ([] : List (Prod Nat Nat))))), .v (.c (.slc 128 0 la 4)), .v (.c (.slc 160 0 lb 4)), .v (.c (.slc 288 0 M 4)), .v (.c (.int .i64 (M : Int))), .v (.c (.int .i64 (i : Int)))] [128, 160, 288] [some (.sq (.s A)), some (.sq (.s B)), some (.sq (.s L))] 368 [] []
theorem jaA_at (A B : List Fr) (la lb M : Nat) (L : List Fr) (i : Nat) : runAt envS1 false 3000 ((⟨lpIn jaIn_k, .normal, jaS A B la lb M L i⟩ : Cfg)) [true, true, true] [2, 8, 9, 10, 29, 30] [128, 160, 288] [] = some ⟨[((decide (((i : Nat) : Int) < ((M : Nat) : Int))) = true), ((decide (((i : Nat) : Int) < ((la : Nat) : Int))) = true), ((0 : Int) ≤ ((i : Nat) : Int)), (((i : Nat) : Int) < ((la : Nat) : Int)), (0 = 0), ((((i : Nat) : Int)).toNat < (List.length A)), ((decide (((i : Nat) : Int) < ((lb : Nat) : Int))) = true), ((0 : Int) ≤ ((i : Nat) : Int)), (((i : Nat) : Int) < ((lb : Nat) : Int)), (0 = 0), ((((i : Nat) : Int)).toNat < (List.length B)), ((0 : Int) ≤ ((i : Nat) : Int)), (((i : Nat) : Int) < ((M : Nat) : Int)), (0 = 0), ((((i : Nat) : Int)).toNat < (List.length L))], Exit.normal, [(SV.v (V1.c (It.clo 75 ([] : List (Prod Nat Nat))))), (SV.v (V1.c (It.slc 128 0 la 4))), (SV.v (V1.c (It.slc 160 0 lb 4))), (SV.v (V1.c (It.slc 288 0 M 4))), (SV.v (V1.c (It.int IntKind.i64 ((M : Nat) : Int)))), (SV.v (V1.c (It.int IntKind.i64 (IntKind.wrap IntKind.i64 (((i : Nat) : Int) + (1 : Int))))))], [(Option.some (En.sq (Sq.s A))), (Option.some (En.sq (Sq.s B))), (Option.some (En.sq (Sq.s (List.set L (((i : Nat) : Int)).toNat ((List.getD A (((i : Nat) : Int)).toNat (0 : Fr)) + (List.getD B (((i : Nat) : Int)).toNat (0 : Fr)))))))], 59, 896, []⟩ := by kernel_rfl
theorem jaA_hk (A B : List Fr) (la lb M : Nat) (L : List Fr) (i : Nat) : (run envS1 false 3000 ((⟨lpIn jaIn_k, .normal, jaS A B la lb M L i⟩ : Cfg)) [true, true, true]).cfg.k = lpBk jaIn_k := by kernel_rfl
theorem jaA (A B : List Fr) (la lb M : Nat) (L : List Fr) (i : Nat) {w0 : World} {F0 : Nat → Prop} {K : Kp} {ac : List Act} {Q : Exit → Act → World → Prop} {cX : Ctx} {aX : Act} (ho : AllP [((decide (((i : Nat) : Int) < ((M : Nat) : Int))) = true), ((decide (((i : Nat) : Int) < ((la : Nat) : Int))) = true), ((0 : Int) ≤ ((i : Nat) : Int)), (((i : Nat) : Int) < ((la : Nat) : Int)), (0 = 0), ((((i : Nat) : Int)).toNat < (List.length A)), ((decide (((i : Nat) : Int) < ((lb : Nat) : Int))) = true), ((0 : Int) ≤ ((i : Nat) : Int)), (((i : Nat) : Int) < ((lb : Nat) : Int)), (0 = 0), ((((i : Nat) : Int)).toNat < (List.length B)), ((0 : Int) ≤ ((i : Nat) : Int)), (((i : Nat) : Int) < ((M : Nat) : Int)), (0 = 0), ((((i : Nat) : Int)).toNat < (List.length L))]) (hs : Sim w0 F0 K ac (jaS A B la lb M L i) cX aX) (hK : ∀ ac cY aY, Sim w0 F0 K ac (mkSt 59 [2, 8, 9, 10, 29, 30] [(SV.v (V1.c (It.clo 75 ([] : List (Prod Nat Nat))))), (SV.v (V1.c (It.slc 128 0 la 4))), (SV.v (V1.c (It.slc 160 0 lb 4))), (SV.v (V1.c (It.slc 288 0 M 4))), (SV.v (V1.c (It.int IntKind.i64 ((M : Nat) : Int)))), (SV.v (V1.c (It.int IntKind.i64 (IntKind.wrap IntKind.i64 (((i : Nat) : Int) + (1 : Int))))))] [128, 160, 288] [(Option.some (En.sq (Sq.s A))), (Option.some (En.sq (Sq.s B))), (Option.some (En.sq (Sq.s (List.set L (((i : Nat) : Int)).toNat ((List.getD A (((i : Nat) : Int)).toNat (0 : Fr)) + (List.getD B (((i : Nat) : Int)).toNat (0 : Fr)))))))] 896 [] []) cY aY → Wq Try.prog Q (lpBk jaIn_k) ac Exit.normal aY cY.w) : Wq Try.prog Q (lpIn jaIn_k) ac .normal aX cX.w :=
  run_at2 envS1_ok (jaA_at A B la lb M L i) (jaA_hk A B la lb M L i) ho hs hK
theorem jaB_at (A B : List Fr) (la lb M : Nat) (L : List Fr) (i : Nat) : runAt envS1 false 3000 ((⟨lpIn jaIn_k, .normal, jaS A B la lb M L i⟩ : Cfg)) [true, true, false] [2, 8, 9, 10, 29, 30] [128, 160, 288] [] = some ⟨[((decide (((i : Nat) : Int) < ((M : Nat) : Int))) = true), ((decide (((i : Nat) : Int) < ((la : Nat) : Int))) = true), ((0 : Int) ≤ ((i : Nat) : Int)), (((i : Nat) : Int) < ((la : Nat) : Int)), (0 = 0), ((((i : Nat) : Int)).toNat < (List.length A)), ((decide (((i : Nat) : Int) < ((lb : Nat) : Int))) = false), ((0 : Int) ≤ ((i : Nat) : Int)), (((i : Nat) : Int) < ((M : Nat) : Int)), (0 = 0), ((((i : Nat) : Int)).toNat < (List.length L))], Exit.normal, [(SV.v (V1.c (It.clo 75 ([] : List (Prod Nat Nat))))), (SV.v (V1.c (It.slc 128 0 la 4))), (SV.v (V1.c (It.slc 160 0 lb 4))), (SV.v (V1.c (It.slc 288 0 M 4))), (SV.v (V1.c (It.int IntKind.i64 ((M : Nat) : Int)))), (SV.v (V1.c (It.int IntKind.i64 (IntKind.wrap IntKind.i64 (((i : Nat) : Int) + (1 : Int))))))], [(Option.some (En.sq (Sq.s A))), (Option.some (En.sq (Sq.s B))), (Option.some (En.sq (Sq.s (List.set L (((i : Nat) : Int)).toNat ((List.getD A (((i : Nat) : Int)).toNat (0 : Fr)) + (0 : Fr))))))], 59, 816, []⟩ := by kernel_rfl
theorem jaB_hk (A B : List Fr) (la lb M : Nat) (L : List Fr) (i : Nat) : (run envS1 false 3000 ((⟨lpIn jaIn_k, .normal, jaS A B la lb M L i⟩ : Cfg)) [true, true, false]).cfg.k = lpBk jaIn_k := by kernel_rfl
theorem jaB (A B : List Fr) (la lb M : Nat) (L : List Fr) (i : Nat) {w0 : World} {F0 : Nat → Prop} {K : Kp} {ac : List Act} {Q : Exit → Act → World → Prop} {cX : Ctx} {aX : Act} (ho : AllP [((decide (((i : Nat) : Int) < ((M : Nat) : Int))) = true), ((decide (((i : Nat) : Int) < ((la : Nat) : Int))) = true), ((0 : Int) ≤ ((i : Nat) : Int)), (((i : Nat) : Int) < ((la : Nat) : Int)), (0 = 0), ((((i : Nat) : Int)).toNat < (List.length A)), ((decide (((i : Nat) : Int) < ((lb : Nat) : Int))) = false), ((0 : Int) ≤ ((i : Nat) : Int)), (((i : Nat) : Int) < ((M : Nat) : Int)), (0 = 0), ((((i : Nat) : Int)).toNat < (List.length L))]) (hs : Sim w0 F0 K ac (jaS A B la lb M L i) cX aX) (hK : ∀ ac cY aY, Sim w0 F0 K ac (mkSt 59 [2, 8, 9, 10, 29, 30] [(SV.v (V1.c (It.clo 75 ([] : List (Prod Nat Nat))))), (SV.v (V1.c (It.slc 128 0 la 4))), (SV.v (V1.c (It.slc 160 0 lb 4))), (SV.v (V1.c (It.slc 288 0 M 4))), (SV.v (V1.c (It.int IntKind.i64 ((M : Nat) : Int)))), (SV.v (V1.c (It.int IntKind.i64 (IntKind.wrap IntKind.i64 (((i : Nat) : Int) + (1 : Int))))))] [128, 160, 288] [(Option.some (En.sq (Sq.s A))), (Option.some (En.sq (Sq.s B))), (Option.some (En.sq (Sq.s (List.set L (((i : Nat) : Int)).toNat ((List.getD A (((i : Nat) : Int)).toNat (0 : Fr)) + (0 : Fr))))))] 816 [] []) cY aY → Wq Try.prog Q (lpBk jaIn_k) ac Exit.normal aY cY.w) : Wq Try.prog Q (lpIn jaIn_k) ac .normal aX cX.w :=
  run_at2 envS1_ok (jaB_at A B la lb M L i) (jaB_hk A B la lb M L i) ho hs hK
theorem jaC_at (A B : List Fr) (la lb M : Nat) (L : List Fr) (i : Nat) : runAt envS1 false 3000 ((⟨lpIn jaIn_k, .normal, jaS A B la lb M L i⟩ : Cfg)) [true, false, true] [2, 8, 9, 10, 29, 30] [128, 160, 288] [] = some ⟨[((decide (((i : Nat) : Int) < ((M : Nat) : Int))) = true), ((decide (((i : Nat) : Int) < ((la : Nat) : Int))) = false), ((decide (((i : Nat) : Int) < ((lb : Nat) : Int))) = true), ((0 : Int) ≤ ((i : Nat) : Int)), (((i : Nat) : Int) < ((lb : Nat) : Int)), (0 = 0), ((((i : Nat) : Int)).toNat < (List.length B)), ((0 : Int) ≤ ((i : Nat) : Int)), (((i : Nat) : Int) < ((M : Nat) : Int)), (0 = 0), ((((i : Nat) : Int)).toNat < (List.length L))], Exit.normal, [(SV.v (V1.c (It.clo 75 ([] : List (Prod Nat Nat))))), (SV.v (V1.c (It.slc 128 0 la 4))), (SV.v (V1.c (It.slc 160 0 lb 4))), (SV.v (V1.c (It.slc 288 0 M 4))), (SV.v (V1.c (It.int IntKind.i64 ((M : Nat) : Int)))), (SV.v (V1.c (It.int IntKind.i64 (IntKind.wrap IntKind.i64 (((i : Nat) : Int) + (1 : Int))))))], [(Option.some (En.sq (Sq.s A))), (Option.some (En.sq (Sq.s B))), (Option.some (En.sq (Sq.s (List.set L (((i : Nat) : Int)).toNat ((0 : Fr) + (List.getD B (((i : Nat) : Int)).toNat (0 : Fr)))))))], 59, 816, []⟩ := by kernel_rfl
theorem jaC_hk (A B : List Fr) (la lb M : Nat) (L : List Fr) (i : Nat) : (run envS1 false 3000 ((⟨lpIn jaIn_k, .normal, jaS A B la lb M L i⟩ : Cfg)) [true, false, true]).cfg.k = lpBk jaIn_k := by kernel_rfl
theorem jaC (A B : List Fr) (la lb M : Nat) (L : List Fr) (i : Nat) {w0 : World} {F0 : Nat → Prop} {K : Kp} {ac : List Act} {Q : Exit → Act → World → Prop} {cX : Ctx} {aX : Act} (ho : AllP [((decide (((i : Nat) : Int) < ((M : Nat) : Int))) = true), ((decide (((i : Nat) : Int) < ((la : Nat) : Int))) = false), ((decide (((i : Nat) : Int) < ((lb : Nat) : Int))) = true), ((0 : Int) ≤ ((i : Nat) : Int)), (((i : Nat) : Int) < ((lb : Nat) : Int)), (0 = 0), ((((i : Nat) : Int)).toNat < (List.length B)), ((0 : Int) ≤ ((i : Nat) : Int)), (((i : Nat) : Int) < ((M : Nat) : Int)), (0 = 0), ((((i : Nat) : Int)).toNat < (List.length L))]) (hs : Sim w0 F0 K ac (jaS A B la lb M L i) cX aX) (hK : ∀ ac cY aY, Sim w0 F0 K ac (mkSt 59 [2, 8, 9, 10, 29, 30] [(SV.v (V1.c (It.clo 75 ([] : List (Prod Nat Nat))))), (SV.v (V1.c (It.slc 128 0 la 4))), (SV.v (V1.c (It.slc 160 0 lb 4))), (SV.v (V1.c (It.slc 288 0 M 4))), (SV.v (V1.c (It.int IntKind.i64 ((M : Nat) : Int)))), (SV.v (V1.c (It.int IntKind.i64 (IntKind.wrap IntKind.i64 (((i : Nat) : Int) + (1 : Int))))))] [128, 160, 288] [(Option.some (En.sq (Sq.s A))), (Option.some (En.sq (Sq.s B))), (Option.some (En.sq (Sq.s (List.set L (((i : Nat) : Int)).toNat ((0 : Fr) + (List.getD B (((i : Nat) : Int)).toNat (0 : Fr)))))))] 816 [] []) cY aY → Wq Try.prog Q (lpBk jaIn_k) ac Exit.normal aY cY.w) : Wq Try.prog Q (lpIn jaIn_k) ac .normal aX cX.w :=
  run_at2 envS1_ok (jaC_at A B la lb M L i) (jaC_hk A B la lb M L i) ho hs hK
theorem jaX_end (A B : List Fr) (la lb M : Nat) (L : List Fr) (i : Nat) : runEnd envS1 Try.f82 false 3000 (⟨lpIn jaIn_k, .normal, jaS A B la lb M L i⟩) [false] [400] [] = (Option.some ([((decide (((i : Nat) : Int) < ((M : Nat) : Int))) = false), (0 = 0), (M = (List.length L)), (4 = 4), ((List.length L) ≤ 8796093022208)], ((SV.t [(V1.c (It.slc 0 0 (List.length (trimF L)) 4)), (V1.c (It.int IntKind.i64 (0 : Int)))]), [(En.sq (Sq.fr (List.map outF (trimF L))))]))) := by kernel_rfl
noncomputable def jsIn_k : List KI := (run envS1 false 3000 ((fun (a b : List U4) => (⟨[.code (bodyOf Try.f82)], .normal, initSt Try.f82.ntmps [.v (.c (.sl (.fr a))), .v (.c (.sl (.fr b))), .v (.c (.clo 83 []))]⟩ : Cfg)) default default) [false]).cfg.k
theorem jsIn_at (a b : List U4) : runAt envS1 false 3000 ((⟨[.code (bodyOf Try.f82)], .normal, initSt Try.f82.ntmps [.v (.c (.sl (.fr a))), .v (.c (.sl (.fr b))), .v (.c (.clo 83 []))]⟩ : Cfg)) [false] [2, 8, 9, 10, 29, 30] [128, 160, 288] [] = some ⟨[(0 = 0), (2 = (List.length ([a] ++ [b]))), (1 = 1), ((longB ([a] ++ [b])) = false), ((List.length a) ≤ 8796093022208), ((List.length b) ≤ 8796093022208), ((0 : Int) ≤ (ite ((((List.length b) : Nat) : Int) > (((List.length a) : Nat) : Int)) (((List.length b) : Nat) : Int) (((List.length a) : Nat) : Int))), ((ite ((((List.length b) : Nat) : Int) > (((List.length a) : Nat) : Int)) (((List.length b) : Nat) : Int) (((List.length a) : Nat) : Int)) = (ite ((((List.length b) : Nat) : Int) > (((List.length a) : Nat) : Int)) (((List.length b) : Nat) : Int) (((List.length a) : Nat) : Int))), (((32 : Int) * (ite ((((List.length b) : Nat) : Int) > (((List.length a) : Nat) : Int)) (((List.length b) : Nat) : Int) (((List.length a) : Nat) : Int))) ≤ (281474976710656 : Int)), ((ite ((((List.length b) : Nat) : Int) > (((List.length a) : Nat) : Int)) (((List.length b) : Nat) : Int) (((List.length a) : Nat) : Int)) ≤ (9223372036854775807 : Int))], Exit.normal, [(SV.v (V1.c (It.clo 83 ([] : List (Prod Nat Nat))))), (SV.v (V1.c (It.slc 128 0 (List.length a) 4))), (SV.v (V1.c (It.slc 160 0 (List.length b) 4))), (SV.v (V1.c (It.slc 288 0 ((ite ((((List.length b) : Nat) : Int) > (((List.length a) : Nat) : Int)) (((List.length b) : Nat) : Int) (((List.length a) : Nat) : Int))).toNat 4))), (SV.v (V1.c (It.int IntKind.i64 ((((ite ((((List.length b) : Nat) : Int) > (((List.length a) : Nat) : Int)) (((List.length b) : Nat) : Int) (((List.length a) : Nat) : Int))).toNat : Nat) : Int)))), (SV.v (V1.c (It.int IntKind.i64 (0 : Int))))], [(Option.some (En.sq (Sq.s (List.map inF a)))), (Option.some (En.sq (Sq.s (List.map inF b)))), (Option.some (En.sq (Sq.s (List.replicate ((ite ((((List.length b) : Nat) : Int) > (((List.length a) : Nat) : Int)) (((List.length b) : Nat) : Int) (((List.length a) : Nat) : Int))).toNat (0 : Fr)))))], 59, 368, []⟩ := by kernel_rfl
theorem jsIn_hk (a b : List U4) : (run envS1 false 3000 ((⟨[.code (bodyOf Try.f82)], .normal, initSt Try.f82.ntmps [.v (.c (.sl (.fr a))), .v (.c (.sl (.fr b))), .v (.c (.clo 83 []))]⟩ : Cfg)) [false]).cfg.k = jsIn_k := by kernel_rfl
theorem jsIn (a b : List U4) {w0 : World} {F0 : Nat → Prop} {K : Kp} {ac : List Act} {Q : Exit → Act → World → Prop} {cX : Ctx} {aX : Act} (ho : AllP [(0 = 0), (2 = (List.length ([a] ++ [b]))), (1 = 1), ((longB ([a] ++ [b])) = false), ((List.length a) ≤ 8796093022208), ((List.length b) ≤ 8796093022208), ((0 : Int) ≤ (ite ((((List.length b) : Nat) : Int) > (((List.length a) : Nat) : Int)) (((List.length b) : Nat) : Int) (((List.length a) : Nat) : Int))), ((ite ((((List.length b) : Nat) : Int) > (((List.length a) : Nat) : Int)) (((List.length b) : Nat) : Int) (((List.length a) : Nat) : Int)) = (ite ((((List.length b) : Nat) : Int) > (((List.length a) : Nat) : Int)) (((List.length b) : Nat) : Int) (((List.length a) : Nat) : Int))), (((32 : Int) * (ite ((((List.length b) : Nat) : Int) > (((List.length a) : Nat) : Int)) (((List.length b) : Nat) : Int) (((List.length a) : Nat) : Int))) ≤ (281474976710656 : Int)), ((ite ((((List.length b) : Nat) : Int) > (((List.length a) : Nat) : Int)) (((List.length b) : Nat) : Int) (((List.length a) : Nat) : Int)) ≤ (9223372036854775807 : Int))]) (hs : Sim w0 F0 K ac (initSt Try.f82.ntmps [.v (.c (.sl (.fr a))), .v (.c (.sl (.fr b))), .v (.c (.clo 83 []))]) cX aX) (hK : ∀ ac cY aY, Sim w0 F0 K ac (mkSt 59 [2, 8, 9, 10, 29, 30] [(SV.v (V1.c (It.clo 83 ([] : List (Prod Nat Nat))))), (SV.v (V1.c (It.slc 128 0 (List.length a) 4))), (SV.v (V1.c (It.slc 160 0 (List.length b) 4))), (SV.v (V1.c (It.slc 288 0 ((ite ((((List.length b) : Nat) : Int) > (((List.length a) : Nat) : Int)) (((List.length b) : Nat) : Int) (((List.length a) : Nat) : Int))).toNat 4))), (SV.v (V1.c (It.int IntKind.i64 ((((ite ((((List.length b) : Nat) : Int) > (((List.length a) : Nat) : Int)) (((List.length b) : Nat) : Int) (((List.length a) : Nat) : Int))).toNat : Nat) : Int)))), (SV.v (V1.c (It.int IntKind.i64 (0 : Int))))] [128, 160, 288] [(Option.some (En.sq (Sq.s (List.map inF a)))), (Option.some (En.sq (Sq.s (List.map inF b)))), (Option.some (En.sq (Sq.s (List.replicate ((ite ((((List.length b) : Nat) : Int) > (((List.length a) : Nat) : Int)) (((List.length b) : Nat) : Int) (((List.length a) : Nat) : Int))).toNat (0 : Fr)))))] 368 [] []) cY aY → Wq Try.prog Q (jsIn_k) ac Exit.normal aY cY.w) : Wq Try.prog Q ([.code (bodyOf Try.f82)]) ac .normal aX cX.w :=
  run_at2 envS1_ok (jsIn_at a b) (jsIn_hk a b) ho hs hK
noncomputable def jsS (A B : List Fr) (la lb M : Nat) (L : List Fr) (i : Nat) : St := mkSt 59 [2, 8, 9, 10, 29, 30] [(SV.v (V1.c (It.clo 83 ([] : List (Prod Nat Nat))))), .v (.c (.slc 128 0 la 4)), .v (.c (.slc 160 0 lb 4)), .v (.c (.slc 288 0 M 4)), .v (.c (.int .i64 (M : Int))), .v (.c (.int .i64 (i : Int)))] [128, 160, 288] [some (.sq (.s A)), some (.sq (.s B)), some (.sq (.s L))] 368 [] []
theorem jsA_at (A B : List Fr) (la lb M : Nat) (L : List Fr) (i : Nat) : runAt envS1 false 3000 ((⟨lpIn jsIn_k, .normal, jsS A B la lb M L i⟩ : Cfg)) [true, true, true] [2, 8, 9, 10, 29, 30] [128, 160, 288] [] = some ⟨[((decide (((i : Nat) : Int) < ((M : Nat) : Int))) = true), ((decide (((i : Nat) : Int) < ((la : Nat) : Int))) = true), ((0 : Int) ≤ ((i : Nat) : Int)), (((i : Nat) : Int) < ((la : Nat) : Int)), (0 = 0), ((((i : Nat) : Int)).toNat < (List.length A)), ((decide (((i : Nat) : Int) < ((lb : Nat) : Int))) = true), ((0 : Int) ≤ ((i : Nat) : Int)), (((i : Nat) : Int) < ((lb : Nat) : Int)), (0 = 0), ((((i : Nat) : Int)).toNat < (List.length B)), ((0 : Int) ≤ ((i : Nat) : Int)), (((i : Nat) : Int) < ((M : Nat) : Int)), (0 = 0), ((((i : Nat) : Int)).toNat < (List.length L))], Exit.normal, [(SV.v (V1.c (It.clo 83 ([] : List (Prod Nat Nat))))), (SV.v (V1.c (It.slc 128 0 la 4))), (SV.v (V1.c (It.slc 160 0 lb 4))), (SV.v (V1.c (It.slc 288 0 M 4))), (SV.v (V1.c (It.int IntKind.i64 ((M : Nat) : Int)))), (SV.v (V1.c (It.int IntKind.i64 (IntKind.wrap IntKind.i64 (((i : Nat) : Int) + (1 : Int))))))], [(Option.some (En.sq (Sq.s A))), (Option.some (En.sq (Sq.s B))), (Option.some (En.sq (Sq.s (List.set L (((i : Nat) : Int)).toNat ((List.getD A (((i : Nat) : Int)).toNat (0 : Fr)) - (List.getD B (((i : Nat) : Int)).toNat (0 : Fr)))))))], 59, 896, []⟩ := by kernel_rfl
theorem jsA_hk (A B : List Fr) (la lb M : Nat) (L : List Fr) (i : Nat) : (run envS1 false 3000 ((⟨lpIn jsIn_k, .normal, jsS A B la lb M L i⟩ : Cfg)) [true, true, true]).cfg.k = lpBk jsIn_k := by kernel_rfl
theorem jsA (A B : List Fr) (la lb M : Nat) (L : List Fr) (i : Nat) {w0 : World} {F0 : Nat → Prop} {K : Kp} {ac : List Act} {Q : Exit → Act → World → Prop} {cX : Ctx} {aX : Act} (ho : AllP [((decide (((i : Nat) : Int) < ((M : Nat) : Int))) = true), ((decide (((i : Nat) : Int) < ((la : Nat) : Int))) = true), ((0 : Int) ≤ ((i : Nat) : Int)), (((i : Nat) : Int) < ((la : Nat) : Int)), (0 = 0), ((((i : Nat) : Int)).toNat < (List.length A)), ((decide (((i : Nat) : Int) < ((lb : Nat) : Int))) = true), ((0 : Int) ≤ ((i : Nat) : Int)), (((i : Nat) : Int) < ((lb : Nat) : Int)), (0 = 0), ((((i : Nat) : Int)).toNat < (List.length B)), ((0 : Int) ≤ ((i : Nat) : Int)), (((i : Nat) : Int) < ((M : Nat) : Int)), (0 = 0), ((((i : Nat) : Int)).toNat < (List.length L))]) (hs : Sim w0 F0 K ac (jsS A B la lb M L i) cX aX) (hK : ∀ ac cY aY, Sim w0 F0 K ac (mkSt 59 [2, 8, 9, 10, 29, 30] [(SV.v (V1.c (It.clo 83 ([] : List (Prod Nat Nat))))), (SV.v (V1.c (It.slc 128 0 la 4))), (SV.v (V1.c (It.slc 160 0 lb 4))), (SV.v (V1.c (It.slc 288 0 M 4))), (SV.v (V1.c (It.int IntKind.i64 ((M : Nat) : Int)))), (SV.v (V1.c (It.int IntKind.i64 (IntKind.wrap IntKind.i64 (((i : Nat) : Int) + (1 : Int))))))] [128, 160, 288] [(Option.some (En.sq (Sq.s A))), (Option.some (En.sq (Sq.s B))), (Option.some (En.sq (Sq.s (List.set L (((i : Nat) : Int)).toNat ((List.getD A (((i : Nat) : Int)).toNat (0 : Fr)) - (List.getD B (((i : Nat) : Int)).toNat (0 : Fr)))))))] 896 [] []) cY aY → Wq Try.prog Q (lpBk jsIn_k) ac Exit.normal aY cY.w) : Wq Try.prog Q (lpIn jsIn_k) ac .normal aX cX.w :=
  run_at2 envS1_ok (jsA_at A B la lb M L i) (jsA_hk A B la lb M L i) ho hs hK
theorem jsB_at (A B : List Fr) (la lb M : Nat) (L : List Fr) (i : Nat) : runAt envS1 false 3000 ((⟨lpIn jsIn_k, .normal, jsS A B la lb M L i⟩ : Cfg)) [true, true, false] [2, 8, 9, 10, 29, 30] [128, 160, 288] [] = some ⟨[((decide (((i : Nat) : Int) < ((M : Nat) : Int))) = true), ((decide (((i : Nat) : Int) < ((la : Nat) : Int))) = true), ((0 : Int) ≤ ((i : Nat) : Int)), (((i : Nat) : Int) < ((la : Nat) : Int)), (0 = 0), ((((i : Nat) : Int)).toNat < (List.length A)), ((decide (((i : Nat) : Int) < ((lb : Nat) : Int))) = false), ((0 : Int) ≤ ((i : Nat) : Int)), (((i : Nat) : Int) < ((M : Nat) : Int)), (0 = 0), ((((i : Nat) : Int)).toNat < (List.length L))], Exit.normal, [(SV.v (V1.c (It.clo 83 ([] : List (Prod Nat Nat))))), (SV.v (V1.c (It.slc 128 0 la 4))), (SV.v (V1.c (It.slc 160 0 lb 4))), (SV.v (V1.c (It.slc 288 0 M 4))), (SV.v (V1.c (It.int IntKind.i64 ((M : Nat) : Int)))), (SV.v (V1.c (It.int IntKind.i64 (IntKind.wrap IntKind.i64 (((i : Nat) : Int) + (1 : Int))))))], [(Option.some (En.sq (Sq.s A))), (Option.some (En.sq (Sq.s B))), (Option.some (En.sq (Sq.s (List.set L (((i : Nat) : Int)).toNat ((List.getD A (((i : Nat) : Int)).toNat (0 : Fr)) - (0 : Fr))))))], 59, 816, []⟩ := by kernel_rfl
theorem jsB_hk (A B : List Fr) (la lb M : Nat) (L : List Fr) (i : Nat) : (run envS1 false 3000 ((⟨lpIn jsIn_k, .normal, jsS A B la lb M L i⟩ : Cfg)) [true, true, false]).cfg.k = lpBk jsIn_k := by kernel_rfl
theorem jsB (A B : List Fr) (la lb M : Nat) (L : List Fr) (i : Nat) {w0 : World} {F0 : Nat → Prop} {K : Kp} {ac : List Act} {Q : Exit → Act → World → Prop} {cX : Ctx} {aX : Act} (ho : AllP [((decide (((i : Nat) : Int) < ((M : Nat) : Int))) = true), ((decide (((i : Nat) : Int) < ((la : Nat) : Int))) = true), ((0 : Int) ≤ ((i : Nat) : Int)), (((i : Nat) : Int) < ((la : Nat) : Int)), (0 = 0), ((((i : Nat) : Int)).toNat < (List.length A)), ((decide (((i : Nat) : Int) < ((lb : Nat) : Int))) = false), ((0 : Int) ≤ ((i : Nat) : Int)), (((i : Nat) : Int) < ((M : Nat) : Int)), (0 = 0), ((((i : Nat) : Int)).toNat < (List.length L))]) (hs : Sim w0 F0 K ac (jsS A B la lb M L i) cX aX) (hK : ∀ ac cY aY, Sim w0 F0 K ac (mkSt 59 [2, 8, 9, 10, 29, 30] [(SV.v (V1.c (It.clo 83 ([] : List (Prod Nat Nat))))), (SV.v (V1.c (It.slc 128 0 la 4))), (SV.v (V1.c (It.slc 160 0 lb 4))), (SV.v (V1.c (It.slc 288 0 M 4))), (SV.v (V1.c (It.int IntKind.i64 ((M : Nat) : Int)))), (SV.v (V1.c (It.int IntKind.i64 (IntKind.wrap IntKind.i64 (((i : Nat) : Int) + (1 : Int))))))] [128, 160, 288] [(Option.some (En.sq (Sq.s A))), (Option.some (En.sq (Sq.s B))), (Option.some (En.sq (Sq.s (List.set L (((i : Nat) : Int)).toNat ((List.getD A (((i : Nat) : Int)).toNat (0 : Fr)) - (0 : Fr))))))] 816 [] []) cY aY → Wq Try.prog Q (lpBk jsIn_k) ac Exit.normal aY cY.w) : Wq Try.prog Q (lpIn jsIn_k) ac .normal aX cX.w :=
  run_at2 envS1_ok (jsB_at A B la lb M L i) (jsB_hk A B la lb M L i) ho hs hK
theorem jsC_at (A B : List Fr) (la lb M : Nat) (L : List Fr) (i : Nat) : runAt envS1 false 3000 ((⟨lpIn jsIn_k, .normal, jsS A B la lb M L i⟩ : Cfg)) [true, false, true] [2, 8, 9, 10, 29, 30] [128, 160, 288] [] = some ⟨[((decide (((i : Nat) : Int) < ((M : Nat) : Int))) = true), ((decide (((i : Nat) : Int) < ((la : Nat) : Int))) = false), ((decide (((i : Nat) : Int) < ((lb : Nat) : Int))) = true), ((0 : Int) ≤ ((i : Nat) : Int)), (((i : Nat) : Int) < ((lb : Nat) : Int)), (0 = 0), ((((i : Nat) : Int)).toNat < (List.length B)), ((0 : Int) ≤ ((i : Nat) : Int)), (((i : Nat) : Int) < ((M : Nat) : Int)), (0 = 0), ((((i : Nat) : Int)).toNat < (List.length L))], Exit.normal, [(SV.v (V1.c (It.clo 83 ([] : List (Prod Nat Nat))))), (SV.v (V1.c (It.slc 128 0 la 4))), (SV.v (V1.c (It.slc 160 0 lb 4))), (SV.v (V1.c (It.slc 288 0 M 4))), (SV.v (V1.c (It.int IntKind.i64 ((M : Nat) : Int)))), (SV.v (V1.c (It.int IntKind.i64 (IntKind.wrap IntKind.i64 (((i : Nat) : Int) + (1 : Int))))))], [(Option.some (En.sq (Sq.s A))), (Option.some (En.sq (Sq.s B))), (Option.some (En.sq (Sq.s (List.set L (((i : Nat) : Int)).toNat ((0 : Fr) - (List.getD B (((i : Nat) : Int)).toNat (0 : Fr)))))))], 59, 816, []⟩ := by kernel_rfl
theorem jsC_hk (A B : List Fr) (la lb M : Nat) (L : List Fr) (i : Nat) : (run envS1 false 3000 ((⟨lpIn jsIn_k, .normal, jsS A B la lb M L i⟩ : Cfg)) [true, false, true]).cfg.k = lpBk jsIn_k := by kernel_rfl
theorem jsC (A B : List Fr) (la lb M : Nat) (L : List Fr) (i : Nat) {w0 : World} {F0 : Nat → Prop} {K : Kp} {ac : List Act} {Q : Exit → Act → World → Prop} {cX : Ctx} {aX : Act} (ho : AllP [((decide (((i : Nat) : Int) < ((M : Nat) : Int))) = true), ((decide (((i : Nat) : Int) < ((la : Nat) : Int))) = false), ((decide (((i : Nat) : Int) < ((lb : Nat) : Int))) = true), ((0 : Int) ≤ ((i : Nat) : Int)), (((i : Nat) : Int) < ((lb : Nat) : Int)), (0 = 0), ((((i : Nat) : Int)).toNat < (List.length B)), ((0 : Int) ≤ ((i : Nat) : Int)), (((i : Nat) : Int) < ((M : Nat) : Int)), (0 = 0), ((((i : Nat) : Int)).toNat < (List.length L))]) (hs : Sim w0 F0 K ac (jsS A B la lb M L i) cX aX) (hK : ∀ ac cY aY, Sim w0 F0 K ac (mkSt 59 [2, 8, 9, 10, 29, 30] [(SV.v (V1.c (It.clo 83 ([] : List (Prod Nat Nat))))), (SV.v (V1.c (It.slc 128 0 la 4))), (SV.v (V1.c (It.slc 160 0 lb 4))), (SV.v (V1.c (It.slc 288 0 M 4))), (SV.v (V1.c (It.int IntKind.i64 ((M : Nat) : Int)))), (SV.v (V1.c (It.int IntKind.i64 (IntKind.wrap IntKind.i64 (((i : Nat) : Int) + (1 : Int))))))] [128, 160, 288] [(Option.some (En.sq (Sq.s A))), (Option.some (En.sq (Sq.s B))), (Option.some (En.sq (Sq.s (List.set L (((i : Nat) : Int)).toNat ((0 : Fr) - (List.getD B (((i : Nat) : Int)).toNat (0 : Fr)))))))] 816 [] []) cY aY → Wq Try.prog Q (lpBk jsIn_k) ac Exit.normal aY cY.w) : Wq Try.prog Q (lpIn jsIn_k) ac .normal aX cX.w :=
  run_at2 envS1_ok (jsC_at A B la lb M L i) (jsC_hk A B la lb M L i) ho hs hK
theorem jsX_end (A B : List Fr) (la lb M : Nat) (L : List Fr) (i : Nat) : runEnd envS1 Try.f82 false 3000 (⟨lpIn jsIn_k, .normal, jsS A B la lb M L i⟩) [false] [400] [] = (Option.some ([((decide (((i : Nat) : Int) < ((M : Nat) : Int))) = false), (0 = 0), (M = (List.length L)), (4 = 4), ((List.length L) ≤ 8796093022208)], ((SV.t [(V1.c (It.slc 0 0 (List.length (trimF L)) 4)), (V1.c (It.int IntKind.i64 (0 : Int)))]), [(En.sq (Sq.fr (List.map outF (trimF L))))]))) := by kernel_rfl
noncomputable def rsIn_k : List KI := (run envS1 false 3000 ((fun (a : List U4) (k : U4) => (⟨[.code (bodyOf Try.f46)], .normal, initSt Try.f46.ntmps [.v (.c (.sl (.fr a))), .v (.a [.ob (.fr k)])]⟩ : Cfg)) default default) []).cfg.k
theorem rsIn_at (a : List U4) (k : U4) : runAt envS1 false 3000 ((⟨[.code (bodyOf Try.f46)], .normal, initSt Try.f46.ntmps [.v (.c (.sl (.fr a))), .v (.a [.ob (.fr k)])]⟩ : Cfg)) [] [0, 3, 5, 9, 10] [16, 48] [] = some ⟨[], Exit.normal, [(SV.v (V1.c (It.sl (Sq.fr a)))), (SV.v (V1.c (It.ptr 16 0))), (SV.v (V1.c (It.slc 48 0 0 4))), (SV.v (V1.c (It.int IntKind.i64 (((List.length a) : Nat) : Int)))), (SV.v (V1.c (It.int IntKind.i64 (0 : Int))))], [(Option.some (En.fl [(It.ob (Ob.fr k))])), (Option.some (En.sq (Sq.fr ([] : List U4))))], 25, 128, []⟩ := by kernel_rfl
theorem rsIn_hk (a : List U4) (k : U4) : (run envS1 false 3000 ((⟨[.code (bodyOf Try.f46)], .normal, initSt Try.f46.ntmps [.v (.c (.sl (.fr a))), .v (.a [.ob (.fr k)])]⟩ : Cfg)) []).cfg.k = rsIn_k := by kernel_rfl
theorem rsIn (a : List U4) (k : U4) {w0 : World} {F0 : Nat → Prop} {K : Kp} {ac : List Act} {Q : Exit → Act → World → Prop} {cX : Ctx} {aX : Act} (ho : AllP []) (hs : Sim w0 F0 K ac (initSt Try.f46.ntmps [.v (.c (.sl (.fr a))), .v (.a [.ob (.fr k)])]) cX aX) (hK : ∀ ac cY aY, Sim w0 F0 K ac (mkSt 25 [0, 3, 5, 9, 10] [(SV.v (V1.c (It.sl (Sq.fr a)))), (SV.v (V1.c (It.ptr 16 0))), (SV.v (V1.c (It.slc 48 0 0 4))), (SV.v (V1.c (It.int IntKind.i64 (((List.length a) : Nat) : Int)))), (SV.v (V1.c (It.int IntKind.i64 (0 : Int))))] [16, 48] [(Option.some (En.fl [(It.ob (Ob.fr k))])), (Option.some (En.sq (Sq.fr ([] : List U4))))] 128 [] []) cY aY → Wq Try.prog Q (rsIn_k) ac Exit.normal aY cY.w) : Wq Try.prog Q ([.code (bodyOf Try.f46)]) ac .normal aX cX.w :=
  run_at2 envS1_ok (rsIn_at a k) (rsIn_hk a k) ho hs hK
noncomputable def rsS (a : List U4) (k : U4) (M N : Nat) (L : List U4) (i : Nat) : St := mkSt 25 [0, 3, 5, 9, 10] [(SV.v (V1.c (It.sl (Sq.fr a)))), (SV.v (V1.c (It.ptr 16 0))), .v (.c (.slc 48 0 N 4)), .v (.c (.int .i64 (M : Int))), .v (.c (.int .i64 (i : Int)))] [16, 48] [(Option.some (En.fl [(It.ob (Ob.fr k))])), some (.sq (.fr L))] 128 [] []
theorem rsN_at (a : List U4) (k : U4) (M N : Nat) (L : List U4) (i : Nat) : runAt envS1 false 3000 ((⟨lpIn rsIn_k, .normal, rsS a k M N L i⟩ : Cfg)) [true] [0, 3, 5, 9, 10] [16, 48] [] = some ⟨[((decide (((i : Nat) : Int) < ((M : Nat) : Int))) = true), ((0 : Int) ≤ ((i : Nat) : Int)), ((Fin.val (cleanU k)) < rN), ((((List.length L) + 1) * 32) ≤ 140737488355328), (((List.length L) + 1) ≤ maxLen), (N = (List.length L)), (1 = 1)], Exit.normal, [(SV.v (V1.c (It.sl (Sq.fr a)))), (SV.v (V1.c (It.ptr 16 0))), (SV.v (V1.c (It.slc 48 0 ((List.length L) + 1) 4))), (SV.v (V1.c (It.int IntKind.i64 ((M : Nat) : Int)))), (SV.v (V1.c (It.int IntKind.i64 (IntKind.wrap IntKind.i64 (((i : Nat) : Int) + (1 : Int))))))], [(Option.some (En.fl [(It.ob (Ob.fr k))])), (Option.some (En.sq (Sq.fr (L ++ [(mulU (outF (List.getD (List.map inF a) (((i : Nat) : Int)).toNat (0 : Fr))) (cleanU k))]))))], 25, 368, []⟩ := by kernel_rfl
theorem rsN_hk (a : List U4) (k : U4) (M N : Nat) (L : List U4) (i : Nat) : (run envS1 false 3000 ((⟨lpIn rsIn_k, .normal, rsS a k M N L i⟩ : Cfg)) [true]).cfg.k = lpBk rsIn_k := by kernel_rfl
theorem rsN (a : List U4) (k : U4) (M N : Nat) (L : List U4) (i : Nat) {w0 : World} {F0 : Nat → Prop} {K : Kp} {ac : List Act} {Q : Exit → Act → World → Prop} {cX : Ctx} {aX : Act} (ho : AllP [((decide (((i : Nat) : Int) < ((M : Nat) : Int))) = true), ((0 : Int) ≤ ((i : Nat) : Int)), ((Fin.val (cleanU k)) < rN), ((((List.length L) + 1) * 32) ≤ 140737488355328), (((List.length L) + 1) ≤ maxLen), (N = (List.length L)), (1 = 1)]) (hs : Sim w0 F0 K ac (rsS a k M N L i) cX aX) (hK : ∀ ac cY aY, Sim w0 F0 K ac (mkSt 25 [0, 3, 5, 9, 10] [(SV.v (V1.c (It.sl (Sq.fr a)))), (SV.v (V1.c (It.ptr 16 0))), (SV.v (V1.c (It.slc 48 0 ((List.length L) + 1) 4))), (SV.v (V1.c (It.int IntKind.i64 ((M : Nat) : Int)))), (SV.v (V1.c (It.int IntKind.i64 (IntKind.wrap IntKind.i64 (((i : Nat) : Int) + (1 : Int))))))] [16, 48] [(Option.some (En.fl [(It.ob (Ob.fr k))])), (Option.some (En.sq (Sq.fr (L ++ [(mulU (outF (List.getD (List.map inF a) (((i : Nat) : Int)).toNat (0 : Fr))) (cleanU k))]))))] 368 [] []) cY aY → Wq Try.prog Q (lpBk rsIn_k) ac Exit.normal aY cY.w) : Wq Try.prog Q (lpIn rsIn_k) ac .normal aX cX.w :=
  run_at2 envS1_ok (rsN_at a k M N L i) (rsN_hk a k M N L i) ho hs hK
theorem rsX_end (a : List U4) (k : U4) (M N : Nat) (L : List U4) (i : Nat) : runEnd envS1 Try.f46 false 3000 (⟨lpIn rsIn_k, .normal, rsS a k M N L i⟩) [false] [160] [] = (Option.some ([((decide (((i : Nat) : Int) < ((M : Nat) : Int))) = false), (0 = 0), (N = (List.length L)), (4 = 4), ((List.length L) ≤ 1099511627776)], ((SV.v (V1.c (It.slc 0 0 (List.length (trimF (List.map inF L))) 4))), [(En.sq (Sq.fr (List.map outF (trimF (List.map inF L)))))]))) := by kernel_rfl
end Go.Proofs.Ytlfllehomhcbfaa

/- Sums, differences, multiples of polynomials: contracts. No conditions. -/
namespace Go.Proofs.Ytlfllehomhcbfaa

def subL (a b : List Fr) : List Fr := (List.range (Nat.max a.length b.length)).map fun i => cf a i - cf b i
def scaleL (a : List Fr) (k : Fr) : List Fr := (List.range a.length).map fun i => cf a i * k

theorem sub_self0 {r : Nat} [NeZero r] : (0 : Fin r) - 0 = 0 := by grind

theorem subL_cf (a b : List Fr) (i : Nat) : cf (subL a b) i = cf a i - cf b i := by
  refine cf_range (fun i => cf a i - cf b i) _ _ fun j hj => ?_
  have h1 := Nat.le_max_left a.length b.length
  have h2 := Nat.le_max_right a.length b.length
  have hj : max a.length b.length ≤ j := hj
  rw [cf_out (l := a) (by omega), cf_out (l := b) (by omega)]
  exact sub_self0

theorem scaleL_cf (a : List Fr) (k : Fr) (i : Nat) : cf (scaleL a k) i = cf a i * k := by
  refine cf_range (fun i => cf a i * k) _ _ fun j hj => ?_
  rw [cf_out (l := a) hj, fr_zero_mul]

theorem max_int (m n : Nat) : (if (n : Int) > (m : Int) then (n : Int) else (m : Int)) = ((max m n : Nat) : Int) := by
  split <;> omega
theorem max_two (m n : Nat) : m ≤ max m n ∧ n ≤ max m n ∧ (max m n = m ∨ max m n = n) := by omega

theorem long_two {a b : List U4} (ha : a.length ≤ 262144) (hb : b.length ≤ 262144) : longB ([a] ++ [b]) = false := by
  show (decide (262144 < a.length) || (decide (262144 < b.length) || false)) = false
  rw [decide_eq_false (by omega), decide_eq_false (by omega)]
  rfl

theorem joinAdd_fnd (a b : List U4) (ha : a.length ≤ 262144) (hb : b.length ≤ 262144) : FnD Try.prog 82 [.v (.c (.sl (.fr a))), .v (.c (.sl (.fr b))), .v (.c (.clo 75 []))]
    (.t [.c (.slc 0 0 (trimF (addL (a.map inF) (b.map inF))).length 4), .c (.int .i64 0)]) [.sq (.fr ((trimF (addL (a.map inF) (b.map inF))).map outF))] := by
  refine fn_start (fn := Try.f82) (c := bodyOf Try.f82) Try.func82 rfl rfl fun x a0 hk hF hs => ?_
  have hM := max_int a.length b.length
  have hM2 := max_two a.length b.length
  refine jaIn a b (by rw [hM]; exact ⟨rfl, rfl, rfl, long_two ha hb, by omega, by omega, by omega, rfl, by omega, by omega, trivial⟩) hs fun ac cY aY hs1 => ?_
  rw [hM, Int.toNat_natCast] at hs1
  have hR : addL (a.map inF) (b.map inF) = (List.range (max a.length b.length)).map fun i => cf (a.map inF) i + cf (b.map inF) i := by
    unfold addL
    rw [List.length_map, List.length_map]
  have hAl : (a.map inF).length = a.length := List.length_map ..
  have hBl : (b.map inF).length = b.length := List.length_map ..
  generalize a.map inF = A at *
  generalize b.map inF = B at *
  generalize max a.length b.length = M at *
  generalize a.length = la at *
  generalize b.length = lb at *
  clear hM hs
  refine loop_rule (ι := { i : Nat // i ≤ M }) (fun i => jaS A B la lb M ((List.range i.1).map (fun i => cf A i + cf B i) ++ List.replicate (M - i.1) 0) i.1) (fun i => M - i.1) (c := lpC jaIn_k) (k := lpR jaIn_k) (by kernel_rfl) (fun i ih ac cY aY hs => ?_) ⟨0, Nat.zero_le _⟩ hs1
  obtain ⟨i, hi⟩ := i
  simp only at ih hs
  have hl := fill_len (fun i => cf A i + cf B i) 0 hi
  by_cases h : i < M
  · have hw : IntKind.wrap IntKind.i64 ((i : Int) + 1) = ((i + 1 : Nat) : Int) := by rw [wrap_id (by omega) (by omega)]; omega
    have hset := fill_set (fun i => cf A i + cf B i) 0 h
    by_cases h1 : i < la
    · by_cases h2 : i < lb
      · refine jaA A B la lb M _ i ⟨by simp [h], by simp [h1], by omega, by omega, rfl, by omega, by simp [h2], by omega, by omega, rfl, by omega, by omega, by omega, rfl, by omega, trivial⟩ hs fun ac cY aY hs2 => ?_
        rw [hw, Int.toNat_natCast] at hs2
        have hs2 := hs2
        rw [show A.getD i 0 + B.getD i 0 = cf A i + cf B i from rfl, hset] at hs2
        exact ih ⟨i + 1, by omega⟩ (by show M - (i + 1) < M - i; omega) ac cY aY (hs2.nx _)
      · refine jaB A B la lb M _ i ⟨by simp [h], by simp [h1], by omega, by omega, rfl, by omega, by simp [h2], by omega, by omega, rfl, by omega, trivial⟩ hs fun ac cY aY hs2 => ?_
        rw [hw, Int.toNat_natCast] at hs2
        have e0 : A.getD i 0 + 0 = cf A i + cf B i := by rw [cf_out (l := B) (by omega)]; rfl
        rw [e0, hset] at hs2
        exact ih ⟨i + 1, by omega⟩ (by show M - (i + 1) < M - i; omega) ac cY aY (hs2.nx _)
    · have h2 : i < lb := by omega
      refine jaC A B la lb M _ i ⟨by simp [h], by simp [h1], by simp [h2], by omega, by omega, rfl, by omega, by omega, by omega, rfl, by omega, trivial⟩ hs fun ac cY aY hs2 => ?_
      rw [hw, Int.toNat_natCast] at hs2
      have e0 : (0 : Fr) + B.getD i 0 = cf A i + cf B i := by rw [cf_out (l := A) (by omega)]; rfl
      rw [e0, hset] at hs2
      exact ih ⟨i + 1, by omega⟩ (by show M - (i + 1) < M - i; omega) ac cY aY (hs2.nx _)
  · have e : i = M := by omega
    rw [e, Nat.sub_self, List.replicate_zero, List.append_nil, ← hR] at hs
    have hRl : (addL A B).length = M := by rw [hR, List.length_map, List.length_range]
    exact run_end2 envS1_ok hk hF (jaX_end A B la lb M _ M) ⟨by simp, rfl, hRl.symm, rfl, by omega, trivial⟩ (fun y v hd => hd) hs

theorem joinSub_fnd (a b : List U4) (ha : a.length ≤ 262144) (hb : b.length ≤ 262144) : FnD Try.prog 82 [.v (.c (.sl (.fr a))), .v (.c (.sl (.fr b))), .v (.c (.clo 83 []))]
    (.t [.c (.slc 0 0 (trimF (subL (a.map inF) (b.map inF))).length 4), .c (.int .i64 0)]) [.sq (.fr ((trimF (subL (a.map inF) (b.map inF))).map outF))] := by
  refine fn_start (fn := Try.f82) (c := bodyOf Try.f82) Try.func82 rfl rfl fun x a0 hk hF hs => ?_
  have hM := max_int a.length b.length
  have hM2 := max_two a.length b.length
  refine jsIn a b (by rw [hM]; exact ⟨rfl, rfl, rfl, long_two ha hb, by omega, by omega, by omega, rfl, by omega, by omega, trivial⟩) hs fun ac cY aY hs1 => ?_
  rw [hM, Int.toNat_natCast] at hs1
  have hR : subL (a.map inF) (b.map inF) = (List.range (max a.length b.length)).map fun i => cf (a.map inF) i - cf (b.map inF) i := by
    unfold subL
    rw [List.length_map, List.length_map]
  have hAl : (a.map inF).length = a.length := List.length_map ..
  have hBl : (b.map inF).length = b.length := List.length_map ..
  generalize a.map inF = A at *
  generalize b.map inF = B at *
  generalize max a.length b.length = M at *
  generalize a.length = la at *
  generalize b.length = lb at *
  clear hM hs
  refine loop_rule (ι := { i : Nat // i ≤ M }) (fun i => jsS A B la lb M ((List.range i.1).map (fun i => cf A i - cf B i) ++ List.replicate (M - i.1) 0) i.1) (fun i => M - i.1) (c := lpC jsIn_k) (k := lpR jsIn_k) (by kernel_rfl) (fun i ih ac cY aY hs => ?_) ⟨0, Nat.zero_le _⟩ hs1
  obtain ⟨i, hi⟩ := i
  simp only at ih hs
  have hl := fill_len (fun i => cf A i - cf B i) 0 hi
  by_cases h : i < M
  · have hw : IntKind.wrap IntKind.i64 ((i : Int) + 1) = ((i + 1 : Nat) : Int) := by rw [wrap_id (by omega) (by omega)]; omega
    have hset := fill_set (fun i => cf A i - cf B i) 0 h
    by_cases h1 : i < la
    · by_cases h2 : i < lb
      · refine jsA A B la lb M _ i ⟨by simp [h], by simp [h1], by omega, by omega, rfl, by omega, by simp [h2], by omega, by omega, rfl, by omega, by omega, by omega, rfl, by omega, trivial⟩ hs fun ac cY aY hs2 => ?_
        rw [hw, Int.toNat_natCast] at hs2
        have hs2 := hs2
        rw [show A.getD i 0 - B.getD i 0 = cf A i - cf B i from rfl, hset] at hs2
        exact ih ⟨i + 1, by omega⟩ (by show M - (i + 1) < M - i; omega) ac cY aY (hs2.nx _)
      · refine jsB A B la lb M _ i ⟨by simp [h], by simp [h1], by omega, by omega, rfl, by omega, by simp [h2], by omega, by omega, rfl, by omega, trivial⟩ hs fun ac cY aY hs2 => ?_
        rw [hw, Int.toNat_natCast] at hs2
        have e0 : A.getD i 0 - 0 = cf A i - cf B i := by rw [cf_out (l := B) (by omega)]; rfl
        rw [e0, hset] at hs2
        exact ih ⟨i + 1, by omega⟩ (by show M - (i + 1) < M - i; omega) ac cY aY (hs2.nx _)
    · have h2 : i < lb := by omega
      refine jsC A B la lb M _ i ⟨by simp [h], by simp [h1], by simp [h2], by omega, by omega, rfl, by omega, by omega, by omega, rfl, by omega, trivial⟩ hs fun ac cY aY hs2 => ?_
      rw [hw, Int.toNat_natCast] at hs2
      have e0 : (0 : Fr) - B.getD i 0 = cf A i - cf B i := by rw [cf_out (l := A) (by omega)]; rfl
      rw [e0, hset] at hs2
      exact ih ⟨i + 1, by omega⟩ (by show M - (i + 1) < M - i; omega) ac cY aY (hs2.nx _)
  · have e : i = M := by omega
    rw [e, Nat.sub_self, List.replicate_zero, List.append_nil, ← hR] at hs
    have hRl : (subL A B).length = M := by rw [hR, List.length_map, List.length_range]
    exact run_end2 envS1_ok hk hF (jsX_end A B la lb M _ M) ⟨by simp, rfl, hRl.symm, rfl, by omega, trivial⟩ (fun y v hd => hd) hs

theorem refScale_fnd (a : List U4) (k : U4) (ha : a.length ≤ 1073741824) : FnD Try.prog 46 [.v (.c (.sl (.fr a))), .v (.a [.ob (.fr k)])]
    (.v (.c (.slc 0 0 (trimF (scaleL (a.map inF) (inF k))).length 4))) [.sq (.fr ((trimF (scaleL (a.map inF) (inF k))).map outF))] := by
  refine fn_start (fn := Try.f46) (c := bodyOf Try.f46) Try.func46 rfl rfl fun x a0 hk hF hs => ?_
  refine rsIn a k trivial hs fun ac cY aY hs1 => ?_
  refine loop_rule (ι := { i : Nat // i ≤ a.length }) (fun i => rsS a k a.length i.1 ((List.range i.1).map fun j => outF (cf (a.map inF) j * inF k)) i.1) (fun i => a.length - i.1) (c := lpC rsIn_k) (k := lpR rsIn_k) (by kernel_rfl) (fun i ih ac cY aY hs => ?_) ⟨0, Nat.zero_le _⟩ hs1
  obtain ⟨i, hi⟩ := i
  simp only at ih hs
  have hl : ((List.range i).map fun j => outF (cf (a.map inF) j * inF k)).length = i := by rw [List.length_map, List.length_range]
  by_cases h : i < a.length
  · refine rsN a k a.length i _ i ⟨by simp [h], by omega, clean_lt k, by rw [hl]; omega, by rw [hl]; unfold maxLen; omega, hl.symm, rfl, trivial⟩ hs fun ac cY aY hs2 => ?_
    rw [hl, Int.toNat_natCast, clean_out, mulU_out, show (a.map inF).getD i 0 = cf (a.map inF) i from rfl, range_snoc (fun j => outF (cf (a.map inF) j * inF k)), wrap_id (by omega) (by omega)] at hs2
    exact ih ⟨i + 1, by omega⟩ (by show a.length - (i + 1) < a.length - i; omega) ac cY aY (hs2.nx _)
  · have e : i = a.length := by omega
    have hR : scaleL (a.map inF) (inF k) = (List.range a.length).map fun j => cf (a.map inF) j * inF k := by
      unfold scaleL
      rw [List.length_map]
    have r := rsX_end a k a.length i ((List.range i).map fun j => outF (cf (a.map inF) j * inF k)) i
    have e2 : ((List.range i).map fun j => outF (cf (a.map inF) j * inF k)).map inF = scaleL (a.map inF) (inF k) := by rw [map_range_out, map_in_out, hR, e]
    rw [e2] at r
    exact run_end2 envS1_ok hk hF r ⟨by simp [h], rfl, hl.symm, rfl, by rw [hl]; omega, trivial⟩ (fun y v hd => hd) hs

end Go.Proofs.Ytlfllehomhcbfaa
