/- Parts of a proof, one behind the other: WMakes, PMakes, Fe, Rv, WSw, PSw, WTf, Nt, PTf, WVals, PVals, WVb, WVc. No conditions. -/
import Derived.Test.YtlfllehomhcbfaaDvJ
/- A domain's elements; DomainMakes, walked. No conditions. -/
namespace Go.Proofs.Ytlfllehomhcbfaa

def powersSpec : FnSpec
  | [.v (.a [.ob (.s w)]), .v (.c (.int .i64 n))] => some ([0 ≤ n, n ≤ 8796093022208], .v (.c (.slc 0 0 n.toNat 4)), [.sq (.s (powF w n.toNat))])
  | _ => none
def out69Spec : FnSpec
  | [.v (.c (.sl (.s l)))] => some ([l.length ≤ 8796093022208], .v (.c (.slc 0 0 l.length 4)), [.sq (.fr (l.map outF))])
  | _ => none
def likeSpec : FnSpec
  | [.v (.c (.sl (.fr a))), .v (.c (.sl (.fr b)))] => some ([], .v (.c (.bool (decide (a = b)))), [])
  | _ => none
noncomputable def envN1 : Env := envM.set (addT envM.fn 70 powersSpec)
theorem envN1_ok : EnvOk Try.prog envN1 := env_add envM_ok 70 powersSpec (enters_of Try.func70 rfl rfl) fun args o r es h ho => by
  unfold powersSpec at h
  split at h
  · rename_i w n
    cases h
    obtain ⟨h0, h1, _⟩ := ho
    obtain ⟨m, rfl⟩ := Int.eq_ofNat_of_zero_le h0
    exact powers_fnd w m (by omega)
  · cases h
noncomputable def envN2 : Env := envN1.set (addT envN1.fn 69 out69Spec)
theorem envN2_ok : EnvOk Try.prog envN2 := env_add envN1_ok 69 out69Spec (enters_of Try.func69 rfl rfl) fun args o r es h ho => by
  unfold out69Spec at h
  split at h
  · cases h; exact out69_fnd _ ho.1
  · cases h
noncomputable def envN : Env := envN2.set (addT envN2.fn 27 likeSpec)
theorem envN_ok : EnvOk Try.prog envN := env_add envN2_ok 27 likeSpec (enters_of Try.func27 rfl rfl) fun args o r es h _ => by
  unfold likeSpec at h
  split at h
  · cases h; exact like_fnd _ _
  · cases h

--@env envN envN_ok
theorem elA (log : Int) (w : U4) : fnRes envN Try.f26 3000 [.v (.a [.int .i64 log, .ob (.fr w)])] [true] [] [] = (Option.some ([((Bool.not (domOk log w)) = true)], ((SV.t [(V1.c (It.val (Value.slice Option.none 0 0))), (V1.c (It.int IntKind.i64 (40 : Int)))]), []))) := by kernel_rfl
theorem elB (log : Int) (w : U4) : fnRes envN Try.f26 3000 [.v (.a [.int .i64 log, .ob (.fr w)])] [false] [224] [] = (Option.some ([((Bool.not (domOk log w)) = false), ((0 : Int) ≤ log), ((0 : Int) ≤ (IntKind.wrap IntKind.i64 ((1 : Int) * ((2 : Int) ^ (Min.min (log).toNat 64))))), ((IntKind.wrap IntKind.i64 ((1 : Int) * ((2 : Int) ^ (Min.min (log).toNat 64)))) ≤ (8796093022208 : Int)), (0 = 0), (((IntKind.wrap IntKind.i64 ((1 : Int) * ((2 : Int) ^ (Min.min (log).toNat 64))))).toNat = (List.length (powF (inF w) ((IntKind.wrap IntKind.i64 ((1 : Int) * ((2 : Int) ^ (Min.min (log).toNat 64))))).toNat))), (4 = 4), ((List.length (powF (inF w) ((IntKind.wrap IntKind.i64 ((1 : Int) * ((2 : Int) ^ (Min.min (log).toNat 64))))).toNat)) ≤ 8796093022208)], ((SV.t [(V1.c (It.slc 0 0 (List.length (powF (inF w) ((IntKind.wrap IntKind.i64 ((1 : Int) * ((2 : Int) ^ (Min.min (log).toNat 64))))).toNat)) 4)), (V1.c (It.int IntKind.i64 (0 : Int)))]), [(En.sq (Sq.fr (List.map outF (powF (inF w) ((IntKind.wrap IntKind.i64 ((1 : Int) * ((2 : Int) ^ (Min.min (log).toNat 64))))).toNat))))]))) := by kernel_rfl
def elemF (log : Int) (w : U4) : List U4 := if domOk log w then (powF (inF w) (2 ^ log.toNat)).map outF else []

theorem domOk_log {log : Int} {w : U4} (h : domOk log w = true) : 0 ≤ log ∧ log ≤ 16 ∧ w = outF (sqN rootF (32 - log).toNat) := by
  simp only [domOk, Bool.and_eq_true, decide_eq_true_eq] at h
  obtain ⟨h1, h2⟩ := h
  have h3 := h1
  simp only [okLog, Bool.and_eq_true, decide_eq_true_eq] at h1
  refine ⟨h1.1, h1.2, ?_⟩
  rw [← h2]
  unfold newRoot
  rw [if_pos h3]

theorem shl2 {log : Int} (h0 : 0 ≤ log) (h1 : log ≤ 30) : IntKind.wrap IntKind.i64 ((1 : Int) * ((2 : Int) ^ (Min.min (log).toNat 64))) = ((2 ^ log.toNat : Nat) : Int) ∧ 2 ^ log.toNat ≤ 1073741824 := by
  obtain ⟨k, rfl⟩ := Int.eq_ofNat_of_zero_le h0
  have h := shl1 k (by omega)
  rw [wrap_u (by omega) (by omega)] at h
  exact h

theorem powF_len (w : Fr) (n : Nat) : (powF w n).length = n := by simp [powF]

theorem elems_fnd (log : Int) (w : U4) : FnD Try.prog 26 [.v (.a [.int .i64 log, .ob (.fr w)])] (.t [.c (.slc 0 0 (elemF log w).length 4), .c (.int .i64 (if domOk log w then 0 else 40))]) [.sq (.fr (elemF log w))] := by
  cases h : domOk log w with
  | false =>
    have e : elemF log w = [] := by unfold elemF; rw [h]; rfl
    rw [e]
    exact (fn_sound envN_ok Try.func26 (elA log w) ⟨by rw [h]; rfl, trivial⟩).nil2 rfl
  | true =>
    obtain ⟨h0, h1, _⟩ := domOk_log h
    obtain ⟨e1, e2⟩ := shl2 h0 (by omega)
    have e : elemF log w = (powF (inF w) (2 ^ log.toNat)).map outF := by unfold elemF; rw [h]; rfl
    have r := elB log w
    rw [e1, Int.toNat_natCast, powF_len] at r
    rw [e, List.length_map, powF_len]
    generalize hm : 2 ^ log.toNat = m at r e2
    exact fn_sound envN_ok Try.func26 r ⟨by rw [h]; rfl, h0, by omega, by omega, rfl, rfl, rfl, by omega, trivial⟩

def elemSpec : FnSpec
  | [.v (.a [.int .i64 log, .ob (.fr w)])] => some ([], .t [.c (.slc 0 0 (elemF log w).length 4), .c (.int .i64 (if domOk log w then 0 else 40))], [.sq (.fr (elemF log w))])
  | _ => none
def relemSpec : FnSpec
  | [.v (.a [.int .i64 log, .ob (.fr w)])] => some ([0 ≤ log, log ≤ 16, w.val < rN], .v (.c (.slc 0 0 (2 ^ log.toNat) 4)), [.sq (.fr ((powF (inF w) (2 ^ log.toNat)).map outF))])
  | _ => none
noncomputable def envN3 : Env := envN.set (addT envN.fn 26 elemSpec)
theorem envN3_ok : EnvOk Try.prog envN3 := env_add envN_ok 26 elemSpec (enters_of Try.func26 rfl rfl) fun args o r es h _ => by
  unfold elemSpec at h
  split at h
  · cases h; exact elems_fnd _ _
  · cases h
noncomputable def envO : Env := envN3.set (addT envN3.fn 28 relemSpec)
theorem envO_ok : EnvOk Try.prog envO := env_add envN3_ok 28 relemSpec (enters_of Try.func28 rfl rfl) fun args o r es h ho => by
  unfold relemSpec at h
  split at h
  · rename_i log w
    cases h
    obtain ⟨h0, h1, h2, _⟩ := ho
    obtain ⟨k, rfl⟩ := Int.eq_ofNat_of_zero_le h0
    have hf := refElems_fnd k (inF w) (by omega)
    rw [out_in h2] at hf
    exact hf
  · cases h

--@env envO envO_ok
theorem mkA (log dl : Int) (dw : U4) : fnRes envO Try.f4 3000 [.v (.c (.int .i64 log)), .v (.a [.int .i64 dl, .ob (.fr dw)])] [false, false, false, true] [] [] = (Option.some ([((ite (false = true) (Bool.and ((ite ((okLog log) = true) log (0 : Int)) == (ite ((okLog log) = true) log (0 : Int))) (decide ((newRoot log) = (newRoot log)))) (Bool.not (Bool.and ((ite ((okLog log) = true) log (0 : Int)) == (ite ((okLog log) = true) log (0 : Int))) (decide ((newRoot log) = (newRoot log)))))) = false), (((ite ((okLog log) = true) (0 : Int) (40 : Int)) != (ite ((okLog log) = true) (0 : Int) (40 : Int))) = false), ((ite (false = true) ((domOk dl dw) == (domOk dl dw)) (Bool.not ((domOk dl dw) == (domOk dl dw)))) = false), ((decide (log > (6 : Int))) = true)], ((SV.v (V1.c (It.lit true))), []))) := by kernel_rfl
theorem mkB (log dl : Int) (dw : U4) : fnRes envO Try.f4 3000 [.v (.c (.int .i64 log)), .v (.a [.int .i64 dl, .ob (.fr dw)])] [false, false, false, false, true, true] [] [] = (Option.some ([((ite (false = true) (Bool.and ((ite ((okLog log) = true) log (0 : Int)) == (ite ((okLog log) = true) log (0 : Int))) (decide ((newRoot log) = (newRoot log)))) (Bool.not (Bool.and ((ite ((okLog log) = true) log (0 : Int)) == (ite ((okLog log) = true) log (0 : Int))) (decide ((newRoot log) = (newRoot log)))))) = false), (((ite ((okLog log) = true) (0 : Int) (40 : Int)) != (ite ((okLog log) = true) (0 : Int) (40 : Int))) = false), ((ite (false = true) ((domOk dl dw) == (domOk dl dw)) (Bool.not ((domOk dl dw) == (domOk dl dw)))) = false), ((decide (log > (6 : Int))) = false), (((ite ((okLog log) = true) (0 : Int) (40 : Int)) != (0 : Int)) = true), (((ite ((domOk (ite ((okLog log) = true) log (0 : Int)) (newRoot log)) = true) (0 : Int) (40 : Int)) == (40 : Int)) = true)], ((SV.v (V1.c (It.bool ((((List.length (elemF (ite ((okLog log) = true) log (0 : Int)) (newRoot log))) : Nat) : Int) == (0 : Int))))), []))) := by kernel_rfl
theorem mkC (log dl : Int) (dw : U4) : fnRes envO Try.f4 3000 [.v (.c (.int .i64 log)), .v (.a [.int .i64 dl, .ob (.fr dw)])] [false, false, false, false, false, true] [] [] = (Option.some ([((ite (false = true) (Bool.and ((ite ((okLog log) = true) log (0 : Int)) == (ite ((okLog log) = true) log (0 : Int))) (decide ((newRoot log) = (newRoot log)))) (Bool.not (Bool.and ((ite ((okLog log) = true) log (0 : Int)) == (ite ((okLog log) = true) log (0 : Int))) (decide ((newRoot log) = (newRoot log)))))) = false), (((ite ((okLog log) = true) (0 : Int) (40 : Int)) != (ite ((okLog log) = true) (0 : Int) (40 : Int))) = false), ((ite (false = true) ((domOk dl dw) == (domOk dl dw)) (Bool.not ((domOk dl dw) == (domOk dl dw)))) = false), ((decide (log > (6 : Int))) = false), (((ite ((okLog log) = true) (0 : Int) (40 : Int)) != (0 : Int)) = false), (((ite ((domOk (ite ((okLog log) = true) log (0 : Int)) (newRoot log)) = true) (0 : Int) (40 : Int)) == (0 : Int)) = true), ((0 : Int) ≤ (ite ((okLog log) = true) log (0 : Int))), ((ite ((okLog log) = true) log (0 : Int)) ≤ (16 : Int)), ((Fin.val (newRoot log)) < rN), (0 = 0), ((List.length (elemF (ite ((okLog log) = true) log (0 : Int)) (newRoot log))) = (List.length (elemF (ite ((okLog log) = true) log (0 : Int)) (newRoot log)))), (4 = 4), (0 = 0), ((2 ^ ((ite ((okLog log) = true) log (0 : Int))).toNat) = (List.length (List.map outF (powF (inF (newRoot log)) (2 ^ ((ite ((okLog log) = true) log (0 : Int))).toNat))))), (4 = 4)], ((SV.v (V1.c (It.bool (decide ((elemF (ite ((okLog log) = true) log (0 : Int)) (newRoot log)) = (List.map outF (powF (inF (newRoot log)) (2 ^ ((ite ((okLog log) = true) log (0 : Int))).toNat)))))))), []))) := by kernel_rfl
end Go.Proofs.Ytlfllehomhcbfaa

/- DomainMakes answers true for every number and domain. No conditions. -/
namespace Go.Proofs.Ytlfllehomhcbfaa

theorem ne_self (a : Bool) : (if (false = true) then a else !a) = !a := if_neg (by decide)

theorem dom00 : domOk 0 0 = false := by
  unfold domOk
  rw [newRoot0]
  have h : ¬ ((Fin.ofNat B4 1 : U4) = 0) := fun h => by have := congrArg Fin.val h; revert this; decide
  rw [decide_eq_false h, Bool.and_false]

theorem dom_self {log : Int} (h : okLog log = true) : domOk log (newRoot log) = true := by
  unfold domOk
  rw [h, decide_eq_true rfl]
  rfl

theorem newRoot_lt (log : Int) : (newRoot log).val < rN := by
  unfold newRoot
  split
  · exact outF_lt _
  · decide

theorem makes_fnd (log dl : Int) (dw : U4) : FnD Try.prog 4 [.v (.c (.int .i64 log)), .v (.a [.int .i64 dl, .ob (.fr dw)])] (.v (.c (.bool true))) [] := by
  have q1 : ∀ (a b : Int), (if (false = true) then (a == a && decide (newRoot b = newRoot b)) else !(a == a && decide (newRoot b = newRoot b))) = false := fun a b => by
    rw [ne_self, beq_self_eq_true, decide_eq_true rfl]; rfl
  have q2 : (if (false = true) then (domOk dl dw == domOk dl dw) else !(domOk dl dw == domOk dl dw)) = false := by rw [ne_self, beq_self_eq_true]; rfl
  have q3 : ∀ a : Int, (a != a) = false := fun a => by simp
  by_cases h6 : log > 6
  · exact (fn_sound envO_ok Try.func4 (mkA log dl dw) ⟨q1 _ _, q3 _, q2, by simp [h6], trivial⟩).conv (fun _ _ h => h) fun y v hd => lit_bool rfl hd
  cases hok : okLog log with
  | false =>
    have r := mkB log dl dw
    have hr : newRoot log = 0 := by unfold newRoot; rw [hok]; rfl
    rw [hok, hr] at r
    rw [if_neg (by decide : ¬ (false = true)), if_neg (by decide : ¬ (false = true)), dom00] at r
    have e : elemF 0 0 = [] := by unfold elemF; rw [dom00]; rfl
    rw [e] at r
    refine (fn_sound envO_ok Try.func4 r ⟨?_, rfl, q2, by simp [h6], rfl, rfl, trivial⟩).conv (fun _ _ h => h) fun y v hd => hd
    rfl
  | true =>
    have hl : 0 ≤ log ∧ log ≤ 16 := by simpa [okLog] using hok
    have r := mkC log dl dw
    have hds := dom_self hok
    have hlt := newRoot_lt log
    have e : elemF log (newRoot log) = (powF (inF (newRoot log)) (2 ^ log.toNat)).map outF := by unfold elemF; rw [hds, if_pos rfl]
    rw [hok] at r
    rw [show (if (true = true) then log else (0 : Int)) = log from if_pos rfl, show (if (true = true) then (0 : Int) else 40) = 0 from if_pos rfl, hds, show (if (true = true) then (0 : Int) else 40) = 0 from if_pos rfl] at r
    refine (fn_sound envO_ok Try.func4 r ?_).conv (fun _ _ h => h) fun y v hd => ?_
    · refine ⟨q1 _ _, rfl, q2, by simp [h6], rfl, rfl, hl.1, hl.2, hlt, rfl, rfl, rfl, rfl, by rw [List.length_map, powF_len], rfl, trivial⟩
    · rw [e, decide_eq_true rfl] at hd
      exact hd

end Go.Proofs.Ytlfllehomhcbfaa

/- Elements in and out: sums, zero and one. No conditions. -/
namespace Go.Proofs.Ytlfllehomhcbfaa

theorem clean_out (a : U4) : cleanU a = outF (inF a) := by
  apply Fin.ext
  rw [cleanU_val, outF_val]
  rfl

theorem addU_out (x y : Fr) : cleanU (outF x + outF y) = outF (x + y) := by
  apply Fin.ext
  rw [clean_add_val (outF_lt x) (outF_lt y), outF_val, outF_val, outF_val]
  rfl

theorem fr_zero_add (x : Fr) : 0 + x = x := Fin.zero_add x
theorem fr_add_zero (x : Fr) : x + 0 = x := Fin.add_zero x
theorem fr_mul_zero (x : Fr) : x * 0 = 0 := Fin.mul_zero x
theorem fr_zero_mul (x : Fr) : 0 * x = 0 := Fin.zero_mul x
theorem add_comm_r {r : Nat} [NeZero r] (x y : Fin r) : x + y = y + x := by grind
theorem fr_add_comm (x y : Fr) : x + y = y + x := add_comm_r x y
theorem fr_mul_one (x : Fr) : x * 1 = x := Fin.mul_one x

end Go.Proofs.Ytlfllehomhcbfaa

/- Bits turned round: what the iterator's places are. No conditions. -/
namespace Go.Proofs.Ytlfllehomhcbfaa

/-- Bits of two kinds change places. -/
def swp (m s x : Int) : Int := bitsOp .or .u64 (bitsOp .and .u64 (Int.fdiv x s) m) (IntKind.wrap .u64 ((bitsOp .and .u64 x m) * s))
def rvbV (x : Int) : Int := bitsOp .or .u64 (Int.fdiv (swp 281470681808895 65536 (swp 71777214294589695 256 x)) 4294967296) (IntKind.wrap .u64 (swp 281470681808895 65536 (swp 71777214294589695 256 x) * 4294967296))
def revV (x : Int) : Int := rvbV (swp 1085102592571150095 16 (swp 3689348814741910323 4 (swp 6148914691236517205 2 x)))

def swpB (m : BitVec 64) (s : Nat) (x : BitVec 64) : BitVec 64 := ((x >>> s) &&& m) ||| ((x &&& m) <<< s)

theorem and_bv (x y : BitVec 64) : bitsOp .and .u64 (x.toNat : Int) (y.toNat : Int) = ((x &&& y).toNat : Int) := by
  show IntKind.wrap IntKind.u64 ((BitVec.ofInt 64 (x.toNat : Int) &&& BitVec.ofInt 64 (y.toNat : Int)).toNat : Int) = _
  rw [BitVec.ofInt_natCast, BitVec.ofInt_natCast, BitVec.ofNat_toNat, BitVec.ofNat_toNat]
  exact wrap_u (by omega) (by have := (BitVec.setWidth 64 x &&& BitVec.setWidth 64 y).isLt; omega) |>.trans (by simp)

theorem or_bv (x y : BitVec 64) : bitsOp .or .u64 (x.toNat : Int) (y.toNat : Int) = ((x ||| y).toNat : Int) := by
  show IntKind.wrap IntKind.u64 ((BitVec.ofInt 64 (x.toNat : Int) ||| BitVec.ofInt 64 (y.toNat : Int)).toNat : Int) = _
  rw [BitVec.ofInt_natCast, BitVec.ofInt_natCast, BitVec.ofNat_toNat, BitVec.ofNat_toNat]
  exact wrap_u (by omega) (by have := (BitVec.setWidth 64 x ||| BitVec.setWidth 64 y).isLt; omega) |>.trans (by simp)

theorem shr_bv (x : BitVec 64) (s : Nat) : Int.fdiv (x.toNat : Int) ((2 ^ s : Nat) : Int) = ((x >>> s).toNat : Int) := by
  rw [BitVec.toNat_ushiftRight, Nat.shiftRight_eq_div_pow, Int.fdiv_eq_ediv_of_nonneg _ (Int.natCast_nonneg _)]
  exact (Int.natCast_ediv _ _).symm

theorem shl_bv (x : BitVec 64) (s : Nat) : IntKind.wrap IntKind.u64 ((x.toNat : Int) * ((2 ^ s : Nat) : Int)) = ((x <<< s).toNat : Int) := by
  rw [BitVec.toNat_shiftLeft, Nat.shiftLeft_eq, wrap_u64, ← Int.natCast_mul]
  omega

theorem swp_bv (m : BitVec 64) (s : Nat) (x : BitVec 64) : swp (m.toNat : Int) ((2 ^ s : Nat) : Int) (x.toNat : Int) = ((swpB m s x).toNat : Int) := by
  unfold swp swpB
  rw [shr_bv, and_bv, and_bv, shl_bv, or_bv]

def swap32 (x : BitVec 64) : BitVec 64 := (x >>> 32) ||| (x <<< 32)
def revB (x : BitVec 64) : BitVec 64 := swap32 (swpB 281470681808895#64 16 (swpB 71777214294589695#64 8 (swpB 1085102592571150095#64 4 (swpB 3689348814741910323#64 2 (swpB 6148914691236517205#64 1 x)))))

theorem revV_bv (x : BitVec 64) : revV (x.toNat : Int) = ((revB x).toNat : Int) := by
  unfold revV rvbV revB swap32
  have h1 := swp_bv 6148914691236517205#64 1 x
  have h2 := swp_bv 3689348814741910323#64 2 (swpB 6148914691236517205#64 1 x)
  have h3 := swp_bv 1085102592571150095#64 4 (swpB 3689348814741910323#64 2 (swpB 6148914691236517205#64 1 x))
  have h4 := swp_bv 71777214294589695#64 8 (swpB 1085102592571150095#64 4 (swpB 3689348814741910323#64 2 (swpB 6148914691236517205#64 1 x)))
  have h5 := swp_bv 281470681808895#64 16 (swpB 71777214294589695#64 8 (swpB 1085102592571150095#64 4 (swpB 3689348814741910323#64 2 (swpB 6148914691236517205#64 1 x))))
  have h1 : swp 6148914691236517205 2 (x.toNat : Int) = _ := h1
  rw [h1]
  have h2 : swp 3689348814741910323 4 ((swpB 6148914691236517205#64 1 x).toNat : Int) = _ := h2
  rw [h2]
  have h3 : swp 1085102592571150095 16 _ = _ := h3
  rw [h3]
  have h4 : swp 71777214294589695 256 _ = _ := h4
  rw [h4]
  have h5 : swp 281470681808895 65536 _ = _ := h5
  rw [h5]
  generalize swpB 281470681808895#64 16 _ = y
  have g1 : Int.fdiv (y.toNat : Int) 4294967296 = _ := shr_bv y 32
  have g2 : IntKind.wrap .u64 ((y.toNat : Int) * 4294967296) = _ := shl_bv y 32
  rw [g1, g2, or_bv]

theorem swpB_bit (m : BitVec 64) (s : Nat) (p : Nat → Nat) (h : ∀ i, i < 64 → (m.getLsbD i = true ∧ p i = s + i ∧ (i < s ∨ m.getLsbD (i - s) = false)) ∨ (m.getLsbD i = false ∧ s ≤ i ∧ m.getLsbD (i - s) = true ∧ p i = i - s)) (x : BitVec 64) {i : Nat} (hi : i < 64) :
    (swpB m s x).getLsbD i = x.getLsbD (p i) := by
  unfold swpB
  rw [BitVec.getLsbD_or, BitVec.getLsbD_and, BitVec.getLsbD_ushiftRight, BitVec.getLsbD_shiftLeft, BitVec.getLsbD_and]
  rcases h i hi with ⟨h1, h2, h3⟩ | ⟨h1, h2, h3, h4⟩
  · rw [h1, h2]
    rcases h3 with h3 | h3
    · simp [h3]
    · simp [h3]
  · rw [h1, h3, h4]
    simp [hi, Nat.not_lt.2 h2]

theorem swap32_bit (x : BitVec 64) {i : Nat} (hi : i < 64) : (swap32 x).getLsbD i = x.getLsbD (if i < 32 then 32 + i else i - 32) := by
  unfold swap32
  rw [BitVec.getLsbD_or, BitVec.getLsbD_ushiftRight, BitVec.getLsbD_shiftLeft]
  by_cases h : i < 32
  · simp [h]
  · simp only [h, if_false, hi, decide_true, decide_false, Bool.not_false, Bool.true_and]
    rw [BitVec.getLsbD_of_ge x (32 + i) (by omega)]
    simp

def par (s i : Nat) : Nat := if i / s % 2 = 0 then s + i else i - s

theorem revB_bit (x : BitVec 64) {i : Nat} (hi : i < 64) : (revB x).getLsbD i = x.getLsbD (63 - i) := by
  unfold revB
  have hp : ∀ i, i < 64 → par 1 i < 64 ∧ par 2 i < 64 ∧ par 4 i < 64 ∧ par 8 i < 64 ∧ par 16 i < 64 ∧ (if i < 32 then 32 + i else i - 32) < 64 := by decide
  have he : ∀ i, i < 64 → par 1 (par 2 (par 4 (par 8 (par 16 (if i < 32 then 32 + i else i - 32))))) = 63 - i := by decide
  rw [swap32_bit _ hi, swpB_bit _ 16 (par 16) (by decide) _ (hp _ hi).2.2.2.2.2]
  have h1 := (hp _ (hp _ hi).2.2.2.2.2).2.2.2.2.1
  rw [swpB_bit _ 8 (par 8) (by decide) _ h1]
  have h2 := (hp _ h1).2.2.2.1
  rw [swpB_bit _ 4 (par 4) (by decide) _ h2]
  have h3 := (hp _ h2).2.2.1
  rw [swpB_bit _ 2 (par 2) (by decide) _ h3]
  have h4 := (hp _ h3).2.1
  rw [swpB_bit _ 1 (par 1) (by decide) _ h4, he _ hi]

/-- So many bits turned round. -/
def brv : Nat → Nat → Nat
  | 0, _ => 0
  | m + 1, i => 2 ^ m * (i % 2) + brv m (i / 2)

theorem brv_lt : ∀ m i, brv m i < 2 ^ m
  | 0, _ => by simp [brv]
  | m + 1, i => by
    have := brv_lt m (i / 2)
    have h2 : i % 2 < 2 := Nat.mod_lt _ (by decide)
    simp only [brv, Nat.pow_succ]
    rcases (by omega : i % 2 = 0 ∨ i % 2 = 1) with h | h <;> rw [h] <;> omega

theorem brv_bit : ∀ m i k, (brv m i).testBit k = (decide (k < m) && i.testBit (m - 1 - k))
  | 0, _, k => by simp [brv]
  | m + 1, i, k => by
    simp only [brv]
    rw [Nat.testBit_two_pow_mul_add _ (brv_lt m (i / 2)), brv_bit m (i / 2) k]
    by_cases h : k < m
    · simp only [h, if_true, decide_true, Bool.true_and, Nat.add_sub_cancel]
      rw [show decide (k < m + 1) = true from by simp; omega, Bool.true_and, show m - k = (m - 1 - k) + 1 from by omega, Nat.testBit_succ]
    · simp only [h, if_false]
      by_cases h2 : k = m
      · subst h2
        simp [Nat.testBit_zero]
      · rw [show decide (k < m + 1) = false from by simp; omega, Bool.false_and, Nat.testBit_lt_two_pow]
        exact Nat.lt_of_lt_of_le (Nat.mod_lt _ (by decide)) (by have := Nat.one_lt_two_pow (n := k - m) (by omega); omega)

theorem rev_place {m i : Nat} (hm : 0 < m) (hm2 : m ≤ 16) (hi : i < 2 ^ m) : IntKind.wrap .i64 (Int.fdiv (revV (IntKind.wrap .u64 (i : Int))) ((2 : Int) ^ (Min.min (IntKind.wrap .i64 ((64 : Int) - (m : Int))).toNat 64))) = ((brv m i : Nat) : Int) := by
  have hp : 2 ^ m ≤ 2 ^ 16 := Nat.pow_le_pow_right (by decide) hm2
  have hi64 : i < 18446744073709551616 := by omega
  rw [wrap_u (by omega) (by omega), wrap_id (n := (64 : Int) - (m : Int)) (by omega) (by omega)]
  have e1 : min (((64 : Int) - (m : Int)).toNat) 64 = 64 - m := by omega
  rw [e1]
  have e2 : (i : Int) = ((BitVec.ofNat 64 i).toNat : Int) := by
    rw [BitVec.toNat_ofNat, Nat.mod_eq_of_lt hi64]
  rw [e2, revV_bv]
  have e3 : ((2 : Int) ^ (64 - m)) = ((2 ^ (64 - m) : Nat) : Int) := by simp
  rw [e3, shr_bv]
  have e4 : (revB (BitVec.ofNat 64 i) >>> (64 - m)).toNat = brv m i := by
    apply Nat.eq_of_testBit_eq
    intro k
    rw [brv_bit, BitVec.testBit_toNat, BitVec.getLsbD_ushiftRight]
    by_cases h : k < m
    · rw [revB_bit _ (by omega), show decide (k < m) = true from by simp [h], Bool.true_and, BitVec.getLsbD_ofNat, show 63 - (64 - m + k) = m - 1 - k from by omega]
      simp
      omega
    · rw [BitVec.getLsbD_of_ge _ _ (by omega)]
      simp [h]
  rw [e4]
  have := brv_lt m i
  exact wrap_id (by omega) (by omega)
end Go.Proofs.Ytlfllehomhcbfaa

/- Places whose bits are turned round; the swaps' iterator, walked. No conditions. -/
namespace Go.Proofs.Ytlfllehomhcbfaa

--@env envO envO_ok
theorem rvb (x : Int) : fnRes envO Try.f120 3000 [.v (.c (.int .u64 x))] [] [] [] = (Option.some ([((0 : Int) ≤ (8 : Int)), ((0 : Int) ≤ (8 : Int)), ((0 : Int) ≤ (16 : Int)), ((0 : Int) ≤ (16 : Int)), ((0 : Int) ≤ (32 : Int)), ((0 : Int) ≤ (32 : Int))], ((SV.v (V1.c (It.int IntKind.u64 (bitsOp BinOp.or IntKind.u64 (Int.fdiv (bitsOp BinOp.or IntKind.u64 (bitsOp BinOp.and IntKind.u64 (Int.fdiv (bitsOp BinOp.or IntKind.u64 (bitsOp BinOp.and IntKind.u64 (Int.fdiv x (256 : Int)) (71777214294589695 : Int)) (IntKind.wrap IntKind.u64 ((bitsOp BinOp.and IntKind.u64 x (71777214294589695 : Int)) * (256 : Int)))) (65536 : Int)) (281470681808895 : Int)) (IntKind.wrap IntKind.u64 ((bitsOp BinOp.and IntKind.u64 (bitsOp BinOp.or IntKind.u64 (bitsOp BinOp.and IntKind.u64 (Int.fdiv x (256 : Int)) (71777214294589695 : Int)) (IntKind.wrap IntKind.u64 ((bitsOp BinOp.and IntKind.u64 x (71777214294589695 : Int)) * (256 : Int)))) (281470681808895 : Int)) * (65536 : Int)))) (4294967296 : Int)) (IntKind.wrap IntKind.u64 ((bitsOp BinOp.or IntKind.u64 (bitsOp BinOp.and IntKind.u64 (Int.fdiv (bitsOp BinOp.or IntKind.u64 (bitsOp BinOp.and IntKind.u64 (Int.fdiv x (256 : Int)) (71777214294589695 : Int)) (IntKind.wrap IntKind.u64 ((bitsOp BinOp.and IntKind.u64 x (71777214294589695 : Int)) * (256 : Int)))) (65536 : Int)) (281470681808895 : Int)) (IntKind.wrap IntKind.u64 ((bitsOp BinOp.and IntKind.u64 (bitsOp BinOp.or IntKind.u64 (bitsOp BinOp.and IntKind.u64 (Int.fdiv x (256 : Int)) (71777214294589695 : Int)) (IntKind.wrap IntKind.u64 ((bitsOp BinOp.and IntKind.u64 x (71777214294589695 : Int)) * (256 : Int)))) (281470681808895 : Int)) * (65536 : Int)))) * (4294967296 : Int))))))), []))) := by kernel_rfl

theorem rvb_fnd (x : Int) : FnD Try.prog 120 [.v (.c (.int .u64 x))] (.v (.c (.int .u64 (rvbV x)))) [] :=
  fn_sound envO_ok Try.func120 (rvb x) ⟨by decide, by decide, by decide, by decide, by decide, by decide, trivial⟩
def rvbSpec : FnSpec
  | [.v (.c (.int .u64 x))] => some ([], .v (.c (.int .u64 (rvbV x))), [])
  | _ => none
noncomputable def envW1 : Env := envO.set (addT envO.fn 120 rvbSpec)
theorem envW1_ok : EnvOk Try.prog envW1 := env_add envO_ok 120 rvbSpec (enters_of Try.func120 rfl rfl) fun args o r es h _ => by
  unfold rvbSpec at h
  split at h
  · cases h; exact rvb_fnd _
  · cases h
--@env envW1 envW1_ok
theorem rev (x : Int) : fnRes envW1 Try.f116 3000 [.v (.c (.int .u64 x))] [] [] [] = (Option.some ([((0 : Int) ≤ (1 : Int)), ((0 : Int) ≤ (1 : Int)), ((0 : Int) ≤ (2 : Int)), ((0 : Int) ≤ (2 : Int)), ((0 : Int) ≤ (4 : Int)), ((0 : Int) ≤ (4 : Int))], ((SV.v (V1.c (It.int IntKind.u64 (rvbV (bitsOp BinOp.or IntKind.u64 (bitsOp BinOp.and IntKind.u64 (Int.fdiv (bitsOp BinOp.or IntKind.u64 (bitsOp BinOp.and IntKind.u64 (Int.fdiv (bitsOp BinOp.or IntKind.u64 (bitsOp BinOp.and IntKind.u64 (Int.fdiv x (2 : Int)) (6148914691236517205 : Int)) (IntKind.wrap IntKind.u64 ((bitsOp BinOp.and IntKind.u64 x (6148914691236517205 : Int)) * (2 : Int)))) (4 : Int)) (3689348814741910323 : Int)) (IntKind.wrap IntKind.u64 ((bitsOp BinOp.and IntKind.u64 (bitsOp BinOp.or IntKind.u64 (bitsOp BinOp.and IntKind.u64 (Int.fdiv x (2 : Int)) (6148914691236517205 : Int)) (IntKind.wrap IntKind.u64 ((bitsOp BinOp.and IntKind.u64 x (6148914691236517205 : Int)) * (2 : Int)))) (3689348814741910323 : Int)) * (4 : Int)))) (16 : Int)) (1085102592571150095 : Int)) (IntKind.wrap IntKind.u64 ((bitsOp BinOp.and IntKind.u64 (bitsOp BinOp.or IntKind.u64 (bitsOp BinOp.and IntKind.u64 (Int.fdiv (bitsOp BinOp.or IntKind.u64 (bitsOp BinOp.and IntKind.u64 (Int.fdiv x (2 : Int)) (6148914691236517205 : Int)) (IntKind.wrap IntKind.u64 ((bitsOp BinOp.and IntKind.u64 x (6148914691236517205 : Int)) * (2 : Int)))) (4 : Int)) (3689348814741910323 : Int)) (IntKind.wrap IntKind.u64 ((bitsOp BinOp.and IntKind.u64 (bitsOp BinOp.or IntKind.u64 (bitsOp BinOp.and IntKind.u64 (Int.fdiv x (2 : Int)) (6148914691236517205 : Int)) (IntKind.wrap IntKind.u64 ((bitsOp BinOp.and IntKind.u64 x (6148914691236517205 : Int)) * (2 : Int)))) (3689348814741910323 : Int)) * (4 : Int)))) (1085102592571150095 : Int)) * (16 : Int)))))))), []))) := by kernel_rfl
theorem rev_fnd (x : Int) : FnD Try.prog 116 [.v (.c (.int .u64 x))] (.v (.c (.int .u64 (revV x)))) [] :=
  fn_sound envW1_ok Try.func116 (rev x) ⟨by decide, by decide, by decide, by decide, by decide, by decide, trivial⟩
def revSpec : FnSpec
  | [.v (.c (.int .u64 x))] => some ([], .v (.c (.int .u64 (revV x))), [])
  | _ => none
noncomputable def envW2 : Env := envW1.set (addT envW1.fn 116 revSpec)
theorem envW2_ok : EnvOk Try.prog envW2 := env_add envW1_ok 116 revSpec (enters_of Try.func116 rfl rfl) fun args o r es h _ => by
  unfold revSpec at h
  split at h
  · cases h; exact rev_fnd _
  · cases h

noncomputable def inlW (T : Nat → Option Func) (f : Nat) : Option Func := if f = 107 then some Try.f107 else T f
noncomputable def envW : Env := { envW2 with inl := inlW envW2.inl }
theorem envW_ok : EnvOk Try.prog envW := by
  refine ⟨envW2_ok.ty, envW2_ok.mixed, envW2_ok.fn, envW2_ok.mu, fun f fn h => ?_, envW2_ok.ex, envW2_ok.inv⟩
  have h : inlW envW2.inl f = some fn := h
  unfold inlW at h
  split at h
  · rename_i hf; cases h; subst hf; exact ⟨Try.func107, enters_of Try.func107 rfl rfl⟩
  exact envW2_ok.inl f fn h

--@env envW envW_ok
noncomputable def sw_k : List KI := (run envW false 3000 ((fun (l : Nat) (log : Int) => (⟨[.code (bodyOf Try.f115)], .normal, ⟨argT [.v (.c (.val (.func (.yield l) #[] #[]))), .v (.c (.ptr 0 0))], one (.fl [.int .i64 log]), Try.f115.ntmps, 16, []⟩⟩ : Cfg)) default default) []).cfg.k
theorem sw_at (l : Nat) (log : Int) : runAt envW false 3000 ((⟨[.code (bodyOf Try.f115)], .normal, ⟨argT [.v (.c (.val (.func (.yield l) #[] #[]))), .v (.c (.ptr 0 0))], one (.fl [.int .i64 log]), Try.f115.ntmps, 16, []⟩⟩ : Cfg)) [] [0, 1, 6, 7] [0] [] = some ⟨[((0 : Int) ≤ log)], Exit.normal, [(SV.v (V1.c (It.val (Value.func (Fn.yield l) (Array.mk ([] : List Value)) (Array.mk ([] : List Value)))))), (SV.v (V1.c (It.ptr 0 0))), (SV.v (V1.c (It.int IntKind.i64 (IntKind.wrap IntKind.i64 ((1 : Int) * ((2 : Int) ^ (Min.min (log).toNat 64))))))), (SV.v (V1.c (It.int IntKind.i64 (0 : Int))))], [(Option.some (En.fl [(It.int IntKind.i64 log)]))], 30, 64, []⟩ := by kernel_rfl
theorem sw_hk (l : Nat) (log : Int) : (run envW false 3000 ((⟨[.code (bodyOf Try.f115)], .normal, ⟨argT [.v (.c (.val (.func (.yield l) #[] #[]))), .v (.c (.ptr 0 0))], one (.fl [.int .i64 log]), Try.f115.ntmps, 16, []⟩⟩ : Cfg)) []).cfg.k = sw_k := by kernel_rfl
theorem sw (l : Nat) (log : Int) {w0 : World} {F0 : Nat → Prop} {K : Kp} {ac : List Act} {Q : Exit → Act → World → Prop} {cX : Ctx} {aX : Act} (ho : AllP [((0 : Int) ≤ log)]) (hs : Sim w0 F0 K ac (⟨argT [.v (.c (.val (.func (.yield l) #[] #[]))), .v (.c (.ptr 0 0))], one (.fl [.int .i64 log]), Try.f115.ntmps, 16, []⟩) cX aX) (hK : ∀ ac cY aY, Sim w0 F0 K ac (mkSt 30 [0, 1, 6, 7] [(SV.v (V1.c (It.val (Value.func (Fn.yield l) (Array.mk ([] : List Value)) (Array.mk ([] : List Value)))))), (SV.v (V1.c (It.ptr 0 0))), (SV.v (V1.c (It.int IntKind.i64 (IntKind.wrap IntKind.i64 ((1 : Int) * ((2 : Int) ^ (Min.min (log).toNat 64))))))), (SV.v (V1.c (It.int IntKind.i64 (0 : Int))))] [0] [(Option.some (En.fl [(It.int IntKind.i64 log)]))] 64 [] []) cY aY → Wq Try.prog Q (sw_k) ac Exit.normal aY cY.w) : Wq Try.prog Q ([.code (bodyOf Try.f115)]) ac .normal aX cX.w :=
  run_at2 envW_ok (sw_at l log) (sw_hk l log) ho hs hK
noncomputable def swS (l : Nat) (log n i : Int) : St := mkSt 30 [0, 1, 6, 7] [(SV.v (V1.c (It.val (Value.func (Fn.yield l) (Array.mk ([] : List Value)) (Array.mk ([] : List Value)))))), (SV.v (V1.c (It.ptr 0 0))), .v (.c (.int .i64 n)), .v (.c (.int .i64 i))] [0] [(Option.some (En.fl [(It.int IntKind.i64 log)]))] 64 [] []
noncomputable def swY_k : List KI := (run envW false 3000 ((fun (l : Nat) (log n i : Int) => (⟨lpIn sw_k, .normal, swS l log n i⟩ : Cfg)) default default default default) [true, true, true]).cfg.k
theorem swY_at (l : Nat) (log n i : Int) : runAt envW false 3000 ((⟨lpIn sw_k, .normal, swS l log n i⟩ : Cfg)) [true, true, true] [0, 1, 6, 7, 22, 23, 24, 25] [0] [] = some ⟨[((decide (i < n)) = true), ((decide (log > (0 : Int))) = true), ((0 : Int) ≤ (IntKind.wrap IntKind.i64 ((64 : Int) - log))), ((decide (i < (IntKind.wrap IntKind.i64 (Int.fdiv (revV (IntKind.wrap IntKind.u64 i)) ((2 : Int) ^ (Min.min ((IntKind.wrap IntKind.i64 ((64 : Int) - log))).toNat 64)))))) = true)], Exit.normal, [(SV.v (V1.c (It.val (Value.func (Fn.yield l) (Array.mk ([] : List Value)) (Array.mk ([] : List Value)))))), (SV.v (V1.c (It.ptr 0 0))), (SV.v (V1.c (It.int IntKind.i64 n))), (SV.v (V1.c (It.int IntKind.i64 i))), (SV.v (V1.c (It.lit true))), (SV.v (V1.c (It.val (Value.func (Fn.yield l) (Array.mk ([] : List Value)) (Array.mk ([] : List Value)))))), (SV.v (V1.c (It.int IntKind.i64 i))), (SV.v (V1.c (It.int IntKind.i64 (IntKind.wrap IntKind.i64 (Int.fdiv (revV (IntKind.wrap IntKind.u64 i)) ((2 : Int) ^ (Min.min ((IntKind.wrap IntKind.i64 ((64 : Int) - log))).toNat 64)))))))], [(Option.some (En.fl [(It.int IntKind.i64 log)]))], 30, 400, []⟩ := by kernel_rfl
theorem swY_hk (l : Nat) (log n i : Int) : (run envW false 3000 ((⟨lpIn sw_k, .normal, swS l log n i⟩ : Cfg)) [true, true, true]).cfg.k = swY_k := by kernel_rfl
theorem swY (l : Nat) (log n i : Int) {w0 : World} {F0 : Nat → Prop} {K : Kp} {ac : List Act} {Q : Exit → Act → World → Prop} {cX : Ctx} {aX : Act} (ho : AllP [((decide (i < n)) = true), ((decide (log > (0 : Int))) = true), ((0 : Int) ≤ (IntKind.wrap IntKind.i64 ((64 : Int) - log))), ((decide (i < (IntKind.wrap IntKind.i64 (Int.fdiv (revV (IntKind.wrap IntKind.u64 i)) ((2 : Int) ^ (Min.min ((IntKind.wrap IntKind.i64 ((64 : Int) - log))).toNat 64)))))) = true)]) (hs : Sim w0 F0 K ac (swS l log n i) cX aX) (hK : ∀ ac cY aY, Sim w0 F0 K ac (mkSt 30 [0, 1, 6, 7, 22, 23, 24, 25] [(SV.v (V1.c (It.val (Value.func (Fn.yield l) (Array.mk ([] : List Value)) (Array.mk ([] : List Value)))))), (SV.v (V1.c (It.ptr 0 0))), (SV.v (V1.c (It.int IntKind.i64 n))), (SV.v (V1.c (It.int IntKind.i64 i))), (SV.v (V1.c (It.lit true))), (SV.v (V1.c (It.val (Value.func (Fn.yield l) (Array.mk ([] : List Value)) (Array.mk ([] : List Value)))))), (SV.v (V1.c (It.int IntKind.i64 i))), (SV.v (V1.c (It.int IntKind.i64 (IntKind.wrap IntKind.i64 (Int.fdiv (revV (IntKind.wrap IntKind.u64 i)) ((2 : Int) ^ (Min.min ((IntKind.wrap IntKind.i64 ((64 : Int) - log))).toNat 64)))))))] [0] [(Option.some (En.fl [(It.int IntKind.i64 log)]))] 400 [] []) cY aY → Wq Try.prog Q (swY_k) ac Exit.normal aY cY.w) : Wq Try.prog Q (lpIn sw_k) ac .normal aX cX.w :=
  run_at2 envW_ok (swY_at l log n i) (swY_hk l log n i) ho hs hK
theorem swB_at (l : Nat) (log n i j : Int) : runAt envW false 3000 ((⟨opsNext swY_k, .normal, ⟨setT (look .top [0, 1, 6, 7, 22, 23, 24, 25] [(.v (.c (.val (.func (.yield l) #[] #[])))), .v (.c (.ptr 0 0)), .v (.c (.int .i64 n)), .v (.c (.int .i64 i)), .v (.c (.lit true)), (.v (.c (.val (.func (.yield l) #[] #[])))), .v (.c (.int .i64 i)), .v (.c (.int .i64 j))]) 26 (.v (.c (.lit true))), one (.fl [.int .i64 log]), 30, 400, []⟩⟩ : Cfg)) [] [0, 1, 6, 7] [0] [] = some ⟨[], Exit.normal, [(SV.v (V1.c (It.val (Value.func (Fn.yield l) (Array.mk ([] : List Value)) (Array.mk ([] : List Value)))))), (SV.v (V1.c (It.ptr 0 0))), (SV.v (V1.c (It.int IntKind.i64 n))), (SV.v (V1.c (It.int IntKind.i64 (IntKind.wrap IntKind.i64 (i + (1 : Int))))))], [(Option.some (En.fl [(It.int IntKind.i64 log)]))], 30, 464, []⟩ := by kernel_rfl
theorem swB_hk (l : Nat) (log n i j : Int) : (run envW false 3000 ((⟨opsNext swY_k, .normal, ⟨setT (look .top [0, 1, 6, 7, 22, 23, 24, 25] [(.v (.c (.val (.func (.yield l) #[] #[])))), .v (.c (.ptr 0 0)), .v (.c (.int .i64 n)), .v (.c (.int .i64 i)), .v (.c (.lit true)), (.v (.c (.val (.func (.yield l) #[] #[])))), .v (.c (.int .i64 i)), .v (.c (.int .i64 j))]) 26 (.v (.c (.lit true))), one (.fl [.int .i64 log]), 30, 400, []⟩⟩ : Cfg)) []).cfg.k = lpBk sw_k := by kernel_rfl
theorem swB (l : Nat) (log n i j : Int) {w0 : World} {F0 : Nat → Prop} {K : Kp} {ac : List Act} {Q : Exit → Act → World → Prop} {cX : Ctx} {aX : Act} (ho : AllP []) (hs : Sim w0 F0 K ac (⟨setT (look .top [0, 1, 6, 7, 22, 23, 24, 25] [(.v (.c (.val (.func (.yield l) #[] #[])))), .v (.c (.ptr 0 0)), .v (.c (.int .i64 n)), .v (.c (.int .i64 i)), .v (.c (.lit true)), (.v (.c (.val (.func (.yield l) #[] #[])))), .v (.c (.int .i64 i)), .v (.c (.int .i64 j))]) 26 (.v (.c (.lit true))), one (.fl [.int .i64 log]), 30, 400, []⟩) cX aX) (hK : ∀ ac cY aY, Sim w0 F0 K ac (mkSt 30 [0, 1, 6, 7] [(SV.v (V1.c (It.val (Value.func (Fn.yield l) (Array.mk ([] : List Value)) (Array.mk ([] : List Value)))))), (SV.v (V1.c (It.ptr 0 0))), (SV.v (V1.c (It.int IntKind.i64 n))), (SV.v (V1.c (It.int IntKind.i64 (IntKind.wrap IntKind.i64 (i + (1 : Int))))))] [0] [(Option.some (En.fl [(It.int IntKind.i64 log)]))] 464 [] []) cY aY → Wq Try.prog Q (lpBk sw_k) ac Exit.normal aY cY.w) : Wq Try.prog Q (opsNext swY_k) ac .normal aX cX.w :=
  run_at2 envW_ok (swB_at l log n i j) (swB_hk l log n i j) ho hs hK
theorem swN_at (l : Nat) (log n i : Int) : runAt envW false 3000 ((⟨lpIn sw_k, .normal, swS l log n i⟩ : Cfg)) [true, true, false] [0, 1, 6, 7] [0] [] = some ⟨[((decide (i < n)) = true), ((decide (log > (0 : Int))) = true), ((0 : Int) ≤ (IntKind.wrap IntKind.i64 ((64 : Int) - log))), ((decide (i < (IntKind.wrap IntKind.i64 (Int.fdiv (revV (IntKind.wrap IntKind.u64 i)) ((2 : Int) ^ (Min.min ((IntKind.wrap IntKind.i64 ((64 : Int) - log))).toNat 64)))))) = false)], Exit.normal, [(SV.v (V1.c (It.val (Value.func (Fn.yield l) (Array.mk ([] : List Value)) (Array.mk ([] : List Value)))))), (SV.v (V1.c (It.ptr 0 0))), (SV.v (V1.c (It.int IntKind.i64 n))), (SV.v (V1.c (It.int IntKind.i64 (IntKind.wrap IntKind.i64 (i + (1 : Int))))))], [(Option.some (En.fl [(It.int IntKind.i64 log)]))], 30, 480, []⟩ := by kernel_rfl
theorem swN_hk (l : Nat) (log n i : Int) : (run envW false 3000 ((⟨lpIn sw_k, .normal, swS l log n i⟩ : Cfg)) [true, true, false]).cfg.k = lpBk sw_k := by kernel_rfl
theorem swN (l : Nat) (log n i : Int) {w0 : World} {F0 : Nat → Prop} {K : Kp} {ac : List Act} {Q : Exit → Act → World → Prop} {cX : Ctx} {aX : Act} (ho : AllP [((decide (i < n)) = true), ((decide (log > (0 : Int))) = true), ((0 : Int) ≤ (IntKind.wrap IntKind.i64 ((64 : Int) - log))), ((decide (i < (IntKind.wrap IntKind.i64 (Int.fdiv (revV (IntKind.wrap IntKind.u64 i)) ((2 : Int) ^ (Min.min ((IntKind.wrap IntKind.i64 ((64 : Int) - log))).toNat 64)))))) = false)]) (hs : Sim w0 F0 K ac (swS l log n i) cX aX) (hK : ∀ ac cY aY, Sim w0 F0 K ac (mkSt 30 [0, 1, 6, 7] [(SV.v (V1.c (It.val (Value.func (Fn.yield l) (Array.mk ([] : List Value)) (Array.mk ([] : List Value)))))), (SV.v (V1.c (It.ptr 0 0))), (SV.v (V1.c (It.int IntKind.i64 n))), (SV.v (V1.c (It.int IntKind.i64 (IntKind.wrap IntKind.i64 (i + (1 : Int))))))] [0] [(Option.some (En.fl [(It.int IntKind.i64 log)]))] 480 [] []) cY aY → Wq Try.prog Q (lpBk sw_k) ac Exit.normal aY cY.w) : Wq Try.prog Q (lpIn sw_k) ac .normal aX cX.w :=
  run_at2 envW_ok (swN_at l log n i) (swN_hk l log n i) ho hs hK
theorem swZ_at (l : Nat) (log n i : Int) : runAt envW false 3000 ((⟨lpIn sw_k, .normal, swS l log n i⟩ : Cfg)) [true, false, false] [0, 1, 6, 7] [0] [] = some ⟨[((decide (i < n)) = true), ((decide (log > (0 : Int))) = false), ((decide (i < (0 : Int))) = false)], Exit.normal, [(SV.v (V1.c (It.val (Value.func (Fn.yield l) (Array.mk ([] : List Value)) (Array.mk ([] : List Value)))))), (SV.v (V1.c (It.ptr 0 0))), (SV.v (V1.c (It.int IntKind.i64 n))), (SV.v (V1.c (It.int IntKind.i64 (IntKind.wrap IntKind.i64 (i + (1 : Int))))))], [(Option.some (En.fl [(It.int IntKind.i64 log)]))], 30, 352, []⟩ := by kernel_rfl
theorem swZ_hk (l : Nat) (log n i : Int) : (run envW false 3000 ((⟨lpIn sw_k, .normal, swS l log n i⟩ : Cfg)) [true, false, false]).cfg.k = lpBk sw_k := by kernel_rfl
theorem swZ (l : Nat) (log n i : Int) {w0 : World} {F0 : Nat → Prop} {K : Kp} {ac : List Act} {Q : Exit → Act → World → Prop} {cX : Ctx} {aX : Act} (ho : AllP [((decide (i < n)) = true), ((decide (log > (0 : Int))) = false), ((decide (i < (0 : Int))) = false)]) (hs : Sim w0 F0 K ac (swS l log n i) cX aX) (hK : ∀ ac cY aY, Sim w0 F0 K ac (mkSt 30 [0, 1, 6, 7] [(SV.v (V1.c (It.val (Value.func (Fn.yield l) (Array.mk ([] : List Value)) (Array.mk ([] : List Value)))))), (SV.v (V1.c (It.ptr 0 0))), (SV.v (V1.c (It.int IntKind.i64 n))), (SV.v (V1.c (It.int IntKind.i64 (IntKind.wrap IntKind.i64 (i + (1 : Int))))))] [0] [(Option.some (En.fl [(It.int IntKind.i64 log)]))] 352 [] []) cY aY → Wq Try.prog Q (lpBk sw_k) ac Exit.normal aY cY.w) : Wq Try.prog Q (lpIn sw_k) ac .normal aX cX.w :=
  run_at2 envW_ok (swZ_at l log n i) (swZ_hk l log n i) ho hs hK
theorem swX_at (l : Nat) (log n i : Int) : runAt envW false 3000 ((⟨lpIn sw_k, .normal, swS l log n i⟩ : Cfg)) [false] [] [0] [] = some ⟨[((decide (i < n)) = false)], Exit.normal, [], [(Option.some (En.fl [(It.int IntKind.i64 log)]))], 30, 80, []⟩ := by kernel_rfl
theorem swX_hk (l : Nat) (log n i : Int) : (run envW false 3000 ((⟨lpIn sw_k, .normal, swS l log n i⟩ : Cfg)) [false]).cfg.k = [] := by kernel_rfl
theorem swX (l : Nat) (log n i : Int) {w0 : World} {F0 : Nat → Prop} {K : Kp} {ac : List Act} {Q : Exit → Act → World → Prop} {cX : Ctx} {aX : Act} (ho : AllP [((decide (i < n)) = false)]) (hs : Sim w0 F0 K ac (swS l log n i) cX aX) (hK : ∀ ac cY aY, Sim w0 F0 K ac (mkSt 30 [] [] [0] [(Option.some (En.fl [(It.int IntKind.i64 log)]))] 80 [] []) cY aY → Wq Try.prog Q ([]) ac Exit.normal aY cY.w) : Wq Try.prog Q (lpIn sw_k) ac .normal aX cX.w :=
  run_at2 envW_ok (swX_at l log n i) (swX_hk l log n i) ho hs hK
end Go.Proofs.Ytlfllehomhcbfaa

/- The swaps' iterator yields the places of which the first has the greater one as its bits turned round. No conditions. -/
namespace Go.Proofs.Ytlfllehomhcbfaa

/-- The pairs among the first so many places. -/
def prs (log : Nat) : Nat → List (Nat × Nat)
  | 0 => []
  | i + 1 => prs log i ++ (if i < brv log i then [(i, brv log i)] else [])

theorem prs_pre (log : Nat) : ∀ {n i : Nat}, i ≤ n → ∃ t, prs log n = prs log i ++ t
  | 0, i, h => ⟨[], by rw [show i = 0 from by omega]; simp⟩
  | n + 1, i, h => by
    by_cases h1 : i = n + 1
    · exact ⟨[], by rw [h1]; simp⟩
    · obtain ⟨t, ht⟩ := prs_pre log (n := n) (i := i) (by omega)
      exact ⟨_, by simp only [prs]; rw [ht, List.append_assoc]⟩

def prEnc (z : Nat × Nat) : List Value := [.int .i64 (z.1 : Int), .int .i64 (z.2 : Int)]

theorem shl_one {log : Nat} (h : log ≤ 16) : IntKind.wrap .i64 ((1 : Int) * ((2 : Int) ^ (min ((log : Int)).toNat 64))) = ((2 ^ log : Nat) : Int) := by
  have hp : 2 ^ log ≤ 2 ^ 16 := Nat.pow_le_pow_right (by decide) h
  rw [Int.one_mul, show min ((log : Int)).toNat 64 = log from by omega]
  have e3 : ((2 : Int) ^ log) = ((2 ^ log : Nat) : Int) := by simp
  rw [e3]
  generalize 2 ^ log = n at *
  exact wrap_id (by omega) (by omega)

theorem box_den {y : Ctx} {p : Nat} {log : Int} : ∀ (cs : Array Value) ty, y.w.heap[y.β p]? = some (.cells cs ty (0, 0)) → denEn y (.fl [.int .i64 log]) cs.toList → denEn (itCtx y p) (.fl [.int .i64 log]) cs.toList := by
  intro cs ty _ h
  exact pure_En (e := .fl [.int .i64 log]) rfl h

theorem swaps_iter {x : Ctx} {p log : Nat} {M : List (Nat × Nat) → Nat → Option En} (hlog : log ≤ 16) (hM : ∀ s, M s p = some (.fl [.int .i64 (log : Int)])) : IterC Try.prog x 115 [(p, 0)] prEnc (prs log (2 ^ log)) M := by
  intro l J W hgrow hread hyield hJ
  have key : Wq Try.prog (bodyPost Try.prog Try.f115 fun e W' => (∃ v, e = Ending.returned v) ∧ J (prs log (2 ^ log)) W') [.code (bodyOf Try.f115)] [] .normal { tmps := [Value.func (.yield l) #[] #[], .pointer (some ⟨x.β p, 0, none⟩)].toArray ++ Array.replicate 28 undef, defers := [] } W := ?_
  · exact calls_of_wp (c := bodyOf Try.f115) Try.func115 rfl ((wpIn_wide (n := 0)).1 key.wp)
  obtain ⟨y, rfl, hm, hc⟩ := hread [] W hJ
  obtain ⟨hr, hβ⟩ := hc (p, 0) List.mem_cons_self
  have hr : y.k p = .real := hr
  have hβ : y.β p = x.β p := hβ
  have hp2 : 2 ^ log ≤ 2 ^ 16 := Nat.pow_le_pow_right (by decide) hlog
  have hargs : denSs (itCtx y p) [.v (.c (.val (.func (.yield l) #[] #[]))), .v (.c (.ptr 0 0))] [.func (.yield l) #[] #[], .pointer (some ⟨x.β p, 0, none⟩)] :=
    .cons ⟨rfl, 0, rfl, rfl⟩ (.cons ⟨rfl, 0, rfl, by show _ = [Value.pointer (some ⟨y.β p, 0, none⟩)]; rw [hβ]⟩ .nil)
  have hs := it_sim (nx := 16) (nt := 30) (a := { tmps := [Value.func (.yield l) #[] #[], .pointer (some ⟨x.β p, 0, none⟩)].toArray ++ Array.replicate 28 undef, defers := [] }) hm (hM []) hr box_den rfl (by simp) (argT_den hargs 28)
  change Wq Try.prog _ _ _ _ _ (itCtx y p).w
  refine sw l (log : Int) ⟨by omega, trivial⟩ hs fun ac cY aY hs1 => ?_
  rw [shl_one hlog] at hs1
  let I : { i : Nat // i ≤ 2 ^ log } → List Act → Act → World → Prop := fun i ac a w => ∃ y z, z.w = w ∧ y.k p = .real ∧ y.β p = x.β p ∧ Mem y (M (prs log i.1)) ∧ J (prs log i.1) y.w ∧ Sim y.w y.F (kPin (itCtx y p)) ac (swS l (log : Int) ((2 ^ log : Nat) : Int) (i.1 : Int)) z a
  refine loop_inv I (fun i => 2 ^ log - i.1) (c := lpC sw_k) (k := lpR sw_k) (by kernel_rfl) (fun i ih ac b w hI => ?_) ⟨0, Nat.zero_le _⟩ ⟨y, cY, rfl, hr, hβ, hm, hJ, hs1.nx _⟩
  obtain ⟨i, hi⟩ := i
  obtain ⟨y, z, rfl, hr, hβ, hm, hJ, hs⟩ := hI
  simp only at hm hJ hs ih
  have hmb : Mem (itCtx y p) (one (.fl [.int .i64 (log : Int)])) := it_mem hm (hM _) hr box_den
  by_cases h : i < 2 ^ log
  · have hd : decide ((i : Int) < ((2 ^ log : Nat) : Int)) = true := decide_eq_true (Int.ofNat_lt.2 h)
    have hw : IntKind.wrap IntKind.i64 ((i : Int) + 1) = ((i + 1 : Nat) : Int) := by rw [wrap_id (by omega) (by omega)]; omega
    by_cases h0 : log = 0
    · subst h0
      refine swZ l _ _ _ ⟨hd, by simp, by simp, trivial⟩ hs fun ac cZ aZ hs2 => ?_
      rw [hw] at hs2
      have e : prs 0 (i + 1) = prs 0 i := by simp [prs, brv]
      exact ih ⟨i + 1, by omega⟩ (by show 2 ^ 0 - (i + 1) < 2 ^ 0 - i; omega) ac aZ _ ⟨y, cZ, rfl, hr, hβ, by rw [e]; exact hm, by rw [e]; exact hJ, hs2.nx _⟩
    · have hj := rev_place (m := log) (i := i) (by omega) hlog h
      have hpos : decide ((log : Int) > (0 : Int)) = true := by simp; omega
      have hsub : (0 : Int) ≤ IntKind.wrap IntKind.i64 ((64 : Int) - (log : Int)) := by rw [wrap_id (by omega) (by omega)]; omega
      by_cases h1 : i < brv log i
      · have e : prs log (i + 1) = prs log i ++ [(i, brv log i)] := by simp [prs, h1]
        refine swY l _ _ _ ⟨hd, hpos, hsub, by rw [hj]; simp [h1], trivial⟩ hs fun ac cZ aZ hs2 => ?_
        rw [hj] at hs2
        obtain ⟨hg, hk2, hβ2⟩ := it_back hmb rfl hs2 rfl
        have hJ2 := hgrow _ _ _ hJ hg
        obtain ⟨t, ht⟩ := prs_pre log (n := 2 ^ log) (i := i + 1) (by omega)
        refine yield_at (R := fun W' => J (prs log (i + 1)) W') (dst := some 26) (f := .tmp 23) (args := [.tmp 24, .tmp 25]) (by kernel_rfl) hs2 (l := l) rfl (vs := prEnc (i, brv log i)) ?_ ?_ fun W' hJ3 => ?_
        · have h24 := D_int (hs2.t 24)
          have h25 := D_int (hs2.t 25)
          show [aZ.tmps.getD 24 undef, aZ.tmps.getD 25 undef] = _
          rw [h24, h25]
          rfl
        · have := hyield (prs log i) (i, brv log i) _ hJ2 ⟨t, by rw [ht, e, List.append_assoc]; rfl⟩
          rw [← e] at this
          exact this
        · obtain ⟨y3, rfl, hm3, hc3⟩ := hread _ _ hJ3
          obtain ⟨hr3, hβ3⟩ := hc3 (p, 0) List.mem_cons_self
          have hs3 := it_again (nx' := 400) (dst := 26) (b := true) hs2 (by kernel_rfl) rfl hm3 (hM _) hr3 box_den (by rw [hβ2, hβ]; exact hβ3.symm) (by decide)
          change Wq Try.prog _ _ _ _ _ (itCtx y3 p).w
          refine swB l _ _ _ _ trivial hs3 fun ac cV aV hs4 => ?_
          rw [hw] at hs4
          exact ih ⟨i + 1, by omega⟩ (by show 2 ^ log - (i + 1) < 2 ^ log - i; omega) ac aV _ ⟨y3, cV, rfl, hr3, hβ3, hm3, hJ3, hs4.nx _⟩
      · have e : prs log (i + 1) = prs log i := by simp [prs, h1]
        refine swN l _ _ _ ⟨hd, hpos, hsub, by rw [hj]; simp; omega, trivial⟩ hs fun ac cZ aZ hs2 => ?_
        rw [hw] at hs2
        exact ih ⟨i + 1, by omega⟩ (by show 2 ^ log - (i + 1) < 2 ^ log - i; omega) ac aZ _ ⟨y, cZ, rfl, hr, hβ, by rw [e]; exact hm, by rw [e]; exact hJ, hs2.nx _⟩
  · have e : i = 2 ^ log := by omega
    subst e
    refine swX l _ _ _ ⟨by simp, trivial⟩ hs fun ac cZ aZ hs2 => ?_
    obtain ⟨hg, _, _⟩ := it_back hmb rfl hs2 rfl
    exact ⟨it_end envW1_ok hs2 rfl rfl rfl (fun v => ⟨⟨v, rfl⟩, hgrow _ _ _ hJ hg⟩) (.inr rfl)⟩

end Go.Proofs.Ytlfllehomhcbfaa

/- The transform, walked: places change, then rounds of sums and differences. No conditions. -/
namespace Go.Proofs.Ytlfllehomhcbfaa

--@env envW envW_ok
noncomputable def tf_k : List KI := (run envW false 3000 ((fun (L : List Fr) (n : Nat) (log : Int) (w : Fr) => (⟨[.code (bodyOf Try.f86)], .normal, muSt Try.f86.ntmps 0 n 4 (.sq (.s L)) [.v (.c (.int .i64 log)), .v (.a [.ob (.s w)])]⟩ : Cfg)) default default default default) []).cfg.k
theorem tf_at (L : List Fr) (n : Nat) (log : Int) (w : Fr) : runAt envW false 3000 ((⟨[.code (bodyOf Try.f86)], .normal, muSt Try.f86.ntmps 0 n 4 (.sq (.s L)) [.v (.c (.int .i64 log)), .v (.a [.ob (.s w)])]⟩ : Cfg)) [] [3, 5, 16] [0, 16, 32, 64] [] = some ⟨[], Exit.normal, [(SV.v (V1.c (It.ptr 16 0))), (SV.v (V1.c (It.ptr 32 0))), (SV.v (V1.c (It.clo 115 [(64, 0)])))], [(Option.some (En.sq (Sq.s L))), (Option.some (En.fl [(It.slc 0 0 n 4)])), (Option.some (En.fl [(It.ob (Ob.s w))])), (Option.some (En.fl [(It.int IntKind.i64 log)]))], 102, 128, []⟩ := by kernel_rfl
theorem tf_hk (L : List Fr) (n : Nat) (log : Int) (w : Fr) : (run envW false 3000 ((⟨[.code (bodyOf Try.f86)], .normal, muSt Try.f86.ntmps 0 n 4 (.sq (.s L)) [.v (.c (.int .i64 log)), .v (.a [.ob (.s w)])]⟩ : Cfg)) []).cfg.k = tf_k := by kernel_rfl
theorem tf (L : List Fr) (n : Nat) (log : Int) (w : Fr) {w0 : World} {F0 : Nat → Prop} {K : Kp} {ac : List Act} {Q : Exit → Act → World → Prop} {cX : Ctx} {aX : Act} (ho : AllP []) (hs : Sim w0 F0 K ac (muSt Try.f86.ntmps 0 n 4 (.sq (.s L)) [.v (.c (.int .i64 log)), .v (.a [.ob (.s w)])]) cX aX) (hK : ∀ ac cY aY, Sim w0 F0 K ac (mkSt 102 [3, 5, 16] [(SV.v (V1.c (It.ptr 16 0))), (SV.v (V1.c (It.ptr 32 0))), (SV.v (V1.c (It.clo 115 [(64, 0)])))] [0, 16, 32, 64] [(Option.some (En.sq (Sq.s L))), (Option.some (En.fl [(It.slc 0 0 n 4)])), (Option.some (En.fl [(It.ob (Ob.s w))])), (Option.some (En.fl [(It.int IntKind.i64 log)]))] 128 [] []) cY aY → Wq Try.prog Q (tf_k) ac Exit.normal aY cY.w) : Wq Try.prog Q ([.code (bodyOf Try.f86)]) ac .normal aX cX.w :=
  run_at2 envW_ok (tf_at L n log w) (tf_hk L n log w) ho hs hK
noncomputable def tfS (L : List Fr) (n : Nat) (log : Int) (w : Fr) : St := mkSt 102 [3, 5, 16] [(SV.v (V1.c (It.ptr 16 0))), (SV.v (V1.c (It.ptr 32 0))), (SV.v (V1.c (It.clo 115 [(64, 0)])))] [0, 16, 32, 64] [some (.sq (.s L)), (Option.some (En.fl [(It.slc 0 0 n 4)])), (Option.some (En.fl [(It.ob (Ob.s w))])), (Option.some (En.fl [(It.int IntKind.i64 log)]))] 128 [] []
theorem tfA_at (L : List Fr) (n : Nat) (log : Int) (w : Fr) (i j : Nat) : runAt envW false 3000 ((⟨[.code (rfA tf_k)], .normal, roundSt (tfS L n log w) [(17, .v (.c (.int .i64 (i : Int)))), (18, .v (.c (.int .i64 (j : Int))))]⟩ : Cfg)) [] [3, 5, 6, 7] [0, 16, 32, 64] [[3, 5, 16]] = some ⟨[], Exit.normal, [(SV.v (V1.c (It.ptr 16 0))), (SV.v (V1.c (It.ptr 32 0))), (SV.v (V1.c (It.int IntKind.i64 ((i : Nat) : Int)))), (SV.v (V1.c (It.int IntKind.i64 ((j : Nat) : Int))))], [(Option.some (En.sq (Sq.s L))), (Option.some (En.fl [(It.slc 0 0 n 4)])), (Option.some (En.fl [(It.ob (Ob.s w))])), (Option.some (En.fl [(It.int IntKind.i64 log)]))], 102, 160, [([(SV.v (V1.c (It.ptr 16 0))), (SV.v (V1.c (It.ptr 32 0))), (SV.v (V1.c (It.clo 115 [(64, 0)])))], 102)]⟩ := by kernel_rfl
theorem tfA_hk (L : List Fr) (n : Nat) (log : Int) (w : Fr) (i j : Nat) : (run envW false 3000 ((⟨[.code (rfA tf_k)], .normal, roundSt (tfS L n log w) [(17, .v (.c (.int .i64 (i : Int)))), (18, .v (.c (.int .i64 (j : Int))))]⟩ : Cfg)) []).cfg.k = [] := by kernel_rfl
theorem tfA (L : List Fr) (n : Nat) (log : Int) (w : Fr) (i j : Nat) {w0 : World} {F0 : Nat → Prop} {K : Kp} {ac : List Act} {Q : Exit → Act → World → Prop} {cX : Ctx} {aX : Act} {ρ : Option Nat} (ho : AllP []) (hs : Sim w0 F0 K ac (roundSt (tfS L n log w) [(17, .v (.c (.int .i64 (i : Int)))), (18, .v (.c (.int .i64 (j : Int))))]) cX aX) (hK : ∀ cY aY, Sim w0 F0 K ac (mkSt 102 [3, 5, 6, 7] [(SV.v (V1.c (It.ptr 16 0))), (SV.v (V1.c (It.ptr 32 0))), (SV.v (V1.c (It.int IntKind.i64 ((i : Nat) : Int)))), (SV.v (V1.c (It.int IntKind.i64 ((j : Nat) : Int))))] [0, 16, 32, 64] [(Option.some (En.sq (Sq.s L))), (Option.some (En.fl [(It.slc 0 0 n 4)])), (Option.some (En.fl [(It.ob (Ob.s w))])), (Option.some (En.fl [(It.int IntKind.i64 log)]))] 160 [[3, 5, 16]] [([(SV.v (V1.c (It.ptr 16 0))), (SV.v (V1.c (It.ptr 32 0))), (SV.v (V1.c (It.clo 115 [(64, 0)])))], 102)]) cY aY → Wq Try.prog Q ([]) ac Exit.normal aY cY.w ρ) : Wq Try.prog Q ([.code (rfA tf_k)]) ac .normal aX cX.w ρ :=
  run_atT envW_ok (tfA_at L n log w i j) (tfA_hk L n log w i j) ho (by kernel_rfl) (by kernel_rfl) hs hK
noncomputable def tfB (L : List Fr) (n : Nat) (log : Int) (w : Fr) (i j : Nat) : St := mkSt 102 [3, 5, 6, 7] [(SV.v (V1.c (It.ptr 16 0))), (SV.v (V1.c (It.ptr 32 0))), (SV.v (V1.c (It.int IntKind.i64 ((i : Nat) : Int)))), (SV.v (V1.c (It.int IntKind.i64 ((j : Nat) : Int))))] [0, 16, 32, 64] [some (.sq (.s L)), (Option.some (En.fl [(It.slc 0 0 n 4)])), (Option.some (En.fl [(It.ob (Ob.s w))])), (Option.some (En.fl [(It.int IntKind.i64 log)]))] 160 [[3, 5, 16]] [([(SV.v (V1.c (It.ptr 16 0))), (SV.v (V1.c (It.ptr 32 0))), (SV.v (V1.c (It.clo 115 [(64, 0)])))], 102)]
theorem tfC_at (L : List Fr) (n : Nat) (log : Int) (w : Fr) (i j : Nat) : runAt envW false 3000 ((⟨[.code (rfB tf_k)], .normal, tfB L n log w i j⟩ : Cfg)) [] [] [0, 16, 32, 64] [[3, 5, 16]] = some ⟨[((0 : Int) ≤ ((j : Nat) : Int)), (((j : Nat) : Int) < ((n : Nat) : Int)), (0 = 0), ((((j : Nat) : Int)).toNat < (List.length L)), ((0 : Int) ≤ ((i : Nat) : Int)), (((i : Nat) : Int) < ((n : Nat) : Int)), (0 = 0), ((((i : Nat) : Int)).toNat < (List.length L)), ((0 : Int) ≤ ((i : Nat) : Int)), (((i : Nat) : Int) < ((n : Nat) : Int)), (0 = 0), ((((i : Nat) : Int)).toNat < (List.length L)), ((0 : Int) ≤ ((j : Nat) : Int)), (((j : Nat) : Int) < ((n : Nat) : Int)), (0 = 0), ((((j : Nat) : Int)).toNat < (List.length (List.set L (((i : Nat) : Int)).toNat (List.getD L (((j : Nat) : Int)).toNat (0 : Fr)))))], Exit.normal, [], [(Option.some (En.sq (Sq.s (List.set (List.set L (((i : Nat) : Int)).toNat (List.getD L (((j : Nat) : Int)).toNat (0 : Fr))) (((j : Nat) : Int)).toNat (List.getD L (((i : Nat) : Int)).toNat (0 : Fr)))))), (Option.some (En.fl [(It.slc 0 0 n 4)])), (Option.some (En.fl [(It.ob (Ob.s w))])), (Option.some (En.fl [(It.int IntKind.i64 log)]))], 102, 416, [([(SV.v (V1.c (It.ptr 16 0))), (SV.v (V1.c (It.ptr 32 0))), (SV.v (V1.c (It.clo 115 [(64, 0)])))], 102)]⟩ := by kernel_rfl
theorem tfC_hk (L : List Fr) (n : Nat) (log : Int) (w : Fr) (i j : Nat) : (run envW false 3000 ((⟨[.code (rfB tf_k)], .normal, tfB L n log w i j⟩ : Cfg)) []).cfg.k = [] := by kernel_rfl
theorem tfC (L : List Fr) (n : Nat) (log : Int) (w : Fr) (i j : Nat) {w0 : World} {F0 : Nat → Prop} {K : Kp} {ac : List Act} {Q : Exit → Act → World → Prop} {cX : Ctx} {aX : Act} {ρ : Option Nat} (ho : AllP [((0 : Int) ≤ ((j : Nat) : Int)), (((j : Nat) : Int) < ((n : Nat) : Int)), (0 = 0), ((((j : Nat) : Int)).toNat < (List.length L)), ((0 : Int) ≤ ((i : Nat) : Int)), (((i : Nat) : Int) < ((n : Nat) : Int)), (0 = 0), ((((i : Nat) : Int)).toNat < (List.length L)), ((0 : Int) ≤ ((i : Nat) : Int)), (((i : Nat) : Int) < ((n : Nat) : Int)), (0 = 0), ((((i : Nat) : Int)).toNat < (List.length L)), ((0 : Int) ≤ ((j : Nat) : Int)), (((j : Nat) : Int) < ((n : Nat) : Int)), (0 = 0), ((((j : Nat) : Int)).toNat < (List.length (List.set L (((i : Nat) : Int)).toNat (List.getD L (((j : Nat) : Int)).toNat (0 : Fr)))))]) (hs : Sim w0 F0 K ac (tfB L n log w i j) cX aX) (hK : ∀ cY aY, Sim w0 F0 K ac (mkSt 102 [] [] [0, 16, 32, 64] [(Option.some (En.sq (Sq.s (List.set (List.set L (((i : Nat) : Int)).toNat (List.getD L (((j : Nat) : Int)).toNat (0 : Fr))) (((j : Nat) : Int)).toNat (List.getD L (((i : Nat) : Int)).toNat (0 : Fr)))))), (Option.some (En.fl [(It.slc 0 0 n 4)])), (Option.some (En.fl [(It.ob (Ob.s w))])), (Option.some (En.fl [(It.int IntKind.i64 log)]))] 416 [[3, 5, 16]] [([(SV.v (V1.c (It.ptr 16 0))), (SV.v (V1.c (It.ptr 32 0))), (SV.v (V1.c (It.clo 115 [(64, 0)])))], 102)]) cY aY → Wq Try.prog Q ([]) ac Exit.normal aY cY.w ρ) : Wq Try.prog Q ([.code (rfB tf_k)]) ac .normal aX cX.w ρ :=
  run_atT envW_ok (tfC_at L n log w i j) (tfC_hk L n log w i j) ho (by kernel_rfl) (by kernel_rfl) hs hK
noncomputable def tfE (L : List Fr) (n : Nat) (log : Int) (w : Fr) : St := mkSt 102 [] [] [0, 16, 32, 64] [some (.sq (.s L)), (Option.some (En.fl [(It.slc 0 0 n 4)])), (Option.some (En.fl [(It.ob (Ob.s w))])), (Option.some (En.fl [(It.int IntKind.i64 log)]))] 416 [[3, 5, 16]] [([(SV.v (V1.c (It.ptr 16 0))), (SV.v (V1.c (It.ptr 32 0))), (SV.v (V1.c (It.clo 115 [(64, 0)])))], 102)]
noncomputable def tg_k : List KI := (run envW false 3000 ((fun (L : List Fr) (n : Nat) (log : Int) (w : Fr) => (⟨rfR tf_k, .normal, tfS L n log w⟩ : Cfg)) default default default default) []).cfg.k
theorem tg_at (L : List Fr) (n : Nat) (log : Int) (w : Fr) : runAt envW false 3000 ((⟨rfR tf_k, .normal, tfS L n log w⟩ : Cfg)) [] [3, 8, 9] [0, 16, 208] [] = some ⟨[((2 : Int) ≠ (0 : Int)), ((0 : Int) ≤ (ite ((1 : Int) > (IntKind.wrap IntKind.i64 (Int.tdiv ((n : Nat) : Int) (2 : Int)))) (1 : Int) (IntKind.wrap IntKind.i64 (Int.tdiv ((n : Nat) : Int) (2 : Int))))), ((ite ((1 : Int) > (IntKind.wrap IntKind.i64 (Int.tdiv ((n : Nat) : Int) (2 : Int)))) (1 : Int) (IntKind.wrap IntKind.i64 (Int.tdiv ((n : Nat) : Int) (2 : Int)))) ≤ (8796093022208 : Int))], Exit.normal, [(SV.v (V1.c (It.ptr 16 0))), (SV.v (V1.c (It.slc 208 0 ((ite ((1 : Int) > (IntKind.wrap IntKind.i64 (Int.tdiv ((n : Nat) : Int) (2 : Int)))) (1 : Int) (IntKind.wrap IntKind.i64 (Int.tdiv ((n : Nat) : Int) (2 : Int))))).toNat 4))), (SV.v (V1.c (It.int IntKind.i64 (1 : Int))))], [(Option.some (En.sq (Sq.s L))), (Option.some (En.fl [(It.slc 0 0 n 4)])), (Option.some (En.sq (Sq.s (powF w ((ite ((1 : Int) > (IntKind.wrap IntKind.i64 (Int.tdiv ((n : Nat) : Int) (2 : Int)))) (1 : Int) (IntKind.wrap IntKind.i64 (Int.tdiv ((n : Nat) : Int) (2 : Int))))).toNat))))], 102, 256, []⟩ := by kernel_rfl
theorem tg_hk (L : List Fr) (n : Nat) (log : Int) (w : Fr) : (run envW false 3000 ((⟨rfR tf_k, .normal, tfS L n log w⟩ : Cfg)) []).cfg.k = tg_k := by kernel_rfl
theorem tg (L : List Fr) (n : Nat) (log : Int) (w : Fr) {w0 : World} {F0 : Nat → Prop} {K : Kp} {ac : List Act} {Q : Exit → Act → World → Prop} {cX : Ctx} {aX : Act} (ho : AllP [((2 : Int) ≠ (0 : Int)), ((0 : Int) ≤ (ite ((1 : Int) > (IntKind.wrap IntKind.i64 (Int.tdiv ((n : Nat) : Int) (2 : Int)))) (1 : Int) (IntKind.wrap IntKind.i64 (Int.tdiv ((n : Nat) : Int) (2 : Int))))), ((ite ((1 : Int) > (IntKind.wrap IntKind.i64 (Int.tdiv ((n : Nat) : Int) (2 : Int)))) (1 : Int) (IntKind.wrap IntKind.i64 (Int.tdiv ((n : Nat) : Int) (2 : Int)))) ≤ (8796093022208 : Int))]) (hs : Sim w0 F0 K ac (tfS L n log w) cX aX) (hK : ∀ ac cY aY, Sim w0 F0 K ac (mkSt 102 [3, 8, 9] [(SV.v (V1.c (It.ptr 16 0))), (SV.v (V1.c (It.slc 208 0 ((ite ((1 : Int) > (IntKind.wrap IntKind.i64 (Int.tdiv ((n : Nat) : Int) (2 : Int)))) (1 : Int) (IntKind.wrap IntKind.i64 (Int.tdiv ((n : Nat) : Int) (2 : Int))))).toNat 4))), (SV.v (V1.c (It.int IntKind.i64 (1 : Int))))] [0, 16, 208] [(Option.some (En.sq (Sq.s L))), (Option.some (En.fl [(It.slc 0 0 n 4)])), (Option.some (En.sq (Sq.s (powF w ((ite ((1 : Int) > (IntKind.wrap IntKind.i64 (Int.tdiv ((n : Nat) : Int) (2 : Int)))) (1 : Int) (IntKind.wrap IntKind.i64 (Int.tdiv ((n : Nat) : Int) (2 : Int))))).toNat))))] 256 [] []) cY aY → Wq Try.prog Q (tg_k) ac Exit.normal aY cY.w) : Wq Try.prog Q (rfR tf_k) ac .normal aX cX.w :=
  run_at2 envW_ok (tg_at L n log w) (tg_hk L n log w) ho hs hK
noncomputable def tgS (L A : List Fr) (n m : Nat) (half : Int) : St := mkSt 102 [3, 8, 9] [(SV.v (V1.c (It.ptr 16 0))), .v (.c (.slc 208 0 m 4)), .v (.c (.int .i64 half))] [0, 16, 208] [some (.sq (.s L)), (Option.some (En.fl [(It.slc 0 0 n 4)])), some (.sq (.s A))] 256 [] []
noncomputable def th_k : List KI := (run envW false 3000 ((fun (L A : List Fr) (n m : Nat) (half : Int) => (⟨lpIn tg_k, .normal, tgS L A n m half⟩ : Cfg)) default default default default default) [true]).cfg.k
theorem th_at (L A : List Fr) (n m : Nat) (half : Int) : runAt envW false 3000 ((⟨lpIn tg_k, .normal, tgS L A n m half⟩ : Cfg)) [true] [3, 8, 9, 10, 11] [0, 16, 208] [] = some ⟨[((decide (half < ((n : Nat) : Int))) = true), ((IntKind.wrap IntKind.i64 ((2 : Int) * half)) ≠ (0 : Int))], Exit.normal, [(SV.v (V1.c (It.ptr 16 0))), (SV.v (V1.c (It.slc 208 0 m 4))), (SV.v (V1.c (It.int IntKind.i64 half))), (SV.v (V1.c (It.int IntKind.i64 (IntKind.wrap IntKind.i64 (Int.tdiv ((n : Nat) : Int) (IntKind.wrap IntKind.i64 ((2 : Int) * half))))))), (SV.v (V1.c (It.int IntKind.i64 (0 : Int))))], [(Option.some (En.sq (Sq.s L))), (Option.some (En.fl [(It.slc 0 0 n 4)])), (Option.some (En.sq (Sq.s A)))], 102, 432, []⟩ := by kernel_rfl
theorem th_hk (L A : List Fr) (n m : Nat) (half : Int) : (run envW false 3000 ((⟨lpIn tg_k, .normal, tgS L A n m half⟩ : Cfg)) [true]).cfg.k = th_k := by kernel_rfl
theorem th (L A : List Fr) (n m : Nat) (half : Int) {w0 : World} {F0 : Nat → Prop} {K : Kp} {ac : List Act} {Q : Exit → Act → World → Prop} {cX : Ctx} {aX : Act} (ho : AllP [((decide (half < ((n : Nat) : Int))) = true), ((IntKind.wrap IntKind.i64 ((2 : Int) * half)) ≠ (0 : Int))]) (hs : Sim w0 F0 K ac (tgS L A n m half) cX aX) (hK : ∀ ac cY aY, Sim w0 F0 K ac (mkSt 102 [3, 8, 9, 10, 11] [(SV.v (V1.c (It.ptr 16 0))), (SV.v (V1.c (It.slc 208 0 m 4))), (SV.v (V1.c (It.int IntKind.i64 half))), (SV.v (V1.c (It.int IntKind.i64 (IntKind.wrap IntKind.i64 (Int.tdiv ((n : Nat) : Int) (IntKind.wrap IntKind.i64 ((2 : Int) * half))))))), (SV.v (V1.c (It.int IntKind.i64 (0 : Int))))] [0, 16, 208] [(Option.some (En.sq (Sq.s L))), (Option.some (En.fl [(It.slc 0 0 n 4)])), (Option.some (En.sq (Sq.s A)))] 432 [] []) cY aY → Wq Try.prog Q (th_k) ac Exit.normal aY cY.w) : Wq Try.prog Q (lpIn tg_k) ac .normal aX cX.w :=
  run_at2 envW_ok (th_at L A n m half) (th_hk L A n m half) ho hs hK
noncomputable def thS (L A : List Fr) (n m : Nat) (half st fr : Int) : St := mkSt 102 [3, 8, 9, 10, 11] [(SV.v (V1.c (It.ptr 16 0))), (SV.v (V1.c (It.slc 208 0 m 4))), (SV.v (V1.c (It.int IntKind.i64 half))), .v (.c (.int .i64 st)), .v (.c (.int .i64 fr))] [0, 16, 208] [(Option.some (En.sq (Sq.s L))), (Option.some (En.fl [(It.slc 0 0 n 4)])), (Option.some (En.sq (Sq.s A)))] 432 [] []
noncomputable def ti_k : List KI := (run envW false 3000 ((fun (L A : List Fr) (n m : Nat) (half st fr : Int) => (⟨lpIn th_k, .normal, thS L A n m half st fr⟩ : Cfg)) default default default default default default default) [true]).cfg.k
theorem ti_at (L A : List Fr) (n m : Nat) (half st fr : Int) : runAt envW false 3000 ((⟨lpIn th_k, .normal, thS L A n m half st fr⟩ : Cfg)) [true] [3, 8, 9, 10, 11, 58, 59] [0, 16, 208] [] = some ⟨[((decide (fr < ((n : Nat) : Int))) = true)], Exit.normal, [(SV.v (V1.c (It.ptr 16 0))), (SV.v (V1.c (It.slc 208 0 m 4))), (SV.v (V1.c (It.int IntKind.i64 half))), (SV.v (V1.c (It.int IntKind.i64 st))), (SV.v (V1.c (It.int IntKind.i64 fr))), (SV.v (V1.c (It.int IntKind.i64 half))), (SV.v (V1.c (It.int IntKind.i64 (0 : Int))))], [(Option.some (En.sq (Sq.s L))), (Option.some (En.fl [(It.slc 0 0 n 4)])), (Option.some (En.sq (Sq.s A)))], 102, 528, []⟩ := by kernel_rfl
theorem ti_hk (L A : List Fr) (n m : Nat) (half st fr : Int) : (run envW false 3000 ((⟨lpIn th_k, .normal, thS L A n m half st fr⟩ : Cfg)) [true]).cfg.k = ti_k := by kernel_rfl
theorem ti (L A : List Fr) (n m : Nat) (half st fr : Int) {w0 : World} {F0 : Nat → Prop} {K : Kp} {ac : List Act} {Q : Exit → Act → World → Prop} {cX : Ctx} {aX : Act} (ho : AllP [((decide (fr < ((n : Nat) : Int))) = true)]) (hs : Sim w0 F0 K ac (thS L A n m half st fr) cX aX) (hK : ∀ ac cY aY, Sim w0 F0 K ac (mkSt 102 [3, 8, 9, 10, 11, 58, 59] [(SV.v (V1.c (It.ptr 16 0))), (SV.v (V1.c (It.slc 208 0 m 4))), (SV.v (V1.c (It.int IntKind.i64 half))), (SV.v (V1.c (It.int IntKind.i64 st))), (SV.v (V1.c (It.int IntKind.i64 fr))), (SV.v (V1.c (It.int IntKind.i64 half))), (SV.v (V1.c (It.int IntKind.i64 (0 : Int))))] [0, 16, 208] [(Option.some (En.sq (Sq.s L))), (Option.some (En.fl [(It.slc 0 0 n 4)])), (Option.some (En.sq (Sq.s A)))] 528 [] []) cY aY → Wq Try.prog Q (ti_k) ac Exit.normal aY cY.w) : Wq Try.prog Q (lpIn th_k) ac .normal aX cX.w :=
  run_at2 envW_ok (ti_at L A n m half st fr) (ti_hk L A n m half st fr) ho hs hK
noncomputable def tiS (L A : List Fr) (n m : Nat) (half st fr i : Int) : St := mkSt 102 [3, 8, 9, 10, 11, 58, 59] [(SV.v (V1.c (It.ptr 16 0))), (SV.v (V1.c (It.slc 208 0 m 4))), (SV.v (V1.c (It.int IntKind.i64 half))), (SV.v (V1.c (It.int IntKind.i64 st))), (SV.v (V1.c (It.int IntKind.i64 fr))), (SV.v (V1.c (It.int IntKind.i64 half))), .v (.c (.int .i64 i))] [0, 16, 208] [(Option.some (En.sq (Sq.s L))), (Option.some (En.fl [(It.slc 0 0 n 4)])), (Option.some (En.sq (Sq.s A)))] 528 [] []
theorem tj_at (L A : List Fr) (n m : Nat) (half st fr i : Int) : runAt envW false 3000 ((⟨lpIn ti_k, .normal, tiS L A n m half st fr i⟩ : Cfg)) [true] [3, 8, 9, 10, 11, 58, 59] [0, 16, 208] [] = some ⟨[((decide (i < half)) = true), ((0 : Int) ≤ (IntKind.wrap IntKind.i64 (fr + i))), ((IntKind.wrap IntKind.i64 (fr + i)) < ((n : Nat) : Int)), (0 = 0), (((IntKind.wrap IntKind.i64 (fr + i))).toNat < (List.length L)), ((0 : Int) ≤ (IntKind.wrap IntKind.i64 ((IntKind.wrap IntKind.i64 (fr + i)) + half))), ((IntKind.wrap IntKind.i64 ((IntKind.wrap IntKind.i64 (fr + i)) + half)) < ((n : Nat) : Int)), (0 = 0), (((IntKind.wrap IntKind.i64 ((IntKind.wrap IntKind.i64 (fr + i)) + half))).toNat < (List.length L)), ((0 : Int) ≤ (IntKind.wrap IntKind.i64 (i * st))), ((IntKind.wrap IntKind.i64 (i * st)) < ((m : Nat) : Int)), (0 = 0), (((IntKind.wrap IntKind.i64 (i * st))).toNat < (List.length A)), ((0 : Int) ≤ (IntKind.wrap IntKind.i64 (fr + i))), ((IntKind.wrap IntKind.i64 (fr + i)) < ((n : Nat) : Int)), (0 = 0), (((IntKind.wrap IntKind.i64 (fr + i))).toNat < (List.length L)), ((0 : Int) ≤ (IntKind.wrap IntKind.i64 ((IntKind.wrap IntKind.i64 (fr + i)) + half))), ((IntKind.wrap IntKind.i64 ((IntKind.wrap IntKind.i64 (fr + i)) + half)) < ((n : Nat) : Int)), (0 = 0), (((IntKind.wrap IntKind.i64 ((IntKind.wrap IntKind.i64 (fr + i)) + half))).toNat < (List.length (List.set L ((IntKind.wrap IntKind.i64 (fr + i))).toNat ((List.getD L ((IntKind.wrap IntKind.i64 (fr + i))).toNat (0 : Fr)) + ((List.getD L ((IntKind.wrap IntKind.i64 ((IntKind.wrap IntKind.i64 (fr + i)) + half))).toNat (0 : Fr)) * (List.getD A ((IntKind.wrap IntKind.i64 (i * st))).toNat (0 : Fr)))))))], Exit.normal, [(SV.v (V1.c (It.ptr 16 0))), (SV.v (V1.c (It.slc 208 0 m 4))), (SV.v (V1.c (It.int IntKind.i64 half))), (SV.v (V1.c (It.int IntKind.i64 st))), (SV.v (V1.c (It.int IntKind.i64 fr))), (SV.v (V1.c (It.int IntKind.i64 half))), (SV.v (V1.c (It.int IntKind.i64 (IntKind.wrap IntKind.i64 (i + (1 : Int))))))], [(Option.some (En.sq (Sq.s (List.set (List.set L ((IntKind.wrap IntKind.i64 (fr + i))).toNat ((List.getD L ((IntKind.wrap IntKind.i64 (fr + i))).toNat (0 : Fr)) + ((List.getD L ((IntKind.wrap IntKind.i64 ((IntKind.wrap IntKind.i64 (fr + i)) + half))).toNat (0 : Fr)) * (List.getD A ((IntKind.wrap IntKind.i64 (i * st))).toNat (0 : Fr))))) ((IntKind.wrap IntKind.i64 ((IntKind.wrap IntKind.i64 (fr + i)) + half))).toNat ((List.getD L ((IntKind.wrap IntKind.i64 (fr + i))).toNat (0 : Fr)) - ((List.getD L ((IntKind.wrap IntKind.i64 ((IntKind.wrap IntKind.i64 (fr + i)) + half))).toNat (0 : Fr)) * (List.getD A ((IntKind.wrap IntKind.i64 (i * st))).toNat (0 : Fr)))))))), (Option.some (En.fl [(It.slc 0 0 n 4)])), (Option.some (En.sq (Sq.s A)))], 102, 1328, []⟩ := by kernel_rfl
theorem tj_hk (L A : List Fr) (n m : Nat) (half st fr i : Int) : (run envW false 3000 ((⟨lpIn ti_k, .normal, tiS L A n m half st fr i⟩ : Cfg)) [true]).cfg.k = lpBk ti_k := by kernel_rfl
theorem tj (L A : List Fr) (n m : Nat) (half st fr i : Int) {w0 : World} {F0 : Nat → Prop} {K : Kp} {ac : List Act} {Q : Exit → Act → World → Prop} {cX : Ctx} {aX : Act} (ho : AllP [((decide (i < half)) = true), ((0 : Int) ≤ (IntKind.wrap IntKind.i64 (fr + i))), ((IntKind.wrap IntKind.i64 (fr + i)) < ((n : Nat) : Int)), (0 = 0), (((IntKind.wrap IntKind.i64 (fr + i))).toNat < (List.length L)), ((0 : Int) ≤ (IntKind.wrap IntKind.i64 ((IntKind.wrap IntKind.i64 (fr + i)) + half))), ((IntKind.wrap IntKind.i64 ((IntKind.wrap IntKind.i64 (fr + i)) + half)) < ((n : Nat) : Int)), (0 = 0), (((IntKind.wrap IntKind.i64 ((IntKind.wrap IntKind.i64 (fr + i)) + half))).toNat < (List.length L)), ((0 : Int) ≤ (IntKind.wrap IntKind.i64 (i * st))), ((IntKind.wrap IntKind.i64 (i * st)) < ((m : Nat) : Int)), (0 = 0), (((IntKind.wrap IntKind.i64 (i * st))).toNat < (List.length A)), ((0 : Int) ≤ (IntKind.wrap IntKind.i64 (fr + i))), ((IntKind.wrap IntKind.i64 (fr + i)) < ((n : Nat) : Int)), (0 = 0), (((IntKind.wrap IntKind.i64 (fr + i))).toNat < (List.length L)), ((0 : Int) ≤ (IntKind.wrap IntKind.i64 ((IntKind.wrap IntKind.i64 (fr + i)) + half))), ((IntKind.wrap IntKind.i64 ((IntKind.wrap IntKind.i64 (fr + i)) + half)) < ((n : Nat) : Int)), (0 = 0), (((IntKind.wrap IntKind.i64 ((IntKind.wrap IntKind.i64 (fr + i)) + half))).toNat < (List.length (List.set L ((IntKind.wrap IntKind.i64 (fr + i))).toNat ((List.getD L ((IntKind.wrap IntKind.i64 (fr + i))).toNat (0 : Fr)) + ((List.getD L ((IntKind.wrap IntKind.i64 ((IntKind.wrap IntKind.i64 (fr + i)) + half))).toNat (0 : Fr)) * (List.getD A ((IntKind.wrap IntKind.i64 (i * st))).toNat (0 : Fr)))))))]) (hs : Sim w0 F0 K ac (tiS L A n m half st fr i) cX aX) (hK : ∀ ac cY aY, Sim w0 F0 K ac (mkSt 102 [3, 8, 9, 10, 11, 58, 59] [(SV.v (V1.c (It.ptr 16 0))), (SV.v (V1.c (It.slc 208 0 m 4))), (SV.v (V1.c (It.int IntKind.i64 half))), (SV.v (V1.c (It.int IntKind.i64 st))), (SV.v (V1.c (It.int IntKind.i64 fr))), (SV.v (V1.c (It.int IntKind.i64 half))), (SV.v (V1.c (It.int IntKind.i64 (IntKind.wrap IntKind.i64 (i + (1 : Int))))))] [0, 16, 208] [(Option.some (En.sq (Sq.s (List.set (List.set L ((IntKind.wrap IntKind.i64 (fr + i))).toNat ((List.getD L ((IntKind.wrap IntKind.i64 (fr + i))).toNat (0 : Fr)) + ((List.getD L ((IntKind.wrap IntKind.i64 ((IntKind.wrap IntKind.i64 (fr + i)) + half))).toNat (0 : Fr)) * (List.getD A ((IntKind.wrap IntKind.i64 (i * st))).toNat (0 : Fr))))) ((IntKind.wrap IntKind.i64 ((IntKind.wrap IntKind.i64 (fr + i)) + half))).toNat ((List.getD L ((IntKind.wrap IntKind.i64 (fr + i))).toNat (0 : Fr)) - ((List.getD L ((IntKind.wrap IntKind.i64 ((IntKind.wrap IntKind.i64 (fr + i)) + half))).toNat (0 : Fr)) * (List.getD A ((IntKind.wrap IntKind.i64 (i * st))).toNat (0 : Fr)))))))), (Option.some (En.fl [(It.slc 0 0 n 4)])), (Option.some (En.sq (Sq.s A)))] 1328 [] []) cY aY → Wq Try.prog Q (lpBk ti_k) ac Exit.normal aY cY.w) : Wq Try.prog Q (lpIn ti_k) ac .normal aX cX.w :=
  run_at2 envW_ok (tj_at L A n m half st fr i) (tj_hk L A n m half st fr i) ho hs hK
theorem tk_at (L A : List Fr) (n m : Nat) (half st fr i : Int) : runAt envW false 3000 ((⟨lpIn ti_k, .normal, tiS L A n m half st fr i⟩ : Cfg)) [false] [3, 8, 9, 10, 11] [0, 16, 208] [] = some ⟨[((decide (i < half)) = false)], Exit.normal, [(SV.v (V1.c (It.ptr 16 0))), (SV.v (V1.c (It.slc 208 0 m 4))), (SV.v (V1.c (It.int IntKind.i64 half))), (SV.v (V1.c (It.int IntKind.i64 st))), (SV.v (V1.c (It.int IntKind.i64 (IntKind.wrap IntKind.i64 (fr + (IntKind.wrap IntKind.i64 ((2 : Int) * half)))))))], [(Option.some (En.sq (Sq.s L))), (Option.some (En.fl [(It.slc 0 0 n 4)])), (Option.some (En.sq (Sq.s A)))], 102, 624, []⟩ := by kernel_rfl
theorem tk_hk (L A : List Fr) (n m : Nat) (half st fr i : Int) : (run envW false 3000 ((⟨lpIn ti_k, .normal, tiS L A n m half st fr i⟩ : Cfg)) [false]).cfg.k = lpBk th_k := by kernel_rfl
theorem tk (L A : List Fr) (n m : Nat) (half st fr i : Int) {w0 : World} {F0 : Nat → Prop} {K : Kp} {ac : List Act} {Q : Exit → Act → World → Prop} {cX : Ctx} {aX : Act} (ho : AllP [((decide (i < half)) = false)]) (hs : Sim w0 F0 K ac (tiS L A n m half st fr i) cX aX) (hK : ∀ ac cY aY, Sim w0 F0 K ac (mkSt 102 [3, 8, 9, 10, 11] [(SV.v (V1.c (It.ptr 16 0))), (SV.v (V1.c (It.slc 208 0 m 4))), (SV.v (V1.c (It.int IntKind.i64 half))), (SV.v (V1.c (It.int IntKind.i64 st))), (SV.v (V1.c (It.int IntKind.i64 (IntKind.wrap IntKind.i64 (fr + (IntKind.wrap IntKind.i64 ((2 : Int) * half)))))))] [0, 16, 208] [(Option.some (En.sq (Sq.s L))), (Option.some (En.fl [(It.slc 0 0 n 4)])), (Option.some (En.sq (Sq.s A)))] 624 [] []) cY aY → Wq Try.prog Q (lpBk th_k) ac Exit.normal aY cY.w) : Wq Try.prog Q (lpIn ti_k) ac .normal aX cX.w :=
  run_at2 envW_ok (tk_at L A n m half st fr i) (tk_hk L A n m half st fr i) ho hs hK
theorem tm_at (L A : List Fr) (n m : Nat) (half st fr : Int) : runAt envW false 3000 ((⟨lpIn th_k, .normal, thS L A n m half st fr⟩ : Cfg)) [false] [3, 8, 9] [0, 16, 208] [] = some ⟨[((decide (fr < ((n : Nat) : Int))) = false)], Exit.normal, [(SV.v (V1.c (It.ptr 16 0))), (SV.v (V1.c (It.slc 208 0 m 4))), (SV.v (V1.c (It.int IntKind.i64 (IntKind.wrap IntKind.i64 (half * (2 : Int))))))], [(Option.some (En.sq (Sq.s L))), (Option.some (En.fl [(It.slc 0 0 n 4)])), (Option.some (En.sq (Sq.s A)))], 102, 544, []⟩ := by kernel_rfl
theorem tm_hk (L A : List Fr) (n m : Nat) (half st fr : Int) : (run envW false 3000 ((⟨lpIn th_k, .normal, thS L A n m half st fr⟩ : Cfg)) [false]).cfg.k = lpBk tg_k := by kernel_rfl
theorem tm (L A : List Fr) (n m : Nat) (half st fr : Int) {w0 : World} {F0 : Nat → Prop} {K : Kp} {ac : List Act} {Q : Exit → Act → World → Prop} {cX : Ctx} {aX : Act} (ho : AllP [((decide (fr < ((n : Nat) : Int))) = false)]) (hs : Sim w0 F0 K ac (thS L A n m half st fr) cX aX) (hK : ∀ ac cY aY, Sim w0 F0 K ac (mkSt 102 [3, 8, 9] [(SV.v (V1.c (It.ptr 16 0))), (SV.v (V1.c (It.slc 208 0 m 4))), (SV.v (V1.c (It.int IntKind.i64 (IntKind.wrap IntKind.i64 (half * (2 : Int))))))] [0, 16, 208] [(Option.some (En.sq (Sq.s L))), (Option.some (En.fl [(It.slc 0 0 n 4)])), (Option.some (En.sq (Sq.s A)))] 544 [] []) cY aY → Wq Try.prog Q (lpBk tg_k) ac Exit.normal aY cY.w) : Wq Try.prog Q (lpIn th_k) ac .normal aX cX.w :=
  run_at2 envW_ok (tm_at L A n m half st fr) (tm_hk L A n m half st fr) ho hs hK
theorem tn_at (L A : List Fr) (n m : Nat) (half : Int) : runAt envW false 3000 ((⟨lpIn tg_k, .normal, tgS L A n m half⟩ : Cfg)) [false] [] [0] [] = some ⟨[((decide (half < ((n : Nat) : Int))) = false)], Exit.normal, [], [(Option.some (En.sq (Sq.s L)))], 102, 320, []⟩ := by kernel_rfl
theorem tn_hk (L A : List Fr) (n m : Nat) (half : Int) : (run envW false 3000 ((⟨lpIn tg_k, .normal, tgS L A n m half⟩ : Cfg)) [false]).cfg.k = [] := by kernel_rfl
theorem tn (L A : List Fr) (n m : Nat) (half : Int) {w0 : World} {F0 : Nat → Prop} {K : Kp} {ac : List Act} {Q : Exit → Act → World → Prop} {cX : Ctx} {aX : Act} (ho : AllP [((decide (half < ((n : Nat) : Int))) = false)]) (hs : Sim w0 F0 K ac (tgS L A n m half) cX aX) (hK : ∀ ac cY aY, Sim w0 F0 K ac (mkSt 102 [] [] [0] [(Option.some (En.sq (Sq.s L)))] 320 [] []) cY aY → Wq Try.prog Q ([]) ac Exit.normal aY cY.w) : Wq Try.prog Q (lpIn tg_k) ac .normal aX cX.w :=
  run_at2 envW_ok (tn_at L A n m half) (tn_hk L A n m half) ho hs hK
end Go.Proofs.Ytlfllehomhcbfaa

/- Values at the powers of a root, by sums and differences of halves: the plain law. No conditions. -/
namespace Go.Proofs.Ytlfllehomhcbfaa

section
variable {r : Nat} [NeZero r]

def sm (f : Nat → Fin r) : Nat → Fin r
  | 0 => 0
  | n + 1 => sm f n + f n

theorem sm_congr {f g : Nat → Fin r} : ∀ n, (∀ i, i < n → f i = g i) → sm f n = sm g n
  | 0, _ => rfl
  | n + 1, h => by
    simp only [sm]
    rw [sm_congr n (fun i hi => h i (by omega)), h n (by omega)]

theorem sm_mul (k : Fin r) (f : Nat → Fin r) : ∀ n, sm (fun i => k * f i) n = k * sm f n
  | 0 => by simp only [sm]; grind
  | n + 1 => by
    simp only [sm]
    rw [sm_mul k f n]
    grind

theorem sm_add (f g : Nat → Fin r) : ∀ n, sm (fun i => f i + g i) n = sm f n + sm g n
  | 0 => by simp only [sm]; grind
  | n + 1 => by
    simp only [sm]
    rw [sm_add f g n]
    grind

theorem sm_zero : ∀ n, sm (fun _ => (0 : Fin r)) n = 0
  | 0 => rfl
  | n + 1 => by
    simp only [sm]
    rw [sm_zero n]
    grind

theorem sm_two (f : Nat → Fin r) : ∀ n, sm f (2 * n) = sm (fun i => f (2 * i)) n + sm (fun i => f (2 * i + 1)) n
  | 0 => by simp only [sm]; grind
  | n + 1 => by
    rw [show 2 * (n + 1) = 2 * n + 1 + 1 from by omega]
    simp only [sm]
    rw [sm_two f n]
    grind

theorem brv_even (m b : Nat) : brv (m + 1) (2 * b) = brv m b := by
  simp only [brv]
  rw [show 2 * b % 2 = 0 from by omega, show 2 * b / 2 = b from by omega]
  omega
theorem brv_odd (m b : Nat) : brv (m + 1) (2 * b + 1) = brv m b + 2 ^ m := by
  simp only [brv]
  rw [show (2 * b + 1) % 2 = 1 from by omega, show (2 * b + 1) / 2 = b from by omega]
  omega
theorem brv_zero : ∀ m, brv m 0 = 0
  | 0 => rfl
  | m + 1 => by
    have := brv_even m 0
    simp only [Nat.mul_zero] at this
    rw [this, brv_zero m]
theorem brv_brv {m i : Nat} (h : i < 2 ^ m) : brv m (brv m i) = i := by
  apply Nat.eq_of_testBit_eq
  intro k
  rw [brv_bit, brv_bit]
  by_cases hk : k < m
  · rw [show decide (k < m) = true from by simp [hk], show decide (m - 1 - k < m) = true from by simp; omega, Bool.true_and, Bool.true_and, show m - 1 - (m - 1 - k) = k from by omega]
  · rw [show decide (k < m) = false from by simp [hk], Bool.false_and, Nat.testBit_lt_two_pow]
    exact Nat.lt_of_lt_of_le h (Nat.pow_le_pow_right (by decide) (by omega))

variable (c W : Nat → Fin r)

/-- What stands at a place of a block, when blocks are so long. -/
def blkV (m k b i : Nat) : Fin r := sm (fun j => c (brv m b + j * 2 ^ m) * W (i * j * 2 ^ m)) (2 ^ k)

variable (h0 : W 0 = 1) (ha : ∀ a b, W (a + b) = W a * W b)
include h0 ha

omit h0 in
theorem blkV_low (m k b i : Nat) : blkV c W m (k + 1) b i = blkV c W (m + 1) k (2 * b) i + W (i * 2 ^ m) * blkV c W (m + 1) k (2 * b + 1) i := by
  unfold blkV
  rw [Nat.pow_succ 2 k, Nat.mul_comm (2 ^ k) 2, sm_two, ← sm_mul]
  refine congr (congrArg _ (sm_congr _ fun t _ => ?_)) (sm_congr _ fun t _ => ?_)
  · rw [brv_even, Nat.pow_succ]
    rw [show 2 * t * 2 ^ m = t * (2 ^ m * 2) from by ac_rfl, show i * (2 * t) * 2 ^ m = i * t * (2 ^ m * 2) from by ac_rfl]
  · have e1 : brv (m + 1) (2 * b + 1) + t * 2 ^ (m + 1) = brv m b + (2 * t + 1) * 2 ^ m := by
      rw [brv_odd, Nat.pow_succ, Nat.add_mul, Nat.one_mul, Nat.mul_comm (2 ^ m) 2, ← Nat.mul_assoc, Nat.mul_comm t 2]
      omega
    have e2 : i * (2 * t + 1) * 2 ^ m = i * 2 ^ m + i * t * 2 ^ (m + 1) := by
      rw [Nat.pow_succ, Nat.mul_add, Nat.mul_one, Nat.add_mul, show i * (2 * t) * 2 ^ m = i * t * (2 ^ m * 2) from by ac_rfl, Nat.add_comm]
    rw [e1, e2, ha]
    grind

theorem W_pow (a : Nat) (h : W a = 1) : ∀ t, W (a * t) = 1
  | 0 => by rw [Nat.mul_zero]; exact h0
  | t + 1 => by
    rw [Nat.mul_succ, ha, W_pow a h t, h]
    grind

theorem blkV_high (m k b i : Nat) (hn : W (2 ^ (k + m)) = -1) : blkV c W m (k + 1) b (i + 2 ^ k) = blkV c W (m + 1) k (2 * b) i - W (i * 2 ^ m) * blkV c W (m + 1) k (2 * b + 1) i := by
  have hone : W (2 ^ k * 2 ^ (m + 1)) = 1 := by
    rw [← Nat.pow_add, show k + (m + 1) = (k + m) + 1 from by omega, Nat.pow_succ, Nat.mul_two, ha, hn]
    grind
  have hper : ∀ b', blkV c W (m + 1) k b' (i + 2 ^ k) = blkV c W (m + 1) k b' i := by
    intro b'
    unfold blkV
    refine sm_congr _ fun t _ => ?_
    rw [show (i + 2 ^ k) * t * 2 ^ (m + 1) = i * t * 2 ^ (m + 1) + 2 ^ k * 2 ^ (m + 1) * t from by rw [Nat.add_mul, Nat.add_mul, Nat.mul_right_comm (2 ^ k)], ha, W_pow W h0 ha _ hone]
    grind
  rw [blkV_low c W ha, hper, hper, Nat.add_mul, ha, ← Nat.pow_add, hn]
  grind

/-- What stands at a place when blocks are 2^k long. -/
def posV (log k q : Nat) : Fin r := blkV c W (log - k) k (q / 2 ^ k) (q % 2 ^ k)

omit ha in
theorem posV_first (log q : Nat) : posV c W log 0 q = c (brv log q) := by
  simp only [posV, blkV, Nat.pow_zero, Nat.div_one, Nat.mod_one, sm, Nat.sub_zero, Nat.zero_mul, Nat.add_zero, h0]
  grind

omit h0 ha in
theorem posV_last (log q : Nat) (hq : q < 2 ^ log) : posV c W log log q = sm (fun j => c j * W (q * j)) (2 ^ log) := by
  simp only [posV, blkV, Nat.sub_self, brv, Nat.pow_zero, Nat.mul_one, Nat.zero_add, Nat.mod_eq_of_lt hq]

theorem posV_step {log k b i : Nat} (hk : k < log) (hi : i < 2 ^ k) (hn : W (2 ^ (log - 1)) = -1) :
    posV c W log (k + 1) (b * 2 ^ (k + 1) + i) = posV c W log k (b * 2 ^ (k + 1) + i) + posV c W log k (b * 2 ^ (k + 1) + 2 ^ k + i) * W (i * 2 ^ (log - k - 1)) ∧
    posV c W log (k + 1) (b * 2 ^ (k + 1) + 2 ^ k + i) = posV c W log k (b * 2 ^ (k + 1) + i) - posV c W log k (b * 2 ^ (k + 1) + 2 ^ k + i) * W (i * 2 ^ (log - k - 1)) := by
  obtain ⟨m, rfl⟩ : ∃ m, log = m + k + 1 := ⟨log - k - 1, by omega⟩
  have hp : 0 < 2 ^ k := Nat.two_pow_pos k
  have e1 : (b * 2 ^ (k + 1) + i) / 2 ^ (k + 1) = b ∧ (b * 2 ^ (k + 1) + i) % 2 ^ (k + 1) = i := by
    have : i < 2 ^ (k + 1) := by rw [Nat.pow_succ]; omega
    rw [Nat.mul_comm b, Nat.mul_add_mod, Nat.mod_eq_of_lt this, Nat.mul_add_div (Nat.two_pow_pos _), Nat.div_eq_of_lt this]
    exact ⟨rfl, rfl⟩
  have e2 : (b * 2 ^ (k + 1) + 2 ^ k + i) / 2 ^ (k + 1) = b ∧ (b * 2 ^ (k + 1) + 2 ^ k + i) % 2 ^ (k + 1) = i + 2 ^ k := by
    have : 2 ^ k + i < 2 ^ (k + 1) := by rw [Nat.pow_succ]; omega
    rw [Nat.add_assoc, Nat.mul_comm b, Nat.mul_add_mod, Nat.mod_eq_of_lt this, Nat.mul_add_div (Nat.two_pow_pos _), Nat.div_eq_of_lt this]
    exact ⟨rfl, Nat.add_comm _ _⟩
  have e3 : (b * 2 ^ (k + 1) + i) / 2 ^ k = 2 * b ∧ (b * 2 ^ (k + 1) + i) % 2 ^ k = i := by
    rw [show b * 2 ^ (k + 1) = 2 ^ k * (2 * b) from by rw [Nat.pow_succ]; ac_rfl, Nat.mul_add_mod, Nat.mod_eq_of_lt hi, Nat.mul_add_div hp, Nat.div_eq_of_lt hi]
    exact ⟨rfl, rfl⟩
  have e4 : (b * 2 ^ (k + 1) + 2 ^ k + i) / 2 ^ k = 2 * b + 1 ∧ (b * 2 ^ (k + 1) + 2 ^ k + i) % 2 ^ k = i := by
    rw [show b * 2 ^ (k + 1) + 2 ^ k = 2 ^ k * (2 * b + 1) from by rw [Nat.pow_succ, Nat.mul_add, Nat.mul_one]; congr 1; ac_rfl, Nat.mul_add_mod, Nat.mod_eq_of_lt hi, Nat.mul_add_div hp, Nat.div_eq_of_lt hi]
    exact ⟨rfl, rfl⟩
  have h1 := blkV_low c W ha m k b i
  have h2 := blkV_high c W h0 ha m k b i (by rw [← hn]; congr 2; omega)
  unfold posV
  rw [e1.1, e1.2, e2.1, e2.2, e3.1, e3.2, e4.1, e4.2, show m + k + 1 - (k + 1) = m from by omega, show m + k + 1 - k = m + 1 from by omega, show m + 1 - 1 = m from by omega, h1, h2]
  constructor <;> grind

end
/-- Places that are done, and others. -/
def mix {r : Nat} (f g : Nat → Fin r) (fr half i q : Nat) : Fin r := if q < fr ∨ (fr ≤ q ∧ q < fr + i) ∨ (fr + half ≤ q ∧ q < fr + half + i) then g q else f q
section
variable {r : Nat} {f g : Nat → Fin r} {fr half i n q : Nat}

theorem mix_start : mix f g 0 half 0 q = f q := by
  unfold mix
  rw [if_neg (by omega)]
theorem mix_end (h : q < n) : mix f g n half 0 q = g q := by
  unfold mix
  rw [if_pos (.inl h)]
theorem mix_next : mix f g fr half half q = mix f g (fr + 2 * half) half 0 q := by
  unfold mix
  by_cases h : q < fr + 2 * half
  · rw [if_pos (by omega), if_pos (.inl h)]
  · rw [if_neg (by omega), if_neg (by omega)]
theorem mix_at1 (h : i < half) : mix f g fr half i (fr + i) = f (fr + i) := by
  unfold mix
  rw [if_neg (by omega)]
theorem mix_at2 : mix f g fr half i (fr + half + i) = f (fr + half + i) := by
  unfold mix
  rw [if_neg (by omega)]
theorem mix_step (h : i < half) : (if q = fr + half + i then g (fr + half + i) else if q = fr + i then g (fr + i) else mix f g fr half i q) = mix f g fr half (i + 1) q := by
  unfold mix
  by_cases h1 : q = fr + half + i
  · subst h1
    rw [if_pos rfl, if_pos (by omega)]
  · rw [if_neg h1]
    by_cases h2 : q = fr + i
    · subst h2
      rw [if_pos rfl, if_pos (by omega)]
    · rw [if_neg h2]
      by_cases h3 : q < fr ∨ (fr ≤ q ∧ q < fr + i) ∨ (fr + half ≤ q ∧ q < fr + half + i)
      · rw [if_pos h3, if_pos (by omega)]
      · rw [if_neg h3, if_neg (by omega)]

end

/-! Rows as tables. -/
def tab (n : Nat) (F : Nat → Fr) : List Fr := (List.range n).map F
theorem tab_len (n : Nat) (F : Nat → Fr) : (tab n F).length = n := by simp [tab]
theorem tab_congr {n : Nat} {F G : Nat → Fr} (h : ∀ q, q < n → F q = G q) : tab n F = tab n G := by
  unfold tab
  refine List.map_congr_left fun q hq => h q (List.mem_range.1 hq)
theorem tab_get {n : Nat} {F : Nat → Fr} {q : Nat} (h : q < n) : (tab n F).getD q 0 = F q := by
  simp [tab, List.getD, h]
theorem tab_set {n : Nat} {F : Nat → Fr} {p : Nat} {v : Fr} : (tab n F).set p v = tab n (fun q => if q = p then v else F q) := by
  apply List.ext_getElem
  · simp [tab]
  · intro q h1 h2
    simp only [tab, List.getElem_set, List.getElem_map, List.getElem_range]
    by_cases h : q = p
    · simp [h]
    · rw [if_neg (fun e => h e.symm), if_neg h]
theorem tab_self (l : List Fr) : l = tab l.length (fun q => l.getD q 0) := by
  apply List.ext_getElem
  · simp [tab]
  · intro q h1 h2
    simp [tab, List.getD, h1]

/-- Two elements change places. -/
def swp2 (l : List Fr) (z : Nat × Nat) : List Fr := (l.set z.1 (l.getD z.2 0)).set z.2 (l.getD z.1 0)
def swA (l : List Fr) (zs : List (Nat × Nat)) : List Fr := zs.foldl swp2 l
theorem swA_len (l : List Fr) : ∀ zs, (swA l zs).length = l.length := by
  intro zs
  unfold swA
  induction zs generalizing l with
  | nil => rfl
  | cons z zs ih =>
    simp only [List.foldl_cons]
    rw [ih]
    simp [swp2]
theorem swA_snoc (l : List Fr) (zs : List (Nat × Nat)) (z : Nat × Nat) : swA l (zs ++ [z]) = swp2 (swA l zs) z := by
  unfold swA
  rw [List.foldl_append]
  rfl

def swF (c : Nat → Fr) (log i q : Nat) : Fr := if min q (brv log q) < i then c (brv log q) else c q

theorem swF_zero (c : Nat → Fr) (log q : Nat) : swF c log 0 q = c q := by
  unfold swF
  rw [if_neg (by omega)]
theorem swF_all (c : Nat → Fr) {log q : Nat} (h : q < 2 ^ log) : swF c log (2 ^ log) q = c (brv log q) := by
  unfold swF
  rw [if_pos (by have := Nat.min_le_left q (brv log q); omega)]

theorem swF_step {c : Nat → Fr} {log i : Nat} (hi : i < 2 ^ log) (h : i < brv log i) :
    swp2 (tab (2 ^ log) (swF c log i)) (i, brv log i) = tab (2 ^ log) (swF c log (i + 1)) := by
  have hb := brv_lt log i
  unfold swp2
  simp only
  rw [tab_get hb, tab_get hi, tab_set, tab_set]
  refine tab_congr fun q hq => ?_
  have hbb := brv_brv hi
  have hqq := brv_brv hq
  unfold swF
  by_cases h1 : q = brv log i
  · subst h1
    rw [if_pos rfl, hbb, if_neg (by omega), if_pos (by omega)]
  · rw [if_neg h1]
    by_cases h2 : q = i
    · subst h2
      rw [if_pos rfl, hbb, if_neg (by omega), if_pos (by omega)]
    · rw [if_neg h2]
      have h3 : brv log q ≠ i := fun e => h1 (by rw [← hqq, e])
      by_cases h4 : min q (brv log q) < i
      · rw [if_pos h4, if_pos (by omega)]
      · rw [if_neg h4, if_neg (by omega)]

theorem swF_skip {c : Nat → Fr} {log i : Nat} (hi : i < 2 ^ log) (h : ¬ i < brv log i) : tab (2 ^ log) (swF c log i) = tab (2 ^ log) (swF c log (i + 1)) := by
  refine tab_congr fun q hq => ?_
  have hqq := brv_brv hq
  have hbb := brv_brv hi
  unfold swF
  by_cases h4 : min q (brv log q) < i
  · rw [if_pos h4, if_pos (by omega)]
  · rw [if_neg h4]
    by_cases h5 : min q (brv log q) < i + 1
    · rw [if_pos h5]
      by_cases h2 : q = i
      · subst h2
        rw [show brv log q = q from by omega]
      · have h3 : brv log q = i := by omega
        have : q = brv log i := by rw [← h3, hqq]
        omega
    · rw [if_neg h5]

end Go.Proofs.Ytlfllehomhcbfaa

/- The transform: values at the powers of a root, in their places. No conditions. -/
namespace Go.Proofs.Ytlfllehomhcbfaa

theorem swA_prs (c : Nat → Fr) (log : Nat) : ∀ i, i ≤ 2 ^ log → swA (tab (2 ^ log) c) (prs log i) = tab (2 ^ log) (swF c log i)
  | 0, _ => by
    show tab _ c = _
    exact tab_congr fun q _ => (swF_zero c log q).symm
  | i + 1, h => by
    simp only [prs]
    by_cases h1 : i < brv log i
    · rw [if_pos h1, swA_snoc, swA_prs c log i (by omega), swF_step (by omega) h1]
    · rw [if_neg h1, List.append_nil, swA_prs c log i (by omega), swF_skip (by omega) h1]

theorem prs_mem {log : Nat} : ∀ {n : Nat} {z : Nat × Nat}, z ∈ prs log n → z.1 < n ∧ z.2 < 2 ^ log
  | 0, z, h => by cases h
  | n + 1, z, h => by
    simp only [prs, List.mem_append] at h
    rcases h with h | h
    · have := prs_mem h; omega
    · split at h
      · simp only [List.mem_singleton] at h
        subst h
        exact ⟨by simp, brv_lt _ _⟩
      · cases h

/-- The values of a polynomial at the powers of a number. -/
def nttL (c : Nat → Fr) (w : Fr) (n : Nat) : List Fr := tab n (fun q => sm (fun j => c j * powN w (q * j)) n)

def prVals (z : Nat × Nat) : List SV := [.v (.c (.int .i64 (z.1 : Int))), .v (.c (.int .i64 (z.2 : Int)))]

theorem tf_assign {L : List Fr} {n log : Nat} {w : Fr} {z : Nat × Nat} {w1 : World} {F1 : Nat → Prop} {K1 : Kp} {as1 : List Act} {Q1 : Exit → Act → World → Prop} {l : Nat} {y : Ctx} {b : Act} (hs : Sim w1 F1 K1 as1 (roundSt (tfS L n log w) ([17, 18].zip (prVals z))) y b)
    (hQ : ∀ y' b', Sim w1 F1 K1 as1 (tfB L n log w z.1 z.2) y' b' → Q1 .normal b' y'.w) : Wq Try.prog Q1 [.code (rfA tf_k)] as1 .normal b y.w (some l) := by
  exact tfA L n log w z.1 z.2 trivial hs fun cZ aZ hs3 => ⟨hQ _ _ (hs3.nx _)⟩

theorem tf_body {L : List Fr} {n log : Nat} {w : Fr} {z : Nat × Nat} (h1 : z.1 < n) (h2 : z.2 < n) (hl : L.length = n) {w1 : World} {F1 : Nat → Prop} {K1 : Kp} {as1 : List Act} {Q1 : Exit → Act → World → Prop} {l : Nat} {y : Ctx} {b : Act} (hs : Sim w1 F1 K1 as1 (tfB L n log w z.1 z.2) y b)
    (hQ : ∀ y' b', Sim w1 F1 K1 as1 (tfE (swp2 L z) n log w) y' b' → Q1 .normal b' y'.w) : Wq Try.prog Q1 [.code (rfB tf_k)] as1 .normal b y.w (some l) := by
  refine tfC L n (log : Int) w z.1 z.2 (by and_intros <;> first | rfl | trivial | omega | (simp only [List.length_set, Int.toNat_natCast]; omega)) hs fun cZ aZ hs3 => ⟨hQ _ _ ?_⟩
  rw [Int.toNat_natCast, Int.toNat_natCast] at hs3
  exact hs3.nx _

theorem powF_get {w : Fr} {m e : Nat} (h : e < m) : (powF w m).getD e 0 = powN w e := tab_get (F := powN w) h

section
variable {w0 : World} {F0 : Nat → Prop} {K : Kp} {Q : Exit → Act → World → Prop}

theorem tf_inner {f g : Nat → Fr} {w : Fr} {N M H T fr : Nat} (hN : N ≤ 65536) (hM : M ≤ 65536) (hfr : fr + 2 * H ≤ N) (hT : ∀ i, i < H → i * T < M)
    (hst : ∀ i, i < H → g (fr + i) = f (fr + i) + f (fr + H + i) * powN w (i * T) ∧ g (fr + H + i) = f (fr + i) - f (fr + H + i) * powN w (i * T))
    (hK : ∀ ac y b, Sim w0 F0 K ac (thS (tab N (mix f g (fr + 2 * H) H 0)) (powF w M) N M (H : Int) (T : Int) ((fr + 2 * H : Nat) : Int)) y b → Wq Try.prog Q (lpBk th_k) ac .normal b y.w)
    {k0 : List KI} (hl : loopOf k0 = some (lpC ti_k, lpR ti_k)) {ac : List Act} {y : Ctx} {b : Act} (hs : Sim w0 F0 K ac (tiS (tab N (mix f g fr H 0)) (powF w M) N M (H : Int) (T : Int) (fr : Int) 0) y b) : Wq Try.prog Q k0 ac .normal b y.w := by
  refine loop_rule (ι := { i : Nat // i ≤ H }) (fun i => tiS (tab N (mix f g fr H i.1)) (powF w M) N M (H : Int) (T : Int) (fr : Int) (i.1 : Int)) (fun i => H - i.1) hl (fun i ih ac cY aY hs => ?_) ⟨0, Nat.zero_le _⟩ hs
  obtain ⟨i, hi⟩ := i
  simp only at ih hs
  by_cases h : i < H
  · have hiT := hT i h
    have hw1 : IntKind.wrap .i64 ((fr : Int) + (i : Int)) = ((fr + i : Nat) : Int) := by rw [wrap_id (by omega) (by omega)]; omega
    have hw2 : IntKind.wrap .i64 (((fr + i : Nat) : Int) + (H : Int)) = ((fr + H + i : Nat) : Int) := by rw [wrap_id (by omega) (by omega)]; omega
    have hw3 : IntKind.wrap .i64 ((i : Int) * (T : Int)) = ((i * T : Nat) : Int) := by
      rw [← Int.natCast_mul]
      generalize i * T = e at *
      exact wrap_id (by omega) (by omega)
    have hw4 : IntKind.wrap .i64 ((i : Int) + 1) = ((i + 1 : Nat) : Int) := by rw [wrap_id (by omega) (by omega)]; omega
    have hlenA : (powF w M).length = M := powF_len w M
    have hlenL : (tab N (mix f g fr H i)).length = N := tab_len _ _
    obtain ⟨hs1, hs2⟩ := hst i h
    refine tj _ _ _ _ _ _ _ _ ?_ hs fun ac cZ aZ hs3 => ?_
    · rw [hw1, hw2, hw3]
      simp only [Int.toNat_natCast, List.length_set, hlenA, hlenL]
      clear hs1 hs2 hst hT hw1 hw2 hw3 hw4 hlenA hlenL ih hs
      generalize i * T = e at *
      and_intros <;> first | rfl | trivial | omega | (apply decide_eq_true; omega)
    · rw [hw1, hw2, hw3, hw4] at hs3
      simp only [Int.toNat_natCast] at hs3
      rw [tab_get (by omega), tab_get (by omega), powF_get hiT, mix_at1 h, mix_at2, ← hs1, ← hs2, tab_set, tab_set, tab_congr fun q _ => mix_step (q := q) h] at hs3
      exact ih ⟨i + 1, by omega⟩ (by show H - (i + 1) < H - i; omega) ac cZ aZ (hs3.nx _)
  · have e : i = H := by omega
    subst e
    refine tk _ _ _ _ _ _ _ _ ⟨by simp, trivial⟩ hs fun ac cZ aZ hs3 => ?_
    have hw5 : IntKind.wrap .i64 ((2 : Int) * (i : Int)) = ((2 * i : Nat) : Int) := by rw [wrap_id (by omega) (by omega)]; omega
    have hw6 : IntKind.wrap .i64 ((fr : Int) + ((2 * i : Nat) : Int)) = ((fr + 2 * i : Nat) : Int) := by rw [wrap_id (by omega) (by omega)]; omega
    rw [hw5, hw6, tab_congr fun q _ => mix_next (q := q)] at hs3
    exact hK _ _ _ (hs3.nx _)

/-- One round of sums and differences. -/
theorem tf_round {f g : Nat → Fr} {w : Fr} {N M H T B : Nat} (hN : N ≤ 65536) (hM : M ≤ 65536) (hH : 0 < H) (hB : B * (2 * H) = N) (hT : ∀ i, i < H → i * T < M) (hTN : N / (2 * H) = T)
    (hst : ∀ b i, i < H → g (b * (2 * H) + i) = f (b * (2 * H) + i) + f (b * (2 * H) + H + i) * powN w (i * T) ∧ g (b * (2 * H) + H + i) = f (b * (2 * H) + i) - f (b * (2 * H) + H + i) * powN w (i * T))
    (hK : ∀ ac y b, Sim w0 F0 K ac (tgS (tab N g) (powF w M) N M ((2 * H : Nat) : Int)) y b → Wq Try.prog Q (lpBk tg_k) ac .normal b y.w)
    {ac : List Act} {y : Ctx} {b : Act} (hs : Sim w0 F0 K ac (tgS (tab N f) (powF w M) N M (H : Int)) y b) (hHN : H < N) : Wq Try.prog Q (lpIn tg_k) ac .normal b y.w := by
  have hw1 : IntKind.wrap .i64 ((2 : Int) * (H : Int)) = ((2 * H : Nat) : Int) := by rw [wrap_id (by omega) (by omega)]; omega
  have hw2 : IntKind.wrap .i64 (Int.tdiv (N : Int) ((2 * H : Nat) : Int)) = (T : Int) := by
    rw [Int.tdiv_eq_ediv_of_nonneg (by omega), ← Int.natCast_ediv, hTN]
    have : T ≤ N := by rw [← hTN]; exact Nat.div_le_self _ _
    exact wrap_id (by omega) (by omega)
  refine th _ _ _ _ _ ⟨by simp; omega, by rw [hw1]; omega, trivial⟩ hs fun ac cY aY hs1 => ?_
  rw [hw1, hw2, tab_congr fun q _ => (mix_start (f := f) (g := g) (half := H) (q := q)).symm] at hs1
  refine loop_rule (ι := { b : Nat // b ≤ B }) (fun b => thS (tab N (mix f g (b.1 * (2 * H)) H 0)) (powF w M) N M (H : Int) (T : Int) ((b.1 * (2 * H) : Nat) : Int)) (fun b => B - b.1) (c := lpC th_k) (k := lpR th_k) (by kernel_rfl) (fun b ih ac cY aY hs => ?_) ⟨0, Nat.zero_le _⟩ (by simp only [Nat.zero_mul]; exact hs1.nx _)
  obtain ⟨b, hb⟩ := b
  simp only at ih hs
  have hle : b * (2 * H) ≤ N := by rw [← hB]; exact Nat.mul_le_mul_right _ hb
  by_cases h : b < B
  · have hle2 : b * (2 * H) + 2 * H ≤ N := by
      rw [← hB, ← Nat.succ_mul]
      exact Nat.mul_le_mul_right _ h
    have hst' := hst b
    have he : (b + 1) * (2 * H) = b * (2 * H) + 2 * H := Nat.succ_mul _ _
    have ih' := ih ⟨b + 1, h⟩ (by show B - (b + 1) < B - b; omega)
    simp only [he] at ih'
    generalize b * (2 * H) = fr at *
    refine ti _ _ _ _ _ _ _ ⟨by simp; omega, trivial⟩ hs fun ac cZ aZ hs3 => ?_
    exact tf_inner hN hM hle2 hT hst' (fun ac y b hs => ih' ac y b hs) (by kernel_rfl) (hs3.nx _)
  · have e : b = B := by omega
    subst e
    rw [hB] at hs
    refine tm _ _ _ _ _ _ _ ⟨by simp, trivial⟩ hs fun ac cZ aZ hs3 => ?_
    have hw3 : IntKind.wrap .i64 ((H : Int) * (2 : Int)) = ((2 * H : Nat) : Int) := by rw [wrap_id (by omega) (by omega)]; omega
    rw [hw3, tab_congr fun q hq => mix_end hq] at hs3
    exact hK _ _ _ (hs3.nx _)

theorem tf_rounds {c : Nat → Fr} {log M : Nat} {w : Fr} (hlog : log ≤ 16) (hw : 0 < log → powN w (2 ^ (log - 1)) = -1) (hM : M ≤ 65536) (hM2 : 2 ^ log ≤ 2 * M)
    (hK : ∀ ac y b, Sim w0 F0 K ac (tgS (tab (2 ^ log) (posV c (powN w) log log)) (powF w M) (2 ^ log) M ((2 ^ log : Nat) : Int)) y b → Wq Try.prog Q (lpIn tg_k) ac .normal b y.w)
    {ac : List Act} {y : Ctx} {b : Act} (hs : Sim w0 F0 K ac (tgS (tab (2 ^ log) (posV c (powN w) log 0)) (powF w M) (2 ^ log) M 1) y b) : Wq Try.prog Q tg_k ac .normal b y.w := by
  have hp2 : 2 ^ log ≤ 2 ^ 16 := Nat.pow_le_pow_right (by decide) hlog
  refine loop_rule (ι := { k : Nat // k ≤ log }) (fun k => tgS (tab (2 ^ log) (posV c (powN w) log k.1)) (powF w M) (2 ^ log) M ((2 ^ k.1 : Nat) : Int)) (fun k => log - k.1) (c := lpC tg_k) (k := lpR tg_k) (by kernel_rfl) (fun k ih ac cY aY hs => ?_) ⟨0, Nat.zero_le _⟩ hs
  obtain ⟨k, hk⟩ := k
  simp only at ih hs
  by_cases h : k < log
  · have ih' := ih ⟨k + 1, h⟩ (by show log - (k + 1) < log - k; omega)
    simp only at ih'
    have hstep := fun b i (hi : i < 2 ^ k) => posV_step c (powN w) rfl (fun a b => powN_add w a b) (b := b) h hi (hw (by omega))
    have eN : 2 ^ log = 2 ^ (log - k - 1) * (2 * 2 ^ k) := by
      rw [← Nat.pow_succ', ← Nat.pow_add]
      congr 1
      omega
    have e2 : 2 ^ (k + 1) = 2 * 2 ^ k := Nat.pow_succ'
    rw [e2] at ih'
    simp only [e2] at hstep
    have hH := Nat.two_pow_pos k
    have hT0 := Nat.two_pow_pos (log - k - 1)
    generalize 2 ^ k = H at *
    generalize posV c (powN w) log k = f at *
    generalize posV c (powN w) log (k + 1) = g at *
    generalize 2 ^ (log - k - 1) = T at *
    generalize 2 ^ log = N at *
    have hTH : N = T * H + T * H := by rw [eN, Nat.mul_left_comm, Nat.two_mul]
    refine tf_round (B := T) (T := T) (by omega) hM hH eN.symm (fun i hi => ?_) ?_ hstep ih' hs ?_
    · have h1 : i * T < H * T := Nat.mul_lt_mul_of_pos_right hi hT0
      rw [Nat.mul_comm H T] at h1
      omega
    · rw [eN, Nat.mul_div_cancel _ (by omega)]
    · have h1 : 1 * H ≤ T * H := Nat.mul_le_mul_right _ hT0
      omega
  · have e : k = log := by omega
    subst e
    exact hK _ _ _ hs

end

theorem transform_mu (c : Nat → Fr) (log : Nat) (w : Fr) (hlog : log ≤ 16) (hw : 0 < log → powN w (2 ^ (log - 1)) = -1) :
    MuC Try.prog 86 0 (2 ^ log) 4 (.sq (.s (tab (2 ^ log) c))) [.v (.c (.int .i64 (log : Int))), .v (.a [.ob (.s w)])] (.sq (.s (nttL c w (2 ^ log)))) := by
  refine mu_start_m (c := bodyOf Try.f86) Try.func86 rfl rfl fun x a hk hm0 hs => ?_
  have hp2 : 2 ^ log ≤ 2 ^ 16 := Nat.pow_le_pow_right (by decide) hlog
  have hpos : 0 < 2 ^ log := Nat.two_pow_pos log
  refine tf _ _ _ _ trivial hs fun ac cY aY hs1 => ?_
  obtain ⟨e1, e2⟩ := isRf_eq (k := tf_k) (by kernel_rfl)
  rw [e1]
  have eP : (rfP tf_k).toList = [17, 18] := by kernel_rfl
  have eG : rfG tf_k = .tmp 16 := by kernel_rfl
  have hlen : ∀ pre, (swA (tab (2 ^ log) c) pre).length = 2 ^ log := fun pre => by rw [swA_len, tab_len]
  refine range_rule (ps := rfP tf_k) e2 hs1 (gf := 115) (caps := [(64, 0)]) (enters_of Try.func115 rfl rfl) (fun pre => tfS (swA (tab (2 ^ log) c) pre) (2 ^ log) (log : Int) w) (fun s => by rw [eG]; rfl) ⟨_, rfl⟩ (prs log (2 ^ log)) prVals prEnc
    (fun y z => .cons ⟨rfl, 0, rfl⟩ (.cons ⟨rfl, 0, rfl⟩ .nil)) (fun z => by rw [← Array.length_toList, eP]; rfl) (fun pre p hp => ?_) (swaps_iter hlog fun s => rfl) (fun pre z => tfB (swA (tab (2 ^ log) c) pre) (2 ^ log) (log : Int) w z.1 z.2)
    (fun pre z => tfE (swA (tab (2 ^ log) c) (pre ++ [z])) (2 ^ log) (log : Int) w) (fun pre z => ⟨_, rfl⟩) (fun pre z hz w1 F1 K1 as1 Q1 l y b hs2 hQ => ?_) (fun pre z hz w1 F1 K1 as1 Q1 l y b hs2 hQ => ?_) fun D y hs2 hD hF hd => ?_
  · rw [eP] at hp
    have h102 : (tfS (swA (tab (2 ^ log) c) pre) (2 ^ log) (log : Int) w).nt = 102 := rfl
    rw [h102]
    simp only [List.mem_cons, List.not_mem_nil, or_false] at hp
    rcases hp with rfl | rfl <;> decide
  · rw [eP] at hs2
    exact tf_assign hs2 hQ
  · obtain ⟨t, ht⟩ := hz
    obtain ⟨g1, g2⟩ := prs_mem (log := log) (z := z) (n := 2 ^ log) (by rw [ht]; simp)
    rw [swA_snoc] at hQ
    exact tf_body g1 g2 (hlen pre) hs2 hQ
  · have hs3 := hs2.marked rfl rfl D
    have eL : swA (tab (2 ^ log) c) (prs log (2 ^ log)) = tab (2 ^ log) (posV c (powN w) log 0) := by
      rw [swA_prs c log _ (Nat.le_refl _)]
      refine tab_congr fun q hq => ?_
      rw [swF_all c hq]
      exact (posV_first c (powN w) rfl log q).symm
    rw [eL] at hs3
    obtain ⟨M, hMe⟩ : ∃ M, M = max (2 ^ log / 2) 1 := ⟨_, rfl⟩
    have hm : (if (1 : Int) > IntKind.wrap .i64 (Int.tdiv ((2 ^ log : Nat) : Int) (2 : Int)) then (1 : Int) else IntKind.wrap .i64 (Int.tdiv ((2 ^ log : Nat) : Int) (2 : Int))) = (M : Int) := by
      generalize 2 ^ log = N at *
      have e : IntKind.wrap .i64 (Int.tdiv (N : Int) (2 : Int)) = ((N / 2 : Nat) : Int) := by
        rw [Int.tdiv_eq_ediv_of_nonneg (by omega)]
        exact wrap_id (by omega) (by omega)
      rw [e, hMe]
      split <;> omega
    have hMb : M ≤ 65536 ∧ 2 ^ log ≤ 2 * M := by
      clear hm
      have he : 2 ^ log = 1 ∨ 2 ^ log = 2 * 2 ^ (log - 1) := by
        cases log with
        | zero => exact .inl rfl
        | succ l => exact .inr Nat.pow_succ'
      generalize 2 ^ (log - 1) = N2 at *
      generalize 2 ^ log = N at *
      omega
    refine tg _ _ (log : Int) w ⟨by decide, by rw [hm]; omega, by rw [hm]; omega, trivial⟩ hs3 fun ac cZ aZ hs4 => ?_
    rw [hm, Int.toNat_natCast] at hs4
    refine tf_rounds hlog hw hMb.1 hMb.2 (fun ac y2 b2 hs5 => ?_) (hs4.nx _)
    refine tn _ _ _ _ _ ⟨by simp, trivial⟩ hs5 fun ac cV aV hs6 => ⟨?_⟩
    have eR : tab (2 ^ log) (posV c (powN w) log log) = nttL c w (2 ^ log) := tab_congr fun q hq => posV_last c (powN w) log q hq
    rw [eR] at hs6
    exact mu_finish envW_ok hk hm0 rfl hs2 hD hF hd rfl rfl rfl (fun _ _ h => h) (.inr ⟨_, _, rfl, rfl, rfl⟩) hs6

end Go.Proofs.Ytlfllehomhcbfaa

/- Values at a domain's elements, and the reference's: walked. No conditions. -/
namespace Go.Proofs.Ytlfllehomhcbfaa

def halfNeg (log : Int) (w : Fr) : Prop := 0 < log → powN w (2 ^ (log.toNat - 1)) = -1
def ntt (L : List Fr) (w : Fr) (n : Nat) : List Fr := nttL (fun q => L.getD q 0) w n
def nttSpec : MuS := fun off len es e rest =>
  match off, es, e, rest with
  | 0, 4, .sq (.s L), [.v (.c (.int .i64 log)), .v (.a [.ob (.s w)])] => some ([0 ≤ log, log ≤ 16, len = 2 ^ log.toNat, L.length = len, halfNeg log w], .sq (.s (ntt L w len)))
  | _, _, _, _ => none

theorem ntt_mu {L : List Fr} {log : Int} {w : Fr} {len : Nat} (ho : AllP [0 ≤ log, log ≤ 16, len = 2 ^ log.toNat, L.length = len, halfNeg log w]) : MuC Try.prog 86 0 len 4 (.sq (.s L)) [.v (.c (.int .i64 log)), .v (.a [.ob (.s w)])] (.sq (.s (ntt L w len))) := by
  obtain ⟨h0, h1, h2, h3, h4, _⟩ := ho
  obtain ⟨k, rfl⟩ := Int.eq_ofNat_of_zero_le h0
  have h2 : len = 2 ^ k := h2
  subst h2
  have e : L = tab (2 ^ k) (fun q => L.getD q 0) := by rw [← h3]; exact tab_self L
  have := transform_mu (fun q => L.getD q 0) k w (by omega) (fun hk => h4 (by omega))
  rw [← e] at this
  exact this

noncomputable def envV : Env := { envW with mu := fun g => if g = 86 then some (mu1 nttSpec) else envW.mu g }
theorem envV_ok : EnvOk Try.prog envV :=
  env_mu envW_ok 86 nttSpec (enters_of Try.func86 rfl rfl) fun off len es e rest o e' h ho _ _ => by
    unfold nttSpec at h
    split at h
    · cases h
      exact ntt_mu ho
    · cases h

--@env envV envV_ok
noncomputable def vlIn_k : List KI := (run envV false 3000 ((fun (log : Int) (w s : U4) (l : List U4) => (⟨[.code (bodyOf Try.f47)], .normal, initSt Try.f47.ntmps [.v (.a [.int .i64 log, .ob (.fr w)]), .v (.a [.ob (.fr s)]), .v (.c (.sl (.fr l)))]⟩ : Cfg)) default default default default) [false, false]).cfg.k
theorem vlIn_at (log : Int) (w s : U4) (l : List U4) : runAt envV false 3000 ((⟨[.code (bodyOf Try.f47)], .normal, initSt Try.f47.ntmps [.v (.a [.int .i64 log, .ob (.fr w)]), .v (.a [.ob (.fr s)]), .v (.c (.sl (.fr l)))]⟩ : Cfg)) [false, false] [3, 8, 9, 10, 31, 32, 33] [16, 304, 384, 400] [] = some ⟨[((Bool.not (domOk log w)) = false), ((0 : Int) ≤ log), ((decide ((((List.length l) : Nat) : Int) > (IntKind.wrap IntKind.i64 ((1 : Int) * ((2 : Int) ^ (Min.min (log).toNat 64)))))) = false), ((0 : Int) ≤ log), ((0 : Int) ≤ (IntKind.wrap IntKind.i64 ((1 : Int) * ((2 : Int) ^ (Min.min (log).toNat 64))))), ((IntKind.wrap IntKind.i64 ((1 : Int) * ((2 : Int) ^ (Min.min (log).toNat 64)))) = (IntKind.wrap IntKind.i64 ((1 : Int) * ((2 : Int) ^ (Min.min (log).toNat 64))))), (((32 : Int) * (IntKind.wrap IntKind.i64 ((1 : Int) * ((2 : Int) ^ (Min.min (log).toNat 64))))) ≤ (281474976710656 : Int)), ((IntKind.wrap IntKind.i64 ((1 : Int) * ((2 : Int) ^ (Min.min (log).toNat 64)))) ≤ (9223372036854775807 : Int)), ((0 : Int) ≤ (1 : Int)), ((1 : Int) < (18446744073709551616 : Int))], Exit.normal, [(SV.v (V1.c (It.ptr 16 0))), (SV.v (V1.c (It.slc 304 0 ((IntKind.wrap IntKind.i64 ((1 : Int) * ((2 : Int) ^ (Min.min (log).toNat 64))))).toNat 4))), (SV.v (V1.c (It.ptr 384 0))), (SV.v (V1.c (It.ptr 400 0))), (SV.v (V1.c (It.sl (Sq.fr l)))), (SV.v (V1.c (It.int IntKind.i64 (((List.length l) : Nat) : Int)))), (SV.v (V1.c (It.int IntKind.i64 (0 : Int))))], [(Option.some (En.fl [(It.int IntKind.i64 log), (It.ob (Ob.fr w))])), (Option.some (En.sq (Sq.s (List.replicate ((IntKind.wrap IntKind.i64 ((1 : Int) * ((2 : Int) ^ (Min.min (log).toNat 64))))).toNat (0 : Fr))))), (Option.some (En.fl [(It.ob (Ob.s (inF s)))])), (Option.some (En.fl [(It.ob (Ob.s (Fin.ofNat rN 1)))]))], 58, 496, []⟩ := by kernel_rfl
theorem vlIn_hk (log : Int) (w s : U4) (l : List U4) : (run envV false 3000 ((⟨[.code (bodyOf Try.f47)], .normal, initSt Try.f47.ntmps [.v (.a [.int .i64 log, .ob (.fr w)]), .v (.a [.ob (.fr s)]), .v (.c (.sl (.fr l)))]⟩ : Cfg)) [false, false]).cfg.k = vlIn_k := by kernel_rfl
theorem vlIn (log : Int) (w s : U4) (l : List U4) {w0 : World} {F0 : Nat → Prop} {K : Kp} {ac : List Act} {Q : Exit → Act → World → Prop} {cX : Ctx} {aX : Act} (ho : AllP [((Bool.not (domOk log w)) = false), ((0 : Int) ≤ log), ((decide ((((List.length l) : Nat) : Int) > (IntKind.wrap IntKind.i64 ((1 : Int) * ((2 : Int) ^ (Min.min (log).toNat 64)))))) = false), ((0 : Int) ≤ log), ((0 : Int) ≤ (IntKind.wrap IntKind.i64 ((1 : Int) * ((2 : Int) ^ (Min.min (log).toNat 64))))), ((IntKind.wrap IntKind.i64 ((1 : Int) * ((2 : Int) ^ (Min.min (log).toNat 64)))) = (IntKind.wrap IntKind.i64 ((1 : Int) * ((2 : Int) ^ (Min.min (log).toNat 64))))), (((32 : Int) * (IntKind.wrap IntKind.i64 ((1 : Int) * ((2 : Int) ^ (Min.min (log).toNat 64))))) ≤ (281474976710656 : Int)), ((IntKind.wrap IntKind.i64 ((1 : Int) * ((2 : Int) ^ (Min.min (log).toNat 64)))) ≤ (9223372036854775807 : Int)), ((0 : Int) ≤ (1 : Int)), ((1 : Int) < (18446744073709551616 : Int))]) (hs : Sim w0 F0 K ac (initSt Try.f47.ntmps [.v (.a [.int .i64 log, .ob (.fr w)]), .v (.a [.ob (.fr s)]), .v (.c (.sl (.fr l)))]) cX aX) (hK : ∀ ac cY aY, Sim w0 F0 K ac (mkSt 58 [3, 8, 9, 10, 31, 32, 33] [(SV.v (V1.c (It.ptr 16 0))), (SV.v (V1.c (It.slc 304 0 ((IntKind.wrap IntKind.i64 ((1 : Int) * ((2 : Int) ^ (Min.min (log).toNat 64))))).toNat 4))), (SV.v (V1.c (It.ptr 384 0))), (SV.v (V1.c (It.ptr 400 0))), (SV.v (V1.c (It.sl (Sq.fr l)))), (SV.v (V1.c (It.int IntKind.i64 (((List.length l) : Nat) : Int)))), (SV.v (V1.c (It.int IntKind.i64 (0 : Int))))] [16, 304, 384, 400] [(Option.some (En.fl [(It.int IntKind.i64 log), (It.ob (Ob.fr w))])), (Option.some (En.sq (Sq.s (List.replicate ((IntKind.wrap IntKind.i64 ((1 : Int) * ((2 : Int) ^ (Min.min (log).toNat 64))))).toNat (0 : Fr))))), (Option.some (En.fl [(It.ob (Ob.s (inF s)))])), (Option.some (En.fl [(It.ob (Ob.s (Fin.ofNat rN 1)))]))] 496 [] []) cY aY → Wq Try.prog Q (vlIn_k) ac Exit.normal aY cY.w) : Wq Try.prog Q ([.code (bodyOf Try.f47)]) ac .normal aX cX.w :=
  run_at2 envV_ok (vlIn_at log w s l) (vlIn_hk log w s l) ho hs hK
noncomputable def atIn_k : List KI := (run envV false 3000 ((fun (l : List U4) (x : U4) => (⟨[.code (bodyOf Try.f87)], .normal, initSt Try.f87.ntmps [.v (.c (.sl (.fr l))), .v (.a [.ob (.fr x)])]⟩ : Cfg)) default default) []).cfg.k
theorem atIn_at (l : List U4) (x : U4) : runAt envV false 3000 ((⟨[.code (bodyOf Try.f87)], .normal, initSt Try.f87.ntmps [.v (.c (.sl (.fr l))), .v (.a [.ob (.fr x)])]⟩ : Cfg)) [] [0, 3, 4, 5, 6] [16, 32, 64] [] = some ⟨[], Exit.normal, [(SV.v (V1.c (It.sl (Sq.fr l)))), (SV.v (V1.c (It.ptr 16 0))), (SV.v (V1.c (It.ptr 32 0))), (SV.v (V1.c (It.ptr 64 0))), (SV.v (V1.c (It.int IntKind.i64 (IntKind.wrap IntKind.i64 ((((List.length l) : Nat) : Int) - (1 : Int))))))], [(Option.some (En.fl [(It.ob (Ob.fr x))])), (Option.some (En.fl [(It.ob (Ob.fr (0 : U4)))])), (Option.some (En.fl [(It.ob (Ob.fr (0 : U4)))]))], 25, 160, []⟩ := by kernel_rfl
theorem atIn_hk (l : List U4) (x : U4) : (run envV false 3000 ((⟨[.code (bodyOf Try.f87)], .normal, initSt Try.f87.ntmps [.v (.c (.sl (.fr l))), .v (.a [.ob (.fr x)])]⟩ : Cfg)) []).cfg.k = atIn_k := by kernel_rfl
theorem atIn (l : List U4) (x : U4) {w0 : World} {F0 : Nat → Prop} {K : Kp} {ac : List Act} {Q : Exit → Act → World → Prop} {cX : Ctx} {aX : Act} (ho : AllP []) (hs : Sim w0 F0 K ac (initSt Try.f87.ntmps [.v (.c (.sl (.fr l))), .v (.a [.ob (.fr x)])]) cX aX) (hK : ∀ ac cY aY, Sim w0 F0 K ac (mkSt 25 [0, 3, 4, 5, 6] [(SV.v (V1.c (It.sl (Sq.fr l)))), (SV.v (V1.c (It.ptr 16 0))), (SV.v (V1.c (It.ptr 32 0))), (SV.v (V1.c (It.ptr 64 0))), (SV.v (V1.c (It.int IntKind.i64 (IntKind.wrap IntKind.i64 ((((List.length l) : Nat) : Int) - (1 : Int))))))] [16, 32, 64] [(Option.some (En.fl [(It.ob (Ob.fr x))])), (Option.some (En.fl [(It.ob (Ob.fr (0 : U4)))])), (Option.some (En.fl [(It.ob (Ob.fr (0 : U4)))]))] 160 [] []) cY aY → Wq Try.prog Q (atIn_k) ac Exit.normal aY cY.w) : Wq Try.prog Q ([.code (bodyOf Try.f87)]) ac .normal aX cX.w :=
  run_at2 envV_ok (atIn_at l x) (atIn_hk l x) ho hs hK
noncomputable def vlS (log : Int) (w s : U4) (l : List U4) (N : Nat) (L : List Fr) (x : Fr) (i : Nat) : St := mkSt 58 [3, 8, 9, 10, 31, 32, 33] [(SV.v (V1.c (It.ptr 16 0))), .v (.c (.slc 304 0 N 4)), (SV.v (V1.c (It.ptr 384 0))), (SV.v (V1.c (It.ptr 400 0))), (SV.v (V1.c (It.sl (Sq.fr l)))), (SV.v (V1.c (It.int IntKind.i64 (((List.length l) : Nat) : Int)))), .v (.c (.int .i64 (i : Int)))] [16, 304, 384, 400] [(Option.some (En.fl [(It.int IntKind.i64 log), (It.ob (Ob.fr w))])), some (.sq (.s L)), (Option.some (En.fl [(It.ob (Ob.s (inF s)))])), some (.fl [.ob (.s x)])] 496 [] []
theorem vlN_at (log : Int) (w s : U4) (l : List U4) (N : Nat) (L : List Fr) (x : Fr) (i : Nat) : runAt envV false 3000 ((⟨lpIn vlIn_k, .normal, vlS log w s l N L x i⟩ : Cfg)) [true] [3, 8, 9, 10, 31, 32, 33] [16, 304, 384, 400] [] = some ⟨[((decide (((i : Nat) : Int) < (((List.length l) : Nat) : Int))) = true), ((0 : Int) ≤ ((i : Nat) : Int)), (((i : Nat) : Int) < (((List.length l) : Nat) : Int)), ((0 : Int) ≤ ((i : Nat) : Int)), (((i : Nat) : Int) < ((N : Nat) : Int)), (0 = 0), ((((i : Nat) : Int)).toNat < (List.length L))], Exit.normal, [(SV.v (V1.c (It.ptr 16 0))), (SV.v (V1.c (It.slc 304 0 N 4))), (SV.v (V1.c (It.ptr 384 0))), (SV.v (V1.c (It.ptr 400 0))), (SV.v (V1.c (It.sl (Sq.fr l)))), (SV.v (V1.c (It.int IntKind.i64 (((List.length l) : Nat) : Int)))), (SV.v (V1.c (It.int IntKind.i64 (IntKind.wrap IntKind.i64 (((i : Nat) : Int) + (1 : Int))))))], [(Option.some (En.fl [(It.int IntKind.i64 log), (It.ob (Ob.fr w))])), (Option.some (En.sq (Sq.s (List.set L (((i : Nat) : Int)).toNat ((inF (List.getD l (((i : Nat) : Int)).toNat (0 : U4))) * x))))), (Option.some (En.fl [(It.ob (Ob.s (inF s)))])), (Option.some (En.fl [(It.ob (Ob.s (x * (inF s))))]))], 58, 832, []⟩ := by kernel_rfl
theorem vlN_hk (log : Int) (w s : U4) (l : List U4) (N : Nat) (L : List Fr) (x : Fr) (i : Nat) : (run envV false 3000 ((⟨lpIn vlIn_k, .normal, vlS log w s l N L x i⟩ : Cfg)) [true]).cfg.k = lpBk vlIn_k := by kernel_rfl
theorem vlN (log : Int) (w s : U4) (l : List U4) (N : Nat) (L : List Fr) (x : Fr) (i : Nat) {w0 : World} {F0 : Nat → Prop} {K : Kp} {ac : List Act} {Q : Exit → Act → World → Prop} {cX : Ctx} {aX : Act} (ho : AllP [((decide (((i : Nat) : Int) < (((List.length l) : Nat) : Int))) = true), ((0 : Int) ≤ ((i : Nat) : Int)), (((i : Nat) : Int) < (((List.length l) : Nat) : Int)), ((0 : Int) ≤ ((i : Nat) : Int)), (((i : Nat) : Int) < ((N : Nat) : Int)), (0 = 0), ((((i : Nat) : Int)).toNat < (List.length L))]) (hs : Sim w0 F0 K ac (vlS log w s l N L x i) cX aX) (hK : ∀ ac cY aY, Sim w0 F0 K ac (mkSt 58 [3, 8, 9, 10, 31, 32, 33] [(SV.v (V1.c (It.ptr 16 0))), (SV.v (V1.c (It.slc 304 0 N 4))), (SV.v (V1.c (It.ptr 384 0))), (SV.v (V1.c (It.ptr 400 0))), (SV.v (V1.c (It.sl (Sq.fr l)))), (SV.v (V1.c (It.int IntKind.i64 (((List.length l) : Nat) : Int)))), (SV.v (V1.c (It.int IntKind.i64 (IntKind.wrap IntKind.i64 (((i : Nat) : Int) + (1 : Int))))))] [16, 304, 384, 400] [(Option.some (En.fl [(It.int IntKind.i64 log), (It.ob (Ob.fr w))])), (Option.some (En.sq (Sq.s (List.set L (((i : Nat) : Int)).toNat ((inF (List.getD l (((i : Nat) : Int)).toNat (0 : U4))) * x))))), (Option.some (En.fl [(It.ob (Ob.s (inF s)))])), (Option.some (En.fl [(It.ob (Ob.s (x * (inF s))))]))] 832 [] []) cY aY → Wq Try.prog Q (lpBk vlIn_k) ac Exit.normal aY cY.w) : Wq Try.prog Q (lpIn vlIn_k) ac .normal aX cX.w :=
  run_at2 envV_ok (vlN_at log w s l N L x i) (vlN_hk log w s l N L x i) ho hs hK
theorem vlX_end (log : Int) (w s : U4) (l : List U4) (N : Nat) (L : List Fr) (x : Fr) (i : Nat) : runEnd envV Try.f47 false 3000 (⟨lpIn vlIn_k, .normal, vlS log w s l N L x i⟩) [false] [640] [] = (Option.some ([((decide (((i : Nat) : Int) < (((List.length l) : Nat) : Int))) = false), ((0 : Int) ≤ log), (log ≤ (16 : Int)), (N = (2 ^ (log).toNat)), ((List.length L) = N), (halfNeg log (inF w)), (0 = 0), (N = (List.length (ntt L (inF w) N))), (4 = 4), ((List.length (ntt L (inF w) N)) ≤ 8796093022208)], ((SV.t [(V1.c (It.slc 0 0 (List.length (ntt L (inF w) N)) 4)), (V1.c (It.int IntKind.i64 (0 : Int)))]), [(En.sq (Sq.fr (List.map outF (ntt L (inF w) N))))]))) := by kernel_rfl
theorem vlA (log : Int) (w s : U4) (l : List U4) : fnRes envV Try.f47 3000 [.v (.a [.int .i64 log, .ob (.fr w)]), .v (.a [.ob (.fr s)]), .v (.c (.sl (.fr l)))] [true] [] [] = (Option.some ([((Bool.not (domOk log w)) = true)], ((SV.t [(V1.c (It.val (Value.slice Option.none 0 0))), (V1.c (It.int IntKind.i64 (40 : Int)))]), []))) := by kernel_rfl
theorem vlB (log : Int) (w s : U4) (l : List U4) : fnRes envV Try.f47 3000 [.v (.a [.int .i64 log, .ob (.fr w)]), .v (.a [.ob (.fr s)]), .v (.c (.sl (.fr l)))] [false, true] [] [] = (Option.some ([((Bool.not (domOk log w)) = false), ((0 : Int) ≤ log), ((decide ((((List.length l) : Nat) : Int) > (IntKind.wrap IntKind.i64 ((1 : Int) * ((2 : Int) ^ (Min.min (log).toNat 64)))))) = true)], ((SV.t [(V1.c (It.val (Value.slice Option.none 0 0))), (V1.c (It.int IntKind.i64 (3 : Int)))]), []))) := by kernel_rfl
noncomputable def atS (l : List U4) (x o : U4) (i : Int) : St := mkSt 25 [0, 3, 4, 5, 6] [(SV.v (V1.c (It.sl (Sq.fr l)))), (SV.v (V1.c (It.ptr 16 0))), (SV.v (V1.c (It.ptr 32 0))), (SV.v (V1.c (It.ptr 64 0))), .v (.c (.int .i64 i))] [16, 32, 64] [(Option.some (En.fl [(It.ob (Ob.fr x))])), (Option.some (En.fl [(It.ob (Ob.fr (0 : U4)))])), some (.fl [.ob (.fr o)])] 160 [] []
theorem atN_at (l : List U4) (x o : U4) (i : Int) : runAt envV false 3000 ((⟨lpIn atIn_k, .normal, atS l x o i⟩ : Cfg)) [true] [0, 3, 4, 5, 6] [16, 32, 64] [] = some ⟨[((decide (i ≥ (0 : Int))) = true), ((Fin.val x) < rN), ((0 : Int) ≤ i), (i < (((List.length l) : Nat) : Int))], Exit.normal, [(SV.v (V1.c (It.sl (Sq.fr l)))), (SV.v (V1.c (It.ptr 16 0))), (SV.v (V1.c (It.ptr 32 0))), (SV.v (V1.c (It.ptr 64 0))), (SV.v (V1.c (It.int IntKind.i64 (IntKind.wrap IntKind.i64 (i - (1 : Int))))))], [(Option.some (En.fl [(It.ob (Ob.fr x))])), (Option.some (En.fl [(It.ob (Ob.fr (0 : U4)))])), (Option.some (En.fl [(It.ob (Ob.fr (cleanU ((mulU o x) + (cleanU (List.getD l (i).toNat (0 : U4)))))))]))], 25, 400, []⟩ := by kernel_rfl
theorem atN_hk (l : List U4) (x o : U4) (i : Int) : (run envV false 3000 ((⟨lpIn atIn_k, .normal, atS l x o i⟩ : Cfg)) [true]).cfg.k = lpBk atIn_k := by kernel_rfl
theorem atN (l : List U4) (x o : U4) (i : Int) {w0 : World} {F0 : Nat → Prop} {K : Kp} {ac : List Act} {Q : Exit → Act → World → Prop} {cX : Ctx} {aX : Act} (ho : AllP [((decide (i ≥ (0 : Int))) = true), ((Fin.val x) < rN), ((0 : Int) ≤ i), (i < (((List.length l) : Nat) : Int))]) (hs : Sim w0 F0 K ac (atS l x o i) cX aX) (hK : ∀ ac cY aY, Sim w0 F0 K ac (mkSt 25 [0, 3, 4, 5, 6] [(SV.v (V1.c (It.sl (Sq.fr l)))), (SV.v (V1.c (It.ptr 16 0))), (SV.v (V1.c (It.ptr 32 0))), (SV.v (V1.c (It.ptr 64 0))), (SV.v (V1.c (It.int IntKind.i64 (IntKind.wrap IntKind.i64 (i - (1 : Int))))))] [16, 32, 64] [(Option.some (En.fl [(It.ob (Ob.fr x))])), (Option.some (En.fl [(It.ob (Ob.fr (0 : U4)))])), (Option.some (En.fl [(It.ob (Ob.fr (cleanU ((mulU o x) + (cleanU (List.getD l (i).toNat (0 : U4)))))))]))] 400 [] []) cY aY → Wq Try.prog Q (lpBk atIn_k) ac Exit.normal aY cY.w) : Wq Try.prog Q (lpIn atIn_k) ac .normal aX cX.w :=
  run_at2 envV_ok (atN_at l x o i) (atN_hk l x o i) ho hs hK
theorem atX_end (l : List U4) (x o : U4) (i : Int) : runEnd envV Try.f87 false 3000 (⟨lpIn atIn_k, .normal, atS l x o i⟩) [false] [] [] = (Option.some ([((decide (i ≥ (0 : Int))) = false)], ((SV.v (V1.a [(It.ob (Ob.fr o))])), []))) := by kernel_rfl
end Go.Proofs.Ytlfllehomhcbfaa

/- Values at a domain's elements: contracts. No conditions. -/
namespace Go.Proofs.Ytlfllehomhcbfaa

section
variable {r : Nat} [NeZero r]
theorem mul4_r (a b c d : Fin r) : a * b * (c * d) = a * c * (b * d) := by grind
theorem mul3_r (a b c : Fin r) : a * b * c = a * (b * c) := by grind
theorem mulc_r (a b : Fin r) : a * b = b * a := by grind
theorem dist_r (a b c : Fin r) : (a + b) * c = a * c + b * c := by grind
theorem sm_trunc {f : Nat → Fin r} {m : Nat} : ∀ {n : Nat}, m ≤ n → (∀ j, m ≤ j → j < n → f j = 0) → sm f n = sm f m
  | 0, h, _ => by rw [show m = 0 from by omega]
  | n + 1, h, hz => by
    by_cases h1 : m = n + 1
    · rw [h1]
    · show sm f n + f n = _
      rw [sm_trunc (m := m) (n := n) (by omega) (fun j h2 h3 => hz j h2 (by omega)), hz n (by omega) (by omega)]
      exact Fin.add_zero _
/-- From the top on. -/
theorem sm_front (f : Nat → Fin r) : ∀ n, sm f (n + 1) = f 0 + sm (fun i => f (i + 1)) n
  | 0 => by simp only [sm]; grind
  | n + 1 => by
    have := sm_front f n
    simp only [sm] at this ⊢
    rw [this]
    grind
end

theorem powN_mul (x y : Fr) : ∀ n, powN (x * y) n = powN x n * powN y n
  | 0 => (Fin.mul_one _).symm
  | n + 1 => by
    show powN (x * y) n * (x * y) = powN x n * x * (powN y n * y)
    rw [powN_mul x y n]
    exact mul4_r _ _ _ _

theorem powN_powN (x : Fr) (q : Nat) : ∀ n, powN (powN x q) n = powN x (q * n)
  | 0 => rfl
  | n + 1 => by
    show powN (powN x q) n * powN x q = _
    rw [powN_powN x q n, Nat.mul_succ, powN_add]

/-- A polynomial's value. -/
def evalF (L : List Fr) (x : Fr) : Fr := sm (fun j => L.getD j 0 * powN x j) L.length
/-- Its values at so many powers, each times a shift. -/
def valsF (n : Nat) (w s : Fr) (L : List Fr) : List Fr := tab n (fun q => evalF L (s * powN w q))

theorem fill_get {f : Nat → Fr} {m N j : Nat} : ((List.range m).map f ++ List.replicate (N - m) (0 : Fr)).getD j 0 = if j < m then f j else 0 := by
  by_cases h : j < m
  · simp [List.getD, List.getElem?_append, h]
  · rw [if_neg h]
    by_cases h2 : j < m + (N - m)
    · simp [List.getD, List.getElem?_append, h, List.getElem?_replicate]
      split <;> rfl
    · simp [List.getD, List.getElem?_append, h, List.getElem?_replicate]
      split <;> rfl

theorem ntt_vals {L : List Fr} {N : Nat} (w s : Fr) (h : L.length ≤ N) : ntt ((List.range L.length).map (fun j => L.getD j 0 * powN s j) ++ List.replicate (N - L.length) 0) w N = valsF N w s L := by
  unfold ntt nttL valsF
  refine tab_congr fun q _ => ?_
  simp only [fill_get]
  rw [sm_trunc h (fun j h1 _ => by rw [if_neg (by omega)]; exact Fin.zero_mul _)]
  unfold evalF
  refine sm_congr _ fun j hj => ?_
  rw [if_pos hj, powN_mul, powN_powN]
  exact mul3_r _ _ _

theorem root31 : sqN rootF 31 = -1 := by
  apply Fin.ext
  rw [sqN_val]
  decide +kernel

theorem sqN_pow (x : Fr) : ∀ n, sqN x n = powN x (2 ^ n)
  | 0 => (Fin.one_mul _).symm
  | n + 1 => by
    show sqN x n * sqN x n = _
    rw [sqN_pow x n, Nat.pow_succ, Nat.mul_two, powN_add]

theorem dom_half {log : Int} {w : U4} (h : domOk log w = true) : halfNeg log (inF w) := by
  intro hp
  obtain ⟨h0, h1, rfl⟩ := domOk_log h
  rw [in_out, sqN_pow, powN_powN, ← Nat.pow_add, show (32 - log).toNat + (log.toNat - 1) = 31 from by omega, ← sqN_pow]
  exact root31

theorem shl3 {log : Int} (h0 : 0 ≤ log) (h1 : log ≤ 16) : IntKind.wrap .i64 ((1 : Int) * ((2 : Int) ^ (min (log).toNat 64))) = ((2 ^ log.toNat : Nat) : Int) := by
  obtain ⟨k, rfl⟩ := Int.eq_ofNat_of_zero_le h0
  exact shl_one (by omega)

theorem valsF_len (n : Nat) (w s : Fr) (L : List Fr) : (valsF n w s L).length = n := tab_len _ _

theorem vals_fnd (log : Int) (w s : U4) (l : List U4) (hd : domOk log w = true) (hl : l.length ≤ 2 ^ log.toNat) :
    FnD Try.prog 47 [.v (.a [.int .i64 log, .ob (.fr w)]), .v (.a [.ob (.fr s)]), .v (.c (.sl (.fr l)))] (.t [.c (.slc 0 0 (2 ^ log.toNat) 4), .c (.int .i64 0)]) [.sq (.fr ((valsF (2 ^ log.toNat) (inF w) (inF s) (l.map inF)).map outF))] := by
  obtain ⟨h0, h1, _⟩ := domOk_log hd
  have hhalf := dom_half hd
  have hp2 : 2 ^ log.toNat ≤ 2 ^ 16 := Nat.pow_le_pow_right (by decide) (by omega)
  have hsh := shl3 h0 h1
  have hN : ∃ N, N = 2 ^ log.toNat := ⟨_, rfl⟩
  obtain ⟨N, hN⟩ := hN
  rw [← hN] at hl hp2 hsh ⊢
  refine fn_start (fn := Try.f47) (c := bodyOf Try.f47) Try.func47 rfl rfl fun x a hk hF hs => ?_
  refine vlIn log w s l ?_ hs fun ac cY aY hs1 => ?_
  · rw [hsh, hd]
    clear hd hhalf hsh hs hN
    and_intros <;> first | rfl | trivial | omega | (apply decide_eq_false; omega) | decide
  rw [hsh, Int.toNat_natCast] at hs1
  refine loop_rule (ι := { i : Nat // i ≤ l.length }) (fun i => vlS log w s l N ((List.range i.1).map (fun j => (l.map inF).getD j 0 * powN (inF s) j) ++ List.replicate (N - i.1) 0) (powN (inF s) i.1) i.1) (fun i => l.length - i.1) (c := lpC vlIn_k) (k := lpR vlIn_k) (by kernel_rfl) (fun i ih ac cY aY hs => ?_) ⟨0, Nat.zero_le _⟩ hs1
  obtain ⟨i, hi⟩ := i
  simp only at ih hs
  have hlen := fill_len (fun j => (l.map inF).getD j 0 * powN (inF s) j) 0 (show i ≤ N by omega)
  by_cases h : i < l.length
  · have e : inF (l.getD i 0) = (l.map inF).getD i 0 := by simp [List.getD, h]
    refine vlN log w s l N _ _ i ⟨by simp [h], by omega, by omega, by omega, by omega, rfl, by rw [hlen]; omega, trivial⟩ hs fun ac cZ aZ hs2 => ?_
    rw [Int.toNat_natCast, e, fill_set (fun j => (l.map inF).getD j 0 * powN (inF s) j) _ (by omega : i < N), wrap_id (by omega) (by omega)] at hs2
    exact ih ⟨i + 1, by omega⟩ (by show l.length - (i + 1) < l.length - i; omega) ac cZ aZ (hs2.nx _)
  · have e : i = (l.map inF).length := by rw [List.length_map]; omega
    have r := vlX_end log w s l N ((List.range i).map (fun j => (l.map inF).getD j 0 * powN (inF s) j) ++ List.replicate (N - i) 0) (powN (inF s) i) i
    have e2 : ntt ((List.range i).map (fun j => (l.map inF).getD j 0 * powN (inF s) j) ++ List.replicate (N - i) 0) (inF w) N = valsF N (inF w) (inF s) (l.map inF) := by
      rw [e]
      exact ntt_vals (inF w) (inF s) (by rw [List.length_map]; exact hl)
    rw [e2, valsF_len] at r
    exact run_end2 envV_ok hk hF r ⟨by simp [h], h0, h1, hN, hlen, hhalf, rfl, rfl, rfl, by omega, trivial⟩ (fun y v hd => hd) hs

theorem vals_fnd0 (log : Int) (w s : U4) (l : List U4) (hd : domOk log w = false) :
    FnD Try.prog 47 [.v (.a [.int .i64 log, .ob (.fr w)]), .v (.a [.ob (.fr s)]), .v (.c (.sl (.fr l)))] (.t [.c (.val (.slice none 0 0)), .c (.int .i64 40)]) [] :=
  fn_sound envV_ok Try.func47 (vlA log w s l) ⟨by rw [hd]; rfl, trivial⟩

theorem vals_fnd1 (log : Int) (w s : U4) (l : List U4) (hd : domOk log w = true) (hl : ¬ l.length ≤ 2 ^ log.toNat) :
    FnD Try.prog 47 [.v (.a [.int .i64 log, .ob (.fr w)]), .v (.a [.ob (.fr s)]), .v (.c (.sl (.fr l)))] (.t [.c (.val (.slice none 0 0)), .c (.int .i64 3)]) [] := by
  obtain ⟨h0, h1, _⟩ := domOk_log hd
  have hsh := shl3 h0 h1
  refine fn_sound envV_ok Try.func47 (vlB log w s l) ⟨by rw [hd]; rfl, h0, ?_, trivial⟩
  rw [hsh]
  exact decide_eq_true (by omega)

/-- From the highest coefficient on. -/
def hornF (L : List Fr) (x : Fr) : Nat → Fr
  | 0 => 0
  | i + 1 => hornF L x i * x + L.getD (L.length - (i + 1)) 0

theorem hornF_eval (L : List Fr) (x : Fr) : ∀ i, i ≤ L.length → hornF L x i = sm (fun j => L.getD (L.length - i + j) 0 * powN x j) i
  | 0, _ => rfl
  | i + 1, h => by
    show hornF L x i * x + _ = _
    rw [hornF_eval L x i (by omega), sm_front]
    have e1 : L.getD (L.length - (i + 1) + 0) 0 * powN x 0 = L.getD (L.length - (i + 1)) 0 := Fin.mul_one _
    rw [e1, mulc_r _ x, ← sm_mul, fr_add_comm]
    congr 1
    refine sm_congr _ fun j _ => ?_
    rw [show L.length - (i + 1) + (j + 1) = L.length - i + j from by omega]
    show x * (_ * powN x j) = _ * (powN x j * x)
    rw [mulc_r x, mul3_r]

theorem at_fnd (l : List U4) (x : U4) (hx : x.val < rN) : FnD Try.prog 87 [.v (.c (.sl (.fr l))), .v (.a [.ob (.fr x)])] (.v (.a [.ob (.fr (outF (evalF (l.map inF) (inF x))))])) [] := by
  have e0 : outF (hornF (l.map inF) (inF x) 0) = (0 : U4) := by apply Fin.ext; rw [outF_val]; rfl
  refine fn_start (fn := Try.f87) (c := bodyOf Try.f87) Try.func87 rfl rfl fun c a hk hF hs => ?_
  have hlm : (l.length : Int) ≤ 9223372036854775807 := by
    have := sl_len (q := .fr l) (hs.t 0)
    simp only [maxLen, Sq.n] at this
    omega
  refine atIn l x trivial hs fun ac cY aY hs1 => ?_
  have e : (l.length : Int) - 1 - ((0 : Nat) : Int) = (l.length : Int) - 1 := by omega
  rw [wrap_id (by omega) (by omega), ← e, ← e0] at hs1
  refine loop_rule (ι := { i : Nat // i ≤ l.length }) (fun i => atS l x (outF (hornF (l.map inF) (inF x) i.1)) ((l.length : Int) - 1 - (i.1 : Int))) (fun i => l.length - i.1) (c := lpC atIn_k) (k := lpR atIn_k) (by kernel_rfl) (fun i ih ac cY aY hs => ?_) ⟨0, Nat.zero_le _⟩ (hs1.nx _)
  obtain ⟨i, hi⟩ := i
  simp only at ih hs
  by_cases h : i < l.length
  · refine atN l x _ _ ⟨by simp; omega, hx, by omega, by omega, trivial⟩ hs fun ac cZ aZ hs2 => ?_
    have e1 : mulU (outF (hornF (l.map inF) (inF x) i)) x = outF (hornF (l.map inF) (inF x) i * inF x) := by
      have := mulU_out (hornF (l.map inF) (inF x) i) (inF x)
      rw [out_in hx] at this
      exact this
    have e2 : inF (l.getD ((l.length : Int) - 1 - (i : Int)).toNat 0) = (l.map inF).getD ((l.map inF).length - (i + 1)) 0 := by
      rw [show ((l.length : Int) - 1 - (i : Int)).toNat = l.length - (i + 1) from by omega, List.length_map]
      have : l.length - (i + 1) < l.length := by omega
      simp [List.getD, this]
    rw [e1, clean_out (l.getD _ 0), addU_out, e2, wrap_id (by omega) (by omega)] at hs2
    refine ih ⟨i + 1, by omega⟩ (by show l.length - (i + 1) < l.length - i; omega) ac cZ aZ ?_
    have e3 : (l.length : Int) - 1 - (i : Int) - 1 = (l.length : Int) - 1 - ((i + 1 : Nat) : Int) := by omega
    rw [e3] at hs2
    exact hs2.nx _
  · have e : i = (l.map inF).length := by rw [List.length_map]; omega
    have hh := hornF_eval (l.map inF) (inF x) i (Nat.le_of_eq e)
    rw [hh, e, Nat.sub_self] at hs
    simp only [Nat.zero_add] at hs
    exact run_end2 envV_ok hk hF (atX_end l x _ _) ⟨by simp; omega, trivial⟩ (fun y v hd => hd) hs

/-- What the values are, and the refusal, of whatever is asked. -/
def valE (log : Int) (w : U4) (l : List U4) : Int := if domOk log w then (if l.length ≤ 2 ^ log.toNat then 0 else 3) else 40
def valL (log : Int) (w s : U4) (l : List U4) : List U4 := if domOk log w = true ∧ l.length ≤ 2 ^ log.toNat then (valsF (2 ^ log.toNat) (inF w) (inF s) (l.map inF)).map outF else []

theorem values_fnd (log : Int) (w s : U4) (l : List U4) :
    FnD Try.prog 47 [.v (.a [.int .i64 log, .ob (.fr w)]), .v (.a [.ob (.fr s)]), .v (.c (.sl (.fr l)))] (.t [.c (.slc 0 0 (valL log w s l).length 4), .c (.int .i64 (valE log w l))]) [.sq (.fr (valL log w s l))] := by
  unfold valE valL
  cases hd : domOk log w with
  | false =>
    rw [if_neg (by simp), if_neg (by simp)]
    exact (vals_fnd0 log w s l hd).nil2 rfl
  | true =>
    by_cases hl : l.length ≤ 2 ^ log.toNat
    · rw [if_pos rfl, if_pos hl, if_pos ⟨rfl, hl⟩, List.length_map, valsF_len]
      exact vals_fnd log w s l hd hl
    · rw [if_pos rfl, if_neg hl, if_neg (by simp [hl])]
      exact (vals_fnd1 log w s l hd hl).nil2 rfl

end Go.Proofs.Ytlfllehomhcbfaa

/- Values at a domain's elements: the law, walked. No conditions. -/
namespace Go.Proofs.Ytlfllehomhcbfaa

def valSpec : FnSpec
  | [.v (.a [.int .i64 log, .ob (.fr w)]), .v (.a [.ob (.fr s)]), .v (.c (.sl (.fr l)))] => some ([], .t [.c (.slc 0 0 (valL log w s l).length 4), .c (.int .i64 (valE log w l))], [.sq (.fr (valL log w s l))])
  | _ => none
noncomputable def envV1 : Env := envV.set (addT envV.fn 47 valSpec)
theorem envV1_ok : EnvOk Try.prog envV1 := env_add envV_ok 47 valSpec (enters_of Try.func47 rfl rfl) fun args o r es h _ => by
  unfold valSpec at h
  split at h
  · cases h; exact values_fnd _ _ _ _
  · cases h
def atSpec : FnSpec
  | [.v (.c (.sl (.fr l))), .v (.a [.ob (.fr x)])] => some ([x.val < rN], .v (.a [.ob (.fr (outF (evalF (l.map inF) (inF x))))]), [])
  | _ => none
noncomputable def envV2 : Env := envV1.set (addT envV1.fn 87 atSpec)
theorem envV2_ok : EnvOk Try.prog envV2 := env_add envV1_ok 87 atSpec (enters_of Try.func87 rfl rfl) fun args o r es h ho => by
  unfold atSpec at h
  split at h
  · cases h; exact at_fnd _ _ ho.1
  · cases h
--@env envV2 envV2_ok
noncomputable def rvIn_k : List KI := (run envV2 false 3000 ((fun (log : Int) (w s : U4) (l : List U4) => (⟨[.code (bodyOf Try.f48)], .normal, initSt Try.f48.ntmps [.v (.a [.int .i64 log, .ob (.fr w)]), .v (.a [.ob (.fr s)]), .v (.c (.sl (.fr l)))]⟩ : Cfg)) default default default default) []).cfg.k
theorem rvIn_at (log : Int) (w s : U4) (l : List U4) : runAt envV2 false 3000 ((⟨[.code (bodyOf Try.f48)], .normal, initSt Try.f48.ntmps [.v (.a [.int .i64 log, .ob (.fr w)]), .v (.a [.ob (.fr s)]), .v (.c (.sl (.fr l)))]⟩ : Cfg)) [] [2, 4, 7, 12, 13, 14] [32, 64, 112] [] = some ⟨[((0 : Int) ≤ log), (log ≤ (16 : Int)), ((Fin.val w) < rN)], Exit.normal, [(SV.v (V1.c (It.sl (Sq.fr l)))), (SV.v (V1.c (It.ptr 32 0))), (SV.v (V1.c (It.slc 64 0 0 4))), (SV.v (V1.c (It.slc 112 0 (2 ^ (log).toNat) 4))), (SV.v (V1.c (It.int IntKind.i64 (((2 ^ (log).toNat) : Nat) : Int)))), (SV.v (V1.c (It.int IntKind.i64 (0 : Int))))], [(Option.some (En.fl [(It.ob (Ob.fr s))])), (Option.some (En.sq (Sq.fr ([] : List U4)))), (Option.some (En.sq (Sq.fr (List.map outF (powF (inF w) (2 ^ (log).toNat))))))], 29, 160, []⟩ := by kernel_rfl
theorem rvIn_hk (log : Int) (w s : U4) (l : List U4) : (run envV2 false 3000 ((⟨[.code (bodyOf Try.f48)], .normal, initSt Try.f48.ntmps [.v (.a [.int .i64 log, .ob (.fr w)]), .v (.a [.ob (.fr s)]), .v (.c (.sl (.fr l)))]⟩ : Cfg)) []).cfg.k = rvIn_k := by kernel_rfl
theorem rvIn (log : Int) (w s : U4) (l : List U4) {w0 : World} {F0 : Nat → Prop} {K : Kp} {ac : List Act} {Q : Exit → Act → World → Prop} {cX : Ctx} {aX : Act} (ho : AllP [((0 : Int) ≤ log), (log ≤ (16 : Int)), ((Fin.val w) < rN)]) (hs : Sim w0 F0 K ac (initSt Try.f48.ntmps [.v (.a [.int .i64 log, .ob (.fr w)]), .v (.a [.ob (.fr s)]), .v (.c (.sl (.fr l)))]) cX aX) (hK : ∀ ac cY aY, Sim w0 F0 K ac (mkSt 29 [2, 4, 7, 12, 13, 14] [(SV.v (V1.c (It.sl (Sq.fr l)))), (SV.v (V1.c (It.ptr 32 0))), (SV.v (V1.c (It.slc 64 0 0 4))), (SV.v (V1.c (It.slc 112 0 (2 ^ (log).toNat) 4))), (SV.v (V1.c (It.int IntKind.i64 (((2 ^ (log).toNat) : Nat) : Int)))), (SV.v (V1.c (It.int IntKind.i64 (0 : Int))))] [32, 64, 112] [(Option.some (En.fl [(It.ob (Ob.fr s))])), (Option.some (En.sq (Sq.fr ([] : List U4)))), (Option.some (En.sq (Sq.fr (List.map outF (powF (inF w) (2 ^ (log).toNat))))))] 160 [] []) cY aY → Wq Try.prog Q (rvIn_k) ac Exit.normal aY cY.w) : Wq Try.prog Q ([.code (bodyOf Try.f48)]) ac .normal aX cX.w :=
  run_at2 envV2_ok (rvIn_at log w s l) (rvIn_hk log w s l) ho hs hK
noncomputable def rvS (s : U4) (l : List U4) (N : Nat) (E L : List U4) (i : Nat) : St := mkSt 29 [2, 4, 7, 12, 13, 14] [(SV.v (V1.c (It.sl (Sq.fr l)))), (SV.v (V1.c (It.ptr 32 0))), .v (.c (.slc 64 0 i 4)), .v (.c (.slc 112 0 N 4)), .v (.c (.int .i64 (N : Int))), .v (.c (.int .i64 (i : Int)))] [32, 64, 112] [(Option.some (En.fl [(It.ob (Ob.fr s))])), some (.sq (.fr L)), some (.sq (.fr E))] 160 [] []
theorem rvN_at (s : U4) (l : List U4) (N : Nat) (E L : List U4) (i : Nat) : runAt envV2 false 3000 ((⟨lpIn rvIn_k, .normal, rvS s l N E L i⟩ : Cfg)) [true] [2, 4, 7, 12, 13, 14] [32, 64, 112] [] = some ⟨[((decide (((i : Nat) : Int) < ((N : Nat) : Int))) = true), ((0 : Int) ≤ ((i : Nat) : Int)), (((i : Nat) : Int) < ((N : Nat) : Int)), (0 = 0), ((((i : Nat) : Int)).toNat < (List.length E)), ((Fin.val (List.getD E (((i : Nat) : Int)).toNat (0 : U4))) < rN), ((Fin.val (mulU (cleanU s) (List.getD E (((i : Nat) : Int)).toNat (0 : U4)))) < rN), ((((List.length L) + 1) * 32) ≤ 140737488355328), (((List.length L) + 1) ≤ maxLen), (i = (List.length L)), (1 = 1)], Exit.normal, [(SV.v (V1.c (It.sl (Sq.fr l)))), (SV.v (V1.c (It.ptr 32 0))), (SV.v (V1.c (It.slc 64 0 ((List.length L) + 1) 4))), (SV.v (V1.c (It.slc 112 0 N 4))), (SV.v (V1.c (It.int IntKind.i64 ((N : Nat) : Int)))), (SV.v (V1.c (It.int IntKind.i64 (IntKind.wrap IntKind.i64 (((i : Nat) : Int) + (1 : Int))))))], [(Option.some (En.fl [(It.ob (Ob.fr s))])), (Option.some (En.sq (Sq.fr (L ++ [(outF (evalF (List.map inF l) (inF (mulU (cleanU s) (List.getD E (((i : Nat) : Int)).toNat (0 : U4))))))])))), (Option.some (En.sq (Sq.fr E)))], 29, 432, []⟩ := by kernel_rfl
theorem rvN_hk (s : U4) (l : List U4) (N : Nat) (E L : List U4) (i : Nat) : (run envV2 false 3000 ((⟨lpIn rvIn_k, .normal, rvS s l N E L i⟩ : Cfg)) [true]).cfg.k = lpBk rvIn_k := by kernel_rfl
theorem rvN (s : U4) (l : List U4) (N : Nat) (E L : List U4) (i : Nat) {w0 : World} {F0 : Nat → Prop} {K : Kp} {ac : List Act} {Q : Exit → Act → World → Prop} {cX : Ctx} {aX : Act} (ho : AllP [((decide (((i : Nat) : Int) < ((N : Nat) : Int))) = true), ((0 : Int) ≤ ((i : Nat) : Int)), (((i : Nat) : Int) < ((N : Nat) : Int)), (0 = 0), ((((i : Nat) : Int)).toNat < (List.length E)), ((Fin.val (List.getD E (((i : Nat) : Int)).toNat (0 : U4))) < rN), ((Fin.val (mulU (cleanU s) (List.getD E (((i : Nat) : Int)).toNat (0 : U4)))) < rN), ((((List.length L) + 1) * 32) ≤ 140737488355328), (((List.length L) + 1) ≤ maxLen), (i = (List.length L)), (1 = 1)]) (hs : Sim w0 F0 K ac (rvS s l N E L i) cX aX) (hK : ∀ ac cY aY, Sim w0 F0 K ac (mkSt 29 [2, 4, 7, 12, 13, 14] [(SV.v (V1.c (It.sl (Sq.fr l)))), (SV.v (V1.c (It.ptr 32 0))), (SV.v (V1.c (It.slc 64 0 ((List.length L) + 1) 4))), (SV.v (V1.c (It.slc 112 0 N 4))), (SV.v (V1.c (It.int IntKind.i64 ((N : Nat) : Int)))), (SV.v (V1.c (It.int IntKind.i64 (IntKind.wrap IntKind.i64 (((i : Nat) : Int) + (1 : Int))))))] [32, 64, 112] [(Option.some (En.fl [(It.ob (Ob.fr s))])), (Option.some (En.sq (Sq.fr (L ++ [(outF (evalF (List.map inF l) (inF (mulU (cleanU s) (List.getD E (((i : Nat) : Int)).toNat (0 : U4))))))])))), (Option.some (En.sq (Sq.fr E)))] 432 [] []) cY aY → Wq Try.prog Q (lpBk rvIn_k) ac Exit.normal aY cY.w) : Wq Try.prog Q (lpIn rvIn_k) ac .normal aX cX.w :=
  run_at2 envV2_ok (rvN_at s l N E L i) (rvN_hk s l N E L i) ho hs hK
theorem rvX_end (s : U4) (l : List U4) (N : Nat) (E L : List U4) (i : Nat) : runEnd envV2 Try.f48 false 3000 (⟨lpIn rvIn_k, .normal, rvS s l N E L i⟩) [false] [64] [] = (Option.some ([((decide (((i : Nat) : Int) < ((N : Nat) : Int))) = false)], ((SV.v (V1.c (It.slc 0 0 i 4))), [(En.sq (Sq.fr L))]))) := by kernel_rfl
end Go.Proofs.Ytlfllehomhcbfaa

/- Values at a domain's elements: the reference's contract; the law, walked. No conditions. -/
namespace Go.Proofs.Ytlfllehomhcbfaa

theorem mulU_clean (s : U4) (y : Fr) : mulU (cleanU s) (outF y) = outF (inF s * y) := by
  have := mulU_out (inF s) y
  rw [clean_out]
  exact this

theorem valsF_get (w s : Fr) (L : List Fr) (i : Nat) : (valsF (i + 1) w s L).map outF = (valsF i w s L).map outF ++ [outF (evalF L (s * powN w i))] := by
  simp [valsF, tab, List.range_succ]

theorem rvals_fnd (k : Nat) (w s : U4) (l : List U4) (hk0 : k ≤ 16) (hw : w.val < rN) :
    FnD Try.prog 48 [.v (.a [.int .i64 (k : Int), .ob (.fr w)]), .v (.a [.ob (.fr s)]), .v (.c (.sl (.fr l)))] (.v (.c (.slc 0 0 (2 ^ k) 4))) [.sq (.fr ((valsF (2 ^ k) (inF w) (inF s) (l.map inF)).map outF))] := by
  have hp2 : 2 ^ k ≤ 2 ^ 16 := Nat.pow_le_pow_right (by decide) hk0
  refine fn_start (fn := Try.f48) (c := bodyOf Try.f48) Try.func48 rfl rfl fun x a hk hF hs => ?_
  refine rvIn (k : Int) w s l ⟨by omega, by omega, hw, trivial⟩ hs fun ac cY aY hs1 => ?_
  rw [Int.toNat_natCast] at hs1
  have hE : ((powF (inF w) (2 ^ k)).map outF).length = 2 ^ k := by rw [List.length_map, powF_len]
  have hg : ∀ i, i < 2 ^ k → ((powF (inF w) (2 ^ k)).map outF).getD i 0 = outF (powN (inF w) i) := fun i hi => by
    simp [powF, List.getD, hi]
  generalize 2 ^ k = N at *
  refine loop_rule (ι := { i : Nat // i ≤ N }) (fun i => rvS s l N ((powF (inF w) N).map outF) ((valsF i.1 (inF w) (inF s) (l.map inF)).map outF) i.1) (fun i => N - i.1) (c := lpC rvIn_k) (k := lpR rvIn_k) (by kernel_rfl) (fun i ih ac cY aY hs => ?_) ⟨0, Nat.zero_le _⟩ hs1
  obtain ⟨i, hi⟩ := i
  simp only at ih hs
  have hl : ((valsF i (inF w) (inF s) (l.map inF)).map outF).length = i := by rw [List.length_map, valsF_len]
  by_cases h : i < N
  · have hgi := hg i h
    refine rvN s l N _ _ i ⟨by simp [h], by omega, by omega, rfl, by rw [Int.toNat_natCast, hE]; exact h, ?_, ?_, by rw [hl]; omega, by rw [hl]; unfold maxLen; omega, hl.symm, rfl, trivial⟩ hs fun ac cZ aZ hs2 => ?_
    · rw [Int.toNat_natCast, hgi]; exact outF_lt _
    · rw [Int.toNat_natCast, hgi, mulU_clean]; exact outF_lt _
    · rw [Int.toNat_natCast, hgi, mulU_clean, in_out, hl, wrap_id (by omega) (by omega), ← valsF_get] at hs2
      exact ih ⟨i + 1, by omega⟩ (by show N - (i + 1) < N - i; omega) ac cZ aZ (hs2.nx _)
  · have e : i = N := by omega
    subst e
    exact run_end2 envV2_ok hk hF (rvX_end s l i _ _ i) ⟨by simp, trivial⟩ (fun y v hd => hd) hs

theorem rvals_fnd2 (log : Int) (w s : U4) (l : List U4) (h0 : 0 ≤ log) (h1 : log ≤ 16) (hw : w.val < rN) :
    FnD Try.prog 48 [.v (.a [.int .i64 log, .ob (.fr w)]), .v (.a [.ob (.fr s)]), .v (.c (.sl (.fr l)))] (.v (.c (.slc 0 0 (2 ^ log.toNat) 4))) [.sq (.fr ((valsF (2 ^ log.toNat) (inF w) (inF s) (l.map inF)).map outF))] := by
  obtain ⟨k, rfl⟩ := Int.eq_ofNat_of_zero_le h0
  exact rvals_fnd k w s l (by omega) hw

def rvalSpec : FnSpec
  | [.v (.a [.int .i64 log, .ob (.fr w)]), .v (.a [.ob (.fr s)]), .v (.c (.sl (.fr l)))] => some ([0 ≤ log, log ≤ 16, w.val < rN], .v (.c (.slc 0 0 (2 ^ log.toNat) 4)), [.sq (.fr ((valsF (2 ^ log.toNat) (inF w) (inF s) (l.map inF)).map outF))])
  | _ => none
noncomputable def envV3 : Env := envV2.set (addT envV2.fn 48 rvalSpec)
theorem envV3_ok : EnvOk Try.prog envV3 := env_add envV2_ok 48 rvalSpec (enters_of Try.func48 rfl rfl) fun args o r es h ho => by
  unfold rvalSpec at h
  split at h
  · cases h; exact rvals_fnd2 _ _ _ _ ho.1 ho.2.1 ho.2.2.1
  · cases h
--@env envV3 envV3_ok
theorem lvA (log : Int) (w s : U4) (l : List U4) : fnRes envV3 Try.f7 3000 [.v (.a [.int .i64 log, .ob (.fr w)]), .v (.a [.ob (.fr s)]), .v (.c (.sl (.fr l)))] [true, true] [] [] = (Option.some ([((decide (log > (5 : Int))) = true), ((domOk log w) = true)], ((SV.v (V1.c (It.lit true))), []))) := by kernel_rfl
theorem lvB (log : Int) (w s : U4) (l : List U4) : fnRes envV3 Try.f7 3000 [.v (.a [.int .i64 log, .ob (.fr w)]), .v (.a [.ob (.fr s)]), .v (.c (.sl (.fr l)))] [true, false, true, true, true, true] [] [] = (Option.some ([((decide (log > (5 : Int))) = true), ((domOk log w) = false), ((Bool.not (domOk log w)) = true), (((valE log w l) == (40 : Int)) = true)], ((SV.v (V1.c (It.bool ((((List.length (valL log w s l)) : Nat) : Int) == (0 : Int))))), []))) := by kernel_rfl
theorem lvB2 (log : Int) (w s : U4) (l : List U4) : fnRes envV3 Try.f7 3000 [.v (.a [.int .i64 log, .ob (.fr w)]), .v (.a [.ob (.fr s)]), .v (.c (.sl (.fr l)))] [false, true, true, true] [] [] = (Option.some ([((decide (log > (5 : Int))) = false), ((Bool.not (domOk log w)) = true), (((valE log w l) == (40 : Int)) = true)], ((SV.v (V1.c (It.bool ((((List.length (valL log w s l)) : Nat) : Int) == (0 : Int))))), []))) := by kernel_rfl
theorem lvC (log : Int) (w s : U4) (l : List U4) : fnRes envV3 Try.f7 3000 [.v (.a [.int .i64 log, .ob (.fr w)]), .v (.a [.ob (.fr s)]), .v (.c (.sl (.fr l)))] [false, false, true, true, true] [] [] = (Option.some ([((decide (log > (5 : Int))) = false), ((Bool.not (domOk log w)) = false), ((0 : Int) ≤ log), ((decide ((((List.length l) : Nat) : Int) > (IntKind.wrap IntKind.i64 ((1 : Int) * ((2 : Int) ^ (Min.min (log).toNat 64)))))) = true), (((valE log w l) == (3 : Int)) = true)], ((SV.v (V1.c (It.bool ((((List.length (valL log w s l)) : Nat) : Int) == (0 : Int))))), []))) := by kernel_rfl
theorem lvD (log : Int) (w s : U4) (l : List U4) : fnRes envV3 Try.f7 3000 [.v (.a [.int .i64 log, .ob (.fr w)]), .v (.a [.ob (.fr s)]), .v (.c (.sl (.fr l)))] [false, false, false, true, true] [] [] = (Option.some ([((decide (log > (5 : Int))) = false), ((Bool.not (domOk log w)) = false), ((0 : Int) ≤ log), ((decide ((((List.length l) : Nat) : Int) > (IntKind.wrap IntKind.i64 ((1 : Int) * ((2 : Int) ^ (Min.min (log).toNat 64)))))) = false), (((valE log w l) == (0 : Int)) = true), ((0 : Int) ≤ log), (log ≤ (16 : Int)), ((Fin.val w) < rN), (0 = 0), ((List.length (valL log w s l)) = (List.length (valL log w s l))), (4 = 4), (0 = 0), ((2 ^ (log).toNat) = (List.length (List.map outF (valsF (2 ^ (log).toNat) (inF w) (inF s) (List.map inF l))))), (4 = 4)], ((SV.v (V1.c (It.bool (decide ((valL log w s l) = (List.map outF (valsF (2 ^ (log).toNat) (inF w) (inF s) (List.map inF l)))))))), []))) := by kernel_rfl
end Go.Proofs.Ytlfllehomhcbfaa
