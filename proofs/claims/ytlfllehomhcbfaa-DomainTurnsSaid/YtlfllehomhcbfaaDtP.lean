/- Parts of a proof, one behind the other: WTn, PTn. No conditions. -/
import Derived.Test.YtlfllehomhcbfaaDtO
/- DomainTurns, walked. No conditions. -/
namespace Go.Proofs.Ytlfllehomhcbfaa

--@env dvR dvR_ok
noncomputable def tnA_k : List KI := (run dvR false 17 ((fun (log : Int) => (⟨[.code (bodyOf Try.f9)], .normal, initSt Try.f9.ntmps [.v (.c (.int .i64 log))]⟩ : Cfg)) default) []).cfg.k
theorem tnA_hk (log : Int) : (run dvR false 17 ((⟨[.code (bodyOf Try.f9)], .normal, initSt Try.f9.ntmps [.v (.c (.int .i64 log))]⟩ : Cfg)) []).cfg.k = tnA_k := by kernel_rfl
theorem tnA (log : Int) {w0 : World} {F0 : Nat → Prop} {K : Kp} {ac : List Act} {Q : Exit → Act → World → Prop} {cX : Ctx} {aX : Act} (ho : AllP []) (hs : Sim w0 F0 K ac (initSt Try.f9.ntmps [.v (.c (.int .i64 log))]) cX aX) (hK : ∀ ac cY aY, Sim w0 F0 K ac (mkSt 81 [3, 4] [(.v (.c (.ptr 144 0))), (.v (.c (.int .i64 (ite ((okLog (ite ((7 : Int) < (ite ((0 : Int) > log) (0 : Int) log)) (7 : Int) (ite ((0 : Int) > log) (0 : Int) log))) = true) (0 : Int) (40 : Int)))))] [144] [(some (.fl [(.int .i64 (ite ((okLog (ite ((7 : Int) < (ite ((0 : Int) > log) (0 : Int) log)) (7 : Int) (ite ((0 : Int) > log) (0 : Int) log))) = true) (ite ((7 : Int) < (ite ((0 : Int) > log) (0 : Int) log)) (7 : Int) (ite ((0 : Int) > log) (0 : Int) log)) (0 : Int))), (.ob (.fr (newRoot (ite ((7 : Int) < (ite ((0 : Int) > log) (0 : Int) log)) (7 : Int) (ite ((0 : Int) > log) (0 : Int) log)))))]))] 192 [] []) cY aY → Wq Try.prog Q (tnA_k) ac Exit.normal aY cY.w) : Wq Try.prog Q ([.code (bodyOf Try.f9)]) ac .normal aX cX.w :=
  run_at2 (o := ⟨_, _, _, _, _, _, _⟩) dvR_ok (by kernel_rfl) (tnA_hk log) ho hs hK
noncomputable def tnAS (m : Int) (w : U4) : St := mkSt 81 [3, 4] [(SV.v (V1.c (It.ptr 144 0))), .v (.c (.int .i64 0))] [144] [some (.fl [.int .i64 m, .ob (.fr w)])] 192 [] []
noncomputable def tnB_k : List KI := (run dvR false 17 ((fun (m : Int) (w : U4) => (⟨tnA_k, .normal, tnAS m w⟩ : Cfg)) default default) []).cfg.k
theorem tnB_hk (m : Int) (w : U4) : (run dvR false 17 ((⟨tnA_k, .normal, tnAS m w⟩ : Cfg)) []).cfg.k = tnB_k := by kernel_rfl
theorem tnB (m : Int) (w : U4) {w0 : World} {F0 : Nat → Prop} {K : Kp} {ac : List Act} {Q : Exit → Act → World → Prop} {cX : Ctx} {aX : Act} (ho : AllP [((0 : Int) ≤ m)]) (hs : Sim w0 F0 K ac (tnAS m w) cX aX) (hK : ∀ ac cY aY, Sim w0 F0 K ac (mkSt 81 [4, 5, 6, 7] [(.v (.c (.int .i64 (0 : Int)))), (.v (.c (.slc 208 0 (List.length (elemF m w)) 4))), (.v (.c (.int .i64 (ite ((domOk m w) = true) (0 : Int) (40 : Int))))), (.v (.c (.int .i64 (IntKind.wrap .i64 ((1 : Int) * ((2 : Int) ^ (Min.min (m).toNat 64)))))))] [208] [(some (.sq (.fr (elemF m w))))] 368 [] []) cY aY → Wq Try.prog Q (tnB_k) ac Exit.normal aY cY.w) : Wq Try.prog Q (tnA_k) ac .normal aX cX.w :=
  run_at2 (o := ⟨_, _, _, _, _, _, _⟩) dvR_ok (by kernel_rfl) (tnB_hk m w) ho hs hK
noncomputable def tnBS (n : Nat) (E : List U4) : St := mkSt 81 [4, 5, 6, 7] [.v (.c (.int .i64 0)), .v (.c (.slc 208 0 n 4)), .v (.c (.int .i64 0)), .v (.c (.int .i64 (n : Int)))] [208] [some (.sq (.fr E))] 368 [] []
noncomputable def tnC_k : List KI := (run dvR false 3000 ((fun (n : Nat) (E : List U4) => (⟨tnB_k, .normal, tnBS n E⟩ : Cfg)) default default) [false, false, false]).cfg.k
theorem tnC_hk (n : Nat) (E : List U4) : (run dvR false 3000 ((⟨tnB_k, .normal, tnBS n E⟩ : Cfg)) [false, false, false]).cfg.k = tnC_k := by kernel_rfl
theorem tnC (n : Nat) (E : List U4) {w0 : World} {F0 : Nat → Prop} {K : Kp} {ac : List Act} {Q : Exit → Act → World → Prop} {cX : Ctx} {aX : Act} (ho : AllP [(((0 : Int) != (0 : Int)) = false), (((0 : Int) != (0 : Int)) = false), ((((n : Nat) : Int) != ((n : Nat) : Int)) = false)]) (hs : Sim w0 F0 K ac (tnBS n E) cX aX) (hK : ∀ ac cY aY, Sim w0 F0 K ac (mkSt 81 [5, 7] [(.v (.c (.slc 208 0 n 4))), (.v (.c (.int .i64 ((n : Nat) : Int))))] [208] [(some (.sq (.fr E)))] 624 [] []) cY aY → Wq Try.prog Q (tnC_k) ac Exit.normal aY cY.w) : Wq Try.prog Q (tnB_k) ac .normal aX cX.w :=
  run_at2 (o := ⟨_, _, _, _, _, _, _⟩) dvR_ok (by kernel_rfl) (tnC_hk n E) ho hs hK
noncomputable def tnCS (n : Nat) (E : List U4) : St := mkSt 81 [5, 7] [(SV.v (V1.c (It.slc 208 0 n 4))), .v (.c (.int .i64 (n : Int)))] [208] [(Option.some (En.sq (Sq.fr E)))] 624 [] []
noncomputable def tnD_k : List KI := (run dvR false 3000 ((fun (b n : Nat) (E : List U4) => (⟨opsNext tnC_k, .normal, { tnCS n E with t := setT (tnCS n E).t 42 (.v (.c (.val (.map (some b))))) }⟩ : Cfg)) default default default) []).cfg.k
theorem tnD_hk (b n : Nat) (E : List U4) : (run dvR false 3000 ((⟨opsNext tnC_k, .normal, { tnCS n E with t := setT (tnCS n E).t 42 (.v (.c (.val (.map (some b))))) }⟩ : Cfg)) []).cfg.k = tnD_k := by kernel_rfl
theorem tnD (b n : Nat) (E : List U4) {w0 : World} {F0 : Nat → Prop} {K : Kp} {ac : List Act} {Q : Exit → Act → World → Prop} {cX : Ctx} {aX : Act} (ho : AllP []) (hs : Sim w0 F0 K ac ({ tnCS n E with t := setT (tnCS n E).t 42 (.v (.c (.val (.map (some b))))) }) cX aX) (hK : ∀ ac cY aY, Sim w0 F0 K ac (mkSt 81 [5, 7, 8, 43, 44, 45] [(.v (.c (.slc 208 0 n 4))), (.v (.c (.int .i64 ((n : Nat) : Int)))), (.v (.c (.val (Value.map (some b))))), (.v (.c (.slc 208 0 n 4))), (.v (.c (.int .i64 ((n : Nat) : Int)))), (.v (.c (.int .i64 (0 : Int))))] [208] [(some (.sq (.fr E)))] 688 [] []) cY aY → Wq Try.prog Q (tnD_k) ac Exit.normal aY cY.w) : Wq Try.prog Q (opsNext tnC_k) ac .normal aX cX.w :=
  run_at2 (o := ⟨_, _, _, _, _, _, _⟩) dvR_ok (by kernel_rfl) (tnD_hk b n E) ho hs hK
noncomputable def tnS (b n : Nat) (E : List U4) (i : Nat) : St := mkSt 81 [5, 7, 8, 43, 44, 45] [(SV.v (V1.c (It.slc 208 0 n 4))), (SV.v (V1.c (It.int IntKind.i64 ((n : Nat) : Int)))), (SV.v (V1.c (It.val (Value.map (Option.some b))))), (SV.v (V1.c (It.slc 208 0 n 4))), (SV.v (V1.c (It.int IntKind.i64 ((n : Nat) : Int)))), .v (.c (.int .i64 (i : Int)))] [208] [(Option.some (En.sq (Sq.fr E)))] 688 [] []
noncomputable def tnE_k : List KI := (run dvR false 3000 ((fun (b n : Nat) (E : List U4) (i : Nat) => (⟨lpIn tnD_k, .normal, tnS b n E i⟩ : Cfg)) default default default default) [true]).cfg.k
theorem tnE_hk (b n : Nat) (E : List U4) (i : Nat) : (run dvR false 3000 ((⟨lpIn tnD_k, .normal, tnS b n E i⟩ : Cfg)) [true]).cfg.k = tnE_k := by kernel_rfl
theorem tnE (b n : Nat) (E : List U4) (i : Nat) {w0 : World} {F0 : Nat → Prop} {K : Kp} {ac : List Act} {Q : Exit → Act → World → Prop} {cX : Ctx} {aX : Act} (ho : AllP [((decide (((i : Nat) : Int) < ((n : Nat) : Int))) = true), ((0 : Int) ≤ ((i : Nat) : Int)), (((i : Nat) : Int) < ((n : Nat) : Int)), (0 = 0), ((((i : Nat) : Int)).toNat < (List.length E))]) (hs : Sim w0 F0 K ac (tnS b n E i) cX aX) (hK : ∀ ac cY aY, Sim w0 F0 K ac (mkSt 81 [5, 7, 8, 9, 10, 43, 44, 45, 50, 51] [(.v (.c (.slc 208 0 n 4))), (.v (.c (.int .i64 ((n : Nat) : Int)))), (.v (.c (.val (Value.map (some b))))), (.v (.c (.int .i64 ((i : Nat) : Int)))), (.v (.c (.ptr 752 0))), (.v (.c (.slc 208 0 n 4))), (.v (.c (.int .i64 ((n : Nat) : Int)))), (.v (.c (.int .i64 ((i : Nat) : Int)))), (.v (.c (.val (Value.map (some b))))), (.v (.a [(.ob (.fr (List.getD E (((i : Nat) : Int)).toNat (0 : U4))))]))] [208, 752] [(some (.sq (.fr E))), (some (.fl [(.ob (.fr (List.getD E (((i : Nat) : Int)).toNat (0 : U4))))]))] 832 [] []) cY aY → Wq Try.prog Q (tnE_k) ac Exit.normal aY cY.w) : Wq Try.prog Q (lpIn tnD_k) ac .normal aX cX.w :=
  run_at2 (o := ⟨_, _, _, _, _, _, _⟩) dvR_ok (by kernel_rfl) (tnE_hk b n E i) ho hs hK
noncomputable def tnG_k : List KI := (run dvR false 3000 ((fun (b n : Nat) (E : List U4) (i : Nat) => (⟨lpIn tnD_k, .normal, tnS b n E i⟩ : Cfg)) default default default default) [false]).cfg.k
theorem tnG_hk (b n : Nat) (E : List U4) (i : Nat) : (run dvR false 3000 ((⟨lpIn tnD_k, .normal, tnS b n E i⟩ : Cfg)) [false]).cfg.k = tnG_k := by kernel_rfl
theorem tnG (b n : Nat) (E : List U4) (i : Nat) {w0 : World} {F0 : Nat → Prop} {K : Kp} {ac : List Act} {Q : Exit → Act → World → Prop} {cX : Ctx} {aX : Act} (ho : AllP [((decide (((i : Nat) : Int) < ((n : Nat) : Int))) = false)]) (hs : Sim w0 F0 K ac (tnS b n E i) cX aX) (hK : ∀ ac cY aY, Sim w0 F0 K ac (mkSt 81 [7, 77] [(.v (.c (.int .i64 ((n : Nat) : Int)))), (.v (.c (.val (Value.map (some b)))))] [] [] 720 [] []) cY aY → Wq Try.prog Q (tnG_k) ac Exit.normal aY cY.w) : Wq Try.prog Q (lpIn tnD_k) ac .normal aX cX.w :=
  run_at2 (o := ⟨_, _, _, _, _, _, _⟩) dvR_ok (by kernel_rfl) (tnG_hk b n E i) ho hs hK
noncomputable def tnES (b n : Nat) (E : List U4) (i : Nat) : St := mkSt 81 [5, 7, 8, 9, 10, 43, 44, 45, 50, 51] [.v (.c (.slc 208 0 n 4)), (SV.v (V1.c (It.int IntKind.i64 ((n : Nat) : Int)))), (SV.v (V1.c (It.val (Value.map (Option.some b))))), (SV.v (V1.c (It.int IntKind.i64 ((i : Nat) : Int)))), (SV.v (V1.c (It.ptr 752 0))), (SV.v (V1.c (It.slc 208 0 n 4))), (SV.v (V1.c (It.int IntKind.i64 ((n : Nat) : Int)))), (SV.v (V1.c (It.int IntKind.i64 ((i : Nat) : Int)))), (SV.v (V1.c (It.val (Value.map (Option.some b))))), (SV.v (V1.a [(It.ob (Ob.fr (List.getD E (((i : Nat) : Int)).toNat (0 : U4))))]))] [208, 752] [(Option.some (En.sq (Sq.fr E))), (Option.some (En.fl [(It.ob (Ob.fr (List.getD E (((i : Nat) : Int)).toNat (0 : U4))))]))] 832 [] []
theorem tnF_hk (b n : Nat) (E : List U4) (i : Nat) : (run dvR false 3000 ((⟨opsNext tnE_k, .normal, tnES b n E i⟩ : Cfg)) [false, false]).cfg.k = lpBk tnD_k := by kernel_rfl
theorem tnF (b n : Nat) (E : List U4) (i : Nat) {w0 : World} {F0 : Nat → Prop} {K : Kp} {ac : List Act} {Q : Exit → Act → World → Prop} {cX : Ctx} {aX : Act} (ho : AllP [((0 : Int) ≤ (IntKind.wrap .u64 ((n : Nat) : Int))), ((IntKind.wrap .u64 ((n : Nat) : Int)) < (18446744073709551616 : Int)), ((0 : Int) ≤ (0 : Int)), ((0 : Int) < (18446744073709551616 : Int)), ((0 : Int) ≤ (0 : Int)), ((0 : Int) < (18446744073709551616 : Int)), ((0 : Int) ≤ (0 : Int)), ((0 : Int) < (18446744073709551616 : Int)), ((0 : Int) ≤ (1 : Int)), ((1 : Int) < (18446744073709551616 : Int)), ((0 : Int) ≤ (0 : Int)), ((0 : Int) < (18446744073709551616 : Int)), ((0 : Int) ≤ (0 : Int)), ((0 : Int) < (18446744073709551616 : Int)), ((0 : Int) ≤ (0 : Int)), ((0 : Int) < (18446744073709551616 : Int)), ((ite (false = true) (decide ((outF (powN (inF (List.getD E (((i : Nat) : Int)).toNat (0 : U4))) (Fin.val (Fin.ofNat B4 (((IntKind.wrap .u64 ((n : Nat) : Int))).toNat + 0))))) = (Fin.ofNat B4 1))) (Bool.not (decide ((outF (powN (inF (List.getD E (((i : Nat) : Int)).toNat (0 : U4))) (Fin.val (Fin.ofNat B4 (((IntKind.wrap .u64 ((n : Nat) : Int))).toNat + 0))))) = (Fin.ofNat B4 1))))) = false), ((0 : Int) ≤ (IntKind.wrap .i64 ((IntKind.wrap .i64 (((n : Nat) : Int) - (1 : Int))) - ((i : Nat) : Int)))), ((IntKind.wrap .i64 ((IntKind.wrap .i64 (((n : Nat) : Int) - (1 : Int))) - ((i : Nat) : Int))) < ((n : Nat) : Int)), (0 = 0), (((IntKind.wrap .i64 ((IntKind.wrap .i64 (((n : Nat) : Int) - (1 : Int))) - ((i : Nat) : Int)))).toNat < (List.length E)), ((0 : Int) ≤ (IntKind.wrap .i64 (((n : Nat) : Int) - (1 : Int)))), ((IntKind.wrap .i64 (((n : Nat) : Int) - (1 : Int))) < ((n : Nat) : Int)), (0 = 0), (((IntKind.wrap .i64 (((n : Nat) : Int) - (1 : Int)))).toNat < (List.length E)), ((ite (false = true) (decide ((outF ((inF (List.getD E (((i : Nat) : Int)).toNat (0 : U4))) * (inF (List.getD E ((IntKind.wrap .i64 ((IntKind.wrap .i64 (((n : Nat) : Int) - (1 : Int))) - ((i : Nat) : Int)))).toNat (0 : U4))))) = (List.getD E ((IntKind.wrap .i64 (((n : Nat) : Int) - (1 : Int)))).toNat (0 : U4)))) (Bool.not (decide ((outF ((inF (List.getD E (((i : Nat) : Int)).toNat (0 : U4))) * (inF (List.getD E ((IntKind.wrap .i64 ((IntKind.wrap .i64 (((n : Nat) : Int) - (1 : Int))) - ((i : Nat) : Int)))).toNat (0 : U4))))) = (List.getD E ((IntKind.wrap .i64 (((n : Nat) : Int) - (1 : Int)))).toNat (0 : U4)))))) = false)]) (hs : Sim w0 F0 K ac (tnES b n E i) cX aX) (hK : ∀ ac cY aY, Sim w0 F0 K ac (mkSt 81 [5, 7, 8, 43, 44, 45] [(.v (.c (.slc 208 0 n 4))), (.v (.c (.int .i64 ((n : Nat) : Int)))), (.v (.c (.val (Value.map (some b))))), (.v (.c (.slc 208 0 n 4))), (.v (.c (.int .i64 ((n : Nat) : Int)))), (.v (.c (.int .i64 (IntKind.wrap .i64 (((i : Nat) : Int) + (1 : Int))))))] [208] [(some (.sq (.fr E)))] 1248 [] []) cY aY → Wq Try.prog Q (lpBk tnD_k) ac Exit.normal aY cY.w) : Wq Try.prog Q (opsNext tnE_k) ac .normal aX cX.w :=
  run_at2 (o := ⟨_, _, _, _, _, _, _⟩) dvR_ok (by kernel_rfl) (tnF_hk b n E i) ho hs hK
noncomputable def tnGS (b n : Nat) : St := mkSt 81 [7, 77] [.v (.c (.int .i64 (n : Int))), (SV.v (V1.c (It.val (Value.map (Option.some b)))))] [] [] 720 [] []
theorem tnX_end (b n : Nat) : runEnd dvR Try.f9 false 3000 (⟨opsNext tnG_k, .normal, { tnGS b n with t := setT (tnGS b n).t 78 (.v (.c (.int .i64 (n : Int)))) }⟩) [] [] [] = (Option.some ([], ((SV.v (V1.c (It.bool (((n : Nat) : Int) == ((n : Nat) : Int))))), []))) := by kernel_rfl
end Go.Proofs.Ytlfllehomhcbfaa

/- DomainTurns answers true for every logarithm. No conditions. -/
namespace Go.Proofs.Ytlfllehomhcbfaa

section
variable {r : Nat} [NeZero r]
theorem tn_cancel {P P' D : Fin r} (h : P * P' = 1) (e : P = P * D) : D = 1 := by grind
theorem tn_step (x : Fin r) {i n : Nat} (hn : pw x n = 1) : pw (pw x i) n = 1 := by
  rw [← pw_mul_g, Nat.mul_comm, pw_mul_g, hn, pw_one_g]
end

theorem Mt.nx {w0 : World} {F0 : Nat → Prop} {K : Kp} {ac : List Act} {a : Act} {b : Nat} {es : Array MapEntry} {c : Nat} {σ : St} {y : Ctx} (h : Mt w0 F0 K ac a b es c σ y) (n : Nat) : Mt w0 F0 K ac a b es c { σ with nx := n } y := ⟨h.sim.nx n, h.obj, h.nf⟩

theorem tn_unlike {log : Int} {w : U4} (h : domOk log w = true) {i j : Nat} (hij : i < j) (hj : j < 2 ^ log.toNat) : powN (inF w) i ≠ powN (inF w) j := fun e => by
  rw [← pw_powN, ← pw_powN, show j = i + (j - i) from by omega, pw_add_g] at e
  exact dom_two h (d := j - i) (by omega) (by omega) (tn_cancel (pw_both (invF_mul (dom_ne h)) i) e)

theorem dec_eq_f {p : Prop} [Decidable p] (h : p) : (if (false = true) then decide p else !(decide p)) = false := by rw [if_neg (by decide), decide_eq_true h]; rfl

theorem tn_mk (n : Nat) (E : List U4) : otop tnC_k (tnCS n E).t = some (some 42, .makeMap 64 none, 64) := by kernel_rfl
theorem tn_up (b n : Nat) (E : List U4) (i : Nat) : otop tnE_k (tnES b n E i).t = some (none, .mapUpdate 64 (.tmp 50) (.tmp 51) (.const (.bool true)), 0) := by kernel_rfl
theorem tn_len (b n : Nat) : otop tnG_k (tnGS b n).t = some (some 78, .call ⟨.builtin .len, #[.tmp 77], #[64]⟩, 3) := by kernel_rfl
theorem tn_key (x : U4) (w : World) : (Instr.checkKey false 10000 32 (frKey x)).run Try.prog w = .ok () w := by kernel_rfl

theorem tn_len_run (ty : TypeId) {b : Nat} {es : Array MapEntry} {c : Nat} {w : World} (hb : w.heap[b]? = some (.map es c)) : (Builtin.len_ #[64] ty #[.map (some b)]).run Try.prog w = .ok (.int .i64 es.size) w := by
  simp [Builtin.len_, run_underlying Try.underlying64, get_map hb, goInt]

theorem turns_fnd (log : Int) : FnD Try.prog 9 [.v (.c (.int .i64 log))] (.v (.c (.bool true))) [] := by
  obtain ⟨m, hm, e⟩ := clamp 7 log
  have e : (if (7 : Int) < (if (0 : Int) > log then (0 : Int) else log) then (7 : Int) else (if (0 : Int) > log then (0 : Int) else log)) = (m : Int) := e
  have hok := okLog_nat (m := m) (by omega)
  have hd := dom_self hok
  refine fn_start (fn := Try.f9) (c := bodyOf Try.f9) Try.func9 rfl rfl fun cc act hk hF hs => ?_
  refine tnA log trivial hs fun ac cY aY hs1 => ?_
  rw [e, hok, if_pos rfl, if_pos rfl] at hs1
  generalize hw : newRoot (m : Int) = w at *
  have hsh := shl3 (log := (m : Int)) (by omega) (by omega)
  have hp2 : 2 ^ m ≤ 2 ^ 7 := Nat.pow_le_pow_right (by decide) hm
  have hp0 : 0 < 2 ^ m := Nat.two_pow_pos m
  have hmt : (m : Int).toNat = m := Int.toNat_natCast m
  refine tnB (m : Int) w ⟨Int.natCast_nonneg _, trivial⟩ hs1 fun ac cY aY hs2 => ?_
  have hE : elemF (m : Int) w = (powF (inF w) (2 ^ (m : Int).toNat)).map outF := by unfold elemF; rw [hd, if_pos rfl]
  have hl : (elemF (m : Int) w).length = 2 ^ (m : Int).toNat := by rw [hE, List.length_map, powF_len]
  have hg : ∀ i, i < 2 ^ (m : Int).toNat → (elemF (m : Int) w).getD i 0 = outF (powN (inF w) i) := fun i hi => by
    rw [hE, map_out_getD]
    refine congrArg outF ?_
    rw [hmt] at hi ⊢
    simp [powF, List.getD, hi]
  have hpw : ∀ i, powN (powN (inF w) i) (2 ^ (m : Int).toNat) = 1 := fun i => by
    rw [← pw_powN, ← pw_powN]
    exact tn_step _ (dom_wn hd)
  have hml : ∀ i, i < 2 ^ (m : Int).toNat → powN (inF w) i * powN (inF w) (2 ^ (m : Int).toNat - 1 - i) = powN (inF w) (2 ^ (m : Int).toNat - 1) := fun i hi => by
    rw [← pw_powN, ← pw_powN, ← pw_powN, ← pw_add_g, show i + (2 ^ (m : Int).toNat - 1 - i) = 2 ^ (m : Int).toNat - 1 from by omega]
  have hun : ∀ i j, i < j → j < 2 ^ (m : Int).toNat → powN (inF w) i ≠ powN (inF w) j := fun i j hij hj => tn_unlike hd hij hj
  rw [hsh, hd, if_pos rfl, hl] at hs2
  have hn0 : 0 < 2 ^ (m : Int).toNat := by rw [hmt]; exact hp0
  have hn7 : 2 ^ (m : Int).toNat ≤ 128 := by rw [hmt]; omega
  clear hE
  generalize elemF (m : Int) w = E at *
  generalize 2 ^ (m : Int).toNat = n at *
  generalize inF w = x at *
  refine tnC n E ⟨rfl, rfl, by simp, trivial⟩ hs2 fun ac cY aY hs3 => ?_
  have hs3 : Sim cc.w cc.F kAll ac (tnCS n E) cY aY := hs3
  refine op_at (tn_mk n E) hs3.t (by intro c h; cases h) (w' := cY.w.alloc (.map #[] 0)) (v := .map (some cY.w.heap.size)) (fun o h1 h2 => .inl (by unfold execOp; rw [h1]; rfl)) ?_
  have hM := Mt.made hs3 (d := 42) (show 42 < 81 by decide)
  have hb0 : cc.w.heap.size ≤ cY.w.heap.size := hs3.base.size
  generalize cY.w.heap.size = b at *
  refine tnD b n E trivial hM.sim.own fun ac cZ aZ hs4 => ?_
  have hM2 := hM.step hs4
  let I : { i : Nat // i ≤ n } → List Act → Act → World → Prop := fun i ac a w => ∃ y es c, w = y.w ∧ es.size = i.1 ∧ (∀ e ∈ es.toList, ∃ j, j < i.1 ∧ e.key = frKey (E.getD j 0)) ∧ Mt cc.w cc.F kAll ac a b es c (tnS b n E i.1) y
  refine loop_inv I (fun i => n - i.1) (c := lpC tnD_k) (k := lpR tnD_k) (by kernel_rfl) (fun i ih ac a w hI => ?_) ⟨0, Nat.zero_le _⟩ ⟨cZ, #[], 0, rfl, rfl, by simp, hM2.nx _⟩
  obtain ⟨i, hi⟩ := i
  obtain ⟨y, es, c, rfl, hsz, hkeys, hM⟩ := hI
  simp only at ih hsz hkeys hM
  by_cases h : i < n
  · refine tnE b n E i ⟨decide_eq_true (by omega), by omega, by omega, rfl, by rw [Int.toNat_natCast, hl]; exact h, trivial⟩ hM.sim.own fun ac cV aV hs5 => ?_
    have hM5 : Mt cc.w cc.F kAll ac aV b es c (tnES b n E i) cV := hM.step hs5
    have h50 := hM5.sim.t 50
    have h51 := hM5.sim.t 51
    refine op_at (tn_up b n E i) hM5.sim.t (by intro c h; cases h) (w' := cV.w.putObj b (.map (es.push { key := frKey (E.getD i 0), val := .bool true, born := c }) (c + 1))) (v := undef) (fun o h1 h2 => .inr ⟨?_, rfl⟩) ?_
    · obtain ⟨-, d, h50⟩ := h50
      obtain ⟨cs, h51, hcs⟩ := h51
      have h50 : aV.eval (.tmp 50) = .map (some b) := by cases d <;> exact List.singleton_inj.1 h50.1
      have h51 : aV.eval (.tmp 51) = frKey (E.getD i 0) := by
        obtain ⟨c1, c2, rfl, ⟨d2, hc1⟩, hc2⟩ := hcs
        have hc1 : c1 = (Ob.fr (E.getD i 0)).cells := by cases d2 <;> exact hc1
        have hc2 : c2 = [] := hc2
        rw [hc1, hc2, List.append_nil] at h51
        exact h51
      have hup := map_update (mt := 64) (tyGet_ok tyRows tyOk 32 _ rfl) rfl rfl rfl Try.underlying64 tn_key hM5.obj (E.getD i 0) (.bool true) (fun e he => by
        obtain ⟨j, hj, hk2⟩ := hkeys e he
        refine ⟨_, hk2, fun hx => hun j i hj h ?_⟩
        rw [hg j (by omega), hg i h] at hx
        have := congrArg inF hx
        rwa [in_out, in_out] at this)
      unfold execOp
      rw [h1]
      show (do Instr.mapUpdate 64 (aV.eval (.tmp 50)) (aV.eval (.tmp 51)) (aV.eval (.const (.bool true))); pure Next.skip : Sem Next).run Try.prog cV.w = _
      rw [h50, h51, Sem.run_bind]
      refine (congrArg (fun z => Result.andThen z _) hup).trans ?_
      rfl
    have hM6 := hM5.put hb0 (es.push { key := frKey (E.getD i 0), val := .bool true, born := c }) (c + 1)
    refine tnF b n E i ?_ hM6.sim.own fun ac cZ aZ hs7 => ?_
    · have hv : (Fin.ofNat B4 n).val = n := Nat.mod_eq_of_lt (Nat.lt_of_lt_of_le (show n < 65536 by omega) (by decide))
      have hz : ((1 : Int).toNat + 0) = 1 := rfl
      have w0 : IntKind.wrap IntKind.u64 (n : Int) = (n : Int) := wrap_u (by omega) (by omega)
      have w1 : IntKind.wrap IntKind.i64 ((n : Int) - 1) = ((n - 1 : Nat) : Int) := by rw [wrap_id (by omega) (by omega)]; omega
      have w2 : IntKind.wrap IntKind.i64 (((n - 1 : Nat) : Int) - (i : Int)) = ((n - 1 - i : Nat) : Int) := by rw [wrap_id (by omega) (by omega)]; omega
      rw [w0, w1, w2, Int.toNat_natCast, Int.toNat_natCast, Int.toNat_natCast, Int.toNat_natCast, Nat.add_zero, hv, hg i h, hg _ (show n - 1 - i < n by omega), hg _ (show n - 1 < n by omega), in_out, in_out, hpw i, hml i h, hl]
      and_intros <;> first | with_reducible rfl | exact True.intro | exact dec_eq_f out_one1 | with_reducible exact dec_eq_f rfl | omega
    refine ih ⟨i + 1, by omega⟩ (by show n - (i + 1) < n - i; omega) ac aZ cZ.w ⟨cZ, es.push { key := frKey (E.getD i 0), val := .bool true, born := c }, c + 1, rfl, ?_, ?_, ?_⟩
    · rw [Array.size_push, hsz]
    · intro e he
      rw [Array.toList_push, List.mem_append, List.mem_singleton] at he
      rcases he with he | rfl
      · obtain ⟨j, hj, hj2⟩ := hkeys e he
        exact ⟨j, Nat.lt_succ_of_lt hj, hj2⟩
      · exact ⟨i, Nat.lt_succ_self i, rfl⟩
    · rw [wrap_id (by omega) (by omega)] at hs7
      exact (hM6.step hs7).nx _
  · have ei : i = n := by omega
    subst ei
    refine tnG b i E i ⟨decide_eq_false (by omega), trivial⟩ hM.sim.own fun ac cV aV hs5 => ?_
    have hM5 : Mt cc.w cc.F kAll ac aV b es c (tnGS b i) cV := hM.step hs5
    have h77 := hM5.sim.t 77
    refine op_at (tn_len b i) hM5.sim.t (by intro c h; cases h) (w' := cV.w) (v := .int .i64 (i : Int)) (fun o h1 h2 => .inl ?_) ?_
    · obtain ⟨-, d, h77⟩ := h77
      have h77 : aV.eval (.tmp 77) = .map (some b) := by cases d <;> exact List.singleton_inj.1 h77.1
      have hlen := tn_len_run o.type hM5.obj
      rw [hsz] at hlen
      exact builtin_run h1 rfl (args := [.map (some b)]) (congrArg (fun z => [z]) h77) rfl (run_v hlen)
    have r := tnX_end b i
    rw [show ((i : Int) == (i : Int)) = true from beq_self_eq_true _] at r
    exact run_end2 dvR_ok hk hF r trivial (fun y v hd => hd) (hM5.sim.put_slot (d := 78) (show 78 < 81 by decide) ⟨rfl, 0, rfl⟩)

end Go.Proofs.Ytlfllehomhcbfaa
