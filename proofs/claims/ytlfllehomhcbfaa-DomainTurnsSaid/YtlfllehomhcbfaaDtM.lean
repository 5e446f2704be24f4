/- Parts of a proof, one behind the other: Mp. No conditions. -/
import Derived.MapKept
import Derived.WideLaws
import Derived.Carry
import Derived.Test.YtlfllehomhcbfaaDtL
/- A map with numbers as keys: entries laid one by one, by hand, between two walks. No conditions. -/
namespace Go.Proofs.Ytlfllehomhcbfaa

section
variable {P : Program}

/-- One operation whose run is known. -/
theorem op_known {Q : Exit → Act → World → Prop} {aq : List Act} {a : Act} {ops : Array Oper} {i : Nat} {dec : List (Nat × Bool)} {k : List KI} {o : Oper} {w w' : World} {v : Value} (hk : hasFr k = false) (hi : ops[i]? = some o) (hw : Region.wanted o (yielded ops a.tmps) = true)
    (hnd : ∀ c, o.op ≠ .defer c) (hrun : (execOp a.eval o).run P w = .ok (.value v) w' ∨ ((execOp a.eval o).run P w = .ok .skip w' ∧ v = undef)) (hK : Wq P Q (.ops ops (i + 1) dec :: k) aq .normal (a.put o.dst v) w') : Wq P Q (.ops ops i dec :: k) aq .normal a w := by
  refine ⟨?_⟩
  have hro : rndOf none k = none := by unfold rndOf; rw [hk]; rfl
  show wpOpsIn (fenceR (rndOf none k)) 0 P ops (wpK P Q none k aq) (List.range' i (ops.size - i)) a w
  have hlt : i < ops.size := (Array.getElem?_eq_some_iff.1 hi).1
  rw [show ops.size - i = (ops.size - (i + 1)) + 1 from by omega, List.range'_succ, wpOpsIn_cons]
  unfold wpOpIn
  simp only [hi, hw, if_true]
  rw [hro]
  refine ⟨fun g _ => trivial, ?_⟩
  rw [Oper.semAt_eq _ _ _ hnd]
  have h2 : wpOpsIn (fenceR (rndOf none k)) 0 P ops (wpK P Q none k aq) (List.range' (i + 1) (ops.size - (i + 1))) (a.put o.dst v) w' := hK.wp
  rw [hro] at h2
  rcases hrun with hrun | ⟨hrun, rfl⟩
  · rw [hrun]; exact h2
  · rw [hrun]; exact h2

def frKey (x : U4) : Value := .agg (Ob.fr x).cells.toArray

theorem fr_equal {t : Nat} {i : TyI} (ht : TyOk P t i) (hs : i.eqk = [true, true, true, true]) (hag : i.agg = true) (x y : U4) (w : World) : (Op.equal t (frKey x) (frKey y)).run P w = .ok (decide (x = y)) w := by
  obtain ⟨inf, d, hi, hd, hsz, hb, ha, hc1, hz, hfl, har, hsl, hkd, heq, hes, hfd⟩ := ht.parts
  obtain ⟨hsh, _⟩ := heq (by rw [hs]; simp)
  obtain ⟨hEq, _⟩ := shOf_ok (P := P) 9992 8 t i.eqk hsh
  have hfit : Fit i.eqk (Ob.fr x).cells (Ob.fr y).cells := by
    rw [hs]
    exact fit_ints (limb x.val) (limb y.val) .u64 (List.range 4)
  obtain ⟨d', hd', b, hb', hbi⟩ := hEq w _ _ hfit
  rw [hd] at hd'; cases hd'
  rw [ha, hag] at hb'
  obtain ⟨_, hr⟩ := ob_eqb (a := .fr x) (b := .fr y) (r := decide (x = y)) rfl
  have e : b = decide (x = y) := by rw [Bool.eq_iff_iff, hbi, hr]
  rw [← e]
  exact hb'

theorem find_asking {t : Nat} {i : TyI} (ht : TyOk P t i) (hs : i.eqk = [true, true, true, true]) (hag : i.agg = true) (x : U4) (w : World) : ∀ (es : List MapEntry) (n : Nat), (∀ e ∈ es, ∃ y, e.key = frKey y ∧ y ≠ x) → (Instr.findAsking t (frKey x) es n).run P w = .ok none w
  | [], n, _ => rfl
  | e :: es, n, h => by
    obtain ⟨y, hy, hne⟩ := h e List.mem_cons_self
    simp only [Instr.findAsking, Sem.run_bind, hy, fr_equal ht hs hag, decide_eq_false (fun e => hne (Eq.symm e)), Result.andThen_ok]
    exact find_asking ht hs hag x w es (n + 1) fun e' he' => h e' (List.mem_cons_of_mem _ he')

theorem find_key {t : Nat} {i : TyI} (ht : TyOk P t i) (hs : i.eqk = [true, true, true, true]) (hag : i.agg = true) {n e : Nat} (har : i.arr = some (n, e)) (x : U4) (w : World) (es : List MapEntry) (h : ∀ e ∈ es, ∃ y, e.key = frKey y ∧ y ≠ x) : (Instr.findKey t (frKey x) es).run P w = .ok none w := by
  obtain ⟨inf, d, hi, hd, hsz, hb, ha, hc1, hz, hfl, harr, hsl, hkd, heq, hes, hfd⟩ := ht.parts
  obtain ⟨rfl, _⟩ := harr n e har
  simp only [Instr.findKey, Sem.run_bind, run_underlying hd, Result.andThen_ok]
  cases es with
  | nil => rfl
  | cons e es =>
    show (Instr.findAsking t (frKey x) (e :: es) 0).run P w = _
    exact find_asking ht hs hag x w _ 0 h

theorem get_map {b : Nat} {es : Array MapEntry} {c : Nat} {w : World} (hb : w.heap[b]? = some (.map es c)) : (getObj b).run P w = .ok (.map es c) w := by simp [getObj, Sem.run, hb]
theorem set_map {b : Nat} {es : Array MapEntry} {c : Nat} {w : World} (o : Obj) (hb : w.heap[b]? = some (.map es c)) : (setObj b o).run P w = .ok () (w.putObj b o) := by simp [setObj, Sem.run, hb, World.putObj]

theorem map_update {mt kt et : Nat} {i : TyI} (ht : TyOk P kt i) (hs : i.eqk = [true, true, true, true]) (hag : i.agg = true) {n e : Nat} (har : i.arr = some (n, e)) (hm : P.underlying mt = some (.map kt et)) (hck : ∀ (x : U4) (w : World), (Instr.checkKey false 10000 kt (frKey x)).run P w = .ok () w)
    {b : Nat} {es : Array MapEntry} {c : Nat} {w : World} (hb : w.heap[b]? = some (.map es c)) (x : U4) (v : Value) (h : ∀ e ∈ es.toList, ∃ y, e.key = frKey y ∧ y ≠ x) :
    (Instr.mapUpdate mt (.map (some b)) (frKey x) v).run P w = .ok () (w.putObj b (.map (es.push { key := frKey x, val := v, born := c }) (c + 1))) := by
  simp only [Instr.mapUpdate, Sem.run_bind, run_underlying hm, Result.andThen_ok, get_map hb, hck x w, find_key ht hs hag har x w es.toList h]
  exact set_map _ hb

/-! A map beside what is walked. -/
structure Mt (w0 : World) (F0 : Nat → Prop) (K : Kp) (aq : List Act) (a : Act) (b : Nat) (es : Array MapEntry) (c : Nat) (σ : St) (y : Ctx) : Prop where
  sim : Sim w0 F0 K aq σ y a
  obj : y.w.heap[b]? = some (.map es c)
  nf : ¬ y.F b

variable {w0 : World} {F0 : Nat → Prop} {K : Kp} {aq : List Act} {a : Act} {b : Nat} {es : Array MapEntry} {c : Nat} {σ : St} {y : Ctx}

theorem Mt.step (h : Mt w0 F0 K aq a b es c σ y) {aq' : List Act} {σ2 : St} {z : Ctx} {bb : Act} (g : Sim y.w y.F (kOwn y K K.ds) aq' σ2 z bb) : Mt w0 F0 K aq' bb b es c σ2 z := by
  refine ⟨⟨g.defers, g.nt, g.t, g.mem, h.sim.base.trans g.base, g.frs⟩, own_keeps h.sim.mem g.base h.obj rfl, fun hb => ?_⟩
  rcases g.base.fn b hb with h1 | h1
  · exact h.nf h1
  · have := (Array.getElem?_eq_some_iff.1 h.obj).1
    omega

theorem Mt.put (h : Mt w0 F0 K aq a b es c σ y) (hw : w0.heap.size ≤ b) (es' : Array MapEntry) (c' : Nat) : Mt w0 F0 K aq a b es' c' σ { y with w := y.w.putObj b (.map es' c') } := by
  refine ⟨h.sim.world rfl rfl rfl (by simp [World.putObj]) (fun q hq => World.putObj_heap_other fun e => h.nf (e ▸ hq)) (fun p hp => World.putObj_heap_other fun e => ?_) (fun q hq _ => World.putObj_heap_other (by omega)), World.putObj_heap_same (Array.getElem?_eq_some_iff.1 h.obj).1, h.nf⟩
  cases hm : σ.m p with
  | none => rw [(h.sim.mem.dom p).1 hm] at hp; cases hp
  | some en =>
    obtain ⟨cs, ty, hc, _⟩ := h.sim.mem.ent p en hm hp
    rw [e, h.obj] at hc
    cases hc

theorem Sim.put_slot (hs : Sim w0 F0 K aq σ y a) {d : Nat} (hd : d < σ.nt) {s : SV} {v : Value} (hv : denS y s v) : Sim w0 F0 K aq { σ with t := setT σ.t d s } y (a.put (some d) v) := by
  refine ⟨hs.defers, ?_, fun j => ?_, hs.mem, hs.base, hs.frs⟩
  · have := hs.nt
    simpa [Act.put] using this
  · have h0 := hs.t j
    show denS _ (setT σ.t d s j) _
    unfold setT
    by_cases hj : j = d
    · subst hj
      have hlt : j < a.tmps.size := by rw [hs.nt]; exact hd
      simp only [if_true, Act.put, Array.getD_eq_getD_getElem?, Array.getElem?_setIfInBounds, hlt, Option.getD_some]
      exact hv
    · simp only [hj, if_false]
      have : (a.put (some d) v).tmps.getD j undef = a.tmps.getD j undef := by simp [Act.put, Array.getD_eq_getD_getElem?, Ne.symm hj]
      rw [this]
      exact h0

/-- A map is made. -/
theorem Mt.made (hs : Sim w0 F0 K aq σ y a) {d : Nat} (hd : d < σ.nt) :
    Mt w0 F0 K aq (a.put (some d) (.map (some y.w.heap.size))) y.w.heap.size #[] 0 { σ with t := setT σ.t d (.v (.c (.val (.map (some y.w.heap.size))))) } { y with w := y.w.alloc (.map #[] 0) } := by
  have hs2 : Sim w0 F0 K aq σ { y with w := y.w.alloc (.map #[] 0) } a :=
    hs.world rfl rfl rfl (by simp) (fun q hq => Go.RowKit.Below.heap_alloc _ _ _ (hs.mem.fw q hq)) (fun p hp => Go.RowKit.Below.heap_alloc _ _ _ (hs.mem.lt hp)) (fun q hq _ => Go.RowKit.Below.heap_alloc _ _ _ (Nat.lt_of_lt_of_le hq hs.base.size))
  exact ⟨hs2.put_slot hd ⟨rfl, 0, rfl, rfl⟩, World.alloc_heap_new y.w _, fun hb => Nat.lt_irrefl _ (hs.mem.fw _ hb)⟩

/-- The operation at the top. -/
def otop (k : List KI) (t : Nat → SV) : Option (Option Nat × Op × TypeId) :=
  match k with
  | .ops ops i _ :: k =>
    match hasFr k, ops[i]? with
    | false, some o =>
      match wantedS ops.toList o t with
      | some true => some (o.dst, o.op, o.type)
      | _ => none
    | _, _ => none
  | _ => none

theorem op_at {Q : Exit → Act → World → Prop} {k0 : List KI} {x : Ctx} {dst : Option Nat} {op : Op} {ty : TypeId} (ho : otop k0 σ.t = some (dst, op, ty)) (ht : ∀ t, denS x (σ.t t) (a.tmps.getD t undef)) (hnd : ∀ c, op ≠ .defer c) {w w' : World} {v : Value}
    (hrun : ∀ o : Oper, o.op = op → o.type = ty → (execOp a.eval o).run P w = .ok (.value v) w' ∨ ((execOp a.eval o).run P w = .ok .skip w' ∧ v = undef)) (hK : Wq P Q (opsNext k0) aq .normal (a.put dst v) w') : Wq P Q k0 aq .normal a w := by
  unfold otop at ho
  split at ho
  · rename_i ops i dec k
    split at ho
    · rename_i o hk hi
      split at ho
      · rename_i hw
        cases ho
        exact op_known hk hi (wanted_of ht hw) hnd (hrun o rfl rfl) hK
      · cases ho
    · cases ho
  · cases ho
end

end Go.Proofs.Ytlfllehomhcbfaa
