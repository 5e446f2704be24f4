/- Contracts, and the operations that touch no memory or only read it: the executor tells of them what they do. No conditions. -/
import Derived.Test.YtlfllehomhcbfaaFwG
namespace Go.Proofs.Ytlfllehomhcbfaa

inductive denSs (x : Ctx) : List SV → List Value → Prop
  | nil : denSs x [] []
  | cons {a v l vs} : denS x a v → denSs x l vs → denSs x (a :: l) (v :: vs)

/-- A function's contract: on arguments that are data it returns this, and own blocks that are new. -/
def FnD (P : Program) (f : Nat) (args : List SV) (r : SV) (news : List En) : Prop :=
  ∀ (x : Ctx) (vs : List Value), (∀ p, x.k p = .no) → (∀ b, x.F b → b < x.w.heap.size) → denSs x args vs →
    Calls P f vs.toArray x.w fun e w' => ∃ v y, e = .returned v ∧ y.w = w' ∧ Tr x none y (fun p => news[p]?) ∧ denS y r v

/-- A function that writes into own blocks of its caller. -/
def MuD (P : Program) (f : Nat) (spec : MuSpec) : Prop :=
  ∀ args m' o r ups, spec args m' = some (o, r, ups) → AllP o → ∀ (x : Ctx) (m : Nat → Option En) (vs : List Value), (∀ q e, m' q = some e → m q = some e) → Mem x m → denSs x args vs →
    Calls P f vs.toArray x.w fun e w' => ∃ v y, e = .returned v ∧ y.w = w' ∧ Tr x none y (setsM m ups) ∧ denS y r v

def Enters (P : Program) (f : Nat) : Prop := ∀ args w, (callFunc f args).run P w = .ok (.enter f args) w

structure EnvOk (P : Program) (env : Env) : Prop where
  ty : ∀ t i, env.ty t = some i → TyOk P t i
  mixed : P.follows .mixedOrders = true
  fn : ∀ f s, env.fn f = some s → Enters P f ∧ ∀ args o r es, s args = some (o, r, es) → AllP o → FnD P f args r es
  mu : ∀ f s, env.mu f = some s → Enters P f ∧ MuD P f s
  inl : ∀ f fn, env.inl f = some fn → P.funcs[f]? = some fn ∧ Enters P f

/-- What an operation does. -/
inductive OpS (P : Program) (o : Oper) (a : Act) (x : Ctx) (m : Nat → Option En) (r : Res) : Prop
  | value (v : Value) (y : Ctx) : (execOp a.eval o).run P x.w = .ok (.value v) y.w → Tr x r.kill y (setsM (killM m r.kill) r.ups) → denS y r.val v → OpS P o a x m r
  | skip (y : Ctx) : r.val = .top → (execOp a.eval o).run P x.w = .ok .skip y.w → Tr x r.kill y (setsM (killM m r.kill) r.ups) → OpS P o a x m r
  | enter (f : Nat) (args : Array Value) : (execOp a.eval o).run P x.w = .ok (.enter f args) x.w →
      (Calls P f args x.w fun e w' => ∃ v y, e = .returned v ∧ y.w = w' ∧ Tr x r.kill y (setsM (killM m r.kill) r.ups) ∧ denS y r.val v) → OpS P o a x m r

section
variable {P : Program} {o : Oper} {a : Act} {x : Ctx} {m : Nat → Option En}

theorem OpS.pure {obl : List Prop} {s : SV} {v : Value} (hm : Mem x m) (hr : (execOp a.eval o).run P x.w = .ok (.value v) x.w) (hd : denS x s v) : OpS P o a x m ⟨obl, s, [], none⟩ :=
  .value v x hr (Tr.refl hm) hd

theorem OpS.wp {r : Res} {next : Act → World → Prop} {Q : Exit → Act → World → Prop} (h : OpS P o a x m r)
    (hn : ∀ v y, Tr x r.kill y (setsM (killM m r.kill) r.ups) → denS y r.val v → next (a.put o.dst v) y.w) : o.wp P a x.w next Q := by
  unfold Oper.wp
  rcases h with ⟨v, y, hr, ht, hd⟩ | ⟨y, hv, hr, ht⟩ | ⟨f, args, hr, hc⟩
  · rw [hr]; exact hn v y ht hd
  · rw [hr]; exact hn undef y ht (by rw [hv]; trivial)
  · rw [hr]
    refine hc.mono fun e w' ⟨v, y, he, hw, ht, hd⟩ => ?_
    subst he; subst hw
    exact hn v y ht hd

theorem denV_c {i : It} (hs : i.size = 1) {v : Value} {d : Nat} (h : den x d i [v]) : denS x (.v (.c i)) v := ⟨hs, d, h⟩

theorem D_int {k : IntKind} {n : Int} {v : Value} (h : denS x (.v (.c (.int k n))) v) : v = .int k n := by
  obtain ⟨_, d, h⟩ := h
  cases d <;> simpa [den] using h

theorem D_bool {b : Bool} {v : Value} (h : denS x (.v (.c (.bool b))) v) : v = .bool b := by
  obtain ⟨_, d, h⟩ := h
  cases d <;> simpa [den] using h

theorem D_lit {b : Bool} {v : Value} (h : denS x (.v (.c (.lit b))) v) : v = .bool b := by
  obtain ⟨_, d, h⟩ := h
  cases d <;> simpa [den] using h

theorem D_ptr {p off : Nat} {v : Value} (h : denS x (.v (.c (.ptr p off))) v) : x.k p = .real ∧ v = .pointer (some ⟨x.β p, off, none⟩) := by
  obtain ⟨_, d, h⟩ := h
  cases d <;> simpa [den] using h

theorem D_ep {p es i off : Nat} {v : Value} (h : denS x (.v (.c (.ep p es i off))) v) : x.k p = .real ∧ v = .pointer (some ⟨x.β p, i * es + off, none⟩) := by
  obtain ⟨_, d, h⟩ := h
  cases d <;> simpa [den] using h

theorem D_val {u v : Value} (h : denS x (.v (.c (.val u))) v) : v = u ∧ u.oneCell' = true := by
  obtain ⟨_, d, h⟩ := h
  cases d <;> (simp [den] at h; exact ⟨h.1, h.2⟩)

theorem D_slc {p off len es : Nat} {v : Value} (h : denS x (.v (.c (.slc p off len es))) v) :
    (x.k p = .nil ∧ off = 0 ∧ len = 0 ∧ v = .slice none 0 0) ∨
    (x.k p = .real ∧ ∃ cap cs ty, v = .slice (some ⟨x.β p, off, none⟩) len cap ∧ len ≤ cap ∧ cap ≤ maxLen ∧ x.w.heap[x.β p]? = some (.cells cs ty (0, 0)) ∧ off + cap * es ≤ cs.size) := by
  obtain ⟨_, d, h⟩ := h
  cases d <;> simpa [den] using h

theorem D_sl {q : Sq} {v : Value} (h : denS x (.v (.c (.sl q))) v) :
    (∃ a cap, v = .slice a 0 cap ∧ q.n = 0) ∨
    (∃ b o cap, v = .slice (some ⟨b, o, none⟩) q.n cap ∧ q.n ≤ cap ∧ q.n ≤ maxLen ∧ ∃ d, ∀ i, i < q.n → ∃ cs, catL (den x d) (q.get i) cs ∧ rd x.w x.F b (o + i * q.es) cs) := by
  obtain ⟨_, d, h⟩ := h
  cases d with
  | zero => simp [den] at h
  | succ d =>
    simp only [den, List.cons.injEq, and_true] at h
    rcases h with h | ⟨b, o, cap, h1, h2, h3, h4⟩
    · exact .inl h
    · exact .inr ⟨b, o, cap, h1, h2, h3, d, h4⟩

theorem D_rp {q : Sq} {i off : Nat} {v : Value} (h : denS x (.v (.c (.rp q i off))) v) :
    ∃ b o cs d, v = .pointer (some ⟨b, o + off, none⟩) ∧ i < q.n ∧ catL (den x d) (q.get i) cs ∧ rd x.w x.F b o cs := by
  obtain ⟨_, d, h⟩ := h
  cases d with
  | zero => simp [den] at h
  | succ d =>
    simp only [den, List.cons.injEq, and_true] at h
    obtain ⟨b, o, cs, h1, h2, h3, h4⟩ := h
    exact ⟨b, o, cs, d, h1, h2, h3, h4⟩

theorem D_clo {f : Nat} {caps : List (Nat × Nat)} {v : Value} (h : denS x (.v (.c (.clo f caps))) v) :
    (∀ c ∈ caps, x.k c.1 = .real) ∧ v = .func (.func f) #[] (caps.map fun c => Value.pointer (some ⟨x.β c.1, c.2, none⟩)).toArray := by
  obtain ⟨_, d, h⟩ := h
  cases d <;> (simp only [den, List.cons.injEq, and_true] at h; exact h)

theorem den_int (k : IntKind) (n : Int) : denS x (.v (.c (.int k n))) (.int k n) := ⟨rfl, 0, rfl⟩
theorem den_bool (b : Bool) : denS x (.v (.c (.bool b))) (.bool b) := ⟨rfl, 0, rfl⟩
theorem den_lit (b : Bool) : denS x (.v (.c (.lit b))) (.bool b) := ⟨rfl, 0, rfl⟩

theorem const_den (v : Value) : denS x (constSV v) v := by
  unfold constSV
  split
  · exact den_int _ _
  · exact den_lit _
  · exact ⟨rfl, 0, rfl, rfl⟩
  · exact ⟨rfl, 0, rfl, rfl⟩
  · exact ⟨rfl, 0, rfl, rfl⟩
  · trivial

theorem ev_den {σ : St} (h : ∀ t, denS x (σ.t t) (a.tmps.getD t undef)) (o : Operand) : denS x (σ.ev o) (a.eval o) := by
  cases o with
  | tmp t => exact h t
  | const v => exact const_den v
  | global g => trivial
  | func f => exact ⟨rfl, 0, by simp [den, Act.eval]⟩

theorem intIt_den {s : SV} {k : IntKind} {n : Int} {v : Value} (h : intIt s = some (k, n)) (hd : denS x s v) : v = .int k n := by
  unfold intIt at h
  split at h
  · simp only [Option.some.injEq, Prod.mk.injEq] at h
    obtain ⟨rfl, rfl⟩ := h
    exact D_int hd
  · cases h

/-! Arithmetic. -/
theorem eqGuard_int (op : BinOp) (t : TypeId) (p q : Operand) (k k' : IntKind) (n n' : Int) (w : World) : (eqGuard op t p q (.int k n) (.int k' n')).run P w = .ok () w := by
  cases op <;> simp [eqGuard]

theorem run_arith {op : BinOp} {k : IntKind} {n n' : Int} {obl : List Prop} {i : It} (h : arith op k n n' = some (obl, i)) (ho : AllP obl) (t : TypeId) (w : World) :
    ∃ v, (binOp op t (.int k n) (.int k n')).run P w = .ok v w ∧ denS x (.v (.c i)) v := by
  cases op <;> simp only [arith, Option.some.injEq, Prod.mk.injEq] at h <;> obtain ⟨rfl, rfl⟩ := h
  case add => exact ⟨_, by simp [binOp, Op.intArith], den_int _ _⟩
  case sub => exact ⟨_, by simp [binOp, Op.intArith], den_int _ _⟩
  case mul => exact ⟨_, by simp [binOp, Op.intArith], den_int _ _⟩
  case quo => exact ⟨_, by simp [binOp, Op.intDiv, ho.1], den_int _ _⟩
  case rem => exact ⟨_, by simp [binOp, Op.intDiv, ho.1], den_int _ _⟩
  case and => exact ⟨.int k (bitsOp .and k n n'), by simp [binOp, Op.intBits, bitsOp], den_int _ _⟩
  case or => exact ⟨.int k (bitsOp .or k n n'), by simp [binOp, Op.intBits, bitsOp], den_int _ _⟩
  case xor => exact ⟨.int k (bitsOp .xor k n n'), by simp [binOp, Op.intBits, bitsOp], den_int _ _⟩
  case andNot => exact ⟨.int k (bitsOp .andNot k n n'), by simp [binOp, Op.intBits, bitsOp], den_int _ _⟩
  case shl =>
    have h0 : ¬ n' < 0 := by have := ho.1; omega
    exact ⟨_, by simp [binOp, Op.shift, h0], den_int _ _⟩
  case shr =>
    have h0 : ¬ n' < 0 := by have := ho.1; omega
    exact ⟨_, by simp [binOp, Op.shift, h0], den_int _ _⟩
  all_goals exact ⟨_, by simp [binOp, Op.intCmp], den_bool _⟩

theorem run_shift {op : BinOp} (hop : op = .shl ∨ op = .shr) {k k' : IntKind} {n n' : Int} {obl : List Prop} {i : It} (h : arith op k n n' = some (obl, i)) (ho : AllP obl) (t : TypeId) (w : World) :
    ∃ v, (binOp op t (.int k n) (.int k' n')).run P w = .ok v w ∧ denS x (.v (.c i)) v := by
  rcases hop with rfl | rfl <;> simp only [arith, Option.some.injEq, Prod.mk.injEq] at h <;> obtain ⟨rfl, rfl⟩ := h
  all_goals
    have h0 : ¬ n' < 0 := by have := ho.1; omega
    exact ⟨_, by simp [binOp, Op.shift, h0], den_int _ _⟩

theorem fit_one {s : List Bool} {v1 v2 : Value} (h : Fit s [v1] [v2]) : (∃ k n1 n2, v1 = .int k n1 ∧ v2 = .int k n2) ∨ (∃ b1 b2, v1 = .bool b1 ∧ v2 = .bool b2) := by
  cases h with
  | int _ => exact .inl ⟨_, _, _, rfl, rfl⟩
  | bool _ => exact .inr ⟨_, _, rfl, rfl⟩

theorem one_agg {d : TypeDesc} {cs : List Value} (h : aggOf d = true) : valOf (aggOf d) cs = .agg cs.toArray := by simp [valOf, h]

theorem eq_run {t : Nat} {i : TyI} (ht : TyOk P t i) {op : BinOp} {e : Bool} (hop : isEql op = some e) {u1 u2 : Value} {l1 l2 : List Value} (h1 : u1 = valOf i.agg l1) (h2 : u2 = valOf i.agg l2)
    (hf : Fit i.eqk l1 l2) (hne : i.eqk ≠ []) (hnot : i.agg = false → ∃ v1 v2, l1 = [v1] ∧ l2 = [v2]) (p q : Operand) (w : World) :
    ∃ b : Bool, ((do eqGuard op t p q u1 u2; binOp op t u1 u2) : Sem Value).run P w = .ok (.bool (if e then b else !b)) w ∧ (b = true ↔ l1 = l2) := by
  obtain ⟨inf, d, hi, hd, hs, hb, ha, hc1, hz, hfl, har, hsl, hkd, heq, hes, hfd⟩ := ht.parts
  obtain ⟨hsh, hg⟩ := heq hne
  obtain ⟨hEq, _⟩ := shOf_ok (P := P) 9992 8 t i.eqk hsh
  obtain ⟨d', hd', b, hb', hbi⟩ := hEq w l1 l2 hf
  rw [hd] at hd'; cases hd'
  rw [ha, ← h1, ← h2] at hb'
  refine ⟨b, ?_, hbi⟩
  have hguard : (eqGuard op t p q u1 u2).run P w = .ok () w := by
    cases hag : i.agg with
    | true =>
      rw [hag] at h1 h2
      simp only [valOf, if_true] at h1 h2
      subst h1; subst h2
      exact run_eqGuard_agg w op t p q _ _ hg
    | false =>
      obtain ⟨v1, v2, rfl, rfl⟩ := hnot hag
      rw [hag] at h1 h2
      simp only [valOf, List.headD_cons] at h1 h2
      simp only [Bool.false_eq_true, if_false] at h1 h2
      rcases fit_one hf with ⟨_, _, _, rfl, rfl⟩ | ⟨_, _, rfl, rfl⟩
      · subst h1; subst h2; exact eqGuard_int op t p q _ _ _ _ w
      · subst h1; subst h2; cases op <;> simp [eqGuard]
  have hbin : (binOp op t u1 u2).run P w = .ok (.bool (if e then b else !b)) w := by
    have hEqual : (Op.equal t u1 u2).run P w = .ok b w := hb'
    have hcase : (∃ c1 c2, u1 = .agg c1 ∧ u2 = .agg c2) ∨ (∃ k n1 n2, u1 = .int k n1 ∧ u2 = .int k n2) ∨ (∃ b1 b2, u1 = .bool b1 ∧ u2 = .bool b2) := by
      cases hag : i.agg with
      | true =>
        rw [hag] at h1 h2
        exact .inl ⟨_, _, by simpa [valOf] using h1, by simpa [valOf] using h2⟩
      | false =>
        obtain ⟨v1, v2, rfl, rfl⟩ := hnot hag
        rw [hag] at h1 h2
        rcases fit_one hf with ⟨_, _, _, rfl, rfl⟩ | ⟨_, _, rfl, rfl⟩
        · exact .inr (.inl ⟨_, _, _, by simpa [valOf] using h1, by simpa [valOf] using h2⟩)
        · exact .inr (.inr ⟨_, _, by simpa [valOf] using h1, by simpa [valOf] using h2⟩)
    have hint : ∀ k n1 n2, u1 = .int k n1 → u2 = .int k n2 → b = (n1 == n2) := by
      intro k n1 n2 e1 e2
      have hl : l1 = l2 ↔ n1 = n2 := by
        cases hag : i.agg with
        | true => rw [hag] at h1; simp [valOf, e1] at h1
        | false =>
          obtain ⟨v1, v2, rfl, rfl⟩ := hnot hag
          rw [hag] at h1 h2
          simp only [valOf, List.headD_cons, Bool.false_eq_true, if_false] at h1 h2
          rw [← h1, ← h2, e1, e2]; simp
      rw [Bool.eq_iff_iff, hbi, hl]; simp
    cases op <;> simp only [isEql, Option.some.injEq] at hop <;> try (cases hop; done)
    · subst hop
      rcases hcase with ⟨c1, c2, e1, e2⟩ | ⟨k, n1, n2, e1, e2⟩ | ⟨b1, b2, e1, e2⟩
      · rw [e1, e2] at hEqual ⊢; simp [binOp, hEqual]
      · have hbe := hint k n1 n2 e1 e2
        rw [e1, e2]; simp [binOp, Op.intCmp, hbe]
      · rw [e1, e2] at hEqual ⊢; simp [binOp, hEqual]
    · subst hop
      rcases hcase with ⟨c1, c2, e1, e2⟩ | ⟨k, n1, n2, e1, e2⟩ | ⟨b1, b2, e1, e2⟩
      · rw [e1, e2] at hEqual ⊢; simp [binOp, hEqual]
      · have hbe := hint k n1 n2 e1 e2
        rw [e1, e2]; simp [binOp, Op.intCmp, hbe, bne]
      · rw [e1, e2] at hEqual ⊢; simp [binOp, hEqual]
  simp [hguard, hbin]

theorem binRes_sound {env : Env} (hE : EnvOk P env) {op : BinOp} {t : Nat} {s1 s2 : SV} {v1 v2 : Value} {obl : List Prop} {i : It} (h : binRes env op t s1 s2 = some (obl, i)) (ho : AllP obl)
    (h1 : denS x s1 v1) (h2 : denS x s2 v2) (p q : Operand) : ∃ v, ((do eqGuard op t p q v1 v2; binOp op t v1 v2) : Sem Value).run P x.w = .ok v x.w ∧ denS x (.v (.c i)) v := by
  unfold binRes at h
  split at h
  · rename_i k n k' n'
    have e1 := D_int h1; have e2 := D_int h2
    subst e1; subst e2
    have fin : ∀ {v}, (binOp op t (.int k n) (.int k' n')).run P x.w = .ok v x.w → ((do eqGuard op t p q (.int k n) (.int k' n'); binOp op t (.int k n) (.int k' n')) : Sem Value).run P x.w = .ok v x.w := by
      intro v hv; simp [eqGuard_int, hv]
    split at h
    · obtain ⟨v, hv, hd⟩ := run_shift (P := P) (x := x) (.inl rfl) h ho t x.w (k' := k'); exact ⟨v, fin hv, hd⟩
    · obtain ⟨v, hv, hd⟩ := run_shift (P := P) (x := x) (.inr rfl) h ho t x.w (k' := k'); exact ⟨v, fin hv, hd⟩
    · split at h
      · rename_i hk
        cases same_eq hk
        obtain ⟨v, hv, hd⟩ := run_arith (P := P) (x := x) h ho t x.w; exact ⟨v, fin hv, hd⟩
      · cases h
  · rename_i a b _
    split at h
    · rename_i e ti r he hti hr
      split at h
      · rename_i hc
        simp only [Bool.and_eq_true, Bool.not_eq_true', beq_iff_eq] at hc
        cases h
        obtain ⟨s, g1, g2, hf, hiff⟩ := eqIt_fit hr h1.2 h2.2
        rw [hc.1.2] at g1; cases g1
        have hne : ti.eqk ≠ [] := by intro e; have := hf.len.1; rw [e] at this; simp at this
        obtain ⟨b', hb, hbi⟩ := eq_run (hE.ty _ _ hti) he (u1 := v1) (u2 := v2) (l1 := [v1]) (l2 := [v2]) (by simp [valOf, hc.1.1]) (by simp [valOf, hc.1.1]) hf hne (fun _ => ⟨_, _, rfl, rfl⟩) p q x.w
        have : b' = r := by rw [Bool.eq_iff_iff, hbi, hiff]
        subst this
        exact ⟨_, hb, den_bool _⟩
      · cases h
    · cases h
  · rename_i a b
    split at h
    · rename_i e ti r he hti hr
      split at h
      · rename_i hc
        simp only [Bool.and_eq_true, beq_iff_eq] at hc
        cases h
        obtain ⟨c1, e1, k1⟩ := h1
        obtain ⟨c2, e2, k2⟩ := h2
        obtain ⟨s, g1, g2, hf, hiff⟩ := eqIts_fit hr k1 k2
        rw [hc.1.2] at g1; cases g1
        have hne : ti.eqk ≠ [] := by
          intro e; have := hc.1.1.2; simp [e] at this
        obtain ⟨b', hb, hbi⟩ := eq_run (hE.ty _ _ hti) he (u1 := v1) (u2 := v2) (l1 := c1) (l2 := c2) (by simp [valOf, hc.1.1.1, e1]) (by simp [valOf, hc.1.1.1, e2]) hf hne (fun g => by rw [hc.1.1.1] at g; cases g) p q x.w
        have : b' = r := by rw [Bool.eq_iff_iff, hbi, hiff]
        subst this
        exact ⟨_, hb, den_bool _⟩
      · cases h
    · cases h
  · cases h
end
end Go.Proofs.Ytlfllehomhcbfaa
