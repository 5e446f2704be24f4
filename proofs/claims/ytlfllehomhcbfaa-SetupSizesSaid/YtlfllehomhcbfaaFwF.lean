/- Own blocks in a world, and how they turn: a new block, a block written, slots forgotten. Lemmas for the executor's soundness; no conditions. -/
import Derived.Test.YtlfllehomhcbfaaFwD
namespace Go.Proofs.Ytlfllehomhcbfaa

structure Mem (x : Ctx) (m : Nat → Option En) : Prop where
  dom : ∀ p, m p = none ↔ x.k p = .no
  fl : ∀ p l, m p = some (.fl l) → x.k p = .real
  nil : ∀ p q, m p = some (.sq q) → x.k p = .nil → q.n = 0
  ent : ∀ p e, m p = some e → x.k p = .real → ∃ cs ty, x.w.heap[x.β p]? = some (.cells cs ty (0, 0)) ∧ denEn x e cs.toList
  inj : ∀ p q, x.k p = .real → x.k q = .real → x.β p = x.β q → p = q
  own : ∀ p, x.k p = .real → ¬ x.F (x.β p)
  fw : ∀ b, x.F b → b < x.w.heap.size

/-- A position is forgotten. -/
def kx (x : Ctx) : Option Nat → Ctx
  | none => x
  | some p => { x with k := fun q => if q = p then .no else x.k q }

structure Tr (x : Ctx) (kill : Option Nat) (y : Ctx) (m' : Nat → Option En) : Prop where
  ext : Ext (kx x kill) y
  mem : Mem y m'
  os : y.w.os = x.w.os
  tape : y.w.tape = x.w.tape
  output : y.w.output = x.w.output
  blk : ∀ b, b < x.w.heap.size → (∀ p, x.k p = .real → x.β p ≠ b) → y.w.heap[b]? = x.w.heap[b]?
  fresh : ∀ p, y.k p = .real → (x.k p = .real ∧ y.β p = x.β p) ∨ x.w.heap.size ≤ y.β p
  fnew : ∀ b, y.F b → x.F b ∨ x.w.heap.size ≤ b

theorem Mem.lt {x : Ctx} {m : Nat → Option En} (h : Mem x m) {p : Nat} (hp : x.k p = .real) : x.β p < x.w.heap.size := by
  cases hm : m p with
  | none => rw [(h.dom p).1 hm] at hp; cases hp
  | some e => obtain ⟨cs, ty, hc, _⟩ := h.ent p e hm hp; exact (Array.getElem?_eq_some_iff.1 hc).1

theorem Tr.refl {x : Ctx} {m : Nat → Option En} (h : Mem x m) : Tr x none x m :=
  ⟨Ext.refl x, h, rfl, rfl, rfl, fun _ _ _ => rfl, fun _ hp => .inl ⟨hp, rfl⟩, fun _ hb => .inl hb⟩

theorem setsM_one (m : Nat → Option En) (p : Nat) (e : En) : setsM m [(p, e)] = fun q => if q = p then some e else m q := rfl

/-- A world that only grew. -/
theorem heap_alloc_le (w : World) (o : Obj) {b : Nat} (h : b < w.heap.size) : (w.alloc o).heap[b]? = w.heap[b]? := by
  show (w.heap.push o)[b]? = _
  rw [Array.getElem?_push, if_neg (by omega)]

def allocCtx (x : Ctx) (p : Nat) (o : Obj) : Ctx :=
  { w := x.w.alloc o, F := x.F, k := fun q => if q = p then .real else x.k q, β := fun q => if q = p then x.w.heap.size else x.β q }

theorem ext_alloc {x : Ctx} {m : Nat → Option En} (h : Mem x m) {p : Nat} (hp : m p = none) (o : Obj) : Ext x (allocCtx x p o) where
  size := by simp [allocCtx]
  ro b hb := ⟨hb, heap_alloc_le _ _ (h.fw b hb)⟩
  k q hq := by
    have : q ≠ p := fun e => hq (e ▸ (h.dom p).1 hp)
    simp [allocCtx, this]
  β q hq := by
    have : q ≠ p := fun e => by rw [e, (h.dom p).1 hp] at hq; cases hq
    simp [allocCtx, this]
  own q hq cs ty hc := ⟨cs, (heap_alloc_le _ _ (h.lt hq)).trans hc, rfl⟩

theorem tr_alloc {x : Ctx} {m : Nat → Option En} (h : Mem x m) {p : Nat} (hp : m p = none) (cells : Array Value) (ty : TypeId) (e : En) (hd : denEn x e cells.toList) :
    Tr x none (allocCtx x p (.cells cells ty)) (setsM m [(p, e)]) := by
  have hk := (h.dom p).1 hp
  have hx := ext_alloc h hp (.cells cells ty)
  refine ⟨hx, ?_, rfl, rfl, rfl, fun b hb _ => heap_alloc_le _ _ hb, fun q hq => ?_, fun b hb => .inl hb⟩
  · rw [setsM_one]
    refine ⟨fun q => ?_, fun q l hq => ?_, fun q s hq hn => ?_, fun q e' hq hr => ?_, fun q q' hq hq' he => ?_, fun q hq => ?_, fun b hb => ?_⟩
    · by_cases hqp : q = p
      · simp [hqp, allocCtx]
      · simp only [allocCtx, hqp, if_false]; exact h.dom q
    · by_cases hqp : q = p
      · simp [hqp, allocCtx]
      · simp only [allocCtx, hqp, if_false] at hq ⊢; exact h.fl q l hq
    · by_cases hqp : q = p
      · simp [hqp, allocCtx] at hn
      · simp only [allocCtx, hqp, if_false] at hq hn; exact h.nil q s hq hn
    · by_cases hqp : q = p
      · simp only [hqp, if_true, Option.some.injEq] at hq
        subst hq
        refine ⟨cells, ty, ?_, denEn_ext hx hd⟩
        simp only [allocCtx, hqp, if_true]
        exact heap_alloc_new x.w _
      · simp only [hqp, if_false] at hq
        simp only [allocCtx, hqp, if_false] at hr
        obtain ⟨cs, ty', hc, hd'⟩ := h.ent q e' hq hr
        refine ⟨cs, ty', ?_, denEn_ext hx hd'⟩
        simp only [allocCtx, hqp, if_false]
        exact (heap_alloc_le _ _ (h.lt hr)).trans hc
    · by_cases hqp : q = p <;> by_cases hqp' : q' = p
      · rw [hqp, hqp']
      · simp only [allocCtx, hqp, hqp', if_true, if_false] at he hq'
        have := h.lt hq'; omega
      · simp only [allocCtx, hqp, hqp', if_true, if_false] at he hq
        have := h.lt hq; omega
      · simp only [allocCtx, hqp, hqp', if_false] at he hq hq'
        exact h.inj q q' hq hq' he
    · by_cases hqp : q = p
      · simp only [allocCtx, hqp, if_true]
        intro hF; have := h.fw _ hF; omega
      · simp only [allocCtx, hqp, if_false] at hq ⊢; exact h.own q hq
    · have := h.fw b hb
      simp [allocCtx]; omega
  · by_cases hqp : q = p
    · right; simp [allocCtx, hqp]
    · left; simp only [allocCtx, hqp, if_false] at hq ⊢; exact ⟨hq, trivial⟩

theorem setRow_size (w : World) (g : Nat) (cs : Array Value) : (w.setRow g cs).heap.size = w.heap.size := size_setRow w g cs

def rowCtx (x : Ctx) (p : Nat) (cs : Array Value) : Ctx := { x with w := x.w.setRow (x.β p) cs }

theorem ext_row {x : Ctx} {m : Nat → Option En} (h : Mem x m) {p : Nat} (hp : x.k p = .real) {cur cs : Array Value} {ty : TypeId} (hc : x.w.heap[x.β p]? = some (.cells cur ty (0, 0)))
    (hs : cs.size = cur.size) : Ext x (rowCtx x p cs) where
  size := by simp [rowCtx]
  ro b hb := ⟨hb, setRow_other _ _ _ _ (fun e => h.own p hp (e ▸ hb))⟩
  k q _ := rfl
  β q _ := rfl
  own q hq cs' ty' hc' := by
    by_cases hqp : q = p
    · subst hqp
      rw [hc] at hc'; cases hc'
      exact ⟨cs, setRow_heap _ _ _ _ _ _ hc, hs⟩
    · have : x.β q ≠ x.β p := fun e => hqp (h.inj q p hq hp e)
      exact ⟨cs', (setRow_other _ _ _ _ this).trans hc', rfl⟩

theorem tr_row {x : Ctx} {m : Nat → Option En} (h : Mem x m) {p : Nat} (hp : x.k p = .real) {cur cs : Array Value} {ty : TypeId} (hc : x.w.heap[x.β p]? = some (.cells cur ty (0, 0)))
    (hs : cs.size = cur.size) (e : En) (hd : denEn x e cs.toList) : Tr x none (rowCtx x p cs) (setsM m [(p, e)]) := by
  have hx := ext_row h hp hc hs
  have hmp : m p ≠ none := fun e => by rw [(h.dom p).1 e] at hp; cases hp
  refine ⟨hx, ?_, rfl, rfl, rfl, fun b _ hq => setRow_other _ _ _ _ (fun e => hq p hp e.symm), fun q hq => .inl ⟨hq, rfl⟩, fun b hb => .inl hb⟩
  rw [setsM_one]
  refine ⟨fun q => ?_, fun q l hq => ?_, fun q s hq hn => ?_, fun q e' hq hr => ?_, fun q q' hq hq' he => h.inj q q' hq hq' he, fun q hq => h.own q hq, fun b hb => ?_⟩
  · by_cases hqp : q = p
    · subst hqp; simp [rowCtx, hp]
    · simp only [hqp, if_false]; exact h.dom q
  · by_cases hqp : q = p
    · subst hqp; exact hp
    · simp only [hqp, if_false] at hq; exact h.fl q l hq
  · by_cases hqp : q = p
    · subst hqp; rw [show (rowCtx x q cs).k q = x.k q from rfl, hp] at hn; cases hn
    · simp only [hqp, if_false] at hq; exact h.nil q s hq hn
  · by_cases hqp : q = p
    · subst hqp
      simp only [if_true, Option.some.injEq] at hq
      subst hq
      exact ⟨cs, ty, setRow_heap _ _ _ _ _ _ hc, denEn_ext hx hd⟩
    · simp only [hqp, if_false] at hq
      obtain ⟨cs', ty', hc', hd'⟩ := h.ent q e' hq hr
      have : x.β q ≠ x.β p := fun e => hqp (h.inj q p hr hp e)
      exact ⟨cs', ty', (setRow_other _ _ _ _ this).trans hc', denEn_ext hx hd'⟩
  · have := h.fw b hb
    simp [rowCtx]; exact this

/-! Forgetting a position. -/
theorem scrub_den {x : Ctx} (p : Nat) : ∀ (d : Nat) (i : It) (vs : List Value), den x d i vs → den (kx x (some p)) d (scrubIt p i) vs := by
  have hext : ∀ d i vs, (∀ q off, i ≠ .ptr q off) → (∀ q es j off, i ≠ .ep q es j off) → (∀ q off len es, i ≠ .slc q off len es) → (∀ f c, i ≠ .clo f c) → (∀ q, i ≠ .mp q) → den x d i vs → den (kx x (some p)) d i vs := by
    intro d
    induction d with
    | zero => intro i vs h1 h2 h3 h4 h5 h; cases i <;> simp only [den] at h ⊢ <;> first | exact h | exact absurd rfl (h1 _ _) | exact absurd rfl (h2 _ _ _ _) | exact absurd rfl (h3 _ _ _ _) | exact absurd rfl (h4 _ _) | exact absurd rfl (h5 _)
    | succ d ih =>
      intro i vs h1 h2 h3 h4 h5 h
      have hget : ∀ (q : Sq) (j : Nat) (cs : List Value), catL (den x d) (q.get j) cs → catL (den (kx x (some p)) d) (q.get j) cs := by
        intro q j cs hc
        have : ∀ (l : List It) (cs : List Value), (∀ i ∈ l, (∀ q off, i ≠ .ptr q off) ∧ (∀ q es j off, i ≠ .ep q es j off) ∧ (∀ q off len es, i ≠ .slc q off len es) ∧ (∀ f c, i ≠ .clo f c) ∧ (∀ q, i ≠ .mp q)) → catL (den x d) l cs → catL (den (kx x (some p)) d) l cs := by
          intro l
          induction l with
          | nil => intro cs _ h; exact h
          | cons a l ihl =>
            intro cs hl ⟨c1, c2, e, g1, g2⟩
            obtain ⟨k1, k2, k3, k4, k5⟩ := hl a (by simp)
            exact ⟨c1, c2, e, ih a c1 k1 k2 k3 k4 k5 g1, ihl c2 (fun i hi => hl i (by simp [hi])) g2⟩
        refine this _ _ ?_ hc
        intro i hi
        have flat : ∀ (l : List (Fp × Fp × Fp)) (n k : Nat), i ∈ flatPt l k n → ∃ o, i = .ob o := by
          intro l n
          induction n with
          | zero => intro k hk; simp [flatPt] at hk
          | succ n ihn =>
            intro k hk
            simp only [flatPt, List.mem_cons] at hk
            rcases hk with rfl | rfl | rfl | hk
            · exact ⟨_, rfl⟩
            · exact ⟨_, rfl⟩
            · exact ⟨_, rfl⟩
            · exact ihn _ hk
        cases q <;> simp only [Sq.get, GateD.its, OpD.its, G1D.its, G2D.its, ptIts, pt2Its, List.mem_cons, List.not_mem_nil, or_false] at hi
        case ptt l => obtain ⟨o, rfl⟩ := flat _ _ _ hi; simp
        all_goals first
          | (subst hi; simp; done)
          | (rcases hi with rfl | rfl <;> (simp; done))
          | (rcases hi with rfl | rfl | rfl <;> (simp; done))
          | (rcases hi with rfl | rfl | rfl | rfl | rfl <;> (simp; done))
          | (rcases hi with rfl | rfl | rfl | rfl | rfl | rfl <;> (simp; done))
          | (rcases hi with rfl | rfl | rfl | rfl | rfl | rfl | rfl | rfl <;> (simp; done))
      cases i <;> simp only [den] at h ⊢
      all_goals first
        | exact h
        | exact absurd rfl (h1 _ _)
        | exact absurd rfl (h2 _ _ _ _)
        | exact absurd rfl (h3 _ _ _ _)
        | exact absurd rfl (h4 _ _)
        | exact absurd rfl (h5 _)
        | (rcases h with h | ⟨b, o, cap, e, hc, hm, hr⟩
           · exact .inl h
           · refine .inr ⟨b, o, cap, e, hc, hm, fun j hj => ?_⟩
             obtain ⟨cs, g1, g2⟩ := hr j hj
             exact ⟨cs, hget _ _ _ g1, g2⟩)
        | (obtain ⟨b, o, cs, e, hi, g1, g2⟩ := h
           exact ⟨b, o, cs, e, hi, hget _ _ _ g1, g2⟩)
  intro d i vs h
  have dead : ∀ (v : Value), vs = [v] → v.oneCell' = true → den (kx x (some p)) d .dead vs := by
    intro v e h1; cases d <;> exact ⟨v, e, h1⟩
  cases i
  case slc q off len es =>
    by_cases hq : q = p
    · subst hq
      simp only [scrubIt, if_true]
      cases d <;> simp only [den] at h <;>
      · rcases h with ⟨_, _, _, e⟩ | ⟨_, _, _, _, e, _⟩ <;> exact dead _ e rfl
    · simp only [scrubIt, hq, if_false]
      cases d <;> simp only [den, kx, hq, if_false] at h ⊢ <;> exact h
  case ptr q off =>
    by_cases hq : q = p
    · subst hq; simp only [scrubIt, if_true]
      cases d <;> simp only [den] at h <;> exact dead _ h.2 rfl
    · simp only [scrubIt, hq, if_false]
      cases d <;> simp only [den, kx, hq, if_false] at h ⊢ <;> exact h
  case ep q es j off =>
    by_cases hq : q = p
    · subst hq; simp only [scrubIt, if_true]
      cases d <;> simp only [den] at h <;> exact dead _ h.2 rfl
    · simp only [scrubIt, hq, if_false]
      cases d <;> simp only [den, kx, hq, if_false] at h ⊢ <;> exact h
  case mp q =>
    by_cases hq : q = p
    · subst hq; simp only [scrubIt, if_true]
      cases d <;> simp only [den] at h <;> exact dead _ h.2 rfl
    · simp only [scrubIt, hq, if_false]
      cases d <;> simp only [den, kx, hq, if_false] at h ⊢ <;> exact h
  case clo f c =>
    by_cases hq : c.any (fun a => a.1 == p) = true
    · simp only [scrubIt, hq, if_true]
      cases d <;> simp only [den] at h <;> exact dead _ h.2 rfl
    · simp only [scrubIt, hq]
      have hne : ∀ a ∈ c, a.1 ≠ p := by
        intro a ha e
        exact hq (List.any_eq_true.2 ⟨a, ha, by simp [e]⟩)
      cases d <;> simp only [den, kx] at h ⊢ <;> exact ⟨fun a ha => by simp only [hne a ha, if_false]; exact h.1 a ha, h.2⟩
  all_goals exact hext d _ vs (by simp [scrubIt]) (by simp [scrubIt]) (by simp [scrubIt]) (by simp [scrubIt]) (by simp [scrubIt]) h

theorem scrub_cat {x : Ctx} (p d : Nat) : ∀ {l : List It} {cs : List Value}, catL (den x d) l cs → catL (den (kx x (some p)) d) (l.map (scrubIt p)) cs
  | [], _, h => h
  | _ :: _, _, ⟨c1, c2, e, h1, h2⟩ => ⟨c1, c2, e, scrub_den p d _ _ h1, scrub_cat p d h2⟩

theorem scrub_size (p : Nat) (i : It) (h : i.size = 1) : (scrubIt p i).size = 1 := by
  cases i <;> simp only [scrubIt] <;> first | exact h | (split <;> rfl)

theorem scrub_V {x : Ctx} (p : Nat) {a : V1} {v : Value} (h : denV x a v) : denV (kx x (some p)) (scrubV p a) v := by
  cases a with
  | c i => obtain ⟨h1, d, h2⟩ := h; exact ⟨scrub_size p i h1, d, scrub_den p _ _ _ h2⟩
  | a l => obtain ⟨cs, e, hc⟩ := h; obtain ⟨d, hc⟩ := catL_ex hc; exact ⟨cs, e, catL_D (scrub_cat p d hc)⟩

theorem scrub_S {x : Ctx} (p : Nat) {s : SV} {v : Value} (h : denS x s v) : denS (kx x (some p)) (scrubS p s) v := by
  cases s with
  | v a => exact scrub_V p h
  | t l =>
    obtain ⟨vs, e, hc⟩ := h
    refine ⟨vs, e, ?_⟩
    clear e
    induction hc with
    | nil => exact .nil
    | cons h1 _ ih => exact .cons (scrub_V p h1) ih
  | top => trivial

/-! The state of a call. -/
structure Base (w0 : World) (F0 K : Nat → Prop) (x : Ctx) : Prop where
  f0 : ∀ b, F0 b → x.F b
  fn : ∀ b, x.F b → F0 b ∨ w0.heap.size ≤ b
  size : w0.heap.size ≤ x.w.heap.size
  keep : ∀ b, b < w0.heap.size → K b → x.w.heap[b]? = w0.heap[b]?
  ownK : ∀ p, x.k p = .real → x.β p < w0.heap.size → ¬ K (x.β p)
  os : x.w.os = w0.os
  tape : x.w.tape = w0.tape
  output : x.w.output = w0.output

/-- Callers that wait: what their slots hold. -/
inductive Frs (x : Ctx) : List ((Nat → SV) × Nat) → List Act → Prop
  | nil : Frs x [] []
  | cons {tS : Nat → SV} {nt : Nat} {l : List ((Nat → SV) × Nat)} {a : Act} {as : List Act} : a.defers = [] → a.tmps.size = nt → (∀ t, denS x (tS t) (a.tmps.getD t undef)) → Frs x l as → Frs x ((tS, nt) :: l) (a :: as)

theorem Frs.ext {x y : Ctx} (h : Ext x y) {l : List ((Nat → SV) × Nat)} {as : List Act} (hf : Frs x l as) : Frs y l as := by
  induction hf with
  | nil => exact .nil
  | cons h1 h2 h3 _ ih => exact .cons h1 h2 (fun t => denS_ext h (h3 t)) ih

theorem Frs.kill {x : Ctx} (p : Option Nat) {l : List ((Nat → SV) × Nat)} {as : List Act} (hf : Frs x l as) : Frs (kx x p) (killF l p) as := by
  cases p with
  | none => exact hf
  | some p =>
    induction hf with
    | nil => exact .nil
    | cons h1 h2 h3 _ ih => exact .cons h1 h2 (fun t => scrub_S p (h3 t)) ih

structure Sim (w0 : World) (F0 K : Nat → Prop) (as : List Act) (σ : St) (x : Ctx) (a : Act) : Prop where
  defers : a.defers = []
  nt : a.tmps.size = σ.nt
  t : ∀ t, denS x (σ.t t) (a.tmps.getD t undef)
  mem : Mem x σ.m
  base : Base w0 F0 K x
  frs : Frs x σ.fr as

theorem Base.tr {w0 : World} {F0 K : Nat → Prop} {x y : Ctx} {kill : Option Nat} {m' : Nat → Option En} (h : Base w0 F0 K x) (ht : Tr x kill y m') : Base w0 F0 K y where
  f0 b hb := by
    have := (ht.ext.ro b (by cases kill <;> exact h.f0 b hb)).1
    exact this
  fn b hb := by
    rcases ht.fnew b hb with h1 | h1
    · exact h.fn b h1
    · right; exact Nat.le_trans h.size h1
  size := Nat.le_trans h.size (by have := ht.ext.size; cases kill <;> exact this)
  keep b hb hk := by
    rw [← h.keep b hb hk]
    exact ht.blk b (Nat.lt_of_lt_of_le hb h.size) (fun p hp e => h.ownK p hp (e ▸ hb) (e ▸ hk))
  ownK p hp hb := by
    rcases ht.fresh p hp with ⟨h1, h2⟩ | h1
    · rw [h2] at hb ⊢; exact h.ownK p h1 hb
    · have := h.size; omega
  os := ht.os.trans h.os
  tape := ht.tape.trans h.tape
  output := ht.output.trans h.output

theorem getD_set (t : Array Value) (d : Nat) (v : Value) (e : Nat) (hd : d < t.size) : (t.setIfInBounds d v).getD e undef = if e = d then v else t.getD e undef := by
  by_cases h : e = d
  · subst h; simp [hd]
  · simp [h, Array.getElem?_setIfInBounds_ne (Ne.symm h)]

/-- After an operation. -/
theorem Sim.step {w0 : World} {F0 K : Nat → Prop} {as : List Act} {σ : St} {x y : Ctx} {a : Act} {kill : Option Nat} {m' : Nat → Option En} (h : Sim w0 F0 K as σ x a) (ht : Tr x kill y m') {dst : Option Nat} {sv : SV} {v : Value} {nx : Nat}
    (hd : ∀ d, dst = some d → d < σ.nt ∧ denS y sv v) :
    Sim w0 F0 K as { σ with t := match dst with | some d => setT (killT σ.t kill) d sv | none => killT σ.t kill, m := m', nx := nx, fr := killF σ.fr kill } y (a.put dst v) := by
  have hk : ∀ t, denS y (killT σ.t kill t) (a.tmps.getD t undef) := by
    intro t
    refine denS_ext ht.ext ?_
    cases kill with
    | none => exact h.t t
    | some p => exact scrub_S p (h.t t)
  cases dst with
  | none => exact ⟨h.defers, h.nt, hk, ht.mem, h.base.tr ht, (h.frs.kill kill).ext ht.ext⟩
  | some d =>
    obtain ⟨hd1, hd2⟩ := hd d rfl
    refine ⟨h.defers, by simp [Act.put, h.nt], fun t => ?_, ht.mem, h.base.tr ht, (h.frs.kill kill).ext ht.ext⟩
    simp only [Act.put]
    rw [getD_set _ _ _ _ (by rw [h.nt]; exact hd1)]
    by_cases he : t = d
    · subst he; simp only [setT, if_true]; exact hd2
    · simp only [setT, he, if_false]; exact hk t

end Go.Proofs.Ytlfllehomhcbfaa
