/- What a symbolic value stands for in a world, and that it still does when the world grows. No conditions. -/
import Derived.Test.YtlfllehomhcbfaaFwA
namespace Go.Proofs.Ytlfllehomhcbfaa

/-- Cells that are read and never written: from a place on. -/
def rd (w : World) (F : Nat → Prop) (b o : Nat) (cs : List Value) : Prop :=
  F b ∧ ∀ (j : Nat) (v : Value), cs[j]? = some v → w.cell? ⟨b, o + j, none⟩ = some v

/-- Parts, one behind the other. -/
def catL (D : It → List Value → Prop) : List It → List Value → Prop
  | [], cs => cs = []
  | i :: l, cs => ∃ c1 c2, cs = c1 ++ c2 ∧ D i c1 ∧ catL D l c2

/-- What is known of a position: nothing, a block, or an empty slice without one. -/
inductive Kd where
  | no | real | nil
  deriving DecidableEq

structure Ctx where
  w : World
  F : Nat → Prop
  k : Nat → Kd
  β : Nat → Nat

/-- A part stands for these cells. -/
def den (x : Ctx) : Nat → It → List Value → Prop
  | _, .int k n, vs => vs = [.int k n]
  | _, .bool b, vs => vs = [.bool b]
  | _, .lit b, vs => vs = [.bool b]
  | _, .ptr p off, vs => x.k p = .real ∧ vs = [.pointer (some ⟨x.β p, off, none⟩)]
  | _, .ep p es i off, vs => x.k p = .real ∧ vs = [.pointer (some ⟨x.β p, i * es + off, none⟩)]
  | _, .slc p off len es, vs =>
    (x.k p = .nil ∧ off = 0 ∧ len = 0 ∧ vs = [.slice none 0 0]) ∨
    (x.k p = .real ∧ ∃ cap cs ty, vs = [.slice (some ⟨x.β p, off, none⟩) len cap] ∧ len ≤ cap ∧ cap ≤ maxLen ∧ x.w.heap[x.β p]? = some (.cells cs ty (0, 0)) ∧ off + cap * es ≤ cs.size)
  | _, .ob o, vs => vs = o.cells
  | _, .val v, vs => vs = [v] ∧ v.oneCell' = true
  | _, .dead, vs => ∃ v : Value, vs = [v] ∧ v.oneCell' = true
  | _, .clo f caps, vs => (∀ c ∈ caps, x.k c.1 = .real) ∧ vs = [.func (.func f) #[] (caps.map fun c => Value.pointer (some ⟨x.β c.1, c.2, none⟩)).toArray]
  | _, .mp p, vs => x.k p = .real ∧ vs = [.map (some (x.β p))]
  | 0, .sl _, _ => False
  | 0, .rp _ _ _, _ => False
  | d + 1, .sl q, vs =>
    (∃ a cap, vs = [.slice a 0 cap] ∧ q.n = 0) ∨
    (∃ b o cap, vs = [.slice (some ⟨b, o, none⟩) q.n cap] ∧ q.n ≤ cap ∧ q.n ≤ maxLen ∧ ∀ i, i < q.n → ∃ cs, catL (den x d) (q.get i) cs ∧ rd x.w x.F b (o + i * q.es) cs)
  | d + 1, .rp q i off, vs => ∃ b o cs, vs = [.pointer (some ⟨b, o + off, none⟩)] ∧ i < q.n ∧ catL (den x d) (q.get i) cs ∧ rd x.w x.F b o cs

/-- However deep slices lie in slices. -/
def Ctx.D (x : Ctx) (i : It) (vs : List Value) : Prop := ∃ d, den x d i vs

def denV (x : Ctx) : V1 → Value → Prop
  | .c i, v => i.size = 1 ∧ x.D i [v]
  | .a l, v => ∃ cs, v = .agg cs.toArray ∧ catL x.D l cs

inductive denVs (x : Ctx) : List V1 → List Value → Prop
  | nil : denVs x [] []
  | cons {a v l vs} : denV x a v → denVs x l vs → denVs x (a :: l) (v :: vs)

def denS (x : Ctx) : SV → Value → Prop
  | .v a, v => denV x a v
  | .t l, v => ∃ vs, v = .tuple vs.toArray ∧ denVs x l vs
  | .top, _ => True

/-- What an own block holds. -/
def denEn (x : Ctx) : En → List Value → Prop
  | .fl l, cs => catL x.D l cs
  | .sq q, cs => q.n * q.es ≤ cs.length ∧ ∀ i, i < q.n → ∃ c, catL x.D (q.get i) c ∧ ∀ (j : Nat) (v : Value), c[j]? = some v → cs[i * q.es + j]? = some v

/-! Lengths. -/
theorem ob_len (o : Ob) : o.cells.length = o.k := by simp [Ob.cells]

theorem den_len {x : Ctx} {d : Nat} {i : It} {vs : List Value} (h : den x d i vs) : vs.length = i.size := by
  cases i <;> cases d <;> simp only [den] at h <;> simp only [It.size]
  all_goals first
    | (subst h; simp [ob_len]; done)
    | (obtain ⟨h1, rfl⟩ := h; rfl)
    | (obtain ⟨rfl, h1⟩ := h; rfl)
    | (obtain ⟨v, rfl, _⟩ := h; rfl)
    | (rcases h with ⟨_, _, _, rfl⟩ | ⟨_, _, _, _, rfl, _⟩ <;> rfl)
    | (rcases h with ⟨_, _, rfl, _⟩ | ⟨_, _, _, rfl, _⟩ <;> rfl)
    | (obtain ⟨_, _, _, rfl, _⟩ := h; rfl)
    | exact h.elim

theorem catL_len {x : Ctx} {d : Nat} : ∀ {l : List It} {cs : List Value}, catL (den x d) l cs → cs.length = itsSize l
  | [], cs, h => by simp only [catL] at h; subst h; rfl
  | i :: l, cs, h => by
    obtain ⟨c1, c2, rfl, h1, h2⟩ := h
    simp [itsSize, den_len h1, catL_len h2]

/-! Deeper. -/
theorem catL_mono {D D' : It → List Value → Prop} (h : ∀ i vs, D i vs → D' i vs) : ∀ {l : List It} {cs : List Value}, catL D l cs → catL D' l cs
  | [], _, hc => hc
  | _ :: _, _, ⟨c1, c2, e, h1, h2⟩ => ⟨c1, c2, e, h _ _ h1, catL_mono h h2⟩

theorem den_up {x : Ctx} : ∀ (d : Nat) (i : It) (vs : List Value), den x d i vs → den x (d + 1) i vs := by
  intro d
  induction d with
  | zero => intro i vs h; cases i <;> simp only [den] at h ⊢ <;> first | exact h | exact h.elim
  | succ d ih =>
    intro i vs h
    cases i <;> simp only [den] at h ⊢
    all_goals first
      | exact h
      | (rcases h with h | ⟨b, o, cap, e, hc, hm, hr⟩
         · exact .inl h
         · refine .inr ⟨b, o, cap, e, hc, hm, fun i hi => ?_⟩
           obtain ⟨cs, h1, h2⟩ := hr i hi
           exact ⟨cs, catL_mono ih h1, h2⟩)
      | (obtain ⟨b, o, cs, e, hi, h1, h2⟩ := h
         exact ⟨b, o, cs, e, hi, catL_mono ih h1, h2⟩)

theorem den_le {x : Ctx} {d d' : Nat} (h : d ≤ d') {i : It} {vs : List Value} (hd : den x d i vs) : den x d' i vs := by
  induction h with
  | refl => exact hd
  | step _ ih => exact den_up _ _ _ ih

theorem catL_D {x : Ctx} {d : Nat} {l : List It} {cs : List Value} (h : catL (den x d) l cs) : catL x.D l cs := catL_mono (fun _ _ h => ⟨d, h⟩) h

theorem catL_ex {x : Ctx} : ∀ {l : List It} {cs : List Value}, catL x.D l cs → ∃ d, catL (den x d) l cs
  | [], _, h => ⟨0, h⟩
  | _ :: _, _, ⟨c1, c2, e, ⟨d, h1⟩, h2⟩ => by
    obtain ⟨d', h2⟩ := catL_ex h2
    exact ⟨max d d', c1, c2, e, den_le (Nat.le_max_left _ _) h1, catL_mono (fun _ _ h => den_le (Nat.le_max_right _ _) h) h2⟩

theorem D_len {x : Ctx} {i : It} {vs : List Value} (h : x.D i vs) : vs.length = i.size := by obtain ⟨d, h⟩ := h; exact den_len h

/-! The world grows. -/
/-- From one context to another: what is read is as it was; own blocks keep their sizes. -/
structure Ext (x y : Ctx) : Prop where
  size : x.w.heap.size ≤ y.w.heap.size
  ro : ∀ b, x.F b → y.F b ∧ y.w.heap[b]? = x.w.heap[b]?
  k : ∀ p, x.k p ≠ .no → y.k p = x.k p
  β : ∀ p, x.k p = .real → y.β p = x.β p
  own : ∀ p, x.k p = .real → ∀ cs ty, x.w.heap[x.β p]? = some (.cells cs ty (0, 0)) → ∃ cs', y.w.heap[x.β p]? = some (.cells cs' ty (0, 0)) ∧ cs'.size = cs.size

theorem Ext.refl (x : Ctx) : Ext x x := ⟨Nat.le_refl _, fun _ h => ⟨h, rfl⟩, fun _ _ => rfl, fun _ _ => rfl, fun _ _ cs _ h => ⟨cs, h, rfl⟩⟩

theorem Ext.trans {x y z : Ctx} (h : Ext x y) (g : Ext y z) : Ext x z where
  size := Nat.le_trans h.size g.size
  ro b hb := ⟨(g.ro b (h.ro b hb).1).1, (g.ro b (h.ro b hb).1).2.trans (h.ro b hb).2⟩
  k p hp := (g.k p (by rw [h.k p hp]; exact hp)).trans (h.k p hp)
  β p hp := (g.β p ((h.k p (by simp [hp])).trans hp)).trans (h.β p hp)
  own p hp cs ty hc := by
    obtain ⟨cs1, h1, s1⟩ := h.own p hp cs ty hc
    have hk := (h.k p (by simp [hp])).trans hp
    have := g.own p hk cs1 ty (by rw [h.β p hp]; exact h1)
    rw [h.β p hp] at this
    obtain ⟨cs2, h2, s2⟩ := this
    exact ⟨cs2, h2, s2.trans s1⟩

theorem cell_block {w w' : World} {b : Nat} (h : w'.heap[b]? = w.heap[b]?) (o : Nat) : w'.cell? ⟨b, o, none⟩ = w.cell? ⟨b, o, none⟩ := by simp [World.cell?, h]

theorem rd_ext {x y : Ctx} (h : Ext x y) {b o : Nat} {cs : List Value} (hr : rd x.w x.F b o cs) : rd y.w y.F b o cs :=
  ⟨(h.ro b hr.1).1, fun j v hv => by rw [cell_block (h.ro b hr.1).2]; exact hr.2 j v hv⟩

theorem den_ext {x y : Ctx} (h : Ext x y) : ∀ (d : Nat) (i : It) (vs : List Value), den x d i vs → den y d i vs := by
  intro d
  induction d with
  | zero =>
    intro i vs hi
    cases i <;> simp only [den] at hi ⊢
    all_goals first
      | exact hi
      | (obtain ⟨h1, h2⟩ := hi; exact ⟨(h.k _ (by simp [h1])).trans h1, by rw [h.β _ h1]; exact h2⟩)
      | (rcases hi with ⟨h1, h2⟩ | ⟨h1, cap, cs, ty, e, hl, hm, hc, hs⟩
         · exact .inl ⟨(h.k _ (by simp [h1])).trans h1, h2⟩
         · obtain ⟨cs', hc', hs'⟩ := h.own _ h1 cs ty hc
           exact .inr ⟨(h.k _ (by simp [h1])).trans h1, cap, cs', ty, by rw [h.β _ h1]; exact e, hl, hm, by rw [h.β _ h1]; exact hc', by omega⟩)
      | (obtain ⟨h1, h2⟩ := hi
         refine ⟨fun c hc => (h.k _ (by simp [h1 c hc])).trans (h1 c hc), ?_⟩
         rw [h2]
         congr 3
         exact List.map_congr_left fun c hc => by rw [h.β _ (h1 c hc)])
  | succ d ih =>
    intro i vs hi
    cases i <;> simp only [den] at hi ⊢
    all_goals first
      | exact hi
      | (obtain ⟨h1, h2⟩ := hi; exact ⟨(h.k _ (by simp [h1])).trans h1, by rw [h.β _ h1]; exact h2⟩)
      | (rcases hi with ⟨h1, h2⟩ | ⟨h1, cap, cs, ty, e, hl, hm, hc, hs⟩
         · exact .inl ⟨(h.k _ (by simp [h1])).trans h1, h2⟩
         · obtain ⟨cs', hc', hs'⟩ := h.own _ h1 cs ty hc
           exact .inr ⟨(h.k _ (by simp [h1])).trans h1, cap, cs', ty, by rw [h.β _ h1]; exact e, hl, hm, by rw [h.β _ h1]; exact hc', by omega⟩)
      | (obtain ⟨h1, h2⟩ := hi
         refine ⟨fun c hc => (h.k _ (by simp [h1 c hc])).trans (h1 c hc), ?_⟩
         rw [h2]
         congr 3
         exact List.map_congr_left fun c hc => by rw [h.β _ (h1 c hc)])
      | (rcases hi with hi | ⟨b, o, cap, e, hc, hm, hr⟩
         · exact .inl hi
         · refine .inr ⟨b, o, cap, e, hc, hm, fun i hi => ?_⟩
           obtain ⟨cs, h1, h2⟩ := hr i hi
           exact ⟨cs, catL_mono ih h1, rd_ext h h2⟩)
      | (obtain ⟨b, o, cs, e, hi, h1, h2⟩ := hi
         exact ⟨b, o, cs, e, hi, catL_mono ih h1, rd_ext h h2⟩)

theorem D_ext {x y : Ctx} (h : Ext x y) (i : It) (vs : List Value) (hd : x.D i vs) : y.D i vs := by
  obtain ⟨d, hd⟩ := hd; exact ⟨d, den_ext h d i vs hd⟩

theorem denV_ext {x y : Ctx} (h : Ext x y) {a : V1} {v : Value} (hv : denV x a v) : denV y a v := by
  cases a with
  | c i => exact ⟨hv.1, D_ext h _ _ hv.2⟩
  | a l => obtain ⟨cs, e, hc⟩ := hv; exact ⟨cs, e, catL_mono (D_ext h) hc⟩

theorem denVs_ext {x y : Ctx} (h : Ext x y) {l : List V1} {vs : List Value} (hv : denVs x l vs) : denVs y l vs := by
  induction hv with
  | nil => exact .nil
  | cons h1 _ ih => exact .cons (denV_ext h h1) ih

theorem denS_ext {x y : Ctx} (h : Ext x y) {s : SV} {v : Value} (hv : denS x s v) : denS y s v := by
  cases s with
  | v a => exact denV_ext h hv
  | t l => obtain ⟨vs, e, hc⟩ := hv; exact ⟨vs, e, denVs_ext h hc⟩
  | top => trivial

theorem denEn_ext {x y : Ctx} (h : Ext x y) {e : En} {cs : List Value} (hv : denEn x e cs) : denEn y e cs := by
  cases e with
  | fl l => exact catL_mono (D_ext h) hv
  | sq q => exact ⟨hv.1, fun i hi => let ⟨c, h1, h2⟩ := hv.2 i hi; ⟨c, catL_mono (D_ext h) h1, h2⟩⟩

end Go.Proofs.Ytlfllehomhcbfaa
