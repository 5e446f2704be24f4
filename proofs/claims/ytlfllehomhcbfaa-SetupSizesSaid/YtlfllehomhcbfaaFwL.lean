/- A block put or moved; rows of elements as cells; slices made, filled and appended to. No conditions. -/
import Derived.Test.YtlfllehomhcbfaaFwK
import Derived.Laws.MakeOwn
import Derived.Laws.AppendOwn
namespace Go.Proofs.Ytlfllehomhcbfaa

def putCtx (x : Ctx) (p : Nat) (w' : World) (kd : Kd) (g : Nat) : Ctx :=
  { w := w', F := x.F, k := fun q => if q = p then kd else x.k q, β := fun q => if q = p then g else x.β q }

theorem get_scrub (p : Nat) (q : Sq) (i : Nat) : (q.get i).map (scrubIt p) = q.get i := by
  have flat : ∀ (l : List (Fp × Fp × Fp)) (n k : Nat), (flatPt l k n).map (scrubIt p) = flatPt l k n := by
    intro l n
    induction n with
    | zero => intro k; rfl
    | succ n ih => intro k; simp only [flatPt, List.map_cons, ih]; rfl
  cases q
  case ptt l => exact flat _ _ _
  all_goals rfl

theorem get_kx {x : Ctx} (p : Nat) {q : Sq} {i : Nat} {c : List Value} (h : catL x.D (q.get i) c) : catL (kx x (some p)).D (q.get i) c := by
  obtain ⟨d, hc⟩ := catL_ex h
  have := scrub_cat p d hc
  rw [get_scrub] at this
  exact catL_D this

theorem scrub_En {x : Ctx} (p : Nat) {e : En} {cs : List Value} (h : denEn x e cs) : denEn (kx x (some p)) (scrubEn p e) cs := by
  cases e with
  | fl l => obtain ⟨d, hc⟩ := catL_ex h; exact catL_D (scrub_cat p d hc)
  | sq q =>
    refine ⟨h.1, fun i hi => ?_⟩
    obtain ⟨c, hc, hj⟩ := h.2 i hi
    exact ⟨c, get_kx p hc, hj⟩

theorem kx_no {x : Ctx} {p : Nat} (h : x.k p = .no) : kx x (some p) = x := by
  unfold kx
  cases x with
  | mk w F k β =>
    simp only [Ctx.mk.injEq, true_and, and_true]
    funext q
    by_cases hq : q = p
    · subst hq; simp only [if_true]; exact h.symm
    · simp [hq]

theorem tr_put {x : Ctx} {m : Nat → Option En} (h : Mem x m) {p : Nat} {kill : Option Nat} (hk : kill = some p ∨ (kill = none ∧ m p = none)) {w' : World} {kd : Kd} (hkd : kd ≠ .no) {g : Nat} {e : En}
    (hos : w'.os = x.w.os) (htape : w'.tape = x.w.tape) (hout : w'.output = x.w.output) (hsz : x.w.heap.size ≤ w'.heap.size)
    (hblk : ∀ b, b < x.w.heap.size → (x.k p = .real → x.β p ≠ b) → w'.heap[b]? = x.w.heap[b]?)
    (hg : kd = .real → (x.k p = .real ∧ g = x.β p) ∨ x.w.heap.size ≤ g)
    (hnil : kd = .nil → ∃ q, e = .sq q ∧ q.n = 0)
    (hent : kd = .real → ∃ cs ty, w'.heap[g]? = some (.cells cs ty (0, 0)) ∧ denEn (kx x (some p)) e cs.toList) :
    Tr x kill (putCtx x p w' kd g) (setsM (killM m kill) [(p, e)]) := by
  have hx : Ext (kx x (some p)) (putCtx x p w' kd g) := by
    refine ⟨hsz, fun b hb => ⟨hb, hblk b (h.fw b hb) (fun hr e => h.own p hr (e ▸ hb))⟩, fun q hq => ?_, fun q hq => ?_, fun q hq cs ty hc => ?_⟩
    · have : q ≠ p := fun e => hq (by simp [kx, e])
      simp [putCtx, kx, this]
    · have : q ≠ p := fun e => by simp [kx, e] at hq
      simp [putCtx, kx, this]
    · have hqp : q ≠ p := fun e => by simp [kx, e] at hq
      have hq' : x.k q = .real := by simpa [kx, hqp] using hq
      exact ⟨cs, (hblk _ (h.lt hq') (fun hr e => hqp (h.inj q p hq' hr e.symm))).trans hc, rfl⟩
  have hx' : Ext (kx x kill) (putCtx x p w' kd g) := by
    rcases hk with rfl | ⟨rfl, hm⟩
    · exact hx
    · rw [kx_no ((h.dom p).1 hm)] at hx; exact hx
  have hkill : ∀ q, q ≠ p → ∀ e', killM m kill q = some e' → ∃ e0, m q = some e0 ∧ (e' = e0 ∨ e' = scrubEn p e0) ∧ (∀ cs, denEn x e0 cs → denEn (kx x kill) e' cs) := by
    intro q hq e' he
    rcases hk with rfl | ⟨rfl, hm⟩
    · simp only [killM, Option.map_eq_some_iff] at he
      obtain ⟨e0, h0, rfl⟩ := he
      exact ⟨e0, h0, .inr rfl, fun cs hc => scrub_En p hc⟩
    · exact ⟨e', he, .inl rfl, fun cs hc => hc⟩
  refine ⟨hx', ?_, hos, htape, hout, fun b hb hq => hblk b hb (fun hr => hq p hr), fun q hq => ?_, fun b hb => .inl hb⟩
  · rw [setsM_one]
    refine ⟨fun q => ?_, fun q l hq => ?_, fun q s hq hn => ?_, fun q e' hq hr => ?_, fun q q' hq hq' he => ?_, fun q hq => ?_, fun b hb => Nat.lt_of_lt_of_le (h.fw b hb) hsz⟩
    · by_cases hqp : q = p
      · simp [hqp, putCtx, hkd]
      · simp only [putCtx, hqp, if_false]
        rw [← h.dom q]
        rcases hk with rfl | ⟨rfl, hm⟩ <;> simp [killM]
    · by_cases hqp : q = p
      · simp only [hqp, if_true, Option.some.injEq] at hq
        simp only [putCtx, hqp, if_true]
        cases kd with
        | no => exact absurd rfl hkd
        | real => rfl
        | nil => obtain ⟨q', hq', _⟩ := hnil rfl; rw [hq] at hq'; cases hq'
      · simp only [hqp, if_false] at hq
        simp only [putCtx, hqp, if_false]
        obtain ⟨e0, h0, he, _⟩ := hkill q hqp _ hq
        cases e0 with
        | fl l0 => exact h.fl q l0 h0
        | sq s => rcases he with he | he <;> cases he
    · by_cases hqp : q = p
      · simp only [hqp, if_true, Option.some.injEq] at hq
        simp only [putCtx, hqp, if_true] at hn
        obtain ⟨q', hq', h0⟩ := hnil hn
        rw [hq] at hq'; cases hq'; exact h0
      · simp only [hqp, if_false] at hq
        simp only [putCtx, hqp, if_false] at hn
        obtain ⟨e0, h0, he, _⟩ := hkill q hqp _ hq
        cases e0 with
        | fl l0 => rcases he with he | he <;> cases he
        | sq s0 => rcases he with he | he <;> (cases he; exact h.nil q _ h0 hn)
    · by_cases hqp : q = p
      · simp only [hqp, if_true, Option.some.injEq] at hq
        subst hq
        simp only [putCtx, hqp, if_true] at hr
        obtain ⟨cs, ty, hc, hd⟩ := hent hr
        exact ⟨cs, ty, by simp only [putCtx, hqp, if_true]; exact hc, denEn_ext hx hd⟩
      · simp only [hqp, if_false] at hq
        simp only [putCtx, hqp, if_false] at hr
        obtain ⟨e0, h0, _, hd⟩ := hkill q hqp _ hq
        obtain ⟨cs, ty, hc, hd0⟩ := h.ent q e0 h0 hr
        refine ⟨cs, ty, ?_, denEn_ext hx' (hd _ hd0)⟩
        simp only [putCtx, hqp, if_false]
        exact (hblk _ (h.lt hr) (fun hr' e => hqp (h.inj q p hr hr' e.symm))).trans hc
    · by_cases hqp : q = p <;> by_cases hqp' : q' = p
      · rw [hqp, hqp']
      · simp only [putCtx, hqp, hqp', if_true, if_false] at he hq hq'
        rcases hg hq with ⟨hr, hgb⟩ | hgb
        · exact absurd (h.inj q' p hq' hr (by rw [← hgb, ← he])) hqp'
        · have := h.lt hq'; omega
      · simp only [putCtx, hqp, hqp', if_true, if_false] at he hq hq'
        rcases hg hq' with ⟨hr, hgb⟩ | hgb
        · exact absurd (h.inj q p hq hr (by rw [← hgb, he])) hqp
        · have := h.lt hq; omega
      · simp only [putCtx, hqp, hqp', if_false] at he hq hq'
        exact h.inj q q' hq hq' he
    · by_cases hqp : q = p
      · simp only [putCtx, hqp, if_true] at hq ⊢
        rcases hg hq with ⟨hr, hgb⟩ | hgb
        · rw [hgb]; exact h.own p hr
        · intro hF; have := h.fw _ hF; omega
      · simp only [putCtx, hqp, if_false] at hq ⊢; exact h.own q hq
  · by_cases hqp : q = p
    · simp only [putCtx, hqp, if_true] at hq ⊢
      rcases hg hq with ⟨hr, hgb⟩ | hgb
      · exact .inl ⟨hr, hgb⟩
      · exact .inr hgb
    · simp only [putCtx, hqp, if_false] at hq ⊢; exact .inl ⟨hq, trivial⟩

/-! Elements as cells, one behind the other. -/
theorem flat_rows {R : Nat → List Value → Prop} {es : Nat} : ∀ (n : Nat), (∀ i, i < n → ∃ cs, cs.length = es ∧ R i cs) →
    ∃ news : List Value, news.length = n * es ∧ (∀ i, i < n → ∃ cs, R i cs ∧ ∀ (j : Nat) (v : Value), cs[j]? = some v → news[i * es + j]? = some v) ∧
      ∀ (j : Nat) (v : Value), news[j]? = some v → ∃ i k cs, i < n ∧ R i cs ∧ cs[k]? = some v ∧ j = i * es + k
  | 0, _ => ⟨[], by simp, fun i hi => absurd hi (Nat.not_lt_zero i), fun j v h => by simp at h⟩
  | n + 1, h => by
    obtain ⟨news, hl, h1, h2⟩ := flat_rows n (fun i hi => h i (by omega))
    obtain ⟨cs, hc, hR⟩ := h n (Nat.lt_succ_self n)
    refine ⟨news ++ cs, by rw [List.length_append, hl, hc, Nat.add_mul, Nat.one_mul], fun i hi => ?_, fun j v hv => ?_⟩
    · by_cases hin : i = n
      · subst hin
        refine ⟨cs, hR, fun j v hv => ?_⟩
        rw [← hl, List.getElem?_append_right (Nat.le_add_right _ _), Nat.add_sub_cancel_left]; exact hv
      · obtain ⟨c, hRc, hj⟩ := h1 i (by omega)
        refine ⟨c, hRc, fun j v hv => ?_⟩
        have := hj j v hv
        have hlt : i * es + j < news.length := by
          rcases Nat.lt_or_ge (i * es + j) news.length with hh | hh
          · exact hh
          · rw [List.getElem?_eq_none hh] at this; cases this
        rw [List.getElem?_append_left hlt]; exact this
    · rcases Nat.lt_or_ge j news.length with hh | hh
      · rw [List.getElem?_append_left hh] at hv
        obtain ⟨i, k, c, hi, hRc, hk, e⟩ := h2 j v hv
        exact ⟨i, k, c, by omega, hRc, hk, e⟩
      · rw [List.getElem?_append_right hh] at hv
        exact ⟨n, j - news.length, cs, Nat.lt_succ_self n, hR, hv, by omega⟩

/-- What a slice holds, as cells. -/
structure Src (x : Ctx) (q : Sq) (v : Value) : Prop where
  ex : ∃ (a : Option Addr) (cap : Nat) (news : List Value), v = .slice a q.n cap ∧ news.length = q.n * q.es ∧ (∀ u ∈ news, u.oneCell' = true) ∧ (∀ i, i < q.n → ∃ c, catL x.D (q.get i) c ∧ ∀ (j : Nat) (u : Value), c[j]? = some u → news[i * q.es + j]? = some u) ∧
    ((q.n = 0) ∨ ∃ b o, a = some ⟨b, o, none⟩ ∧ ∀ (j : Nat) (u : Value), news[j]? = some u → x.w.cell? ⟨b, o + j, none⟩ = some u)

section
variable {P : Program} {x : Ctx} {m m' : Nat → Option En}

theorem src_sl {q : Sq} {v : Value} (h : denS x (.v (.c (.sl q))) v) : Src x q v := by
  rcases D_sl h with ⟨a, cap, rfl, hn⟩ | ⟨b, o, cap, rfl, h1, h2, d, hel⟩
  · exact ⟨a, cap, [], by rw [hn], by simp [hn], by simp, fun i hi => by omega, .inl hn⟩
  · obtain ⟨news, hl, g1, g2⟩ := flat_rows (R := fun i cs => catL (den x d) (q.get i) cs ∧ rd x.w x.F b (o + i * q.es) cs) (es := q.es) q.n (fun i hi => by
      obtain ⟨cs, hc, hr⟩ := hel i hi
      exact ⟨cs, by rw [catL_len hc, get_size], hc, hr⟩)
    refine ⟨_, cap, news, rfl, hl, fun u hu => ?_, fun i hi => ?_, .inr ⟨b, o, rfl, fun j u hu => ?_⟩⟩
    · obtain ⟨j, hj⟩ := List.mem_iff_getElem?.1 hu
      obtain ⟨i, k, cs, hi, hR, hk, e⟩ := g2 j u hj
      exact catL_one hR.1 u (List.mem_of_getElem? hk)
    · obtain ⟨c, hR, hj⟩ := g1 i hi
      exact ⟨c, catL_D hR.1, hj⟩
    · obtain ⟨i, k, cs, hi, hR, hk, e⟩ := g2 j u hu
      have := hR.2.2 k u hk
      rw [e, ← Nat.add_assoc]; exact this

theorem src_row {q : Sq} {cs : List Value} (h : denEn x (.sq q) cs) : ∃ news : List Value, news.length = q.n * q.es ∧ (∀ u ∈ news, u.oneCell' = true) ∧ (∀ i, i < q.n → ∃ c, catL x.D (q.get i) c ∧ ∀ (j : Nat) (u : Value), c[j]? = some u → news[i * q.es + j]? = some u) ∧
    news = cs.take (q.n * q.es) := by
  have hn := h.1
  have hel : ∀ i, i < q.n → ∃ c d, catL (den x d) (q.get i) c ∧ c.length = q.es ∧ ∀ (j : Nat) (v : Value), c[j]? = some v → cs[i * q.es + j]? = some v := by
    intro i hi
    obtain ⟨c, d, hc, hl, _, hj⟩ := denEn_get h hi
    exact ⟨c, d, hc, hl, hj⟩
  obtain ⟨news, hl, g1, g2⟩ := flat_rows (R := fun i c => ∃ d, catL (den x d) (q.get i) c ∧ ∀ (j : Nat) (v : Value), c[j]? = some v → cs[i * q.es + j]? = some v) (es := q.es) q.n (fun i hi => by
    obtain ⟨c, d, hc, hl, hj⟩ := hel i hi
    exact ⟨c, hl, d, hc, hj⟩)
  have e : news = cs.take (q.n * q.es) := by
    apply List.ext_getElem?
    intro j
    by_cases hj : j < q.n * q.es
    · have hjn : j < news.length := by omega
      obtain ⟨i, k, c, hi, ⟨d, hc, hR⟩, hk, e⟩ := g2 j news[j] (by simp [hjn])
      rw [List.getElem?_take_of_lt hj, e, hR k _ hk]
      rw [← e]; simp [hjn]
    · rw [List.getElem?_eq_none (by omega), List.getElem?_eq_none (by simp; omega)]
  refine ⟨news, hl, fun u hu => ?_, fun i hi => ?_, e⟩
  · obtain ⟨j, hj⟩ := List.mem_iff_getElem?.1 hu
    obtain ⟨i, k, c, hi, ⟨d, hc, _⟩, hk, _⟩ := g2 j u hj
    exact catL_one hc u (List.mem_of_getElem? hk)
  · obtain ⟨c, ⟨d, hc, _⟩, hj⟩ := g1 i hi
    exact ⟨c, catL_D hc, hj⟩

theorem src_own (hm : Mem x m) {p off len es : Nat} {q : Sq} {v : Value} (hd : denS x (.v (.c (.slc p off len es))) v) (hq : m p = some (.sq q)) (ho : off = 0) (hl : len = q.n) : Src x q v := by
  subst ho; subst hl
  rcases D_slc hd with ⟨hk, _, h0, rfl⟩ | ⟨hk, cap, cs, ty, rfl, hlc, hcm, hcs, hfit⟩
  · exact ⟨none, 0, [], by rw [h0], by simp [h0], by simp, fun i hi => by omega, .inl h0⟩
  · obtain ⟨cs', ty', hcs', hden⟩ := hm.ent p _ hq hk
    obtain ⟨news, g1, g2, g3, g4⟩ := src_row hden
    refine ⟨_, cap, news, rfl, g1, g2, g3, .inr ⟨x.β p, 0, rfl, fun j u hu => ?_⟩⟩
    rw [Nat.zero_add, cell_at hcs']
    rw [g4, List.getElem?_take] at hu
    split at hu
    · exact hu
    · cases hu

theorem appSrc_sound (hm : Mem x m) (hsub : ∀ q e, m' q = some e → m q = some e) {e q : Sq} {s : SV} {v : Value} (he : e.n = 0) (hd : denS x s v) {obl : List Prop} (h : appSrc m' e s = some (obl, q)) (ho : AllP obl) : Src x q v := by
  unfold appSrc at h
  split at h
  · cases h; exact src_sl hd
  · cases h
    obtain ⟨rfl, _⟩ := D_val hd
    exact ⟨none, 0, [], by rw [he], by simp [he], by simp, fun i hi => by omega, .inl he⟩
  · split at h
    · rename_i hq
      split at h
      · rename_i hoff
        cases h
        exact src_own hm hd (hsub _ _ hq) hoff ho.1
      · cases h
    · cases h
  · cases h

/-- Elements of a row and of another, in a block that holds both, one behind the other. -/
theorem join_rows {y : Ctx} {q q' r : Sq} (hr : q.app q' = some r) {olds news tail : List Value} (hl : olds.length = q.n * q.es) (hl' : news.length = q'.n * q'.es)
    (h1 : ∀ i, i < q.n → ∃ c, catL y.D (q.get i) c ∧ ∀ (j : Nat) (u : Value), c[j]? = some u → olds[i * q.es + j]? = some u)
    (h2 : ∀ i, i < q'.n → ∃ c, catL y.D (q'.get i) c ∧ ∀ (j : Nat) (u : Value), c[j]? = some u → news[i * q'.es + j]? = some u) : denEn y (.sq r) (olds ++ news ++ tail) := by
  obtain ⟨g1, g2, g3, g4, g5⟩ := app_spec hr
  refine ⟨by rw [g1, g2, Nat.add_mul]; simp only [List.length_append, hl, hl', g3]; omega, fun i hi => ?_⟩
  rw [g1] at hi
  have lt_of : ∀ {l : List Value} {j : Nat} {u : Value}, l[j]? = some u → j < l.length := by
    intro l j u h
    rcases Nat.lt_or_ge j l.length with hh | hh
    · exact hh
    · rw [List.getElem?_eq_none hh] at h; cases h
  by_cases hin : i < q.n
  · obtain ⟨c, hc, hj⟩ := h1 i hin
    refine ⟨c, by rw [g4 i hin]; exact hc, fun j u hu => ?_⟩
    have := hj j u hu
    rw [g2, List.append_assoc, List.getElem?_append_left (lt_of this)]; exact this
  · obtain ⟨c, hc, hj⟩ := h2 (i - q.n) (by omega)
    have hget := g5 (i - q.n) (by omega)
    rw [show q.n + (i - q.n) = i from by omega] at hget
    refine ⟨c, by rw [hget]; exact hc, fun j u hu => ?_⟩
    have := hj j u hu
    have hidx : i * q.es + j = olds.length + ((i - q.n) * q'.es + j) := by
      have : i = q.n + (i - q.n) := by omega
      rw [hl, g3, ← Nat.add_assoc, ← Nat.add_mul, ← this]
    rw [g2, List.append_assoc, hidx, List.getElem?_append_right (Nat.le_add_right _ _), Nat.add_sub_cancel_left, List.getElem?_append_left (lt_of this)]; exact this

theorem run_room {t ty e : TypeId} {i : TypeInfo} (ht : P.underlying t = some (.slice e)) (hi : P.info? e = some i) {w : World}
    {g sLen sCap : Nat} {cur : Array Value} {ty' : TypeId} (hg : w.heap[g]? = some (.cells cur ty' (0, 0)))
    {xv : Value} {n : Nat} {news : List Value} (hn : (Builtin.lenOf xv).run P w = .ok n w) (hf : (Builtin.firstCells i.size n xv).run P w = .ok news.toArray w) (h1 : ∀ u ∈ news, u.oneCell' = true)
    (hroom : sLen + n ≤ sCap) (hfit : sLen * i.size + news.length ≤ cur.size) :
    (Builtin.append_ #[t, t] ty #[.slice (some ⟨g, 0, none⟩) sLen sCap, xv]).run P w =
      .ok (.slice (some ⟨g, 0, none⟩) (sLen + n) sCap) (w.setRow g (cur.toList.take (sLen * i.size) ++ news ++ cur.toList.drop (sLen * i.size + news.length)).toArray) := by
  have hst := run_storeCells_at P g (sLen * i.size) ty' news 0 cur w hg (by simpa using hfit) h1
  simp only [Nat.add_zero] at hst
  simp [Builtin.append_, run_underlying ht, sizeOf, typeInfo, hi, hn, hroom, hf, Addr.add_lit, hst]

/-- Appended into a new block. -/
theorem app_new (hm : Mem x m) {p : Nat} {kill : Option Nat} (hk : kill = some p ∨ (kill = none ∧ m p = none)) {q q' r : Sq} (hr : q.app q' = some r) {olds news : List Value} (hl : olds.length = q.n * q.es) (hl' : news.length = q'.n * q'.es)
    (h1 : ∀ i, i < q.n → ∃ c, catL x.D (q.get i) c ∧ ∀ (j : Nat) (u : Value), c[j]? = some u → olds[i * q.es + j]? = some u)
    (h2 : ∀ i, i < q'.n → ∃ c, catL x.D (q'.get i) c ∧ ∀ (j : Nat) (u : Value), c[j]? = some u → news[i * q'.es + j]? = some u)
    {tail : Array Value} {e : TypeId} {cap : Nat} (hc : q.n + q'.n ≤ cap) (hcm : cap ≤ maxLen) (hs : tail.size = (cap - (q.n + q'.n)) * q.es) (he : q'.es = q.es) :
    ∃ y, y.w = x.w.drew.alloc (.cells (olds.toArray ++ news.toArray ++ tail) e) ∧ Tr x kill y (setsM (killM m kill) [(p, .sq r)]) ∧
      denS y (.v (.c (.slc p 0 (q.n + q'.n) q.es))) (.slice (some ⟨x.w.heap.size, 0, none⟩) (q.n + q'.n) cap) := by
  have hnew : (x.w.drew.alloc (.cells (olds.toArray ++ news.toArray ++ tail) e)).heap[x.w.heap.size]? = some (.cells (olds.toArray ++ news.toArray ++ tail) e (0, 0)) := heap_alloc_new x.w.drew _
  refine ⟨putCtx x p (x.w.drew.alloc (.cells (olds.toArray ++ news.toArray ++ tail) e)) .real x.w.heap.size, rfl, ?_, ?_⟩
  · refine tr_put hm hk (by simp) rfl rfl rfl (by show _ ≤ (x.w.heap.push _).size; simp) (fun b hb _ => heap_alloc_le x.w.drew _ hb) (fun _ => .inr (Nat.le_refl _)) (fun h => by cases h) fun _ => ⟨_, _, hnew, ?_⟩
    have := join_rows (y := kx x (some p)) (tail := tail.toList) hr hl hl'
      (fun i hi => let ⟨c, hc, hj⟩ := h1 i hi; ⟨c, get_kx p hc, hj⟩) (fun i hi => let ⟨c, hc, hj⟩ := h2 i hi; ⟨c, get_kx p hc, hj⟩)
    simpa using this
  · refine ⟨rfl, 0, .inr ⟨by simp [putCtx], cap, _, _, by simp [putCtx], hc, hcm, by simp only [putCtx, if_true]; exact hnew, ?_⟩⟩
    simp only [Array.size_append, List.size_toArray, hl, hl', hs, he, Nat.zero_add]
    rw [← Nat.add_mul, ← Nat.add_mul]
    exact Nat.mul_le_mul_right _ (by omega)

/-- Nothing appended to nothing. -/
theorem app_nil (hm : Mem x m) {p : Nat} {kill : Option Nat} (hk : kill = some p ∨ (kill = none ∧ m p = none)) {r : Sq} (h0 : r.n = 0) {n es : Nat} (hn : n = 0) :
    ∃ y, y.w = x.w ∧ Tr x kill y (setsM (killM m kill) [(p, .sq r)]) ∧ denS y (.v (.c (.slc p 0 n es))) (.slice none 0 0) := by
  subst hn
  refine ⟨putCtx x p x.w .nil 0, rfl, ?_, rfl, 0, .inl ⟨by simp [putCtx], rfl, rfl, rfl⟩⟩
  exact tr_put hm hk (by simp) rfl rfl rfl (Nat.le_refl _) (fun b hb _ => rfl) (fun h => by cases h) (fun _ => ⟨r, rfl, h0⟩) fun h => by cases h

theorem app_room (hm : Mem x m) {p : Nat} (hkp : x.k p = .real) {q q' r : Sq} (hr : q.app q' = some r) {cur : Array Value} {ty : TypeId} (hcs : x.w.heap[x.β p]? = some (.cells cur ty (0, 0)))
    {news : List Value} (hden : denEn x (.sq q) cur.toList) (hl' : news.length = q'.n * q'.es) (he : q'.es = q.es)
    (h2 : ∀ i, i < q'.n → ∃ c, catL x.D (q'.get i) c ∧ ∀ (j : Nat) (u : Value), c[j]? = some u → news[i * q'.es + j]? = some u)
    {cap : Nat} (hc : q.n + q'.n ≤ cap) (hcm : cap ≤ maxLen) (hfit : cap * q.es ≤ cur.size) :
    ∃ y, y.w = x.w.setRow (x.β p) (cur.toList.take (q.n * q.es) ++ news ++ cur.toList.drop (q.n * q.es + news.length)).toArray ∧ Tr x (some p) y (setsM (killM m (some p)) [(p, .sq r)]) ∧
      denS y (.v (.c (.slc p 0 (q.n + q'.n) q.es))) (.slice (some ⟨x.β p, 0, none⟩) (q.n + q'.n) cap) := by
  obtain ⟨olds, g1, _, g3, g4⟩ := src_row hden
  have hfit' : q.n * q.es + news.length ≤ cur.size := by
    rw [hl', he, ← Nat.add_mul]
    exact Nat.le_trans (Nat.mul_le_mul_right _ hc) hfit
  have hnew := setRow_heap x.w (x.β p) cur (cur.toList.take (q.n * q.es) ++ news ++ cur.toList.drop (q.n * q.es + news.length)).toArray ty (0, 0) hcs
  refine ⟨putCtx x p (x.w.setRow (x.β p) (cur.toList.take (q.n * q.es) ++ news ++ cur.toList.drop (q.n * q.es + news.length)).toArray) .real (x.β p), rfl, ?_, ?_⟩
  · refine tr_put hm (.inl rfl) (by simp) rfl rfl rfl (by simp) (fun b hb hne => setRow_other _ _ _ _ (fun e => hne hkp e.symm)) (fun _ => .inl ⟨hkp, rfl⟩) (fun h => by cases h) fun _ => ⟨_, _, hnew, ?_⟩
    rw [← g4]
    exact join_rows (y := kx x (some p)) hr g1 hl' (fun i hi => let ⟨c, hc, hj⟩ := g3 i hi; ⟨c, get_kx p hc, hj⟩) (fun i hi => let ⟨c, hc, hj⟩ := h2 i hi; ⟨c, get_kx p hc, hj⟩)
  · refine ⟨rfl, 0, .inr ⟨by simp [putCtx], cap, _, _, by simp [putCtx], hc, hcm, by simp only [putCtx, if_true]; exact hnew, ?_⟩⟩
    simp only [List.size_toArray, List.length_append, List.length_take, List.length_drop, Array.length_toList]
    omega

theorem lenOf_run (a : Option Addr) (n cap : Nat) (w : World) : (Builtin.lenOf (.slice a n cap)).run P w = .ok n w := rfl

theorem appRes_sound {t e : Nat} {i ie : TyI} {q0 : Sq} (ht : TyOk P t i) (hsl : i.slc = some e) (hte : TyOk P e ie) (hq0 : ie.esq = some q0) (hm : Mem x m) (hsub : ∀ q e, m' q = some e → m q = some e)
    {p : Nat} (hp : m' p = none) {s sx : SV} {v u : Value} (hs : denS x s v) (hx : denS x sx u) {r : Res} (h : appRes m' p ie q0 s sx = some r) (ho : AllP r.obl) (hfresh : ∀ q e, (q, e) ∈ r.ups → m' q = none → m q = none) (ty : TypeId) :
    ∃ z y, (Builtin.append_ #[t, t] ty #[v, u]).run P x.w = .ok z y.w ∧ Tr x r.kill y (setsM (killM m r.kill) r.ups) ∧ denS y r.val z := by
  obtain ⟨inf, d, hinf, hdd, _, _, _, _, _, _, _, hsd, _⟩ := ht.parts
  obtain ⟨rfl, _⟩ := hsd e hsl
  obtain ⟨inf', d', hi', hd', hs', hb', _, _, ⟨z0, hz0, _, hzc, _⟩, _, _, _, _, _, hes', _⟩ := hte.parts
  obtain ⟨hes, hen⟩ := hes' q0 hq0
  have tailsz : ∀ n, (Builtin.zeroCells z0.cells n).size = n * q0.es := by intro n; rw [size_zeroCells, hzc, hes]
  have none0 : ∀ (a : Option Addr) (cap : Nat), (Builtin.append_ #[t, t] ty #[.slice none 0 0, .slice a 0 cap]).run P x.w = .ok (.slice none 0 0) x.w := by
    intro a cap
    cases a <;> simp [Builtin.append_, run_underlying hdd, sizeOf, typeInfo, hi', Builtin.lenOf, Builtin.firstCells, loadCells, loadCellsFrom]
  unfold appRes at h
  split at h
  · rename_i o q' hsrc
    split at h
    · obtain ⟨rfl, _⟩ := D_val hs
      split at h
      · rename_i rr hrr
        cases h
        obtain ⟨o1, o2, o4⟩ := ho
        have hpn : m p = none := hfresh p (.sq rr) (by simp) hp
        obtain ⟨a, cap, news, rfl, hl, h1, hel, hcell⟩ := (appSrc_sound hm hsub hen hx hsrc o4).ex
        obtain ⟨g1, g2, o3, g4, g5⟩ := app_spec hrr
        by_cases hn : q'.n = 0
        · obtain ⟨y, hyw, hT, hD⟩ := app_nil hm (p := p) (kill := none) (.inr ⟨rfl, hpn⟩) (r := rr) (by omega) (n := q'.n) (es := q0.es) hn
          refine ⟨.slice none 0 0, y, ?_, hT, hD⟩
          rw [hyw, hn]; exact none0 a cap
        · rcases hcell with h0 | ⟨b, oo, rfl, hcell⟩
          · exact absurd h0 hn
          · have hr := run_append_nil (P := P) x.w t ty e inf' z0 hdd hi' hz0 ⟨b, oo, none⟩ q'.n cap news (by rw [hl, o3, hes, hs']) (fun j v hv => by rw [Addr.add_lit]; exact hcell j v hv) (by omega) (by simp only [maxLen] at o2; omega) (by rw [hb']; omega)
            have hge := grownCap_ge x.w q'.n 0 e
            have hcm := grownCap_le_maxLen x.w q'.n 0 e o2
            obtain ⟨y, hyw, hT, hD⟩ := app_new hm (p := p) (kill := none) (.inr ⟨rfl, hpn⟩) hrr (olds := []) (news := news) (by simp [hen]) hl (fun i hi => by omega) hel (tail := Builtin.zeroCells z0.cells (grownCap x.w q'.n 0 e - q'.n)) (e := e) (cap := grownCap x.w q'.n 0 e) (by omega) hcm (by rw [tailsz, hen, Nat.zero_add]) o3
            refine ⟨.slice (some ⟨x.w.heap.size, 0, none⟩) q'.n (grownCap x.w q'.n 0 e), y, ?_, hT, ?_⟩
            · rw [hyw]; simpa using hr
            · simpa [hen] using hD
      · cases h
    · rename_i p' off len es
      split at h
      · rename_i q hq
        split at h
        · rename_i rr hrr
          split at h
          · rename_i hc
            obtain ⟨rfl, rfl, hqe⟩ := hc
            cases h
            obtain ⟨o1, o2, rfl, o7⟩ := ho
            obtain ⟨a, cap, news, rfl, hl, h1, hel, hcell⟩ := (appSrc_sound hm hsub hen hx hsrc o7).ex
            obtain ⟨g1, g2, o3, g4, g5⟩ := app_spec hrr
            rcases D_slc hs with ⟨hk, _, h0, rfl⟩ | ⟨hk, cap', cs, ty', rfl, hlc, hcm, hcs, hfit⟩
            · by_cases hn : q'.n = 0
              · obtain ⟨y, hyw, hT, hD⟩ := app_nil hm (p := p') (kill := some p') (.inl rfl) (r := rr) (by omega) (n := q.n + q'.n) (es := q.es) (by omega)
                refine ⟨.slice none 0 0, y, ?_, hT, hD⟩
                rw [hyw, hn]; exact none0 a cap
              · rcases hcell with h0 | ⟨b, oo, rfl, hcell⟩
                · exact absurd h0 hn
                · have hr := run_append_nil (P := P) x.w t ty e inf' z0 hdd hi' hz0 ⟨b, oo, none⟩ q'.n cap news (by rw [hl, o3, hqe, hes, hs']) (fun j v hv => by rw [Addr.add_lit]; exact hcell j v hv) (by omega) (by simp only [maxLen] at o2; omega)
                    (by rw [hb']; rw [h0, Nat.zero_add] at o1; omega)
                  have hge := grownCap_ge x.w q'.n 0 e
                  have hcm := grownCap_le_maxLen x.w q'.n 0 e (by omega)
                  obtain ⟨y, hyw, hT, hD⟩ := app_new hm (p := p') (kill := some p') (.inl rfl) hrr (olds := []) (news := news) (by simp [h0]) hl (fun i hi => by omega) hel (tail := Builtin.zeroCells z0.cells (grownCap x.w q'.n 0 e - q'.n)) (e := e) (cap := grownCap x.w q'.n 0 e) (by omega) hcm (by rw [tailsz, h0, Nat.zero_add, hqe]) o3
                  refine ⟨.slice (some ⟨x.w.heap.size, 0, none⟩) q'.n (grownCap x.w q'.n 0 e), y, ?_, hT, ?_⟩
                  · rw [hyw]; simpa using hr
                  · simpa [h0] using hD
            · obtain ⟨cs', ty'', hcs', hden⟩ := hm.ent p' _ (hsub _ _ hq) hk
              rw [hcs] at hcs'
              obtain ⟨rfl, rfl⟩ : cs' = cs ∧ ty'' = ty' := by simp only [Option.some.injEq, Obj.cells.injEq] at hcs'; exact ⟨hcs'.1.symm, hcs'.2.1.symm⟩
              have hlen : (Builtin.lenOf (.slice a q'.n cap)).run P x.w = .ok q'.n x.w := rfl
              have hfc : (Builtin.firstCells inf'.size q'.n (.slice a q'.n cap)).run P x.w = .ok news.toArray x.w := by
                rcases hcell with h0 | ⟨b, oo, rfl, hcell⟩
                · have : news = [] := List.eq_nil_of_length_eq_zero (by rw [hl, h0, Nat.zero_mul])
                  subst this
                  rw [h0]
                  cases a <;> simp [Builtin.firstCells, loadCells, loadCellsFrom]
                · exact run_firstCells_some (P := P) x.w inf'.size q'.n ⟨b, oo, none⟩ q'.n cap news (by rw [hl, o3, hqe, hes, hs']) (fun j v hv => by rw [Addr.add_lit]; exact hcell j v hv)
              have hfit' : cap' * q.es ≤ cs'.size := by omega
              by_cases hroom : q.n + q'.n ≤ cap'
              · have hf : q.n * inf'.size + news.length ≤ cs'.size := by
                  rw [hs', ← hes, ← hqe, hl, o3, ← Nat.add_mul]; exact Nat.le_trans (Nat.mul_le_mul_right _ hroom) hfit'
                have hr := run_room (P := P) (ty := ty) hdd hi' hcs hlen hfc h1 hroom hf
                obtain ⟨y, hyw, hT, hD⟩ := app_room hm hk hrr hcs hden hl o3 hel hroom hcm hfit'
                refine ⟨.slice (some ⟨x.β p', 0, none⟩) (q.n + q'.n) cap', y, ?_, hT, hD⟩
                rw [hyw, hr, hs', ← hes, ← hqe]
              · obtain ⟨olds, k1, k2, k3, k4⟩ := src_row hden
                have hq'0 : q'.n ≠ 0 := by omega
                rcases hcell with h0 | ⟨b, oo, rfl, hcell⟩
                · exact absurd h0 hq'0
                · have hr := run_append_grow (P := P) x.w t ty e inf' z0 hdd hi' hz0 ⟨x.β p', 0, none⟩ q.n cap' olds (by rw [k1, hqe, hes, hs'])
                    (fun j v hv => by
                      rw [Addr.add_lit, Nat.zero_add, cell_at hcs]
                      rw [k4, List.getElem?_take] at hv
                      split at hv
                      · exact hv
                      · cases hv)
                    ⟨b, oo, none⟩ q'.n cap news (by rw [hl, o3, hqe, hes, hs']) (fun j v hv => by rw [Addr.add_lit]; exact hcell j v hv) (by omega) (by simp only [maxLen] at o2; omega) (by rw [hb']; exact growslice_fits (by omega) o1)
                  have hge := grownCap_ge x.w (q.n + q'.n) cap' e
                  have hcm' := grownCap_le_maxLen x.w (q.n + q'.n) cap' e o2
                  obtain ⟨y, hyw, hT, hD⟩ := app_new hm (p := p') (kill := some p') (.inl rfl) hrr (olds := olds) (news := news) k1 hl k3 hel (tail := Builtin.zeroCells z0.cells (grownCap x.w (q.n + q'.n) cap' e - (q.n + q'.n))) (e := e) (cap := grownCap x.w (q.n + q'.n) cap' e) (by omega) hcm' (by rw [tailsz, hqe]) o3
                  exact ⟨_, y, by rw [hyw]; exact hr, hT, hD⟩
          · cases h
        · cases h
      · cases h
    · cases h
  · cases h

end
end Go.Proofs.Ytlfllehomhcbfaa
