/- Parts cut, pasted, loaded and stored; what is known of types. Lemmas for the executor's soundness; no conditions. -/
import Derived.Test.YtlfllehomhcbfaaFwE
namespace Go.Proofs.Ytlfllehomhcbfaa

theorem catL_append {D : It → List Value → Prop} : ∀ {l l' : List It} {cs cs' : List Value}, catL D l cs → catL D l' cs' → catL D (l ++ l') (cs ++ cs')
  | [], _, cs, cs', h, h' => by simp only [catL] at h; subst h; simpa using h'
  | i :: l, _, _, cs', ⟨c1, c2, e, h1, h2⟩, h' => ⟨c1, c2 ++ cs', by rw [e, List.append_assoc], h1, catL_append h2 h'⟩

theorem size_pos (i : It) : 0 < i.size := by
  cases i <;> simp only [It.size] <;> try decide
  rename_i o; cases o <;> simp [Ob.k]

section
variable {x : Ctx} {d : Nat}

theorem takeIts_den : ∀ {n : Nat} {l r : List It} {cs : List Value}, takeIts n l = some r → catL (den x d) l cs → catL (den x d) r (cs.take n) ∧ itsSize r = n
  | 0, l, r, cs, h, _ => by simp [takeIts] at h; subst h; exact ⟨by simp [catL], rfl⟩
  | n + 1, [], r, cs, h, _ => by simp [takeIts] at h
  | n + 1, i :: l, r, cs, h, hc => by
    obtain ⟨c1, c2, rfl, h1, h2⟩ := hc
    simp only [takeIts] at h
    split at h
    · rename_i hle
      simp only [Option.map_eq_some_iff] at h
      obtain ⟨r', hr, rfl⟩ := h
      have := takeIts_den hr h2
      have hl := den_len h1
      refine ⟨⟨c1, c2.take (n + 1 - i.size), ?_, h1, this.1⟩, ?_⟩
      · rw [List.take_append, hl, List.take_of_length_le (by omega)]
      · simp only [itsSize, this.2]; omega
    · cases h
termination_by _ l => l.length

theorem dropIts_den : ∀ {n : Nat} {l r : List It} {cs : List Value}, dropIts n l = some r → catL (den x d) l cs → catL (den x d) r (cs.drop n) ∧ n ≤ cs.length
  | 0, l, r, cs, h, hc => by simp [dropIts] at h; subst h; exact ⟨by simpa using hc, Nat.zero_le _⟩
  | n + 1, [], r, cs, h, _ => by simp [dropIts] at h
  | n + 1, i :: l, r, cs, h, hc => by
    obtain ⟨c1, c2, rfl, h1, h2⟩ := hc
    simp only [dropIts] at h
    split at h
    · rename_i hle
      have hl := den_len h1
      have := dropIts_den h h2
      refine ⟨?_, ?_⟩
      · rw [List.drop_append, hl, List.drop_of_length_le (by omega)]
        simpa using this.1
      · simp only [List.length_append, hl]; omega
    · cases h
termination_by _ l => l.length

theorem cutIts_den {off n : Nat} {l r : List It} {cs : List Value} (h : cutIts off n l = some r) (hc : catL (den x d) l cs) :
    catL (den x d) r ((cs.drop off).take n) ∧ itsSize r = n := by
  unfold cutIts at h
  split at h
  · rename_i r' hr; exact takeIts_den h (dropIts_den hr hc).1
  · cases h

theorem catL_ints (f : Nat → Int) (k : IntKind) : ∀ (l : List Nat), catL (den x d) (l.map fun i => It.int k (f i)) (l.map fun i => Value.int k (f i))
  | [] => by simp [catL]
  | a :: l => ⟨[.int k (f a)], l.map fun i => Value.int k (f i), rfl, by cases d <;> simp [den], catL_ints f k l⟩

theorem obInts_den (o : Ob) : catL (den x d) (obInts o) o.cells := catL_ints (limb o.n) .u64 _

theorem explode_den : ∀ {l : List It} {cs : List Value}, catL (den x d) l cs → catL (den x d) (explode l) cs
  | [], _, h => h
  | i :: l, cs, ⟨c1, c2, e, h1, h2⟩ => by
    have h2' := explode_den h2
    cases i
    case ob o =>
      have hc : c1 = o.cells := by cases d <;> simpa [den] using h1
      subst hc
      rw [e]
      exact catL_append (obInts_den o) h2'
    all_goals exact ⟨c1, c2, e, h1, h2'⟩

theorem cutAny_den {off n : Nat} {l r : List It} {cs : List Value} (h : cutAny off n l = some r) (hc : catL (den x d) l cs) :
    catL (den x d) r ((cs.drop off).take n) ∧ itsSize r = n := by
  unfold cutAny at h
  split at h
  · rename_i r' hr; cases h; exact cutIts_den hr hc
  · exact cutIts_den h (explode_den hc)

theorem pasteIts_den {off : Nat} {new l r : List It} {cs cn : List Value} (h : pasteIts off new l = some r) (hn : catL (den x d) new cn) (hc : catL (den x d) l cs) :
    catL (den x d) r (cs.take off ++ cn ++ cs.drop (off + cn.length)) ∧ off + cn.length ≤ cs.length := by
  unfold pasteIts at h
  split at h
  · rename_i a b ha hb
    cases h
    have hl := catL_len hn
    rw [← hl] at hb
    exact ⟨catL_append (catL_append (takeIts_den ha hc).1 hn) (dropIts_den hb hc).1, (dropIts_den hb hc).2⟩
  · cases h

theorem pasteAny_den {off : Nat} {new l r : List It} {cs cn : List Value} (h : pasteAny off new l = some r) (hn : catL (den x d) new cn) (hc : catL (den x d) l cs) :
    catL (den x d) r (cs.take off ++ cn ++ cs.drop (off + cn.length)) ∧ off + cn.length ≤ cs.length := by
  unfold pasteAny at h
  split at h
  · rename_i r' hr; cases h; exact pasteIts_den hr hn hc
  · exact pasteIts_den h hn (explode_den hc)

theorem den_one : ∀ {d : Nat} {i : It} {vs : List Value}, den x d i vs → ∀ v ∈ vs, v.oneCell' = true := by
  intro d i vs h v hv
  cases i <;> cases d <;> simp only [den] at h
  all_goals first
    | (subst h; simp only [List.mem_singleton] at hv; subst hv; rfl)
    | (subst h; simp only [Ob.cells, List.mem_map] at hv; obtain ⟨_, _, rfl⟩ := hv; rfl)
    | (obtain ⟨h1, rfl⟩ := h; simp only [List.mem_singleton] at hv; subst hv; rfl)
    | (obtain ⟨rfl, h1⟩ := h; simp only [List.mem_singleton] at hv; subst hv; exact h1)
    | (obtain ⟨u, rfl, h1⟩ := h; simp only [List.mem_singleton] at hv; subst hv; exact h1)
    | (rcases h with ⟨_, _, _, rfl⟩ | ⟨_, _, _, _, rfl, _⟩ <;> (simp only [List.mem_singleton] at hv; subst hv; rfl))
    | (rcases h with ⟨_, _, rfl, _⟩ | ⟨_, _, _, rfl, _⟩ <;> (simp only [List.mem_singleton] at hv; subst hv; rfl))
    | (obtain ⟨_, _, _, rfl, _⟩ := h; simp only [List.mem_singleton] at hv; subst hv; rfl)
    | exact h.elim

theorem catL_one : ∀ {l : List It} {cs : List Value}, catL (den x d) l cs → ∀ v ∈ cs, v.oneCell' = true
  | [], _, h, v, hv => by simp only [catL] at h; subst h; cases hv
  | _ :: _, _, ⟨_, _, e, h1, h2⟩, v, hv => by
    subst e
    rcases List.mem_append.1 hv with h | h
    · exact den_one h1 v h
    · exact catL_one h2 v h
end

/-- A value out of its cells. -/
def valOf (agg : Bool) (cs : List Value) : Value := if agg then .agg cs.toArray else cs.headD undef

theorem mkV_den {x : Ctx} {agg : Bool} {r : List It} {v : V1} {cs : List Value} (h : mkV agg r = some v) (hc : catL x.D r cs) (h1 : agg = false → itsSize r = 1) : denV x v (valOf agg cs) ∧ v.its = r := by
  unfold mkV at h
  split at h
  · cases h; exact ⟨⟨cs, by simp [valOf], hc⟩, rfl⟩
  · rename_i i
    cases h
    obtain ⟨c1, c2, rfl, h2, h3⟩ := hc
    simp only [catL] at h3
    subst h3
    have hs : i.size = 1 := by simpa [itsSize] using h1 rfl
    have hl := D_len h2
    rw [hs] at hl
    match c1, hl with
    | [u], _ => exact ⟨⟨hs, by simpa [valOf] using h2⟩, rfl⟩
  · cases h

theorem denV_cells {x : Ctx} {v : V1} {u : Value} (h : denV x v u) : ∃ cs, u.cells = cs.toArray ∧ catL x.D v.its cs := by
  cases v with
  | c i =>
    refine ⟨[u], ?_, [u], [], rfl, h.2, rfl⟩
    obtain ⟨_, d, h2⟩ := h
    have := den_one h2 u (by simp)
    cases u <;> first | rfl | simp [Value.oneCell'] at this
  | a l => obtain ⟨cs, rfl, hc⟩ := h; exact ⟨cs, rfl, hc⟩

/-! Types. -/
def zeroMatch : List It → List Value → Bool
  | [], [] => true
  | .int k n :: l, .int k' n' :: r => IntKind.same k k' && n == n' && zeroMatch l r
  | .lit b :: l, .bool b' :: r => b == b' && zeroMatch l r
  | .bool b :: l, .bool b' :: r => b == b' && zeroMatch l r
  | .sl q :: l, .slice none 0 0 :: r => q.n == 0 && zeroMatch l r
  | .val (.slice none 0 0) :: l, .slice none 0 0 :: r => zeroMatch l r
  | .val (.map none) :: l, .map none :: r => zeroMatch l r
  | .val (.pointer none) :: l, .pointer none :: r => zeroMatch l r
  | .ob (.fr x) :: l, .int .u64 a :: .int .u64 b :: .int .u64 c :: .int .u64 e :: r => x.val == 0 && a == 0 && b == 0 && c == 0 && e == 0 && zeroMatch l r
  | .ob (.s x) :: l, .int .u64 a :: .int .u64 b :: .int .u64 c :: .int .u64 e :: r => x.val == 0 && a == 0 && b == 0 && c == 0 && e == 0 && zeroMatch l r
  | .ob (.fp x) :: l, .int .u64 a :: .int .u64 b :: .int .u64 c :: .int .u64 e :: .int .u64 f :: .int .u64 g :: r => x.val == 0 && a == 0 && b == 0 && c == 0 && e == 0 && f == 0 && g == 0 && zeroMatch l r
  | .ob (.p x) :: l, .int .u64 a :: .int .u64 b :: .int .u64 c :: .int .u64 e :: .int .u64 f :: .int .u64 g :: r => x.val == 0 && a == 0 && b == 0 && c == 0 && e == 0 && f == 0 && g == 0 && zeroMatch l r
  | _, _ => false

theorem limb_zero (i : Nat) : limb 0 i = 0 := by simp [limb]

theorem same_eq : ∀ {k k' : IntKind}, IntKind.same k k' = true → k = k' := by
  intro k k' h; cases k <;> cases k' <;> first | rfl | simp [IntKind.same] at h

theorem zeroMatch_den {x : Ctx} {d : Nat} : ∀ {l : List It} {cs : List Value}, zeroMatch l cs = true → catL (den x (d + 1)) l cs := by
  intro l cs h
  fun_induction zeroMatch l cs
  all_goals first
    | rfl
    | (simp only [Bool.and_eq_true, beq_iff_eq] at h
       rename_i ih
       try simp only [and_assoc] at h
       first
         | (obtain ⟨h1, h2, h3⟩ := h; cases same_eq h1; subst h2; exact ⟨[_], _, rfl, by simp [den], ih h3⟩)
         | (obtain ⟨h2, h3⟩ := h; subst h2; exact ⟨[_], _, rfl, by simp [den], ih h3⟩)
         | (obtain ⟨h2, h3⟩ := h; exact ⟨[_], _, rfl, by simp [den, h2], ih h3⟩)
         | (obtain ⟨h0, h1, h2, h3, h4, h5⟩ := h; subst h1 h2 h3 h4
            exact ⟨[_, _, _, _], _, rfl, by simp [den, Ob.cells, Ob.k, Ob.n, h0, limb_zero, List.range_succ], ih h5⟩)
         | (obtain ⟨h0, h1, h2, h3, h4, h5, h6, h7⟩ := h; subst h1 h2 h3 h4 h5 h6
            exact ⟨[_, _, _, _, _, _], _, rfl, by simp [den, Ob.cells, Ob.k, Ob.n, h0, limb_zero, List.range_succ], ih h7⟩))
    | (rename_i ih; exact ⟨[_], _, rfl, by simp [den, Value.oneCell'], ih h⟩)
    | (simp at h; done)

def aggOf : TypeDesc → Bool
  | .struct _ | .array _ _ => true
  | _ => false

def fieldsOk (P : Program) : List Field → List (Nat × Nat × Bool) → Bool
  | [], [] => true
  | f :: l, (o, s, g) :: r =>
    f.offset == o && (match P.info? f.type, P.underlying f.type with | some i, some d => i.size == s && aggOf d == g && (g || s == 1) | _, _ => false) && fieldsOk P l r
  | _, _ => false

/-- The cells of a type that can be compared: true: a whole number, false: a truth. -/
def shFields (sh : Nat → Option (List Bool)) (P : Program) : Nat → List Field → Option (List Bool)
  | _, [] => some []
  | off, f :: l =>
    match sh f.type, P.info? f.type with
    | some s, some i => if f.offset = off ∧ i.size = s.length ∧ f.name ≠ "_" then (shFields sh P (off + s.length) l).map (s ++ ·) else none
    | _, _ => none

def shOf (P : Program) : Nat → Nat → Option (List Bool)
  | 0, _ => none
  | n + 1, t => match P.underlying t with
    | some .bool => some [false]
    | some (.int _) => some [true]
    | some (.array m e) => match shOf P n e, P.info? e with
      | some s, some i => if i.size = s.length then some (List.replicate m s).flatten else none
      | _, _ => none
    | some (.struct fs) => if P.stoodInHeld t = false then shFields (shOf P n) P 0 fs.toList else none
    | _ => none

def tyCheck (P : Program) (t : Nat) (i : TyI) : Bool :=
  match P.info? t, P.underlying t with
  | some inf, some d =>
    inf.size == i.cells && inf.bytes == i.bytes && aggOf d == i.agg && (i.agg || i.cells == 1) &&
    (match inf.zero with
     | some z => zeroMatch i.zero z.cells.toList && z.cells.size == i.cells && (match i.esq with
       | some q => (match zeros q 1 with | some z1 => zeroMatch (z1.get 0) z.cells.toList | none => true)
       | none => true)
     | none => false) &&
    (match d with
     | .struct fs => fieldsOk P fs.toList i.fields && i.arr.isNone && i.slc.isNone && i.kind.isNone
     | .array n e => i.fields.isEmpty && (match i.arr with | some (n', e') => n == n' && e == e' | none => false) && i.slc.isNone && i.kind.isNone
     | .slice e => i.fields.isEmpty && i.arr.isNone && (match i.slc with | some e' => e == e' | none => false) && i.kind.isNone
     | .int k => i.fields.isEmpty && i.arr.isNone && i.slc.isNone && (match i.kind with | some k' => IntKind.same k k' | none => false)
     | _ => i.fields.isEmpty && i.arr.isNone && i.slc.isNone && i.kind.isNone) &&
    (i.eqk.isEmpty || (shOf P 8 t == some i.eqk && !(P.eqGuardType P.depth t))) &&
    (match i.esq with | some q => q.es == i.cells && q.n == 0 | none => true)
  | _, _ => false

structure TyOk (P : Program) (t : Nat) (i : TyI) : Prop where
  chk : tyCheck P t i = true

section
variable {P : Program} {t : Nat} {i : TyI}

theorem TyOk.parts (h : TyOk P t i) : ∃ inf d, P.info? t = some inf ∧ P.underlying t = some d ∧ inf.size = i.cells ∧ inf.bytes = i.bytes ∧ aggOf d = i.agg ∧ (i.agg = false → i.cells = 1) ∧
    (∃ z, inf.zero = some z ∧ zeroMatch i.zero z.cells.toList = true ∧ z.cells.size = i.cells ∧ ∀ q z1, i.esq = some q → zeros q 1 = some z1 → zeroMatch (z1.get 0) z.cells.toList = true) ∧
    (∀ fs, d = .struct fs → fieldsOk P fs.toList i.fields = true ∧ i.arr = none ∧ i.slc = none) ∧
    (∀ n e, i.arr = some (n, e) → d = .array n e ∧ i.slc = none ∧ i.fields = []) ∧
    (∀ e, i.slc = some e → d = .slice e ∧ i.arr = none) ∧
    (∀ k, i.kind = some k → d = .int k) ∧
    (i.eqk ≠ [] → shOf P 8 t = some i.eqk ∧ P.eqGuardType P.depth t = false) ∧
    (∀ q, i.esq = some q → q.es = i.cells ∧ q.n = 0) ∧
    (i.fields ≠ [] → ∃ fs, d = .struct fs) := by
  have hc := h.chk
  unfold tyCheck at hc
  split at hc
  · rename_i inf d hi hd
    simp only [Bool.and_eq_true, beq_iff_eq, Bool.or_eq_true, and_assoc] at hc
    obtain ⟨h1, h2, h3, h4, h5, h6, h7, h8⟩ := hc
    refine ⟨inf, d, hi, hd, h1, h2, h3, fun ha => by simpa [ha] using h4, ?_, ?_, ?_, ?_, ?_, ?_, ?_, ?_⟩
    · split at h5
      · rename_i z hz
        simp only [Bool.and_eq_true, beq_iff_eq] at h5
        exact ⟨z, hz, h5.1.1, h5.1.2, fun q z1 hq hz1 => by simpa [hq, hz1] using h5.2⟩
      · cases h5
    · rintro fs rfl
      simp only [Bool.and_eq_true, and_assoc, Option.isNone_iff_eq_none] at h6
      exact ⟨h6.1, h6.2.1, h6.2.2.1⟩
    · intro n e ha
      cases d <;> simp only [ha, Bool.and_eq_true, Option.isNone_iff_eq_none, beq_iff_eq, List.isEmpty_iff, and_assoc] at h6 <;> first | (simp at h6; done) | skip
      obtain ⟨h61, rfl, rfl, h62, _⟩ := h6
      exact ⟨rfl, h62, h61⟩
    · intro e ha
      cases d <;> simp only [ha, Bool.and_eq_true, Option.isNone_iff_eq_none, beq_iff_eq, List.isEmpty_iff, and_assoc] at h6 <;> first | (simp at h6; done) | skip
      obtain ⟨h61, h62, rfl, _⟩ := h6
      exact ⟨rfl, h62⟩
    · intro k ha
      cases d <;> simp only [ha, Bool.and_eq_true, Option.isNone_iff_eq_none, List.isEmpty_iff, and_assoc] at h6 <;> first | (simp at h6; done) | skip
      rw [same_eq h6.2.2.2]
    · intro he
      simpa [he] using h7
    · intro q hq
      rw [hq] at h8
      simpa using h8
    · intro hf
      cases d <;> simp only [Bool.and_eq_true, List.isEmpty_iff, and_assoc] at h6
      case struct fs => exact ⟨fs, rfl⟩
      all_goals exact absurd h6.1 hf
  · cases hc

theorem fieldsOk_get : ∀ {l : List Field} {r : List (Nat × Nat × Bool)}, fieldsOk P l r = true → ∀ (n o s : Nat) (g : Bool), r[n]? = some (o, s, g) →
    ∃ f : Field, l[n]? = some f ∧ f.offset = o ∧ (∃ inf d, P.info? f.type = some inf ∧ P.underlying f.type = some d ∧ inf.size = s ∧ aggOf d = g ∧ (g = false → s = 1))
  | [], [], _, n, o, s, g, h => by simp at h
  | [], _ :: _, hf, _, _, _, _, _ => by simp [fieldsOk] at hf
  | _ :: _, [], hf, _, _, _, _, _ => by simp [fieldsOk] at hf
  | f :: l, (o', s', g') :: r, hf, n, o, s, g, h => by
    simp only [fieldsOk, Bool.and_eq_true, beq_iff_eq] at hf
    obtain ⟨⟨h1, h2⟩, h3⟩ := hf
    cases n with
    | zero =>
      simp only [List.getElem?_cons_zero, Option.some.injEq, Prod.mk.injEq] at h
      obtain ⟨rfl, rfl, rfl⟩ := h
      refine ⟨f, by simp, h1, ?_⟩
      split at h2
      · rename_i inf d hi hd
        simp only [Bool.and_eq_true, beq_iff_eq, Bool.or_eq_true] at h2
        exact ⟨inf, d, hi, hd, h2.1.1, h2.1.2, fun hg => by simpa [hg] using h2.2⟩
      · cases h2
    | succ n =>
      simp only [List.getElem?_cons_succ] at h ⊢
      exact fieldsOk_get h3 n o s g h

theorem fieldsOk_len : ∀ {l : List Field} {r : List (Nat × Nat × Bool)}, fieldsOk P l r = true → l.length = r.length
  | [], [], _ => rfl
  | [], _ :: _, hf => by simp [fieldsOk] at hf
  | _ :: _, [], hf => by simp [fieldsOk] at hf
  | f :: l, (o', s', g') :: r, hf => by
    simp only [fieldsOk, Bool.and_eq_true] at hf
    simp [fieldsOk_len hf.2]

theorem TyOk.sizeOf (h : TyOk P t i) (w : World) : (Go.sizeOf t).run P w = .ok i.cells w := by
  obtain ⟨inf, d, hi, _, hs, _⟩ := h.parts
  simp [Go.sizeOf, typeInfo, hi, hs]

theorem run_isAgg {d : TypeDesc} (hd : P.underlying t = some d) (w : World) : (Go.isAgg t).run P w = .ok (aggOf d) w := by
  unfold Go.isAgg
  rw [Sem.run_bind, run_underlying hd w]
  cases d <;> rfl

theorem run_loadVar' {inf : TypeInfo} {d : TypeDesc} (hi : P.info? t = some inf) (hd : P.underlying t = some d) {w : World} {b o : Nat} {cs : List Value} (hl : cs.length = inf.size)
    (h1 : aggOf d = false → inf.size = 1) (hc : ∀ (j : Nat) (v : Value), cs[j]? = some v → w.cell? ⟨b, o + j, none⟩ = some v) :
    (Go.loadVar t ⟨b, o, none⟩).run P w = .ok (valOf (aggOf d) cs) w := by
  simp only [Go.loadVar, Sem.run_bind, run_isAgg hd, Result.andThen_ok]
  cases ha : aggOf d with
  | true =>
    have hld : (loadCells ⟨b, o, none⟩ cs.length).run P w = .ok cs.toArray w :=
      run_loadCells_list (P := P) w ⟨b, o, none⟩ cs (fun j v hv => by rw [Addr.add_lit]; exact hc j v hv)
    simp [Go.sizeOf, typeInfo, hi, ← hl, hld, valOf]
  | false =>
    have h1' := h1 ha
    rw [h1'] at hl
    match cs, hl with
    | [v], _ =>
      have := hc 0 v rfl
      simp only [Nat.add_zero] at this
      simp [valOf, this]

theorem run_loadVar (h : TyOk P t i) {w : World} {b o : Nat} {cs : List Value} (hl : cs.length = i.cells)
    (hc : ∀ (j : Nat) (v : Value), cs[j]? = some v → w.cell? ⟨b, o + j, none⟩ = some v) :
    (Go.loadVar t ⟨b, o, none⟩).run P w = .ok (valOf i.agg cs) w := by
  obtain ⟨inf, d, hi, hd, hs, _, ha, h1, _⟩ := h.parts
  rw [← ha]
  exact run_loadVar' hi hd (hl.trans hs.symm) (fun e => by rw [hs]; exact h1 (ha ▸ e)) hc

theorem run_storeVar (h : TyOk P t i) {w : World} {b o : Nat} {u : Value} {cs : List Value} (hu : u.cells = cs.toArray) (hl : cs.length = i.cells) (h1 : ∀ v ∈ cs, v.oneCell' = true)
    {cur : Array Value} {ty : TypeId} (hb : w.heap[b]? = some (.cells cur ty (0, 0))) (hfit : o + cs.length ≤ cur.size) :
    (Go.storeVar t ⟨b, o, none⟩ u).run P w = .ok () (w.setRow b (cur.toList.take o ++ cs ++ cur.toList.drop (o + cs.length)).toArray) := by
  have hst := run_storeCells_at P b o ty cs 0 cur w hb (by simpa using hfit) h1
  simp only [Nat.add_zero] at hst
  simp [Go.storeVar, hu, h.sizeOf, hl, hst]
end

end Go.Proofs.Ytlfllehomhcbfaa
