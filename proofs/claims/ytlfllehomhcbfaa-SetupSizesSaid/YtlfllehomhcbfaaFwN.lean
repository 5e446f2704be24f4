/- Calls, in the caller's blocks. No conditions. -/
import Derived.Test.YtlfllehomhcbfaaFwM
namespace Go.Proofs.Ytlfllehomhcbfaa

section
variable {P : Program} {x y : Ctx} {m m' : Nat → Option En}

theorem cat_sh {p : Nat} (hw : y.w = x.w) (hk : ∀ q, x.k q ≠ .no → y.k (p + q) = x.k q) (hβ : ∀ q, x.k q = .real → y.β (p + q) = x.β q) : ∀ {l : List It} {cs : List Value}, ((∀ b, x.F b → y.F b) ∨ l.all noRoIt = true) → catL x.D l cs → catL y.D (l.map (shIt p)) cs
  | [], _, _, h => h
  | a :: l, _, hF, ⟨c1, c2, e, ⟨d, h1⟩, h2⟩ => by
    refine ⟨c1, c2, e, ⟨d, den_sh hw hk hβ ?_ d c1 h1⟩, cat_sh hw hk hβ ?_ h2⟩
    · rcases hF with h | h
      · exact .inl h
      · simp only [List.all_cons, Bool.and_eq_true] at h; exact .inr h.1
    · rcases hF with h | h
      · exact .inl h
      · simp only [List.all_cons, Bool.and_eq_true] at h; exact .inr h.2

theorem sh_size (p : Nat) (i : It) : (shIt p i).size = i.size := by cases i <;> rfl

theorem denV_sh {p : Nat} (hw : y.w = x.w) (hk : ∀ q, x.k q ≠ .no → y.k (p + q) = x.k q) (hβ : ∀ q, x.k q = .real → y.β (p + q) = x.β q) {a : V1} {v : Value} (hF : (∀ b, x.F b → y.F b) ∨ noRoV a = true) (h : denV x a v) : denV y (shV p a) v := by
  cases a with
  | c i => obtain ⟨h1, d, h2⟩ := h; exact ⟨(sh_size p i).trans h1, d, den_sh hw hk hβ hF d _ h2⟩
  | a l => obtain ⟨cs, e, hc⟩ := h; exact ⟨cs, e, cat_sh hw hk hβ hF hc⟩

theorem denS_sh {p : Nat} (hw : y.w = x.w) (hk : ∀ q, x.k q ≠ .no → y.k (p + q) = x.k q) (hβ : ∀ q, x.k q = .real → y.β (p + q) = x.β q) {s : SV} {v : Value} (hF : (∀ b, x.F b → y.F b) ∨ noRoS s = true) (h : denS x s v) : denS y (shSV p s) v := by
  cases s with
  | v a => exact denV_sh hw hk hβ hF h
  | t l =>
    obtain ⟨vs, e, hc⟩ := h
    refine ⟨vs, e, ?_⟩
    clear e
    simp only [noRoS] at hF
    induction hc with
    | nil => exact .nil
    | cons h1 _ ih =>
      refine .cons (denV_sh hw hk hβ ?_ h1) (ih ?_)
      · rcases hF with h | h
        · exact .inl h
        · simp only [List.all_cons, Bool.and_eq_true] at h; exact .inr h.1
      · rcases hF with h | h
        · exact .inl h
        · simp only [List.all_cons, Bool.and_eq_true] at h; exact .inr h.2
  | top => trivial

theorem denEn_sh {p : Nat} (hw : y.w = x.w) (hk : ∀ q, x.k q ≠ .no → y.k (p + q) = x.k q) (hβ : ∀ q, x.k q = .real → y.β (p + q) = x.β q) {e : En} {cs : List Value} (hF : (∀ b, x.F b → y.F b) ∨ noRoEn e = true) (h : denEn x e cs) : denEn y (shEn p e) cs := by
  cases e with
  | fl l => exact cat_sh hw hk hβ hF h
  | sq q =>
    refine ⟨h.1, fun i hi => ?_⟩
    obtain ⟨c, hc, hj⟩ := h.2 i hi
    refine ⟨c, ?_, hj⟩
    have hg : (q.get i).map (shIt p) = q.get i := by
      have flat : ∀ (l : List (Fp × Fp × Fp)) (n k : Nat), (flatPt l k n).map (shIt p) = flatPt l k n := by
        intro l n
        induction n with
        | zero => intro k; rfl
        | succ n ih => intro k; simp only [flatPt, List.map_cons, ih]; rfl
      cases q
      case ptt l => exact flat _ _ _
      all_goals rfl
    rw [← hg]
    refine cat_sh hw hk hβ ?_ hc
    rcases hF with h | h
    · exact .inl h
    · right
      simp only [noRoEn] at h
      have flat : ∀ (l : List (Fp × Fp × Fp)) (n k : Nat), (flatPt l k n).all noRoIt = true := by
        intro l n
        induction n with
        | zero => intro k; rfl
        | succ n ih => intro k; simp only [flatPt, List.all_cons, ih]; rfl
      cases q
      case ptt l => exact flat _ _ _
      all_goals first | rfl | cases h

theorem setsM_number (m : Nat → Option En) : ∀ (es : List En) (p q : Nat), setsM m (number p es) q = if p ≤ q ∧ q - p < es.length then es[q - p]? else m q
  | [], p, q => by simp [number, setsM]
  | e :: es, p, q => by
    simp only [number, setsM]
    rw [setsM_number _ es (p + 1) q]
    by_cases h1 : p + 1 ≤ q ∧ q - (p + 1) < es.length
    · rw [if_pos h1, if_pos (by simp only [List.length_cons]; omega)]
      rw [show q - p = (q - (p + 1)) + 1 from by omega, List.getElem?_cons_succ]
    · rw [if_neg h1]
      by_cases hq : q = p
      · subst hq; simp
      · rw [if_neg hq, if_neg (by simp only [List.length_cons]; omega)]

theorem number_mem : ∀ (es : List En) (p q : Nat) , p ≤ q → q - p < es.length → ∃ e, (q, e) ∈ number p es
  | [], p, q, _, h => by simp at h
  | e :: es, p, q, h1, h2 => by
    by_cases hq : q = p
    · subst hq; exact ⟨e, by simp [number]⟩
    · obtain ⟨e', h⟩ := number_mem es (p + 1) q (by omega) (by simp only [List.length_cons] at h2; omega)
      exact ⟨e', by simp [number, h]⟩

/-- The world in which the function called begins. -/
def calleeCtx (x : Ctx) (F : Nat → Prop) : Ctx := { w := x.w, F := F, k := fun _ => .no, β := fun _ => 0 }

/-- The caller's context afterwards: the new blocks stand from p on. -/
def backCtx (x y0 : Ctx) (F : Nat → Prop) (p n : Nat) : Ctx :=
  { w := y0.w, F := F, k := fun q => if p ≤ q ∧ q - p < n then y0.k (q - p) else x.k q, β := fun q => if p ≤ q ∧ q - p < n then y0.β (q - p) else x.β q }

theorem call_back (hm : Mem x m) {F0 F : Nat → Prop} {y0 : Ctx} {es : List En} {p : Nat} {r : SV} {v : Value} (ht : Tr (calleeCtx x F0) none y0 (fun q => es[q]?)) (hd : denS y0 r v)
    (hp : ∀ q, p ≤ q → q - p < es.length → m q = none)
    (hF1 : ∀ b, x.F b → F b) (hF2 : ∀ b, F b → x.F b ∨ (y0.F b ∧ x.w.heap.size ≤ b)) (hF3 : ∀ b, F b → b < y0.w.heap.size) (hF4 : ∀ q, y0.k q = .real → ¬ F (y0.β q))
    (hnew : ∀ q, y0.k q = .real → x.w.heap.size ≤ y0.β q)
    (hro : (∀ b, y0.F b → F b) ∨ (noRoS r = true ∧ es.all noRoEn = true)) :
    Tr x none (backCtx x y0 F p es.length) (setsM m (number p (es.map (shEn p)))) ∧ denS (backCtx x y0 F p es.length) (shSV p r) v := by
  have hx0 : ∀ q, (calleeCtx x F0).k q = .no := fun _ => rfl
  have blk : ∀ b, b < x.w.heap.size → y0.w.heap[b]? = x.w.heap[b]? := fun b hb => ht.blk b hb (fun q hq => by cases hq)
  have inlen : ∀ q, y0.k q ≠ .no → q < es.length := by
    intro q hq
    rcases Nat.lt_or_ge q es.length with h | h
    · exact h
    · exact absurd ((ht.mem.dom q).1 (by simp [h])) hq
  have hk : ∀ q, y0.k q ≠ .no → (backCtx x y0 F p es.length).k (p + q) = y0.k q := by
    intro q hq
    have := inlen q hq
    simp only [backCtx]
    rw [if_pos (by omega), Nat.add_sub_cancel_left]
  have hβ : ∀ q, y0.k q = .real → (backCtx x y0 F p es.length).β (p + q) = y0.β q := by
    intro q hq
    have := inlen q (by simp [hq])
    simp only [backCtx]
    rw [if_pos (by omega), Nat.add_sub_cancel_left]
  have hold : ∀ q, x.k q ≠ .no → ¬ (p ≤ q ∧ q - p < es.length) := by
    intro q hq h
    exact hq ((hm.dom q).1 (hp q h.1 h.2))
  have hsz : x.w.heap.size ≤ y0.w.heap.size := ht.ext.size
  have hext : Ext x (backCtx x y0 F p es.length) := by
    refine ⟨hsz, fun b hb => ⟨hF1 b hb, blk b (hm.fw b hb)⟩, fun q hq => ?_, fun q hq => ?_, fun q hq cs ty hc => ?_⟩
    · simp only [backCtx]; rw [if_neg (hold q hq)]
    · simp only [backCtx]; rw [if_neg (hold q (by simp [hq]))]
    · exact ⟨cs, (blk _ (hm.lt hq)).trans hc, rfl⟩
  refine ⟨⟨hext, ?_, ht.os, ht.tape, ht.output, fun b hb _ => blk b hb, fun q hq => ?_, fun b hb => ?_⟩, denS_sh (x := y0) (y := backCtx x y0 F p es.length) rfl hk hβ (hro.imp (fun h => h) (fun h => h.1)) hd⟩
  · have hset : ∀ q, setsM m (number p (es.map (shEn p))) q = if p ≤ q ∧ q - p < es.length then (es[q - p]?).map (shEn p) else m q := by
      intro q; rw [setsM_number]; simp
    refine ⟨fun q => ?_, fun q l hq => ?_, fun q s hq hn => ?_, fun q e' hq hr => ?_, fun q q' hq hq' he => ?_, fun q hq => ?_, fun b hb => hF3 b hb⟩
    · rw [hset]
      by_cases h : p ≤ q ∧ q - p < es.length
      · simp only [backCtx]; rw [if_pos h, if_pos h, Option.map_eq_none_iff]; exact ht.mem.dom (q - p)
      · simp only [backCtx]; rw [if_neg h, if_neg h]; exact hm.dom q
    · rw [hset] at hq
      by_cases h : p ≤ q ∧ q - p < es.length
      · rw [if_pos h, Option.map_eq_some_iff] at hq
        obtain ⟨e, he, hs⟩ := hq
        simp only [backCtx]; rw [if_pos h]
        cases e with
        | fl l0 => exact ht.mem.fl _ l0 he
        | sq s => cases hs
      · rw [if_neg h] at hq
        simp only [backCtx]; rw [if_neg h]; exact hm.fl q l hq
    · rw [hset] at hq
      by_cases h : p ≤ q ∧ q - p < es.length
      · rw [if_pos h, Option.map_eq_some_iff] at hq
        obtain ⟨e, he, hs⟩ := hq
        simp only [backCtx] at hn; rw [if_pos h] at hn
        cases e with
        | fl l0 => cases hs
        | sq s0 => cases hs; exact ht.mem.nil _ _ he hn
      · rw [if_neg h] at hq
        simp only [backCtx] at hn; rw [if_neg h] at hn; exact hm.nil q s hq hn
    · rw [hset] at hq
      by_cases h : p ≤ q ∧ q - p < es.length
      · rw [if_pos h, Option.map_eq_some_iff] at hq
        obtain ⟨e, he, rfl⟩ := hq
        simp only [backCtx] at hr; rw [if_pos h] at hr
        obtain ⟨cs, ty, hc, hd⟩ := ht.mem.ent _ _ he hr
        refine ⟨cs, ty, by simp only [backCtx]; rw [if_pos h]; exact hc, denEn_sh (x := y0) (y := backCtx x y0 F p es.length) rfl hk hβ (hro.imp (fun h => h) (fun h => ?_)) hd⟩
        exact List.all_eq_true.1 h.2 _ (List.mem_of_getElem? he)
      · rw [if_neg h] at hq
        simp only [backCtx] at hr; rw [if_neg h] at hr
        obtain ⟨cs, ty, hc, hd⟩ := hm.ent q e' hq hr
        refine ⟨cs, ty, ?_, denEn_ext hext hd⟩
        simp only [backCtx]; rw [if_neg h]; exact (blk _ (hm.lt hr)).trans hc
    · simp only [backCtx] at hq hq' he
      by_cases h : p ≤ q ∧ q - p < es.length <;> by_cases h' : p ≤ q' ∧ q' - p < es.length
      · rw [if_pos h] at hq he; rw [if_pos h'] at hq' he
        have := ht.mem.inj _ _ hq hq' he; omega
      · rw [if_pos h] at hq he; rw [if_neg h'] at hq' he
        have := hnew _ hq; have := hm.lt hq'; omega
      · rw [if_neg h] at hq he; rw [if_pos h'] at hq' he
        have := hnew _ hq'; have := hm.lt hq; omega
      · rw [if_neg h] at hq he; rw [if_neg h'] at hq' he
        exact hm.inj _ _ hq hq' he
    · simp only [backCtx] at hq ⊢
      by_cases h : p ≤ q ∧ q - p < es.length
      · rw [if_pos h] at hq ⊢; exact hF4 _ hq
      · rw [if_neg h] at hq ⊢
        intro hF
        rcases hF2 _ hF with h1 | h1
        · exact hm.own q hq h1
        · have := hm.lt hq; omega
  · simp only [backCtx] at hq ⊢
    by_cases h : p ≤ q ∧ q - p < es.length
    · rw [if_pos h] at hq ⊢; exact .inr (hnew _ hq)
    · rw [if_neg h] at hq ⊢; exact .inl ⟨hq, rfl⟩
  · rcases hF2 b hb with h | h
    · exact .inl h
    · exact .inr h.2

theorem callRes_sound {env : Env} (hE : EnvOk P env) (hm : Mem x m) (hsub : ∀ q e, m' q = some e → m q = some e) {p f : Nat} {args : List SV} {vs : List Value} (hd : denSs x args vs) {r : Res} (h : callRes env m' p f args = some r) (ho : AllP r.obl)
    (hp : ∀ q, p ≤ q → m' q = none) (hfresh : ∀ q e, (q, e) ∈ r.ups → m' q = none → m q = none) :
    Enters P f ∧ Calls P f vs.toArray x.w fun e w' => ∃ v y, e = .returned v ∧ y.w = w' ∧ Tr x r.kill y (setsM (killM m r.kill) r.ups) ∧ denS y r.val v := by
  unfold callRes at h
  split at h
  · rename_i spec hspec
    obtain ⟨hent, hfn⟩ := hE.fn f spec hspec
    split at h
    · rename_i o as has
      split at h
      · rename_i o' r' es hsp
        split at h
        · rename_i hc
          simp only [Bool.and_eq_true, decide_eq_true_eq, Bool.or_eq_true] at hc
          cases h
          have ho := AllP_append.1 ho
          have hpn : ∀ q, p ≤ q → q - p < es.length → m q = none := by
            intro q h1 h2
            obtain ⟨e, he⟩ := number_mem (es.map (shEn p)) p q h1 (by simpa using h2)
            exact hfresh q e he (hp q h1)
          refine ⟨hent, ?_⟩
          rcases hc.2 with hfree | hro
          · have hd0 := rdSVs_sound (y := calleeCtx x x.F) hm hsub rfl (fun b hb => hb) (.inl hfree) hd has ho.1
            refine (hfn as o' r' es hsp ho.2 (calleeCtx x x.F) vs (fun _ => rfl) (fun b hb => hm.fw b hb) hd0).mono fun e w' ⟨v, y0, he, hw, ht, hv⟩ => ?_
            have hnew : ∀ q, y0.k q = .real → x.w.heap.size ≤ y0.β q := fun q hq => by
              rcases ht.fresh q hq with h | h
              · cases h.1
              · exact h
            obtain ⟨g1, g2⟩ := call_back (p := p) (F := y0.F) hm ht hv hpn (fun b hb => (ht.ext.ro b hb).1) (fun b hb => (ht.fnew b hb).imp (fun h => h) (fun h => ⟨hb, h⟩)) ht.mem.fw ht.mem.own hnew (.inl fun b hb => hb)
            exact ⟨v, backCtx x y0 _ p es.length, he, hw, g1, g2⟩
          · have hd0 := rdSVs_sound (y := calleeCtx x (fun b => x.F b ∨ ∃ p, x.k p = .real ∧ b = x.β p)) hm hsub rfl (fun b hb => .inl hb) (.inr fun p hp => .inr ⟨p, hp, rfl⟩) hd has ho.1
            refine (hfn as o' r' es hsp ho.2 (calleeCtx x _) vs (fun _ => rfl) (fun b hb => ?_) hd0).mono fun e w' ⟨v, y0, he, hw, ht, hv⟩ => ?_
            · rcases hb with hb | ⟨p, hp, rfl⟩
              · exact hm.fw b hb
              · exact hm.lt hp
            · have hnew : ∀ q, y0.k q = .real → x.w.heap.size ≤ y0.β q := fun q hq => by
                rcases ht.fresh q hq with h | h
                · cases h.1
                · exact h
              obtain ⟨g1, g2⟩ := call_back (p := p) (F := x.F) hm ht hv hpn (fun b hb => hb) (fun b hb => .inl hb) (fun b hb => Nat.lt_of_lt_of_le (hm.fw b hb) ht.ext.size) (fun q hq hF => by have := hnew q hq; have := hm.fw _ hF; omega) hnew (.inr hro)
              exact ⟨v, backCtx x y0 _ p es.length, he, hw, g1, g2⟩
        · cases h
      · cases h
    · cases h
  · split at h
    · rename_i spec hspec
      obtain ⟨hent, hmu⟩ := hE.mu f spec hspec
      split at h
      · rename_i o r' ups hsp
        cases h
        exact ⟨hent, hmu args m' o r' ups hsp ho x m vs hsub hm hd⟩
      · cases h
    · cases h

end
end Go.Proofs.Ytlfllehomhcbfaa
