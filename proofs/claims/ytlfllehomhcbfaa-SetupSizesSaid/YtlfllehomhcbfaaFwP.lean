/- ONE OPERATION: what the executor tells of it is what it does. No conditions. -/
import Derived.Test.YtlfllehomhcbfaaFwO
namespace Go.Proofs.Ytlfllehomhcbfaa

section
variable {P : Program} {x : Ctx} {m m' : Nat → Option En} {o : Oper} {a : Act}

theorem run_v {s : Sem Value} {u : Value} {w w' : World} (h : s.run P w = .ok u w') : (do pure (.value (← s)) : Sem Next).run P w = .ok (.value u) w' := by
  simp [h]

theorem run_u {s : Sem Unit} {w w' : World} (h : s.run P w = .ok () w') : (do s; pure .skip : Sem Next).run P w = .ok .skip w' := by
  simp [h]

theorem OpS.pureV {obl : List Prop} {i : It} (hm : Mem x m) (h : ∃ v, (execOp a.eval o).run P x.w = .ok (.value v) x.w ∧ denS x (.v (.c i)) v) : OpS P o a x m ⟨obl, .v (.c i), [], none⟩ := by
  obtain ⟨v, h1, h2⟩ := h
  exact OpS.pure hm h1 h2

theorem withO_some {r : Option (List Prop × It)} {q : Res} (h : withO r = some q) : ∃ obl i, r = some (obl, i) ∧ q = ⟨obl, .v (.c i), [], none⟩ := by
  unfold withO at h
  rw [Option.map_eq_some_iff] at h
  obtain ⟨⟨obl, i⟩, h1, h2⟩ := h
  exact ⟨obl, i, h1, h2.symm⟩

theorem denSs_map {ρ : Operand → SV} (hρ : ∀ o, denS x (ρ o) (a.eval o)) : ∀ (l : List Operand), denSs x (l.map ρ) (l.map a.eval)
  | [] => .nil
  | o :: l => .cons (hρ o) (denSs_map hρ l)

theorem denSs_append : ∀ {l l' : List SV} {vs vs' : List Value}, denSs x l vs → denSs x l' vs' → denSs x (l ++ l') (vs ++ vs')
  | _, _, _, _, .nil, h => h
  | _, _, _, _, .cons h1 h2, h => .cons h1 (denSs_append h2 h)

theorem caps_den {ρ : Operand → SV} (hρ : ∀ o, denS x (ρ o) (a.eval o)) : ∀ {l : List Operand} {cs : List (Nat × Nat)}, capsOf (l.map ρ) = some cs → (∀ c ∈ cs, x.k c.1 = .real) ∧ l.map a.eval = cs.map fun c => Value.pointer (some ⟨x.β c.1, c.2, none⟩)
  | [], cs, h => by simp [capsOf] at h; subst h; exact ⟨fun c hc => (by cases hc), rfl⟩
  | o :: l, cs, h => by
    simp only [List.map_cons] at h ⊢
    unfold capsOf at h
    split at h
    · rename_i heq; cases heq
    · rename_i p off l' heq
      simp only [List.cons.injEq] at heq
      obtain ⟨h1, rfl⟩ := heq
      rw [Option.map_eq_some_iff] at h
      obtain ⟨cs', h2, rfl⟩ := h
      have hd := hρ o
      rw [h1] at hd
      obtain ⟨hk, hv⟩ := D_ptr hd
      obtain ⟨g1, g2⟩ := caps_den hρ h2
      refine ⟨fun c hc => ?_, by rw [hv, g2]; rfl⟩
      rcases List.mem_cons.1 hc with rfl | hc
      · exact hk
      · exact g1 c hc
    · cases h

theorem caps_args (cs : List (Nat × Nat)) (h : ∀ c ∈ cs, x.k c.1 = .real) : denSs x (cs.map fun c => .v (.c (.ptr c.1 c.2))) (cs.map fun c => Value.pointer (some ⟨x.β c.1, c.2, none⟩)) := by
  induction cs with
  | nil => exact .nil
  | cons c l ih => exact .cons ⟨rfl, 0, h c (by simp), rfl⟩ (ih fun c hc => h c (by simp [hc]))

theorem parts_map (parts : Array (Nat × Operand)) : (parts.map fun (p : Nat × Operand) => (p.1, a.eval p.2)).toList = parts.toList.map fun p => (p.1, a.eval p.2) := by simp

theorem agg_struct {t : Nat} {i : TyI} (ht : TyOk P t i) (hag : i.agg = true) (hn : i.arr = none) : ∃ fs, P.underlying t = some (.struct fs) := by
  have hc := ht.chk
  unfold tyCheck at hc
  split at hc
  · rename_i inf d hi hd
    simp only [Bool.and_eq_true, beq_iff_eq, Bool.or_eq_true, and_assoc] at hc
    obtain ⟨h1, h2, h3, h4, h5, h6, h7, h8⟩ := hc
    rw [hag] at h3
    cases d <;> simp only [aggOf] at h3 <;> try (cases h3; done)
    · rw [hn] at h6; simp at h6
    · exact ⟨_, hd⟩
  · cases hc

theorem build_run {t : Nat} {i : TyI} (ht : TyOk P t i) {ρ : Operand → SV} (hρ : ∀ o, denS x (ρ o) (a.eval o)) {arr : Option (Nat × Nat)}
    (harr : (i.arr = none ∧ arr = none) ∨ ∃ n e ie, i.arr = some (n, e) ∧ TyOk P e ie ∧ arr = some (n, ie.cells)) {parts : Array (Nat × Operand)} {l : List It}
    (hb : buildAll i.fields arr i.zero (parts.toList.map fun p => (p.1, ρ p.2)) = some l) (hag : i.agg = true) :
    ∃ cells, (Instr.build t (parts.map fun (i, x) => (i, a.eval x))).run P x.w = .ok (.agg cells) x.w ∧ catL x.D l cells.toList := by
  obtain ⟨inf, d, hinf, hdd, hsz, _, hagg, _, ⟨z0, hz0, hzm, hzc, _⟩, hfl, har, hsd, _, _, _, hfd⟩ := ht.parts
  have hzd : catL x.D i.zero z0.cells.toList := catL_D (zeroMatch_den (d := 0) hzm)
  rcases harr with ⟨hn, rfl⟩ | ⟨n, e, ie, hn, hte, rfl⟩
  · -- a struct
    obtain ⟨fs, hst⟩ := agg_struct ht hag hn
    rw [hdd] at hst
    cases hst
    obtain ⟨hok, _⟩ := hfl fs rfl
    have hplaces : ∀ (l : List Field) (r : List (Nat × Nat × Bool)), fieldsOk P l r = true → l.mapM (fun f => (P.info? f.type).map fun i => (f.offset, i.size)) = some (r.map fun f => (f.1, f.2.1)) := by
      intro l
      induction l with
      | nil => intro r hr; cases r <;> simp [fieldsOk] at hr ⊢
      | cons f l ih =>
        intro r hr
        cases r with
        | nil => simp [fieldsOk] at hr
        | cons g r =>
          obtain ⟨o, s, gg⟩ := g
          simp only [fieldsOk, Bool.and_eq_true, beq_iff_eq] at hr
          obtain ⟨⟨h1, h2⟩, h3⟩ := hr
          split at h2
          · rename_i i' d' hi' hd'
            simp only [Bool.and_eq_true, beq_iff_eq] at h2
            simp [List.mapM_cons, hi', ih r h3, h1, h2.1.1]
          · cases h2
    obtain ⟨cells, hf, hc⟩ := buildAll_sound hρ (place := ((i.fields.map fun f => (f.1, f.2.1)).toArray[·]?)) (fun j off size hp => by simpa [placeOf] using hp) parts.toList i.zero l z0.cells hb hzd
    refine ⟨cells, run_build x.w t _ cells ?_, hc⟩
    rw [parts_map]
    simp only [Program.built, hinf, hdd, hz0, hplaces _ _ hok]
    exact hf
  · obtain ⟨rfl, _⟩ := har n e hn
    obtain ⟨inf', d', hi', hd', hs', _⟩ := hte.parts
    obtain ⟨cells, hf, hc⟩ := buildAll_sound hρ (place := fun j => some (j * ie.cells, ie.cells)) (fun j off size hp => by simpa [placeOf] using hp) parts.toList i.zero l z0.cells hb hzd
    refine ⟨cells, run_build x.w t _ cells ?_, hc⟩
    rw [parts_map]
    simp only [Program.built, hinf, hdd, hz0, hi', hs']
    exact hf

theorem min2_run (k k' : IntKind) (p q : Int) (w : World) : (Builtin.min2 (.int k p) (.int k' q)).run P w = .ok (.int k (if q < p then q else p)) w := by simp [Builtin.min2]
theorem max2_run (k k' : IntKind) (p q : Int) (w : World) : (Builtin.max2 (.int k p) (.int k' q)).run P w = .ok (.int k (if q > p then q else p)) w := by simp [Builtin.max2]

theorem run_unary_not (b : Bool) (w : World) : (Op.unary .not (.bool b)).run P w = .ok (.bool !b) w := by simp [Op.unary]
theorem run_unary_neg (k : IntKind) (n : Int) (w : World) : (Op.unary .neg (.int k n)).run P w = .ok (.int k (k.wrap (0 - n))) w := by simp [Op.unary, Op.intArith]

theorem convert_run {src dst : Nat} {i : TyI} {k' : IntKind} (ht : TyOk P dst i) (hk : i.kind = some k') (k : IntKind) (n : Int) (w : World) (hs : ∃ d, P.underlying src = some d) : (convert src dst (.int k n)).run P w = .ok (.int k' (k'.wrap n)) w := by
  obtain ⟨inf, d, hinf, hdd, _, _, _, _, _, _, _, _, hkd, _⟩ := ht.parts
  cases hkd k' hk
  obtain ⟨d, hs⟩ := hs
  simp [convert, run_underlying hdd, run_underlying hs, Conv.intToInt]

end
end Go.Proofs.Ytlfllehomhcbfaa
