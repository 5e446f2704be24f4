/- Code, step by step, and functions: what the executor tells of them is what they do. No conditions. -/
import Derived.Test.YtlfllehomhcbfaaFwV
namespace Go.Proofs.Ytlfllehomhcbfaa

section
variable {P : Program} {w0 : World} {F0 K : Nat → Prop} {as : List Act} {env : Env} {Q : Exit → Act → World → Prop} {x : Ctx} {a : Act}

theorem Sim.nx {σ : St} (h : Sim w0 F0 K as σ x a) (n : Nat) : Sim w0 F0 K as { σ with nx := n } x a := ⟨h.defers, h.nt, h.t, h.mem, h.base, h.frs⟩

theorem loadRes_addr {m : Nat → Option En} {s : SV} {i : TyI} {r : List Prop × V1} {v : Value} (h : loadRes m s i = some r) (hd : denS x s v) : ∃ ad, v = .pointer (some ad) := by
  unfold loadRes at h
  split at h
  · exact ⟨_, (D_ptr hd).2⟩
  · exact ⟨_, (D_ep hd).2⟩
  · obtain ⟨b, o, cs, d, rfl, _⟩ := D_rp hd; exact ⟨_, rfl⟩
  · cases h

def resM (tmps : Array Value) : ResultVar → Sem Value
  | .tmp t => pure (tmps.getD t undef)
  | .cell ad t => asAddr (tmps.getD ad undef) >>= loadVar t

theorem results_eq (fn : Func) (tmps : Array Value) : results fn tmps = (fn.results.mapM (resM tmps)) >>= fun vs => pure (if h : vs.size = 1 then vs[0] else .tuple vs) := rfl

theorem resSV_sound (hE : EnvOk P env) {σ : St} (hm : Mem x σ.m) (ht : ∀ t, denS x (σ.t t) (a.tmps.getD t undef)) : ∀ {l : List ResultVar} {o : List Prop} {r : List V1}, resSV env σ l = some (o, r) → AllP o →
    ∃ vs, (l.mapM (resM a.tmps)).run P x.w = .ok vs x.w ∧ denVs x r vs
  | [], o, r, h, _ => by simp [resSV] at h; obtain ⟨_, rfl⟩ := h; exact ⟨[], by simp, .nil⟩
  | .tmp t :: l, o, r, h, ho => by
    simp only [resSV] at h
    split at h
    · rename_i v o' r' hv hl
      cases h
      have hd := ht t
      rw [hv] at hd
      obtain ⟨vs, hr, hvs⟩ := resSV_sound hE hm ht hl ho
      refine ⟨_ :: vs, ?_, .cons hd hvs⟩
      rw [List.mapM_cons]
      simp only [resM, Sem.run_bind, Sem.run_pure, Result.andThen_ok, hr]
    · cases h
  | .cell ad t :: l, o, r, h, ho => by
    simp only [resSV] at h
    split at h
    · rename_i i hi
      split at h
      · rename_i o1 v o2 r' hv hl
        cases h
        have ho := AllP_append.1 ho
        obtain ⟨u, hu, hdu⟩ := loadRes_sound (hE.ty t i hi) hm (fun _ _ h => h) (ht ad) hv ho.1
        obtain ⟨adr, hadr⟩ := loadRes_addr hv (ht ad)
        obtain ⟨vs, hr, hvs⟩ := resSV_sound hE hm ht hl ho.2
        refine ⟨u :: vs, ?_, .cons hdu hvs⟩
        rw [List.mapM_cons]
        rw [hadr] at hu
        have hlv : (loadVar t adr).run P x.w = .ok u x.w := by simpa [Instr.loadAt, Instr.sureAddr] using hu
        have hcell : (resM a.tmps (.cell ad t)).run P x.w = .ok u x.w := by
          simp only [resM, hadr, asAddr, Sem.run_bind, Sem.run_pure, Result.andThen_ok, hlv]
        simp only [Sem.run_bind, Sem.run_pure, Result.andThen_ok, hcell, hr]
      · cases h
    · cases h

theorem results_sound (hE : EnvOk P env) {σ : St} {fn : Func} (hm : Mem x σ.m) (ht : ∀ t, denS x (σ.t t) (a.tmps.getD t undef)) {o : List Prop} {r : List V1} (h : resSV env σ fn.results.toList = some (o, r)) (ho : AllP o) :
    ∃ v, (results fn a.tmps).run P x.w = .ok v x.w ∧ denS x (tupSV r) v := by
  obtain ⟨vs, hr, hvs⟩ := resSV_sound hE hm ht h ho
  have hlen : ∀ {r : List V1} {vs : List Value}, denVs x r vs → vs.length = r.length := by
    intro r vs h
    induction h with
    | nil => rfl
    | cons _ _ ih => simp [ih]
  have hl := hlen hvs
  refine ⟨if h : vs.toArray.size = 1 then vs.toArray[0] else .tuple vs.toArray, ?_, ?_⟩
  · rw [results_eq, Array.mapM_eq_mapM_toList]
    simp only [Sem.run_bind, Sem.run_map, hr]
    rfl
  · unfold tupSV
    split
    · cases hvs with
      | cons h1 h2 =>
        cases h2
        exact h1
    · rename_i hne
      have h1 : ¬ vs.toArray.size = 1 := by
        intro h
        simp only [List.size_toArray] at h
        rw [hl] at h
        match r, h with
        | [v], _ => exact hne v rfl
      rw [dif_neg h1]
      exact ⟨vs, rfl, hvs⟩

theorem region_draw_sound (hE : EnvOk P env) {k : List KI} {σ σ' : St} {id : Nat} {ops : Array Oper} {dec : List (Nat × Bool)} {ob : List Prop} (hok : drawOk env ops (ancs ops.toList []) ops.toList 0 = true)
    (hd : drawRun env dec ops.toList (ancs ops.toList []) σ.nx (withIx 0 ops.toList) σ = some (ob, σ')) (ho : AllP ob) (hs : Sim w0 F0 K as σ x a) (hK : ∀ y a', Sim w0 F0 K as { σ' with nx := σ.nx + 16 * ops.size } y a' → wpK P Q k as .normal a' y.w) :
    (Code.region id ops true).wp P (wpK P Q k as) a x.w := by
  refine wp_region_any hE.mixed ?_
  refine draw_wp (x := { x with w := { x.w with drawn := x.w.drawn + 1 } }) hE hok (fun y a' h => hK y a' (h.nx _)) ops.size (withIx 0 ops.toList) _ σ ob a (by simp [withIx_len]) (Rem.all _) hd ho hs.drew

theorem stepN_sound (hE : EnvOk P env) {unroll : Bool} {k : List KI} {σ : St} {path : List Bool} {c : Code} {out : Out} (h : stepN env unroll k σ path c = some out) (ho : AllP out.obl) (hs : Sim w0 F0 K as σ x a)
    (hK : ∀ y a', Sim w0 F0 K as out.cfg.σ y a' → wpK P Q out.cfg.k as out.cfg.x a' y.w) : c.wp P (wpK P Q k as) a x.w := by
  unfold stepN at h
  split at h
  · cases h; exact wp_skip (hK x a hs)
  · cases h; exact wp_seq (hK x a hs)
  · cases h; exact wp_block (hK x a hs)
  · split at h
    · cases h; exact wp_of_wpL (wpL_unroll (hK x a hs))
    · cases h
  · cases h; exact wp_exit (hK x a hs)
  · cases h; exact wp_ret (hK x a hs)
  · rename_i o c1 c2
    have hd := ev_den hs.t o
    split at h
    · rename_i d hv
      cases h
      rw [hv] at hd
      have := hK x a hs
      refine wp_cond (D_lit hd) ?_
      cases d <;> exact this
    · rename_i b hv
      split at h
      · rename_i d path'
        cases h
        obtain ⟨rfl, _⟩ := ho
        rw [hv] at hd
        have := hK x a hs
        refine wp_cond (D_bool hd) ?_
        cases b <;> exact this
      · cases h
    · cases h
  · rename_i id ops draw
    split at h
    · cases h
    · rename_i dec path' _
      split at h
      · rename_i hdraw
        subst hdraw
        dsimp only at h
        split at h
        · rename_i hok
          split at h
          · rename_i ob σ' hd
            cases h
            exact region_draw_sound hE hok hd ho hs hK
          · cases h
        · cases h
      · rename_i hdraw
        cases h
        have hdf : draw = false := by simpa using hdraw
        subst hdf
        have := hK x a hs
        refine wp_region ?_
        rw [List.range_eq_range']
        exact this
  · cases h

theorem guardOf_eq (ops : List Oper) (o : Oper) (t : Nat → SV) : guardOf ops o t = wantedS ops o t := rfl

theorem inlOf_sound (hE : EnvOk P env) {σ : St} {o : Oper} {fn : Func} {b : Code} {args : List SV} (hs : Sim w0 F0 K as σ x a) (h : inlOf env σ o = some (fn, b, args)) :
    ∃ g vs, P.funcs[g]? = some fn ∧ fn.body = some b ∧ denSs x args vs ∧ (execOp a.eval o).run P x.w = .ok (.enter g vs.toArray) x.w := by
  unfold inlOf at h
  split at h
  · rename_i c hop
    split at h
    · rename_i f hcal
      split at h
      · rename_i g caps hf
        split at h
        · rename_i fn' _ _ hin
          split at h
          · rename_i b' hb
            cases h
            obtain ⟨hfn, hent⟩ := hE.inl g fn hin
            have hρ : ∀ o, denS x (σ.ev o) (a.eval o) := fun o => ev_den hs.t o
            have hd := hρ f
            rw [hf] at hd
            obtain ⟨hk, hv⟩ := D_clo hd
            refine ⟨g, _, hfn, hb, denSs_append (denSs_map hρ c.args.toList) (caps_args caps hk), ?_⟩
            have hargs : (c.args.toList.map a.eval ++ caps.map fun c => Value.pointer (some ⟨x.β c.1, c.2, none⟩)).toArray = c.args.map a.eval ++ (caps.map fun c => Value.pointer (some ⟨x.β c.1, c.2, none⟩)).toArray := by
              apply Array.toList_inj.1; simp
            rw [hargs]
            have he := hent (c.args.map a.eval ++ (caps.map fun c => Value.pointer (some ⟨x.β c.1, c.2, none⟩)).toArray) x.w
            simp only [execOp, hop, resolve, hcal, Deferred.ofValue, hv, Sem.run_bind, Sem.run_pure, Result.andThen_ok, invoke]
            simpa using he
          · cases h
        · cases h
      · cases h
    · cases h
  · cases h

theorem frBack_sound (hE : EnvOk P env) {σ σ' : St} {fn : Func} {dst : Option Nat} {dec : List (Nat × Bool)} {ob : List Prop} {k : List KI} (h : frBack env σ fn dst dec = some (ob, σ')) (ho : AllP ob) (hs : Sim w0 F0 K as σ x a)
    (hK : ∀ as' a', Sim w0 F0 K as' σ' x a' → wpK P Q k as' .normal a' x.w) {e : Exit} (he : e = .ret ∨ e = .normal) : wpK P Q (.fr fn dst dec :: k) as e a x.w := by
  unfold frBack at h
  split at h
  · rename_i ob1 r tS ntS fr hres hfr
    have hfrs := hs.frs
    rw [hfr] at hfrs
    cases hfrs with
    | cons h1 h2 h3 h4 =>
      rename_i aS as'
      split at h
      · cases h
        obtain ⟨v, hv, hdv⟩ := results_sound hE hs.mem hs.t hres ho
        exact ⟨he, hs.defers, v, hv, hK as' (aS.put none v) ⟨h1, h2, h3, hs.mem, hs.base, h4⟩⟩
      · rename_i d
        split at h
        · rename_i hlt
          cases hdv : decideV dec d (tupSV r) with
          | mk o' s =>
            simp only [hdv] at h
            cases h
            have ho := AllP_append.1 ho
            obtain ⟨v, hv, hden⟩ := results_sound hE hs.mem hs.t hres ho.2
            refine ⟨he, hs.defers, v, hv, hK as' (aS.put (some d) v) ⟨h1, by simp [Act.put, h2], fun t => ?_, hs.mem, hs.base, h4⟩⟩
            simp only [Act.put]
            rw [getD_set _ _ _ _ (by rw [h2]; exact hlt)]
            by_cases htd : t = d
            · subst htd; simp only [setT, if_true]; exact decideV_den hdv ho.1 hden
            · simp only [setT, htd, if_false]; exact h3 t
        · cases h
  · cases h

theorem argT_den {args : List SV} {vs : List Value} (h : denSs x args vs) (n : Nat) : ∀ t, denS x (argT args t) ((vs.toArray ++ Array.replicate n undef).getD t undef) := by
  induction h with
  | nil => intro t; trivial
  | cons h1 _ ih =>
    intro t
    cases t with
    | zero => simpa [argT, Array.getElem?_append] using h1
    | succ t =>
      have := ih t
      simpa [argT, Array.getElem?_append] using this

theorem denSs_len {args : List SV} {vs : List Value} (h : denSs x args vs) : vs.length = args.length := by
  induction h with
  | nil => rfl
  | cons _ _ ih => simp [ih]

theorem step_sound (hE : EnvOk P env) {unroll : Bool} {c : Cfg} {path : List Bool} {out : Out} (h : step env unroll c path = some out) (ho : AllP out.obl) (hs : Sim w0 F0 K as c.σ x a)
    (hK : ∀ as' y a', Sim w0 F0 K as' out.cfg.σ y a' → wpK P Q out.cfg.k as' out.cfg.x a' y.w) : wpK P Q c.k as c.x a x.w := by
  unfold step at h
  split at h
  · rename_i c' k hx hk
    rw [hx, hk]
    exact stepN_sound hE h ho hs (hK as)
  · rename_i id k hx hk
    rw [hx, hk]
    cases h
    exact hK as x a hs
  · rename_i c' k hx hk
    rw [hx, hk]
    split at h
    · cases h; exact wpL_unroll (hK as x a hs)
    · cases h
  · rename_i ops i dec k hx hk
    rw [hx, hk]
    show wpOps P ops (wpK P Q k as) (List.range' i (ops.size - i)) a x.w
    split at h
    · rename_i o hi
      have hlt : i < ops.size := (Array.getElem?_eq_some_iff.1 hi).1
      rw [show ops.size - i = (ops.size - (i + 1)) + 1 from by omega, List.range'_succ, wpOps_cons]
      split at h
      · rename_i fn b args hin hw
        split at h
        · rename_i hle
          cases h
          obtain ⟨g, vs, hfn, hb, hden, hrun⟩ := inlOf_sound hE hs hin
          have hw' : wantedS ops.toList o c.σ.t = some true := by
            rw [guardOf_eq] at hw
            cases hh : wantedS ops.toList o c.σ.t with
            | none => rw [hh] at hw; cases hw
            | some b => rw [hh] at hw; simp only [isWanted] at hw; rw [hw]
          unfold wpOp
          simp only [hi, wanted_of hs.t hw', if_true]
          left
          unfold Oper.wp
          rw [hrun]
          refine calls_of_wp hfn hb ?_
          have hlen := denSs_len hden
          have hle' := Nat.le_of_ble_eq_true hle
          have := hK (a :: as) x { tmps := vs.toArray ++ Array.replicate (fn.ntmps - vs.toArray.size) undef, defers := [] }
            ⟨rfl, by simp; omega, argT_den hden _, hs.mem, hs.base, .cons hs.defers hs.nt hs.t hs.frs⟩
          refine wp_mono this fun e a1 w1 hq => ?_
          obtain ⟨he, hdf, v, hv, hk'⟩ := hq
          rcases he with rfl | rfl
          · exact ⟨hdf, v, hv, hk'⟩
          · exact ⟨hdf, v, hv, hk'⟩
        · cases h
      · split at h
        · rename_i ob σ' hop
          cases h
          exact opStep_wp hE hs hi hop ho (fun q h => by simpa using h) fun y a' hs' => hK as y a' (hs'.nx _)
        · cases h
    · rename_i hi
      cases h
      have : ops.size - i = 0 := by have := Array.getElem?_eq_none_iff.1 hi; omega
      rw [this]
      exact hK as x a hs
  · rename_i fn dst dec k hx hk
    rw [hx, hk]
    split at h
    · rename_i ob σ' hb
      cases h
      exact frBack_sound hE hb ho hs (fun as' a' hs' => hK as' x a' hs') (.inr rfl)
    · cases h
  · rename_i fn dst dec k hx hk
    rw [hx, hk]
    split at h
    · rename_i ob σ' hb
      cases h
      exact frBack_sound hE hb ho hs (fun as' a' hs' => hK as' x a' hs') (.inl rfl)
    · cases h
  · rename_i id id' k hx hk
    rw [hx, hk]
    show (Exit.inBlock id' (wpK P Q k as)) (.exit id) a x.w
    simp only [Exit.inBlock]
    split at h
    · rename_i he
      cases h
      rw [if_pos he.symm]; exact hK as x a hs
    · rename_i he
      cases h
      rw [if_neg (Ne.symm he)]; exact hK as x a hs
  all_goals
    first
      | (rename_i hx hk; rw [hx, hk]; cases h; exact hK as x a hs)
      | cases h

theorem run_sound (hE : EnvOk P env) {unroll : Bool} : ∀ (n : Nat) {c : Cfg} {path : List Bool} {as : List Act} {x : Ctx} {a : Act}, AllP (run env unroll n c path).obl → Sim w0 F0 K as c.σ x a →
    (∀ as' y a', Sim w0 F0 K as' (run env unroll n c path).cfg.σ y a' → wpK P Q (run env unroll n c path).cfg.k as' (run env unroll n c path).cfg.x a' y.w) → wpK P Q c.k as c.x a x.w
  | 0, c, path, as, x, a, _, hs, hK => hK as x a hs
  | n + 1, c, path, as, x, a, ho, hs, hK => by
    unfold run at ho hK
    cases hst : step env unroll c path with
    | none => simp only [hst] at ho hK; exact hK as x a hs
    | some r =>
      simp only [hst] at ho hK
      have ho := AllP_append.1 ho
      exact step_sound hE hst ho.1 hs fun as' y a' hs' => run_sound hE n ho.2 hs' hK

/-! Functions. -/
theorem initSim {fn : Func} {args : List SV} {vs : List Value} (hlen : args.length ≤ fn.ntmps) (hk : ∀ p, x.k p = .no) (hF : ∀ b, x.F b → b < x.w.heap.size) (h : denSs x args vs) :
    Sim x.w x.F (fun _ => True) [] (initSt fn.ntmps args) x { tmps := vs.toArray ++ Array.replicate (fn.ntmps - vs.toArray.size) undef, defers := [] } where
  defers := rfl
  nt := by have := denSs_len h; simp [initSt]; omega
  t := argT_den h _
  mem := ⟨fun p => by simp [initSt, hk p], fun p l h => (by cases h), fun p q h => (by cases h), fun p e h => (by cases h), fun p q h => (by rw [hk p] at h; cases h), fun p h => (by rw [hk p] at h; cases h), hF⟩
  base := ⟨fun b h => h, fun b h => .inl h, Nat.le_refl _, fun b _ _ => rfl, fun p h => (by rw [hk p] at h; cases h), rfl, rfl, rfl⟩
  frs := .nil

end
end Go.Proofs.Ytlfllehomhcbfaa
