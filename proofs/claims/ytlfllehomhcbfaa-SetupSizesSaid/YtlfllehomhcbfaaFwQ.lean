/- ONE OPERATION: what the executor tells of it is what it does. No conditions. -/
import Derived.Test.YtlfllehomhcbfaaFwP
namespace Go.Proofs.Ytlfllehomhcbfaa

section
variable {P : Program} {x : Ctx} {m m' : Nat → Option En} {o : Oper} {a : Act}

/-- The calls. -/
theorem call_sound {env : Env} (hE : EnvOk P env) {ρ : Operand → SV} (hρ : ∀ o, denS x (ρ o) (a.eval o)) (hm : Mem x m) (hsub : ∀ q e, m' q = some e → m q = some e) {p : Nat} {c : Call} {f : Operand} (hop : o.op = .call c) (hc : c.callee = .value f) {g : Nat} {caps : List (Nat × Nat)}
    (hf : ρ f = .v (.c (.clo g caps))) {r : Res} (h : callRes env m' p g (c.args.toList.map ρ ++ caps.map fun x => .v (.c (.ptr x.1 x.2))) = some r) (ho : AllP r.obl)
    (hp : ∀ q, p ≤ q → m' q = none) (hfresh : ∀ q e, (q, e) ∈ r.ups → m' q = none → m q = none) : OpS P o a x m r := by
  have hd := hρ f
  rw [hf] at hd
  obtain ⟨hk, hv⟩ := D_clo hd
  obtain ⟨hent, hcalls⟩ := callRes_sound hE hm hsub (denSs_append (denSs_map hρ c.args.toList) (caps_args caps hk)) h ho hp hfresh
  refine .enter g _ ?_ hcalls
  have hargs : (c.args.toList.map a.eval ++ caps.map fun c => Value.pointer (some ⟨x.β c.1, c.2, none⟩)).toArray = c.args.map a.eval ++ (caps.map fun c => Value.pointer (some ⟨x.β c.1, c.2, none⟩)).toArray := by
    apply Array.toList_inj.1; simp
  rw [hargs]
  have he := hent (c.args.map a.eval ++ (caps.map fun c => Value.pointer (some ⟨x.β c.1, c.2, none⟩)).toArray) x.w
  simp only [execOp, hop, resolve, hc, Deferred.ofValue, hv, Sem.run_bind, Sem.run_pure, Result.andThen_ok, invoke]
  simpa using he

/-! Cells copied and cleared. -/
theorem tr_nilset (h : Mem x m) {p : Nat} (hk : x.k p = .nil) {q r : Sq} (h0 : r.n = 0) (hq : m p = some (.sq q)) : Tr x none x (setsM m [(p, .sq r)]) := by
  refine ⟨Ext.refl x, ?_, rfl, rfl, rfl, fun _ _ _ => rfl, fun _ hp => .inl ⟨hp, rfl⟩, fun _ hb => .inl hb⟩
  rw [setsM_one]
  refine ⟨fun q' => ?_, fun q' l hq' => ?_, fun q' s hq' hn => ?_, fun q' e' hq' hr => ?_, h.inj, h.own, h.fw⟩
  · by_cases hqp : q' = p
    · subst hqp; simp [hk]
    · simp only [hqp, if_false]; exact h.dom q'
  · by_cases hqp : q' = p
    · subst hqp; simp at hq'
    · simp only [hqp, if_false] at hq'; exact h.fl q' l hq'
  · by_cases hqp : q' = p
    · subst hqp; simp only [if_true, Option.some.injEq, En.sq.injEq] at hq'; subst hq'; exact h0
    · simp only [hqp, if_false] at hq'; exact h.nil q' s hq' hn
  · by_cases hqp : q' = p
    · subst hqp; rw [hk] at hr; cases hr
    · simp only [hqp, if_false] at hq'; exact h.ent q' e' hq' hr

theorem copy_sound {t t' e : Nat} {i ie : TyI} {q0 : Sq} (ht : TyOk P t i) (hsl : i.slc = some e) (hte : TyOk P e ie) (hq0 : ie.esq = some q0) (hm : Mem x m) (hsub : ∀ q e, m' q = some e → m q = some e)
    {s sx : SV} {v u : Value} (hs : denS x s v) (hx : denS x sx u) {obl : List Prop} {n : Int} {ups : List (Nat × En)} (h : copyRes m' q0 [s, sx] = some (obl, n, ups)) (ho : AllP obl) (ty : TypeId) :
    ∃ y, (Builtin.copy_ #[t, t'] ty #[v, u]).run P x.w = .ok (.int .i64 n) y.w ∧ Tr x none y (setsM m ups) := by
  obtain ⟨inf, d, hinf, hdd, _, _, _, _, _, _, _, hsd, _⟩ := ht.parts
  obtain ⟨rfl, _⟩ := hsd e hsl
  obtain ⟨inf', d', hi', hd', hs', hb', _, _, ⟨z0, hz0, _, hzc, _⟩, _, _, _, _, _, hes', _⟩ := hte.parts
  obtain ⟨hes, hen⟩ := hes' q0 hq0
  unfold copyRes at h
  split at h
  · rename_i p off len es sx' heq
    simp only [List.cons.injEq, and_true] at heq
    obtain ⟨rfl, rfl⟩ := heq
    split at h
    · rename_i q hq
      split at h
      · rename_i o q' hsrc
        split at h
        · rename_i r hr
          split at h
          · rename_i hc
            obtain ⟨rfl, rfl, hqe⟩ := hc
            cases h
            obtain ⟨rfl, o2, o3⟩ := ho
            obtain ⟨a', cap, news, rfl, hl, h1, hel, hcell⟩ := (appSrc_sound hm hsub hen hx hsrc o3).ex
            obtain ⟨g1, g2, g3, _, _⟩ := app_spec hr
            obtain ⟨c1, c2, c3⟩ := cut_spec q q'.n (q.n - q'.n) (by omega)
            have hq'es : q'.es = q.es := by rw [← g3, c2]
            have hmin : Nat.min q'.n q.n = q'.n := Nat.min_eq_left o2
            have hfc : (Builtin.firstCells inf'.size q'.n (.slice a' q'.n cap)).run P x.w = .ok news.toArray x.w := by
              rcases hcell with h0 | ⟨b, oo, rfl, hcell⟩
              · have : news = [] := List.eq_nil_of_length_eq_zero (by rw [hl, h0, Nat.zero_mul])
                subst this
                rw [h0]
                cases a' <;> simp [Builtin.firstCells, loadCells, loadCellsFrom]
              · exact run_firstCells_some (P := P) x.w inf'.size q'.n ⟨b, oo, none⟩ q'.n cap news (by rw [hl, hq'es, hqe, hes, hs']) (fun j v hv => by rw [Addr.add_lit]; exact hcell j v hv)
            rcases D_slc hs with ⟨hk, _, h0, rfl⟩ | ⟨hk, cap', cs, ty', rfl, hlc, hcm, hcs, hfit⟩
            · have hn0 : q'.n = 0 := by omega
              refine ⟨x, ?_, tr_nilset hm hk (by rw [g1, c1]; omega) (hsub _ _ hq)⟩
              rw [hn0] at hfc ⊢
              simp [Builtin.copy_, run_underlying hdd, Builtin.lenOf, sizeOf, typeInfo, hi', hfc, goInt]
            · obtain ⟨cs', ty'', hcs', hden⟩ := hm.ent p _ (hsub _ _ hq) hk
              rw [hcs] at hcs'
              obtain ⟨rfl, rfl⟩ : cs' = cs ∧ ty'' = ty' := by simp only [Option.some.injEq, Obj.cells.injEq] at hcs'; exact ⟨hcs'.1.symm, hcs'.2.1.symm⟩
              have hdn := hden.1
              have hle : q'.n * q.es ≤ q.n * q.es := Nat.mul_le_mul_right _ o2
              have hfitn : 0 + 0 + news.length ≤ cs'.size := by rw [hl, hq'es]; simp at hdn; omega
              have hst := run_storeCells_at P (x.β p) 0 ty'' news 0 cs' x.w hcs hfitn h1
              simp only [Nat.add_zero, List.take_zero, List.nil_append, Nat.zero_add] at hst
              refine ⟨rowCtx x p (news ++ cs'.toList.drop news.length).toArray, ?_, tr_row hm hk hcs ?_ _ ?_⟩
              · simp [Builtin.copy_, run_underlying hdd, Builtin.lenOf, sizeOf, typeInfo, hi', hmin, hfc, hst, goInt, rowCtx]
              · simp only [List.size_toArray, List.length_append, List.length_drop, Array.length_toList]; omega
              · -- the rows
                have hlc' : ((cs'.toList.drop news.length).take ((q.n - q'.n) * q.es)).length = (q.n - q'.n) * q.es := by
                  rw [List.length_take, List.length_drop, hl, hq'es, Nat.sub_mul]
                  simp only [Array.length_toList] at hdn ⊢
                  omega
                have hj := join_rows (y := x) (q := q') (q' := q.cut q'.n (q.n - q'.n)) hr (olds := news) (news := (cs'.toList.drop news.length).take ((q.n - q'.n) * q.es)) (tail := (cs'.toList.drop news.length).drop ((q.n - q'.n) * q.es)) hl (by rw [c1, c2]; exact hlc') hel (fun i hi => by
                  rw [c1] at hi
                  obtain ⟨c, dd, hc, hlen, hf, hcc⟩ := denEn_get hden (i := q'.n + i) (by omega)
                  refine ⟨c, by rw [c3 i hi]; exact catL_D hc, fun j v hv => ?_⟩
                  have hjl : j < q.es := by
                    rcases Nat.lt_or_ge j c.length with hh | hh
                    · omega
                    · rw [List.getElem?_eq_none hh] at hv; cases hv
                  have hlt : i * q.es + j < (q.n - q'.n) * q.es := by
                    have := Nat.mul_le_mul_right q.es (show i + 1 ≤ q.n - q'.n by omega)
                    rw [Nat.add_mul, Nat.one_mul] at this
                    omega
                  rw [c2, List.getElem?_take_of_lt hlt, List.getElem?_drop, hl, hq'es, ← hcc j v hv]
                  congr 1
                  rw [Nat.add_mul]; omega)
                rw [List.append_assoc, List.take_append_drop] at hj
                simpa using hj
          · cases h
        · cases h
      · cases h
    · cases h
  · cases h

theorem clear_sound {t e : Nat} {i ie : TyI} {q0 : Sq} (ht : TyOk P t i) (hsl : i.slc = some e) (hte : TyOk P e ie) (hq0 : ie.esq = some q0) (hm : Mem x m) (hsub : ∀ q e, m' q = some e → m q = some e)
    {s : SV} {v : Value} (hs : denS x s v) {obl : List Prop} {ups : List (Nat × En)} (h : clearRes m' q0 [s] = some (obl, ups)) (ho : AllP obl) (ty : TypeId) :
    ∃ u y, (Builtin.clear_ #[t] ty #[v]).run P x.w = .ok u y.w ∧ Tr x none y (setsM m ups) := by
  obtain ⟨inf, d, hinf, hdd, _, _, _, _, _, _, _, hsd, _⟩ := ht.parts
  obtain ⟨rfl, _⟩ := hsd e hsl
  obtain ⟨inf', d', hi', hd', hs', hb', _, _, ⟨z0, hz0, hzm, hzc, _⟩, _, _, _, _, _, hes', _⟩ := hte.parts
  obtain ⟨hes, hen⟩ := hes' q0 hq0
  unfold clearRes at h
  split at h
  · rename_i p off len es heq
    simp only [List.cons.injEq, and_true] at heq
    subst heq
    split at h
    · rename_i q hq
      split at h
      · rename_i z hz
        split at h
        · rename_i hc
          obtain ⟨rfl, rfl, hqe⟩ := hc
          cases h
          obtain ⟨rfl, _⟩ := ho
          obtain ⟨z1, z2, _⟩ := zeros_spec hz
          rcases D_slc hs with ⟨hk, _, h0, rfl⟩ | ⟨hk, cap', cs, ty', rfl, hlc, hcm, hcs, hfit⟩
          · refine ⟨.tuple #[], x, ?_, tr_nilset hm hk (by omega) (hsub _ _ hq)⟩
            simp [Builtin.clear_, run_underlying hdd]
          · by_cases hn : q.n = 0
            · obtain ⟨cs', ty'', hcs', hden⟩ := hm.ent p _ (hsub _ _ hq) hk
              have htr := tr_row hm hk hcs (cs := cs) rfl (.sq z) ⟨by rw [z1, hn]; simp, fun i hi => by omega⟩
              refine ⟨.tuple #[], _, ?_, htr⟩
              rw [hn]
              simp [Builtin.clear_, run_underlying hdd, rowCtx, setRow_self x.w _ cs ty' (0, 0) hcs]
            · obtain ⟨cs', ty'', hcs', hden⟩ := hm.ent p _ (hsub _ _ hq) hk
              rw [hcs] at hcs'
              obtain ⟨rfl, rfl⟩ : cs' = cs ∧ ty'' = ty' := by simp only [Option.some.injEq, Obj.cells.injEq] at hcs'; exact ⟨hcs'.1.symm, hcs'.2.1.symm⟩
              have hdn := hden.1
              have hzl : (Builtin.zeroCells z0.cells q.n).toList.length = q.n * q.es := by simp [size_zeroCells, hzc, hqe, hes]
              have hzone := catL_one (zeroMatch_den (x := x) (d := 0) hzm)
              have hone : ∀ u ∈ (Builtin.zeroCells z0.cells q.n).toList, u.oneCell' = true := by
                intro u hu
                simp only [Builtin.zeroCells, Array.toList_map, List.mem_map, Array.toList_range, List.mem_range] at hu
                obtain ⟨j, hj, rfl⟩ := hu
                have hpos : 0 < z0.cells.size := by
                  rcases Nat.eq_zero_or_pos z0.cells.size with h0 | h0
                  · rw [h0, Nat.mul_zero] at hj; omega
                  · exact h0
                have hlt := Nat.mod_lt j hpos
                refine hzone _ ?_
                rw [getElem!_pos z0.cells _ hlt]
                exact Array.getElem_mem_toList hlt
              have hrun : ∀ (n : Nat) (w' : World), n ≠ 0 → (storeCells ⟨x.β p, 0, none⟩ (Builtin.zeroCells z0.cells n).toList).run P x.w = .ok () w' → (Builtin.clear_ #[t] ty #[.slice (some ⟨x.β p, 0, none⟩) n cap']).run P x.w = .ok (.tuple #[]) w' := by
                intro n w' hn0 hst
                cases n with
                | zero => exact absurd rfl hn0
                | succ n => simp [Builtin.clear_, run_underlying hdd, zeroValue, typeInfo, hi', hz0, hst]
              have hst := run_storeCells_at P (x.β p) 0 ty'' (Builtin.zeroCells z0.cells q.n).toList 0 cs' x.w hcs (by rw [hzl]; simp at hdn; omega) hone
              simp only [Nat.add_zero, List.take_zero, List.nil_append, Nat.zero_add] at hst
              refine ⟨.tuple #[], rowCtx x p ((Builtin.zeroCells z0.cells q.n).toList ++ cs'.toList.drop (Builtin.zeroCells z0.cells q.n).toList.length).toArray, ?_, tr_row hm hk hcs ?_ _ ?_⟩
              · exact hrun q.n _ hn hst
              · simp only [List.size_toArray, List.length_append, List.length_drop, Array.length_toList]; simp at hzl hdn; omega
              · refine zeros_den hte hq0 hz (z0 := z0) (by simp [hi', hz0]) ?_ fun j hj => ?_
                · simp only [List.length_append, hzl, ← hqe]; omega
                · rw [← hqe, ← hzl] at hj
                  rw [List.getElem?_append_left hj, List.getElem?_eq_getElem hj]
                  simp [Builtin.zeroCells]
        · cases h
      · cases h
    · cases h
  · cases h

theorem denSs_cons {s : SV} {l : List SV} {vs : List Value} (h : denSs x (s :: l) vs) : ∃ v vs', vs = v :: vs' ∧ denS x s v ∧ denSs x l vs' := by
  cases h with
  | cons h1 h2 => exact ⟨_, _, rfl, h1, h2⟩

theorem denSs_one {s : SV} {vs : List Value} (h : denSs x [s] vs) : ∃ v, vs = [v] ∧ denS x s v := by
  obtain ⟨v, vs', rfl, h1, h2⟩ := denSs_cons h
  cases h2
  exact ⟨v, rfl, h1⟩

theorem denSs_two {s s' : SV} {vs : List Value} (h : denSs x [s, s'] vs) : ∃ v v', vs = [v, v'] ∧ denS x s v ∧ denS x s' v' := by
  obtain ⟨v, vs', rfl, h1, h2⟩ := denSs_cons h
  obtain ⟨v', rfl, h3⟩ := denSs_one h2
  exact ⟨v, v', rfl, h1, h3⟩

theorem denSs_three {s s' s'' : SV} {vs : List Value} (h : denSs x [s, s', s''] vs) : ∃ v v' v'', vs = [v, v', v''] ∧ denS x s v ∧ denS x s' v' ∧ denS x s'' v'' := by
  obtain ⟨v, vs', rfl, h1, h2⟩ := denSs_cons h
  obtain ⟨v', v'', rfl, h3, h4⟩ := denSs_two h2
  exact ⟨v, v', v'', rfl, h1, h3, h4⟩

theorem builtin_run {c : Call} {b : Builtin} (hop : o.op = .call c) (hcal : c.callee = .builtin b) {u : Value} {w' : World} {args : List Value} (ha : c.args.toList.map a.eval = args) {tys : List Nat} (ht : c.argTypes.toList = tys)
    (h : (builtin b tys.toArray o.type (c.args.map fun | .const _ => true | _ => false) args.toArray).run P x.w = .ok (.value u) w') : (execOp a.eval o).run P x.w = .ok (.value u) w' := by
  have hargs : c.args.map a.eval = args.toArray := by apply Array.toList_inj.1; simp [ha]
  have htys : c.argTypes = tys.toArray := by apply Array.toList_inj.1; simp [ht]
  simp only [execOp, hop, resolve, hcal, Sem.run_bind, Sem.run_pure, Result.andThen_ok, invoke, hargs, htys]
  exact h

theorem opRes_sound {env : Env} (hE : EnvOk P env) {ρ : Operand → SV} (hρ : ∀ o, denS x (ρ o) (a.eval o)) (hm : Mem x m) (hsub : ∀ q e, m' q = some e → m q = some e) {p : Nat} {r : Res} (h : opRes env ρ m' p o = some r) (ho : AllP r.obl)
    (hp : ∀ q, p ≤ q → m' q = none) (hfresh : ∀ q e, (q, e) ∈ r.ups → m' q = none → m q = none) : OpS P o a x m r := by
  unfold opRes at h
  cases hop : o.op <;> simp only [hop] at h
  case move v => cases h; exact OpS.pure hm (by simp [execOp, hop]) (hρ v)
  case assign v => cases h; exact OpS.pure hm (by simp [execOp, hop]) (hρ v)
  case pick c u v =>
    split at h
    · rename_i d hd
      cases h
      have hc := hρ c
      rw [hd] at hc
      have hb := D_lit hc
      refine OpS.pure (v := if d then a.eval u else a.eval v) hm (by simp [execOp, hop, hb, asBool]) ?_
      cases d
      · exact hρ v
      · exact hρ u
    · cases h
  case alloc t =>
    split at h
    · rename_i i hi
      cases h
      obtain ⟨cells, ty, hr, hd⟩ := alloc_run (hE.ty t i hi) x.w
      have hpn : m p = none := hfresh p (.fl i.zero) (by simp) (hp p (Nat.le_refl _))
      refine .value _ (allocCtx x p (.cells cells ty)) (by simp only [execOp, hop]; exact run_v hr) (tr_alloc hm hpn cells ty _ (hd x)) ?_
      exact ⟨rfl, 0, by simp [allocCtx], by simp [allocCtx]⟩
    · cases h
  case box t v =>
    split at h
    · rename_i sv hv
      cases h
      have hd := hρ v
      rw [hv] at hd
      obtain ⟨cs, hu, hc⟩ := denV_cells hd
      have hpn : m p = none := hfresh p (.fl sv.its) (by simp) (hp p (Nat.le_refl _))
      refine .value _ (allocCtx x p (.cells (a.eval v).cells t)) (by simp only [execOp, hop]; exact run_v (box_run t _ x.w)) (tr_alloc hm hpn _ t _ (by rw [hu]; exact hc)) ?_
      exact ⟨rfl, 0, by simp [allocCtx], by simp [allocCtx]⟩
    · cases h
  case build t parts =>
    split at h
    · rename_i i hi
      split at h
      · rename_i arr harr
        split at h
        · rename_i l hl
          split at h
          · rename_i hag
            cases h
            have harr' : (i.arr = none ∧ arr = none) ∨ ∃ n e ie, i.arr = some (n, e) ∧ TyOk P e ie ∧ arr = some (n, ie.cells) := by
              split at harr
              · rename_i n e hne
                rw [Option.map_eq_some_iff] at harr
                obtain ⟨ie, hie, rfl⟩ := harr
                exact .inr ⟨n, e, ie, hne, hE.ty e ie hie, rfl⟩
              · rename_i hne
                cases harr
                exact .inl ⟨hne, rfl⟩
            obtain ⟨cells, hr, hc⟩ := build_run (hE.ty t i hi) hρ harr' hl hag
            refine OpS.pure hm (by simp only [execOp, hop]; exact run_v hr) ⟨cells.toList, by simp, asNumber_sound (z := i.zero) rfl ho hc⟩
          · cases h
        · cases h
      · cases h
    · cases h
  case buildSlice t len parts =>
    split at h
    · rename_i i hi
      split at h
      · rename_i e he
        split at h
        · rename_i ie hie
          split at h
          · rename_i q0 its hq0 hits
            split at h
            · rename_i hc
              split at h
              · rename_i q' hq'
                cases h
                obtain ⟨cells, hr, hden, hsz, hqn, hqe⟩ := buildSlice_run (hE.ty t i hi) he (hE.ty e ie hie) hq0 hρ hits hq' hc.1 hc.2.1
                have hpn : m p = none := hfresh p (.sq q') (by simp) (hp p (Nat.le_refl _))
                refine .value _ (allocCtx x p (.cells cells e)) (by simp only [execOp, hop]; exact run_v hr) (tr_alloc hm hpn cells e _ hden) ?_
                refine ⟨rfl, 0, .inr ⟨by simp [allocCtx], len, cells, e, by simp [allocCtx], Nat.le_refl _, by simp only [maxLen]; omega, ?_, by omega⟩⟩
                simp only [allocCtx, if_true]
                exact heap_alloc_new x.w _
              · cases h
            · cases h
          · cases h
        · cases h
      · cases h
    · cases h
  case load t ad =>
    split at h
    · rename_i i hi
      split at h
      · rename_i ob v hv
        cases h
        obtain ⟨u, hr, hd⟩ := loadRes_sound (hE.ty t i hi) hm hsub (hρ ad) hv ho
        exact OpS.pure hm (by simp only [execOp, hop]; exact run_v hr) hd
      · cases h
    · cases h
  case store t ad v =>
    split at h
    · rename_i i hi
      split at h
      · rename_i ob ups hv
        cases h
        obtain ⟨y, hr, ht⟩ := storeRes_sound (hE.ty t i hi) hm hsub (hρ ad) (hρ v) hv ho
        exact .skip y rfl (by simp only [execOp, hop]; exact run_u hr) ht
      · cases h
    · cases h
  case nilCheck v =>
    have hd := hρ v
    split at h
    · rename_i q off hv
      cases h
      rw [hv] at hd
      obtain ⟨hk, he⟩ := D_ptr hd
      exact OpS.pure hm (by simp [execOp, hop, he]) (he ▸ hd)
    · rename_i q es i off hv
      cases h
      rw [hv] at hd
      obtain ⟨hk, he⟩ := D_ep hd
      exact OpS.pure hm (by simp [execOp, hop, he]) (he ▸ hd)
    · rename_i q i off hv
      cases h
      rw [hv] at hd
      obtain ⟨b, oo, cs, d, he, _⟩ := D_rp hd
      exact OpS.pure hm (by simp [execOp, hop, he]) (he ▸ hd)
    · cases h
  case binOp op t u v k =>
    obtain ⟨obl, i, hb, rfl⟩ := withO_some h
    obtain ⟨z, hr, hd⟩ := binRes_sound hE hb ho (hρ u) (hρ v) u v
    exact OpS.pure hm (by simp only [execOp, hop]; exact run_v hr) hd
  case unOp op t v =>
    have hd := hρ v
    split at h
    · rename_i b hv
      cases h
      rw [hv] at hd
      exact OpS.pure hm (by simp only [execOp, hop, D_lit hd]; exact run_v (run_unary_not b x.w)) (den_lit _)
    · rename_i b hv
      cases h
      rw [hv] at hd
      exact OpS.pure hm (by simp only [execOp, hop, D_bool hd]; exact run_v (run_unary_not b x.w)) (den_bool _)
    · rename_i k n hv
      cases h
      rw [hv] at hd
      exact OpS.pure hm (by simp only [execOp, hop, D_int hd]; exact run_v (run_unary_neg k n x.w)) (den_int _ _)
    · cases h
  case convert src dst v =>
    split at h
    · rename_i k n is i hv hs hi
      split at h
      · rename_i k' hk
        cases h
        have hd := hρ v
        rw [hv] at hd
        obtain ⟨_, ds, _, hds, _⟩ := (hE.ty src is hs).parts
        exact OpS.pure hm (by simp only [execOp, hop, D_int hd]; exact run_v (convert_run (hE.ty dst i hi) hk k n x.w ⟨ds, hds⟩)) (den_int _ _)
      · cases h
    · cases h
  case makeFunc fn first caps =>
    split at h
    · rename_i f cs hfirst hcaps
      cases h
      obtain ⟨h1, h2⟩ := caps_den hρ hcaps
      have hf : first = #[] := by apply Array.size_eq_zero_iff.1; exact hfirst
      subst hf
      refine OpS.pure (v := .func (.func f) #[] (caps.map a.eval)) hm (by simp [execOp, hop, Instr.makeFunc]) ⟨rfl, 0, h1, ?_⟩
      rw [← h2]
      have : caps.map a.eval = (caps.toList.map a.eval).toArray := by apply Array.toList_inj.1; simp
      rw [this]
    · cases h
  case makeSlice t l c =>
    split at h
    · rename_i i k n k' n' hi hl hc
      split at h
      · rename_i e he
        split at h
        · rename_i ie hie
          split at h
          · rename_i q hq
            split at h
            · rename_i z hz
              cases h
              obtain ⟨h0, h1, h2, h3, _⟩ := ho
              subst h1
              have hdl := hρ l
              have hdc := hρ c
              rw [hl] at hdl
              rw [hc] at hdc
              obtain ⟨cells, hr, hden, hsz⟩ := makeSlice_run (x := x) (hE.ty t i hi) he (hE.ty e ie hie) hq (k := k) (k' := k') h0 h2 h3 hz
              have hpn : m p = none := hfresh p (.sq z) (by simp) (hp p (Nat.le_refl _))
              refine .value _ (allocCtx x p (.cells cells e)) (by simp only [execOp, hop, D_int hdl, D_int hdc]; exact run_v hr) (tr_alloc hm hpn cells e _ hden) ?_
              refine ⟨rfl, 0, .inr ⟨by simp [allocCtx], n.toNat, cells, e, by simp [allocCtx], Nat.le_refl _, by simp only [maxLen]; omega, ?_, by omega⟩⟩
              simp only [allocCtx, if_true]
              exact heap_alloc_new x.w _
            · cases h
          · cases h
        · cases h
      · cases h
    · cases h
  case slice t v lo hi mx =>
    split at h
    · rename_i i hh mm hi' hlo hhi hmx
      split at h
      · rename_i e q ha hs hq
        split at h
        · rename_i ie hie
          split at h
          · rename_i hes
            cases h
            obtain ⟨h0, h1, h2, _⟩ := ho
            have hd := hρ v
            rw [hq] at hd
            rcases optInt_den hρ hlo with ⟨_, hl⟩ | ⟨_, _, hl, _⟩
            · rcases optInt_den hρ hhi with ⟨hl', _⟩ | ⟨n2, k2, hl2, hv2⟩
              · cases hl'
              · rcases optInt_den hρ hmx with ⟨hl', _⟩ | ⟨n3, k3, hl3, hv3⟩
                · cases hl'
                · cases hl2; cases hl3
                  obtain ⟨u, hr, hdu⟩ := slice3_sound (hE.ty t i hi') hs (hE.ty e ie hie) hes hd (k := k2) (k' := k3) h0 h1 h2
                  exact OpS.pure hm (by simp only [execOp, hop, hl, hv2, hv3]; exact run_v hr) hdu
            · cases hl
          · cases h
        · cases h
      · cases h
    · rename_i i lo' hi'' hi' hlo hhi hmx
      have hmx' : mx.map a.eval = none := by
        rcases optInt_den hρ hmx with ⟨_, hl⟩ | ⟨_, _, hl, _⟩
        · exact hl
        · cases hl
      have conv : ∀ {r : Option Int} {oo : Option Operand}, optInt (oo.map ρ) = some r → (r = none ∧ oo.map a.eval = none) ∨ ∃ n k, r = some n ∧ oo.map a.eval = some (.int k n) := fun h => optInt_den hρ h
      split at h
      · rename_i n e ha hs
        split at h
        · rename_i ie hie
          obtain ⟨obl, it, hb, rfl⟩ := withO_some h
          obtain ⟨u, hr, hdu⟩ := sliceRes_array (hE.ty t i hi') ha (hE.ty e ie hie) hm hsub (hρ v) (conv hlo) (conv hhi) hb ho
          exact OpS.pure hm (by simp only [execOp, hop, hmx']; exact run_v hr) hdu
        · cases h
      · rename_i e ha hs
        split at h
        · rename_i ie hie
          obtain ⟨obl, it, hb, rfl⟩ := withO_some h
          obtain ⟨u, hr, hdu⟩ := sliceRes_slice (hE.ty t i hi') hs (hE.ty e ie hie) (hρ v) (conv hlo) (conv hhi) hb ho
          exact OpS.pure hm (by simp only [execOp, hop, hmx']; exact run_v hr) hdu
        · cases h
      · cases h
    · cases h
  case fieldAddr s v f =>
    split at h
    · rename_i i hi
      split at h
      · rename_i fo fs g hf
        split at h
        · cases h
        · rename_i hfs
          split at h
          · rename_i it hr
            cases h
            obtain ⟨u, hr, hdu⟩ := fieldRes_sound (hE.ty s i hi) hf hfs (hρ v) hr
            exact OpS.pure hm (by simp only [execOp, hop]; exact run_v hr) hdu
          · cases h
      · cases h
    · cases h
  case field s v f =>
    split at h
    · rename_i i l hi hl
      split at h
      · rename_i fo fs g hf
        split at h
        · rename_i hsz
          split at h
          · rename_i rr hr
            split at h
            · rename_i vv hv
              cases h
              have hd := hρ v
              rw [hl] at hd
              obtain ⟨z, hr', hdz⟩ := field_sound (hE.ty s i hi) hf hsz.2 hd hr hv
              exact OpS.pure hm (by simp only [execOp, hop]; exact run_v hr') hdz
            · cases h
          · cases h
        · cases h
      · cases h
    · cases h
  case indexAddr t v ix =>
    split at h
    · rename_i i k n hi hn
      have hix := intIt_den hn (hρ ix)
      split at h
      · rename_i len e ha hs
        split at h
        · rename_i ie hie
          obtain ⟨obl, it, hb, rfl⟩ := withO_some h
          obtain ⟨u, hr, hdu⟩ := indexRes_array (hE.ty t i hi) ha (hE.ty e ie hie) (hρ v) (k := k) hb ho
          exact OpS.pure hm (by simp only [execOp, hop, hix]; exact run_v hr) hdu
        · cases h
      · rename_i e ha hs
        split at h
        · rename_i ie hie
          obtain ⟨obl, it, hb, rfl⟩ := withO_some h
          obtain ⟨u, hr, hdu⟩ := indexRes_slice (hE.ty t i hi) hs (hE.ty e ie hie) (hρ v) (k := k) hb ho
          exact OpS.pure hm (by simp only [execOp, hop, hix]; exact run_v hr) hdu
        · cases h
      · cases h
    · cases h
  case index t v ix =>
    split at h
    · rename_i i l k n hi hl hn
      have hix := intIt_den hn (hρ ix)
      have hd := hρ v
      rw [hl] at hd
      split at h
      · rename_i len e ha
        split at h
        · rename_i ie hie
          split at h
          · rename_i ob hag hcl
            split at h
            · rename_i hk
              cases h
              obtain ⟨h0, h1, _⟩ := ho
              exact OpS.pure hm (by simp only [execOp, hop, hix]; exact run_v (index_ob (hE.ty t i hi) ha (hE.ty e ie hie) hag hk h0 h1 hd)) (den_int _ _)
            · cases h
          · split at h
            · rename_i hc
              split at h
              · rename_i rr hr
                split at h
                · rename_i vv hv
                  cases h
                  obtain ⟨h0, h1, _⟩ := ho
                  obtain ⟨z, hr', hdz⟩ := index_sound (hE.ty t i hi) ha (hE.ty e ie hie) (k := k) h0 h1 hd hr hv hc.2
                  exact OpS.pure hm (by simp only [execOp, hop, hix]; exact run_v hr') hdz
                · cases h
              · cases h
            · cases h
        · cases h
      · cases h
    · cases h
  case extract v i =>
    split at h
    · rename_i l hl
      split at h
      · rename_i u hu
        cases h
        have hd := hρ v
        rw [hl] at hd
        obtain ⟨vs, hv, hc⟩ := hd
        have : ∀ {l : List V1} {vs : List Value}, denVs x l vs → ∀ {i : Nat} {u : V1}, l[i]? = some u → ∃ z, vs[i]? = some z ∧ denV x u z := by
          intro l vs h
          induction h with
          | nil => intro i u h; simp at h
          | cons h1 _ ih =>
            intro i u h
            cases i with
            | zero => simp only [List.getElem?_cons_zero, Option.some.injEq] at h; subst h; exact ⟨_, rfl, h1⟩
            | succ i => simp only [List.getElem?_cons_succ] at h ⊢; exact ih h
        obtain ⟨z, hz, hdz⟩ := this hc hu
        refine OpS.pure (v := z) hm ?_ hdz
        simp [execOp, hop, hv, Instr.extract, hz]
      · cases h
    · cases h
  case call c =>
    split at h
    · rename_i f hcal
      split at h
      · rename_i g hf
        exact call_sound hE hρ hm hsub hop hcal (g := g) (caps := []) hf (by simpa using h) ho hp hfresh
      · rename_i g caps hne hf
        exact call_sound hE hρ hm hsub hop hcal hf h ho hp hfresh
      · cases h
    · rename_i b hcal
      have hargs : c.args.map a.eval = (c.args.toList.map a.eval).toArray := by apply Array.toList_inj.1; simp
      split at h
      · -- len
        split at h
        · rename_i t hat
          split at h
          · rename_i i hi
            split at h
            · rename_i e it hsl hl
              cases h
              have fin : ∀ {ad : Option Addr} {n cap : Nat}, (c.args.toList.map a.eval) = [.slice ad n cap] → it = .int .i64 n → OpS P o a x m ⟨[], .v (.c it), [], none⟩ := by
                intro ad n cap h1 h2
                subst h2
                exact OpS.pure (v := .int .i64 n) hm (builtin_run hop hcal h1 hat (run_v (len_run (hE.ty t i hi) hsl ad _ x.w))) (den_int _ _)
              have hd := denSs_map hρ c.args.toList
              unfold lenRes at hl
              split at hl
              · rename_i p' off len es heq
                cases hl
                rw [heq] at hd
                obtain ⟨v, hv, h1⟩ := denSs_one hd
                rcases D_slc h1 with ⟨_, _, h0, rfl⟩ | ⟨_, cap, _, _, rfl, _⟩
                · exact fin hv (by rw [h0])
                · exact fin hv rfl
              · rename_i q heq
                cases hl
                rw [heq] at hd
                obtain ⟨v, hv, h1⟩ := denSs_one hd
                obtain ⟨ad, cap, rfl, _⟩ := sl_split h1
                exact fin hv rfl
              · rename_i heq
                cases hl
                rw [heq] at hd
                obtain ⟨v, hv, h1⟩ := denSs_one hd
                obtain ⟨rfl, _⟩ := D_val h1
                exact fin hv rfl
              · cases hl
            · cases h
          · cases h
        · cases h
      · -- min
        split at h
        · rename_i it hl
          cases h
          have hd := denSs_map hρ c.args.toList
          unfold minRes at hl
          split at hl
          · rename_i k1 n1 k2 n2 heq
            cases hl
            rw [heq] at hd
            obtain ⟨v, v', hv, h1, h2⟩ := denSs_two hd
            cases D_int h1; cases D_int h2
            exact OpS.pure hm (builtin_run hop hcal hv rfl (run_v (u := .int k1 (if n2 < n1 then n2 else n1)) (by simp [Builtin.min_, min2_run]))) (den_int _ _)
          · rename_i k1 n1 k2 n2 k3 n3 heq
            cases hl
            rw [heq] at hd
            obtain ⟨v, v', v'', hv, h1, h2, h3⟩ := denSs_three hd
            cases D_int h1; cases D_int h2; cases D_int h3
            exact OpS.pure hm (builtin_run hop hcal hv rfl (run_v (u := .int k1 (if n3 < (if n2 < n1 then n2 else n1) then n3 else (if n2 < n1 then n2 else n1))) (by simp [Builtin.min_, min2_run]))) (den_int _ _)
          · cases hl
        · cases h
      · -- max
        split at h
        · rename_i it hl
          cases h
          have hd := denSs_map hρ c.args.toList
          unfold maxRes at hl
          split at hl
          · rename_i k1 n1 k2 n2 heq
            cases hl
            rw [heq] at hd
            obtain ⟨v, v', hv, h1, h2⟩ := denSs_two hd
            cases D_int h1; cases D_int h2
            exact OpS.pure hm (builtin_run hop hcal hv rfl (run_v (u := .int k1 (if n2 > n1 then n2 else n1)) (by simp [Builtin.max_, max2_run]))) (den_int _ _)
          · cases hl
        · cases h
      · -- append
        split at h
        · rename_i t t' s sx hat has
          split at h
          · rename_i htt
            subst htt
            split at h
            · rename_i i hi
              split at h
              · rename_i e hsl
                split at h
                · rename_i ie hie
                  split at h
                  · rename_i q0 hq0
                    obtain ⟨z, y, hr, ht, hd⟩ := appRes_sound (hE.ty t i hi) hsl (hE.ty e ie hie) hq0 hm hsub (hp p (Nat.le_refl _)) (hρ s) (hρ sx) h ho hfresh o.type
                    exact .value z y (builtin_run hop hcal (args := [a.eval s, a.eval sx]) (by rw [has]; rfl) hat (run_v hr)) ht hd
                  · cases h
                · cases h
              · cases h
            · cases h
          · cases h
        · cases h
      · -- copy
        split at h
        · rename_i t t' hat
          split at h
          · rename_i i hi
            split at h
            · rename_i e hsl
              split at h
              · rename_i ie hie
                split at h
                · rename_i q0 hq0
                  split at h
                  · rename_i ob n ups hc
                    cases h
                    have hd := denSs_map hρ c.args.toList
                    have htwo : ∃ s s', c.args.toList.map ρ = [s, s'] := by
                      unfold copyRes at hc
                      split at hc
                      · rename_i heq; exact ⟨_, _, heq⟩
                      · cases hc
                    obtain ⟨s, s', hss⟩ := htwo
                    rw [hss] at hd hc
                    obtain ⟨v, v', hv, h1, h2⟩ := denSs_two hd
                    obtain ⟨y, hr, ht⟩ := copy_sound (t' := t') (hE.ty t i hi) hsl (hE.ty e ie hie) hq0 hm hsub h1 h2 hc ho o.type
                    exact .value _ y (builtin_run hop hcal hv hat (run_v hr)) ht (den_int _ _)
                  · cases h
                · cases h
              · cases h
            · cases h
          · cases h
        · cases h
      · -- clear
        split at h
        · rename_i t hat
          split at h
          · rename_i i hi
            split at h
            · rename_i e hsl
              split at h
              · rename_i ie hie
                split at h
                · rename_i q0 hq0
                  split at h
                  · rename_i ob ups hc
                    cases h
                    have hd := denSs_map hρ c.args.toList
                    have hone : ∃ s, c.args.toList.map ρ = [s] := by
                      unfold clearRes at hc
                      split at hc
                      · rename_i heq; exact ⟨_, heq⟩
                      · cases hc
                    obtain ⟨s, hss⟩ := hone
                    rw [hss] at hd hc
                    obtain ⟨v, hv, h1⟩ := denSs_one hd
                    obtain ⟨u, y, hr, ht⟩ := clear_sound (hE.ty t i hi) hsl (hE.ty e ie hie) hq0 hm hsub h1 hc ho o.type
                    exact .value u y (builtin_run hop hcal hv hat (run_v hr)) ht trivial
                  · cases h
                · cases h
              · cases h
            · cases h
          · cases h
        · cases h
      · cases h
    · cases h
  all_goals cases h

end
end Go.Proofs.Ytlfllehomhcbfaa
