/- Parts of a proof, one behind the other: Mv. No conditions. -/
import Derived.Test.YtdeohachoeopdaaKbG
/- A block is told at another position. No conditions. -/
namespace Go.Proofs.Ytdeohachoeopdaa

/-- What stood at p stands at r now; of the others only these are known. -/
def mvCtx (x:Ctx) (keep:List Nat) (p r:Nat):Ctx:={ x with β:=fun q=>if q=r then x.β p else x.β q,k:=fun q=>if q=r then .real else if hasN q keep then x.k q else .no }

section
variable {w0:World} {F0:Nat→Prop} {K:Kp} {aq:List Act} {x:Ctx} {a:Act} {keep:List Nat} {p r:Nat}

theorem mv_ext (hr:x.k r = .no):Ext (keepCtx x keep) (mvCtx x keep p r):=by
  have hne:∀q,(keepCtx x keep).k q ≠ .no→q≠r:=fun q hq e=>by
    subst e
    apply hq
    simp only[keepCtx,hr]
    split<;>rfl
  refine ⟨Nat.le_refl _,fun _ h=>⟨h,rfl⟩,fun q hq=>?_,fun q hq=>?_,fun q hq cs ty h=>⟨cs,h,rfl⟩⟩
  · show (if q=r then Kd.real else if hasN q keep then x.k q else .no)=_
    rw[if_neg (hne q hq)]
    rfl
  · show (if q=r then x.β p else x.β q)=x.β q
    rw[if_neg (hne q (by rw[hq];intro h;cases h))]

/-- Slots that tell of the block at its new position, or not of it. -/
def convM (keep:List Nat) (p r:Nat):List SV→List SV→Prop
  | [],[]=>True
  | s::l,s' :: l' => ((s' = s∧refS keep s=true)∨∃off,s = .v (.c (.ptr p off))∧s' = .v (.c (.ptr r off)))∧convM keep p r l l'
  | _,_=>False
theorem mv_ptr {off:Nat} {v:Value} (h:denS x (.v (.c (.ptr p off))) v):denS (mvCtx x keep p r) (.v (.c (.ptr r off))) v:=by
  obtain ⟨h0,d,hd⟩:=h
  refine ⟨h0,d,?_⟩
  cases d<;>(simp only[den] at hd ⊢;exact ⟨by simp [mvCtx],by rw[hd.2];simp [mvCtx]⟩)
theorem look_mv (hr:x.k r = .no):∀{tl:List Nat} {svs svs' : List SV},convM keep p r svs svs' → ∀t v,denS x (look .top tl svs t) v→denS (mvCtx x keep p r) (look .top tl svs' t) v
  | [],svs,svs',_,t,v,_=>by
    cases svs'<;>trivial
  | _::_,[],[],_,t,v,_=>trivial
  | _::_,[],_::_,h,_,_,_=>h.elim
  | _::_,_::_,[],h,_,_,_=>h.elim
  | n::tl,s::l,s' :: l',h,t,v,hd=>by
    simp only[look] at hd ⊢
    by_cases e:t=n
    · rw[if_pos e] at hd ⊢
      rcases h.1 with ⟨e1,h1⟩ | ⟨off,e1,e2⟩
      · rw[e1]
        exact denS_ext (mv_ext hr) (keep_S h1 hd)
      · subst e1 e2
        exact mv_ptr hd
    · rw[if_neg e] at hd ⊢
      exact look_mv hr h.2 t v hd

theorem look_mem:∀{ml:List Nat} {ens:List (Option En)} {q:Nat},look none ml ens q≠none→hasN q ml=true
  | [],_,_,h=>by simp [look] at h
  | _::_,[],_,h=>by simp [look] at h
  | n::ml,e::ens,q,h=>by
    simp only[look] at h
    simp only[hasN]
    by_cases hq:q=n
    · rw[if_pos hq.symm]
    · rw[if_neg hq] at h
      rw[if_neg (Ne.symm hq)]
      exact look_mem h
theorem look_fl:∀{ml:List Nat} {ens:List (Option En)},refEns keep ens=true→∀{q:Nat} {l:List It},look none ml ens q=some (.fl l)→refIts keep l=true
  | [],_,_,_,_,h=>by simp [look] at h
  | _::_,[],_,_,_,h=>by simp [look] at h
  | n::ml,some (.fl s)::ens,h,q,l,hl=>by
    simp only[look] at hl
    simp only[refEns,Bool.and_eq_true] at h
    by_cases hq:q=n
    · rw[if_pos hq] at hl;cases hl;exact h.1
    · rw[if_neg hq] at hl;exact look_fl h.2 hl
  | n::ml,some (.sq s)::ens,h,q,l,hl=>by
    simp only[look] at hl
    simp only[refEns] at h
    by_cases hq:q=n
    · rw[if_pos hq] at hl;cases hl
    · rw[if_neg hq] at hl;exact look_fl h hl
  | _::_,none::_,h,_,_,_=>by cases h
theorem hasN_sub {keep:List Nat}:∀{ml:List Nat},(ml.all fun q=>decide (q=p) || hasN q keep)=true→∀{q:Nat},hasN q ml=true→q≠p→hasN q keep=true
  | [],_,_,h,_=>by cases h
  | n::ml,ha,q,h,hq=>by
    simp only[List.all_cons,Bool.and_eq_true] at ha
    simp only[hasN] at h
    split at h
    · rename_i e
      subst e
      have:=ha.1
      simpa [hq] using this
    · exact hasN_sub ha.2 h hq

theorem Sim.move {nt nx:Nat} {tl:List Nat} {svs:List SV} {ml:List Nat} {ens:List (Option En)}
    (hs:Sim w0 F0 K aq (mkSt nt tl svs ml ens nx [] []) x a) (keep:List Nat) (p r:Nat) (hpin:K.pin=none) (hp:∃l,look none ml ens p=some (.fl l)) (hr:look none ml ens r=none) (hkp:hasN p keep=false) (hkr:hasN r keep=false) (hkm:(ml.all fun q=>decide (q=p) || hasN q keep)=true)
    (he:refEns keep ens=true) {svs' : List SV} (hc:convM keep p r svs svs') {ml' : List Nat} {ens' : List (Option En)} (hl:∀q,look none ml' ens' q=if q=r then look none ml ens p else if q=p then none else look none ml ens q) :
    Sim w0 F0 K aq (mkSt nt tl svs' ml' ens' nx [] []) (mvCtx x keep p r) a:=by
  have hm:=hs.mem
  have hno:x.k r = .no:=(hm.dom r).1 hr
  obtain ⟨l0,hp⟩:=hp
  have hreal:x.k p = .real:=hm.fl p l0 hp
  have hpr:p≠r:=fun e=>by rw[e,hr] at hp;cases hp
  have hext:=mv_ext (keep:=keep) (p:=p) hno
  have kr:(mvCtx x keep p r).k r = .real:=by simp [mvCtx]
  have br:(mvCtx x keep p r).β r=x.β p:=by simp [mvCtx]
  have ko:∀q,q≠r→(mvCtx x keep p r).k q=if hasN q keep then x.k q else .no:=fun q hq=>by simp [mvCtx,hq]
  have bo:∀q,q≠r→(mvCtx x keep p r).β q=x.β q:=fun q hq=>by simp [mvCtx,hq]
  have kreal:∀q,q≠r→(mvCtx x keep p r).k q = .real→x.k q = .real∧q≠p:=fun q hq h=>by
    rw[ko q hq] at h
    split at h
    · rename_i hk
      exact ⟨h,fun e=>by rw[e,hkp] at hk;cases hk⟩
    · cases h
  have den_ok:∀q e cs,look none ml ens q=some e→denEn x e cs→denEn (mvCtx x keep p r) e cs:=fun q e cs hq hd=>by
    refine denEn_ext hext ?_
    cases e with
    | fl l=>exact keep_cat (look_fl he hq) hd
    | sq q=>exact ⟨hd.1,fun i hi=>let ⟨c,hc,hj⟩:=hd.2 i hi;⟨c,cat_data (x:=x) (y:=keepCtx x keep) rfl (fun b hb=>hb) (ownFree_get q i) hc,hj⟩⟩
  refine ⟨hs.defers,hs.nt,fun t=>look_mv hno hc t _ (hs.t t),?_,?_,?_⟩
  · refine ⟨fun q=>?_,fun q l hq=>?_,fun q s hq hn=>?_,fun q e hq hk=>?_,fun q s hq hs e=>?_,fun q hq=>?_,fun b hb=>hm.fw b hb⟩
    · show look none ml' ens' q=none↔_
      rw[hl]
      by_cases e:q=r
      · subst e
        rw[if_pos rfl,hp,kr]
        constructor<;>(intro h;cases h)
      · rw[if_neg e,ko q e]
        by_cases e2:q=p
        · subst e2
          rw[if_pos rfl,hkp]
          exact ⟨fun _=>rfl,fun _=>rfl⟩
        · rw[if_neg e2]
          by_cases hk:hasN q keep=true
          · rw[if_pos hk]
            exact hm.dom q
          · rw[if_neg hk]
            refine ⟨fun _=>rfl,fun _=>?_⟩
            by_cases hn:look none ml ens q=none
            · exact hn
            · exact absurd (hasN_sub hkm (look_mem hn) e2) hk
    · have hq:look none ml' ens' q=some (.fl l):=hq
      rw[hl] at hq
      by_cases e:q=r
      · subst e;exact kr
      · rw[if_neg e] at hq
        by_cases e2:q=p
        · rw[if_pos e2] at hq;cases hq
        · rw[if_neg e2] at hq
          rw[ko q e,if_pos (hasN_sub hkm (look_mem (by rw[hq];intro h;cases h)) e2)]
          exact hm.fl q l hq
    · have hq:look none ml' ens' q=some (.sq s):=hq
      rw[hl] at hq
      by_cases e:q=r
      · subst e;rw[kr] at hn;cases hn
      · rw[if_neg e] at hq
        by_cases e2:q=p
        · rw[if_pos e2] at hq;cases hq
        · rw[if_neg e2] at hq
          rw[ko q e,if_pos (hasN_sub hkm (look_mem (by rw[hq];intro h;cases h)) e2)] at hn
          exact hm.nil q s hq hn
    · have hq:look none ml' ens' q=some e:=hq
      rw[hl] at hq
      by_cases e1:q=r
      · subst e1
        rw[if_pos rfl] at hq
        obtain ⟨cs,ty,h1,h2⟩:=hm.ent p e hq hreal
        exact ⟨cs,ty,by rw[br];exact h1,den_ok p e _ hq h2⟩
      · obtain ⟨g1,g2⟩:=kreal q e1 hk
        rw[if_neg e1,if_neg g2] at hq
        obtain ⟨cs,ty,h1,h2⟩:=hm.ent q e hq g1
        exact ⟨cs,ty,by rw[bo q e1];exact h1,den_ok q e _ hq h2⟩
    · by_cases e1:q=r
      · by_cases e2:s=r
        · rw[e1,e2]
        · obtain ⟨g1,g2⟩:=kreal s e2 hs
          rw[e1,br,bo s e2] at e
          exact absurd (hm.inj p s hreal g1 e).symm g2
      · obtain ⟨g1,g2⟩:=kreal q e1 hq
        by_cases e2:s=r
        · rw[e2,br,bo q e1] at e
          exact absurd (hm.inj q p g1 hreal e) g2
        · obtain ⟨g3,_⟩:=kreal s e2 hs
          rw[bo q e1,bo s e2] at e
          exact hm.inj q s g1 g3 e
    · by_cases e:q=r
      · rw[e,br];exact hm.own p hreal
      · rw[bo q e];exact hm.own q (kreal q e hq).1
  · have hb:=hs.base
    refine ⟨hb.f0,hb.fn,hb.size,hb.keep,fun q hq hlt=>?_,hb.os,hb.tape,hb.output,fun q hq=>by rw[hpin] at hq;cases hq⟩
    by_cases e:q=r
    · rw[e,br] at hlt ⊢
      exact hb.ownK p hreal hlt
    · rw[bo q e] at hlt ⊢
      exact hb.ownK q (kreal q e hq).1 hlt
  · have hf:Frs x K.ds [] aq:=hs.frs
    cases hf
    exact .nil
end
end Go.Proofs.Ytdeohachoeopdaa
