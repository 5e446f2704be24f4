/- Parts of a proof, one behind the other: Jz. No conditions. -/
import Derived.SizedLaws
import Derived.Test.YtobdghmmbddfnaaCsN
open Go.IntKind (wrap)
namespace Go.Proofs.Ytobdghmmbddfnaa
noncomputable section
section
open Go.ChangeShapes Go.WideShapes Go.ChangeAt Go.RowKit

theorem law_lifted_sized {C:Checked} {n:Nat} {fn:Func} {s:ChangeSpec} {bt:TypeId} (own:ownKnob C.prog.godebug=none) (hinit:C.prog.inits.idxOf? n=none) (hfn:C.prog.funcs[n]? = some fn) (hl:laidOutB C.prog=true)
    (hpar' : (fn.params.toList.all fun t=>C.prog.readableRec t && Nat.blt t C.prog.types.size)=true) (hres:fn.resultTypes = #[bt]) (hbt:C.prog.underlying bt=some .bool) (hv:s.vars=[])
    {H:Type} {enc:TypeId×Value→H} (hs:∀ds:List (DataW H),ds.length=fn.params.toList.length→s.fn H (ds++[]) = { results:=[.lit (.bool true)],args:=ds }) {os:Os} (started:os.Started)
    (wit:∃(w:World) (tape:Tape) (i:Input),w.os=os∧World.Shaped C.prog (w.forCall tape i)∧i.vars=[]∧Input.okWide C.prog (w.forCall tape i) Reach.any w.heap.size n i∧ChangeSpec.pre6 enc C.prog fn s [] false (w.forCall tape i).memory i.args ∧
      ({}:Assume).holds C.prog (lone (Frame.enter C.prog n i.args CallKind.normal) [] (w.forCall tape i)))
    (walk:∀(W:World) (base:Nat) (args:Array Value) (ds:List (DataW H)) (ps:List MemPlace),(∀(j:Nat) t v,fn.params[j]? = some t→args[j]? = some v→Value.okWide C.prog W .any base t v) →
      DataW.TrodAll enc C.prog W 0 (fun _=>true) true fn.params.toList args.toList ds ps →
      (∀(j:Nat) t d,fn.params.toList[j]? = some t→ds[j]? = some d→∀m∈d.weights C.prog t,m≤reachBytes) →
      ∃svs,denSs (X0 W) svs args.toList∧FnD C.prog n svs (.v (.c (.bool true))) []) :
    ReturnsInHanded {} C os n .any (s.pre6 enc C.prog fn [] false) (s.post enc C.prog fn false true false false):=by
  have hpar:∀t∈fn.params.toList,C.prog.readableRec t=true∧t<C.prog.types.size:=fun t ht=>by
    have:=List.all_eq_true.1 hpar' t ht
    simpa using this
  refine returnsInHanded_of_change_sized own started hinit hfn wit ?_
  intro W base args ds gs before hval hW _ hz0 _
  have hW' := hW
  obtain ⟨p,q,hA,hV,rfl,hz,hn⟩:=hW
  have hgs:gs=[]:=by
    rw[hv] at hV
    cases gs with
    | nil=>rfl
    | cons _ _=>exact hV.elim
  subst hgs
  obtain ⟨svs,h1,h2⟩:=walk W base args ds p hval hA fun j t d ht hd m hm=>by
    have hj:j<fn.params.toList.length:=(List.getElem?_eq_some_iff.1 ht).1
    have:=List.all_eq_true.1 hz0 m (DataW.weights_mem_each (j:=j) (by rw[List.getElem?_append_left hj];exact ht) (by rw[List.append_nil];exact hd) m hm)
    simpa using this
  have hlen:=trodAll_len hA
  have hc:=h2 (X0 W) args.toList (fun _=>rfl) (fun b hb=>hb) h1
  have e:args.toList.toArray=args:=by simp
  rw[e] at hc
  refine hc.mono fun e w' ⟨v,y,he,hw,ht,hd⟩=>?_
  subst hw
  have hvb:=D_bool hd
  subst hvb
  exact ⟨_,he,law_post hl hpar hres hbt hv (below_of ht) (hs ds hlen) hW'⟩

/-- How long a slice is that is read: its bytes lie within the reach. -/
theorem slice_sized {P:Program} {t e:Nat} (ht:P.underlying t=some (.slice e)) {H:Type} {enc:TypeId×Value→H} {W:World} {q:Sq} {v:Value} {d:DataW H} {ps:List MemPlace}
  (hd:denS (X0 W) (.v (.c (.sl q))) v) (h:DataW.Trod enc P W 0 (fun _=>true) true t v d ps) (hw:∀m∈d.weights P t,m≤reachBytes):q.n*P.bytesOf e≤reachBytes:=by
 obtain ⟨_,dp,h1⟩:=hd
 obtain ⟨fuel,h⟩:=h
 have key:q.n=0∨∃a cap,v = .slice (some a) q.n cap:=by
  cases dp with
  | zero=>exact h1.elim
  | succ dp=>
   rcases (show (∃a cap,[v]=[.slice a 0 cap]∧q.n=0)∨(∃b o cap,[v]=[.slice (some ⟨b,o,none⟩) q.n cap]∧q.n≤cap∧q.n≤maxLen∧_) from h1) with ⟨a,cap,_,h0⟩ | ⟨b,off,cap,hv,_⟩
   ·exact .inl h0
   ·exact .inr ⟨_,_,(List.cons.inj hv).1⟩
 rcases key with h0 | ⟨a,cap,rfl⟩
 ·rw[h0,Nat.zero_mul]
  exact Nat.zero_le _
 ·cases fuel with
  | zero=>simp [DataW.trod] at h
  | succ fuel=>
   unfold DataW.trod at h
   simp only[Value.cells,ht] at h
   split at h
   ·cases hm:((List.range q.n).mapM fun i=>(W.cells? 0 (a.add (i*P.cellsOf e)) (P.cellsOf e)).bind (DataW.trod enc P W 0 (fun _=>true) true fuel e)) with
    | none=>rw[hm] at h;cases h
    | some xs=>
     rw[hm] at h
     have hlen:=(mapM_list hm).1
     rw[List.length_range] at hlen
     obtain ⟨rest,_,hx⟩:=Option.map_eq_some_iff.1 h
     obtain ⟨rfl,_⟩:=Prod.mk.inj hx
     have:=hw ((xs.map (·.1)).length+(rest.map (·.1)).length |> (· * P.bytesOf e)) (by simp [DataW.weights,ht])
     rw[List.length_map,hlen] at this
     exact Nat.le_trans (Nat.mul_le_mul_right _ (Nat.le_add_right _ _)) this
   ·cases h

end

end
end Go.Proofs.Ytobdghmmbddfnaa
