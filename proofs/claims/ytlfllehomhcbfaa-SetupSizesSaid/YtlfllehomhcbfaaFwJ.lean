/- Loads and stores, addresses and pieces: the executor tells of them what they do. No conditions. -/
import Derived.Test.YtlfllehomhcbfaaFwI
namespace Go.Proofs.Ytlfllehomhcbfaa

section
variable {P : Program} {x : Ctx} {m m' : Nat → Option En}

theorem cell_at {w : World} {b : Nat} {cs : Array Value} {ty : TypeId} {fz : Nat × Nat} (h : w.heap[b]? = some (.cells cs ty fz)) (o : Nat) : w.cell? ⟨b, o, none⟩ = cs.toList[o]? := by
  simp [World.cell?, h]

/-- What is loaded where the cells of parts stand. -/
theorem load_cells {t : Nat} {i : TyI} (ht : TyOk P t i) {r : List It} {c : List Value} {v : V1} {d b o : Nat} (hc : catL (den x d) r c) (hs : itsSize r = i.cells) (hv : mkV i.agg r = some v)
    (hcell : ∀ (j : Nat) (u : Value), c[j]? = some u → x.w.cell? ⟨b, o + j, none⟩ = some u) :
    ∃ u, (Instr.loadAt t (.pointer (some ⟨b, o, none⟩))).run P x.w = .ok u x.w ∧ denV x v u := by
  obtain ⟨inf, dd, hi, hd, hsz, _, ha, h1, _⟩ := ht.parts
  have hl := catL_len hc
  have hrun := run_loadVar ht (w := x.w) (b := b) (o := o) (cs := c) (by omega) hcell
  refine ⟨_, ?_, (mkV_den hv (catL_D hc) (fun g => by rw [hs]; exact h1 g)).1⟩
  simp [Instr.loadAt, Instr.sureAddr, hrun]

theorem piece_cell {cs : List Value} {off n : Nat} {w : World} {b o : Nat} (h : ∀ (j : Nat) (u : Value), cs[j]? = some u → w.cell? ⟨b, o + j, none⟩ = some u) :
    ∀ (j : Nat) (u : Value), ((cs.drop off).take n)[j]? = some u → w.cell? ⟨b, o + off + j, none⟩ = some u := by
  intro j u hu
  rw [List.getElem?_take] at hu
  split at hu
  · rw [List.getElem?_drop] at hu
    rw [Nat.add_assoc]; exact h _ _ hu
  · cases hu

theorem loadRes_sound {t : Nat} {i : TyI} (ht : TyOk P t i) (hm : Mem x m) (hsub : ∀ q e, m' q = some e → m q = some e) {s : SV} {av : Value} (hs : denS x s av) {obl : List Prop} {v : V1}
    (h : loadRes m' s i = some (obl, v)) (ho : AllP obl) : ∃ u, (Instr.loadAt t av).run P x.w = .ok u x.w ∧ denV x v u := by
  unfold loadRes at h
  split at h
  · rename_i p off
    obtain ⟨hk, rfl⟩ := D_ptr hs
    split at h
    · rename_i l hl
      obtain ⟨cs, ty, hcs, hden⟩ := hm.ent p _ (hsub _ _ hl) hk
      obtain ⟨d, hden⟩ := catL_ex hden
      have hcell : ∀ (j : Nat) (u : Value), cs.toList[j]? = some u → x.w.cell? ⟨x.β p, 0 + j, none⟩ = some u := by
        intro j u hu; rw [Nat.zero_add, cell_at hcs]; exact hu
      split at h
      · rename_i o hag _
        simp only [Option.some.injEq, Prod.mk.injEq] at h
        obtain ⟨rfl, rfl⟩ := h
        have hlt := ho.1
        obtain ⟨c1, c2, e, g1, g2⟩ := hden
        simp only [catL] at g2
        subst g2
        have hc1 : c1 = o.cells := by cases d <;> simpa [den] using g1
        rw [List.append_nil, hc1] at e
        obtain ⟨inf, dd, hi, hd, hsz, _, ha, h1, _⟩ := ht.parts
        refine load_cells ht (r := [.int .u64 (limb o.n off)]) (c := [.int .u64 (limb o.n off)]) (d := 0) ⟨[_], [], rfl, rfl, rfl⟩ (by simp [itsSize, It.size, h1 hag]) (by simp [mkV, hag]) ?_
        intro j u hu
        cases j with
        | zero =>
          simp only [List.getElem?_cons_zero, Option.some.injEq] at hu
          subst hu
          have := hcell off (.int .u64 (limb o.n off)) (by rw [e]; simp [Ob.cells, hlt])
          simpa using this
        | succ j => simp at hu
      · split at h
        · rename_i r hr
          simp only [Option.map_eq_some_iff] at h
          obtain ⟨v', hv', he⟩ := h
          simp only [Prod.mk.injEq] at he
          obtain ⟨rfl, rfl⟩ := he
          obtain ⟨hc, hsz⟩ := cutAny_den hr hden
          have := piece_cell (off := off) (n := i.cells) hcell
          simp only [Nat.zero_add] at this
          exact load_cells ht hc hsz hv' this
        · cases h
    · rename_i q hq
      split at h
      · rename_i hes
        simp only [Bool.and_eq_true, decide_eq_true_eq] at hes
        simp only [Option.map_eq_some_iff] at h
        obtain ⟨v', hv', he⟩ := h
        simp only [Prod.mk.injEq] at he
        obtain ⟨rfl, rfl⟩ := he
        obtain ⟨cs, ty, hcs, hden⟩ := hm.ent p _ (hsub _ _ hq) hk
        obtain ⟨c, d, hc, hlc, hfit, hcell⟩ := denEn_get hden ho.1
        refine load_cells ht hc (by rw [get_size, hes.1, hes.2]) hv' fun j u hu => ?_
        rw [cell_at hcs]
        have := hcell j u hu
        rwa [hes.1, Nat.mul_one] at this
      · cases h
    · cases h
  · rename_i p es ix off
    obtain ⟨hk, rfl⟩ := D_ep hs
    split at h
    · rename_i q hq
      split at h
      · rename_i hes
        subst hes
        split at h
        · rename_i r hr
          simp only [Option.map_eq_some_iff] at h
          obtain ⟨v', hv', he⟩ := h
          simp only [Prod.mk.injEq] at he
          obtain ⟨rfl, rfl⟩ := he
          obtain ⟨cs, ty, hcs, hden⟩ := hm.ent p _ (hsub _ _ hq) hk
          obtain ⟨c, d, hc, hlc, hfit, hcell⟩ := denEn_get hden ho.1
          obtain ⟨hc', hsz⟩ := cutAny_den hr hc
          refine load_cells ht hc' hsz hv' (piece_cell (o := ix * q.es) fun j u hu => ?_)
          rw [cell_at hcs]
          exact hcell j u hu
        · cases h
      · cases h
    · cases h
  · rename_i q ix off
    obtain ⟨b, o, cs, d, rfl, hix, hc, hF, hrd⟩ := D_rp hs
    split at h
    · rename_i r hr
      simp only [Option.map_eq_some_iff] at h
      obtain ⟨v', hv', he⟩ := h
      simp only [Prod.mk.injEq] at he
      obtain ⟨rfl, rfl⟩ := he
      obtain ⟨hc', hsz⟩ := cutAny_den hr hc
      exact load_cells ht hc' hsz hv' (piece_cell hrd)
    · cases h
  · cases h

/-- What a store makes. -/
theorem store_cells {t : Nat} {i : TyI} (ht : TyOk P t i) (hm : Mem x m) {p : Nat} (hk : x.k p = .real) {u : Value} {cn : List Value} (hu : u.cells = cn.toArray) (hl : cn.length = i.cells) (h1 : ∀ v ∈ cn, v.oneCell' = true)
    {cur : Array Value} {ty : TypeId} (hcs : x.w.heap[x.β p]? = some (.cells cur ty (0, 0))) {o : Nat} (hfit : o + cn.length ≤ cur.size) {e : En}
    (hd : denEn x e (cur.toList.take o ++ cn ++ cur.toList.drop (o + cn.length))) :
    ∃ y, (Instr.storeAt t (.pointer (some ⟨x.β p, o, none⟩)) u).run P x.w = .ok () y.w ∧ Tr x none y (setsM m [(p, e)]) := by
  have hrun := run_storeVar ht (w := x.w) hu hl h1 hcs hfit
  refine ⟨rowCtx x p _, by simp [Instr.storeAt, Instr.sureAddr, hrun, rowCtx]; rfl, tr_row hm hk hcs ?_ e (by simpa using hd)⟩
  simp only [List.size_toArray, List.length_append, List.length_take, List.length_drop, Array.length_toList]
  omega

theorem storeRes_sound {t : Nat} {i : TyI} (ht : TyOk P t i) (hm : Mem x m) (hsub : ∀ q e, m' q = some e → m q = some e) {s xs : SV} {av u : Value} (hs : denS x s av) (hx : denS x xs u) {obl : List Prop} {ups : List (Nat × En)}
    (h : storeRes m' s xs i = some (obl, ups)) (ho : AllP obl) : ∃ y, (Instr.storeAt t av u).run P x.w = .ok () y.w ∧ Tr x none y (setsM m ups) := by
  unfold storeRes at h
  split at h
  · rename_i v
    obtain ⟨cn, hu, hcn⟩ := denV_cells hx
    obtain ⟨dn, hcn⟩ := catL_ex hcn
    have hln := catL_len hcn
    have hone := catL_one hcn
    split at h
    · rename_i hsz
      split at h
      · rename_i p off
        obtain ⟨hk, rfl⟩ := D_ptr hs
        split at h
        · rename_i l hl
          simp only [Option.map_eq_some_iff] at h
          obtain ⟨r, hr, he⟩ := h
          simp only [Prod.mk.injEq] at he
          obtain ⟨rfl, rfl⟩ := he
          obtain ⟨cs, ty, hcs, hden⟩ := hm.ent p _ (hsub _ _ hl) hk
          obtain ⟨d, hden⟩ := catL_ex hden
          obtain ⟨hp, hfit⟩ := pasteAny_den hr (catL_mono (fun _ _ h => den_le (Nat.le_max_left dn d) h) hcn) (catL_mono (fun _ _ h => den_le (Nat.le_max_right dn d) h) hden)
          exact store_cells ht hm hk hu (by omega) hone hcs (by simpa using hfit) (catL_D hp)
        · rename_i q hq
          split at h
          · rename_i hes
            simp only [Bool.and_eq_true, decide_eq_true_eq] at hes
            simp only [Option.map_eq_some_iff] at h
            obtain ⟨r, hr, he⟩ := h
            simp only [Prod.mk.injEq] at he
            obtain ⟨rfl, rfl⟩ := he
            obtain ⟨cs, ty, hcs, hden⟩ := hm.ent p _ (hsub _ _ hq) hk
            have hnew := denEn_set hden ho.1 hr hcn
            have hlt := ho.1
            have hn := hden.1
            rw [hes.1, Nat.mul_one] at hnew
            have hl1 : cn.length = 1 := by omega
            rw [hes.1, Nat.mul_one] at hn
            refine store_cells ht hm hk hu (by omega) hone hcs (by simp at hn; omega) ?_
            rw [hl1]; exact hnew
          · cases h
        · cases h
      · rename_i p es ix off
        obtain ⟨hk, rfl⟩ := D_ep hs
        split at h
        · rename_i q hq
          split at h
          · rename_i hes
            subst hes
            split at h
            · rename_i r hr
              simp only [Option.map_eq_some_iff] at h
              obtain ⟨q', hq', he⟩ := h
              simp only [Prod.mk.injEq] at he
              obtain ⟨rfl, rfl⟩ := he
              obtain ⟨cs, ty, hcs, hden⟩ := hm.ent p _ (hsub _ _ hq) hk
              obtain ⟨c, d, hc, hlc, hfit, hcell⟩ := denEn_get hden ho.1
              obtain ⟨hp, hfit'⟩ := pasteAny_den hr (catL_mono (fun _ _ h => den_le (Nat.le_max_left dn d) h) hcn) (catL_mono (fun _ _ h => den_le (Nat.le_max_right dn d) h) hc)
              have hnew := denEn_set hden ho.1 hq' hp
              have hsplit : (cs.toList.drop (ix * q.es)).take q.es = c := by
                apply List.ext_getElem?
                intro j
                rw [List.getElem?_take]
                split
                · rename_i hj
                  rw [List.getElem?_drop]
                  have hjc : j < c.length := by omega
                  rw [hcell j c[j] (by simp [hjc])]
                  simp [hjc]
                · rw [List.getElem?_eq_none (by omega)]
              refine store_cells ht hm hk hu (by omega) hone hcs (by simp at hfit; omega) ?_
              have : cs.toList.take (ix * q.es + off) ++ cn ++ cs.toList.drop (ix * q.es + off + cn.length) =
                  cs.toList.take (ix * q.es) ++ (c.take off ++ cn ++ c.drop (off + cn.length)) ++ cs.toList.drop (ix * q.es + q.es) := by
                rw [← hsplit]
                simp only [List.append_assoc]
                rw [List.take_add, List.append_assoc, List.take_take, Nat.min_eq_left (by omega)]
                congr 3
                rw [List.drop_take, List.drop_drop]
                rw [show q.es - (off + cn.length) = q.es - (off + cn.length) from rfl]
                rw [show cs.toList.drop (ix * q.es + q.es) = (cs.toList.drop (ix * q.es + (off + cn.length))).drop (q.es - (off + cn.length)) by
                  rw [List.drop_drop]; congr 1; omega]
                rw [List.take_append_drop, Nat.add_assoc]
              rw [this]
              exact hnew
            · cases h
          · cases h
        · cases h
      · cases h
    · cases h
  · cases h

/-- A pointer to a field. -/
theorem fieldAt_run {s : Nat} {i : TyI} (ht : TyOk P s i) {f fo fs : Nat} {g : Bool} (hf : i.fields[f]? = some (fo, fs, g)) (hfs : fs ≠ 0) (b o : Nat) (w : World) :
    (Instr.fieldAt s (.pointer (some ⟨b, o, none⟩)) f).run P w = .ok (.pointer (some ⟨b, o + fo, none⟩)) w := by
  obtain ⟨inf, d, hi, hd, hsz, _, ha, h1, hz, hfl, har, hsl, hkd, heq, hes, hfd⟩ := ht.parts
  obtain ⟨fields, rfl⟩ := hfd (by intro e; rw [e] at hf; simp at hf)
  obtain ⟨hok, _⟩ := hfl _ rfl
  obtain ⟨fd, hget, hoff, inf', d', hi', hd', hs', _⟩ := fieldsOk_get hok f fo fs g hf
  have hget' : fields[f]? = some fd := by simpa using hget
  have hsz0 : ¬ inf'.size = 0 := by rw [hs']; exact hfs
  simp [Instr.fieldAt, run_underlying hd, hget', Instr.sureAddr, fieldPlace, Go.sizeOf, typeInfo, hi', hsz0, hoff, Addr.add_lit]

theorem fieldRes_sound {s : Nat} {i : TyI} (ht : TyOk P s i) {f fo fs : Nat} {g : Bool} (hf : i.fields[f]? = some (fo, fs, g)) (hfs : fs ≠ 0) {sv : SV} {v : Value} (hd : denS x sv v) {r : It} (h : fieldRes sv fo = some r) :
    ∃ u, (Instr.fieldAt s v f).run P x.w = .ok u x.w ∧ denS x (.v (.c r)) u := by
  unfold fieldRes at h
  split at h
  · cases h
    obtain ⟨hk, rfl⟩ := D_ptr hd
    exact ⟨_, fieldAt_run ht hf hfs _ _ _, rfl, 0, hk, rfl⟩
  · cases h
    obtain ⟨hk, rfl⟩ := D_ep hd
    exact ⟨_, fieldAt_run ht hf hfs _ _ _, rfl, 0, hk, by rw [Nat.add_assoc]⟩
  · cases h
    obtain ⟨b, o, cs, d, rfl, hix, hc, hrd⟩ := D_rp hd
    exact ⟨_, fieldAt_run ht hf hfs _ _ _, rfl, d + 1, b, o, cs, by rw [Nat.add_assoc], hix, hc, hrd⟩
  · cases h

/-- A pointer to an element. -/
theorem indexAt_slice {t e : Nat} {i ie : TyI} (ht : TyOk P t i) (hsl : i.slc = some e) (hte : TyOk P e ie) {k : IntKind} {n : Int} (h0 : 0 ≤ n) {b o len cap : Nat} (hn : n < len) (w : World) :
    (Instr.indexAt t (.slice (some ⟨b, o, none⟩) len cap) (.int k n)).run P w = .ok (.pointer (some ⟨b, o + n.toNat * ie.cells, none⟩)) w := by
  obtain ⟨inf, d, hi, hd, _, _, _, _, _, _, _, hs, _⟩ := ht.parts
  obtain ⟨rfl, _⟩ := hs e hsl
  simp [Instr.indexAt, asIntOf, run_underlying hd, h0, hn, hte.sizeOf, Addr.add_lit]

theorem indexAt_array {t e len : Nat} {i ie : TyI} (ht : TyOk P t i) (har : i.arr = some (len, e)) (hte : TyOk P e ie) {k : IntKind} {n : Int} (h0 : 0 ≤ n) {b o : Nat} (hn : n < len) (w : World) :
    (Instr.indexAt t (.pointer (some ⟨b, o, none⟩)) (.int k n)).run P w = .ok (.pointer (some ⟨b, o + n.toNat * ie.cells, none⟩)) w := by
  obtain ⟨inf, d, hi, hd, _, _, _, _, _, _, ha, _, _⟩ := ht.parts
  obtain ⟨rfl, _⟩ := ha len e har
  simp [Instr.indexAt, asIntOf, run_underlying hd, h0, hn, hte.sizeOf, Addr.add_lit, Instr.sureAddr]

theorem indexRes_slice {t e : Nat} {i ie : TyI} (ht : TyOk P t i) (hsl : i.slc = some e) (hte : TyOk P e ie) {s : SV} {v : Value} (hd : denS x s v) {k : IntKind} {n : Int} {obl : List Prop} {r : It}
    (h : indexRes m' s n none ie.cells = some (obl, r)) (ho : AllP obl) : ∃ u, (Instr.indexAt t v (.int k n)).run P x.w = .ok u x.w ∧ denS x (.v (.c r)) u := by
  unfold indexRes at h
  split at h
  · rename_i p off len es'
    split at h
    · rename_i hes
      subst hes
      rcases D_slc hd with ⟨_, _, hlen, _⟩ | ⟨hk, cap, cs, ty, rfl, hlc, hcm, hcs, hfit⟩
      · split at h
        · split at h
          · cases h; have := ho.1; have := ho.2.1; omega
          · cases h
        · cases h; have := ho.1; have := ho.2.1; omega
        · cases h
      · split at h
        · split at h
          · cases h
            obtain ⟨g1, g2, g3, _⟩ := ho
            subst g3
            exact ⟨_, indexAt_slice ht hsl hte g1 g2 _, rfl, 0, hk, by simp⟩
          · cases h
        · cases h
          exact ⟨_, indexAt_slice ht hsl hte ho.1 ho.2.1 _, rfl, 0, hk, rfl⟩
        · cases h
    · cases h
  · rename_i q _
    split at h
    · rename_i hes
      cases h
      rcases D_sl hd with ⟨a, cap, rfl, hn⟩ | ⟨b, o, cap, rfl, hlc, hcm, d, hel⟩
      · have := ho.1; have := ho.2.1; omega
      · have h0 := ho.1
        have hlt : n.toNat < q.n := by have := ho.2.1; omega
        obtain ⟨cs, hc, hrd⟩ := hel n.toNat hlt
        rw [hes] at hrd
        exact ⟨_, indexAt_slice ht hsl hte ho.1 ho.2.1 _, rfl, d + 1, b, o + n.toNat * ie.cells, cs, by simp, hlt, hc, hrd⟩
    · cases h
  · rename_i hh; cases hh
  · rename_i hh; cases hh
  · rename_i hh; cases hh
  · cases h

theorem indexRes_array {t e len : Nat} {i ie : TyI} (ht : TyOk P t i) (har : i.arr = some (len, e)) (hte : TyOk P e ie) {s : SV} {v : Value} (hd : denS x s v) {k : IntKind} {n : Int} {obl : List Prop} {r : It}
    (h : indexRes m' s n (some len) ie.cells = some (obl, r)) (ho : AllP obl) : ∃ u, (Instr.indexAt t v (.int k n)).run P x.w = .ok u x.w ∧ denS x (.v (.c r)) u := by
  unfold indexRes at h
  split at h
  · rename_i hh; cases hh
  · rename_i hh; cases hh
  · rename_i n' p off hh
    cases hh
    obtain ⟨hk, rfl⟩ := D_ptr hd
    split at h
    · split at h
      · cases h
        obtain ⟨g1, g2, g3, _⟩ := ho
        subst g3
        exact ⟨_, indexAt_array ht har hte g1 g2 _, rfl, 0, hk, by simp⟩
      · cases h
    · cases h
      exact ⟨_, indexAt_array ht har hte ho.1 ho.2.1 _, rfl, 0, hk, rfl⟩
    · cases h
  · rename_i n' p es' ix off hh
    cases hh
    obtain ⟨hk, rfl⟩ := D_ep hd
    cases h
    exact ⟨_, indexAt_array ht har hte ho.1 ho.2.1 _, rfl, 0, hk, by rw [Nat.add_assoc]⟩
  · rename_i n' q ix off hh
    cases hh
    obtain ⟨b, o, cs, d, rfl, hix, hc, hrd⟩ := D_rp hd
    cases h
    exact ⟨_, indexAt_array ht har hte ho.1 ho.2.1 _, rfl, d + 1, b, o, cs, by rw [Nat.add_assoc], hix, hc, hrd⟩
  · cases h
end
end Go.Proofs.Ytlfllehomhcbfaa
