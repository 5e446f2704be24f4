/- Pieces, fields, new blocks: the executor tells of them what they do. No conditions. -/
import Derived.Test.YtlfllehomhcbfaaFwJ
namespace Go.Proofs.Ytlfllehomhcbfaa

section
variable {P : Program} {x : Ctx} {m m' : Nat → Option En}

/-! Pieces. -/
theorem optInt_den {ρ : Operand → SV} {a : Act} (hρ : ∀ o, denS x (ρ o) (a.eval o)) {o : Option Operand} {r : Option Int} (h : optInt (o.map ρ) = some r) :
    (r = none ∧ o.map a.eval = none) ∨ ∃ n k, r = some n ∧ o.map a.eval = some (.int k n) := by
  cases o with
  | none => simp [optInt] at h; exact .inl ⟨h.symm, rfl⟩
  | some o =>
    simp only [Option.map_some, optInt, Option.map_eq_some_iff] at h
    obtain ⟨⟨k, n⟩, hi, rfl⟩ := h
    exact .inr ⟨n, k, rfl, by simp [intIt_den hi (hρ o)]⟩

theorem bound_run {k : IntKind} {n : Int} {y : Nat} {c : BoundsCode} (h0 : 0 ≤ n) (h1 : n ≤ y) (w : World) : (Instr.sliceBound (.int k n) y c).run P w = .ok n.toNat w := by
  simp [Instr.sliceBound, asIntOf, h0, h1]

theorem sliceRes_array {t e len : Nat} {i ie : TyI} (ht : TyOk P t i) (har : i.arr = some (len, e)) (hte : TyOk P e ie) (hm : Mem x m) (hsub : ∀ q e, m' q = some e → m q = some e) {s : SV} {v : Value} (hd : denS x s v)
    {lo hi : Option Int} {vlo vhi : Option Value} (hlo : (lo = none ∧ vlo = none) ∨ ∃ n k, lo = some n ∧ vlo = some (.int k n)) (hhi : (hi = none ∧ vhi = none) ∨ ∃ n k, hi = some n ∧ vhi = some (.int k n))
    {obl : List Prop} {r : It} (h : sliceRes m' s lo hi (some len) ie.cells = some (obl, r)) (ho : AllP obl) : ∃ u, (Instr.sliceAt t v vlo vhi none).run P x.w = .ok u x.w ∧ denS x (.v (.c r)) u := by
  obtain ⟨inf, d, hinf, hdd, _, _, _, _, _, _, ha, _, _⟩ := ht.parts
  obtain ⟨rfl, _⟩ := ha len e har
  unfold sliceRes at h
  split at h
  · rename_i n' p off hh
    cases hh
    obtain ⟨hk, rfl⟩ := D_ptr hd
    split at h
    · rename_i o hroom
      have key : AllP o → ∃ cs ty, x.w.heap[x.β p]? = some (.cells cs ty (0, 0)) ∧ off + len * ie.cells ≤ cs.size := by
        intro ho
        split at hroom
        · rename_i l hl
          split at hroom
          · rename_i hle
            obtain ⟨cs, ty, hcs, hden⟩ := hm.ent p _ (hsub _ _ hl) hk
            obtain ⟨dd, hden⟩ := catL_ex hden
            have := catL_len hden
            exact ⟨cs, ty, hcs, by simp at this; omega⟩
          · cases hroom
        · rename_i q hq
          split at hroom
          · rename_i hes
            cases hroom
            obtain ⟨cs, ty, hcs, hden⟩ := hm.ent p _ (hsub _ _ hq) hk
            have h1 := hden.1
            obtain ⟨g1, g2, _⟩ := ho
            have : len * ie.cells ≤ q.n * q.es := by rw [hes]; exact Nat.mul_le_mul_right _ g2
            exact ⟨cs, ty, hcs, by simp at h1; omega⟩
          · cases hroom
        · cases hroom
      split at h
      · rename_i hn1 hn2
        split at h
        · rename_i hle
          cases h
          obtain ⟨cs, ty, hcs, hfit⟩ := key ho
          rcases hlo with ⟨_, rfl⟩ | ⟨_, _, hh, _⟩
          · rcases hhi with ⟨_, rfl⟩ | ⟨_, _, hh, _⟩
            · refine ⟨.slice (some ⟨x.β p, off, none⟩) len len, ?_, rfl, 0, .inr ⟨hk, len, cs, ty, rfl, Nat.le_refl _, by simp only [maxLen]; omega, hcs, hfit⟩⟩
              simp [Instr.sliceAt, run_underlying hdd, Instr.sureAddr, Instr.sliceBounds, hte.sizeOf, Addr.add_lit]
            · cases hh
          · cases hh
        · cases h
      · rename_i hv
        split at h
        · rename_i hle
          cases h
          obtain ⟨g1, g2, ho⟩ := ho
          obtain ⟨cs, ty, hcs, hfit⟩ := key ho
          rcases hlo with ⟨_, rfl⟩ | ⟨_, _, hh, _⟩
          · rcases hhi with ⟨hh, _⟩ | ⟨_, _, hh, rfl⟩
            · cases hh
            · cases hh
              refine ⟨.slice (some ⟨x.β p, off, none⟩) hv.toNat len, ?_, rfl, 0, .inr ⟨hk, len, cs, ty, rfl, by omega, by simp only [maxLen]; omega, hcs, hfit⟩⟩
              simp [Instr.sliceAt, run_underlying hdd, Instr.sureAddr, Instr.sliceBounds, hte.sizeOf, Addr.add_lit, bound_run g1 g2]
          · cases hh
        · cases h
      · cases h
    · cases h
  · rename_i hh; cases hh
  · rename_i hh; cases hh
  · cases h

theorem slice_val {t e : Nat} {i ie : TyI} (ht : TyOk P t i) (hsl : i.slc = some e) (hte : TyOk P e ie) {a : Option Addr} {len cap l h : Nat} {vlo vhi : Option Value} (hl : (vlo = none ∧ l = 0) ∨ ∃ k n, vlo = some (.int k n) ∧ 0 ≤ n ∧ n.toNat = l)
    (hh : (vhi = none ∧ h = len) ∨ ∃ k n, vhi = some (.int k n) ∧ 0 ≤ n ∧ n.toNat = h) (hlh : l ≤ h) (hhc : h ≤ cap) (w : World) :
    (Instr.sliceAt t (.slice a len cap) vlo vhi none).run P w = .ok (.slice (if cap = l then a else a.map (·.add (l * ie.cells))) (h - l) (cap - l)) w := by
  obtain ⟨inf, d, hinf, hdd, _, _, _, _, _, _, _, hs, _⟩ := ht.parts
  obtain ⟨rfl, _⟩ := hs e hsl
  have hb : (Instr.sliceBounds true len cap vlo vhi none).run P w = .ok (l, h, cap) w := by
    rcases hh with ⟨rfl, rfl⟩ | ⟨k, n, rfl, hn, rfl⟩
    · rcases hl with ⟨rfl, rfl⟩ | ⟨k', n', rfl, hn', rfl⟩
      · simp [Instr.sliceBounds]
      · simp [Instr.sliceBounds, bound_run hn' (show n' ≤ (h : Int) by omega)]
    · rcases hl with ⟨rfl, rfl⟩ | ⟨k', n', rfl, hn', rfl⟩
      · simp [Instr.sliceBounds, bound_run hn (show n ≤ (cap : Int) by omega)]
      · simp [Instr.sliceBounds, bound_run hn (show n ≤ (cap : Int) by omega), bound_run hn' (show n' ≤ (n.toNat : Int) by omega)]
  simp [Instr.sliceAt, run_underlying hdd, Instr.slice, hb, hte.sizeOf]

theorem sl_cut {q : Sq} {a : Option Addr} {cap l h : Nat} {es : Nat} (hes : q.es = es) (hlh : l ≤ h) (hhn : h ≤ q.n)
    (hd : (∃ a cap', Value.slice a q.n cap = .slice a 0 cap' ∧ q.n = 0) ∨ (∃ b o, a = some ⟨b, o, none⟩ ∧ q.n ≤ cap ∧ q.n ≤ maxLen ∧ ∃ d, ∀ i, i < q.n → ∃ cs, catL (den x d) (q.get i) cs ∧ rd x.w x.F b (o + i * q.es) cs)) :
    denS x (.v (.c (.sl (q.cut l (h - l))))) (.slice (if cap = l then a else a.map (·.add (l * es))) (h - l) (cap - l)) := by
  obtain ⟨g1, g2, g3⟩ := cut_spec q l (h - l) (by omega)
  rcases hd with ⟨a', cap', _, hn⟩ | ⟨b, o, rfl, hc, hm, d, hel⟩
  · have e0 : h - l = 0 := by omega
    rw [e0] at g1 ⊢
    exact ⟨rfl, 1, .inl ⟨_, _, rfl, g1⟩⟩
  · by_cases hcl : cap = l
    · have e0 : h - l = 0 := by omega
      rw [e0] at g1 ⊢
      exact ⟨rfl, 1, .inl ⟨_, _, rfl, g1⟩⟩
    · refine ⟨rfl, d + 1, .inr ⟨b, o + l * es, cap - l, ?_, by omega, by omega, fun i hi => ?_⟩⟩
      · simp [hcl, g1, Addr.add_lit]
      · rw [g1] at hi
        obtain ⟨cs, hc', hrd⟩ := hel (l + i) (by omega)
        refine ⟨cs, by rw [g3 i hi]; exact hc', ?_⟩
        rw [g2, hes]
        rw [hes, Nat.add_mul, ← Nat.add_assoc] at hrd
        exact hrd

theorem sl_split {q : Sq} {v : Value} (h : denS x (.v (.c (.sl q))) v) : ∃ a cap, v = .slice a q.n cap ∧ q.n ≤ cap ∧
    ((∃ a cap', Value.slice a q.n cap = .slice a 0 cap' ∧ q.n = 0) ∨ (∃ b o, a = some ⟨b, o, none⟩ ∧ q.n ≤ cap ∧ q.n ≤ maxLen ∧ ∃ d, ∀ i, i < q.n → ∃ cs, catL (den x d) (q.get i) cs ∧ rd x.w x.F b (o + i * q.es) cs)) := by
  rcases D_sl h with ⟨a, cap, rfl, hn⟩ | ⟨b, o, cap, rfl, h1, h2, h3⟩
  · exact ⟨a, cap, by rw [hn], by omega, .inl ⟨a, cap, by rw [hn], hn⟩⟩
  · exact ⟨_, cap, rfl, h1, .inr ⟨b, o, rfl, h1, h2, h3⟩⟩

theorem sliceRes_slice {t e : Nat} {i ie : TyI} (ht : TyOk P t i) (hsl : i.slc = some e) (hte : TyOk P e ie) {s : SV} {v : Value} (hd : denS x s v)
    {lo hi : Option Int} {vlo vhi : Option Value} (hlo : (lo = none ∧ vlo = none) ∨ ∃ n k, lo = some n ∧ vlo = some (.int k n)) (hhi : (hi = none ∧ vhi = none) ∨ ∃ n k, hi = some n ∧ vhi = some (.int k n))
    {obl : List Prop} {r : It} (h : sliceRes m' s lo hi none ie.cells = some (obl, r)) (ho : AllP obl) : ∃ u, (Instr.sliceAt t v vlo vhi none).run P x.w = .ok u x.w ∧ denS x (.v (.c r)) u := by
  unfold sliceRes at h
  split at h
  · rename_i hh; cases hh
  · rename_i p off len es' _
    split at h
    · cases h
      rcases hlo with ⟨_, rfl⟩ | ⟨_, _, hh, _⟩
      · rcases hhi with ⟨_, rfl⟩ | ⟨_, _, hh, _⟩
        · rcases D_slc hd with ⟨_, _, _, rfl⟩ | ⟨hk, cap, cs, ty, rfl, hlc, hcm, hcs, hfit⟩
          · exact ⟨_, slice_val ht hsl hte (.inl ⟨rfl, rfl⟩) (.inl ⟨rfl, rfl⟩) (Nat.le_refl _) (Nat.le_refl _) _, by simpa using hd⟩
          · refine ⟨_, slice_val ht hsl hte (.inl ⟨rfl, rfl⟩) (.inl ⟨rfl, rfl⟩) (Nat.zero_le _) hlc _, ?_⟩
            simpa [Addr.add_lit] using hd
        · cases hh
      · cases hh
    · cases h
  · rename_i q _
    obtain ⟨a, cap, rfl, hqc, hel⟩ := sl_split hd
    split at h
    · rename_i hes
      split at h
      · cases h
        rcases hlo with ⟨_, rfl⟩ | ⟨_, _, hh, _⟩
        · rcases hhi with ⟨_, rfl⟩ | ⟨_, _, hh, _⟩
          · refine ⟨_, slice_val ht hsl hte (.inl ⟨rfl, rfl⟩) (.inl ⟨rfl, rfl⟩) (Nat.zero_le _) hqc _, ?_⟩
            have : (Option.map (fun x : Addr => x.add (0 * ie.cells)) a) = a := by cases a <;> simp [Addr.add]
            rw [this]
            simpa using hd
          · cases hh
        · cases hh
      · cases h
        rcases hlo with ⟨_, rfl⟩ | ⟨_, _, hh, _⟩
        · rcases hhi with ⟨hh, _⟩ | ⟨_, _, hh, rfl⟩
          · cases hh
          · cases hh
            rename_i hv _ _
            have hle : hv.toNat ≤ q.n := by have := ho.1; have := ho.2.1; omega
            exact ⟨_, slice_val ht hsl hte (.inl ⟨rfl, rfl⟩) (.inr ⟨_, _, rfl, ho.1, rfl⟩) (Nat.zero_le _) (Nat.le_trans hle hqc) _, sl_cut hes (Nat.zero_le _) hle hel⟩
        · cases hh
      · cases h
        rcases hlo with ⟨hh, _⟩ | ⟨_, _, hh, rfl⟩
        · cases hh
        · cases hh
          rcases hhi with ⟨_, rfl⟩ | ⟨_, _, hh, _⟩
          · exact ⟨_, slice_val ht hsl hte (.inr ⟨_, _, rfl, ho.1, rfl⟩) (.inl ⟨rfl, rfl⟩) (by have := ho.2.1; omega) hqc _, sl_cut hes (by have := ho.2.1; omega) (Nat.le_refl _) hel⟩
          · cases hh
      · cases h
        rcases hlo with ⟨hh, _⟩ | ⟨_, _, hh, rfl⟩
        · cases hh
        · cases hh
          rcases hhi with ⟨hh, _⟩ | ⟨_, _, hh, rfl⟩
          · cases hh
          · cases hh
            obtain ⟨g1, g2, g3, _⟩ := ho
            exact ⟨_, slice_val ht hsl hte (.inr ⟨_, _, rfl, g1, rfl⟩) (.inr ⟨_, _, rfl, by omega, rfl⟩) (by omega) (by omega) _, sl_cut hes (by omega) (by omega) hel⟩
    · cases h
  · cases h

theorem slice3_sound {t e : Nat} {i ie : TyI} (ht : TyOk P t i) (hsl : i.slc = some e) (hte : TyOk P e ie) {q : Sq} (_hes : q.es = ie.cells) {v : Value} (hd : denS x (.v (.c (.sl q))) v) {k k' : IntKind} {h mx : Int} (h0 : 0 ≤ h) (h1 : h ≤ mx) (h2 : mx ≤ q.n) :
    ∃ u, (Instr.sliceAt t v none (some (.int k h)) (some (.int k' mx))).run P x.w = .ok u x.w ∧ denS x (.v (.c (.sl (q.cut 0 h.toNat)))) u := by
  obtain ⟨a, cap, rfl, hqc, hel⟩ := sl_split hd
  obtain ⟨inf, d, hinf, hdd, _, _, _, _, _, _, _, hs, _⟩ := ht.parts
  obtain ⟨rfl, _⟩ := hs e hsl
  obtain ⟨g1, g2, g3⟩ := cut_spec q 0 h.toNat (by omega)
  have hb : (Instr.sliceBounds true q.n cap none (some (.int k h)) (some (.int k' mx))).run P x.w = .ok (0, h.toNat, mx.toNat) x.w := by
    simp [Instr.sliceBounds, bound_run (show 0 ≤ mx by omega) (show mx ≤ (cap : Int) by omega), bound_run h0 (show h ≤ (mx.toNat : Int) by omega)]
  refine ⟨.slice a h.toNat mx.toNat, ?_, ?_⟩
  · have : (Option.map (fun x : Addr => x.add (0 * ie.cells)) a) = a := by cases a <;> simp [Addr.add]
    simp [Instr.sliceAt, run_underlying hdd, Instr.slice, hb, hte.sizeOf, Addr.add]
  · rcases hel with ⟨a', cap', _, hn⟩ | ⟨b, o, rfl, hc, hm, d, hel⟩
    · have e0 : h.toNat = 0 := by omega
      rw [e0] at g1 ⊢
      exact ⟨rfl, 1, .inl ⟨_, _, rfl, g1⟩⟩
    · refine ⟨rfl, d + 1, .inr ⟨b, o, mx.toNat, by rw [g1], by omega, by omega, fun j hj => ?_⟩⟩
      rw [g1] at hj
      obtain ⟨cs, hc', hrd⟩ := hel j (by omega)
      exact ⟨cs, by rw [g3 j hj, Nat.zero_add]; exact hc', by rw [g2]; exact hrd⟩

/-! Fields and elements of values. -/
theorem cut_room {l r : List It} {off n d : Nat} {cs : List Value} (h : cutAny off n l = some r) (hc : catL (den x d) l cs) (hn : n ≠ 0) : off + n ≤ cs.length := by
  obtain ⟨h1, h2⟩ := cutAny_den h hc
  have := catL_len h1
  rw [h2, List.length_take, List.length_drop] at this
  omega

theorem field_sound {s : Nat} {i : TyI} (ht : TyOk P s i) {f fo fs : Nat} {g : Bool} (hf : i.fields[f]? = some (fo, fs, g)) (hfs : fs ≠ 0) {l r : List It} {v : Value} {u : V1} (hd : denS x (.v (.a l)) v) (hr : cutAny fo fs l = some r) (hv : mkV g r = some u) :
    ∃ z, (Instr.field s v f).run P x.w = .ok z x.w ∧ denV x u z := by
  obtain ⟨cs, rfl, hc⟩ := hd
  obtain ⟨d, hc⟩ := catL_ex hc
  obtain ⟨inf, dd, hi, hdd, hsz, _, ha, h1, hz, hfl, har, hsl, hkd, heq, hes, hfd⟩ := ht.parts
  obtain ⟨fields, rfl⟩ := hfd (by intro e; rw [e] at hf; simp at hf)
  obtain ⟨hok, _⟩ := hfl _ rfl
  obtain ⟨fd, hget, hoff, inf', d', hi', hd', hs', hg', h1'⟩ := fieldsOk_get hok f fo fs g hf
  have hget' : fields[f]? = some fd := by simpa using hget
  have hroom := cut_room hr hc hfs
  have hpart := run_part hi' hd' (cs := cs) (off := fo) x.w (fun e => by rw [hs']; exact h1' (hg' ▸ e)) (by rw [hs']; exact hroom)
  obtain ⟨hcr, hsr⟩ := cutAny_den hr hc
  rw [hs', hg'] at hpart
  refine ⟨_, ?_, (mkV_den hv (catL_D hcr) (fun e => by rw [hsr]; exact h1' e)).1⟩
  simp only [Instr.field, Sem.run_bind, run_underlying hdd, Result.andThen_ok]
  simp only [hget', asAgg, Sem.run_bind, Sem.run_pure, Result.andThen_ok, hoff]
  exact hpart

theorem index_sound {t e len : Nat} {i ie : TyI} (ht : TyOk P t i) (har : i.arr = some (len, e)) (hte : TyOk P e ie) {l r : List It} {v : Value} {u : V1} {k : IntKind} {n : Int} (h0 : 0 ≤ n) (hn : n < len) (hd : denS x (.v (.a l)) v)
    (hr : cutAny (n.toNat * ie.cells) ie.cells l = some r) (hv : mkV ie.agg r = some u) (hne : ie.cells ≠ 0) : ∃ z, (Instr.index t v (.int k n)).run P x.w = .ok z x.w ∧ denV x u z := by
  obtain ⟨cs, rfl, hc⟩ := hd
  obtain ⟨d, hc⟩ := catL_ex hc
  obtain ⟨inf, dd, hi, hdd, _, _, _, _, _, _, ha, _, _⟩ := ht.parts
  obtain ⟨rfl, _⟩ := ha len e har
  obtain ⟨inf', d', hi', hd', hs', _, hg', h1', _⟩ := hte.parts
  have hroom := cut_room hr hc hne
  have hpart := run_part hi' hd' (cs := cs) (off := n.toNat * ie.cells) x.w (fun e => by rw [hs']; exact h1' (hg' ▸ e)) (by rw [hs']; exact hroom)
  obtain ⟨hcr, hsr⟩ := cutAny_den hr hc
  rw [hs', hg'] at hpart
  refine ⟨_, ?_, (mkV_den hv (catL_D hcr) (fun e => by rw [hsr]; exact h1' e)).1⟩
  simp only [Instr.index, asIntOf, Sem.run_bind, Sem.run_pure, Result.andThen_ok, run_underlying hdd]
  simp only [h0, hn, and_self, if_true, Sem.run_bind, hte.sizeOf, Result.andThen_ok]
  exact hpart

theorem index_ob {t e len : Nat} {i ie : TyI} (ht : TyOk P t i) (har : i.arr = some (len, e)) (hte : TyOk P e ie) (hag : ie.agg = false) {o : Ob} (hk : o.k = len) {v : Value} {k : IntKind} {n : Int} (h0 : 0 ≤ n) (hn : n < len) (hd : denS x (.v (.a [.ob o])) v) :
    (Instr.index t v (.int k n)).run P x.w = .ok (.int .u64 (limb o.n n.toNat)) x.w := by
  obtain ⟨cs, rfl, c1, c2, e1, ⟨d, g1⟩, g2⟩ := hd
  simp only [catL] at g2
  subst g2
  have hc1 : c1 = o.cells := by cases d <;> simpa [den] using g1
  rw [List.append_nil, hc1] at e1
  subst e1
  obtain ⟨inf, dd, hi, hdd, _, _, _, _, _, _, ha, _, _⟩ := ht.parts
  obtain ⟨rfl, _⟩ := ha len e har
  obtain ⟨inf', d', hi', hd', hs', _, hg', h1', _⟩ := hte.parts
  have hc1 := h1' hag
  have hlt : n.toNat < o.k := by omega
  have hpart := run_part hi' hd' (cs := o.cells) (off := n.toNat * ie.cells) x.w (fun e => by rw [hs']; exact hc1) (by rw [hs', hc1, ob_len]; omega)
  rw [hs', hc1, hg', hag, Nat.mul_one] at hpart
  simp only [Instr.index, asIntOf, Sem.run_bind, Sem.run_pure, Result.andThen_ok, run_underlying hdd]
  simp only [h0, hn, and_self, if_true, Sem.run_bind, hte.sizeOf, Result.andThen_ok, hc1, Nat.mul_one]
  rw [hpart]
  have hlen : n.toNat < o.cells.length := by rw [ob_len]; exact hlt
  rw [List.drop_eq_getElem_cons hlen]
  simp [valOf, Ob.cells]

/-! New blocks. -/
theorem alloc_run {t : Nat} {i : TyI} (ht : TyOk P t i) (w : World) : ∃ cells ty, (Instr.alloc t true (.tuple #[])).run P w = .ok (.pointer (some ⟨w.heap.size, 0, none⟩)) (w.alloc (.cells cells ty)) ∧ ∀ (x : Ctx), denEn x (.fl i.zero) cells.toList := by
  obtain ⟨inf, d, hi, hd, hsz, _, ha, h1, ⟨z, hz, hzm, _⟩, _⟩ := ht.parts
  refine ⟨z.cells, t, ?_, fun x => catL_D (zeroMatch_den (d := 0) hzm)⟩
  simp [Instr.alloc, zeroValue, typeInfo, hi, hz, newVar, newRow]

theorem box_run (t : Nat) (v : Value) (w : World) : (Instr.box t v).run P w = .ok (.pointer (some ⟨w.heap.size, 0, none⟩)) (w.alloc (.cells v.cells t)) := by
  simp [Instr.box, newVar, newRow]

theorem fold_set (off : Nat) : ∀ (vs : List Value) (k : Nat) (cs : Array Value), off + k + vs.length ≤ cs.size →
    ((vs.zipIdx k).foldl (fun cs (c : Value × Nat) => cs.setIfInBounds (off + c.2) c.1) cs).toList = cs.toList.take (off + k) ++ vs ++ cs.toList.drop (off + k + vs.length)
  | [], k, cs, _ => by simp
  | v :: vs, k, cs, h => by
    simp only [List.length_cons] at h
    simp only [List.zipIdx_cons, List.foldl_cons]
    rw [fold_set off vs (k + 1) _ (by simp only [Array.size_setIfInBounds]; omega)]
    have hlt : off + k < cs.toList.length := by simp; omega
    simp only [Array.toList_setIfInBounds, List.length_cons]
    have hset : cs.toList.set (off + k) v = cs.toList.take (off + k) ++ v :: cs.toList.drop (off + k + 1) := List.set_eq_take_append_cons_drop .. |>.trans (by rw [if_pos hlt])
    rw [hset]
    have hl : (cs.toList.take (off + k)).length = off + k := by rw [List.length_take]; omega
    rw [show off + (k + 1) = (off + k) + 1 from by omega, List.take_append, hl, List.take_of_length_le (by omega)]
    rw [show off + k + 1 - (off + k) = 1 from by omega, List.take_succ_cons, List.take_zero]
    rw [List.drop_append, hl, List.drop_of_length_le (by omega)]
    simp only [List.nil_append, List.append_assoc, List.cons_append]
    rw [show off + k + 1 + vs.length - (off + k) = vs.length + 1 from by omega, List.drop_succ_cons, List.drop_drop]
    congr 4
    omega

theorem fill_one {place : Nat → Option (Nat × Nat)} {cells : Array Value} {i off size : Nat} {v : Value} {cn : List Value} {rest : List (Nat × Value)} (hp : place i = some (off, size)) (hv : v.cells = cn.toArray) (hl : cn.length = size) (hfit : off + size ≤ cells.size) :
    Instr.fill place cells ((i, v) :: rest) = Instr.fill place (cells.toList.take off ++ cn ++ cells.toList.drop (off + cn.length)).toArray rest := by
  have h1 : ¬ (v.cells.size ≠ size ∨ off + v.cells.size > cells.size) := by rw [hv]; simp [hl]; omega
  have hf := fold_set off cn 0 cells (by omega)
  simp only [Nat.add_zero] at hf
  have hf' : (v.cells.zipIdx.foldl (fun (cs : Array Value) (c : Value × Nat) => cs.setIfInBounds (off + c.2) c.1) cells) = (cells.toList.take off ++ cn ++ cells.toList.drop (off + cn.length)).toArray := by
    apply Array.toList_inj.1
    rw [hv, ← Array.foldl_toList]
    simpa using hf
  have he : Instr.fill place cells ((i, v) :: rest) = Instr.fill place (v.cells.zipIdx.foldl (fun (cs : Array Value) (c : Value × Nat) => cs.setIfInBounds (off + c.2) c.1) cells) rest := by
    rw [Instr.fill]
    simp only [hp]
    rw [if_neg]
    intro hc
    simp only [Bool.or_eq_true, decide_eq_true_eq] at hc
    exact h1 hc
  rw [he, hf']

theorem buildAll_sound {ρ : Operand → SV} {a : Act} (hρ : ∀ o, denS x (ρ o) (a.eval o)) {fields : List (Nat × Nat × Bool)} {arr : Option (Nat × Nat)} {place : Nat → Option (Nat × Nat)}
    (hp : ∀ i off size, placeOf fields arr i = some (off, size) → place i = some (off, size)) :
    ∀ (parts : List (Nat × Operand)) (l r : List It) (cells : Array Value), buildAll fields arr l (parts.map fun p => (p.1, ρ p.2)) = some r → catL x.D l cells.toList →
      ∃ cells', Instr.fill place cells (parts.map fun p => (p.1, a.eval p.2)) = some cells' ∧ catL x.D r cells'.toList
  | [], l, r, cells, h, hc => by simp [buildAll] at h; subst h; exact ⟨cells, rfl, hc⟩
  | (i, o) :: parts, l, r, cells, h, hc => by
    simp only [List.map_cons] at h ⊢
    cases hsv : ρ o with
    | v v =>
      rw [hsv] at h
      simp only [buildAll] at h
      split at h
      · rename_i off size hplace
        split at h
        · rename_i hsz
          split at h
          · rename_i l' hl'
            have hd := hρ o
            rw [hsv] at hd
            obtain ⟨cn, hu, hcn⟩ := denV_cells hd
            obtain ⟨dn, hcn⟩ := catL_ex hcn
            obtain ⟨dl, hcl⟩ := catL_ex hc
            have hln := catL_len hcn
            obtain ⟨hpd, hfit⟩ := pasteAny_den hl' (catL_mono (fun _ _ h => den_le (Nat.le_max_left dn dl) h) hcn) (catL_mono (fun _ _ h => den_le (Nat.le_max_right dn dl) h) hcl)
            rw [fill_one (hp i off size hplace) hu (by omega) (by simp at hfit; omega)]
            exact buildAll_sound hρ hp parts l' r _ h (by simpa using catL_D hpd)
          · cases h
        · cases h
      · cases h
    | t l' => rw [hsv] at h; simp [buildAll] at h
    | top => rw [hsv] at h; simp [buildAll] at h

end
end Go.Proofs.Ytlfllehomhcbfaa
