/- Calls: what a contract says of a function is what the call does, in the caller's blocks. No conditions. -/
import Derived.Test.YtlfllehomhcbfaaFwL
namespace Go.Proofs.Ytlfllehomhcbfaa

section
variable {P : Program} {x y : Ctx} {m m' : Nat → Option En}

theorem ownFree_get (q : Sq) (i : Nat) : ∀ it ∈ q.get i, ownFreeIt it = true := by
  have flat : ∀ (l : List (Fp × Fp × Fp)) (n k : Nat), ∀ it ∈ flatPt l k n, ownFreeIt it = true := by
    intro l n
    induction n with
    | zero => intro k it h; simp [flatPt] at h
    | succ n ih =>
      intro k it h
      simp only [flatPt, List.mem_cons] at h
      rcases h with rfl | rfl | rfl | h
      · rfl
      · rfl
      · rfl
      · exact ih _ it h
  intro it h
  cases q
  case ptt l => exact flat _ _ _ it h
  all_goals
    simp only [Sq.get, GateD.its, OpD.its, G1D.its, G2D.its, ptIts, pt2Its, List.mem_cons, List.not_mem_nil, or_false] at h
    first
      | (subst h; rfl)
      | (rcases h with rfl | rfl <;> rfl)
      | (rcases h with rfl | rfl | rfl <;> rfl)
      | (rcases h with rfl | rfl | rfl | rfl | rfl <;> rfl)
      | (rcases h with rfl | rfl | rfl | rfl | rfl | rfl <;> rfl)
      | (rcases h with rfl | rfl | rfl | rfl | rfl | rfl | rfl | rfl <;> rfl)

/-- What stands for data stands for it wherever as much can be read. -/
theorem den_data (hw : y.w = x.w) (hF : ∀ b, x.F b → y.F b) : ∀ (d : Nat) (i : It) (vs : List Value), ownFreeIt i = true → den x d i vs → den y d i vs := by
  have hcat : ∀ d, (∀ (i : It) (vs : List Value), ownFreeIt i = true → den x d i vs → den y d i vs) → ∀ (l : List It) (cs : List Value), (∀ i ∈ l, ownFreeIt i = true) → catL (den x d) l cs → catL (den y d) l cs := by
    intro d h l
    induction l with
    | nil => intro cs _ hc; exact hc
    | cons a l ih =>
      intro cs hl ⟨c1, c2, e, h1, h2⟩
      exact ⟨c1, c2, e, h a c1 (hl a (by simp)) h1, ih c2 (fun i hi => hl i (by simp [hi])) h2⟩
  intro d
  induction d with
  | zero =>
    intro i vs ho h
    cases i
    case clo f c => cases c with
      | nil => simp only [den] at h ⊢; exact ⟨fun a ha => (by cases ha), h.2⟩
      | cons a l => cases ho
    all_goals first | (cases ho; done) | exact h
  | succ d ih =>
    intro i vs ho h
    cases i
    case clo f c => cases c with
      | nil => simp only [den] at h ⊢; exact ⟨fun a ha => (by cases ha), h.2⟩
      | cons a l => cases ho
    case sl q =>
      simp only [den] at h ⊢
      rcases h with h | ⟨b, o, cap, e, hc, hm, hr⟩
      · exact .inl h
      · refine .inr ⟨b, o, cap, e, hc, hm, fun i hi => ?_⟩
        obtain ⟨cs, h1, h2⟩ := hr i hi
        exact ⟨cs, hcat d ih _ _ (ownFree_get q i) h1, hF _ h2.1, by rw [hw]; exact h2.2⟩
    case rp q i off =>
      simp only [den] at h ⊢
      obtain ⟨b, o, cs, e, hi, h1, h2⟩ := h
      exact ⟨b, o, cs, e, hi, hcat d ih _ _ (ownFree_get q i) h1, hF _ h2.1, by rw [hw]; exact h2.2⟩
    all_goals first | (cases ho; done) | exact h

theorem D_data (hw : y.w = x.w) (hF : ∀ b, x.F b → y.F b) {i : It} {vs : List Value} (ho : ownFreeIt i = true) (h : x.D i vs) : y.D i vs := by
  obtain ⟨d, h⟩ := h; exact ⟨d, den_data hw hF d i vs ho h⟩

theorem cat_data (hw : y.w = x.w) (hF : ∀ b, x.F b → y.F b) : ∀ {l : List It} {cs : List Value}, (∀ i ∈ l, ownFreeIt i = true) → catL x.D l cs → catL y.D l cs
  | [], _, _, h => h
  | a :: l, _, hl, ⟨c1, c2, e, h1, h2⟩ => ⟨c1, c2, e, D_data hw hF (hl a (by simp)) h1, cat_data hw hF (fun i hi => hl i (by simp [hi])) h2⟩

/-- One depth for finitely many. -/
theorem depth_max {R : Nat → Nat → Prop} (hmono : ∀ d d' i, d ≤ d' → R d i → R d' i) : ∀ (n : Nat), (∀ i, i < n → ∃ d, R d i) → ∃ d, ∀ i, i < n → R d i
  | 0, _ => ⟨0, fun i hi => absurd hi (Nat.not_lt_zero i)⟩
  | n + 1, h => by
    obtain ⟨d, hd⟩ := depth_max hmono n (fun i hi => h i (by omega))
    obtain ⟨d', hd'⟩ := h n (Nat.lt_succ_self n)
    refine ⟨max d d', fun i hi => ?_⟩
    by_cases hin : i = n
    · subst hin; exact hmono _ _ _ (Nat.le_max_right _ _) hd'
    · exact hmono _ _ _ (Nat.le_max_left _ _) (hd i (by omega))

theorem u64s_cat {D : It → List Value → Prop} (hD : ∀ k n vs, D (.int k n) vs → vs = [.int k n]) : ∀ {l : List It} {ns : List Int} {cs : List Value}, u64s l = some ns → catL D l cs → cs = ns.map fun n => .int .u64 n
  | [], ns, cs, h, hc => by simp [u64s] at h; subst h; exact hc
  | .int .u64 n :: l, ns, cs, h, ⟨c1, c2, e, h1, h2⟩ => by
    simp only [u64s, Option.map_eq_some_iff] at h
    obtain ⟨ns', h', rfl⟩ := h
    rw [e, hD _ _ _ h1, u64s_cat hD h' h2]; rfl
  | .int .i8 n :: l, ns, cs, h, _ => by simp [u64s] at h
  | .int .i16 n :: l, ns, cs, h, _ => by simp [u64s] at h
  | .int .i32 n :: l, ns, cs, h, _ => by simp [u64s] at h
  | .int .i64 n :: l, ns, cs, h, _ => by simp [u64s] at h
  | .int .u8 n :: l, ns, cs, h, _ => by simp [u64s] at h
  | .int .u16 n :: l, ns, cs, h, _ => by simp [u64s] at h
  | .int .u32 n :: l, ns, cs, h, _ => by simp [u64s] at h
  | .bool b :: l, ns, cs, h, _ => by simp [u64s] at h
  | .lit b :: l, ns, cs, h, _ => by simp [u64s] at h
  | .ptr _ _ :: l, ns, cs, h, _ => by simp [u64s] at h
  | .ep _ _ _ _ :: l, ns, cs, h, _ => by simp [u64s] at h
  | .slc _ _ _ _ :: l, ns, cs, h, _ => by simp [u64s] at h
  | .rp _ _ _ :: l, ns, cs, h, _ => by simp [u64s] at h
  | .sl _ :: l, ns, cs, h, _ => by simp [u64s] at h
  | .ob _ :: l, ns, cs, h, _ => by simp [u64s] at h
  | .val _ :: l, ns, cs, h, _ => by simp [u64s] at h
  | .clo _ _ :: l, ns, cs, h, _ => by simp [u64s] at h
  | .mp _ :: l, ns, cs, h, _ => by simp [u64s] at h
  | .dead :: l, ns, cs, h, _ => by simp [u64s] at h

theorem u64s_int {d : Nat} : ∀ k n vs, den x d (.int k n) vs → vs = [.int k n] := by
  intro k n vs h; cases d <;> simpa [den] using h

/-- An argument, seen by the function called. -/
theorem rdIt_sound (hm : Mem x m) (hsub : ∀ q e, m' q = some e → m q = some e) (hw : y.w = x.w) (hF : ∀ b, x.F b → y.F b) {i i' : It} {vs : List Value} {o : List Prop}
    (hown : ownFreeIt i = true ∨ ∀ p, x.k p = .real → y.F (x.β p)) (hd : x.D i vs) (h : rdIt m' i = some (o, i')) (ho : AllP o) : y.D i' vs := by
  unfold rdIt at h
  split at h
  case h_9 p off len es =>
    rcases hown with hf | hown
    · cases hf
    obtain ⟨v, rfl⟩ : ∃ v, vs = [v] := by
      have := D_len hd
      match vs, this with
      | [v], _ => exact ⟨v, rfl⟩
    have hs : denS x (.v (.c (.slc p off len es))) v := ⟨rfl, hd⟩
    split at h
    · rename_i q hq
      cases h
      obtain ⟨rfl, rfl, rfl, _⟩ := ho
      rcases D_slc hs with ⟨hk, _, h0, rfl⟩ | ⟨hk, cap, cs, ty, rfl, hlc, hcm, hcs, hfit⟩
      · exact ⟨1, .inl ⟨none, 0, rfl, h0⟩⟩
      · obtain ⟨cs', ty', hcs', hden⟩ := hm.ent p _ (hsub _ _ hq) hk
        obtain ⟨d, hd'⟩ := depth_max (R := fun d i => ∃ c, catL (den y d) (q.get i) c ∧ rd y.w y.F (x.β p) (0 + i * q.es) c) (n := q.n)
          (fun d d' i hdd ⟨c, hc, hr⟩ => ⟨c, catL_mono (fun _ _ h => den_le hdd h) hc, hr⟩) (fun i hi => by
            obtain ⟨c, hc, hj⟩ := hden.2 i hi
            obtain ⟨d, hc⟩ := catL_ex (cat_data hw hF (ownFree_get q i) hc)
            refine ⟨d, c, hc, hown p hk, fun j v hv => ?_⟩
            rw [hw, cell_at hcs', Nat.zero_add]
            exact hj j v hv)
        exact ⟨d + 1, .inr ⟨x.β p, 0, cap, rfl, hlc, by omega, hd'⟩⟩
    · rename_i l hl
      split at h
      · rename_i r hr
        split at h
        · rename_i ns hns
          cases h
          rcases D_slc hs with ⟨hk, _, h0, rfl⟩ | ⟨hk, cap, cs, ty, rfl, hlc, hcm, hcs, hfit⟩
          · have := hm.fl p _ (hsub _ _ hl)
            rw [hk] at this; cases this
          · obtain ⟨cs', ty', hcs', hden⟩ := hm.ent p _ (hsub _ _ hl) hk
            obtain ⟨d, hden⟩ := catL_ex hden
            obtain ⟨hc, hsz⟩ := cutIts_den hr (explode_den hden)
            have hlen := catL_len hc
            rw [hsz] at hlen
            have hns' := u64s_cat u64s_int hns hc
            have hnl : ns.length = len := by rw [← hlen, hns']; simp
            refine ⟨1, .inr ⟨x.β p, off, cap, by rw [show (Sq.u64 ns).n = ns.length from rfl, hnl], by rw [show (Sq.u64 ns).n = ns.length from rfl]; omega, by rw [show (Sq.u64 ns).n = ns.length from rfl]; omega, fun i hi => ?_⟩⟩
            have hi' : i < ns.length := hi
            refine ⟨[.int .u64 (ns.getD i 0)], ⟨_, [], rfl, rfl, rfl⟩, hown p hk, fun j v hv => ?_⟩
            cases j with
            | zero =>
              simp only [List.getElem?_cons_zero, Option.some.injEq] at hv
              subst hv
              have he : (cs'.toList.drop off).take len = ns.map fun n => Value.int .u64 n := hns'
              have : ((cs'.toList.drop off).take len)[i]? = some (.int .u64 (ns.getD i 0)) := by rw [he]; simp [hi']
              rw [List.getElem?_take_of_lt (by omega), List.getElem?_drop] at this
              rw [hw, cell_at hcs', show (Sq.u64 ns).es = 1 from rfl, Nat.mul_one]
              exact this
            | succ j => simp at hv
        · cases h
      · cases h
    · cases h
  all_goals first
    | (cases h; exact D_data hw hF rfl hd)
    | cases h

theorem rdIts_sound (hm : Mem x m) (hsub : ∀ q e, m' q = some e → m q = some e) (hw : y.w = x.w) (hF : ∀ b, x.F b → y.F b) : ∀ {l l' : List It} {vs : List Value} {o : List Prop},
    ((l.all ownFreeIt = true) ∨ ∀ p, x.k p = .real → y.F (x.β p)) → catL x.D l vs → rdIts m' l = some (o, l') → AllP o → catL y.D l' vs
  | [], _, _, _, _, hd, h, _ => by simp [rdIts] at h; obtain ⟨_, rfl⟩ := h; exact hd
  | i :: l, _, _, _, hown, ⟨c1, c2, e, h1, h2⟩, h, ho => by
    simp only [rdIts] at h
    split at h
    · rename_i o1 i' o2 l' hi hl
      cases h
      have ho := AllP_append.1 ho
      refine ⟨c1, c2, e, rdIt_sound hm hsub hw hF ?_ h1 hi ho.1, rdIts_sound hm hsub hw hF ?_ h2 hl ho.2⟩
      · rcases hown with h | h
        · simp only [List.all_cons, Bool.and_eq_true] at h; exact .inl h.1
        · exact .inr h
      · rcases hown with h | h
        · simp only [List.all_cons, Bool.and_eq_true] at h; exact .inl h.2
        · exact .inr h
    · cases h

theorem rdIt_size {i i' : It} {o : List Prop} (h : rdIt m i = some (o, i')) (hs : i.size = 1) : i'.size = 1 := by
  unfold rdIt at h
  split at h
  all_goals first
    | (cases h; exact hs)
    | (repeat' split at h
       all_goals first | (cases h; rfl) | cases h)
    | cases h

theorem rdSVs_sound (hm : Mem x m) (hsub : ∀ q e, m' q = some e → m q = some e) (hw : y.w = x.w) (hF : ∀ b, x.F b → y.F b) : ∀ {l l' : List SV} {vs : List Value} {o : List Prop},
    ((l.all ownFree = true) ∨ ∀ p, x.k p = .real → y.F (x.β p)) → denSs x l vs → rdSVs m' l = some (o, l') → AllP o → denSs y l' vs := by
  intro l
  induction l with
  | nil => intro l' vs o _ hd h _; simp [rdSVs] at h; obtain ⟨_, rfl⟩ := h; cases hd; exact .nil
  | cons s l ih =>
    intro l' vs o hown hd h ho
    cases hd with
    | cons h1 h2 =>
      simp only [rdSVs] at h
      split at h
      · rename_i o1 s' o2 l'' hs hl
        cases h
        have ho := AllP_append.1 ho
        refine .cons ?_ (ih (by
          rcases hown with h | h
          · simp only [List.all_cons, Bool.and_eq_true] at h; exact .inl h.2
          · exact .inr h) h2 hl ho.2)
        unfold rdSV at hs
        split at hs
        · rename_i i
          split at hs
          · rename_i oi ii hi
            cases hs
            refine ⟨rdIt_size hi h1.1, rdIt_sound hm hsub hw hF ?_ h1.2 hi ho.1⟩
            rcases hown with h | h
            · simp only [List.all_cons, Bool.and_eq_true] at h; exact .inl h.1
            · exact .inr h
          · cases hs
        · rename_i li
          split at hs
          · rename_i oi ii hi
            cases hs
            obtain ⟨cs, e, hc⟩ := h1
            refine ⟨cs, e, rdIts_sound hm hsub hw hF ?_ hc hi ho.1⟩
            rcases hown with h | h
            · simp only [List.all_cons, Bool.and_eq_true] at h; exact .inl h.1
            · exact .inr h
          · cases hs
        · cases hs
      · cases h

/-! Positions moved on. -/
theorem den_sh {p : Nat} (hw : y.w = x.w) (hk : ∀ q, x.k q ≠ .no → y.k (p + q) = x.k q) (hβ : ∀ q, x.k q = .real → y.β (p + q) = x.β q) {i : It} (hF : (∀ b, x.F b → y.F b) ∨ noRoIt i = true) :
    ∀ (d : Nat) (vs : List Value), den x d i vs → den y d (shIt p i) vs := by
  intro d vs h
  by_cases hfree : ownFreeIt i = true ∧ ∀ b, x.F b → y.F b
  · have h' := den_data hw hfree.2 d i vs hfree.1 h
    cases i
    case clo f c => cases c with
      | nil => exact h'
      | cons a l => cases hfree.1
    all_goals first | exact h' | cases hfree.1
  · cases i
    case slc q off len es =>
      cases d <;> simp only [den, shIt] at h ⊢ <;>
      · rcases h with ⟨h1, h2⟩ | ⟨h1, h2⟩
        · exact .inl ⟨(hk q (by simp [h1])).trans h1, h2⟩
        · refine .inr ⟨(hk q (by simp [h1])).trans h1, ?_⟩
          rw [hβ q h1, hw]; exact h2
    case ptr q off =>
      cases d <;> simp only [den, shIt] at h ⊢ <;> exact ⟨(hk q (by simp [h.1])).trans h.1, by rw [hβ q h.1]; exact h.2⟩
    case ep q es j off =>
      cases d <;> simp only [den, shIt] at h ⊢ <;> exact ⟨(hk q (by simp [h.1])).trans h.1, by rw [hβ q h.1]; exact h.2⟩
    case mp q =>
      cases d <;> simp only [den, shIt] at h ⊢ <;> exact ⟨(hk q (by simp [h.1])).trans h.1, by rw [hβ q h.1]; exact h.2⟩
    case clo f c =>
      cases d <;> simp only [den, shIt] at h ⊢ <;>
      · refine ⟨fun a ha => ?_, ?_⟩
        · simp only [List.mem_map] at ha
          obtain ⟨b, hb, rfl⟩ := ha
          exact (hk b.1 (by simp [h.1 b hb])).trans (h.1 b hb)
        · rw [h.2]
          congr 3
          rw [List.map_map]
          exact List.map_congr_left fun c hc => by simp only [Function.comp]; rw [hβ _ (h.1 c hc)]
    case sl q =>
      rcases hF with hF | hF
      · exact absurd ⟨rfl, hF⟩ hfree
      · cases hF
    case rp q i off =>
      rcases hF with hF | hF
      · exact absurd ⟨rfl, hF⟩ hfree
      · cases hF
    all_goals (cases d <;> exact h)

end
end Go.Proofs.Ytlfllehomhcbfaa
