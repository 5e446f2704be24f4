/- DomainValues: whatever the domain, the shift and the coefficients, the law returns true, and its arguments read as they did. No conditions. -/
import Derived.Test.YtlfllehomhcbfaaDvL
namespace Go.Proofs.Ytlfllehomhcbfaa
open Go.ChangeShapes Go.WideShapes Go.ChangeAt Go.RowKit

theorem dvals_fnd (log : Int) (w s : U4) (l : List U4) : FnD Try.prog 7 [.v (.a [.int .i64 log, .ob (.fr w)]), .v (.a [.ob (.fr s)]), .v (.c (.sl (.fr l)))] (.v (.c (.bool true))) [] := by
  cases hd : domOk log w with
  | false =>
    have hE : valE log w l = 40 := by unfold valE; rw [hd]; rfl
    have hL : valL log w s l = [] := by unfold valL; rw [if_neg (by simp [hd])]
    have hE2 : (valE log w l == (40 : Int)) = true := by rw [hE]; rfl
    have hn : (!(domOk log w)) = true := by rw [hd]; rfl
    by_cases h5 : log > 5
    · have r := lvB log w s l
      rw [hL] at r
      exact fn_sound envV3_ok Try.func7 r ⟨decide_eq_true h5, hd, hn, hE2, trivial⟩
    · have r := lvB2 log w s l
      rw [hL] at r
      exact fn_sound envV3_ok Try.func7 r ⟨decide_eq_false h5, hn, hE2, trivial⟩
  | true =>
    have hn : (!(domOk log w)) = false := by rw [hd]; rfl
    by_cases h5 : log > 5
    · exact (fn_sound envV3_ok Try.func7 (lvA log w s l) ⟨decide_eq_true h5, hd, trivial⟩).conv (fun _ _ h => h) fun y v hd => lit_bool rfl hd
    obtain ⟨h0, h1, hw⟩ := domOk_log hd
    have hsh := shl3 h0 h1
    have hlt : w.val < rN := by rw [hw]; exact outF_lt _
    by_cases hl : l.length ≤ 2 ^ log.toNat
    · have hE : valE log w l = 0 := by unfold valE; rw [hd, if_pos rfl, if_pos hl]
      have hL : valL log w s l = (valsF (2 ^ log.toNat) (inF w) (inF s) (l.map inF)).map outF := by unfold valL; rw [if_pos ⟨hd, hl⟩]
      have r := lvD log w s l
      have hlen : 2 ^ log.toNat = ((valsF (2 ^ log.toNat) (inF w) (inF s) (l.map inF)).map outF).length := by rw [List.length_map, valsF_len]
      rw [hL, hE, hsh, decide_eq_true rfl] at r
      exact fn_sound envV3_ok Try.func7 r ⟨decide_eq_false h5, hn, h0, decide_eq_false (by omega), rfl, h0, h1, hlt, rfl, rfl, rfl, rfl, hlen, rfl, trivial⟩
    · have hE : valE log w l = 3 := by unfold valE; rw [hd, if_pos rfl, if_neg hl]
      have hL : valL log w s l = [] := by unfold valL; rw [if_neg (by simp [hl])]
      have r := lvC log w s l
      rw [hL, hE, hsh] at r
      exact fn_sound envV3_ok Try.func7 r ⟨decide_eq_false h5, hn, h0, decide_eq_true (by omega), rfl, trivial⟩

set_option maxRecDepth 100000 in
theorem domainValues_lifted (os : Os) (started : os.Started) (H : Type) (enc : TypeId × Value → H) :
    ReturnsInHanded {} Try.checked os 7 .any (Rows.domainValuesSpec.pre6 enc Try.prog Try.f7 Rows.domainValuesRow.domain false) (Rows.domainValuesSpec.post enc Try.prog Try.f7 false true false false) :=
  law_lifted (C := Try.checked) ownKnob_try (by kernel_rfl) Try.func7 laid_try (by kernel_rfl) rfl Try.underlying4 rfl (fun ds h => by
      match ds, h with
      | [d, e, f], _ => rfl) started
    (ChangeSpec.witness6 (enc := enc) (C := Try.checked) false ⟨#[], #[.agg #[.int .i64 0, .int .u64 0, .int .u64 0, .int .u64 0, .int .u64 0], .agg #[.int .u64 0, .int .u64 0, .int .u64 0, .int .u64 0], .slice none 0 0], []⟩ 8 (by kernel_rfl) (by kernel_rfl) (by kernel_rfl) (by kernel_rfl))
    fun W base args ds ps hval0 hA => by
      have hval : ∀ (j : Nat) t v, Try.f7.params[j]? = some t → args[j]? = some v → Value.okWide Try.prog W .any base t v := hval0
      clear hval0
      have hA : DataW.TrodAll enc Try.prog W 0 (fun _ => true) true Try.f7.params.toList args.toList ds ps := hA
      rw [Try.params7] at hA hval
      obtain ⟨v0, v1, v2, d0, d1, d2, p0, p1, p2, rfl, rfl, rfl, h0, h1, h2⟩ := trodAll_three hA
      obtain ⟨log, w, g0⟩ := a_dom (hval 0 34 v0 rfl rfl) h0
      obtain ⟨s, g1⟩ := a_fr (hval 1 32 v1 rfl rfl) h1
      obtain ⟨l, g2, _⟩ := a_frs (hval 2 38 v2 rfl rfl) h2
      exact ⟨_, .cons g0 (.cons g1 (.cons g2 .nil)), dvals_fnd log w s l⟩

theorem domainValues_holds : Rows.DomainValuesSaid :=
  OpenClaim.holds_of_wide 7 Try.f7 rfl rfl rfl rfl rfl rfl rfl ⟨rfl, rfl, rfl, rfl, rfl⟩ rfl rfl rfl rfl rfl (by kernel_rfl) Try.func7 (by kernel_rfl)
    (of_decide_eq_true (by kernel_rfl)) (by unfold Func.isWrapper; first | (rw [if_pos (by decide +kernel)]; kernel_rfl) | (rw [if_neg (by decide +kernel)]; exact ⟨rfl, rfl⟩))
    (fun os started H enc _ => domainValues_lifted os started H enc)

end Go.Proofs.Ytlfllehomhcbfaa
