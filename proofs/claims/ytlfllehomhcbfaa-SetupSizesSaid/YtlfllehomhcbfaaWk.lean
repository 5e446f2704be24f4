/- What proofs of walks use: loops at which a run stands, obligations. No conditions. -/
import Derived.Test.YtlfllehomhcbfaaFwZ
namespace Go.Proofs.Ytlfllehomhcbfaa

def bodyOf (fn : Func) : Code := fn.body.getD .skip
/-- A loop at which a run stands: its body, what is behind it. -/
def lpC (k : List KI) : Code := ((loopOf k).getD (.skip, [])).1
def lpR (k : List KI) : List KI := ((loopOf k).getD (.skip, [])).2
def lpIn (k : List KI) : List KI := .code (lpC k) :: .lp (lpC k) :: lpR k
def lpBk (k : List KI) : List KI := .lp (lpC k) :: lpR k

theorem sl_len {x : Ctx} {q : Sq} {v : Value} (h : denS x (.v (.c (.sl q))) v) : q.n ≤ maxLen := by
  rcases D_sl h with ⟨_, _, _, h⟩ | ⟨_, _, _, _, _, h, _⟩
  · omega
  · exact h

theorem wrap_id {n : Int} (h1 : -9223372036854775808 ≤ n) (h2 : n < 9223372036854775808) : IntKind.wrap IntKind.i64 n = n := by
  show (if (true && decide (n % (2 ^ 64 : Int) ≥ (2 ^ (64 - 1) : Int))) = true then n % (2 ^ 64 : Int) - (2 ^ 64 : Int) else n % (2 ^ 64 : Int)) = n
  split
  · rename_i h; have h := of_decide_eq_true (by simpa using h : decide (n % (2 ^ 64 : Int) ≥ (2 ^ (64 - 1) : Int)) = true); omega
  · rename_i h; have h : ¬ (n % (2 ^ 64 : Int) ≥ (2 ^ (64 - 1) : Int)) := fun h' => h (by simpa using h'); omega

theorem wrap_u {n : Int} (h1 : 0 ≤ n) (h2 : n < 18446744073709551616) : IntKind.wrap IntKind.u64 n = n := by
  simp only [IntKind.wrap, IntKind.bits, IntKind.signed, Bool.false_and, Bool.false_eq_true, if_false]
  omega

theorem wrap01 : IntKind.wrap IntKind.i64 ((0 : Int) + 1) = 1 := by decide
theorem wrap12 : IntKind.wrap IntKind.i64 ((1 : Int) + 1) = 2 := by decide
theorem wrap23 : IntKind.wrap IntKind.i64 ((2 : Int) + 1) = 3 := by decide

theorem all_drop {α : Type} (f : α → Bool) (d : α) : ∀ (l : List α) (i : Nat), i < l.length → (l.drop i).all f = (f (l.getD i d) && (l.drop (i + 1)).all f)
  | [], i, h => by simp at h
  | a :: l, 0, _ => by simp
  | a :: l, i + 1, h => by
    simp only [List.length_cons, Nat.succ_lt_succ_iff] at h
    simpa using all_drop f d l i h

end Go.Proofs.Ytlfllehomhcbfaa
