/- This seat's types, the functions that are stepped into, and the table of contracts at its beginning. No conditions. -/
import Derived.Test.YtlfllehomhcbfaaFwZ
import Derived.Test.YtlfllehomhcbfaaProg
namespace Go.Proofs.Ytlfllehomhcbfaa

set_option maxRecDepth 10000 in
noncomputable def tyRows : List (Nat × TyI) := [
  (2, ⟨1, false, 8, [.int .i64 0], [], none, none, (some .i64), none, [true]⟩),
  (3, ⟨1, false, 8, [.int .i64 0], [], none, none, (some .i64), (some (.int [])), [true]⟩),
  (4, ⟨1, false, 1, [.lit false], [], none, none, none, none, [false]⟩),
  (5, ⟨1, false, 1, [.int .u8 0], [], none, none, (some .u8), none, [true]⟩),
  (19, ⟨1, true, 8, [.val (.pointer none)], [(0, 1, false)], none, none, none, none, []⟩),
  (21, ⟨1, false, 4, [.int .i32 0], [], none, none, (some .i32), none, [true]⟩),
  (22, ⟨1, false, 24, [.val (.slice none 0 0)], [], none, (some 80), none, none, []⟩),
  (23, ⟨3, true, 40, [.sl (.gate []), .int .i64 0, .int .i64 0], [(0, 1, false), (1, 1, false), (2, 1, false)], none, none, none, none, []⟩),
  (24, ⟨3, true, 40, [.sl (.gate []), .int .i64 0, .int .i64 0], [(0, 1, false), (1, 1, false), (2, 1, false)], none, none, none, none, []⟩),
  (25, ⟨1, false, 8, [.int .i64 0], [], none, none, (some .i64), none, [true]⟩),
  (30, ⟨1, false, 8, [.int .u64 0], [], none, none, (some .u64), (some (.u64 [])), [true]⟩),
  (31, ⟨4, true, 32, [.int .u64 0, .int .u64 0, .int .u64 0, .int .u64 0], [], (some (4, 30)), none, none, none, [true, true, true, true]⟩),
  (32, ⟨4, true, 32, [.ob (.fr 0)], [], (some (4, 30)), none, none, (some (.fr [])), [true, true, true, true]⟩),
  (33, ⟨5, true, 40, [.int .i64 0, .ob (.fr 0)], [(0, 1, false), (1, 4, true)], none, none, none, none, [true, true, true, true, true]⟩),
  (34, ⟨5, true, 40, [.int .i64 0, .ob (.fr 0)], [(0, 1, false), (1, 4, true)], none, none, none, none, [true, true, true, true, true]⟩),
  (38, ⟨1, false, 24, [.val (.slice none 0 0)], [], none, (some 32), none, (some (.frs [])), []⟩),
  (64, ⟨1, false, 8, [.val (.map none)], [], none, none, none, none, []⟩),
  (78, ⟨3, true, 24, [.int .i64 0, .int .i64 0, .int .i64 0], [], (some (3, 3)), none, none, none, [true, true, true]⟩),
  (79, ⟨23, true, 184, [.ob (.fr 0), .ob (.fr 0), .ob (.fr 0), .ob (.fr 0), .ob (.fr 0), .int .i64 0, .int .i64 0, .int .i64 0], [(0, 4, true), (4, 4, true), (8, 4, true), (12, 4, true), (16, 4, true), (20, 3, true)], none, none, none, none, [true, true, true, true, true, true, true, true, true, true, true, true, true, true, true, true, true, true, true, true, true, true, true]⟩),
  (80, ⟨23, true, 184, [.ob (.fr 0), .ob (.fr 0), .ob (.fr 0), .ob (.fr 0), .ob (.fr 0), .int .i64 0, .int .i64 0, .int .i64 0], [(0, 4, true), (4, 4, true), (8, 4, true), (12, 4, true), (16, 4, true), (20, 3, true)], none, none, none, (some (.gate [])), [true, true, true, true, true, true, true, true, true, true, true, true, true, true, true, true, true, true, true, true, true, true, true]⟩),
  (81, ⟨4, true, 32, [.ob (.s 0)], [], (some (4, 30)), none, none, (some (.s [])), [true, true, true, true]⟩),
  (86, ⟨1, false, 24, [.val (.slice none 0 0)], [], none, (some 81), none, none, []⟩),
  (89, ⟨1, false, 8, [.int .u64 0], [], none, none, (some .u64), none, [true]⟩),
  (99, ⟨1, false, 24, [.val (.slice none 0 0)], [], none, (some 30), none, none, []⟩),
  (105, ⟨1, false, 24, [.val (.slice none 0 0)], [], none, (some 3), none, (some (.ints [])), []⟩),
  (112, ⟨1, false, 24, [.val (.slice none 0 0)], [], none, (some 38), none, none, []⟩),
  (120, ⟨1, false, 4, [.int .u32 0], [], none, none, (some .u32), none, [true]⟩),
  (124, ⟨10, true, 80, [.int .u64 0, .int .u64 0, .int .u64 0, .int .u64 0, .int .u64 0, .int .u64 0, .int .u64 0, .int .u64 0, .int .u64 0, .int .u64 0], [], (some (10, 30)), none, none, none, [true, true, true, true, true, true, true, true, true, true]⟩),
  (129, ⟨8, true, 64, [.int .u64 0, .int .u64 0, .int .u64 0, .int .u64 0, .int .u64 0, .int .u64 0, .int .u64 0, .int .u64 0], [], (some (8, 30)), none, none, none, [true, true, true, true, true, true, true, true]⟩),
  (141, ⟨1, false, 8, [.val (.pointer none)], [], none, none, none, none, []⟩)]

theorem tyOk : (tyRows.all fun r => tyCheck Try.prog r.1 r.2) = true := by kernel_rfl

theorem mixed : Try.prog.follows .mixedOrders = true := by kernel_rfl

noncomputable def inlFn (f : Nat) : Option Func :=
  if f = 94 then some Try.f94 else
  if f = 112 then some Try.f112 else
  if f = 95 then some Try.f95 else
  if f = 96 then some Try.f96 else
  if f = 113 then some Try.f113 else
  if f = 97 then some Try.f97 else
  none

theorem inl_ok : ∀ f fn, inlFn f = some fn → Try.prog.funcs[f]? = some fn ∧ Enters Try.prog f := by
  intro f fn h
  unfold inlFn at h
  split at h
  · rename_i hf; cases h; subst hf; exact ⟨Try.func94, enters_of Try.func94 rfl rfl⟩
  split at h
  · rename_i hf; cases h; subst hf; exact ⟨Try.func112, enters_of Try.func112 rfl rfl⟩
  split at h
  · rename_i hf; cases h; subst hf; exact ⟨Try.func95, enters_of Try.func95 rfl rfl⟩
  split at h
  · rename_i hf; cases h; subst hf; exact ⟨Try.func96, enters_of Try.func96 rfl rfl⟩
  split at h
  · rename_i hf; cases h; subst hf; exact ⟨Try.func113, enters_of Try.func113 rfl rfl⟩
  split at h
  · rename_i hf; cases h; subst hf; exact ⟨Try.func97, enters_of Try.func97 rfl rfl⟩
  cases h

noncomputable def env0 : Env := ⟨tyGet tyRows, fun _ => none, fun _ => none, inlFn⟩

theorem env0_ok : EnvOk Try.prog env0 :=
  ⟨fun t i h => tyGet_ok tyRows tyOk t i h, mixed, fun f s h => (by cases h), fun f s h => (by cases h), inl_ok⟩

end Go.Proofs.Ytlfllehomhcbfaa
