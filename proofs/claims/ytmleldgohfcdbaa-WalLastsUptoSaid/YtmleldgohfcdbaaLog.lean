/- wal's log: Size, done, room. -/
import Derived.Test.YtmleldgohfcdbaaTape3
namespace Go.Proofs.Ytmleldgohfcdbaa
set_option linter.unusedVariables false
set_option linter.unusedSimpArgs false
open Go.RowKit
/-- Block q is a log on the tape of block g, of so many bytes. -/
def LogAt (w : World) (q g : Nat) (size : Nat) (down : Bool) : Prop := w.heap[q]? = some (.cells #[.pointer (some ⟨g, 0, none⟩), .int .i64 size, .bool down] 88 (0, 0))
set_option maxRecDepth 100000 in
set_option maxHeartbeats 400000 in
theorem size_any (w : World) (q g s : Nat) (d : Bool) (h : LogAt w q g s d) : Calls Try.prog 38 #[.pointer (some ⟨q, 0, none⟩)] w fun e w' => e = .returned (.int .i64 s) ∧ w = w' := by
  have c1 : w.cell? ⟨q, 1, none⟩ = some (.int .i64 s) := blk_cell h 1
  go_enter Try.func38, Try.ntmps38
  go_wp2_with fail
  go_ret
  exact ⟨rfl, rfl⟩
set_option maxRecDepth 100000 in
set_option maxHeartbeats 400000 in
theorem size_nil (w : World) : Calls Try.prog 38 #[.pointer none] w fun e w' => e = .returned (.int .i64 0) ∧ w = w' := by
  go_enter Try.func38, Try.ntmps38
  go_wp2_with fail
  go_ret
  exact ⟨rfl, rfl⟩
/-- What of a log a write's answer leaves. -/
def DonePost (w : World) (q g : Nat) (s n : Nat) (d : Bool) (x : Int) (e : Ending) (w' : World) : Prop :=
  e = .returned (.int .i64 x) ∧ LogAt w' q g (if x = 0 then n else s) (if x = 9 then true else d) ∧ w.grownBy w' (some q)
set_option maxRecDepth 100000 in
set_option maxHeartbeats 400000 in
theorem done_any (w : World) (q g s n : Nat) (d : Bool) (h : LogAt w q g s d) (x : Int) : Calls Try.prog 59 #[.pointer (some ⟨q, 0, none⟩), .int .i64 x, .int .i64 n] w (DonePost w q g s n d x) := by
  have c1 : w.cell? ⟨q, 1, none⟩ = some (.int .i64 s) := blk_cell h 1
  have c2 : w.cell? ⟨q, 2, none⟩ = some (.bool d) := blk_cell h 2
  have f1 := blk_free h 1
  have f2 := blk_free h 2
  by_cases hx : x = 0
  · subst hx
    go_enter Try.func59, Try.ntmps59
    go_wp2_with fail
    go_ret
    exact ⟨rfl, blk_set h 1 _, grown_set _ _ _ _⟩
  · by_cases h9 : x = 9
    · subst h9
      go_enter Try.func59, Try.ntmps59
      go_wp2_with fail
      go_ret
      exact ⟨rfl, blk_set h 2 _, grown_set _ _ _ _⟩
    · go_enter Try.func59, Try.ntmps59
      go_wp2_with fail
      go_ret
      exact ⟨rfl, by rw [if_neg hx, if_neg h9]; exact h, grown_of_below (Below.refl _ _) _⟩
set_option maxRecDepth 100000 in
set_option maxHeartbeats 400000 in
theorem done_nil (w : World) (x n : Int) : Calls Try.prog 59 #[.pointer none, .int .i64 x, .int .i64 n] w fun e w' => e = .returned (.int .i64 x) ∧ w = w' := by
  go_enter Try.func59, Try.ntmps59
  go_wp2_with fail
  go_ret
  exact ⟨rfl, rfl⟩
end Go.Proofs.Ytmleldgohfcdbaa
