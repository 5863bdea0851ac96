/- A log that is none: Append, Checkpoint. -/
import Derived.Test.YtmleldgohfcdbaaOpen
import Derived.Test.YtmleldgohfcdbaaRound
namespace Go.Proofs.Ytmleldgohfcdbaa
set_option linter.unusedVariables false
set_option linter.unusedSimpArgs false
open Go.RowKit
set_option maxRecDepth 100000 in
set_option maxHeartbeats 400000 in
theorem room_nil (w : World) (k i s : Int) (kv : ByteArray) (A A2 A3 : Option Addr) (n n2 n3 c c2 c3 : Nat) (a : Int) :
    Calls Try.prog 57 #[.pointer none, .agg #[.int .i64 k, .int .i64 i, .int .i64 s, .string kv, .slice A n c, .slice A2 n2 c2, .slice A3 n3 c3], .int .i64 a] w fun e w' => e = .returned (.tuple #[.slice none 0 0, .int .i64 1]) ∧ Below w.heap.size w w' := by
  go_enter Try.func57, Try.ntmps57
  go_wp2_with fail
  go_ret2
  exact ⟨rfl, (Below.refl _ w).alloc (Nat.le_refl _) _⟩
set_option maxRecDepth 100000 in
set_option maxHeartbeats 1000000 in
theorem append_nil (w : World) (k i s : Int) (kv : ByteArray) (A A2 A3 : Option Addr) (n n2 n3 c c2 c3 : Nat) :
    Calls Try.prog 35 #[.pointer none, .agg #[.int .i64 k, .int .i64 i, .int .i64 s, .string kv, .slice A n c, .slice A2 n2 c2, .slice A3 n3 c3]] w fun e w' => e = .returned (.int .i64 1) ∧ Below w.heap.size w w' := by
  obtain ⟨w1, hw1⟩ : ∃ w1, w.alloc (.cells #[.int .i64 k, .int .i64 i, .int .i64 s, .string kv, .slice A n c, .slice A2 n2 c2, .slice A3 n3 c3] 51) = w1 := ⟨_, rfl⟩
  have hb1 : Below w.heap.size w w1 := hw1 ▸ (Below.refl _ w).alloc (Nat.le_refl _) _
  have hm1 : w1.heap[w.heap.size]? = some (.cells #[.int .i64 k, .int .i64 i, .int .i64 s, .string kv, .slice A n c, .slice A2 n2 c2, .slice A3 n3 c3] 51 (0, 0)) := hw1 ▸ heap_alloc_new w _
  have m0 : w1.cell? ⟨w.heap.size, 0, none⟩ = some (.int .i64 k) := blk_cell hm1 0
  have m1 : w1.cell? ⟨w.heap.size, 1, none⟩ = some (.int .i64 i) := blk_cell hm1 1
  have m2 : w1.cell? ⟨w.heap.size, 2, none⟩ = some (.int .i64 s) := blk_cell hm1 2
  have m3 : w1.cell? ⟨w.heap.size, 3, none⟩ = some (.string kv) := blk_cell hm1 3
  have m4 : w1.cell? ⟨w.heap.size, 4, none⟩ = some (.slice A n c) := blk_cell hm1 4
  have m5 : w1.cell? ⟨w.heap.size, 5, none⟩ = some (.slice A2 n2 c2) := blk_cell hm1 5
  have m6 : w1.cell? ⟨w.heap.size, 6, none⟩ = some (.slice A3 n3 c3) := blk_cell hm1 6
  have Hw1 := Lib.hid hw1; have Hm1 := Lib.hid hm1
  clear hw1 hm1
  go_enter Try.func35, Try.ntmps35
  go_wp2_with fail
  rw [Hw1.out]
  go_region_held3 (fun w' => w'.cell? ⟨w.heap.size, 0, none⟩ = some (.int .i64 k) ∧ w'.cell? ⟨w.heap.size, 1, none⟩ = some (.int .i64 i) ∧ w'.cell? ⟨w.heap.size, 2, none⟩ = some (.int .i64 s) ∧ w'.cell? ⟨w.heap.size, 3, none⟩ = some (.string kv) ∧ w'.cell? ⟨w.heap.size, 4, none⟩ = some (.slice A n c) ∧ w'.cell? ⟨w.heap.size, 5, none⟩ = some (.slice A2 n2 c2) ∧ w'.cell? ⟨w.heap.size, 6, none⟩ = some (.slice A3 n3 c3)) (first
    | exact ⟨m0, m1, m2, m3, m4, m5, m6⟩
    | exact ⟨n0', n1', n2', n3', n4', n5', n6'⟩)
    (first
    | (go_at_call 38; refine (size_nil w1.drew).mono ?_; rintro e w' ⟨rfl, rfl⟩)
    | (go_at_call 57; refine (room_nil w1.drew k i s kv A A2 A3 n n2 n3 c c2 c3 0).mono ?_; rintro e w2 ⟨rfl, hb2⟩; have n0' : w2.cell? ⟨w.heap.size, 0, none⟩ = some (.int .i64 k) := (hb2.cell (blk_lt Hm1.out)).trans m0; have n1' : w2.cell? ⟨w.heap.size, 1, none⟩ = some (.int .i64 i) := (hb2.cell (blk_lt Hm1.out)).trans m1; have n2' : w2.cell? ⟨w.heap.size, 2, none⟩ = some (.int .i64 s) := (hb2.cell (blk_lt Hm1.out)).trans m2; have n3' : w2.cell? ⟨w.heap.size, 3, none⟩ = some (.string kv) := (hb2.cell (blk_lt Hm1.out)).trans m3; have n4' : w2.cell? ⟨w.heap.size, 4, none⟩ = some (.slice A n c) := (hb2.cell (blk_lt Hm1.out)).trans m4; have n5' : w2.cell? ⟨w.heap.size, 5, none⟩ = some (.slice A2 n2 c2) := (hb2.cell (blk_lt Hm1.out)).trans m5; have n6' : w2.cell? ⟨w.heap.size, 6, none⟩ = some (.slice A3 n3 c3) := (hb2.cell (blk_lt Hm1.out)).trans m6))
  go_wp2_with fail
  refine (size_nil w2).mono ?_
  rintro e w' ⟨rfl, rfl⟩
  go_wp2_with fail
  refine (done_nil w2 1 0).mono ?_
  rintro e w' ⟨rfl, rfl⟩
  go_wp2_with fail
  go_ret
  have hb2' : Below w1.heap.size w1 w2 := ⟨hb2.os, hb2.tape, hb2.output, hb2.size, hb2.block⟩
  exact ⟨rfl, hb1.trans (hb2'.mono hb1.size)⟩
set_option maxRecDepth 100000 in
set_option maxHeartbeats 1000000 in
theorem check_nil (w : World) (k i s : Int) (kv : ByteArray) (A A2 A3 : Option Addr) (n n2 n3 c c2 c3 : Nat) :
    Calls Try.prog 39 #[.pointer none, .agg #[.int .i64 k, .int .i64 i, .int .i64 s, .string kv, .slice A n c, .slice A2 n2 c2, .slice A3 n3 c3]] w fun e w' => e = .returned (.int .i64 1) ∧ Below w.heap.size w w' := by
  obtain ⟨w1, hw1⟩ : ∃ w1, w.alloc (.cells #[.int .i64 k, .int .i64 i, .int .i64 s, .string kv, .slice A n c, .slice A2 n2 c2, .slice A3 n3 c3] 51) = w1 := ⟨_, rfl⟩
  have hb1 : Below w.heap.size w w1 := hw1 ▸ (Below.refl _ w).alloc (Nat.le_refl _) _
  have hm1 : w1.heap[w.heap.size]? = some (.cells #[.int .i64 k, .int .i64 i, .int .i64 s, .string kv, .slice A n c, .slice A2 n2 c2, .slice A3 n3 c3] 51 (0, 0)) := hw1 ▸ heap_alloc_new w _
  have m0 : w1.cell? ⟨w.heap.size, 0, none⟩ = some (.int .i64 k) := blk_cell hm1 0
  have m1 : w1.cell? ⟨w.heap.size, 1, none⟩ = some (.int .i64 i) := blk_cell hm1 1
  have m2 : w1.cell? ⟨w.heap.size, 2, none⟩ = some (.int .i64 s) := blk_cell hm1 2
  have m3 : w1.cell? ⟨w.heap.size, 3, none⟩ = some (.string kv) := blk_cell hm1 3
  have m4 : w1.cell? ⟨w.heap.size, 4, none⟩ = some (.slice A n c) := blk_cell hm1 4
  have m5 : w1.cell? ⟨w.heap.size, 5, none⟩ = some (.slice A2 n2 c2) := blk_cell hm1 5
  have m6 : w1.cell? ⟨w.heap.size, 6, none⟩ = some (.slice A3 n3 c3) := blk_cell hm1 6
  have Hw1 := Lib.hid hw1; have Hm1 := Lib.hid hm1
  clear hw1 hm1
  go_enter Try.func39, Try.ntmps39
  go_wp2_with fail
  rw [Hw1.out]
  refine (room_nil w1 k i s kv A A2 A3 n n2 n3 c c2 c3 0).mono ?_
  rintro e w2 ⟨rfl, hb2⟩
  go_wp2_with fail
  refine (done_nil w2 1 0).mono ?_
  rintro e w' ⟨rfl, rfl⟩
  go_wp2_with fail
  go_ret
  exact ⟨rfl, hb1.trans (hb2.mono hb1.size)⟩
/-- A tape of which both sides have these bytes, and nothing is loose. -/
def cleanT (b : List UInt8) : TTape := ⟨⟨b, [], false, false, false⟩, ⟨b, [], false, false, false⟩, -1, false⟩
theorem writeT_clean (b x : List UInt8) (sw : Bool) : writeT (cleanT b) x sw = (cleanT ((if sw then [] else b) ++ x), 0) := by
  cases sw <;> rfl
theorem bestOf_same (l : List PRec) (h : ∀ r ∈ l, OkR r) : bestOf (ents l) (ents l) = (l, ents l) := by
  unfold bestOf
  rw [if_neg (Nat.lt_irrefl _), scanOf_ents0 l h]
  simp
theorem best_clean (l : List PRec) (h : ∀ r ∈ l, OkR r) : (cleanT (ents l)).best = (l, ents l) := bestOf_same l h
theorem openT_clean (l : List PRec) (h : ∀ r ∈ l, OkR r) : openT (cleanT (ents l)) = (cleanT (ents l), 0) := by
  unfold openT
  rw [best_clean l h]
  have h1 : (cleanT (ents l)).s0.seen = ents l := rfl
  have h2 : (cleanT (ents l)).s1.seen = ents l := rfl
  rw [h1, h2, beq_self_eq_true, if_neg (by show ¬ ((false && false) = true); decide), if_neg (by show ¬ ((!false && !true || !false && !true) = true); decide)]
theorem roomE_ok {r : PRec} (h : OkR r) (ahead : Nat) (ha : ahead + (ent r).length ≤ 16384) : roomE false r ahead = 0 := by
  have := ent_length r
  unfold roomE
  rw [if_neg (by decide), if_neg (by rw [h.1]; decide), if_neg (by have := h.2; omega), if_neg (by omega)]
theorem appendL_clean {r : PRec} {b : List UInt8} (h : roomE false r b.length = 0) : appendL ⟨cleanT b, b.length, false⟩ r = (⟨cleanT (b ++ ent r), (b ++ ent r).length, false⟩, 0) := by
  unfold appendL
  simp only
  rw [if_neg (by rw [h]; decide), writeT_clean]
  simp [ent]
theorem appendL_no {r : PRec} {b : List UInt8} (h : roomE false r b.length ≠ 0) : appendL ⟨cleanT b, b.length, false⟩ r = (⟨cleanT b, b.length, false⟩, roomE false r b.length) := by
  have h9 : roomE false r b.length ≠ 9 := by unfold roomE; repeat' split
                                             all_goals first | decide | contradiction
  unfold appendL
  simp only
  rw [if_pos h, if_neg h9]
theorem checkL_clean {r : PRec} {b : List UInt8} (h : roomE false r 0 = 0) : checkL ⟨cleanT b, b.length, false⟩ r = (⟨cleanT (ent r), (ent r).length, false⟩, 0) := by
  unfold checkL
  simp only
  rw [if_neg (by rw [h]; decide), writeT_clean]
  simp [ent]
theorem checkL_no {r : PRec} {b : List UInt8} (h : roomE false r 0 ≠ 0) : checkL ⟨cleanT b, b.length, false⟩ r = (⟨cleanT b, b.length, false⟩, roomE false r 0) := by
  have h9 : roomE false r 0 ≠ 9 := by unfold roomE; repeat' split
                                      all_goals first | decide | contradiction
  unfold checkL
  simp only
  rw [if_pos h, if_neg h9]
end Go.Proofs.Ytmleldgohfcdbaa
