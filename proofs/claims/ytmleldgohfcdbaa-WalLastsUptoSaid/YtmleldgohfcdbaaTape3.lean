/- tape: Lose, Spoil, Fuse. -/
import Derived.Test.YtmleldgohfcdbaaTape2
namespace Go.Proofs.Ytmleldgohfcdbaa
set_option linter.unusedVariables false
set_option linter.unusedSimpArgs false
open Go.RowKit

theorem at0_any (w : World) (g : Nat) : Calls Try.prog 61 #[.pointer (some ⟨g, 0, none⟩), .int .i64 0] w fun e w' => e = .returned (.pointer (some ⟨g, 0, none⟩)) ∧ w = w' := by
  go_enter Try.func61, Try.ntmps61
  go_wp2_with fail
  go_ret
  exact ⟨rfl, rfl⟩
set_option maxRecDepth 100000 in
set_option maxHeartbeats 1000000 in
theorem lose0_any (w : World) (g : Nat) (P : Nat → Prop) (t : TTape) (h : TapeAt w g P t) (hPg : ∀ k, P k → k ≠ g) :
    Calls Try.prog 41 #[.pointer (some ⟨g, 0, none⟩), .int .i64 0] w fun e w' => e = .returned (.tuple #[]) ∧ TapeAt w' g P { t with s0 := ⟨[], [], false, false, true⟩ } ∧ w.grownBy w' (some g) := by
  obtain ⟨v0, u0, v1, u1, hblk, h0, h1, h2, h3⟩ := h
  have c0 : w.cell? ⟨g, 0, none⟩ = some v0 := blk_cell hblk 0
  have c1 : w.cell? ⟨g, 1, none⟩ = some u0 := blk_cell hblk 1
  have c2 : w.cell? ⟨g, 2, none⟩ = some (.bool t.s0.swap) := blk_cell hblk 2
  have c3 : w.cell? ⟨g, 3, none⟩ = some (.bool t.s0.wet) := blk_cell hblk 3
  have c4 : w.cell? ⟨g, 4, none⟩ = some (.bool t.s0.lost) := blk_cell hblk 4
  have f0 := blk_free hblk 0
  have f1 := blk_free hblk 1
  have f2 := blk_free hblk 2
  have f3 := blk_free hblk 3
  have f4 := blk_free hblk 4
  go_enter Try.func41, Try.ntmps41
  go_wp2_with fail
  refine (at0_any w g).mono ?_
  rintro e w' ⟨rfl, rfl⟩
  go_wp2_with fail
  go_end0
  have k1 := blk_set hblk 0 (.slice none 0 0)
  have k2 := blk_set k1 1 (.slice none 0 0)
  have k3 := blk_set k2 2 (.bool false)
  have k4 := blk_set k3 3 (.bool false)
  have k5 := blk_set k4 4 (.bool true)
  have gw : w.grownBy (((((w.setCell ⟨g, 0, none⟩ (.slice none 0 0)).setCell ⟨g, 1, none⟩ (.slice none 0 0)).setCell ⟨g, 2, none⟩ (.bool false)).setCell ⟨g, 3, none⟩ (.bool false)).setCell ⟨g, 4, none⟩ (.bool true)) (some g) :=
    grown_trans (grown_trans (grown_trans (grown_trans (grown_set _ _ _ _) (grown_set _ _ _ _)) (grown_set _ _ _ _)) (grown_set _ _ _ _)) (grown_set _ _ _ _)
  have hk : ∀ k, k < w.heap.size → P k → (((((w.setCell ⟨g, 0, none⟩ (.slice none 0 0)).setCell ⟨g, 1, none⟩ (.slice none 0 0)).setCell ⟨g, 2, none⟩ (.bool false)).setCell ⟨g, 3, none⟩ (.bool false)).setCell ⟨g, 4, none⟩ (.bool true)).heap[k]? = w.heap[k]? := fun k hk hp => gw.block k hk (by simpa using hPg k hp)
  exact ⟨rfl, ⟨_, _, _, _, k5, .nil _ _, .nil _ _, h2.keep hk, h3.keep hk⟩, gw⟩

theorem at1_any (w : World) (g : Nat) : Calls Try.prog 61 #[.pointer (some ⟨g, 0, none⟩), .int .i64 1] w fun e w' => e = .returned (.pointer (some ⟨g, 5, none⟩)) ∧ w = w' := by
  go_enter Try.func61, Try.ntmps61
  go_wp2_with fail
  go_ret
  exact ⟨rfl, rfl⟩
set_option maxRecDepth 100000 in
set_option maxHeartbeats 1000000 in
theorem lose1_any (w : World) (g : Nat) (P : Nat → Prop) (t : TTape) (h : TapeAt w g P t) (hPg : ∀ k, P k → k ≠ g) :
    Calls Try.prog 41 #[.pointer (some ⟨g, 0, none⟩), .int .i64 1] w fun e w' => e = .returned (.tuple #[]) ∧ TapeAt w' g P { t with s1 := ⟨[], [], false, false, true⟩ } ∧ w.grownBy w' (some g) := by
  obtain ⟨v0, u0, v1, u1, hblk, h0, h1, h2, h3⟩ := h
  have c0 : w.cell? ⟨g, 5, none⟩ = some v1 := blk_cell hblk 5
  have c1 : w.cell? ⟨g, 6, none⟩ = some u1 := blk_cell hblk 6
  have c2 : w.cell? ⟨g, 7, none⟩ = some (.bool t.s1.swap) := blk_cell hblk 7
  have c3 : w.cell? ⟨g, 8, none⟩ = some (.bool t.s1.wet) := blk_cell hblk 8
  have c4 : w.cell? ⟨g, 9, none⟩ = some (.bool t.s1.lost) := blk_cell hblk 9
  have f0 := blk_free hblk 5
  have f1 := blk_free hblk 6
  have f2 := blk_free hblk 7
  have f3 := blk_free hblk 8
  have f4 := blk_free hblk 9
  go_enter Try.func41, Try.ntmps41
  go_wp2_with fail
  refine (at1_any w g).mono ?_
  rintro e w' ⟨rfl, rfl⟩
  go_wp2_with fail
  go_end0
  have k1 := blk_set hblk 5 (.slice none 0 0)
  have k2 := blk_set k1 6 (.slice none 0 0)
  have k3 := blk_set k2 7 (.bool false)
  have k4 := blk_set k3 8 (.bool false)
  have k5 := blk_set k4 9 (.bool true)
  have gw : w.grownBy (((((w.setCell ⟨g, 5, none⟩ (.slice none 0 0)).setCell ⟨g, 6, none⟩ (.slice none 0 0)).setCell ⟨g, 7, none⟩ (.bool false)).setCell ⟨g, 8, none⟩ (.bool false)).setCell ⟨g, 9, none⟩ (.bool true)) (some g) :=
    grown_trans (grown_trans (grown_trans (grown_trans (grown_set _ _ _ _) (grown_set _ _ _ _)) (grown_set _ _ _ _)) (grown_set _ _ _ _)) (grown_set _ _ _ _)
  have hk : ∀ k, k < w.heap.size → P k → (((((w.setCell ⟨g, 5, none⟩ (.slice none 0 0)).setCell ⟨g, 6, none⟩ (.slice none 0 0)).setCell ⟨g, 7, none⟩ (.bool false)).setCell ⟨g, 8, none⟩ (.bool false)).setCell ⟨g, 9, none⟩ (.bool true)).heap[k]? = w.heap[k]? := fun k hk hp => gw.block k hk (by simpa using hPg k hp)
  exact ⟨rfl, ⟨_, _, _, _, k5, h0.keep hk, h1.keep hk, .nil _ _, .nil _ _⟩, gw⟩

set_option maxRecDepth 100000 in
set_option maxHeartbeats 1000000 in
theorem spoil0_any (w : World) (g : Nat) (P : Nat → Prop) (t : TTape) (h : TapeAt w g P t) (hP : ∀ k, w.heap.size ≤ k → P k) (hPg : ∀ k, P k → k ≠ g)
    (B : Option Addr) (d : Nat) (b : List UInt8) (hs : RB w B b) (hlen : b.length ≤ 100000000000000) :
    Calls Try.prog 40 #[.pointer (some ⟨g, 0, none⟩), .int .i64 0, .slice B b.length d] w fun e w' => e = .returned (.tuple #[]) ∧ TapeAt w' g P { t with s0 := { t.s0 with b := b, loose := [], wet := false } } ∧ w.grownBy w' (some g) := by
  obtain ⟨v0, u0, v1, u1, hblk, h0, h1, h2, h3⟩ := h
  go_enter Try.func40, Try.ntmps40
  go_wp2_with fail
  refine (at0_any w g).mono ?_
  rintro e w' ⟨rfl, rfl⟩
  go_wp2_with fail
  refine (clone_any B d w b (by omega) hs).mono ?_
  rintro e w1 ⟨vb, rfl, hown, hb1⟩
  have hblk1 := (hb1.block g (blk_lt hblk)).trans hblk
  obtain ⟨Ab, cb, rfl, hlb, _, _⟩ := hown.form
  have c0 : w1.cell? ⟨g, 0, none⟩ = some v0 := blk_cell hblk1 0
  have c1 : w1.cell? ⟨g, 1, none⟩ = some u0 := blk_cell hblk1 1
  have c3 : w1.cell? ⟨g, 3, none⟩ = some (.bool t.s0.wet) := blk_cell hblk1 3
  have f0 := blk_free hblk1 0
  have f1 := blk_free hblk1 1
  have f3 := blk_free hblk1 3
  go_wp2_with fail
  go_end0
  have k1 := blk_set hblk1 0 (.slice Ab b.length cb)
  have k2 := blk_set k1 1 (.slice none 0 0)
  have k3 := blk_set k2 3 (.bool false)
  have gw : w1.grownBy (((w1.setCell ⟨g, 0, none⟩ (.slice Ab b.length cb)).setCell ⟨g, 1, none⟩ (.slice none 0 0)).setCell ⟨g, 3, none⟩ (.bool false)) (some g) :=
    grown_trans (grown_trans (grown_set _ _ _ _) (grown_set _ _ _ _)) (grown_set _ _ _ _)
  generalize ((w1.setCell ⟨g, 0, none⟩ (.slice Ab b.length cb)).setCell ⟨g, 1, none⟩ (.slice none 0 0)).setCell ⟨g, 3, none⟩ (.bool false) = w2 at k3 gw ⊢
  have gr : w.grownBy w2 (some g) := grown_trans (grown_of_below hb1 _) gw
  have hk : ∀ k, k < w.heap.size → P k → w2.heap[k]? = w.heap[k]? := fun k hk hp => gr.block k hk (by simpa using hPg k hp)
  have hnew : TSlice w2 P (.slice Ab b.length cb) b := ((OwnB.tslice hown).imp fun k _ h => hP k h).keep fun k hk hp => gw.block k hk (by simpa using hPg k hp)
  exact ⟨rfl, ⟨_, _, _, _, k3, hnew, .nil _ _, h2.keep hk, h3.keep hk⟩, gr⟩

set_option maxRecDepth 100000 in
set_option maxHeartbeats 1000000 in
theorem spoil1_any (w : World) (g : Nat) (P : Nat → Prop) (t : TTape) (h : TapeAt w g P t) (hP : ∀ k, w.heap.size ≤ k → P k) (hPg : ∀ k, P k → k ≠ g)
    (B : Option Addr) (d : Nat) (b : List UInt8) (hs : RB w B b) (hlen : b.length ≤ 100000000000000) :
    Calls Try.prog 40 #[.pointer (some ⟨g, 0, none⟩), .int .i64 1, .slice B b.length d] w fun e w' => e = .returned (.tuple #[]) ∧ TapeAt w' g P { t with s1 := { t.s1 with b := b, loose := [], wet := false } } ∧ w.grownBy w' (some g) := by
  obtain ⟨v0, u0, v1, u1, hblk, h0, h1, h2, h3⟩ := h
  go_enter Try.func40, Try.ntmps40
  go_wp2_with fail
  refine (at1_any w g).mono ?_
  rintro e w' ⟨rfl, rfl⟩
  go_wp2_with fail
  refine (clone_any B d w b (by omega) hs).mono ?_
  rintro e w1 ⟨vb, rfl, hown, hb1⟩
  have hblk1 := (hb1.block g (blk_lt hblk)).trans hblk
  obtain ⟨Ab, cb, rfl, hlb, _, _⟩ := hown.form
  have c0 : w1.cell? ⟨g, 5, none⟩ = some v1 := blk_cell hblk1 5
  have c1 : w1.cell? ⟨g, 6, none⟩ = some u1 := blk_cell hblk1 6
  have c3 : w1.cell? ⟨g, 8, none⟩ = some (.bool t.s1.wet) := blk_cell hblk1 8
  have f0 := blk_free hblk1 5
  have f1 := blk_free hblk1 6
  have f3 := blk_free hblk1 8
  go_wp2_with fail
  go_end0
  have k1 := blk_set hblk1 5 (.slice Ab b.length cb)
  have k2 := blk_set k1 6 (.slice none 0 0)
  have k3 := blk_set k2 8 (.bool false)
  have gw : w1.grownBy (((w1.setCell ⟨g, 5, none⟩ (.slice Ab b.length cb)).setCell ⟨g, 6, none⟩ (.slice none 0 0)).setCell ⟨g, 8, none⟩ (.bool false)) (some g) :=
    grown_trans (grown_trans (grown_set _ _ _ _) (grown_set _ _ _ _)) (grown_set _ _ _ _)
  generalize ((w1.setCell ⟨g, 5, none⟩ (.slice Ab b.length cb)).setCell ⟨g, 6, none⟩ (.slice none 0 0)).setCell ⟨g, 8, none⟩ (.bool false) = w2 at k3 gw ⊢
  have gr : w.grownBy w2 (some g) := grown_trans (grown_of_below hb1 _) gw
  have hk : ∀ k, k < w.heap.size → P k → w2.heap[k]? = w.heap[k]? := fun k hk hp => gr.block k hk (by simpa using hPg k hp)
  have hnew : TSlice w2 P (.slice Ab b.length cb) b := ((OwnB.tslice hown).imp fun k _ h => hP k h).keep fun k hk hp => gw.block k hk (by simpa using hPg k hp)
  exact ⟨rfl, ⟨_, _, _, _, k3, h0.keep hk, h1.keep hk, hnew, .nil _ _⟩, gr⟩

set_option maxRecDepth 100000 in
set_option maxHeartbeats 1000000 in
theorem fuse_any (w : World) (g : Nat) (P : Nat → Prop) (t : TTape) (h : TapeAt w g P t) (hPg : ∀ k, P k → k ≠ g) (n : Nat) (hn : n ≤ 1000) :
    Calls Try.prog 42 #[.pointer (some ⟨g, 0, none⟩), .int .i64 n] w fun e w' => e = .returned (.tuple #[]) ∧ TapeAt w' g P { t with fuse := n } ∧ w.grownBy w' (some g) := by
  obtain ⟨v0, u0, v1, u1, hblk, h0, h1, h2, h3⟩ := h
  have c10 : w.cell? ⟨g, 10, none⟩ = some (.int .i64 t.fuse) := blk_cell hblk 10
  have f10 := blk_free hblk 10
  have hmx : max (n : Int) 0 = n := by omega
  go_enter Try.func42, Try.ntmps42
  go_wp2_with fail
  go_end0
  have k1 := blk_set hblk 10 (.int .i64 n)
  have gw := grown_set w g 10 (.int .i64 n)
  have hk : ∀ k, k < w.heap.size → P k → (w.setCell ⟨g, 10, none⟩ (.int .i64 n)).heap[k]? = w.heap[k]? := fun k hk hp => gw.block k hk (by simpa using hPg k hp)
  exact ⟨rfl, ⟨_, _, _, _, k1, h0.keep hk, h1.keep hk, h2.keep hk, h3.keep hk⟩, gw⟩
end Go.Proofs.Ytmleldgohfcdbaa
