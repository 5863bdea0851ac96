/- tape: New, Append, Replace, Read. -/
import Derived.Test.YtmleldgohfcdbaaTape
namespace Go.Proofs.Ytmleldgohfcdbaa
set_option linter.unusedVariables false
set_option linter.unusedSimpArgs false
open Go.RowKit
def newT : TTape := ⟨⟨[], [], false, false, false⟩, ⟨[], [], false, false, false⟩, -1, false⟩
theorem tape_new (w : World) (P : Nat → Prop) : TapeAt (w.alloc (.cells (tapeCells (.slice none 0 0) (.slice none 0 0) (.slice none 0 0) (.slice none 0 0) newT) 85)) w.heap.size P newT :=
  ⟨_, _, _, _, heap_alloc_new w _, .nil _ _, .nil _ _, .nil _ _, .nil _ _⟩
set_option maxRecDepth 100000 in
set_option maxHeartbeats 400000 in
theorem new_any (w : World) : Calls Try.prog 32 #[] w fun e w' =>
    e = .returned (.pointer (some ⟨w.heap.size, 0, none⟩)) ∧ w' = w.alloc (.cells (tapeCells (.slice none 0 0) (.slice none 0 0) (.slice none 0 0) (.slice none 0 0) newT) 85) := by
  go_enter Try.func32, Try.ntmps32
  go_wp2_with fail
  go_ret
  exact ⟨rfl, rfl⟩
set_option maxRecDepth 100000 in
set_option maxHeartbeats 400000 in
theorem tAppend_any (w : World) (g : Nat) (P : Nat → Prop) (t : TTape) (h : TapeAt w g P t) (hP : ∀ k, w.heap.size ≤ k → P k) (hPg : ∀ k, P k → k ≠ g) (hf63 : t.fuse ≤ 9223372036854775807)
    (B : Option Addr) (d : Nat) (b : List UInt8) (hs : RVb w (· ≠ g) B (b.map bv)) (hlen0 : b.length + t.s0.b.length ≤ 100000000000000) (hlen1 : b.length + t.s1.b.length ≤ 100000000000000) :
    Calls Try.prog 58 #[.pointer (some ⟨g, 0, none⟩), .slice B b.length d] w (WritePost w g P (writeT t b false)) := by
  have hw := write_any w g P t h hP hPg hf63 B d b hs hlen0 hlen1 false
  generalize writeT t b false = r at hw ⊢
  have Hw := Lib.hid hw; clear hw
  go_enter Try.func58, Try.ntmps58
  go_wp2_with fail
  refine Hw.out.mono ?_
  rintro e w1 ⟨rfl, h1, h2⟩
  go_wp2_with fail
  go_ret
  exact ⟨rfl, h1, h2⟩
set_option maxRecDepth 100000 in
set_option maxHeartbeats 400000 in
theorem tReplace_any (w : World) (g : Nat) (P : Nat → Prop) (t : TTape) (h : TapeAt w g P t) (hP : ∀ k, w.heap.size ≤ k → P k) (hPg : ∀ k, P k → k ≠ g) (hf63 : t.fuse ≤ 9223372036854775807)
    (B : Option Addr) (d : Nat) (b : List UInt8) (hs : RVb w (· ≠ g) B (b.map bv)) (hlen0 : b.length + t.s0.b.length ≤ 100000000000000) (hlen1 : b.length + t.s1.b.length ≤ 100000000000000) :
    Calls Try.prog 52 #[.pointer (some ⟨g, 0, none⟩), .slice B b.length d] w (WritePost w g P (writeT t b true)) := by
  have hw := write_any w g P t h hP hPg hf63 B d b hs hlen0 hlen1 true
  generalize writeT t b true = r at hw ⊢
  have Hw := Lib.hid hw; clear hw
  go_enter Try.func52, Try.ntmps52
  go_wp2_with fail
  refine Hw.out.mono ?_
  rintro e w1 ⟨rfl, h1, h2⟩
  go_wp2_with fail
  go_ret
  exact ⟨rfl, h1, h2⟩
/-- What a side has, with what is loose. -/
def TSide.all (s : TSide) : List UInt8 := if s.wet then (if s.swap then [] else s.b) ++ s.loose else s.b
def ReadPost (w : World) (s : TSide) (e : Ending) (w' : World) : Prop :=
  Below w.heap.size w w' ∧ if s.lost then e = .returned (.tuple #[.slice none 0 0, .int .i64 8])
  else ∃ v, e = .returned (.tuple #[v, .int .i64 0]) ∧ OwnB w' w.heap.size v s.all

set_option maxRecDepth 100000 in
set_option maxHeartbeats 1000000 in
theorem read0_any (w : World) (g : Nat) (P : Nat → Prop) (t : TTape) (h : TapeAt w g P t) (hlen : t.s0.b.length + t.s0.loose.length ≤ 100000000000000) :
    Calls Try.prog 37 #[.pointer (some ⟨g, 0, none⟩), .int .i64 0] w (ReadPost w t.s0) := by
  obtain ⟨v0, u0, v1, u1, hblk, h0, h1, h2, h3⟩ := h
  have c0 : w.cell? ⟨g, 0, none⟩ = some v0 := blk_cell hblk 0
  have c1 : w.cell? ⟨g, 1, none⟩ = some u0 := blk_cell hblk 1
  have c2 : w.cell? ⟨g, 2, none⟩ = some (.bool t.s0.swap) := blk_cell hblk 2
  have c3 : w.cell? ⟨g, 3, none⟩ = some (.bool t.s0.wet) := blk_cell hblk 3
  have c4 : w.cell? ⟨g, 4, none⟩ = some (.bool t.s0.lost) := blk_cell hblk 4
  obtain ⟨A, c, rfl, hlc, hrb⟩ := h0.form
  obtain ⟨A2, c2', rfl, hlc2, hrl⟩ := h1
  cases hlo : t.s0.lost with
  | true =>
    rw [hlo] at c4
    go_enter Try.func37, Try.ntmps37
    go_wp2_with fail
    go_ret2
    exact ⟨Below.refl _ _, by rw [if_pos hlo]; rfl⟩
  | false =>
    rw [hlo] at c4
    cases hwe : t.s0.wet with
    | false =>
      rw [hwe] at c3
      have ha : t.s0.all = t.s0.b := by unfold TSide.all; rw [hwe]; rfl
      have hr1 := hrb.alloc (.cells #[.slice A t.s0.b.length c, .slice A2 t.s0.loose.length c2', .bool t.s0.swap, .bool false, .bool false] 82)
      have Hlo := Lib.hid hlo; have Hha := Lib.hid ha; clear hlo ha hwe
      go_enter Try.func37, Try.ntmps37
      go_wp2_with fail
      refine (clone_any A c _ t.s0.b (by omega) hr1).mono ?_
      rintro e w2 ⟨v, rfl, hown, hb⟩
      go_wp2_with fail
      go_ret2
      refine ⟨((Below.refl _ w).alloc (Nat.le_refl _) _).trans (hb.mono (by simp)), ?_⟩
      rw [Hlo.out, if_neg (by decide), Hha.out]
      exact ⟨v, rfl, World.ownsRow_base hown (by simp)⟩
    | true =>
      rw [hwe] at c3
      have ha : t.s0.all = (if t.s0.swap then [] else t.s0.b) ++ t.s0.loose := by unfold TSide.all; rw [hwe]; rfl
      obtain ⟨sw, hsw⟩ : ∃ sw, t.s0.swap = sw := ⟨_, rfl⟩
      rw [hsw] at c2 ha
      obtain ⟨al, hal⟩ : ∃ al, t.s0.all = al := ⟨_, rfl⟩
      have hall : al.length ≤ 100000000000000 := by rw [← hal, ha]; split <;> simp <;> omega
      obtain ⟨w1, hw1⟩ : ∃ w1, w.alloc (.cells #[.slice A t.s0.b.length c, .slice A2 t.s0.loose.length c2', .bool sw, .bool true, .bool false] 82) = w1 := ⟨_, rfl⟩
      have hblk1 : w1.heap[w.heap.size]? = some (.cells #[.slice A t.s0.b.length c, .slice A2 t.s0.loose.length c2', .bool sw, .bool true, .bool false] 82 (0, 0)) := hw1 ▸ heap_alloc_new w _
      have hb1 : Below w.heap.size w w1 := hw1 ▸ (Below.refl _ w).alloc (Nat.le_refl _) _
      have hrb1 := hrb.below hb1
      have hrl1 : RVb w1 (· ≠ w.heap.size) A2 (t.s0.loose.map bv) := (hrl.imp fun k hk _ => by show k ≠ _; omega).keep fun k hk _ => hb1.block k hk
      have hap : Calls Try.prog 60 #[.pointer (some ⟨w.heap.size, 0, none⟩), .slice A2 t.s0.loose.length c2', .bool sw] w1 (ApplyPost w1 w.heap.size 0 #[.slice A t.s0.b.length c, .slice A2 t.s0.loose.length c2', .bool sw, .bool true, .bool false] 82 al) := by
        cases sw with
        | true =>
          have e2 : al = t.s0.loose := by rw [← hal, ha]; rfl
          rw [e2]
          exact applyT_any w1 w.heap.size 0 _ _ hblk1 _ rfl A2 c2' _ hrl1 (by omega)
        | false =>
          have e2 : t.s0.b ++ t.s0.loose = al := by rw [← hal, ha]; rfl
          exact applyF_any w1 w.heap.size 0 _ _ hblk1 A c _ rfl hrb1 A2 c2' _ hrl1.rv.rb _ e2 hall
      have Hap := Lib.hid hap; have Hw1 := Lib.hid hw1; have Hlo := Lib.hid hlo; have Hal := Lib.hid hal
      clear hap hw1 hlo hal ha hwe hsw hblk1 hrl1 hrb1
      go_enter Try.func37, Try.ntmps37
      go_wp2_with fail
      rw [Hw1.out]
      refine Hap.out.mono ?_
      rintro e w2 ⟨A3, c3', rfl, hblk2, hl3, hr3, hg2⟩
      have d0 : w2.cell? ⟨w.heap.size, 0, none⟩ = some (.slice A3 al.length c3') := blk_cell hblk2 0
      have hb2 : Below w.heap.size w w2 := hb1.trans ⟨hg2.os, hg2.tape, hg2.output, hg2.size, fun k hk => hg2.block k (by have := hb1.size; omega) (by simp; omega)⟩
      have hr3' := hr3.rv.rb
      clear hblk2
      go_wp2_with fail
      refine (clone_any A3 c3' w2 al (by omega) hr3').mono ?_
      rintro e w3 ⟨v, rfl, hown, hb3⟩
      go_wp2_with fail
      go_ret2
      refine ⟨hb2.trans (hb3.mono hb2.size), ?_⟩
      rw [Hlo.out, if_neg (by decide), Hal.out]
      exact ⟨v, rfl, World.ownsRow_base hown hb2.size⟩

set_option maxRecDepth 100000 in
set_option maxHeartbeats 1000000 in
theorem read1_any (w : World) (g : Nat) (P : Nat → Prop) (t : TTape) (h : TapeAt w g P t) (hlen : t.s1.b.length + t.s1.loose.length ≤ 100000000000000) :
    Calls Try.prog 37 #[.pointer (some ⟨g, 0, none⟩), .int .i64 1] w (ReadPost w t.s1) := by
  obtain ⟨v0, u0, v1, u1, hblk, h0, h1, h2, h3⟩ := h
  have c0 : w.cell? ⟨g, 5, none⟩ = some v1 := blk_cell hblk 5
  have c1 : w.cell? ⟨g, 6, none⟩ = some u1 := blk_cell hblk 6
  have c2 : w.cell? ⟨g, 7, none⟩ = some (.bool t.s1.swap) := blk_cell hblk 7
  have c3 : w.cell? ⟨g, 8, none⟩ = some (.bool t.s1.wet) := blk_cell hblk 8
  have c4 : w.cell? ⟨g, 9, none⟩ = some (.bool t.s1.lost) := blk_cell hblk 9
  obtain ⟨A, c, rfl, hlc, hrb⟩ := h2.form
  obtain ⟨A2, c2', rfl, hlc2, hrl⟩ := h3
  cases hlo : t.s1.lost with
  | true =>
    rw [hlo] at c4
    go_enter Try.func37, Try.ntmps37
    go_wp2_with fail
    go_ret2
    exact ⟨Below.refl _ _, by rw [if_pos hlo]; rfl⟩
  | false =>
    rw [hlo] at c4
    cases hwe : t.s1.wet with
    | false =>
      rw [hwe] at c3
      have ha : t.s1.all = t.s1.b := by unfold TSide.all; rw [hwe]; rfl
      have hr1 := hrb.alloc (.cells #[.slice A t.s1.b.length c, .slice A2 t.s1.loose.length c2', .bool t.s1.swap, .bool false, .bool false] 82)
      have Hlo := Lib.hid hlo; have Hha := Lib.hid ha; clear hlo ha hwe
      go_enter Try.func37, Try.ntmps37
      go_wp2_with fail
      refine (clone_any A c _ t.s1.b (by omega) hr1).mono ?_
      rintro e w2 ⟨v, rfl, hown, hb⟩
      go_wp2_with fail
      go_ret2
      refine ⟨((Below.refl _ w).alloc (Nat.le_refl _) _).trans (hb.mono (by simp)), ?_⟩
      rw [Hlo.out, if_neg (by decide), Hha.out]
      exact ⟨v, rfl, World.ownsRow_base hown (by simp)⟩
    | true =>
      rw [hwe] at c3
      have ha : t.s1.all = (if t.s1.swap then [] else t.s1.b) ++ t.s1.loose := by unfold TSide.all; rw [hwe]; rfl
      obtain ⟨sw, hsw⟩ : ∃ sw, t.s1.swap = sw := ⟨_, rfl⟩
      rw [hsw] at c2 ha
      obtain ⟨al, hal⟩ : ∃ al, t.s1.all = al := ⟨_, rfl⟩
      have hall : al.length ≤ 100000000000000 := by rw [← hal, ha]; split <;> simp <;> omega
      obtain ⟨w1, hw1⟩ : ∃ w1, w.alloc (.cells #[.slice A t.s1.b.length c, .slice A2 t.s1.loose.length c2', .bool sw, .bool true, .bool false] 82) = w1 := ⟨_, rfl⟩
      have hblk1 : w1.heap[w.heap.size]? = some (.cells #[.slice A t.s1.b.length c, .slice A2 t.s1.loose.length c2', .bool sw, .bool true, .bool false] 82 (0, 0)) := hw1 ▸ heap_alloc_new w _
      have hb1 : Below w.heap.size w w1 := hw1 ▸ (Below.refl _ w).alloc (Nat.le_refl _) _
      have hrb1 := hrb.below hb1
      have hrl1 : RVb w1 (· ≠ w.heap.size) A2 (t.s1.loose.map bv) := (hrl.imp fun k hk _ => by show k ≠ _; omega).keep fun k hk _ => hb1.block k hk
      have hap : Calls Try.prog 60 #[.pointer (some ⟨w.heap.size, 0, none⟩), .slice A2 t.s1.loose.length c2', .bool sw] w1 (ApplyPost w1 w.heap.size 0 #[.slice A t.s1.b.length c, .slice A2 t.s1.loose.length c2', .bool sw, .bool true, .bool false] 82 al) := by
        cases sw with
        | true =>
          have e2 : al = t.s1.loose := by rw [← hal, ha]; rfl
          rw [e2]
          exact applyT_any w1 w.heap.size 0 _ _ hblk1 _ rfl A2 c2' _ hrl1 (by omega)
        | false =>
          have e2 : t.s1.b ++ t.s1.loose = al := by rw [← hal, ha]; rfl
          exact applyF_any w1 w.heap.size 0 _ _ hblk1 A c _ rfl hrb1 A2 c2' _ hrl1.rv.rb _ e2 hall
      have Hap := Lib.hid hap; have Hw1 := Lib.hid hw1; have Hlo := Lib.hid hlo; have Hal := Lib.hid hal
      clear hap hw1 hlo hal ha hwe hsw hblk1 hrl1 hrb1
      go_enter Try.func37, Try.ntmps37
      go_wp2_with fail
      rw [Hw1.out]
      refine Hap.out.mono ?_
      rintro e w2 ⟨A3, c3', rfl, hblk2, hl3, hr3, hg2⟩
      have d0 : w2.cell? ⟨w.heap.size, 0, none⟩ = some (.slice A3 al.length c3') := blk_cell hblk2 0
      have hb2 : Below w.heap.size w w2 := hb1.trans ⟨hg2.os, hg2.tape, hg2.output, hg2.size, fun k hk => hg2.block k (by have := hb1.size; omega) (by simp; omega)⟩
      have hr3' := hr3.rv.rb
      clear hblk2
      go_wp2_with fail
      refine (clone_any A3 c3' w2 al (by omega) hr3').mono ?_
      rintro e w3 ⟨v, rfl, hown, hb3⟩
      go_wp2_with fail
      go_ret2
      refine ⟨hb2.trans (hb3.mono hb2.size), ?_⟩
      rw [Hlo.out, if_neg (by decide), Hal.out]
      exact ⟨v, rfl, World.ownsRow_base hown hb2.size⟩
end Go.Proofs.Ytmleldgohfcdbaa
