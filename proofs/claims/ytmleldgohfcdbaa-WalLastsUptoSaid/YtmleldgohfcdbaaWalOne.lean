/- wal.frame and wal.one: an entry, and the first record of bytes. -/
import Derived.Test.YtmleldgohfcdbaaDecode
import Derived.Test.YtmleldgohfcdbaaFrame
import Derived.Deep.RegionHeld3
import Derived.IntWalk
namespace Go.Proofs.Ytmleldgohfcdbaa
set_option linter.unusedVariables false
set_option linter.unusedSimpArgs false
open Go.RowKit
/-- An entry: the length, the mark, the bytes. -/
def entryOf (b : List UInt8) : List UInt8 := be 4 b.length ++ be 4 (crc (be 4 b.length ++ b)) ++ b
theorem entryOf_length (b : List UInt8) : (entryOf b).length = 8 + b.length := by simp [entryOf, be_length]; omega
set_option maxRecDepth 100000 in
set_option maxHeartbeats 1000000 in
theorem walFrame_any (A : Option Addr) (c : Nat) (w : World) (l : List UInt8) (hn : l.length ≤ 100000000000) (hlc : l.length ≤ c) (hr : RB w A l) :
    Calls Try.prog 63 #[.slice A l.length c] w fun e w' => ∃ v, e = .returned v ∧ OwnB w' w.heap.size v (entryOf l) ∧ Below w.heap.size w w' := by
  obtain ⟨q1, hq1⟩ : ∃ q, be 4 l.length = q := ⟨_, rfl⟩
  obtain ⟨q2, hq2⟩ : ∃ q, q1 ++ l = q := ⟨_, rfl⟩
  obtain ⟨q3, hq3⟩ : ∃ q, q1 ++ be 4 (crc q2) = q := ⟨_, rfl⟩
  obtain ⟨q4, hq4⟩ : ∃ q, q3 ++ l = q := ⟨_, rfl⟩
  have heo : entryOf l = q4 := by rw [← hq4, ← hq3, ← hq2, ← hq1]; rfl
  have hl1 : q1.length = 4 := by rw [← hq1]; simp [be_length]
  have hl2 : q2.length = 4 + l.length := by rw [← hq2]; simp; omega
  have hl4 : q4.length = 8 + l.length := by rw [← hq4, ← hq3]; simp [be_length]; omega
  have Hq1 := Lib.hid hq1; have Hq2 := Lib.hid hq2; have Hq3 := Lib.hid hq3; have Hq4 := Lib.hid hq4; have Heo := Lib.hid heo; have Hl1 := Lib.hid hl1; have Hl2 := Lib.hid hl2; have Hl4 := Lib.hid hl4
  clear hq1 hq2 hq3 hq4 heo hl1 hl2 hl4
  go_enter Try.func63, Try.ntmps63
  go_wp2_with fail
  refine (put_any w w.heap.size _ [] (OwnB.nil w _) (Nat.le_refl _) (by simp) 4 (by omega) l.length).mono ?_
  rintro e w1 ⟨v1, rfl, hown1, hg1, hno1⟩
  rw [List.nil_append, Hq1.out] at hown1
  have hb1 : Below w.heap.size w w1 := (Below.refl _ w).grown hg1 (Nat.le_refl _) (by simp [Value.ownBlock])
  have hs1 := hb1.size
  obtain ⟨A1, c1, rfl, hl1, _, hr1⟩ := hown1.form
  go_wp2_with fail
  refine (clone_any A1 c1 w1 q1 (by have := Hl1.out; omega) hr1).mono ?_
  rintro e w2 ⟨v2, rfl, hown2, hb2'⟩
  have hb2 : Below w.heap.size w w2 := hb1.trans (hb2'.mono hs1)
  have hown1' := hown1.below hb2'
  go_wp2_with (at_builtin; refine wpList_apB (by rfl) (.tmp 10) (.tmp 11) rfl w1.heap.size v2 q1 rfl hown2 A l.length c l rfl rfl (hr.below hb2) q2 Hq2.out (by have := Hl2.out; omega) hb2'.size ?_; intro A3 c3 w3 hown3 hr3 hl3 hg3 hno3 hb3'; have hb3 : Below w.heap.size w w3 := hb2.trans (hb3'.mono hs1); have hown1'' : OwnB w3 w.heap.size (.slice A1 q1.length c1) q1 := hown1.below (hb2'.trans hb3'); clear hb3' hg3 hno3 hown3 hown1')
  refine (of_any A3 c3 w3 q2 (by have := Hl2.out; omega) hr3).mono ?_
  rintro e w' ⟨rfl, rfl⟩
  have hcl := crc_lt q2
  go_wp2_with fail
  refine (put_any w3 w.heap.size _ q1 hown1'' hb3.size (by have := Hl1.out; omega) 4 (by omega) (crc q2)).mono ?_
  rintro e w4 ⟨v4, rfl, hown4, hg4, hno4⟩
  rw [Hq3.out] at hown4
  have hb4 : Below w.heap.size w w4 := hb3.trans (below_of_grown hown1'' hg4 hb3.size)
  go_wp2_with (at_builtin; refine wpList_apB (by rfl) (.tmp 17) (.tmp 18) rfl w.heap.size v4 q3 rfl hown4 A l.length c l rfl rfl (hr.below hb4) q4 Hq4.out (by have := Hl4.out; omega) hb4.size ?_; intro A5 c5 w5 hown5 hr5 hl5 hg5 hno5 hb5')
  go_ret
  exact ⟨_, rfl, by rw [Heo.out]; exact hown5, hb4.trans hb5'⟩
/-- The record that bytes begin with, and how many bytes it takes. -/
def oneOf (b : List UInt8) : Option (PRec × Nat) :=
  if b.length < 8 then none
  else if 8192 < ofBe (b.take 4) ∨ b.length - 8 < ofBe (b.take 4) then none
  else match decode ((b.drop 8).take (ofBe (b.take 4))) with
  | none => none
  | some r => if entryOf ((b.drop 8).take (ofBe (b.take 4))) == b.take (8 + ofBe (b.take 4)) then some (r, 8 + ofBe (b.take 4)) else none
def OnePost (w : World) (o : Option (PRec × Nat)) (e : Ending) (w' : World) : Prop :=
  Below w.heap.size w w' ∧
  match o with
  | none => e = .returned (.tuple #[zeroRec, .int .i64 0])
  | some (r, n) => ∃ vs, e = .returned (.tuple #[.agg vs.toArray, .int .i64 n]) ∧ RRec w' r vs

set_option maxRecDepth 100000 in
set_option maxHeartbeats 1000000 in
theorem one_any (A : Option Addr) (c : Nat) (w : World) (l : List UInt8) (hn : l.length ≤ 100000000000) (hlc : l.length ≤ c) (hr : RB w A l) :
    Calls Try.prog 50 #[.slice A l.length c] w (OnePost w (oneOf l)) := by
  obtain ⟨w1, hw1⟩ : ∃ w1, w.alloc (.cells #[.int .i64 0, .int .i64 0, .int .i64 0, .string ⟨#[]⟩, .slice none 0 0, .slice none 0 0, .slice none 0 0] 51) = w1 := ⟨_, rfl⟩
  have hb1 : w1.heap[w.heap.size]? = some (.cells #[.int .i64 0, .int .i64 0, .int .i64 0, .string ⟨#[]⟩, .slice none 0 0, .slice none 0 0, .slice none 0 0] 51 (0, 0)) := hw1 ▸ heap_alloc_new w _
  have hB1 : Below w.heap.size w w1 := hw1 ▸ (Below.refl _ w).alloc (Nat.le_refl _) _
  have hr1 : RB w1 A l := hr.below hB1
  have Hw1 := Lib.hid hw1; clear hw1
  by_cases h8 : l.length < 8
  · have ho : oneOf l = none := by unfold oneOf; rw [if_pos h8]
    rw [ho]
    clear ho
    go_enter Try.func50, Try.ntmps50
    go_wp2_with fail
    rw [Hw1.out]
    refine bodyPost_ret (results_cell2 rfl w.heap.size _ _ _ _ rfl hb1 rfl rfl rfl) rfl ?_
    exact ⟨hB1, rfl⟩
  · obtain ⟨ad, rfl, _⟩ := hr.at_ (k := 0) (by omega)
    have hget : Calls Try.prog 45 #[.slice (some ad) 4 c] w1 fun e w' => e = .returned (.int .u64 (ofBe (l.take 4))) ∧ w1 = w' := by
      have h := get_any (some ad) c w1 (l.take 4) (by simp; omega) (hr1.take 4)
      rw [show (l.take 4).length = 4 from by simp; omega] at h
      exact h
    have hz := ofBe_small (l.take 4)
    rw [show (l.take 4).length = 4 from by simp; omega, show (256 : Nat) ^ 4 = 4294967296 from by decide] at hz
    have hone : oneOf l = if 8192 < ofBe (l.take 4) ∨ l.length - 8 < ofBe (l.take 4) then none else match decode ((l.drop 8).take (ofBe (l.take 4))) with
      | none => none
      | some r => if entryOf ((l.drop 8).take (ofBe (l.take 4))) == l.take (8 + ofBe (l.take 4)) then some (r, 8 + ofBe (l.take 4)) else none := by unfold oneOf; rw [if_neg h8]
    generalize ofBe (l.take 4) = z at hget hz hone
    have Hget := Lib.hid hget; clear hget
    by_cases hz1 : 8192 < z
    · rw [if_pos (.inl hz1)] at hone
      rw [hone]
      clear hone
      go_enter Try.func50, Try.ntmps50
      go_wp2_with fail
      rw [Hw1.out]
      go_wp2_with fail
      refine Hget.out.mono ?_
      rintro e w' ⟨rfl, rfl⟩
      have f0 := blk_free hb1 0
      have f1 := blk_free hb1 1
      have f2 := blk_free hb1 2
      have f3 := blk_free hb1 3
      have f4 := blk_free hb1 4
      have f5 := blk_free hb1 5
      have f6 := blk_free hb1 6
      have d0 : w1.cell? ⟨w.heap.size, 0, none⟩ = some (.int .i64 0) := blk_cell hb1 0
      have d1 : w1.cell? ⟨w.heap.size, 1, none⟩ = some (.int .i64 0) := blk_cell hb1 1
      have d2 : w1.cell? ⟨w.heap.size, 2, none⟩ = some (.int .i64 0) := blk_cell hb1 2
      have d3 : w1.cell? ⟨w.heap.size, 3, none⟩ = some (.string ⟨#[]⟩) := blk_cell hb1 3
      have d4 : w1.cell? ⟨w.heap.size, 4, none⟩ = some (.slice none 0 0) := blk_cell hb1 4
      have d5 : w1.cell? ⟨w.heap.size, 5, none⟩ = some (.slice none 0 0) := blk_cell hb1 5
      have d6 : w1.cell? ⟨w.heap.size, 6, none⟩ = some (.slice none 0 0) := blk_cell hb1 6
      go_wp2_with fail
      have kz0 := blk_set hb1 0 (.int .i64 0)
      have kz1 := blk_set kz0 1 (.int .i64 0)
      have kz2 := blk_set kz1 2 (.int .i64 0)
      have kz3 := blk_set kz2 3 (.string ⟨#[]⟩)
      have kz4 := blk_set kz3 4 (.slice none 0 0)
      have kz5 := blk_set kz4 5 (.slice none 0 0)
      have kz6 := blk_set kz5 6 (.slice none 0 0)
      have hBz : Below w.heap.size w (((((((w1.setCell ⟨w.heap.size, 0, none⟩ (.int .i64 0)).setCell ⟨w.heap.size, 1, none⟩ (.int .i64 0)).setCell ⟨w.heap.size, 2, none⟩ (.int .i64 0)).setCell ⟨w.heap.size, 3, none⟩ (.string ⟨#[]⟩)).setCell ⟨w.heap.size, 4, none⟩ (.slice none 0 0)).setCell ⟨w.heap.size, 5, none⟩ (.slice none 0 0)).setCell ⟨w.heap.size, 6, none⟩ (.slice none 0 0)) := hB1.trans (below_of_sets (grown_trans (grown_trans (grown_trans (grown_trans (grown_trans (grown_trans (grown_set _ _ _ _) (grown_set _ _ _ _)) (grown_set _ _ _ _)) (grown_set _ _ _ _)) (grown_set _ _ _ _)) (grown_set _ _ _ _)) (grown_set _ _ _ _)) (blk_lt hb1))
      refine bodyPost_ret (results_cell2 rfl w.heap.size _ _ _ _ rfl kz6 rfl rfl rfl) rfl ?_
      exact ⟨hBz, rfl⟩
    · by_cases hz2 : l.length - 8 < z
      · rw [if_pos (.inr hz2)] at hone
        rw [hone]
        clear hone
        have hz3 : (l.length : Int) - 8 < z := by omega
        go_enter Try.func50, Try.ntmps50
        go_wp2_with fail
        rw [Hw1.out]
        go_wp2_with fail
        refine Hget.out.mono ?_
        rintro e w' ⟨rfl, rfl⟩
        have f0 := blk_free hb1 0
        have f1 := blk_free hb1 1
        have f2 := blk_free hb1 2
        have f3 := blk_free hb1 3
        have f4 := blk_free hb1 4
        have f5 := blk_free hb1 5
        have f6 := blk_free hb1 6
        have d0 : w1.cell? ⟨w.heap.size, 0, none⟩ = some (.int .i64 0) := blk_cell hb1 0
        have d1 : w1.cell? ⟨w.heap.size, 1, none⟩ = some (.int .i64 0) := blk_cell hb1 1
        have d2 : w1.cell? ⟨w.heap.size, 2, none⟩ = some (.int .i64 0) := blk_cell hb1 2
        have d3 : w1.cell? ⟨w.heap.size, 3, none⟩ = some (.string ⟨#[]⟩) := blk_cell hb1 3
        have d4 : w1.cell? ⟨w.heap.size, 4, none⟩ = some (.slice none 0 0) := blk_cell hb1 4
        have d5 : w1.cell? ⟨w.heap.size, 5, none⟩ = some (.slice none 0 0) := blk_cell hb1 5
        have d6 : w1.cell? ⟨w.heap.size, 6, none⟩ = some (.slice none 0 0) := blk_cell hb1 6
        go_wp2_with fail
        have kz0 := blk_set hb1 0 (.int .i64 0)
        have kz1 := blk_set kz0 1 (.int .i64 0)
        have kz2 := blk_set kz1 2 (.int .i64 0)
        have kz3 := blk_set kz2 3 (.string ⟨#[]⟩)
        have kz4 := blk_set kz3 4 (.slice none 0 0)
        have kz5 := blk_set kz4 5 (.slice none 0 0)
        have kz6 := blk_set kz5 6 (.slice none 0 0)
        have hBz : Below w.heap.size w (((((((w1.setCell ⟨w.heap.size, 0, none⟩ (.int .i64 0)).setCell ⟨w.heap.size, 1, none⟩ (.int .i64 0)).setCell ⟨w.heap.size, 2, none⟩ (.int .i64 0)).setCell ⟨w.heap.size, 3, none⟩ (.string ⟨#[]⟩)).setCell ⟨w.heap.size, 4, none⟩ (.slice none 0 0)).setCell ⟨w.heap.size, 5, none⟩ (.slice none 0 0)).setCell ⟨w.heap.size, 6, none⟩ (.slice none 0 0)) := hB1.trans (below_of_sets (grown_trans (grown_trans (grown_trans (grown_trans (grown_trans (grown_trans (grown_set _ _ _ _) (grown_set _ _ _ _)) (grown_set _ _ _ _)) (grown_set _ _ _ _)) (grown_set _ _ _ _)) (grown_set _ _ _ _)) (grown_set _ _ _ _)) (blk_lt hb1))
        refine bodyPost_ret (results_cell2 rfl w.heap.size _ _ _ _ rfl kz6 rfl rfl rfl) rfl ?_
        exact ⟨hBz, rfl⟩
      · rw [if_neg (by omega)] at hone
        have hz3 : (z : Int) ≤ (l.length : Int) - 8 := by omega
        have g1 : (4 : Int) ≤ (c : Int) := by omega
        have g2 : (8 : Int) + z ≤ (c : Int) := by omega
        have hri : RB w1 (if c = 8 then some ad else (some ad : Option Addr).map (·.add 8)) ((l.drop 8).take z) := (hr1.cut (k := 8) hlc).take z
        have hrt : RB w1 (some ad) (l.take (8 + z)) := hr1.take _
        have hli : ((l.drop 8).take z).length = z := by simp; omega
        have hlt : (l.take (8 + z)).length = 8 + z := by simp; omega
        generalize (l.drop 8).take z = inn at hri hone hli
        generalize l.take (8 + z) = tt at hrt hone hlt
        by_cases hc8 : c = 8
        · have hz0 : z = 0 := by omega
          rw [if_pos hc8] at hri
          subst hc8
          subst hz0
          have hdec := decode_any (some ad) (0) w1 inn (by omega) hri
          rw [hli] at hdec
          have Hdec := Lib.hid hdec; clear hdec
          have Hli := Lib.hid hli; have Hlt := Lib.hid hlt
          clear hli hlt
          rcases hdi : decode inn with _ | r
          · rw [hdi] at hone
            have ho : oneOf l = none := hone
            rw [ho]
            have Hdi := Lib.hid hdi; clear hdi hone ho
            go_enter Try.func50, Try.ntmps50
            go_wp2_with fail
            rw [Hw1.out]
            go_wp2_with fail
            refine Hget.out.mono ?_
            rintro e w' ⟨rfl, rfl⟩
            go_wp2_with fail
            refine Hdec.out.mono ?_
            rintro e w2 ⟨hb2, hp⟩
            rw [Hdi.out] at hp
            replace hp : e = .returned (.tuple #[zeroRec, .int .i64 2]) := hp
            subst hp
            rw [show zeroRec = .agg #[.int .i64 0, .int .i64 0, .int .i64 0, .string ⟨#[]⟩, .slice none 0 0, .slice none 0 0, .slice none 0 0] from rfl]
            obtain ⟨w3, hw3⟩ : ∃ w3, w2.alloc (.cells #[.int .i64 0, .int .i64 0, .int .i64 0, .string ⟨#[]⟩, .slice none 0 0, .slice none 0 0, .slice none 0 0] 51) = w3 := ⟨_, rfl⟩
            have hB2 : Below w.heap.size w w2 := hB1.trans (hb2.mono (Nat.le_of_lt (blk_lt hb1)))
            have hB3 : Below w.heap.size w w3 := hw3 ▸ hB2.alloc hB2.size _
            have hb3 : w3.heap[w.heap.size]? = some (.cells #[.int .i64 0, .int .i64 0, .int .i64 0, .string ⟨#[]⟩, .slice none 0 0, .slice none 0 0, .slice none 0 0] 51 (0, 0)) := hw3 ▸ (Below.heap_alloc w2 _ _ (Nat.lt_of_lt_of_le (blk_lt hb1) hb2.size)).trans ((hb2.block _ (blk_lt hb1)).trans hb1)
            have hm3 : w3.heap[w2.heap.size]? = some (.cells #[.int .i64 0, .int .i64 0, .int .i64 0, .string ⟨#[]⟩, .slice none 0 0, .slice none 0 0, .slice none 0 0] 51 (0, 0)) := hw3 ▸ heap_alloc_new w2 _
            have Hw3 := Lib.hid hw3; clear hw3
            go_wp2_with fail
            rw [Hw3.out]
            go_quiet (fail)
            generalize hw4 : w3.drewN _ = w4
            have hb4 : w4.heap[w.heap.size]? = some (.cells #[.int .i64 0, .int .i64 0, .int .i64 0, .string ⟨#[]⟩, .slice none 0 0, .slice none 0 0, .slice none 0 0] 51 (0, 0)) := by rw [← hw4]; exact hb3
            have hB4 : Below w.heap.size w w4 := by rw [← hw4]; exact ⟨hB3.os, hB3.tape, hB3.output, hB3.size, hB3.block⟩
            have Hw4 := Lib.hid hw4; clear hw4
            have f0 := blk_free hb4 0
            have f1 := blk_free hb4 1
            have f2 := blk_free hb4 2
            have f3 := blk_free hb4 3
            have f4 := blk_free hb4 4
            have f5 := blk_free hb4 5
            have f6 := blk_free hb4 6
            have d0 : w4.cell? ⟨w.heap.size, 0, none⟩ = some (.int .i64 0) := blk_cell hb4 0
            have d1 : w4.cell? ⟨w.heap.size, 1, none⟩ = some (.int .i64 0) := blk_cell hb4 1
            have d2 : w4.cell? ⟨w.heap.size, 2, none⟩ = some (.int .i64 0) := blk_cell hb4 2
            have d3 : w4.cell? ⟨w.heap.size, 3, none⟩ = some (.string ⟨#[]⟩) := blk_cell hb4 3
            have d4 : w4.cell? ⟨w.heap.size, 4, none⟩ = some (.slice none 0 0) := blk_cell hb4 4
            have d5 : w4.cell? ⟨w.heap.size, 5, none⟩ = some (.slice none 0 0) := blk_cell hb4 5
            have d6 : w4.cell? ⟨w.heap.size, 6, none⟩ = some (.slice none 0 0) := blk_cell hb4 6
            go_wp2_with fail
            have kz0 := blk_set hb4 0 (.int .i64 0)
            have kz1 := blk_set kz0 1 (.int .i64 0)
            have kz2 := blk_set kz1 2 (.int .i64 0)
            have kz3 := blk_set kz2 3 (.string ⟨#[]⟩)
            have kz4 := blk_set kz3 4 (.slice none 0 0)
            have kz5 := blk_set kz4 5 (.slice none 0 0)
            have kz6 := blk_set kz5 6 (.slice none 0 0)
            have hBz : Below w.heap.size w (((((((w4.setCell ⟨w.heap.size, 0, none⟩ (.int .i64 0)).setCell ⟨w.heap.size, 1, none⟩ (.int .i64 0)).setCell ⟨w.heap.size, 2, none⟩ (.int .i64 0)).setCell ⟨w.heap.size, 3, none⟩ (.string ⟨#[]⟩)).setCell ⟨w.heap.size, 4, none⟩ (.slice none 0 0)).setCell ⟨w.heap.size, 5, none⟩ (.slice none 0 0)).setCell ⟨w.heap.size, 6, none⟩ (.slice none 0 0)) := hB4.trans (below_of_sets (grown_trans (grown_trans (grown_trans (grown_trans (grown_trans (grown_trans (grown_set _ _ _ _) (grown_set _ _ _ _)) (grown_set _ _ _ _)) (grown_set _ _ _ _)) (grown_set _ _ _ _)) (grown_set _ _ _ _)) (grown_set _ _ _ _)) (blk_lt hb4))
            refine bodyPost_ret (results_cell2 rfl w.heap.size _ _ _ _ rfl kz6 rfl rfl rfl) rfl ?_
            exact ⟨hBz, rfl⟩
          · exfalso
            rw [List.eq_nil_of_length_eq_zero Hli.out, show decode [] = none from by unfold decode; rw [if_pos (.inl rfl)]] at hdi
            cases hdi

        · rw [if_neg hc8] at hri
          replace hri : RB w1 (some ⟨ad.block, ad.off + 8, none⟩) inn := hri
          have hdec := decode_any (some ⟨ad.block, ad.off + 8, none⟩) (c - 8) w1 inn (by omega) hri
          rw [hli] at hdec
          have Hdec := Lib.hid hdec; clear hdec
          have Hli := Lib.hid hli; have Hlt := Lib.hid hlt
          clear hli hlt
          rcases hdi : decode inn with _ | r
          · rw [hdi] at hone
            have ho : oneOf l = none := hone
            rw [ho]
            have Hdi := Lib.hid hdi; clear hdi hone ho
            go_enter Try.func50, Try.ntmps50
            go_wp2_with fail
            rw [Hw1.out]
            go_wp2_with fail
            refine Hget.out.mono ?_
            rintro e w' ⟨rfl, rfl⟩
            go_wp2_with fail
            refine Hdec.out.mono ?_
            rintro e w2 ⟨hb2, hp⟩
            rw [Hdi.out] at hp
            replace hp : e = .returned (.tuple #[zeroRec, .int .i64 2]) := hp
            subst hp
            rw [show zeroRec = .agg #[.int .i64 0, .int .i64 0, .int .i64 0, .string ⟨#[]⟩, .slice none 0 0, .slice none 0 0, .slice none 0 0] from rfl]
            obtain ⟨w3, hw3⟩ : ∃ w3, w2.alloc (.cells #[.int .i64 0, .int .i64 0, .int .i64 0, .string ⟨#[]⟩, .slice none 0 0, .slice none 0 0, .slice none 0 0] 51) = w3 := ⟨_, rfl⟩
            have hB2 : Below w.heap.size w w2 := hB1.trans (hb2.mono (Nat.le_of_lt (blk_lt hb1)))
            have hB3 : Below w.heap.size w w3 := hw3 ▸ hB2.alloc hB2.size _
            have hb3 : w3.heap[w.heap.size]? = some (.cells #[.int .i64 0, .int .i64 0, .int .i64 0, .string ⟨#[]⟩, .slice none 0 0, .slice none 0 0, .slice none 0 0] 51 (0, 0)) := hw3 ▸ (Below.heap_alloc w2 _ _ (Nat.lt_of_lt_of_le (blk_lt hb1) hb2.size)).trans ((hb2.block _ (blk_lt hb1)).trans hb1)
            have hm3 : w3.heap[w2.heap.size]? = some (.cells #[.int .i64 0, .int .i64 0, .int .i64 0, .string ⟨#[]⟩, .slice none 0 0, .slice none 0 0, .slice none 0 0] 51 (0, 0)) := hw3 ▸ heap_alloc_new w2 _
            have Hw3 := Lib.hid hw3; clear hw3
            go_wp2_with fail
            rw [Hw3.out]
            go_quiet (fail)
            generalize hw4 : w3.drewN _ = w4
            have hb4 : w4.heap[w.heap.size]? = some (.cells #[.int .i64 0, .int .i64 0, .int .i64 0, .string ⟨#[]⟩, .slice none 0 0, .slice none 0 0, .slice none 0 0] 51 (0, 0)) := by rw [← hw4]; exact hb3
            have hB4 : Below w.heap.size w w4 := by rw [← hw4]; exact ⟨hB3.os, hB3.tape, hB3.output, hB3.size, hB3.block⟩
            have Hw4 := Lib.hid hw4; clear hw4
            have f0 := blk_free hb4 0
            have f1 := blk_free hb4 1
            have f2 := blk_free hb4 2
            have f3 := blk_free hb4 3
            have f4 := blk_free hb4 4
            have f5 := blk_free hb4 5
            have f6 := blk_free hb4 6
            have d0 : w4.cell? ⟨w.heap.size, 0, none⟩ = some (.int .i64 0) := blk_cell hb4 0
            have d1 : w4.cell? ⟨w.heap.size, 1, none⟩ = some (.int .i64 0) := blk_cell hb4 1
            have d2 : w4.cell? ⟨w.heap.size, 2, none⟩ = some (.int .i64 0) := blk_cell hb4 2
            have d3 : w4.cell? ⟨w.heap.size, 3, none⟩ = some (.string ⟨#[]⟩) := blk_cell hb4 3
            have d4 : w4.cell? ⟨w.heap.size, 4, none⟩ = some (.slice none 0 0) := blk_cell hb4 4
            have d5 : w4.cell? ⟨w.heap.size, 5, none⟩ = some (.slice none 0 0) := blk_cell hb4 5
            have d6 : w4.cell? ⟨w.heap.size, 6, none⟩ = some (.slice none 0 0) := blk_cell hb4 6
            go_wp2_with fail
            have kz0 := blk_set hb4 0 (.int .i64 0)
            have kz1 := blk_set kz0 1 (.int .i64 0)
            have kz2 := blk_set kz1 2 (.int .i64 0)
            have kz3 := blk_set kz2 3 (.string ⟨#[]⟩)
            have kz4 := blk_set kz3 4 (.slice none 0 0)
            have kz5 := blk_set kz4 5 (.slice none 0 0)
            have kz6 := blk_set kz5 6 (.slice none 0 0)
            have hBz : Below w.heap.size w (((((((w4.setCell ⟨w.heap.size, 0, none⟩ (.int .i64 0)).setCell ⟨w.heap.size, 1, none⟩ (.int .i64 0)).setCell ⟨w.heap.size, 2, none⟩ (.int .i64 0)).setCell ⟨w.heap.size, 3, none⟩ (.string ⟨#[]⟩)).setCell ⟨w.heap.size, 4, none⟩ (.slice none 0 0)).setCell ⟨w.heap.size, 5, none⟩ (.slice none 0 0)).setCell ⟨w.heap.size, 6, none⟩ (.slice none 0 0)) := hB4.trans (below_of_sets (grown_trans (grown_trans (grown_trans (grown_trans (grown_trans (grown_trans (grown_set _ _ _ _) (grown_set _ _ _ _)) (grown_set _ _ _ _)) (grown_set _ _ _ _)) (grown_set _ _ _ _)) (grown_set _ _ _ _)) (grown_set _ _ _ _)) (blk_lt hb4))
            refine bodyPost_ret (results_cell2 rfl w.heap.size _ _ _ _ rfl kz6 rfl rfl rfl) rfl ?_
            exact ⟨hBz, rfl⟩
          · rw [hdi] at hone
            have ho : oneOf l = if entryOf inn == tt then some (r, 8 + z) else none := hone
            obtain ⟨kv, hkv⟩ : ∃ kv, sv r.key = .string kv := ⟨_, rfl⟩
            have hf : ∀ w', RB w' (some ⟨ad.block, ad.off + 8, none⟩) inn → Calls Try.prog 63 #[.slice (some ⟨ad.block, ad.off + 8, none⟩) z (c - 8)] w' fun e w'' => ∃ v, e = .returned v ∧ OwnB w'' w'.heap.size v (entryOf inn) ∧ Below w'.heap.size w' w'' := fun w' h => by
              have h2 := walFrame_any (some ⟨ad.block, ad.off + 8, none⟩) (c - 8) w' inn (by have := Hli.out; omega) (by have := Hli.out; omega) h
              rw [Hli.out] at h2
              exact h2
            have he : ∀ (Av : Option Addr) (cv : Nat) w', RB w' Av (entryOf inn) → RB w' (some ad) tt → Calls Try.prog 46 #[.slice Av (entryOf inn).length cv, .slice (some ad) (8 + z) c] w' fun e w'' => e = .returned (.bool (entryOf inn == tt)) ∧ w' = w'' := fun Av cv w' h1 h2 => by
              have h3 := equal_any Av (some ad) cv c w' (entryOf inn) tt h1 h2
              rw [Hlt.out] at h3
              exact h3
            have Hdi := Lib.hid hdi; clear hdi hone
            have Hf := Lib.hid hf; clear hf
            have He := Lib.hid he; clear he
            rcases hq : (entryOf inn == tt) with _ | _
            · rw [hq, if_neg (by decide)] at ho
              rw [ho]
              have Hq := Lib.hid hq; clear hq ho
              go_enter Try.func50, Try.ntmps50
              go_wp2_with fail
              rw [Hw1.out]
              go_wp2_with fail
              refine Hget.out.mono ?_
              rintro e w' ⟨rfl, rfl⟩
              go_wp2_with fail
              refine Hdec.out.mono ?_
              rintro e w2 ⟨hb2, hp⟩
              rw [Hdi.out] at hp
              obtain ⟨vs, rfl, A1, c1, A2, c2, A3, c3, rfl, q1, q2, q3, q4, q5, q6⟩ : ∃ vs, e = .returned (.tuple #[.agg vs.toArray, .int .i64 0]) ∧ RRec w2 r vs := hp
              rw [hkv]
              obtain ⟨w3, hw3⟩ : ∃ w3, w2.alloc (.cells #[.int .i64 r.kind, .int .i64 r.id, .int .i64 r.size, .string kv, .slice A1 r.stripes.length c1, .slice A2 r.objects.length c2, .slice A3 r.drives.length c3] 51) = w3 := ⟨_, rfl⟩
              have hB2 : Below w.heap.size w w2 := hB1.trans (hb2.mono (Nat.le_of_lt (blk_lt hb1)))
              have hB3 : Below w.heap.size w w3 := hw3 ▸ hB2.alloc hB2.size _
              have hb3 : w3.heap[w.heap.size]? = some (.cells #[.int .i64 0, .int .i64 0, .int .i64 0, .string ⟨#[]⟩, .slice none 0 0, .slice none 0 0, .slice none 0 0] 51 (0, 0)) := hw3 ▸ (Below.heap_alloc w2 _ _ (Nat.lt_of_lt_of_le (blk_lt hb1) hb2.size)).trans ((hb2.block _ (blk_lt hb1)).trans hb1)
              have hm3 : w3.heap[w2.heap.size]? = some (.cells #[.int .i64 r.kind, .int .i64 r.id, .int .i64 r.size, .string kv, .slice A1 r.stripes.length c1, .slice A2 r.objects.length c2, .slice A3 r.drives.length c3] 51 (0, 0)) := hw3 ▸ heap_alloc_new w2 _
              have hrec3 : RRec w3 r [.int .i64 r.kind, .int .i64 r.id, .int .i64 r.size, .string kv, .slice A1 r.stripes.length c1, .slice A2 r.objects.length c2, .slice A3 r.drives.length c3] := RRec.same ⟨A1, c1, A2, c2, A3, c3, by rw [hkv], q1, q2, q3, q4, q5, q6⟩ (hw3 ▸ SameT.alloc _ w2 _)
              have hri3 : RB w3 (some ⟨ad.block, ad.off + 8, none⟩) inn := hw3 ▸ ((hri.below hb2).alloc _)
              have hrt3 : RB w3 (some ad) tt := hw3 ▸ ((hrt.below hb2).alloc _)
              have Hw3 := Lib.hid hw3; clear hw3
              have Hq1 := Lib.hid q1; have Hq4 := Lib.hid q4; have Hq5 := Lib.hid q5; have Hq6 := Lib.hid q6
              have Hb1 := Lib.hid hb1; have Hb2 := Lib.hid hb2; have Hb3 := Lib.hid hb3; have Hm3 := Lib.hid hm3; have Hrec3 := Lib.hid hrec3; have Hri3 := Lib.hid hri3; have Hrt3 := Lib.hid hrt3; have HB2 := Lib.hid hB2; have HB3 := Lib.hid hB3; have HB1 := Lib.hid hB1
              clear q1 q2 q3 q4 q5 q6 hb1 hb2 hb3 hm3 hrec3 hri3 hrt3 hB1 hB2 hB3 hri hrt hr1 hr
              go_wp2_with fail
              rw [Hw3.out]
              have s1 : IntKind.i64.wrap (8 + (z : Int)) = 8 + (z : Int) := IntWalk.i64_in _ (by omega)
              have s2 : (0 : Int) ≤ 8 + (z : Int) := by omega
              have s3 : ((8 : Int) + (z : Int)).toNat = 8 + z := by omega
              go_region_held3 (fun w' => RB w' (some ⟨ad.block, ad.off + 8, none⟩) inn ∧ RB w' (some ad) tt) (first
                | exact ⟨Hri3.out, Hrt3.out⟩
                | exact ⟨hri5, hrt5⟩)
                (first
                | (go_at_call 63; refine (Hf.out _ (RB.drew Hri3.out)).mono ?_; rintro e w5 ⟨v5, rfl, hown5, hb5⟩; have hb5' : Below w3.heap.size w3 w5 := ⟨hb5.os, hb5.tape, hb5.output, hb5.size, hb5.block⟩; have hri5 := RB.below (RB.drew Hri3.out) hb5; have hrt5 := RB.below (RB.drew Hrt3.out) hb5; obtain ⟨A5, c5, rfl, hl5, _, hr5⟩ := hown5.form)
                | (go_at_call 46; refine (He.out _ _ _ hr5 hrt5).mono ?_; rintro e w' ⟨rfl, rfl⟩; rw [Hq.out]))
              have hB5 : Below w.heap.size w w5 := HB3.out.trans (hb5'.mono HB3.out.size)
              have hbo5 : w5.heap[w.heap.size]? = some (.cells #[.int .i64 0, .int .i64 0, .int .i64 0, .string ⟨#[]⟩, .slice none 0 0, .slice none 0 0, .slice none 0 0] 51 (0, 0)) := (hb5'.block _ (blk_lt Hb3.out)).trans Hb3.out
              have f0 := blk_free hbo5 0
              have f1 := blk_free hbo5 1
              have f2 := blk_free hbo5 2
              have f3 := blk_free hbo5 3
              have f4 := blk_free hbo5 4
              have f5 := blk_free hbo5 5
              have f6 := blk_free hbo5 6
              have d0 : w5.cell? ⟨w.heap.size, 0, none⟩ = some (.int .i64 0) := blk_cell hbo5 0
              have d1 : w5.cell? ⟨w.heap.size, 1, none⟩ = some (.int .i64 0) := blk_cell hbo5 1
              have d2 : w5.cell? ⟨w.heap.size, 2, none⟩ = some (.int .i64 0) := blk_cell hbo5 2
              have d3 : w5.cell? ⟨w.heap.size, 3, none⟩ = some (.string ⟨#[]⟩) := blk_cell hbo5 3
              have d4 : w5.cell? ⟨w.heap.size, 4, none⟩ = some (.slice none 0 0) := blk_cell hbo5 4
              have d5 : w5.cell? ⟨w.heap.size, 5, none⟩ = some (.slice none 0 0) := blk_cell hbo5 5
              have d6 : w5.cell? ⟨w.heap.size, 6, none⟩ = some (.slice none 0 0) := blk_cell hbo5 6
              go_wp2_with fail
              have kz0 := blk_set hbo5 0 (.int .i64 0)
              have kz1 := blk_set kz0 1 (.int .i64 0)
              have kz2 := blk_set kz1 2 (.int .i64 0)
              have kz3 := blk_set kz2 3 (.string ⟨#[]⟩)
              have kz4 := blk_set kz3 4 (.slice none 0 0)
              have kz5 := blk_set kz4 5 (.slice none 0 0)
              have kz6 := blk_set kz5 6 (.slice none 0 0)
              have hBz : Below w.heap.size w (((((((w5.setCell ⟨w.heap.size, 0, none⟩ (.int .i64 0)).setCell ⟨w.heap.size, 1, none⟩ (.int .i64 0)).setCell ⟨w.heap.size, 2, none⟩ (.int .i64 0)).setCell ⟨w.heap.size, 3, none⟩ (.string ⟨#[]⟩)).setCell ⟨w.heap.size, 4, none⟩ (.slice none 0 0)).setCell ⟨w.heap.size, 5, none⟩ (.slice none 0 0)).setCell ⟨w.heap.size, 6, none⟩ (.slice none 0 0)) := hB5.trans (below_of_sets (grown_trans (grown_trans (grown_trans (grown_trans (grown_trans (grown_trans (grown_set _ _ _ _) (grown_set _ _ _ _)) (grown_set _ _ _ _)) (grown_set _ _ _ _)) (grown_set _ _ _ _)) (grown_set _ _ _ _)) (grown_set _ _ _ _)) (blk_lt hbo5))
              refine bodyPost_ret (results_cell2 rfl w.heap.size _ _ _ _ rfl kz6 rfl rfl rfl) rfl ?_
              exact ⟨hBz, rfl⟩

            · rw [hq, if_pos rfl] at ho
              rw [ho]
              have Hq := Lib.hid hq; clear hq ho
              go_enter Try.func50, Try.ntmps50
              go_wp2_with fail
              rw [Hw1.out]
              go_wp2_with fail
              refine Hget.out.mono ?_
              rintro e w' ⟨rfl, rfl⟩
              go_wp2_with fail
              refine Hdec.out.mono ?_
              rintro e w2 ⟨hb2, hp⟩
              rw [Hdi.out] at hp
              obtain ⟨vs, rfl, A1, c1, A2, c2, A3, c3, rfl, q1, q2, q3, q4, q5, q6⟩ : ∃ vs, e = .returned (.tuple #[.agg vs.toArray, .int .i64 0]) ∧ RRec w2 r vs := hp
              rw [hkv]
              obtain ⟨w3, hw3⟩ : ∃ w3, w2.alloc (.cells #[.int .i64 r.kind, .int .i64 r.id, .int .i64 r.size, .string kv, .slice A1 r.stripes.length c1, .slice A2 r.objects.length c2, .slice A3 r.drives.length c3] 51) = w3 := ⟨_, rfl⟩
              have hB2 : Below w.heap.size w w2 := hB1.trans (hb2.mono (Nat.le_of_lt (blk_lt hb1)))
              have hB3 : Below w.heap.size w w3 := hw3 ▸ hB2.alloc hB2.size _
              have hb3 : w3.heap[w.heap.size]? = some (.cells #[.int .i64 0, .int .i64 0, .int .i64 0, .string ⟨#[]⟩, .slice none 0 0, .slice none 0 0, .slice none 0 0] 51 (0, 0)) := hw3 ▸ (Below.heap_alloc w2 _ _ (Nat.lt_of_lt_of_le (blk_lt hb1) hb2.size)).trans ((hb2.block _ (blk_lt hb1)).trans hb1)
              have hm3 : w3.heap[w2.heap.size]? = some (.cells #[.int .i64 r.kind, .int .i64 r.id, .int .i64 r.size, .string kv, .slice A1 r.stripes.length c1, .slice A2 r.objects.length c2, .slice A3 r.drives.length c3] 51 (0, 0)) := hw3 ▸ heap_alloc_new w2 _
              have hrec3 : RRec w3 r [.int .i64 r.kind, .int .i64 r.id, .int .i64 r.size, .string kv, .slice A1 r.stripes.length c1, .slice A2 r.objects.length c2, .slice A3 r.drives.length c3] := RRec.same ⟨A1, c1, A2, c2, A3, c3, by rw [hkv], q1, q2, q3, q4, q5, q6⟩ (hw3 ▸ SameT.alloc _ w2 _)
              have hri3 : RB w3 (some ⟨ad.block, ad.off + 8, none⟩) inn := hw3 ▸ ((hri.below hb2).alloc _)
              have hrt3 : RB w3 (some ad) tt := hw3 ▸ ((hrt.below hb2).alloc _)
              have Hw3 := Lib.hid hw3; clear hw3
              have Hq1 := Lib.hid q1; have Hq4 := Lib.hid q4; have Hq5 := Lib.hid q5; have Hq6 := Lib.hid q6
              have Hb1 := Lib.hid hb1; have Hb2 := Lib.hid hb2; have Hb3 := Lib.hid hb3; have Hm3 := Lib.hid hm3; have Hrec3 := Lib.hid hrec3; have Hri3 := Lib.hid hri3; have Hrt3 := Lib.hid hrt3; have HB2 := Lib.hid hB2; have HB3 := Lib.hid hB3; have HB1 := Lib.hid hB1
              clear q1 q2 q3 q4 q5 q6 hb1 hb2 hb3 hm3 hrec3 hri3 hrt3 hB1 hB2 hB3 hri hrt hr1 hr
              go_wp2_with fail
              rw [Hw3.out]
              have s1 : IntKind.i64.wrap (8 + (z : Int)) = 8 + (z : Int) := IntWalk.i64_in _ (by omega)
              have s2 : (0 : Int) ≤ 8 + (z : Int) := by omega
              have s3 : ((8 : Int) + (z : Int)).toNat = 8 + z := by omega
              go_region_held3 (fun w' => RB w' (some ⟨ad.block, ad.off + 8, none⟩) inn ∧ RB w' (some ad) tt) (first
                | exact ⟨Hri3.out, Hrt3.out⟩
                | exact ⟨hri5, hrt5⟩)
                (first
                | (go_at_call 63; refine (Hf.out _ (RB.drew Hri3.out)).mono ?_; rintro e w5 ⟨v5, rfl, hown5, hb5⟩; have hb5' : Below w3.heap.size w3 w5 := ⟨hb5.os, hb5.tape, hb5.output, hb5.size, hb5.block⟩; have hri5 := RB.below (RB.drew Hri3.out) hb5; have hrt5 := RB.below (RB.drew Hrt3.out) hb5; obtain ⟨A5, c5, rfl, hl5, _, hr5⟩ := hown5.form)
                | (go_at_call 46; refine (He.out _ _ _ hr5 hrt5).mono ?_; rintro e w' ⟨rfl, rfl⟩; rw [Hq.out]))
              have hB5 : Below w.heap.size w w5 := HB3.out.trans (hb5'.mono HB3.out.size)
              have hbo5 : w5.heap[w.heap.size]? = some (.cells #[.int .i64 0, .int .i64 0, .int .i64 0, .string ⟨#[]⟩, .slice none 0 0, .slice none 0 0, .slice none 0 0] 51 (0, 0)) := (hb5'.block _ (blk_lt Hb3.out)).trans Hb3.out
              have f0 := blk_free hbo5 0
              have f1 := blk_free hbo5 1
              have f2 := blk_free hbo5 2
              have f3 := blk_free hbo5 3
              have f4 := blk_free hbo5 4
              have f5 := blk_free hbo5 5
              have f6 := blk_free hbo5 6
              have d0 : w5.cell? ⟨w.heap.size, 0, none⟩ = some (.int .i64 0) := blk_cell hbo5 0
              have d1 : w5.cell? ⟨w.heap.size, 1, none⟩ = some (.int .i64 0) := blk_cell hbo5 1
              have d2 : w5.cell? ⟨w.heap.size, 2, none⟩ = some (.int .i64 0) := blk_cell hbo5 2
              have d3 : w5.cell? ⟨w.heap.size, 3, none⟩ = some (.string ⟨#[]⟩) := blk_cell hbo5 3
              have d4 : w5.cell? ⟨w.heap.size, 4, none⟩ = some (.slice none 0 0) := blk_cell hbo5 4
              have d5 : w5.cell? ⟨w.heap.size, 5, none⟩ = some (.slice none 0 0) := blk_cell hbo5 5
              have d6 : w5.cell? ⟨w.heap.size, 6, none⟩ = some (.slice none 0 0) := blk_cell hbo5 6
              have hm5 : w5.heap[w2.heap.size]? = some (.cells #[.int .i64 r.kind, .int .i64 r.id, .int .i64 r.size, .string kv, .slice A1 r.stripes.length c1, .slice A2 r.objects.length c2, .slice A3 r.drives.length c3] 51 (0, 0)) := (hb5'.block _ (blk_lt Hm3.out)).trans Hm3.out
              have hrec5 : RRec w5 r [.int .i64 r.kind, .int .i64 r.id, .int .i64 r.size, .string kv, .slice A1 r.stripes.length c1, .slice A2 r.objects.length c2, .slice A3 r.drives.length c3] := RRec.same Hrec3.out (SameT.of_below hb5')
              have e0 : w5.cell? ⟨w2.heap.size, 0, none⟩ = some (.int .i64 r.kind) := blk_cell hm5 0
              have e1 : w5.cell? ⟨w2.heap.size, 1, none⟩ = some (.int .i64 r.id) := blk_cell hm5 1
              have e2 : w5.cell? ⟨w2.heap.size, 2, none⟩ = some (.int .i64 r.size) := blk_cell hm5 2
              have e3 : w5.cell? ⟨w2.heap.size, 3, none⟩ = some (.string kv) := blk_cell hm5 3
              have e4 : w5.cell? ⟨w2.heap.size, 4, none⟩ = some (.slice A1 r.stripes.length c1) := blk_cell hm5 4
              have e5 : w5.cell? ⟨w2.heap.size, 5, none⟩ = some (.slice A2 r.objects.length c2) := blk_cell hm5 5
              have e6 : w5.cell? ⟨w2.heap.size, 6, none⟩ = some (.slice A3 r.drives.length c3) := blk_cell hm5 6
              have Hhrec5 := Lib.hid hrec5; have Hbo5 := Lib.hid hbo5; have HB5 := Lib.hid hB5
              clear hrec5 hbo5 hB5 hm5
              go_wp2_with fail
              have ks0 := blk_set Hbo5.out 0 (.int .i64 r.kind)
              have ks1 := blk_set ks0 1 (.int .i64 r.id)
              have ks2 := blk_set ks1 2 (.int .i64 r.size)
              have ks3 := blk_set ks2 3 (.string kv)
              have ks4 := blk_set ks3 4 (.slice A1 r.stripes.length c1)
              have ks5 := blk_set ks4 5 (.slice A2 r.objects.length c2)
              have ks6 := blk_set ks5 6 (.slice A3 r.drives.length c3)
              have gv : w5.grownBy (((((((w5.setCell ⟨w.heap.size, 0, none⟩ (.int .i64 r.kind)).setCell ⟨w.heap.size, 1, none⟩ (.int .i64 r.id)).setCell ⟨w.heap.size, 2, none⟩ (.int .i64 r.size)).setCell ⟨w.heap.size, 3, none⟩ (.string kv)).setCell ⟨w.heap.size, 4, none⟩ (.slice A1 r.stripes.length c1)).setCell ⟨w.heap.size, 5, none⟩ (.slice A2 r.objects.length c2)).setCell ⟨w.heap.size, 6, none⟩ (.slice A3 r.drives.length c3)) (some w.heap.size) := (grown_trans (grown_trans (grown_trans (grown_trans (grown_trans (grown_trans (grown_set _ _ _ _) (grown_set _ _ _ _)) (grown_set _ _ _ _)) (grown_set _ _ _ _)) (grown_set _ _ _ _)) (grown_set _ _ _ _)) (grown_set _ _ _ _))
              have hBv : Below w.heap.size w (((((((w5.setCell ⟨w.heap.size, 0, none⟩ (.int .i64 r.kind)).setCell ⟨w.heap.size, 1, none⟩ (.int .i64 r.id)).setCell ⟨w.heap.size, 2, none⟩ (.int .i64 r.size)).setCell ⟨w.heap.size, 3, none⟩ (.string kv)).setCell ⟨w.heap.size, 4, none⟩ (.slice A1 r.stripes.length c1)).setCell ⟨w.heap.size, 5, none⟩ (.slice A2 r.objects.length c2)).setCell ⟨w.heap.size, 6, none⟩ (.slice A3 r.drives.length c3)) := HB5.out.trans (below_of_sets gv (blk_lt Hbo5.out))
              refine bodyPost_ret (results_cell2 rfl w.heap.size _ _ _ _ rfl ks6 rfl rfl rfl) rfl ?_
              exact ⟨hBv, [.int .i64 r.kind, .int .i64 r.id, .int .i64 r.size, .string kv, .slice A1 r.stripes.length c1, .slice A2 r.objects.length c2, .slice A3 r.drives.length c3], by rw [show ((8 + z : Nat) : Int) = 8 + (z : Int) from by omega]; rfl, Hhrec5.out.same (.of_grown gv fun k e => by injection e with e; subst e; exact not_inT Hbo5.out (by decide))⟩



end Go.Proofs.Ytmleldgohfcdbaa
