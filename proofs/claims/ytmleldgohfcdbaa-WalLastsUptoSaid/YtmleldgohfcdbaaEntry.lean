/- ref09.Entry. -/
import Derived.Test.YtmleldgohfcdbaaWalOne
import Derived.Test.YtmleldgohfcdbaaSumLaws
namespace Go.Proofs.Ytmleldgohfcdbaa
set_option linter.unusedVariables false
set_option linter.unusedSimpArgs false
open Go.RowKit
set_option maxRecDepth 100000 in
set_option maxHeartbeats 1000000 in
theorem entry_any (A : Option Addr) (c : Nat) (w : World) (l : List UInt8) (hn : l.length ≤ 100000000) (hr : RB w A l) :
    Calls Try.prog 36 #[.slice A l.length c] w fun e w' => ∃ v, e = .returned v ∧ OwnB w' w.heap.size v (entryOf l) ∧ Below w.heap.size w w' := by
  obtain ⟨q1, hq1⟩ : ∃ q1, be 4 l.length = q1 := ⟨_, rfl⟩
  obtain ⟨q2, hq2⟩ : ∃ q2, q1 ++ l = q2 := ⟨_, rfl⟩
  obtain ⟨q3, hq3⟩ : ∃ q3, q1 ++ be 4 (crc q2) = q3 := ⟨_, rfl⟩
  obtain ⟨q4, hq4⟩ : ∃ q4, q3 ++ l = q4 := ⟨_, rfl⟩
  have heo : entryOf l = q4 := by unfold entryOf; rw [hq1, hq2, hq3, hq4]
  have hl1 : q1.length = 4 := by rw [← hq1, be_length]
  have hl2 : q2.length ≤ 200000000 := by rw [← hq2, List.length_append]; omega
  have hl4 : q4.length ≤ 200000000 := by rw [← hq4, ← hq3]; simp only [List.length_append, be_length]; omega
  have hl3 : q3.length ≤ 200000000 := by rw [← hq3]; simp only [List.length_append, be_length]; omega
  have hn1 := num_any w 4 (by omega) l.length (by omega)
  rw [hq1] at hn1
  have Hq2 := Lib.hid hq2; have Hq3 := Lib.hid hq3; have Hq4 := Lib.hid hq4; have Heo := Lib.hid heo; have Hl1 := Lib.hid hl1; have Hl2 := Lib.hid hl2; have Hl3 := Lib.hid hl3; have Hl4 := Lib.hid hl4; have Hn1 := Lib.hid hn1
  clear hq1 hq2 hq3 hq4 heo hl1 hl2 hl3 hl4 hn1
  go_enter Try.func36, Try.ntmps36
  go_wp2_with fail
  refine Hn1.out.mono ?_
  rintro e w1 ⟨v1, rfl, hown1, hb1⟩
  have hs1 := hb1.size
  obtain ⟨A1, c1, rfl, hc1, _, hr1⟩ := hown1.form
  have hlt1 := World.ownsRow_base hown1 (Nat.le_refl _)
  have hlit := owns_lit w1 w1.heap.size 5 1 (Nat.le_refl _)
  have hba : Below w1.heap.size w1 (w1.alloc (.cells #[] 5)) := (Below.refl _ w1).alloc (Nat.le_refl _) _
  have hrA1 := hr1.below hba
  have hrA := (hr.below hb1).below hba
  go_wp2_with (first
    | (at_builtin; refine wpList_copyB (by rfl) (.tmp 9) (.tmp 10) rfl w1.heap.size _ rfl hlit A1 c1 q1 rfl hrA1 (by have := Hl1.out; omega) (Nat.le_trans (Nat.le_refl _) hba.size) ?_; intro A2 c2 w2 hown2 hr2 hlc2 _ hb2'; have hb2 : Below w1.heap.size w1 w2 := hba.trans hb2'; have hrl2 : RB w2 A l := (hr.below hb1).below hb2)
    | (at_builtin; refine wpList_apB (by rfl) (.tmp 11) (.tmp 12) rfl w1.heap.size _ q1 rfl hown2 A l.length c l rfl rfl hrl2 q2 Hq2.out (by have := Hl2.out; omega) hb2.size ?_; intro A3 c3 w3 hown3 hr3 hl3 hg3 hno3 hb3'; have hb3 : Below w1.heap.size w1 w3 := hb2.trans hb3'; clear hb3' hg3 hno3 hown3))
  refine (crcRef_any A3 c3 w3 q2 (by have := Hl2.out; omega) hr3).mono ?_
  rintro e w' ⟨rfl, rfl⟩
  have hcl := crc_lt q2
  go_wp2_with fail
  refine (num_any w3 4 (by omega) (crc q2) (by omega)).mono ?_
  rintro e w4 ⟨v4, rfl, hown4, hb4'⟩
  obtain ⟨A4, c4, rfl, hl4, _, hr4⟩ := hown4.form
  rw [be_length]
  have hb4 : Below w1.heap.size w1 w4 := hb3.trans (hb4'.mono hb3.size)
  have hown1b : OwnB w4 w.heap.size (.slice A1 q1.length c1) q1 := hown1.below hb4
  have hB4 : Below w.heap.size w w4 := hb1.trans (hb4.mono hs1)
  have hrl4 : RB w4 A l := hr.below hB4
  go_wp2_with (first
    | (at_builtin; refine wpList_apB (by rfl) (.tmp 14) (.tmp 18) rfl w.heap.size _ q1 rfl hown1b A4 4 c4 (be 4 (crc q2)) rfl (by rw [be_length]) hr4 q3 Hq3.out (by have := Hl3.out; omega) hB4.size ?_; intro A5 c5 w5 hown5 hr5 hl5 hg5 hno5 hb5'; have hb5 : Below w.heap.size w w5 := hB4.trans hb5'; have hrl5 : RB w5 A l := hr.below hb5)
    | (at_builtin; refine wpList_apB (by rfl) (.tmp 19) (.tmp 20) rfl w.heap.size _ q3 rfl hown5 A l.length c l rfl rfl hrl5 q4 Hq4.out (by have := Hl4.out; omega) hb5.size ?_; intro A6 c6 w6 hown6 hr6 hl6 hg6 hno6 hb6'))
  go_ret
  exact ⟨_, rfl, by rw [Heo.out]; exact hown6, hb5.trans hb6'⟩
end Go.Proofs.Ytmleldgohfcdbaa
