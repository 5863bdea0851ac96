/- The walks of the laws on frames, second part. -/
import Derived.Test.YtmleldgohfcdbaaSlotLaws
namespace Go.Proofs.Ytmleldgohfcdbaa
open Go.RowKit
set_option maxRecDepth 100000 in
set_option maxHeartbeats 1000000 in
theorem slotBack_any (s p : Nat) (hs : s < 4294967296) (hp : p < 256) (A : Option Addr) (c : Nat) (w : World) (l : List UInt8) (hlc : l.length ≤ c) (hr : RB w A l) :
    Calls Try.prog 6 #[.int .u32 s, .int .u8 p, .slice A l.length c] w fun e w' => e = .returned (.bool true) ∧ Below w.heap.size w w' := by
  by_cases h100 : 100 < l.length
  · go_enter Try.func6, Try.ntmps6
    go_wp2_with fail
    refine (answers7_any _).mono ?_
    rintro e w1 ⟨rfl, hb1⟩
    go_wp2_with fail
    go_ret
    exact ⟨rfl, hb1⟩
  have h1 := fun w' (hr' : RB w' A l) => frame_any s p (by omega) A c w' l (by omega) hlc hr'
  have hop := open_frame s p (l.take 50) hs hp (by simp; omega)
  have hfl := frame_le s p l
  have hrm := hr.take 50
  have hml : (l.take 50).length ≤ 50 := by simp; omega
  have hmm : (l.take 50).take 50 = l.take 50 := List.take_of_length_le (by simp; omega)
  by_cases h50 : l.length ≤ 50
  · have e50 : l.take 50 = l := List.take_of_length_le h50
    have h2 := fun w' (hr' : RB w' A l) => frameRef_any s p (by omega) A c w' l (by omega) hlc hr'
    rw [e50] at hop hfl hrm hml h1 h2
    obtain ⟨fo, hfo⟩ : ∃ fo, frameOf s p l = fo := ⟨_, rfl⟩
    rw [hfo] at hop hfl
    simp only [hfo] at h1 h2
    have H1 := Lib.hid h1; have H2 := Lib.hid h2; have Hop := Lib.hid hop; have Hml := Lib.hid hml
    clear h1 h2 hop hfo hml hmm e50
    go_enter Try.func6, Try.ntmps6
    go_wp2_with fail
    refine (H1.out w hr).mono ?_
    rintro e w1 ⟨v1, rfl, hown1, hb1⟩
    obtain ⟨A1, c1, rfl, hl1, _, hr1⟩ := hown1.form
    go_wp2_with fail
    refine (open_some_any (by omega) hl1 hr1 Hop.out).mono ?_
    rintro e w2 ⟨v2, rfl, hown2, hb2⟩
    obtain ⟨A2, c2, rfl, hl2, _, hr2⟩ := hown2.form
    go_wp2_with fail
    refine (answers7_any _).mono ?_
    rintro e w3 ⟨rfl, hb3⟩
    have hb13 := hb1.trans ((hb2.trans (hb3.mono hb2.size)).mono hb1.size)
    go_wp2_with fail
    refine (H2.out w3 (hrm.below hb13)).mono ?_
    rintro e w4 ⟨v4, rfl, hown4, hb4⟩
    obtain ⟨A4, c4, rfl, hl4, _, hr4⟩ := hown4.form
    have hb14 := (hb2.trans (hb3.mono hb2.size)).trans (hb4.mono (Nat.le_trans hb2.size hb3.size))
    go_wp2_with fail
    refine (same_any A1 A4 c1 c4 w4 fo fo (by omega) (by omega) (hr1.below hb14) hr4).mono ?_
    rintro e w5 ⟨rfl, k, rfl⟩
    rw [beq_self_eq_true]
    go_wp2_with fail
    have hsm := same_any A A2 c c2 (w4.drewN k) l l (by have := Hml.out; omega) (by have := Hml.out; omega) (((hrm.below hb13).below hb4).drewN k) (((hr2.below hb3).below hb4).drewN k)
    skip
    refine hsm.mono ?_
    rintro e w6 ⟨rfl, k2, rfl⟩
    rw [beq_self_eq_true]
    go_wp2_with fail
    go_ret
    have hb := hb13.trans (hb4.mono hb13.size)
    exact ⟨rfl, ⟨hb.os, hb.tape, hb.output, hb.size, hb.block⟩⟩
  · have e50 : (l.take 50).length = 50 := by simp; omega
    have h50c : (50 : Int) ≤ (c : Int) := by omega
    have h2 := fun w' (hr' : RB w' A (l.take 50)) => frameRef_any s p (by omega) A c w' (l.take 50) (by omega) (by omega) hr'
    rw [e50, hmm] at h2
    obtain ⟨fo, hfo⟩ : ∃ fo, frameOf s p (l.take 50) = fo := ⟨_, rfl⟩
    rw [hfo] at hop hfl
    simp only [hfo] at h1 h2
    generalize l.take 50 = m at hop hfl hrm hml h2 e50
    have H1 := Lib.hid h1; have H2 := Lib.hid h2; have Hop := Lib.hid hop; have Hml := Lib.hid hml; have He := Lib.hid e50
    clear h1 h2 hop hfo hml hmm e50
    go_enter Try.func6, Try.ntmps6
    go_wp2_with fail
    refine (H1.out w hr).mono ?_
    rintro e w1 ⟨v1, rfl, hown1, hb1⟩
    obtain ⟨A1, c1, rfl, hl1, _, hr1⟩ := hown1.form
    go_wp2_with fail
    refine (open_some_any (by omega) hl1 hr1 Hop.out).mono ?_
    rintro e w2 ⟨v2, rfl, hown2, hb2⟩
    obtain ⟨A2, c2, rfl, hl2, _, hr2⟩ := hown2.form
    rw [He.out]
    go_wp2_with fail
    refine (answers7_any _).mono ?_
    rintro e w3 ⟨rfl, hb3⟩
    have hb13 := hb1.trans ((hb2.trans (hb3.mono hb2.size)).mono hb1.size)
    go_wp2_with fail
    refine (H2.out w3 (hrm.below hb13)).mono ?_
    rintro e w4 ⟨v4, rfl, hown4, hb4⟩
    obtain ⟨A4, c4, rfl, hl4, _, hr4⟩ := hown4.form
    have hb14 := (hb2.trans (hb3.mono hb2.size)).trans (hb4.mono (Nat.le_trans hb2.size hb3.size))
    go_wp2_with fail
    refine (same_any A1 A4 c1 c4 w4 fo fo (by omega) (by omega) (hr1.below hb14) hr4).mono ?_
    rintro e w5 ⟨rfl, k, rfl⟩
    rw [beq_self_eq_true]
    go_wp2_with fail
    have hsm := same_any A A2 c c2 (w4.drewN k) m m (by have := Hml.out; omega) (by have := Hml.out; omega) (((hrm.below hb13).below hb4).drewN k) (((hr2.below hb3).below hb4).drewN k)
    rw [He.out] at hsm
    refine hsm.mono ?_
    rintro e w6 ⟨rfl, k2, rfl⟩
    rw [beq_self_eq_true]
    go_wp2_with fail
    go_ret
    have hb := hb13.trans (hb4.mono hb13.size)
    exact ⟨rfl, ⟨hb.os, hb.tape, hb.output, hb.size, hb.block⟩⟩
set_option maxRecDepth 100000 in
set_option maxHeartbeats 2000000 in
theorem slotUnlike_any (s t p q : Nat) (hs4 : s < 4294967296) (ht4 : t < 4294967296) (hp : p < 256) (hq8 : q < 256) (A B : Option Addr) (c d : Nat) (w : World) (l m : List UInt8) (hlc : l.length ≤ c) (hmd : m.length ≤ d) (hr : RB w A l) (hs : RB w B m) :
    Calls Try.prog 9 #[.int .u32 s, .int .u32 t, .int .u8 p, .int .u8 q, .slice A l.length c, .slice B m.length d] w fun e w' => e = .returned (.bool true) ∧ Below w.heap.size w w' := by
  by_cases h50 : 50 < l.length
  · go_enter Try.func9, Try.ntmps9
    go_wp2_with fail
    refine (answers7_any _).mono ?_
    rintro e w1 ⟨rfl, hb1⟩
    go_wp2_with fail
    go_ret
    exact ⟨rfl, hb1⟩
  by_cases h51 : 50 < m.length
  · go_enter Try.func9, Try.ntmps9
    go_wp2_with fail
    refine (answers7_any _).mono ?_
    rintro e w1 ⟨rfl, hb1⟩
    go_wp2_with fail
    go_ret
    exact ⟨rfl, hb1⟩
  have h1 := fun w' (hr' : RB w' A l) => frame_any s p (by omega) A c w' l (by omega) hlc hr'
  have h2 := fun w' (hr' : RB w' B m) => frame_any t q (by omega) B d w' m (by omega) hmd hr'
  have e1 : l.take 50 = l := List.take_of_length_le (by omega)
  have e2 : m.take 50 = m := List.take_of_length_le (by omega)
  have hl1 := frame_le s p l
  have hl2 := frame_le t q m
  rw [e1] at h1 hl1
  rw [e2] at h2 hl2
  have hinj : frameOf s p l = frameOf t q m → s = t ∧ p = q ∧ l = m := frameOf_inj hs4 hp (by omega) ht4 hq8 (by omega)
  have hback : s = t → p = q → l = m → frameOf s p l = frameOf t q m := by rintro rfl rfl rfl; rfl
  clear e1 e2
  generalize frameOf s p l = f1 at h1 hl1 hinj hback
  generalize frameOf t q m = f2 at h2 hl2 hinj hback
  have H1 := Lib.hid h1; have H2 := Lib.hid h2
  clear h1 h2
  by_cases hst : s = t
  · have b1 : ((s : Int) == (t : Int)) = true := by rw [beq_iff_eq]; omega
    by_cases hpq : p = q
    · have b2 : ((p : Int) == (q : Int)) = true := by rw [beq_iff_eq]; omega
      by_cases hlm : l = m
      · have Hq : Hid ((f1 == f2) = true) := beq_iff_eq.2 (hback hst hpq hlm)
        have Hlm : Hid ((l == m) = true) := beq_iff_eq.2 hlm
        have lm1 : l.length ≤ m.length := by rw [hlm]; exact Nat.le_refl _
        clear hst hpq hlm hinj hback
        go_enter Try.func9, Try.ntmps9
        go_wp2_with fail
        refine (same_any A B c d w l m (by omega) (by omega) hr hs).mono ?_
        rintro e w0 ⟨rfl, k, rfl⟩
        rw [Hlm.out]
        go_wp2_with fail
        refine (answers7_any _).mono ?_
        rintro e w1 ⟨rfl, hb1⟩
        have hbx : Below w.heap.size w w1 := ⟨hb1.os, hb1.tape, hb1.output, hb1.size, hb1.block⟩
        go_wp2_with fail
        refine (H1.out w1 (hr.below hbx)).mono ?_
        rintro e w2 ⟨v2, rfl, hown2, hb2⟩
        obtain ⟨A2, c2, rfl, hl2, _, hr2⟩ := hown2.form
        go_wp2_with fail
        refine (H2.out w2 ((hs.below hbx).below hb2)).mono ?_
        rintro e w3 ⟨v3, rfl, hown3, hb3⟩
        obtain ⟨A3, c3, rfl, hl3, _, hr3⟩ := hown3.form
        go_wp2_with fail
        refine (same_any A2 A3 c2 c3 w3 f1 f2 (by omega) (by omega) (hr2.below hb3) hr3).mono ?_
        rintro e w4 ⟨rfl, k4, rfl⟩
        rw [Hq.out]
        go_wp2_with fail
        go_ret
        have hb := hbx.trans ((hb2.trans (hb3.mono hb2.size)).mono hbx.size)
        exact ⟨rfl, ⟨hb.os, hb.tape, hb.output, hb.size, hb.block⟩⟩
      · have Hq : Hid ((f1 == f2) = false) := beq_eq_false_iff_ne.2 (fun e => hlm (hinj e).2.2)
        have Hlm : Hid ((l == m) = false) := beq_eq_false_iff_ne.2 hlm
        clear hst hpq hlm hinj hback
        go_enter Try.func9, Try.ntmps9
        go_wp2_with fail
        refine (same_any A B c d w l m (by omega) (by omega) hr hs).mono ?_
        rintro e w0 ⟨rfl, k, rfl⟩
        rw [Hlm.out]
        go_wp2_with fail
        refine (answers7_any _).mono ?_
        rintro e w1 ⟨rfl, hb1⟩
        have hbx : Below w.heap.size w w1 := ⟨hb1.os, hb1.tape, hb1.output, hb1.size, hb1.block⟩
        go_wp2_with fail
        refine (H1.out w1 (hr.below hbx)).mono ?_
        rintro e w2 ⟨v2, rfl, hown2, hb2⟩
        obtain ⟨A2, c2, rfl, hl2, _, hr2⟩ := hown2.form
        go_wp2_with fail
        refine (H2.out w2 ((hs.below hbx).below hb2)).mono ?_
        rintro e w3 ⟨v3, rfl, hown3, hb3⟩
        obtain ⟨A3, c3, rfl, hl3, _, hr3⟩ := hown3.form
        go_wp2_with fail
        refine (same_any A2 A3 c2 c3 w3 f1 f2 (by omega) (by omega) (hr2.below hb3) hr3).mono ?_
        rintro e w4 ⟨rfl, k4, rfl⟩
        rw [Hq.out]
        go_wp2_with fail
        go_ret
        have hb := hbx.trans ((hb2.trans (hb3.mono hb2.size)).mono hbx.size)
        exact ⟨rfl, ⟨hb.os, hb.tape, hb.output, hb.size, hb.block⟩⟩
    · have b2 : ((p : Int) == (q : Int)) = false := by rw [beq_eq_false_iff_ne]; omega
      have Hq : Hid ((f1 == f2) = false) := beq_eq_false_iff_ne.2 (fun e => hpq (hinj e).2.1)
      clear hst hpq hinj hback
      go_enter Try.func9, Try.ntmps9
      go_wp2_with fail
      refine (answers7_any _).mono ?_
      rintro e w1 ⟨rfl, hb1⟩
      have hbx : Below w.heap.size w w1 := hb1
      go_wp2_with fail
      refine (H1.out w1 (hr.below hbx)).mono ?_
      rintro e w2 ⟨v2, rfl, hown2, hb2⟩
      obtain ⟨A2, c2, rfl, hl2, _, hr2⟩ := hown2.form
      go_wp2_with fail
      refine (H2.out w2 ((hs.below hbx).below hb2)).mono ?_
      rintro e w3 ⟨v3, rfl, hown3, hb3⟩
      obtain ⟨A3, c3, rfl, hl3, _, hr3⟩ := hown3.form
      go_wp2_with fail
      refine (same_any A2 A3 c2 c3 w3 f1 f2 (by omega) (by omega) (hr2.below hb3) hr3).mono ?_
      rintro e w4 ⟨rfl, k4, rfl⟩
      rw [Hq.out]
      go_wp2_with fail
      go_ret
      have hb := hbx.trans ((hb2.trans (hb3.mono hb2.size)).mono hbx.size)
      exact ⟨rfl, ⟨hb.os, hb.tape, hb.output, hb.size, hb.block⟩⟩
  · have b1 : ((s : Int) == (t : Int)) = false := by rw [beq_eq_false_iff_ne]; omega
    have Hq : Hid ((f1 == f2) = false) := beq_eq_false_iff_ne.2 (fun e => hst (hinj e).1)
    clear hst hinj hback
    go_enter Try.func9, Try.ntmps9
    go_wp2_with fail
    refine (answers7_any _).mono ?_
    rintro e w1 ⟨rfl, hb1⟩
    have hbx : Below w.heap.size w w1 := hb1
    go_wp2_with fail
    refine (H1.out w1 (hr.below hbx)).mono ?_
    rintro e w2 ⟨v2, rfl, hown2, hb2⟩
    obtain ⟨A2, c2, rfl, hl2, _, hr2⟩ := hown2.form
    go_wp2_with fail
    refine (H2.out w2 ((hs.below hbx).below hb2)).mono ?_
    rintro e w3 ⟨v3, rfl, hown3, hb3⟩
    obtain ⟨A3, c3, rfl, hl3, _, hr3⟩ := hown3.form
    go_wp2_with fail
    refine (same_any A2 A3 c2 c3 w3 f1 f2 (by omega) (by omega) (hr2.below hb3) hr3).mono ?_
    rintro e w4 ⟨rfl, k4, rfl⟩
    rw [Hq.out]
    go_wp2_with fail
    go_ret
    have hb := hbx.trans ((hb2.trans (hb3.mono hb2.size)).mono hbx.size)
    exact ⟨rfl, ⟨hb.os, hb.tape, hb.output, hb.size, hb.block⟩⟩
end Go.Proofs.Ytmleldgohfcdbaa
