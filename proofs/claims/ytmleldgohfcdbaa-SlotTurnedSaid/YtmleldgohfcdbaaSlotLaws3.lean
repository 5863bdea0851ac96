/- The walks of the laws on frames, third part: turned, cut off, one byte more. -/
import Derived.Test.YtmleldgohfcdbaaSlotLaws
namespace Go.Proofs.Ytmleldgohfcdbaa
open Go.RowKit
set_option maxRecDepth 100000 in
set_option maxHeartbeats 2000000 in
theorem slotTurned_any (s p : Nat) (hs : s < 4294967296) (hp : p < 256) (A : Option Addr) (c : Nat) (w : World) (l : List UInt8) (hlc : l.length ≤ c) (hr : RB w A l) (at_ t : Nat) (ht : t < 4294967296) (hat : at_ < 65536) :
    Calls Try.prog 8 #[.int .u32 s, .int .u8 p, .slice A l.length c, .int .u16 at_, .int .u32 t] w fun e w' => e = .returned (.bool true) ∧ Below w.heap.size w w' := by
  by_cases h50 : 50 < l.length
  · go_enter Try.func8, Try.ntmps8
    go_wp2_with fail
    refine (answers7_any _).mono ?_
    rintro e w1 ⟨rfl, hb1⟩
    go_wp2_with fail
    go_ret
    exact ⟨rfl, hb1⟩
  by_cases h0 : t = 0
  · subst h0
    go_enter Try.func8, Try.ntmps8
    go_wp2_with fail
    refine (answers7_any _).mono ?_
    rintro e w1 ⟨rfl, hb1⟩
    go_wp2_with fail
    go_ret
    exact ⟨rfl, hb1⟩
  have ht0 : ((t : Int) == 0) = false := by rw [beq_eq_false_iff_ne]; omega
  have e1 : l.take 50 = l := List.take_of_length_le (by omega)
  have h1 := fun w' (hr' : RB w' A l) => frameRef_any s p (by omega) A c w' l (by omega) hlc hr'
  have hl1 := frameOf_length s p l
  rw [e1] at h1
  clear e1
  have hno := fun k hk => open_turned s p l k t hk ht h0
  generalize frameOf s p l = f at h1 hl1 hno
  have hf1 : 10 ≤ f.length := by omega
  have hf2 : f.length ≤ 60 := by omega
  obtain ⟨k, hk⟩ := Int.eq_ofNat_of_zero_le (Int.emod_nonneg (at_ : Int) (show (f.length : Int) - 8 ≠ 0 by omega))
  have hk4 : k < f.length - 8 := by have := Int.emod_lt_of_pos (at_ : Int) (show (0 : Int) < (f.length : Int) - 8 by omega); omega
  have hno := hno k (by omega)
  have H1 := Lib.hid h1; have Hno := Lib.hid hno; have Hk := Lib.hid hk
  clear h1 hno hk hl1
  go_enter Try.func8, Try.ntmps8
  go_wp2_with fail
  refine (H1.out w hr).mono ?_
  rintro e w2 ⟨v2, rfl, hown2, hb2⟩
  obtain ⟨g, cc, rfl, hg, hgw, _⟩ := owns_some hown2 (by omega)
  go_wp2_with fail
  rw [Hk.out]
  go_loopw [13] (fun i wr => ∃ j : Nat, j ≤ 4 ∧ i = .int .i64 j ∧ OwnB wr w.heap.size (.slice (some ⟨g, 0, none⟩) f.length cc) (turnAt f k t j) ∧ Below w.heap.size w wr) (fun i _ => 4 - (intOf i).toNat)
  case atStart => exact ⟨0, by omega, rfl, hown2, hb2⟩
  case round =>
    obtain ⟨j, hj, rfl, hown, hb⟩ := hrel
    by_cases h4 : j < 4
    · have hl : k + j < (turnAt f k t j).length := by rw [turnAt_length]; omega
      have hc := hown.cell hl
      have hf := hown.free (k + j)
      generalize hx : (turnAt f k t j)[k + j] = x at hc
      have Hx := Lib.hid hx; clear hx
      rcases (by omega : j = 0 ∨ j = 1 ∨ j = 2 ∨ j = 3) with rfl | rfl | rfl | rfl
      · simp only [Nat.add_zero] at hc hf
        have hz := turn_round hown hl Hx hb hg (t : Int) (by simp)
        go_wp2
        exact ⟨⟨1, by omega, rfl, hz.1, hz.2⟩, by simp [intOf]⟩
      · have hz := turn_round hown hl Hx hb hg ((t : Int) / 256) (by simp)
        go_wp2
        exact ⟨⟨2, by omega, rfl, hz.1, hz.2⟩, by simp [intOf]⟩
      · have hz := turn_round hown hl Hx hb hg ((t : Int) / 65536) (by simp)
        go_wp2
        exact ⟨⟨3, by omega, rfl, hz.1, hz.2⟩, by simp [intOf]⟩
      · have hz := turn_round hown hl Hx hb hg ((t : Int) / 16777216) (by simp)
        rw [show (t : Int) / 16777216 % 256 = (t : Int) / 16777216 from by omega] at hz
        go_wp2
        exact ⟨⟨4, by omega, rfl, hz.1, hz.2⟩, by simp [intOf]⟩
    · have e : j = 4 := by omega
      subst e
      have hlen := turnAt_length f k t 4
      obtain ⟨A2, c2, hv, hl2, _, hr2⟩ := hown.form
      injection hv with hA hn hc
      subst hA
      subst hc
      have ho := open_none_any (by omega) hl2 hr2 Hno.out
      rw [hlen] at ho
      have Ho := Lib.hid ho
      clear ho hn hlen
      go_wp2_with fail
      refine Ho.out.mono ?_
      rintro e w3 ⟨rfl, hb3⟩
      go_wp2_with fail
      refine (answers7_any _).mono ?_
      rintro e w4 ⟨rfl, hb4⟩
      go_wp2_with fail
      go_ret
      exact ⟨rfl, hb.trans ((hb3.trans (hb4.mono hb3.size)).mono hb.size)⟩
set_option maxRecDepth 100000 in
set_option maxHeartbeats 2000000 in
theorem slotCuts_any (s p : Nat) (hs : s < 4294967296) (hp : p < 256) (A : Option Addr) (c : Nat) (w : World) (l : List UInt8) (hlc : l.length ≤ c) (hr : RB w A l) (at_ : Nat) (hat : at_ < 256) (x : UInt8) :
    Calls Try.prog 10 #[.int .u32 s, .int .u8 p, .slice A l.length c, .int .u8 at_, bv x] w fun e w' => e = .returned (.bool true) ∧ Below w.heap.size w w' := by
  by_cases h50 : 50 < l.length
  · go_enter Try.func10, Try.ntmps10
    go_wp2_with fail
    refine (answers7_any _).mono ?_
    rintro e w1 ⟨rfl, hb1⟩
    go_wp2_with fail
    go_ret
    exact ⟨rfl, hb1⟩
  have e1 : l.take 50 = l := List.take_of_length_le (by omega)
  have h1 := fun w' (hr' : RB w' A l) => frameRef_any s p (by omega) A c w' l (by omega) hlc hr'
  have hl1 := frameOf_length s p l
  rw [e1] at h1
  clear e1
  have hno := fun k hk => open_cut s p l (by omega) k hk
  have hmo := open_more s p l (by omega) x
  generalize frameOf s p l = f at h1 hl1 hno hmo
  have hf1 : 10 ≤ f.length := by omega
  have hf2 : f.length ≤ 60 := by omega
  have hk : at_ % f.length < f.length := Nat.mod_lt _ (by omega)
  have hnk := hno _ hk
  have hi1 := Int.emod_nonneg (at_ : Int) (show (f.length : Int) ≠ 0 by omega)
  have hi2 := Int.emod_lt_of_pos (at_ : Int) (show (0 : Int) < (f.length : Int) by omega)
  have H1 := Lib.hid h1; have Hno := Lib.hid hnk
  obtain ⟨f', hf'⟩ : ∃ f', f ++ [x] = f' := ⟨_, rfl⟩
  have hfl' : f'.length ≤ 61 := by rw [← hf', List.length_append, List.length_singleton]; omega
  rw [hf'] at hmo
  have Hmo := Lib.hid hmo; have Hf' := Lib.hid hf'
  clear h1 hno hnk hmo hl1 hf'
  go_enter Try.func10, Try.ntmps10
  go_wp2_with fail
  refine (H1.out w hr).mono ?_
  rintro e w2 ⟨v2, rfl, hown2, hb2⟩
  obtain ⟨A2, c2, rfl, hl2, _, hr2⟩ := hown2.form
  have hi3 : (at_ : Int) % (f.length : Int) ≤ (c2 : Int) := by omega
  go_wp2_with fail
  have ho := fun w' (hr' : RB w' A2 f) => open_none_any (c := c2) (w := w') (l := f.take (at_ % f.length)) (by rw [List.length_take]; omega) (by rw [List.length_take]; omega) (hr'.take _) Hno.out
  have hp := fun w' (hr' : RB w' A2 f) => openRef_any A2 c2 w' (f.take (at_ % f.length)) (by rw [List.length_take]; omega) (by rw [List.length_take]; omega) (hr'.take _)
  rw [Hno.out] at hp
  rw [show (f.take (at_ % f.length)).length = at_ % f.length from by rw [List.length_take]; omega] at ho hp
  have Ho := Lib.hid ho; have Hp := Lib.hid hp
  clear ho hp
  refine (Ho.out w2 hr2).mono ?_
  rintro e w3 ⟨rfl, hb3⟩
  have hb23 := hb2.trans (hb3.mono hb2.size)
  have hr3 := hr2.below hb3
  go_wp2_with (first
    | (at_builtin; refine wpList_copyB (by rfl) (.tmp 48) (.tmp 49) rfl w3.heap.size (.slice (some ⟨w3.heap.size, 0, none⟩) 0 0) rfl (owns_lit w3 w3.heap.size _ 1 (Nat.le_refl _)) A2 c2 f rfl (hr3.alloc _) (by omega) (by simp) ?_; intro A4 c4 w4 hown4 hr4 hl4 hf4 hb4; have hb34 : Below w3.heap.size w3 w4 := ((Below.refl _ w3).alloc (Nat.le_refl _) _).trans hb4; clear hb4 hf4)
    | (at_builtin; refine wpList_apB (by rfl) (.tmp 50) (.tmp 52) rfl w3.heap.size _ f rfl (hown4.below ((Below.refl _ w4).alloc (Nat.le_refl _) _)) (some ⟨w4.heap.size, 0, none⟩) 1 1 [x] rfl rfl (RB_new w4 [x] 5 (0, 0)) f' Hf'.out (by omega) (Nat.le_trans hb34.size (by simp)) ?_; intro A5 c5 w5 hown5 hr5 hl5 hg5 hno5 hb5; have hb35 : Below w3.heap.size w3 w5 := (hb34.alloc hb34.size _).trans hb5; clear hb5 hg5 hno5))
  refine (open_none_any (by omega) hl5 hr5 Hmo.out).mono ?_
  rintro e w6 ⟨rfl, hb6⟩
  have hb36 := hb35.trans (hb6.mono hb35.size)
  go_wp2_with fail
  refine (Hp.out w6 (hr3.below hb36)).mono ?_
  rintro e w7 ⟨rfl, hb7⟩
  have hb37 := hb36.trans (hb7.mono hb36.size)
  go_wp2_with fail
  refine (answers7_any _).mono ?_
  rintro e w8 ⟨rfl, hb8⟩
  have hb38 := hb37.trans (hb8.mono hb37.size)
  go_wp2_with fail
  go_ret
  exact ⟨rfl, hb23.trans (hb38.mono hb23.size)⟩
end Go.Proofs.Ytmleldgohfcdbaa
