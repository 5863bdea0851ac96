/- The reference's Crc; the walks of the three laws on sums. -/
import Derived.Test.YtmleldgohfcdbaaSum
import Derived.Test.YtmleldgohfcdbaaLaw
import Derived.Lib.SlBytesConst
import Derived.Test.YtmleldgohfcdbaaTurn
namespace Go.Proofs.Ytmleldgohfcdbaa
set_option linter.unusedVariables false
set_option linter.unusedSimpArgs false
open Go.RowKit
theorem ref_step_in (u : Nat) (hu : u < 2 ^ 32) (h : u % 2 = 1) : bits .xor .u32 ((u : Int) / 2) 2197175160 = ((crcStep u : Nat) : Int) := by
  rw [show ((u : Int) / 2) = ((u / 2 : Nat) : Int) from by omega, show (2197175160 : Int) = ((2197175160 : Nat) : Int) from rfl, u32_xor_nat _ _ (by omega) (by omega)]
  unfold crcStep
  rw [if_pos h]
theorem ref_step_in' (u : Nat) (h : ¬ u % 2 = 1) : ((u : Int) / 2) = ((crcStep u : Nat) : Int) := by
  unfold crcStep
  rw [if_neg h]
  omega
set_option maxHeartbeats 400000 in
theorem crcRef_any (A : Option Addr) (c : Nat) (w : World) (l : List UInt8) (hn : l.length ≤ 9000000000000000) (hr : RB w A l) :
    Calls Try.prog 19 #[.slice A l.length c] w fun e w' => e = .returned (.int .u32 (crc l)) ∧ w = w' := by
  go_enter Try.func19, Try.ntmps19
  go_wp2
  go_loop [3, 4, 5] (fun v i _ => ∃ k : Nat, k ≤ l.length ∧ i = .int .i64 k ∧ v = .int .u32 (crcFold ones (l.take k))) (fun _ i _ => l.length - (intOf i).toNat)
  case atStart => exact ⟨0, by omega, rfl, rfl⟩
  case round =>
   obtain ⟨k, hk, rfl, rfl⟩ := hrel
   have hu := crcFold_lt (l.take k) ones_lt
   have hs := Lib.hid (crcFold_take_succ ones l k)
   generalize hg : crcFold ones (l.take k) = u at hu hs
   have Hg := Lib.hid hg; clear hg
   by_cases hlt : k < l.length
   · obtain ⟨ad, rfl, hcell⟩ := hr.at_ hlt
     go_wp2
     rw [crc_xor_in u l[k] hu]
     have hx : u ^^^ l[k].toNat < 2 ^ 32 := Nat.xor_lt_two_pow hu (by have := l[k].toNat_lt; omega)
     go_loop [3, 5] (fun v i => ∃ j : Nat, j ≤ 8 ∧ i = .int .i64 j ∧ v = .int .u32 (crcIter j (u ^^^ l[k].toNat))) (fun _ i => 8 - (intOf i).toNat)
     case atStart => exact ⟨0, by omega, rfl, rfl⟩
     case round =>
      obtain ⟨j, hj, rfl, rfl⟩ := hrel
      have hv := crcIter_lt hx j
      have Hs := Lib.hid (show crcIter (j + 1) (u ^^^ l[k].toNat) = crcStep (crcIter j (u ^^^ l[k].toNat)) from rfl)
      generalize hg : crcIter j (u ^^^ l[k].toNat) = v at hv Hs
      have Hv := Lib.hid hg; clear hg
      by_cases hj8 : j < 8
      · by_cases hodd : v % 2 = 1
        · have ht : ((v : Int) % 2 == 1) = true := by simp; omega
          go_wp2
          go_round
          case rel => exact ⟨j + 1, by omega, by go_num, int_eq ((ref_step_in _ hv hodd).trans (by rw [Hs.out]))⟩
          case measure => simp [intOf]; omega
        · have ht : ((v : Int) % 2 == 1) = false := by simp; omega
          go_wp2
          go_round
          case rel => exact ⟨j + 1, by omega, by go_num, int_eq ((ref_step_in' _ hodd).trans (by rw [Hs.out]))⟩
          case measure => simp [intOf]; omega
      · go_wp2
        have e : j = 8 := by omega
        subst e
        exact ⟨⟨k + 1, by omega, by go_num, by rw [hs.out hlt, ← Hv.out]; rfl⟩, by simp [intOf]; omega⟩
   · go_wp2
     go_ret
     refine ⟨ret_int ((crc_end_in _ hu).trans ?_), rfl⟩
     have e : k = l.length := by omega
     subst e
     rw [← Hg.out, List.take_length]
     rfl
set_option maxRecDepth 100000 in
set_option maxHeartbeats 400000 in
theorem answers4_any (w : World) : Calls Try.prog 17 #[] w fun e w' => e = .returned (.bool true) ∧ Below w.heap.size w w' := by
  have kc := fun (w : World) (C : Array Value) (n c : Nat) => Lib.run_convert_bytes_const (P := Try.prog) w 22 5 C n c Try.underlying22 Try.underlying5
  go_enter Try.func17, Try.ntmps17
  go_wp2_with fail
  refine (of_any _ 9 _ [49, 50, 51, 52, 53, 54, 55, 56, 57] (by decide) (RB_new w [49, 50, 51, 52, 53, 54, 55, 56, 57] 5 (9, 10))).mono ?_
  rintro e w' ⟨rfl, rfl⟩
  rw [crc_example]
  go_wp2_with fail
  go_ret
  exact ⟨rfl, (Below.refl _ _).alloc (Nat.le_refl _) _⟩
set_option maxHeartbeats 400000 in
theorem sumOf_any (A : Option Addr) (c : Nat) (w : World) (l : List UInt8) (hr : RB w A l) :
    Calls Try.prog 3 #[.slice A l.length c] w fun e w' => e = .returned (.bool true) ∧ Below w.heap.size w w' := by
  go_enter Try.func3, Try.ntmps3
  by_cases h3 : l.length ≤ 3000
  · go_wp2_with fail
    refine (answers4_any _).mono ?_
    rintro e w1 ⟨rfl, hb1⟩
    go_wp2_with fail
    have hr1 := hr.below hb1
    refine (of_any _ _ _ l (by omega) hr1).mono ?_
    rintro e w' ⟨rfl, rfl⟩
    go_wp2_with fail
    refine (crcRef_any _ _ _ l (by omega) hr1).mono ?_
    rintro e w' ⟨rfl, rfl⟩
    go_wp2_with fail
    refine (of_any _ _ _ l (by omega) hr1).mono ?_
    rintro e w' ⟨rfl, rfl⟩
    go_wp2_with (at_builtin; refine wpList_appB (by rfl) (.tmp 18) (.tmp 19) rfl w.heap.size (.slice (some ⟨w1.heap.size, 0, none⟩) 0 0) [] rfl (owns_lit w1 w.heap.size _ 1 hb1.size) A c l rfl (hr1.alloc _) (by simp; omega) (Nat.le_trans hb1.size (by simp)) ?_; intro v' w2 hown2 hg2 _)
    have hb2 : Below w.heap.size w w2 := (hb1.alloc hb1.size _).trans (below_of_grown (owns_lit w1 w.heap.size _ 1 hb1.size) hg2 (by have := hb1.size; simp; omega))
    obtain ⟨A2, c2, rfl, hl2, _, hr2⟩ := hown2.form
    refine (of_any _ _ _ _ (by simp; omega) hr2).mono ?_
    rintro e w' ⟨rfl, rfl⟩
    rw [List.nil_append]
    go_wp2_with fail
    go_ret
    exact ⟨rfl, hb2⟩
  · go_wp2_with fail
    refine (answers4_any _).mono ?_
    rintro e w1 ⟨rfl, hb1⟩
    go_wp2_with fail
    go_ret
    exact ⟨rfl, hb1⟩
theorem wf_u8 {n : Int} (h : (Lit.int .u8 n).wf = true) : 0 ≤ n ∧ n < 256 := by
  have h0 : IntKind.u8.min = 0 := by decide
  have h1 : IntKind.u8.max = 255 := by decide
  simp only [Lit.wf, h0, h1, Bool.and_eq_true, decide_eq_true_eq] at h
  omega
theorem wf_u16 {n : Int} (h : (Lit.int .u16 n).wf = true) : 0 ≤ n ∧ n < 65536 := by
  have h0 : IntKind.u16.min = 0 := by decide
  have h1 : IntKind.u16.max = 65535 := by decide
  simp only [Lit.wf, h0, h1, Bool.and_eq_true, decide_eq_true_eq] at h
  omega
theorem wf_u32 {n : Int} (h : (Lit.int .u32 n).wf = true) : 0 ≤ n ∧ n < 4294967296 := by
  have h0 : IntKind.u32.min = 0 := by decide
  have h1 : IntKind.u32.max = 4294967295 := by decide
  simp only [Lit.wf, h0, h1, Bool.and_eq_true, decide_eq_true_eq] at h
  omega
theorem xor_u8 (x : UInt8) (n : Nat) (y : Int) (hy : y = (n : Int)) : Value.int .u8 (bits .xor .u8 (x.toNat : Int) (y % 256)) = bv (x ^^^ UInt8.ofNat n) := by
  subst hy
  have hx := x.toNat_lt
  rw [show ((n : Int) % 256) = ((n % 256 : Nat) : Int) from by omega, u8_xor_nat _ _ (by omega) (by omega)]
  simp [bv]
theorem turn_round {w wr : World} {B g n cc : Nat} {l : List UInt8} {k t j : Nat} {x : UInt8} (hown : OwnB wr B (.slice (some ⟨g, 0, none⟩) n cc) (turnAt l k t j)) (hl : k + j < (turnAt l k t j).length)
    (Hx : Hid ((turnAt l k t j)[k + j] = x)) (hb : Below B w wr) (hg : B ≤ g) (y : Int) (hy : y = ((t / 2 ^ (8 * j) : Nat) : Int)) :
    OwnB (wr.setCell ⟨g, k + j, none⟩ (.int .u8 (bits .xor .u8 (x.toNat : Int) (y % 256)))) B (.slice (some ⟨g, 0, none⟩) n cc) (turnAt l k t (j + 1)) ∧
      Below B w (wr.setCell ⟨g, k + j, none⟩ (.int .u8 (bits .xor .u8 (x.toNat : Int) (y % 256)))) := by
  refine ⟨?_, hb.setCell hg _⟩
  rw [xor_u8 x _ y hy]
  have := hown.set (k + j) hl (x ^^^ UInt8.ofNat (t / 2 ^ (8 * j)))
  rw [← Hx.out] at this ⊢
  show OwnB _ _ _ ((turnAt l k t j).set (k + j) ((turnAt l k t j).getD (k + j) 0 ^^^ UInt8.ofNat (t / 2 ^ (8 * j))))
  rw [show (turnAt l k t j).getD (k + j) 0 = (turnAt l k t j)[k + j] from by simp [List.getD, List.getElem?_eq_getElem hl]]
  exact this
set_option maxRecDepth 100000 in
set_option maxHeartbeats 1000000 in
theorem sumBurst_any (A : Option Addr) (c : Nat) (w : World) (l : List UInt8) (hr : RB w A l) (at_ t : Nat) (hat : at_ < 65536) (ht : t < 4294967296) :
    Calls Try.prog 4 #[.slice A l.length c, .int .u16 at_, .int .u32 t] w fun e w' => e = .returned (.bool true) ∧ Below w.heap.size w w' := by
  go_enter Try.func4, Try.ntmps4
  by_cases h5 : l.length < 5
  · go_wp2_with fail
    refine (answers4_any _).mono ?_
    rintro e w1 ⟨rfl, hb1⟩
    go_wp2_with fail
    go_ret
    exact ⟨rfl, hb1⟩
  · by_cases h1 : 1000 < l.length
    · go_wp2_with fail
      refine (answers4_any _).mono ?_
      rintro e w1 ⟨rfl, hb1⟩
      go_wp2_with fail
      go_ret
      exact ⟨rfl, hb1⟩
    · by_cases h0 : t = 0
      · subst h0
        go_wp2_with fail
        refine (answers4_any _).mono ?_
        rintro e w1 ⟨rfl, hb1⟩
        go_wp2_with fail
        go_ret
        exact ⟨rfl, hb1⟩
      · have ht0 : ((t : Int) == 0) = false := by simp; omega
        go_wp2_with (at_builtin; refine wpList_appB (by rfl) (.tmp 23) (.tmp 24) rfl w.heap.size (.slice (some ⟨w.heap.size, 0, none⟩) 0 0) [] rfl (owns_lit w w.heap.size _ 1 (Nat.le_refl _)) A c l rfl (hr.alloc _) (by simp; omega) (by simp) ?_; intro v' w2 hown2 hg2 _)
        have hb2 : Below w.heap.size w w2 := ((Below.refl _ w).alloc (Nat.le_refl _) _).trans (below_of_grown (owns_lit w w.heap.size _ 1 (Nat.le_refl _)) hg2 (by simp))
        obtain ⟨g, cc, rfl, hg, hgw, _⟩ := owns_some hown2 (by simp; omega)
        obtain ⟨k, hk⟩ := Int.eq_ofNat_of_zero_le (Int.emod_nonneg (at_ : Int) (show (l.length : Int) - 4 ≠ 0 by omega))
        have hk4 : k < l.length - 4 := by have := Int.emod_lt_of_pos (at_ : Int) (show (0 : Int) < (l.length : Int) - 4 by omega); omega
        rw [hk]
        clear hk
        go_loopw [9] (fun i wr => ∃ j : Nat, j ≤ 4 ∧ i = .int .i64 j ∧ OwnB wr w.heap.size (.slice (some ⟨g, 0, none⟩) ([] ++ l).length cc) (turnAt l k t j) ∧ Below w.heap.size w wr) (fun i _ => 4 - (intOf i).toNat)
        case atStart => exact ⟨0, by omega, rfl, hown2, hb2⟩
        case round =>
          obtain ⟨j, hj, rfl, hown, hb⟩ := hrel
          by_cases h4 : j < 4
          · have hl : k + j < (turnAt l k t j).length := by rw [turnAt_length]; omega
            have hc := hown.cell hl
            have hf := hown.free (k + j)
            generalize hx : (turnAt l k t j)[k + j] = x at hc
            have Hx := Lib.hid hx; clear hx
            rcases (by omega : j = 0 ∨ j = 1 ∨ j = 2 ∨ j = 3) with rfl | rfl | rfl | rfl
            · simp only [Nat.add_zero] at hc hf
              have hz := turn_round hown hl Hx hb hg (t : Int) (by simp)
              go_wp2
              exact ⟨⟨1, by omega, rfl, hz.1, hz.2⟩, by simp [intOf]⟩
            · have hz := turn_round hown hl Hx hb hg ((t : Int) / 256) (by simp)
              go_wp2
              exact ⟨⟨2, by omega, rfl, hz.1, hz.2⟩, by simp [intOf]⟩
            · have hz := turn_round hown hl Hx hb hg ((t : Int) / 65536) (by simp)
              go_wp2
              exact ⟨⟨3, by omega, rfl, hz.1, hz.2⟩, by simp [intOf]⟩
            · have hz := turn_round hown hl Hx hb hg ((t : Int) / 16777216) (by simp)
              rw [show (t : Int) / 16777216 % 256 = (t : Int) / 16777216 from by omega] at hz
              go_wp2
              exact ⟨⟨4, by omega, rfl, hz.1, hz.2⟩, by simp [intOf]⟩
          · have e : j = 4 := by omega
            subst e
            have hne := turned_other l k t (by omega) ht h0
            have hne' : (((crc l : Nat) : Int) != ((crc (turnAt l k t 4) : Nat) : Int)) = true := by rw [bne_iff_ne]; omega
            have hlen := turnAt_length l k t 4
            go_wp2_with fail
            refine (answers4_any _).mono ?_
            rintro e w1 ⟨rfl, hb1⟩
            go_wp2_with fail
            have hr1 := (hr.below hb).below hb1
            refine (of_any _ _ _ l (by omega) hr1).mono ?_
            rintro e w' ⟨rfl, rfl⟩
            obtain ⟨A2, c2, hv, hl2, _, hr2⟩ := hown.form
            injection hv with hA hn hc
            subst hA
            go_wp2_with fail
            have ho := of_any _ c2 _ (turnAt l k t 4) (by omega) (hr2.below hb1)
            rw [hlen] at ho
            refine ho.mono ?_
            rintro e w' ⟨rfl, rfl⟩
            go_wp2_with fail
            go_ret
            exact ⟨rfl, hb.trans (hb1.mono hb.size)⟩
set_option maxRecDepth 100000 in
set_option maxHeartbeats 1000000 in
theorem sumOne_any (A : Option Addr) (c : Nat) (w : World) (l : List UInt8) (hr : RB w A l) (at_ t : Nat) (hat : at_ < 65536) (ht : t < 256) :
    Calls Try.prog 5 #[.slice A l.length c, .int .u16 at_, .int .u8 t] w fun e w' => e = .returned (.bool true) ∧ Below w.heap.size w w' := by
  go_enter Try.func5, Try.ntmps5
  by_cases h5 : l.length = 0
  · have hl0 : ((l.length : Int) == 0) = true := by rw [beq_iff_eq]; omega
    go_wp2_with fail
    refine (answers4_any _).mono ?_
    rintro e w1 ⟨rfl, hb1⟩
    go_wp2_with fail
    go_ret
    exact ⟨rfl, hb1⟩
  · have hl0 : ((l.length : Int) == 0) = false := by rw [beq_eq_false_iff_ne]; omega
    by_cases h1 : 1000 < l.length
    · go_wp2_with fail
      refine (answers4_any _).mono ?_
      rintro e w1 ⟨rfl, hb1⟩
      go_wp2_with fail
      go_ret
      exact ⟨rfl, hb1⟩
    · by_cases h0 : t = 0
      · subst h0
        go_wp2_with fail
        refine (answers4_any _).mono ?_
        rintro e w1 ⟨rfl, hb1⟩
        go_wp2_with fail
        go_ret
        exact ⟨rfl, hb1⟩
      · have ht0 : ((t : Int) == 0) = false := by simp; omega
        have hi1 := Int.emod_nonneg (at_ : Int) (show (l.length : Int) ≠ 0 by omega)
        have hi2 := Int.emod_lt_of_pos (at_ : Int) (show (0 : Int) < (l.length : Int) by omega)
        have hkl : at_ % l.length < l.length := Nat.mod_lt _ (by omega)
        have hne := set_other l (at_ % l.length) hkl (UInt8.ofNat t) (fun e => by have := ofNat_zero e; omega)
        have hne' : (((crc l : Nat) : Int) != ((crc (l.set (at_ % l.length) (l[at_ % l.length] ^^^ UInt8.ofNat t)) : Nat) : Int)) = true := by rw [bne_iff_ne]; omega
        go_wp2_with (at_builtin; refine wpList_copyB (by rfl) (.tmp 21) (.tmp 22) rfl w.heap.size (.slice (some ⟨w.heap.size, 0, none⟩) 0 0) rfl (owns_lit w w.heap.size _ 1 (Nat.le_refl _)) A c l rfl (hr.alloc _) (by omega) (by simp) ?_; intro A2 c2 w2 hown2 hr2 hl2 hf2 hb2; obtain ⟨g, rfl, hg, hgw⟩ := hf2 (by omega); have hcell := hown2.cell hkl; have hfree := hown2.free (at_ % l.length))
        have hz := hown2.set (at_ % l.length) hkl (l[at_ % l.length] ^^^ UInt8.ofNat t)
        have hb3 : Below w.heap.size w (w2.setCell ⟨g, at_ % l.length, none⟩ (bv (l[at_ % l.length] ^^^ UInt8.ofNat t))) := (((Below.refl _ w).alloc (Nat.le_refl _) _).trans hb2).setCell hg _
        rw [← xor_u8 _ t (t : Int) rfl, show (t : Int) % 256 = (t : Int) from by omega] at hz hb3
        generalize w2.setCell ⟨g, at_ % l.length, none⟩ _ = w3 at hz hb3
        refine (answers4_any _).mono ?_
        rintro e w1 ⟨rfl, hb1⟩
        have hr1 := (hr.below hb3).below hb1
        go_wp2_with fail
        refine (of_any _ _ _ l (by omega) hr1).mono ?_
        rintro e w' ⟨rfl, rfl⟩
        go_wp2_with fail
        obtain ⟨A3, c3, hv, hl3, _, hr3⟩ := hz.form
        injection hv with hA hn hc
        subst hA
        clear hn hc
        have ho := of_any _ c2 _ _ (by rw [List.length_set]; omega) (hr3.below hb1)
        rw [List.length_set] at ho
        refine ho.mono ?_
        rintro e w' ⟨rfl, rfl⟩
        go_wp2_with fail
        refine (of_any _ _ _ l (by omega) hr1).mono ?_
        rintro e w' ⟨rfl, rfl⟩
        go_wp2_with fail
        refine (crcRef_any _ _ _ l (by omega) hr1).mono ?_
        rintro e w' ⟨rfl, rfl⟩
        go_wp2_with fail
        go_ret
        exact ⟨rfl, hb3.trans (hb1.mono hb3.size)⟩
end Go.Proofs.Ytmleldgohfcdbaa
