/- ref09's writer: key, ints, stripes. -/
import Derived.Test.YtmleldgohfcdbaaRefEnc2
namespace Go.Proofs.Ytmleldgohfcdbaa
set_option linter.unusedVariables false
set_option linter.unusedSimpArgs false
open Go.RowKit
set_option maxRecDepth 100000 in
set_option maxHeartbeats 400000 in
theorem okey_any (w : World) (B g : Nat) (s : OS) (hw : OutW w B g s) (hB : B ≤ w.heap.size) (k : List UInt8) (hl : s.1.length + 1 + k.length ≤ 141836999983104) :
    Calls Try.prog 54 #[.pointer (some ⟨g, 0, none⟩), sv k] w (OPost w B g (okey k s)) := by
  have hnum := onum_any w B g s hw hB k.length 16 1 (by omega) (by omega)
  have hnl := onum_len k.length 16 1 s
  obtain ⟨res, hres⟩ : ∃ res, okey k s = res := ⟨_, rfl⟩
  rw [hres]
  unfold okey at hres
  generalize onum k.length 16 1 s = s1 at hnum hnl hres
  obtain ⟨l1, b1⟩ := s1
  dsimp only at hnl hres
  obtain ⟨out, hout⟩ : ∃ out, l1 ++ k = out := ⟨_, rfl⟩
  rw [hout] at hres
  have hlo : out.length ≤ 141836999983104 := by rw [← hout, List.length_append]; omega
  have Hres := Lib.hid hres; have Hnum := Lib.hid hnum; have Hout := Lib.hid hout; have Hlo := Lib.hid hlo
  clear hres hnum hout hlo
  go_enter Try.func54, Try.ntmps54
  go_wp2_with fail
  refine Hnum.out.mono ?_
  rintro e w1 ⟨rfl, ⟨x, hblk, hown⟩, hf1⟩
  have c0 : w1.cell? ⟨g, 0, none⟩ = some x := blk_cell hblk 0
  have f0 := blk_free hblk 0
  have hb1 : B ≤ w1.heap.size := Nat.le_trans hB hf1.size
  go_wp2_with (at_builtin; refine wpList_apSW rfl (.tmp 12) (.tmp 13) rfl B x l1 rfl hown k rfl out Hout.out Hlo.out hb1 ?_; intro A2 c2 w2 hown2 hg2; obtain ⟨d0, e0, hw3, hf3⟩ := outw_mid hblk hown hown2 hg2)
  go_end0
  rw [← Hres.out]
  exact ⟨rfl, hw3, hf1.trans hf3⟩
set_option maxRecDepth 100000 in
set_option maxHeartbeats 1000000 in
theorem oints_any (w : World) (B g : Nat) (s : OS) (hw : OutW w B g s) (hB : B ≤ w.heap.size) (hg : B ≤ g) (A : Option Addr) (c : Nat) (k : List Int) (hr : RI w (· < B) A k) (hk : k.length ≤ maxLen) (hl : s.1.length + 2000 ≤ 141836999983104) :
    Calls Try.prog 56 #[.pointer (some ⟨g, 0, none⟩), .slice A k.length c] w (OPost w B g (oints k s)) := by
  have hk63 : k.length ≤ 9223372036854775807 := by unfold maxLen at hk; omega
  clear hk
  have hnum := onum_any w B g s hw hB k.length 255 1 (by omega) (by omega)
  have hnl := onum_len k.length 255 1 s
  have hnb : (onum k.length 255 1 s).2 = false → k.length ≤ 255 := fun h => badNum_len (m := 255) (onum_ok h).1
  obtain ⟨res, hres⟩ : ∃ res, oints k s = res := ⟨_, rfl⟩
  rw [hres]
  unfold oints at hres
  generalize onum k.length 255 1 s = s1 at hnum hnl hres hnb
  have Hres := Lib.hid hres; have Hnum := Lib.hid hnum; have Hnb := Lib.hid hnb
  clear hres hnum hnb
  go_enter Try.func56, Try.ntmps56
  go_wp2_with fail
  refine Hnum.out.mono ?_
  rintro e w1 ⟨rfl, hw1, hf1⟩
  go_wp2_with fail
  go_loopw [4] (fun i wr => ∃ (j : Nat) (s2 : OS), j ≤ k.length ∧ i = .int .i64 j ∧ OutW wr B g s2 ∧ WF B g w wr ∧ Hid (oloop (fun v => onum v maxID 4) (k.drop j) s2 = res) ∧ s2.1.length ≤ s.1.length + 1 + 4 * j ∧ Hid (s2.2 = false → k.length ≤ 255)) (fun i _ => k.length - (intOf i).toNat)
  case atStart => exact ⟨0, s1, by omega, rfl, hw1, hf1, Lib.hid Hres.out, by omega, Lib.hid Hnb.out⟩
  case round =>
    obtain ⟨j, s2, hj, rfl, hw2, hf2, hinv, hlen2, hb255⟩ := hrel
    obtain ⟨l2, b2⟩ := s2
    dsimp only at hlen2
    obtain ⟨x, hblk, hown⟩ := id hw2
    dsimp only at hblk hown
    have c1 : wr.cell? ⟨g, 1, none⟩ = some (.bool b2) := blk_cell hblk 1
    have Hw2 := Lib.hid hw2
    clear hw2 hown hblk
    by_cases hlt : j < k.length
    · have j1 : (j : Int) < (k.length : Int) := by omega
      have j2 : (0 : Int) ≤ (j : Int) := by omega
      cases b2 with
      | true =>
        have Hfin := Lib.hid (oloop_bad (fun v => onum v maxID 4) (k.drop j) (l2, true) rfl)
        go_wp2_with fail
        go_end0
        rw [← hinv.out, Hfin.out]
        exact ⟨rfl, Hw2.out, hf2⟩
      | false =>
        have hk255 := hb255.out rfl
        have hst := oloop_drop (fun v => onum v maxID 4) k j hlt (l2, false) rfl
        obtain ⟨ad, rfl, hc⟩ := (hr.below (hf2.below hg hB)).at_ hlt
        have hsz := hf2.size
        have hB2 := Nat.le_trans hB hsz
        have hcall := onum_any wr B g (l2, false) Hw2.out hB2 k[j] 1073741824 4 (by omega) (by show l2.length + 4 ≤ _; omega)
        have hnl2 := onum_len k[j] 1073741824 4 (l2, false)
        change oloop _ (k.drop j) (l2, false) = oloop _ (k.drop (j + 1)) (onum k[j] 1073741824 4 (l2, false)) at hst
        generalize onum k[j] 1073741824 4 (l2, false) = s3 at hcall hst hnl2
        have Hcall := Lib.hid hcall; have Hst := Lib.hid hst
        clear hcall hst
        go_wp2_with fail
        refine Hcall.out.mono ?_
        rintro e w3 ⟨rfl, hw3, hf3⟩
        go_wp2_with fail
        go_roundw
        case rel => exact ⟨j + 1, s3, by omega, by go_num, hw3, hf2.trans hf3, Lib.hid (by rw [← hinv.out, Hst.out]), by omega, Lib.hid fun _ => hk255⟩
        case measure => simp [intOf]; omega
    · have Hfin := Lib.hid (show oloop (fun v => onum v maxID 4) (k.drop j) (l2, b2) = (l2, b2) from by rw [List.drop_of_length_le (by omega)]; rfl)
      have j1 : ¬ (j : Int) < (k.length : Int) := by omega
      go_wp2_with fail
      go_end0
      rw [← hinv.out, Hfin.out]
      exact ⟨rfl, Hw2.out, hf2⟩
set_option maxRecDepth 100000 in
set_option maxHeartbeats 1000000 in
theorem ostripes_any (w : World) (B g : Nat) (s : OS) (hw : OutW w B g s) (hB : B ≤ w.heap.size) (hg : B ≤ g) (A : Option Addr) (c : Nat) (k : List PStripe) (hr : RStripes w (· < B) A k) (hk : k.length ≤ maxLen) (hk2 : ∀ s ∈ k, s.locs.length ≤ maxLen) (hl : s.1.length + 300000 ≤ 141836999983104) :
    Calls Try.prog 55 #[.pointer (some ⟨g, 0, none⟩), .slice A k.length c] w (OPost w B g (ostripes k s)) := by
  have hk63 : k.length ≤ 9223372036854775807 := by unfold maxLen at hk; omega
  clear hk
  have hnum := onum_any w B g s hw hB k.length 255 1 (by omega) (by omega)
  have hnl := onum_len k.length 255 1 s
  have hnb : (onum k.length 255 1 s).2 = false → k.length ≤ 255 := fun h => badNum_len (m := 255) (onum_ok h).1
  obtain ⟨res, hres⟩ : ∃ res, ostripes k s = res := ⟨_, rfl⟩
  rw [hres]
  unfold ostripes at hres
  generalize onum k.length 255 1 s = s1 at hnum hnl hres hnb
  have Hres := Lib.hid hres; have Hnum := Lib.hid hnum; have Hnb := Lib.hid hnb
  clear hres hnum hnb
  go_enter Try.func55, Try.ntmps55
  go_wp2_with fail
  refine Hnum.out.mono ?_
  rintro e w1 ⟨rfl, hw1, hf1⟩
  go_wp2_with fail
  go_loopw [4] (fun i wr => ∃ (j : Nat) (s2 : OS), j ≤ k.length ∧ i = .int .i64 j ∧ OutW wr B g s2 ∧ WF B g w wr ∧ Hid (oloop ostripe (k.drop j) s2 = res) ∧ s2.1.length ≤ s.1.length + 1 + 1029 * j ∧ Hid (s2.2 = false → k.length ≤ 255)) (fun i _ => k.length - (intOf i).toNat)
  case atStart => exact ⟨0, s1, by omega, rfl, hw1, hf1, Lib.hid Hres.out, by omega, Lib.hid Hnb.out⟩
  case round =>
    obtain ⟨j, s2, hj, rfl, hw2, hf2, hinv, hlen2, hb255⟩ := hrel
    obtain ⟨l2, b2⟩ := s2
    dsimp only at hlen2
    obtain ⟨x, hblk, hown⟩ := id hw2
    dsimp only at hblk hown
    have c1 : wr.cell? ⟨g, 1, none⟩ = some (.bool b2) := blk_cell hblk 1
    have Hw2 := Lib.hid hw2
    clear hw2 hown hblk
    by_cases hlt : j < k.length
    · have j1 : (j : Int) < (k.length : Int) := by omega
      have j2 : (0 : Int) ≤ (j : Int) := by omega
      cases b2 with
      | true =>
        have Hfin := Lib.hid (oloop_bad ostripe (k.drop j) (l2, true) rfl)
        go_wp2_with fail
        go_end0
        rw [← hinv.out, Hfin.out]
        exact ⟨rfl, Hw2.out, hf2⟩
      | false =>
        have hk255 := hb255.out rfl
        have hst := oloop_drop ostripe k j hlt (l2, false) rfl
        obtain ⟨ad, C, d, rfl, hc0, g1, g2, hld, hri⟩ := (hr.below (hf2.below hg hB)).at_ hlt
        have hadb : (ad.add (j * 3)).block < B ∧ True := ⟨by
          obtain ⟨vs, h1, h2⟩ := hr.below (hf2.below hg hB)
          have hn : ∀ a x, StripeVal wr (· < B) a x → x.length = 3 := by rintro a x ⟨_, _, rfl, _⟩; rfl
          have hln := h1.length hn
          obtain ⟨ad', e, hB', _⟩ := h2 (j * 3) (by rw [hln]; omega)
          injection e with e
          rw [block_of_add, e]
          exact hB', trivial⟩
        have hsz := hf2.size
        have hB2 := Nat.le_trans hB hsz
        have hll := hk2 k[j] (List.getElem_mem hlt)
        have hcall := onum_any wr B g (l2, false) Hw2.out hB2 k[j].id 1073741824 4 (by omega) (by show l2.length + 4 ≤ _; omega)
        have hnl2 := ostripe_len k[j] (l2, false)
        have hna := onum_len k[j].id 1073741824 4 (l2, false)
        have hs3 : ostripe k[j] (l2, false) = oints k[j].locs (onum k[j].epoch 1073741824 4 (onum k[j].id 1073741824 4 (l2, false))) := rfl
        generalize ostripe k[j] (l2, false) = s3 at hst hnl2 hs3
        generalize onum k[j].id 1073741824 4 (l2, false) = sa at hcall hna hs3
        have hnb := onum_len k[j].epoch 1073741824 4 sa
        have Hcall := Lib.hid hcall; have Hst := Lib.hid hst; have Hs3 := Lib.hid hs3
        clear hcall hst hs3
        dsimp only at hna hnl2
        go_wp2_with fail
        refine Hcall.out.mono ?_
        rintro e wa ⟨rfl, hwa, hfa⟩
        have hba := hfa.below hg hB2
        have g1' : wa.cell? ⟨(ad.add (j * 3)).block, (ad.add (j * 3)).off + 1, none⟩ = some (.int .i64 k[j].epoch) := (hba.cell (p := ⟨(ad.add (j * 3)).block, (ad.add (j * 3)).off + 1, none⟩) hadb.1).trans g1
        have hca := onum_any wa B g sa hwa (Nat.le_trans hB2 hfa.size) k[j].epoch 1073741824 4 (by omega) (by omega)
        have hs3 := Hs3.out
        generalize onum k[j].epoch 1073741824 4 sa = sb at hca hnb hs3
        have Hca := Lib.hid hca
        clear hca
        have Hs3 := Lib.hid hs3
        clear hs3
        go_wp2_with fail
        refine Hca.out.mono ?_
        rintro e wb ⟨rfl, hwb, hfb⟩
        have hfab := hfa.trans hfb
        have hbb := hfab.below hg hB2
        have g2' : wb.cell? ⟨(ad.add (j * 3)).block, (ad.add (j * 3)).off + 2, none⟩ = some (.slice C k[j].locs.length d) := (hbb.cell (p := ⟨(ad.add (j * 3)).block, (ad.add (j * 3)).off + 2, none⟩) hadb.1).trans g2
        have hcb := oints_any wb B g sb hwb (Nat.le_trans hB2 hfab.size) hg C d k[j].locs (hri.below hbb) hll (by omega)
        rw [← Hs3.out] at hcb
        have Hcb := Lib.hid hcb
        clear hcb
        go_wp2_with fail
        refine Hcb.out.mono ?_
        rintro e w3 ⟨rfl, hw3, hfc⟩
        have hf3 := hfab.trans hfc
        go_wp2_with fail
        go_roundw
        case rel => exact ⟨j + 1, s3, by omega, by go_num, hw3, hf2.trans hf3, Lib.hid (by rw [← hinv.out, Hst.out]), by omega, Lib.hid fun _ => hk255⟩
        case measure => simp [intOf]; omega
    · have Hfin := Lib.hid (show oloop ostripe (k.drop j) (l2, b2) = (l2, b2) from by rw [List.drop_of_length_le (by omega)]; rfl)
      have j1 : ¬ (j : Int) < (k.length : Int) := by omega
      go_wp2_with fail
      go_end0
      rw [← hinv.out, Hfin.out]
      exact ⟨rfl, Hw2.out, hf2⟩
end Go.Proofs.Ytmleldgohfcdbaa
