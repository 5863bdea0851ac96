/- tape: Crash, where nothing loose is in the place of all. -/
import Derived.Test.YtmleldgohfcdbaaTape3
import Derived.Lib.MinMax
namespace Go.Proofs.Ytmleldgohfcdbaa
set_option linter.unusedVariables false
set_option linter.unusedSimpArgs false
open Go.RowKit
/-- A side behind a crash: what of the loose bytes lasts comes behind. -/
def crashS (s : TSide) (keep : Int) : TSide := { s with b := if s.wet then s.b ++ s.loose.take (min (max keep 0) (s.loose.length : Int)).toNat else s.b, loose := [], wet := false }
def stepped (t : TTape) (keep : Int) : Nat → TTape
  | 0 => t
  | 1 => { t with s0 := crashS t.s0 keep }
  | _ => { t with s0 := crashS t.s0 keep, s1 := crashS t.s1 keep }
def crashT (t : TTape) (keep : Int) : TTape := ⟨crashS t.s0 keep, crashS t.s1 keep, -1, false⟩
set_option maxRecDepth 100000 in
set_option maxHeartbeats 2000000 in
theorem crash_any (w : World) (g : Nat) (P : Nat → Prop) (t : TTape) (h : TapeAt w g P t) (hP : ∀ k, w.heap.size ≤ k → P k) (hPg : ∀ k, P k → k ≠ g) (hsw0 : t.s0.swap = false) (hsw1 : t.s1.swap = false)
    (hlen0 : t.s0.b.length + t.s0.loose.length ≤ 10000000000000) (hlen1 : t.s1.b.length + t.s1.loose.length ≤ 10000000000000) (keep : Int) :
    Calls Try.prog 43 #[.pointer (some ⟨g, 0, none⟩), .int .i64 keep] w fun e w' => e = .returned (.tuple #[]) ∧ TapeAt w' g P (crashT t keep) ∧ w.grownBy w' (some g) := by
  go_enter Try.func43, Try.ntmps43
  go_wp2_with fail
  go_loopw [8] (fun i wr => ∃ (n : Nat) (tr : TTape), n ≤ 2 ∧ i = .int .i64 n ∧ TapeAt wr g P tr ∧ w.grownBy wr (some g) ∧ Hid (tr = stepped t keep n)) (fun i _ => 2 - (intOf i).toNat)
  case atStart => exact ⟨0, t, by omega, rfl, h, grown_of_below (Below.refl _ _) _, rfl⟩
  case round =>
    obtain ⟨n, tr, hn2, rfl, htr, hgr, hst⟩ := hrel
    have hsr := hgr.size
    have hn3 : n = 0 ∨ n = 1 ∨ n = 2 := by omega
    rcases hn3 with rfl | rfl | rfl
    · have htr0 : tr = stepped t keep 0 := hst.out
      have hnext : stepped t keep 1 = { tr with s0 := crashS tr.s0 keep } := by rw [htr0]; rfl
      have hsw : tr.s0.swap = false := by rw [htr0]; exact hsw0
      have hlen : tr.s0.b.length + tr.s0.loose.length ≤ 10000000000000 := by rw [htr0]; exact hlen0
      clear htr0 hst
      obtain ⟨v0, u0, v1, u1, hblk, h0, h1, h2, h3⟩ := htr
      have hlt := blk_lt hblk
      have r2 : wr.cell? ⟨g, 2, none⟩ = some (.bool tr.s0.swap) := blk_cell hblk 2
      have r3 : wr.cell? ⟨g, 3, none⟩ = some (.bool tr.s0.wet) := blk_cell hblk 3
      rw [hsw] at r2
      have e1 := blk_free hblk 1
      have e3 := blk_free hblk 3
      have Hnext := Lib.hid hnext; have Hhblk := Lib.hid hblk
      cases hwet : tr.s0.wet with
      | false =>
        rw [hwet] at r3
        have r1 : wr.cell? ⟨g, 1, none⟩ = some u0 := blk_cell hblk 1
        have Hsw := Lib.hid hsw; have Hwet := Lib.hid hwet
        clear hsw hwet hnext hblk hlen
        go_wp2_with fail
        go_roundw
        case rel =>
          have k1 := blk_set Hhblk.out 1 (.slice none 0 0)
          have k2 := blk_set k1 3 (.bool false)
          have gw : wr.grownBy ((wr.setCell ⟨g, 1, none⟩ (.slice none 0 0)).setCell ⟨g, 3, none⟩ (.bool false)) (some g) := grown_trans (grown_set _ _ _ _) (grown_set _ _ _ _)
          have hkk : ∀ k, k < wr.heap.size → P k → ((wr.setCell ⟨g, 1, none⟩ (.slice none 0 0)).setCell ⟨g, 3, none⟩ (.bool false)).heap[k]? = wr.heap[k]? := fun k hk hp => gw.block k hk (by simpa using hPg k hp)
          refine ⟨1, stepped t keep 1, by omega, by go_num, ?_, grown_trans hgr gw, rfl⟩
          rw [Hnext.out]
          have eb : (crashS tr.s0 keep).b = tr.s0.b := by unfold crashS; simp [Hwet.out]
          exact ⟨v0, .slice none 0 0, v1, u1, k2, eb ▸ h0.keep hkk, .nil _ _, h2.keep hkk, h3.keep hkk⟩
        case measure => simp [intOf]
      | true =>
        rw [hwet] at r3
        obtain ⟨A, c, e, hbc, hrb⟩ := h0
        obtain ⟨B, d, e', hld, hrl⟩ := h1
        subst e
        subst e'
        have r1 : wr.cell? ⟨g, 1, none⟩ = some (.slice B tr.s0.loose.length d) := blk_cell hblk 1
        obtain ⟨mk, hmk⟩ : ∃ mk : Int, max keep 0 = mk := ⟨_, rfl⟩
        obtain ⟨m, hm⟩ : ∃ m, tr.s0.loose.take (min mk (tr.s0.loose.length : Int)).toNat = m := ⟨_, rfl⟩
        have hml : min mk (tr.s0.loose.length : Int) = (m.length : Int) := by rw [← hm, List.length_take]; omega
        have hmd : m.length ≤ d := by omega
        have i1 : (0 : Int) ≤ (m.length : Int) := by omega
        have i2 : (m.length : Int) ≤ (d : Int) := by omega
        have hmr : RB wr.drew B m := hm ▸ (hrl.rv.rb.take _)
        have hlm : (tr.s0.b ++ m).length ≤ 100000000000000 := by rw [List.length_append, ← hm, List.length_take]; omega
        have Hap := Lib.hid (applyF_any wr.drew g 0 _ _ (show wr.drew.heap[g]? = _ from hblk) A c tr.s0.b rfl (show RB wr.drew A tr.s0.b from hrb.rv.rb) B d m hmr _ rfl hlm)
        have eb : (crashS tr.s0 keep).b = tr.s0.b ++ m := by unfold crashS; simp [hwet, hmk, hm]
        have Heb := Lib.hid eb
        obtain ⟨ll, hll⟩ : ∃ ll, tr.s0.loose.length = ll := ⟨_, rfl⟩
        rw [hll] at r1 hml hld
        have hmm : (m.length : Int) ≤ (ll : Int) := by omega
        have Hsw := Lib.hid hsw; have Hwet := Lib.hid hwet; have Hhm := Lib.hid hm; have Hll := Lib.hid hll
        clear hsw hwet hnext hblk eb hm hll hmr hlm hlen
        go_wp2_with fail
        go_region_held3 (fun w' => w'.cell? ⟨g, 1, none⟩ = some (.slice B ll d)) (first | exact r1 | exact r1')
          (first | (go_at_call 60; refine Hap.out.mono ?_; rintro e w2 ⟨A2, c2, rfl, hb2, hlc2, hr2, hg2⟩; have r1' : w2.cell? ⟨g, 1, none⟩ = some (.slice B ll d) := (blk_cell hb2 1).trans (by rw [Hll.out.symm]; rfl)) | fail "no arm")
        all_goals
          have e1' := blk_free hb2 1
          have e3' := blk_free hb2 3
          have q3 : w2.cell? ⟨g, 3, none⟩ = some (.bool true) := (blk_cell hb2 3).trans (by rw [← Hwet.out]; rfl)
          have Hb2 := Lib.hid hb2
          clear hb2
          go_wp2_with fail
          go_roundw
          case rel =>
            have k1 := blk_set Hb2.out 1 (.slice none 0 0)
            have k2 := blk_set k1 3 (.bool false)
            have gw : wr.grownBy ((w2.setCell ⟨g, 1, none⟩ (.slice none 0 0)).setCell ⟨g, 3, none⟩ (.bool false)) (some g) := grown_trans (show wr.grownBy w2 (some g) from ⟨hg2.os, hg2.tape, hg2.output, hg2.size, hg2.block⟩) (grown_trans (grown_set _ _ _ _) (grown_set _ _ _ _))
            have hkk : ∀ k, k < wr.heap.size → P k → ((w2.setCell ⟨g, 1, none⟩ (.slice none 0 0)).setCell ⟨g, 3, none⟩ (.bool false)).heap[k]? = wr.heap[k]? := fun k hk hp => gw.block k hk (by simpa using hPg k hp)
            have hsz : w2.heap.size = ((w2.setCell ⟨g, 1, none⟩ (.slice none 0 0)).setCell ⟨g, 3, none⟩ (.bool false)).heap.size := by simp
            refine ⟨1, stepped t keep 1, by omega, by go_num, ?_, grown_trans hgr gw, rfl⟩
            rw [Hnext.out]
            have hnew : TSlice ((w2.setCell ⟨g, 1, none⟩ (.slice none 0 0)).setCell ⟨g, 3, none⟩ (.bool false)) P (.slice A2 (tr.s0.b ++ m).length c2) (crashS tr.s0 keep).b := by
              rw [Heb.out]
              refine ⟨A2, c2, rfl, hlc2, (hr2.keep fun k hk hp => ?_).imp fun k _ h => hP k (Nat.le_trans hgr.size h)⟩
              have hp' : wr.heap.size ≤ k := hp
              rw [heap_setCell_other _ _ _ _ (by simp; omega), heap_setCell_other _ _ _ _ (by simp; omega)]
            exact ⟨_, .slice none 0 0, v1, u1, k2, hnew, .nil _ _, h2.keep hkk, h3.keep hkk⟩
          case measure => simp [intOf]
    · have htr0 : tr = stepped t keep 1 := hst.out
      have hnext : stepped t keep 2 = { tr with s1 := crashS tr.s1 keep } := by rw [htr0]; rfl
      have hsw : tr.s1.swap = false := by rw [htr0]; exact hsw1
      have hlen : tr.s1.b.length + tr.s1.loose.length ≤ 10000000000000 := by rw [htr0]; exact hlen1
      clear htr0 hst
      obtain ⟨v0, u0, v1, u1, hblk, h0, h1, h2, h3⟩ := htr
      have hlt := blk_lt hblk
      have r2 : wr.cell? ⟨g, 7, none⟩ = some (.bool tr.s1.swap) := blk_cell hblk 7
      have r3 : wr.cell? ⟨g, 8, none⟩ = some (.bool tr.s1.wet) := blk_cell hblk 8
      rw [hsw] at r2
      have e1 := blk_free hblk 6
      have e3 := blk_free hblk 8
      have Hnext := Lib.hid hnext; have Hhblk := Lib.hid hblk
      cases hwet : tr.s1.wet with
      | false =>
        rw [hwet] at r3
        have r1 : wr.cell? ⟨g, 6, none⟩ = some u1 := blk_cell hblk 6
        have Hsw := Lib.hid hsw; have Hwet := Lib.hid hwet
        clear hsw hwet hnext hblk hlen
        go_wp2_with fail
        go_roundw
        case rel =>
          have k1 := blk_set Hhblk.out 6 (.slice none 0 0)
          have k2 := blk_set k1 8 (.bool false)
          have gw : wr.grownBy ((wr.setCell ⟨g, 6, none⟩ (.slice none 0 0)).setCell ⟨g, 8, none⟩ (.bool false)) (some g) := grown_trans (grown_set _ _ _ _) (grown_set _ _ _ _)
          have hkk : ∀ k, k < wr.heap.size → P k → ((wr.setCell ⟨g, 6, none⟩ (.slice none 0 0)).setCell ⟨g, 8, none⟩ (.bool false)).heap[k]? = wr.heap[k]? := fun k hk hp => gw.block k hk (by simpa using hPg k hp)
          refine ⟨2, stepped t keep 2, by omega, by go_num, ?_, grown_trans hgr gw, rfl⟩
          rw [Hnext.out]
          have eb : (crashS tr.s1 keep).b = tr.s1.b := by unfold crashS; simp [Hwet.out]
          exact ⟨v0, u0, v1, .slice none 0 0, k2, h0.keep hkk, h1.keep hkk, eb ▸ h2.keep hkk, .nil _ _⟩
        case measure => simp [intOf]
      | true =>
        rw [hwet] at r3
        obtain ⟨A, c, e, hbc, hrb⟩ := h2
        obtain ⟨B, d, e', hld, hrl⟩ := h3
        subst e
        subst e'
        have r1 : wr.cell? ⟨g, 6, none⟩ = some (.slice B tr.s1.loose.length d) := blk_cell hblk 6
        obtain ⟨mk, hmk⟩ : ∃ mk : Int, max keep 0 = mk := ⟨_, rfl⟩
        obtain ⟨m, hm⟩ : ∃ m, tr.s1.loose.take (min mk (tr.s1.loose.length : Int)).toNat = m := ⟨_, rfl⟩
        have hml : min mk (tr.s1.loose.length : Int) = (m.length : Int) := by rw [← hm, List.length_take]; omega
        have hmd : m.length ≤ d := by omega
        have i1 : (0 : Int) ≤ (m.length : Int) := by omega
        have i2 : (m.length : Int) ≤ (d : Int) := by omega
        have hmr : RB wr.drew B m := hm ▸ (hrl.rv.rb.take _)
        have hlm : (tr.s1.b ++ m).length ≤ 100000000000000 := by rw [List.length_append, ← hm, List.length_take]; omega
        have Hap := Lib.hid (applyF_any wr.drew g 5 _ _ (show wr.drew.heap[g]? = _ from hblk) A c tr.s1.b rfl (show RB wr.drew A tr.s1.b from hrb.rv.rb) B d m hmr _ rfl hlm)
        have eb : (crashS tr.s1 keep).b = tr.s1.b ++ m := by unfold crashS; simp [hwet, hmk, hm]
        have Heb := Lib.hid eb
        obtain ⟨ll, hll⟩ : ∃ ll, tr.s1.loose.length = ll := ⟨_, rfl⟩
        rw [hll] at r1 hml hld
        have hmm : (m.length : Int) ≤ (ll : Int) := by omega
        have Hsw := Lib.hid hsw; have Hwet := Lib.hid hwet; have Hhm := Lib.hid hm; have Hll := Lib.hid hll
        clear hsw hwet hnext hblk eb hm hll hmr hlm hlen
        go_wp2_with fail
        go_region_held3 (fun w' => w'.cell? ⟨g, 6, none⟩ = some (.slice B ll d)) (first | exact r1 | exact r1')
          (first | (go_at_call 60; refine Hap.out.mono ?_; rintro e w2 ⟨A2, c2, rfl, hb2, hlc2, hr2, hg2⟩; have r1' : w2.cell? ⟨g, 6, none⟩ = some (.slice B ll d) := (blk_cell hb2 6).trans (by rw [Hll.out.symm]; rfl)) | fail "no arm")
        all_goals
          have e1' := blk_free hb2 6
          have e3' := blk_free hb2 8
          have q3 : w2.cell? ⟨g, 8, none⟩ = some (.bool true) := (blk_cell hb2 8).trans (by rw [← Hwet.out]; rfl)
          have Hb2 := Lib.hid hb2
          clear hb2
          go_wp2_with fail
          go_roundw
          case rel =>
            have k1 := blk_set Hb2.out 6 (.slice none 0 0)
            have k2 := blk_set k1 8 (.bool false)
            have gw : wr.grownBy ((w2.setCell ⟨g, 6, none⟩ (.slice none 0 0)).setCell ⟨g, 8, none⟩ (.bool false)) (some g) := grown_trans (show wr.grownBy w2 (some g) from ⟨hg2.os, hg2.tape, hg2.output, hg2.size, hg2.block⟩) (grown_trans (grown_set _ _ _ _) (grown_set _ _ _ _))
            have hkk : ∀ k, k < wr.heap.size → P k → ((w2.setCell ⟨g, 6, none⟩ (.slice none 0 0)).setCell ⟨g, 8, none⟩ (.bool false)).heap[k]? = wr.heap[k]? := fun k hk hp => gw.block k hk (by simpa using hPg k hp)
            have hsz : w2.heap.size = ((w2.setCell ⟨g, 6, none⟩ (.slice none 0 0)).setCell ⟨g, 8, none⟩ (.bool false)).heap.size := by simp
            refine ⟨2, stepped t keep 2, by omega, by go_num, ?_, grown_trans hgr gw, rfl⟩
            rw [Hnext.out]
            have hnew : TSlice ((w2.setCell ⟨g, 6, none⟩ (.slice none 0 0)).setCell ⟨g, 8, none⟩ (.bool false)) P (.slice A2 (tr.s1.b ++ m).length c2) (crashS tr.s1 keep).b := by
              rw [Heb.out]
              refine ⟨A2, c2, rfl, hlc2, (hr2.keep fun k hk hp => ?_).imp fun k _ h => hP k (Nat.le_trans hgr.size h)⟩
              have hp' : wr.heap.size ≤ k := hp
              rw [heap_setCell_other _ _ _ _ (by simp; omega), heap_setCell_other _ _ _ _ (by simp; omega)]
            exact ⟨v0, u0, _, .slice none 0 0, k2, h0.keep hkk, h1.keep hkk, hnew, .nil _ _⟩
          case measure => simp [intOf]
    · have htr0 : tr = stepped t keep 2 := hst.out
      rw [htr0] at htr
      clear htr0 hst
      obtain ⟨v0, u0, v1, u1, hblk, h0, h1, h2, h3⟩ := htr
      have e10 := blk_free hblk 10
      have e11 := blk_free hblk 11
      have r10 : wr.cell? ⟨g, 10, none⟩ = some (.int .i64 t.fuse) := blk_cell hblk 10
      have r11 : wr.cell? ⟨g, 11, none⟩ = some (.bool t.down) := blk_cell hblk 11
      have Hhblk := Lib.hid hblk
      clear hblk
      go_wp2_with fail
      go_end0
      have k1 := blk_set Hhblk.out 10 (.int .i64 (-1))
      have k2 := blk_set k1 11 (.bool false)
      have gw : wr.grownBy ((wr.setCell ⟨g, 10, none⟩ (.int .i64 (-1))).setCell ⟨g, 11, none⟩ (.bool false)) (some g) := grown_trans (grown_set _ _ _ _) (grown_set _ _ _ _)
      have hkk : ∀ k, k < wr.heap.size → P k → ((wr.setCell ⟨g, 10, none⟩ (.int .i64 (-1))).setCell ⟨g, 11, none⟩ (.bool false)).heap[k]? = wr.heap[k]? := fun k hk hp => gw.block k hk (by simpa using hPg k hp)
      exact ⟨rfl, ⟨_, _, _, _, k2, h0.keep hkk, h1.keep hkk, h2.keep hkk, h3.keep hkk⟩, grown_trans hgr gw⟩
end Go.Proofs.Ytmleldgohfcdbaa
