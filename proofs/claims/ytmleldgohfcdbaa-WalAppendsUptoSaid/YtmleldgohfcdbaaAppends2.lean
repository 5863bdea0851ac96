/- law11's WalAppends: the walk. -/
import Derived.Test.YtmleldgohfcdbaaAppends
namespace Go.Proofs.Ytmleldgohfcdbaa
open Go.RowKit
/-- The answer of an append that is wanted. -/
theorem want_of {r : PRec} {n : Nat} : (badRec r = true → roomE false r n = 2) ∧ (badRec r = false → 8192 < (encRec r).length → roomE false r n = 4) ∧
    (badRec r = false → (encRec r).length ≤ 8192 → 16384 < n + (8 + (encRec r).length) → roomE false r n = 3) ∧ (badRec r = false → (encRec r).length ≤ 8192 → ¬ 16384 < n + (8 + (encRec r).length) → roomE false r n = 0) := by
  unfold roomE
  refine ⟨fun h => ?_, fun h h2 => ?_, fun h h2 h3 => ?_, fun h h2 h3 => ?_⟩
  · rw [if_neg (by decide), if_pos h]
  · rw [if_neg (by decide), if_neg (by rw [h]; decide), if_pos h2]
  · rw [if_neg (by decide), if_neg (by rw [h]; decide), if_neg (by omega), if_pos h3]
  · rw [if_neg (by decide), if_neg (by rw [h]; decide), if_neg (by omega), if_neg h3]
set_option maxRecDepth 100000 in
set_option maxHeartbeats 8000000 in
theorem walAppends_any (w : World) (A : Option Addr) (c : Nat) (l : List PRec) (hlm : l.length ≤ maxLen) (hr : RRecs w (· < w.heap.size) A l) (hm : ∀ r ∈ l, FewR r)
    (ch : PRec) (cvs : List Value) (hc : RecVal w (· < w.heap.size) ch cvs) (hcm : FewR ch) :
    Calls Try.prog 12 #[.slice A l.length c, .agg cvs.toArray] w (TruePost w) := by
  obtain ⟨K1, K1c, K2, K2c, K3, K3c, rfl, hck⟩ := id hc
  obtain ⟨kc, hkc, -⟩ : ∃ kc : ByteArray, sv ch.key = .string kc ∧ True := ⟨_, rfl, trivial⟩
  rw [hkc] at hc ⊢
  obtain ⟨w0, hw0⟩ : ∃ w0, w.alloc (.cells #[.int .i64 ch.kind, .int .i64 ch.id, .int .i64 ch.size, .string kc, .slice K1 ch.stripes.length K1c, .slice K2 ch.objects.length K2c, .slice K3 ch.drives.length K3c] 51) = w0 := ⟨_, rfl⟩
  have hb0 : Below w.heap.size w w0 := hw0 ▸ (Below.refl _ w).alloc (Nat.le_refl _) _
  have hm0 : w0.heap[w.heap.size]? = some (.cells #[.int .i64 ch.kind, .int .i64 ch.id, .int .i64 ch.size, .string kc, .slice K1 ch.stripes.length K1c, .slice K2 ch.objects.length K2c, .slice K3 ch.drives.length K3c] 51 (0, 0)) := hw0 ▸ heap_alloc_new w _
  have hl63 : l.length ≤ 9223372036854775807 := by unfold maxLen at hlm; omega
  have Hsm := Lib.hid (small_any A c w0 l hlm (hr.lift hb0) (fun r h => (hm r h).bounds.2.1))
  have Hm := Lib.hid hm; have Hr := Lib.hid hr; have Hc := Lib.hid hc; have Hcm := Lib.hid hcm; have Hkc := Lib.hid hkc; have Hw0 := Lib.hid hw0; have Hm0 := Lib.hid hm0
  clear hm hr hc hcm hkc hw0 hm0 hlm hck
  go_enter Try.func12, Try.ntmps12
  go_wp2_with fail
  rw [Hw0.out]
  refine Hsm.out.mono ?_
  rintro e w1 ⟨bs, rfl, hbs, hb1⟩
  have hB1 : Below w.heap.size w w1 := hb0.trans (hb1.mono hb0.size)
  cases bs with
  | false =>
    clear hbs
    go_wp2_with fail
    refine (answers11_any _).mono ?_
    rintro e w2 ⟨rfl, hb2⟩
    go_wp2_with fail
    go_ret
    exact ⟨rfl, hB1.trans (hb2.mono hB1.size)⟩
  | true =>
    have hl60 := hbs rfl
    clear hbs
    have hm1 := (hb1.block _ (blk_lt Hm0.out)).trans Hm0.out
    have c0 : w1.cell? ⟨w.heap.size, 0, none⟩ = some (.int .i64 ch.kind) := blk_cell hm1 0
    have c1 : w1.cell? ⟨w.heap.size, 1, none⟩ = some (.int .i64 ch.id) := blk_cell hm1 1
    have c2 : w1.cell? ⟨w.heap.size, 2, none⟩ = some (.int .i64 ch.size) := blk_cell hm1 2
    have c3 : w1.cell? ⟨w.heap.size, 3, none⟩ = some (.string kc) := blk_cell hm1 3
    have c4 : w1.cell? ⟨w.heap.size, 4, none⟩ = some (.slice K1 ch.stripes.length K1c) := blk_cell hm1 4
    have c5 : w1.cell? ⟨w.heap.size, 5, none⟩ = some (.slice K2 ch.objects.length K2c) := blk_cell hm1 5
    have c6 : w1.cell? ⟨w.heap.size, 6, none⟩ = some (.slice K3 ch.drives.length K3c) := blk_cell hm1 6
    have Hsm2 := Lib.hid (refSmall_any w1 ch [.int .i64 ch.kind, .int .i64 ch.id, .int .i64 ch.size, .string kc, .slice K1 ch.stripes.length K1c, .slice K2 ch.objects.length K2c, .slice K3 ch.drives.length K3c] ((Hc.out.below hB1).imp fun k hk _ => hk) Hcm.out.bounds.2.1)
    have Hm1 := Lib.hid hm1
    clear hm1
    go_wp2_with fail
    refine Hsm2.out.mono ?_
    rintro e w2 ⟨b2, rfl, hb2⟩
    have hB2 : Below w.heap.size w w2 := hB1.trans (hb2.mono hB1.size)
    clear c0 c1 c2 c3 c4 c5 c6
    cases b2 with
    | false =>
      go_wp2_with fail
      refine (answers11_any _).mono ?_
      rintro e w3 ⟨rfl, hb3⟩
      go_wp2_with fail
      go_ret
      exact ⟨rfl, hB2.trans (hb3.mono hB2.size)⟩
    | true =>
      have hm2 := (hb2.block _ (blk_lt Hm1.out)).trans Hm1.out
      obtain ⟨gp, hgp⟩ : ∃ gp, gp = w2.heap.size := ⟨_, rfl⟩
      have hnew := new_clean w2
      unfold NewPost at hnew
      rw [← hgp] at hnew
      have hwg : w.heap.size < gp := hgp ▸ blk_lt hm2
      have Hnew := Lib.hid hnew; have Hgp := Lib.hid hgp; have Hm2 := Lib.hid hm2
      clear hnew hgp hm2
      go_wp2_with fail
      refine Hnew.out.mono ?_
      rintro e w3 ⟨rfl, ht3, hb3, hg3⟩
      have Hopen1 := Lib.hid (open_clean w3 gp (· ≠ gp) [] ht3 (fun k hk => by show k ≠ gp; omega) (fun k hk => hk) (by simp) (by decide))
      clear ht3
      go_wp2_with fail
      refine Hopen1.out.mono ?_
      rintro e w4 ⟨q, vl, vs, rfl, hgr4, hq1, hq2, hwal4, hown4, -⟩
      obtain ⟨VA, vac, rfl⟩ : ∃ VA vac, vl = .slice VA 0 vac := by
        obtain ⟨VA, vac, h, -⟩ := recs_of_own (l := []) hown4 (show RowsOf (RRec w4) [] vs from List.eq_nil_of_length_eq_zero (by simpa using hown4.1))
        exact ⟨VA, vac, h⟩
      have hsz4 := hgr4.size
      have hb34 : Below gp w2 w4 := hb3.trans (below_grown hgr4 (Nat.le_refl _) (by omega))
      have hB4 : Below w.heap.size w w4 := hB2.trans (hb34.mono (by omega))
      have hm4 := (hb34.block _ hwg).trans Hm2.out
      have Hwal4 := Lib.hid (show WalAt w4 q gp (PX gp q (.slice none 0 0) (.slice none 0 0)) (lg []) from ⟨hwal4.1.imp fun k _ hp => ⟨hp.1, hp.2, by simp [Value.ownBlock], by simp [Value.ownBlock]⟩, hwal4.2⟩)
      have Hm4 := Lib.hid hm4; have Hgr4 := Lib.hid hgr4; have Hb34 := Lib.hid hb34
      clear hwal4 hown4 hm4 hgr4 hb34
      have hgq : gp ≠ q := by omega
      have hw4 : gp < w4.heap.size := by omega
      go_wp2_with fail
      go_loopw [9, 10, 11] (fun v o i wr => ∃ (k : Nat) (acc : List PRec) (vs : List Value), k ≤ l.length ∧ acc.length ≤ k ∧ i = .int .i64 k ∧ OwnB wr w4.heap.size v (ents acc) ∧ wr.ownsRow w4.heap.size 51 7 o acc.length vs ∧
          RowsOf (RecVal wr (· < w.heap.size)) acc vs ∧ Hid (WalAt wr q gp (PX gp q v o) (lg acc)) ∧ Below gp w2 wr ∧ w4.heap.size ≤ wr.heap.size ∧ Hid (∀ r ∈ acc, OkR r) ∧ (ents acc).length ≤ 16384) (fun _ _ i _ => l.length - (intOf i).toNat)
      case atStart => exact ⟨0, [], [], by omega, by simp, rfl, OwnB.nil _ _, World.ownsRow_nil _ _ _ _, rfl, Lib.hid Hwal4.out, Hb34.out, Nat.le_refl _, Lib.hid (by simp), by simp [ents]⟩
      case round =>
        obtain ⟨k, acc, vs, hk, hak, rfl, hob, hoo, hrows, hwal, hbr, hszr, hacc, h16⟩ := hrel
        have hBr : Below w.heap.size w wr := hB2.trans (hbr.mono (by omega))
        obtain ⟨Av, cv, rfl, hlv, -, -⟩ := hob.form
        obtain ⟨Oo, oc, rfl, hoc, -⟩ := recs_of_own2 hoo hrows
        by_cases hlt : k < l.length
        · obtain ⟨ad, A1, A1c, A2, A2c, A3, A3c, rfl, ⟨p0, p1, p2, p3, p4, p5, p6⟩, hra⟩ := Hr.out.at_ hlt
          have hMa := Hm.out _ (List.getElem_mem hlt)
          generalize l[k] = a at p0 p1 p2 p3 p4 p5 p6 hra hMa
          obtain ⟨hroom, hmax, hkeys⟩ := hMa.bounds
          have henc := refEncode_any wr a _ ((hra.below hBr).imp fun k hk _ => hk) hmax hkeys
          obtain ⟨ka, hsa, -⟩ : ∃ ka : ByteArray, sv a.key = .string ka ∧ True := ⟨_, rfl, trivial⟩
          rw [hsa] at p3 henc hra
          have m0 : wr.cell? (ad.add (k * 7)) = some (.int .i64 a.kind) := (hBr.cell (World.block_lt_of_cell? _ _ p0)).trans p0; have m1 : wr.cell? ⟨(ad.add (k * 7)).block, (ad.add (k * 7)).off + 1, none⟩ = some (.int .i64 a.id) := (hBr.cell (World.block_lt_of_cell? _ _ p1)).trans p1; have m2 : wr.cell? ⟨(ad.add (k * 7)).block, (ad.add (k * 7)).off + 2, none⟩ = some (.int .i64 a.size) := (hBr.cell (World.block_lt_of_cell? _ _ p2)).trans p2; have m3 : wr.cell? ⟨(ad.add (k * 7)).block, (ad.add (k * 7)).off + 3, none⟩ = some (.string ka) := (hBr.cell (World.block_lt_of_cell? _ _ p3)).trans p3; have m4 : wr.cell? ⟨(ad.add (k * 7)).block, (ad.add (k * 7)).off + 4, none⟩ = some (.slice A1 a.stripes.length A1c) := (hBr.cell (World.block_lt_of_cell? _ _ p4)).trans p4; have m5 : wr.cell? ⟨(ad.add (k * 7)).block, (ad.add (k * 7)).off + 5, none⟩ = some (.slice A2 a.objects.length A2c) := (hBr.cell (World.block_lt_of_cell? _ _ p5)).trans p5; have m6 : wr.cell? ⟨(ad.add (k * 7)).block, (ad.add (k * 7)).off + 6, none⟩ = some (.slice A3 a.drives.length A3c) := (hBr.cell (World.block_lt_of_cell? _ _ p6)).trans p6
          have i1 : (0 : Int) ≤ (k : Int) := by omega
          have i2 : (k : Int) < (l.length : Int) := by omega
          obtain ⟨en, hen⟩ : ∃ en, ents acc = en := ⟨_, rfl⟩
          have Hen := Lib.hid hen
          have Henc := Lib.hid henc; have Hra := Lib.hid hra; have Hsa := Lib.hid hsa; have Hroom := Lib.hid hroom; have Hel := Lib.hid (ent_length a)
          have Hob := Lib.hid hob; have Hoo := Lib.hid hoo; have Hrows := Lib.hid hrows
          clear henc hra hsa hroom hob hoo hrows hMa hmax hkeys
          rw [hen] at hlv h16 Hob hwal
          rw [hen]
          go_wp2_with fail
          refine Henc.out.mono ?_
          rintro e w5 ⟨hb5, hp⟩
          have hbr5 : Below gp w2 w5 := hbr.trans (hb5.mono (by omega))
          have hB5 : Below w.heap.size w w5 := hBr.trans (hb5.mono hBr.size)
          have hs5 := hb5.size
          clear m0 m1 m2 m3 m4 m5 m6
          have m0 : w5.cell? (ad.add (k * 7)) = some (.int .i64 a.kind) := (hB5.cell (World.block_lt_of_cell? _ _ p0)).trans p0; have m1 : w5.cell? ⟨(ad.add (k * 7)).block, (ad.add (k * 7)).off + 1, none⟩ = some (.int .i64 a.id) := (hB5.cell (World.block_lt_of_cell? _ _ p1)).trans p1; have m2 : w5.cell? ⟨(ad.add (k * 7)).block, (ad.add (k * 7)).off + 2, none⟩ = some (.int .i64 a.size) := (hB5.cell (World.block_lt_of_cell? _ _ p2)).trans p2; have m3 : w5.cell? ⟨(ad.add (k * 7)).block, (ad.add (k * 7)).off + 3, none⟩ = some (.string ka) := (hB5.cell (World.block_lt_of_cell? _ _ p3)).trans p3; have m4 : w5.cell? ⟨(ad.add (k * 7)).block, (ad.add (k * 7)).off + 4, none⟩ = some (.slice A1 a.stripes.length A1c) := (hB5.cell (World.block_lt_of_cell? _ _ p4)).trans p4; have m5 : w5.cell? ⟨(ad.add (k * 7)).block, (ad.add (k * 7)).off + 5, none⟩ = some (.slice A2 a.objects.length A2c) := (hB5.cell (World.block_lt_of_cell? _ _ p5)).trans p5; have m6 : w5.cell? ⟨(ad.add (k * 7)).block, (ad.add (k * 7)).off + 6, none⟩ = some (.slice A3 a.drives.length A3c) := (hB5.cell (World.block_lt_of_cell? _ _ p6)).trans p6
          have hoo5 := owns_below Hoo.out hb5
          have hob5 : OwnB w5 w4.heap.size (.slice Av en.length cv) en := Hob.out.below hb5
          have hwal5 : WalAt w5 q gp (PX gp q (.slice Av en.length cv) _) (lg acc) := ⟨hwal.out.1.keep (hb5.block gp (by omega)) fun k hk _ => hb5.block k hk, (hb5.block q (by omega)).trans hwal.out.2⟩
          have hP5 := pxNew (g := gp) (q := q) (by omega) (by omega) hob5 hoo5
          have hra5 : RecVal w5 (· < w5.heap.size) a [.int .i64 a.kind, .int .i64 a.id, .int .i64 a.size, .string ka, .slice A1 a.stripes.length A1c, .slice A2 a.objects.length A2c, .slice A3 a.drives.length A3c] := (Hra.out.below hB5).imp fun k hk _ => hk
          have hsl : (ents acc).length ≤ 16384 := by rw [Hen.out]; exact h16
          have hwant := want_of (r := a) (n := (ents acc).length)
          have Hwal5 := Lib.hid hwal5; have HP5 := Lib.hid hP5; have Hra5 := Lib.hid hra5; have Hoo5 := Lib.hid hoo5; have Hob5 := Lib.hid hob5; have Hsl := Lib.hid hsl
          clear hwal5 hP5 hra5 hoo5 hob5 hsl
          rcases hp with ⟨hbad, rfl⟩ | ⟨hbad, h8, rfl⟩ | ⟨hbad, h8, v5, rfl, hown5⟩
          · have hmm := hwant.1 hbad
            have happ := append_no w5 q gp _ acc Hwal5.out HP5.out (fun k hk => ⟨hk.1, hk.2.1⟩) (by omega) a Hroom.out [.int .i64 a.kind, .int .i64 a.id, .int .i64 a.size, .string ka, .slice A1 a.stripes.length A1c, .slice A2 a.objects.length A2c, .slice A3 a.drives.length A3c] Hra5.out (by rw [hmm]; decide) Hsl.out
            rw [hmm] at happ
            have Happ := Lib.hid happ
            clear happ hmm hwant
            go_wp2_with fail
            refine Happ.out.mono ?_
            rintro e w6 ⟨rfl, hwal6, htwo⟩
            have hsz6 := htwo.size
            have hbr6 : Below gp w2 w6 := hbr5.trans (htwo.below (Nat.le_refl _) (by omega) (by omega))
            have hB6 : Below w.heap.size w w6 := hB2.trans (hbr6.mono (by omega))
            have Hwal6 := Lib.hid hwal6
            clear hwal6
            go_wp2_with fail
            go_roundw
            case rel => exact ⟨k + 1, acc, vs, by omega, by omega, by go_num, by rw [Hen.out]; exact owns_two Hob5.out htwo (by omega) (by omega), owns_two Hoo5.out htwo (by omega) (by omega), Hrows.out.mono fun _ _ h => h.keep (fun k hk hp => (hB6.block k hp).trans (hBr.block k hp).symm), Hwal6, hbr6, by omega, hacc, by rw [Hen.out]; exact h16⟩
            case measure => simp [intOf]; omega
          · have hmm := hwant.2.1 hbad h8
            have happ := append_no w5 q gp _ acc Hwal5.out HP5.out (fun k hk => ⟨hk.1, hk.2.1⟩) (by omega) a Hroom.out [.int .i64 a.kind, .int .i64 a.id, .int .i64 a.size, .string ka, .slice A1 a.stripes.length A1c, .slice A2 a.objects.length A2c, .slice A3 a.drives.length A3c] Hra5.out (by rw [hmm]; decide) Hsl.out
            rw [hmm] at happ
            have Happ := Lib.hid happ
            clear happ hmm hwant
            go_wp2_with fail
            refine Happ.out.mono ?_
            rintro e w6 ⟨rfl, hwal6, htwo⟩
            have hsz6 := htwo.size
            have hbr6 : Below gp w2 w6 := hbr5.trans (htwo.below (Nat.le_refl _) (by omega) (by omega))
            have hB6 : Below w.heap.size w w6 := hB2.trans (hbr6.mono (by omega))
            have Hwal6 := Lib.hid hwal6
            clear hwal6
            go_wp2_with fail
            go_roundw
            case rel => exact ⟨k + 1, acc, vs, by omega, by omega, by go_num, by rw [Hen.out]; exact owns_two Hob5.out htwo (by omega) (by omega), owns_two Hoo5.out htwo (by omega) (by omega), Hrows.out.mono fun _ _ h => h.keep (fun k hk hp => (hB6.block k hp).trans (hBr.block k hp).symm), Hwal6, hbr6, by omega, hacc, by rw [Hen.out]; exact h16⟩
            case measure => simp [intOf]; omega
          · obtain ⟨A4, c4, rfl, hl4, -, hr4⟩ := hown5.form
            by_cases hfit : 16384 < en.length + (8 + (encRec a).length)
            · have hmm := hwant.2.2.1 hbad h8 (by rw [Hen.out]; exact hfit)
              have hf2 : (16384 : Int) < (en.length : Int) + ((encRec a).length : Int) + 8 := by omega
              have happ := append_no w5 q gp _ acc Hwal5.out HP5.out (fun k hk => ⟨hk.1, hk.2.1⟩) (by omega) a Hroom.out [.int .i64 a.kind, .int .i64 a.id, .int .i64 a.size, .string ka, .slice A1 a.stripes.length A1c, .slice A2 a.objects.length A2c, .slice A3 a.drives.length A3c] Hra5.out (by rw [hmm]; decide) Hsl.out
              rw [hmm] at happ
              have Happ := Lib.hid happ
              clear happ hmm hwant
              go_wp2_with fail
              refine Happ.out.mono ?_
              rintro e w6 ⟨rfl, hwal6, htwo⟩
              have hsz6 := htwo.size
              have hbr6 : Below gp w2 w6 := hbr5.trans (htwo.below (Nat.le_refl _) (by omega) (by omega))
              have hB6 : Below w.heap.size w w6 := hB2.trans (hbr6.mono (by omega))
              have Hwal6 := Lib.hid hwal6
              clear hwal6
              go_wp2_with fail
              go_roundw
              case rel => exact ⟨k + 1, acc, vs, by omega, by omega, by go_num, by rw [Hen.out]; exact owns_two Hob5.out htwo (by omega) (by omega), owns_two Hoo5.out htwo (by omega) (by omega), Hrows.out.mono fun _ _ h => h.keep (fun k hk hp => (hB6.block k hp).trans (hBr.block k hp).symm), Hwal6, hbr6, by omega, hacc, by rw [Hen.out]; exact h16⟩
              case measure => simp [intOf]; omega
            · have hmm := hwant.2.2.2 hbad h8 (by rw [Hen.out]; exact hfit)
              have hf2 : ¬ (16384 : Int) < (en.length : Int) + ((encRec a).length : Int) + 8 := by omega
              have Happ := Lib.hid (append_clean w5 q gp _ acc Hwal5.out HP5.out (fun k hk => ⟨hk.1, hk.2.1⟩) (by omega) a Hroom.out [.int .i64 a.kind, .int .i64 a.id, .int .i64 a.size, .string ka, .slice A1 a.stripes.length A1c, .slice A2 a.objects.length A2c, .slice A3 a.drives.length A3c] Hra5.out hmm Hsl.out)
              have Hmm := Lib.hid hmm
              have hsrc5 := OwnB.rvb hown5
              have Hown5 := Lib.hid hown5
              clear hmm hwant hown5 hr4
              obtain ⟨en2, hen2⟩ : ∃ en2, en ++ ent a = en2 := ⟨_, rfl⟩
              have hl2 : en2.length ≤ 16384 := by rw [← hen2, List.length_append, Hel.out]; omega
              have Hen2 := Lib.hid hen2; have Hl2 := Lib.hid hl2
              clear hen2 hl2
              go_wp2_with fail
              refine Happ.out.mono ?_
              rintro e w6 ⟨rfl, hwal6, htwo⟩
              have hsz6 := htwo.size
              have hbr6 : Below gp w2 w6 := hbr5.trans (htwo.below (Nat.le_refl _) (by omega) (by omega))
              have hB6 : Below w.heap.size w w6 := hB2.trans (hbr6.mono (by omega))
              have hob6 := owns_two Hob5.out htwo (by omega) (by omega)
              have hoo6 := owns_two Hoo5.out htwo (by omega) (by omega)
              clear m0 m1 m2 m3 m4 m5 m6
              have m0 : w6.cell? (ad.add (k * 7)) = some (.int .i64 a.kind) := (hB6.cell (World.block_lt_of_cell? _ _ p0)).trans p0; have m1 : w6.cell? ⟨(ad.add (k * 7)).block, (ad.add (k * 7)).off + 1, none⟩ = some (.int .i64 a.id) := (hB6.cell (World.block_lt_of_cell? _ _ p1)).trans p1; have m2 : w6.cell? ⟨(ad.add (k * 7)).block, (ad.add (k * 7)).off + 2, none⟩ = some (.int .i64 a.size) := (hB6.cell (World.block_lt_of_cell? _ _ p2)).trans p2; have m3 : w6.cell? ⟨(ad.add (k * 7)).block, (ad.add (k * 7)).off + 3, none⟩ = some (.string ka) := (hB6.cell (World.block_lt_of_cell? _ _ p3)).trans p3; have m4 : w6.cell? ⟨(ad.add (k * 7)).block, (ad.add (k * 7)).off + 4, none⟩ = some (.slice A1 a.stripes.length A1c) := (hB6.cell (World.block_lt_of_cell? _ _ p4)).trans p4; have m5 : w6.cell? ⟨(ad.add (k * 7)).block, (ad.add (k * 7)).off + 5, none⟩ = some (.slice A2 a.objects.length A2c) := (hB6.cell (World.block_lt_of_cell? _ _ p5)).trans p5; have m6 : w6.cell? ⟨(ad.add (k * 7)).block, (ad.add (k * 7)).off + 6, none⟩ = some (.slice A3 a.drives.length A3c) := (hB6.cell (World.block_lt_of_cell? _ _ p6)).trans p6
              have hS : R18 w6 w4.heap.size (.slice Av en.length cv) (.slice Oo acc.length oc) w6.drew (.slice Av en.length cv) (.slice Oo acc.length oc) en acc.length vs := ⟨hob6, hoo6, ⟨rfl, rfl, rfl, Nat.le_refl _, fun _ _ _ _ => rfl⟩, .inl rfl, .inl rfl, by show w4.heap.size ≤ w6.heap.size; omega⟩
              have hcells : ∀ W vb vo lb n ys, R18 w6 w4.heap.size (.slice Av en.length cv) (.slice Oo acc.length oc) W vb vo lb n ys → (W.cell? (ad.add (k * 7)) = some (.int .i64 a.kind) ∧ W.cell? ⟨(ad.add (k * 7)).block, (ad.add (k * 7)).off + 1, none⟩ = some (.int .i64 a.id) ∧ W.cell? ⟨(ad.add (k * 7)).block, (ad.add (k * 7)).off + 2, none⟩ = some (.int .i64 a.size) ∧ W.cell? ⟨(ad.add (k * 7)).block, (ad.add (k * 7)).off + 3, none⟩ = some (.string ka) ∧ W.cell? ⟨(ad.add (k * 7)).block, (ad.add (k * 7)).off + 4, none⟩ = some (.slice A1 a.stripes.length A1c) ∧ W.cell? ⟨(ad.add (k * 7)).block, (ad.add (k * 7)).off + 5, none⟩ = some (.slice A2 a.objects.length A2c) ∧ W.cell? ⟨(ad.add (k * 7)).block, (ad.add (k * 7)).off + 6, none⟩ = some (.slice A3 a.drives.length A3c)) := fun W vb vo lb n ys h => by
                have hlow : ∀ ad' : Addr, ad'.block < w.heap.size → (Value.slice Av en.length cv).ownBlock ≠ some ad'.block := fun ad' h1 h2 => by have := (hob6.lt _ h2).1; omega
                have hlow2 : ∀ ad' : Addr, ad'.block < w.heap.size → (Value.slice Oo acc.length oc).ownBlock ≠ some ad'.block := fun ad' h1 h2 => by have := (hoo6.lt _ h2).1; omega
                exact ⟨h.kept.cell m0 (hlow _ (World.block_lt_of_cell? _ _ p0)) (hlow2 _ (World.block_lt_of_cell? _ _ p0)), h.kept.cell m1 (hlow _ (World.block_lt_of_cell? _ _ p1)) (hlow2 _ (World.block_lt_of_cell? _ _ p1)), h.kept.cell m2 (hlow _ (World.block_lt_of_cell? _ _ p2)) (hlow2 _ (World.block_lt_of_cell? _ _ p2)), h.kept.cell m3 (hlow _ (World.block_lt_of_cell? _ _ p3)) (hlow2 _ (World.block_lt_of_cell? _ _ p3)), h.kept.cell m4 (hlow _ (World.block_lt_of_cell? _ _ p4)) (hlow2 _ (World.block_lt_of_cell? _ _ p4)), h.kept.cell m5 (hlow _ (World.block_lt_of_cell? _ _ p5)) (hlow2 _ (World.block_lt_of_cell? _ _ p5)), h.kept.cell m6 (hlow _ (World.block_lt_of_cell? _ _ p6)) (hlow2 _ (World.block_lt_of_cell? _ _ p6))⟩
              have hsrc : RVb w6 (fun k => (Value.slice Av en.length cv).ownBlock ≠ some k ∧ (Value.slice Oo acc.length oc).ownBlock ≠ some k) A4 ((encRec a).map bv) := by
                have h1 := hsrc5.imp (P' := fun k => wr.heap.size ≤ k) fun k _ hk => hk
                refine (h1.keep fun k hk hp => htwo.block k hk (by omega) (by omega)).imp fun k hk hp => ⟨fun h2 => ?_, fun h2 => ?_⟩
                · have := (Hob.out.lt _ h2).2; omega
                · have := (Hoo.out.lt _ h2).2; omega
              have hent : ∀ W, RB W A4 (encRec a) → Calls Try.prog 36 #[.slice A4 (encRec a).length c4] W fun e w' => ∃ v, e = .returned v ∧ OwnB w' W.heap.size v (ent a) ∧ Below W.heap.size W w' := fun W h => entry_any A4 c4 W (encRec a) (by omega) h
              have hlen : en.length + (ent a).length ≤ 16384 := by have h1 := Hl2.out; rw [← Hen2.out, List.length_append] at h1; exact h1
              have Hent := Lib.hid hent; have Hlen := Lib.hid hlen; have Hsrc := Lib.hid hsrc; have Hcells := Lib.hid hcells; have Hwal6 := Lib.hid hwal6
              have hgv : (Value.slice Av en.length cv).ownBlock ≠ some gp ∧ (Value.slice Av en.length cv).ownBlock ≠ some q := ⟨fun h => by have := (hob6.lt _ h).1; omega, fun h => by have := (hob6.lt _ h).1; omega⟩
              have hgo : (Value.slice Oo acc.length oc).ownBlock ≠ some gp ∧ (Value.slice Oo acc.length oc).ownBlock ≠ some q := ⟨fun h => by have := (hoo6.lt _ h).1; omega, fun h => by have := (hoo6.lt _ h).1; omega⟩
              have Hgv := Lib.hid hgv; have Hgo := Lib.hid hgo
              have HLow := Lib.hid (show ∀ k, k < w4.heap.size → (Value.slice Av en.length cv).ownBlock ≠ some k ∧ (Value.slice Oo acc.length oc).ownBlock ≠ some k from fun k hk => ⟨fun h => by have := (hob6.lt _ h).1; omega, fun h => by have := (hoo6.lt _ h).1; omega⟩)
              clear hent hlen hsrc hcells hwal6 hsrc5 hob6 hoo6 hgv hgo
              have f4 : ∀ u ∈ ([.int .i64 a.kind, .int .i64 a.id, .int .i64 a.size, .string ka, .slice A1 a.stripes.length A1c, .slice A2 a.objects.length A2c, .slice A3 a.drives.length A3c] : List Value), u.oneCell' = true := by intro u hu; simp at hu; rcases hu with rfl | rfl | rfl | rfl | rfl | rfl | rfl <;> rfl
              have f5 : acc.length + 1 ≤ 100 := by omega
              have F4 := Lib.hid f4; have F5 := Lib.hid f5; have F8 := Lib.hid (show ([.int .i64 a.kind, .int .i64 a.id, .int .i64 a.size, .string ka, .slice A1 a.stripes.length A1c, .slice A2 a.objects.length A2c, .slice A3 a.drives.length A3c] : List Value).length = 7 from rfl)
              clear f4 f5
              go_wp2_with fail
              go_region_held3 (fun w' => w'.cell? (ad.add (k * 7)) = some (.int .i64 a.kind) ∧ w'.cell? ⟨(ad.add (k * 7)).block, (ad.add (k * 7)).off + 1, none⟩ = some (.int .i64 a.id) ∧ w'.cell? ⟨(ad.add (k * 7)).block, (ad.add (k * 7)).off + 2, none⟩ = some (.int .i64 a.size) ∧ w'.cell? ⟨(ad.add (k * 7)).block, (ad.add (k * 7)).off + 3, none⟩ = some (.string ka) ∧ w'.cell? ⟨(ad.add (k * 7)).block, (ad.add (k * 7)).off + 4, none⟩ = some (.slice A1 a.stripes.length A1c) ∧ w'.cell? ⟨(ad.add (k * 7)).block, (ad.add (k * 7)).off + 5, none⟩ = some (.slice A2 a.objects.length A2c) ∧ w'.cell? ⟨(ad.add (k * 7)).block, (ad.add (k * 7)).off + 6, none⟩ = some (.slice A3 a.drives.length A3c)) (first
                | exact ⟨m0, m1, m2, m3, m4, m5, m6⟩
                | exact ⟨(World.cell?_alloc_lt _ _ _ (World.block_lt_of_cell? _ _ m0)).trans m0, (World.cell?_alloc_lt _ _ _ (World.block_lt_of_cell? _ _ m1)).trans m1, (World.cell?_alloc_lt _ _ _ (World.block_lt_of_cell? _ _ m2)).trans m2, (World.cell?_alloc_lt _ _ _ (World.block_lt_of_cell? _ _ m3)).trans m3, (World.cell?_alloc_lt _ _ _ (World.block_lt_of_cell? _ _ m4)).trans m4, (World.cell?_alloc_lt _ _ _ (World.block_lt_of_cell? _ _ m5)).trans m5, (World.cell?_alloc_lt _ _ _ (World.block_lt_of_cell? _ _ m6)).trans m6⟩)
                (first
                | ((with_reducible refine step18_1 hS hE Hlen.out ?_ ?_ ?_); rfl; rfl; intro vb1 wn hS hk; (try (have hN := hk _ _ hN)); obtain ⟨m0, m1, m2, m3, m4, m5, m6⟩ := Hcells.out _ _ _ _ _ _ hS)
                | (have hN := hS.pend [.int .i64 a.kind, .int .i64 a.id, .int .i64 a.size, .string ka, .slice A1 a.stripes.length A1c, .slice A2 a.objects.length A2c, .slice A3 a.drives.length A3c]; have hS := hS.alloc (.cells #[.int .i64 a.kind, .int .i64 a.id, .int .i64 a.size, .string ka, .slice A1 a.stripes.length A1c, .slice A2 a.objects.length A2c, .slice A3 a.drives.length A3c] 51); (try (have hE := OwnB.alc hE (.cells #[.int .i64 a.kind, .int .i64 a.id, .int .i64 a.size, .string ka, .slice A1 a.stripes.length A1c, .slice A2 a.objects.length A2c, .slice A3 a.drives.length A3c] 51))); (with_reducible refine step18_1 hS hE Hlen.out ?_ ?_ ?_); rfl; rfl; intro vb1 wn hS hk; (try (have hN := hk _ _ hN)); obtain ⟨m0, m1, m2, m3, m4, m5, m6⟩ := Hcells.out _ _ _ _ _ _ hS)
                | ((with_reducible refine step18_2 hS hN F8.out F4.out F5.out ?_ ?_ ?_); rfl; rfl; intro vo1 wn hS hk; (try (have hE := hk _ _ _ hE)); obtain ⟨m0, m1, m2, m3, m4, m5, m6⟩ := Hcells.out _ _ _ _ _ _ hS)
                | (have hN := hS.pend [.int .i64 a.kind, .int .i64 a.id, .int .i64 a.size, .string ka, .slice A1 a.stripes.length A1c, .slice A2 a.objects.length A2c, .slice A3 a.drives.length A3c]; have hS := hS.alloc (.cells #[.int .i64 a.kind, .int .i64 a.id, .int .i64 a.size, .string ka, .slice A1 a.stripes.length A1c, .slice A2 a.objects.length A2c, .slice A3 a.drives.length A3c] 51); (try (have hE := OwnB.alc hE (.cells #[.int .i64 a.kind, .int .i64 a.id, .int .i64 a.size, .string ka, .slice A1 a.stripes.length A1c, .slice A2 a.objects.length A2c, .slice A3 a.drives.length A3c] 51))); (with_reducible refine step18_2 hS hN F8.out F4.out F5.out ?_ ?_ ?_); rfl; rfl; intro vo1 wn hS hk; (try (have hE := hk _ _ _ hE)); obtain ⟨m0, m1, m2, m3, m4, m5, m6⟩ := Hcells.out _ _ _ _ _ _ hS)
                | ((with_reducible refine step18_call hS Try.func36 ?_ ?_ (Hent.out _ (hS.src Hsrc.out)) ?_ ?_); kernel_rfl; kernel_rfl; rfl; intro NA nc wn hS hE hk; (try (have hN := hk _ _ hN)); obtain ⟨m0, m1, m2, m3, m4, m5, m6⟩ := Hcells.out _ _ _ _ _ _ hS)
                | (have hN : ((w6.alloc (.cells #[.int .i64 a.kind, .int .i64 a.id, .int .i64 a.size, .string ka, .slice A1 a.stripes.length A1c, .slice A2 a.objects.length A2c, .slice A3 a.drives.length A3c] 51)).drew).heap[w6.drew.heap.size]? = some (.cells ([.int .i64 a.kind, .int .i64 a.id, .int .i64 a.size, .string ka, .slice A1 a.stripes.length A1c, .slice A2 a.objects.length A2c, .slice A3 a.drives.length A3c] : List Value).toArray 51 (0, 0)) := hS.pend [.int .i64 a.kind, .int .i64 a.id, .int .i64 a.size, .string ka, .slice A1 a.stripes.length A1c, .slice A2 a.objects.length A2c, .slice A3 a.drives.length A3c]; have hS : R18 _ _ _ _ ((w6.alloc (.cells #[.int .i64 a.kind, .int .i64 a.id, .int .i64 a.size, .string ka, .slice A1 a.stripes.length A1c, .slice A2 a.objects.length A2c, .slice A3 a.drives.length A3c] 51)).drew) _ _ _ _ _ := hS.alloc (.cells #[.int .i64 a.kind, .int .i64 a.id, .int .i64 a.size, .string ka, .slice A1 a.stripes.length A1c, .slice A2 a.objects.length A2c, .slice A3 a.drives.length A3c] 51); (with_reducible refine step18_call hS Try.func36 ?_ ?_ (Hent.out _ (hS.src Hsrc.out)) ?_ ?_); kernel_rfl; kernel_rfl; rfl; intro NA nc wn hS hE hk; (try (have hN := hk _ _ hN)); obtain ⟨m0, m1, m2, m3, m4, m5, m6⟩ := Hcells.out _ _ _ _ _ _ hS)
                | fail "no arm")
              all_goals
                go_wp2_with fail
                go_roundw
                case rel =>
                  have hee : ents (acc ++ [a]) = en ++ ent a := by rw [ents_append, Hen.out, show ents [a] = ent a from by rw [ents_cons]; simp [ents]]
                  have hbk : Below w4.heap.size w6 wn := ⟨hS.kept.os, hS.kept.tape, hS.kept.output, hS.kept.size, fun j hj => hS.kept.block j (by omega) (HLow.out j hj).1 (HLow.out j hj).2⟩
                  have hbr7 : Below gp w2 wn := hbr6.trans (hbk.mono (by omega))
                  have hB7 : Below w.heap.size w wn := hB2.trans (hbr7.mono (by omega))
                  have hok : OkR a := (roomE_inv Hmm.out).1
                  refine ⟨k + 1, acc ++ [a], vs ++ [.int .i64 a.kind, .int .i64 a.id, .int .i64 a.size, .string ka, .slice A1 a.stripes.length A1c, .slice A2 a.objects.length A2c, .slice A3 a.drives.length A3c], by omega, by simp; omega, by go_num, by rw [hee]; exact hS.ob, by rw [List.length_append]; exact hS.oo, RowsOf.append (R := RecVal wn (· < w.heap.size)) (Hrows.out.mono fun _ _ h => h.keep (fun j hj hp => (hB7.block j hp).trans (hBr.block j hp).symm)) (RowsOf.one (Hra.out.below hB7)),
                    Lib.hid (Hwal6.out.turn hS.kept hS.nb hS.no Hgv.out Hgo.out), hbr7, by have := hS.kept.size; omega, Lib.hid fun r hr => ?_, by rw [hee]; have := Hlen.out; rw [List.length_append]; exact this⟩
                  rcases List.mem_append.1 hr with hr | hr
                  · exact hacc.out r hr
                  · rw [List.mem_singleton] at hr; subst hr; exact hok
                case measure => simp [intOf]; omega
        · obtain rfl : k = l.length := by omega
          have hlg : WalAt wr q gp (Pgq gp q) (lg acc) := ⟨hwal.out.1.imp fun k _ hp => ⟨hp.1, hp.2.1⟩, hwal.out.2⟩
          obtain ⟨en, hen⟩ : ∃ en, ents acc = en := ⟨_, rfl⟩
          have ht0 : TapeAt wr gp (Pgq gp q) (cleanT en) := hen ▸ hlg.1
          rw [hen] at hlv h16 hob
          rw [hen]
          have Hr0 := Lib.hid (read0_clean wr gp _ en ht0 (by omega))
          have Hen := Lib.hid hen; have Hlg := Lib.hid hlg; have Ht0 := Lib.hid ht0
          have Hob := Lib.hid hob; have Hoo := Lib.hid hoo; have Hrows := Lib.hid hrows
          clear hen hlg ht0 hob hoo hrows hwal
          go_wp2_with fail
          refine Hr0.out.mono ?_
          rintro e w5 ⟨y5, rfl, hown5, hb5⟩
          obtain ⟨C5, c5, rfl, hlc5, -, -⟩ := hown5.form
          have hs5 := hb5.size
          have ht5 := Ht0.out.keep (hb5.block gp (by omega)) fun k hk _ => hb5.block k hk
          have Hr1 := Lib.hid (read1_clean w5 gp _ en ht5 (by omega))
          have Hown5 := Lib.hid hown5; have Ht5 := Lib.hid ht5
          clear hown5 ht5
          go_wp2_with fail
          refine Hr1.out.mono ?_
          rintro e w6 ⟨y6, rfl, hown6, hb6⟩
          obtain ⟨D6, d6, rfl, hld6, -, -⟩ := hown6.form
          have hs6 := hb6.size
          have hb56 : Below wr.heap.size wr w6 := hb5.trans (hb6.mono hs5)
          have hop := open_clean w6 gp (Pgq gp q) acc (Hen.out ▸ Ht5.out.keep (hb6.block gp (by omega)) fun k hk _ => hb6.block k hk) (fun k hk => ⟨by omega, by omega⟩) (fun k hk => hk.1) hacc.out (by rw [Hen.out]; omega)
          have Hop := Lib.hid hop; have Hown6 := Lib.hid hown6
          clear hop hown6
          go_wp2_with fail
          refine Hop.out.mono ?_
          rintro e w7 ⟨q7, y7, vs7, rfl, hgr7, hq7, hq72, hwal7, hown7, hrows7⟩
          obtain ⟨X, xc, rfl, hxc, hrx⟩ := recs_of_own hown7 hrows7
          have hs7 := hgr7.size
          have htw : Two gp q w6 w7 := Two.of_g hgr7
          have hl7 : WalAt w7 q gp (fun k => Pgq gp q k ∧ k ≠ q7) (lg acc) := ⟨hwal7.1, (hgr7.block q (by omega) (by simp; omega)).trans ((hb56.block q (by omega)).trans Hlg.out.2)⟩
          have hB7 : Below gp w2 w7 := (hbr.trans (hb56.mono (by omega))).trans (below_grown hgr7 (Nat.le_refl _) (by omega))
          have hy7 : OwnB w7 wr.heap.size (.slice C5 en.length c5) en := owns_two (OwnB.below Hown5.out hb6) htw (by omega) (by omega)
          have hz7 : OwnB w7 w5.heap.size (.slice D6 en.length d6) en := owns_two Hown6.out htw (by omega) (by omega)
          have hv7 : OwnB w7 w4.heap.size (.slice Av en.length cv) en := owns_two (OwnB.below Hob.out hb56) htw (by omega) (by omega)
          have ho7 : w7.ownsRow w4.heap.size 51 7 (.slice Oo acc.length oc) acc.length vs := owns_two (owns_below Hoo.out hb56) htw (by omega) (by omega)
          have hrec7 : RowsOf (RecVal w7 (· < w.heap.size)) acc vs := Hrows.out.mono fun _ _ h => h.keep fun j hj hp => ((hB2.trans (hB7.mono (by omega))).block j hp).trans (hBr.block j hp).symm
          obtain ⟨Oo', oc', hoo', -, hrs⟩ := recs_of_own2 ho7 hrec7
          injection hoo' with hoo1 hoo2 hoo3
          subst hoo1
          subst hoo3
          have hq1 : ∀ j, Calls Try.prog 23 #[.slice C5 en.length c5, .slice Av en.length cv] (w7.drewN j) fun e w' => e = .returned (.bool true) ∧ ∃ n, w' = w7.drewN n := fun j =>
            (same_any C5 Av c5 cv (w7.drewN j) en en (by omega) (by omega) ((OwnB.rvb hy7).rv.rb.drewN j) ((OwnB.rvb hv7).rv.rb.drewN j)).mono fun e w' ⟨h1, n, h2⟩ => ⟨by rw [h1, beq_self_eq_true], j + n, by rw [h2, World.drewN_drewN]⟩
          have hq2 : ∀ j, Calls Try.prog 23 #[.slice D6 en.length d6, .slice Av en.length cv] (w7.drewN j) fun e w' => e = .returned (.bool true) ∧ ∃ n, w' = w7.drewN n := fun j =>
            (same_any D6 Av d6 cv (w7.drewN j) en en (by omega) (by omega) ((OwnB.rvb hz7).rv.rb.drewN j) ((OwnB.rvb hv7).rv.rb.drewN j)).mono fun e w' ⟨h1, n, h2⟩ => ⟨by rw [h1, beq_self_eq_true], j + n, by rw [h2, World.drewN_drewN]⟩
          have hrs3 : ∀ j, Calls Try.prog 30 #[.slice X acc.length xc, .slice Oo acc.length oc] (w7.drewN j) (TruePost w7) := fun j =>
            (same_true X Oo xc oc (w7.drewN j) acc (by omega) hxc hoc hacc.out (RRecs.imp hrx fun _ hk _ => hk) hrs).mono fun e w' ⟨h1, h2⟩ => ⟨h1, ⟨h2.os, h2.tape, h2.output, h2.size, h2.block⟩⟩
          have Hq1 := Lib.hid hq1; have Hq2 := Lib.hid hq2; have Hrs3 := Lib.hid hrs3; have Hl7 := Lib.hid hl7
          clear hq1 hq2 hrs3 hl7 hy7 hz7 hv7 ho7 hrec7 hrs hrx hown7 hrows7 hwal7 htw hoo2
          go_wp2_with fail
          refine (Hq1.out 0).mono ?_
          rintro e w8 ⟨rfl, n8, rfl⟩
          go_wp2_with fail
          refine (Hq2.out n8).mono ?_
          rintro e w8 ⟨rfl, n9, rfl⟩
          go_wp2_with fail
          refine (Hrs3.out n9).mono ?_
          rintro e w8 ⟨rfl, hb8⟩
          have hs8 := hb8.size
          have hB8 : Below gp w2 w8 := hB7.trans (hb8.mono (by omega))
          have hl8 := Hl7.out.below hb8
          have hsz8 := size_clean w8 q gp _ acc hl8
          rw [Hen.out] at hsz8
          have Hsz8 := Lib.hid hsz8; have Hl8 := Lib.hid hl8
          clear hsz8 hl8
          go_wp2_with fail
          refine Hsz8.out.mono ?_
          rintro e w9 ⟨rfl, rfl⟩
          have hm8 := (hB8.block _ hwg).trans Hm2.out
          have c0 : w8.cell? ⟨w.heap.size, 0, none⟩ = some (.int .i64 ch.kind) := blk_cell hm8 0
          have c1 : w8.cell? ⟨w.heap.size, 1, none⟩ = some (.int .i64 ch.id) := blk_cell hm8 1
          have c2 : w8.cell? ⟨w.heap.size, 2, none⟩ = some (.int .i64 ch.size) := blk_cell hm8 2
          have c3 : w8.cell? ⟨w.heap.size, 3, none⟩ = some (.string kc) := blk_cell hm8 3
          have c4 : w8.cell? ⟨w.heap.size, 4, none⟩ = some (.slice K1 ch.stripes.length K1c) := blk_cell hm8 4
          have c5 : w8.cell? ⟨w.heap.size, 5, none⟩ = some (.slice K2 ch.objects.length K2c) := blk_cell hm8 5
          have c6 : w8.cell? ⟨w.heap.size, 6, none⟩ = some (.slice K3 ch.drives.length K3c) := blk_cell hm8 6
          have hBw8 : Below w.heap.size w w8 := hB2.trans (hB8.mono (by omega))
          obtain ⟨hroom, hmax, hkeys⟩ := Hcm.out.bounds
          have henc := refEncode_any w8 ch [.int .i64 ch.kind, .int .i64 ch.id, .int .i64 ch.size, .string kc, .slice K1 ch.stripes.length K1c, .slice K2 ch.objects.length K2c, .slice K3 ch.drives.length K3c] ((Hc.out.below hBw8).imp fun k hk _ => hk) hmax hkeys
          have Henc := Lib.hid henc; have Hroom := Lib.hid hroom
          clear henc hroom hmax hkeys hm8
          go_wp2_with fail
          refine Henc.out.mono ?_
          rintro e w9 ⟨hb9, hp⟩
          have hs9 := hb9.size
          have hB9 : Below gp w2 w9 := hB8.trans (hb9.mono (by omega))
          have hBw9 : Below w.heap.size w w9 := hB2.trans (hB9.mono (by omega))
          have hm9 := (hB9.block _ hwg).trans Hm2.out
          clear c0 c1 c2 c3 c4 c5 c6
          have c0 : w9.cell? ⟨w.heap.size, 0, none⟩ = some (.int .i64 ch.kind) := blk_cell hm9 0
          have c1 : w9.cell? ⟨w.heap.size, 1, none⟩ = some (.int .i64 ch.id) := blk_cell hm9 1
          have c2 : w9.cell? ⟨w.heap.size, 2, none⟩ = some (.int .i64 ch.size) := blk_cell hm9 2
          have c3 : w9.cell? ⟨w.heap.size, 3, none⟩ = some (.string kc) := blk_cell hm9 3
          have c4 : w9.cell? ⟨w.heap.size, 4, none⟩ = some (.slice K1 ch.stripes.length K1c) := blk_cell hm9 4
          have c5 : w9.cell? ⟨w.heap.size, 5, none⟩ = some (.slice K2 ch.objects.length K2c) := blk_cell hm9 5
          have c6 : w9.cell? ⟨w.heap.size, 6, none⟩ = some (.slice K3 ch.drives.length K3c) := blk_cell hm9 6
          have hl9 := Hl8.out.below hb9
          have hrc9 : RecVal w9 (· < w9.heap.size) ch [.int .i64 ch.kind, .int .i64 ch.id, .int .i64 ch.size, .string kc, .slice K1 ch.stripes.length K1c, .slice K2 ch.objects.length K2c, .slice K3 ch.drives.length K3c] := (Hc.out.below hBw9).imp fun k hk _ => hk
          have Hl9 := Lib.hid hl9; have Hrc9 := Lib.hid hrc9
          clear hl9 hrc9 hm9
          rcases hp with ⟨hbad, rfl⟩ | ⟨hbad, h8, rfl⟩ | ⟨hbad, h8, v9, rfl, hown9⟩
          · have hmm := (want_of (r := ch) (n := 0)).1 hbad
            have hck := check_no w9 q gp (fun k => Pgq gp q k ∧ k ≠ q7) acc Hl9.out (fun k hk => ⟨⟨by omega, by omega⟩, by omega⟩) (fun k hk => hk.1) (by omega) ch Hroom.out [.int .i64 ch.kind, .int .i64 ch.id, .int .i64 ch.size, .string kc, .slice K1 ch.stripes.length K1c, .slice K2 ch.objects.length K2c, .slice K3 ch.drives.length K3c] Hrc9.out (by rw [hmm]; decide) (by rw [Hen.out]; exact h16)
            rw [hmm] at hck
            have Hck := Lib.hid hck
            clear hck hmm
            go_wp2_with fail
            refine Hck.out.mono ?_
            rintro e w10 ⟨rfl, hl10, htw10⟩
            have hs10 := htw10.size
            have hB10 : Below gp w2 w10 := hB9.trans (htw10.below (Nat.le_refl _) (by omega) (by omega))
            have Hl10 := Lib.hid hl10
            clear hl10 htw10
            go_wp2_with fail
            refine (answers11_any _).mono ?_
            rintro e w11 ⟨rfl, hb11⟩
            have hs11 := hb11.size
            have hB11 : Below gp w2 w11 := hB10.trans (hb11.mono (by omega))
            have hsz := size_clean w11 q gp _ acc (Hl10.out.below hb11)
            rw [Hen.out] at hsz
            have Hsz := Lib.hid hsz
            clear hsz
            go_wp2_with fail
            refine Hsz.out.mono ?_
            rintro e w12 ⟨rfl, rfl⟩
            go_wp2_with fail
            go_ret
            exact ⟨rfl, hB2.trans (hB11.mono (by omega))⟩
          · have hmm := (want_of (r := ch) (n := 0)).2.1 hbad h8
            have hck := check_no w9 q gp (fun k => Pgq gp q k ∧ k ≠ q7) acc Hl9.out (fun k hk => ⟨⟨by omega, by omega⟩, by omega⟩) (fun k hk => hk.1) (by omega) ch Hroom.out [.int .i64 ch.kind, .int .i64 ch.id, .int .i64 ch.size, .string kc, .slice K1 ch.stripes.length K1c, .slice K2 ch.objects.length K2c, .slice K3 ch.drives.length K3c] Hrc9.out (by rw [hmm]; decide) (by rw [Hen.out]; exact h16)
            rw [hmm] at hck
            have Hck := Lib.hid hck
            clear hck hmm
            go_wp2_with fail
            refine Hck.out.mono ?_
            rintro e w10 ⟨rfl, hl10, htw10⟩
            have hs10 := htw10.size
            have hB10 : Below gp w2 w10 := hB9.trans (htw10.below (Nat.le_refl _) (by omega) (by omega))
            have Hl10 := Lib.hid hl10
            clear hl10 htw10
            go_wp2_with fail
            refine (answers11_any _).mono ?_
            rintro e w11 ⟨rfl, hb11⟩
            have hs11 := hb11.size
            have hB11 : Below gp w2 w11 := hB10.trans (hb11.mono (by omega))
            have hsz := size_clean w11 q gp _ acc (Hl10.out.below hb11)
            rw [Hen.out] at hsz
            have Hsz := Lib.hid hsz
            clear hsz
            go_wp2_with fail
            refine Hsz.out.mono ?_
            rintro e w12 ⟨rfl, rfl⟩
            go_wp2_with fail
            go_ret
            exact ⟨rfl, hB2.trans (hB11.mono (by omega))⟩
          · have hmm := (want_of (r := ch) (n := 0)).2.2.2 hbad h8 (by omega)
            have hok : OkR ch := (roomE_inv hmm).1
            obtain ⟨V9, vc9, rfl, -, -, -⟩ := hown9.form
            have Hck := Lib.hid (check_clean w9 q gp (fun k => Pgq gp q k ∧ k ≠ q7) acc Hl9.out (fun k hk => ⟨⟨by omega, by omega⟩, by omega⟩) (fun k hk => hk.1) (by omega) ch Hroom.out [.int .i64 ch.kind, .int .i64 ch.id, .int .i64 ch.size, .string kc, .slice K1 ch.stripes.length K1c, .slice K2 ch.objects.length K2c, .slice K3 ch.drives.length K3c] Hrc9.out hmm (by rw [Hen.out]; exact h16))
            have Hel := Lib.hid (show (ents [ch]).length = 8 + (encRec ch).length by rw [ents_cons, List.length_append, ent_length]; rfl)
            have Hok := Lib.hid hok
            clear hmm hok hown9
            go_wp2_with fail
            refine Hck.out.mono ?_
            rintro e w10 ⟨rfl, hl10, htw10⟩
            have hs10 := htw10.size
            have hB10 : Below gp w2 w10 := hB9.trans (htw10.below (Nat.le_refl _) (by omega) (by omega))
            have Hop := Lib.hid (open_clean w10 gp (fun k => Pgq gp q k ∧ k ≠ q7) [ch] hl10.1 (fun k hk => ⟨⟨by omega, by omega⟩, by omega⟩) (fun k hk => hk.1.1) (by intro r hr; rw [List.mem_singleton] at hr; subst hr; exact Hok.out) (by rw [Hel.out]; omega))
            have Hl10 := Lib.hid hl10
            clear hl10 htw10
            go_wp2_with fail
            refine Hop.out.mono ?_
            rintro e w11 ⟨q11, y11, vs11, rfl, hgr11, hq11, hq112, hwal11, hown11, hrows11⟩
            obtain ⟨Y, yc, rfl, hyc, hry⟩ := recs_of_own hown11 hrows11
            have hs11 := hgr11.size
            have hB11 : Below gp w2 w11 := hB10.trans (below_grown hgr11 (Nat.le_refl _) (by omega))
            have hl11 : WalAt w11 q gp (fun k => (Pgq gp q k ∧ k ≠ q7) ∧ k ≠ q11) (lg [ch]) := ⟨hwal11.1, (hgr11.block q (by omega) (by simp; omega)).trans Hl10.out.2⟩
            have Hl11 := Lib.hid hl11; have Hry := Lib.hid hry
            clear hl11 hry hown11 hrows11 hwal11
            go_wp2_with fail
            refine (answers11_any _).mono ?_
            rintro e w12 ⟨rfl, hb12⟩
            have hs12 := hb12.size
            have hB12 : Below gp w2 w12 := hB11.trans (hb12.mono (by omega))
            have hBw12 : Below w.heap.size w w12 := hB2.trans (hB12.mono (by omega))
            have hm12 := (hB12.block _ hwg).trans Hm2.out
            clear c0 c1 c2 c3 c4 c5 c6
            have c0 : w12.cell? ⟨w.heap.size, 0, none⟩ = some (.int .i64 ch.kind) := blk_cell hm12 0
            have c1 : w12.cell? ⟨w.heap.size, 1, none⟩ = some (.int .i64 ch.id) := blk_cell hm12 1
            have c2 : w12.cell? ⟨w.heap.size, 2, none⟩ = some (.int .i64 ch.size) := blk_cell hm12 2
            have c3 : w12.cell? ⟨w.heap.size, 3, none⟩ = some (.string kc) := blk_cell hm12 3
            have c4 : w12.cell? ⟨w.heap.size, 4, none⟩ = some (.slice K1 ch.stripes.length K1c) := blk_cell hm12 4
            have c5 : w12.cell? ⟨w.heap.size, 5, none⟩ = some (.slice K2 ch.objects.length K2c) := blk_cell hm12 5
            have c6 : w12.cell? ⟨w.heap.size, 6, none⟩ = some (.slice K3 ch.drives.length K3c) := blk_cell hm12 6
            obtain ⟨w13, hw13⟩ : ∃ w13, w12.alloc (.cells #[.int .i64 ch.kind, .int .i64 ch.id, .int .i64 ch.size, .string kc, .slice K1 ch.stripes.length K1c, .slice K2 ch.objects.length K2c, .slice K3 ch.drives.length K3c] 51) = w13 := ⟨_, rfl⟩
            have hb13 : Below w12.heap.size w12 w13 := hw13 ▸ (Below.refl _ w12).alloc (Nat.le_refl _) _
            have hn13 : w13.heap[w12.heap.size]? = some (.cells ([.int .i64 ch.kind, .int .i64 ch.id, .int .i64 ch.size, .string kc, .slice K1 ch.stripes.length K1c, .slice K2 ch.objects.length K2c, .slice K3 ch.drives.length K3c] : List Value).toArray 51 (0, 0)) := hw13 ▸ heap_alloc_new w12 _
            have hone : RRecs w13 (· < w13.heap.size) (some ⟨w12.heap.size, 0, none⟩) [ch] := ⟨[.int .i64 ch.kind, .int .i64 ch.id, .int .i64 ch.size, .string kc, .slice K1 ch.stripes.length K1c, .slice K2 ch.objects.length K2c, .slice K3 ch.drives.length K3c], RowsOf.one ((Hc.out.below (hBw12.trans (hb13.mono hBw12.size))).imp fun k hk _ => hk), rvb_of_blk hn13⟩
            have hbk : RRecs w13 (· < w13.heap.size) Y [ch] := RRecs.imp (Hry.out.same (SameT.of_below (hb12.trans (hb13.mono hs12)))) fun _ hk _ => hk
            have Hsm := Lib.hid (same_true Y (some ⟨w12.heap.size, 0, none⟩) yc 1 w13 [ch] (by simp) hyc (by simp) (by intro r hr; rw [List.mem_singleton] at hr; subst hr; exact Hok.out) hbk hone)
            have Hw13 := Lib.hid hw13
            have hl13 := (Hl11.out.below hb12).below hb13
            have Hl13 := Lib.hid hl13
            clear hw13 hn13 hone hbk hl13 hm12
            go_wp2_with fail
            rw [Hw13.out]
            refine Hsm.out.mono ?_
            rintro e w14 ⟨rfl, hb14⟩
            have hsz := size_clean w14 q gp _ [ch] (Hl13.out.below hb14)
            rw [Hel.out] at hsz
            have Hsz := Lib.hid hsz
            clear hsz
            go_wp2_with fail
            refine Hsz.out.mono ?_
            rintro e w15 ⟨rfl, rfl⟩
            have hs13 := hb13.size
            go_wp2_with fail
            go_ret
            exact ⟨by first | rfl | (congr 1; congr 1; simp; omega), hBw12.trans ((hb13.trans (hb14.mono hs13)).mono hBw12.size)⟩
end Go.Proofs.Ytmleldgohfcdbaa
