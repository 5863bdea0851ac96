/- law11.same: are lists of records the same? -/
import Derived.Test.YtmleldgohfcdbaaRefRec
import Derived.Deep.RegionHeld3
namespace Go.Proofs.Ytmleldgohfcdbaa
set_option linter.unusedVariables false
set_option linter.unusedSimpArgs false
open Go.RowKit
theorem RRecs.at_ {w : World} {P : Nat → Prop} {A : Option Addr} {l : List PRec} (h : RRecs w P A l) {k : Nat} (hk : k < l.length) :
    ∃ ad C1 c1 C2 c2 C3 c3, A = some ad ∧ (w.cell? (ad.add (k * 7)) = some (.int .i64 l[k].kind) ∧ w.cell? ⟨(ad.add (k * 7)).block, (ad.add (k * 7)).off + 1, none⟩ = some (.int .i64 l[k].id) ∧ w.cell? ⟨(ad.add (k * 7)).block, (ad.add (k * 7)).off + 2, none⟩ = some (.int .i64 l[k].size) ∧ w.cell? ⟨(ad.add (k * 7)).block, (ad.add (k * 7)).off + 3, none⟩ = some (sv l[k].key) ∧ w.cell? ⟨(ad.add (k * 7)).block, (ad.add (k * 7)).off + 4, none⟩ = some (.slice C1 l[k].stripes.length c1) ∧ w.cell? ⟨(ad.add (k * 7)).block, (ad.add (k * 7)).off + 5, none⟩ = some (.slice C2 l[k].objects.length c2) ∧ w.cell? ⟨(ad.add (k * 7)).block, (ad.add (k * 7)).off + 6, none⟩ = some (.slice C3 l[k].drives.length c3)) ∧ RecVal w P l[k] [.int .i64 l[k].kind, .int .i64 l[k].id, .int .i64 l[k].size, sv l[k].key, .slice C1 l[k].stripes.length c1, .slice C2 l[k].objects.length c2, .slice C3 l[k].drives.length c3] := by
  obtain ⟨vs, h1, h2⟩ := h
  have hn : ∀ a x, RecVal w P a x → x.length = 7 := by rintro a x ⟨_, _, _, _, _, _, rfl, _⟩; rfl
  obtain ⟨x, hrec, hg⟩ := h1.get hn k hk
  obtain ⟨C1, c1, C2, c2, C3, c3, rfl, -, -, -, -, -, -⟩ := id hrec
  have g0 := hg 0 (by omega)
  have g1 := hg 1 (by omega)
  have g2 := hg 2 (by omega)
  have g3 := hg 3 (by omega)
  have g4 := hg 4 (by omega)
  have g5 := hg 5 (by omega)
  have g6 := hg 6 (by omega)
  obtain ⟨ad, hA, _⟩ := h2 (k * 7 + 0) (List.getElem?_eq_some_iff.1 g0).1
  exact ⟨ad, C1, c1, C2, c2, C3, c3, hA, ⟨h2.some_at hA g0, add_lit_of (h2.some_at hA g1), add_lit_of (h2.some_at hA g2), add_lit_of (h2.some_at hA g3), add_lit_of (h2.some_at hA g4), add_lit_of (h2.some_at hA g5), add_lit_of (h2.some_at hA g6)⟩, hrec⟩
set_option maxRecDepth 100000 in
set_option maxHeartbeats 2000000 in
theorem lawSame_any (A B : Option Addr) (c d : Nat) (w : World) (l m : List PRec) (hn : l.length ≤ 140737488355328) (hm : m.length ≤ 140737488355328) (hlc : l.length ≤ c) (hmd : m.length ≤ d) (hlM : ∀ r ∈ l, LenR r) (hmM : ∀ r ∈ m, LenR r)
    (hr : RRecs w (· < w.heap.size) A l) (hs : RRecs w (· < w.heap.size) B m) :
    Calls Try.prog 30 #[.slice A l.length c, .slice B m.length d] w (SamePost w l m) := by
  by_cases hlen : l.length = m.length
  · have hl0 : ((l.length : Int) != (m.length : Int)) = false := by rw [bne_eq_false_iff_eq]; omega
    have Hlen := Lib.hid hlen
    have HlM := Lib.hid hlM; have HmM := Lib.hid hmM
    have Hr := Lib.hid hr; have Hs := Lib.hid hs
    clear hlen hlM hmM hr hs
    go_enter Try.func30, Try.ntmps30
    go_wp2
    go_loopw [5] (fun i wr => ∃ k : Nat, k ≤ l.length ∧ i = .int .i64 k ∧ Below w.heap.size w wr ∧ l.take k = m.take k) (fun i _ => l.length - (intOf i).toNat)
    case atStart => exact ⟨0, by omega, rfl, Below.refl _ _, rfl⟩
    case round =>
      obtain ⟨k, hk, rfl, hbr, heq⟩ := hrel
      have Heq := Lib.hid heq; have Hbr := Lib.hid hbr
      clear heq hbr
      by_cases hlt : k < l.length
      · have hlt2 : k < m.length := by have := Hlen.out; omega
        have hrw := (Hr.out.below Hbr.out)
        have hsw := (Hs.out.below Hbr.out)
        obtain ⟨ad, A1, A1c, A2, A2c, A3, A3c, rfl, hca, hra⟩ := hrw.at_ hlt
        obtain ⟨ad2, B1, B1c, B2, B2c, B3, B3c, rfl, hcb, hrb⟩ := hsw.at_ hlt2
        have hla := HlM.out _ (List.getElem_mem hlt)
        have hlb := HmM.out _ (List.getElem_mem hlt2)
        obtain ⟨a, hlk⟩ : ∃ a, l[k] = a := ⟨_, rfl⟩
        obtain ⟨b, hmk⟩ : ∃ b, m[k] = b := ⟨_, rfl⟩
        rw [hlk] at hca hra hla
        rw [hmk] at hcb hrb hlb
        obtain ⟨ka, hsa, -⟩ := str_name a.key
        obtain ⟨kb, hsb, -⟩ := str_name b.key
        rw [hsa] at hca hra
        rw [hsb] at hcb hrb
        have hcall := refSame_any wr.drew (· < w.heap.size) (· < w.heap.size) a b [.int .i64 a.kind, .int .i64 a.id, .int .i64 a.size, .string ka, .slice A1 a.stripes.length A1c, .slice A2 a.objects.length A2c, .slice A3 a.drives.length A3c] [.int .i64 b.kind, .int .i64 b.id, .int .i64 b.size, .string kb, .slice B1 b.stripes.length B1c, .slice B2 b.objects.length B2c, .slice B3 b.drives.length B3c] hra hrb hla hlb
        obtain ⟨m0, m1, m2, m3, m4, m5, m6⟩ := hca
        obtain ⟨n0, n1, n2, n3, n4, n5, n6⟩ := hcb
        have i1 : (0 : Int) ≤ (k : Int) := by omega
        have i2 : (k : Int) < (l.length : Int) := by omega
        have i3 : (k : Int) < (m.length : Int) := by omega
        have Hlk := Lib.hid hlk; have Hmk := Lib.hid hmk
        clear hlk hmk hrw hsw hra hrb hla hlb hsa hsb
        by_cases he : a = b
        · have hcall2 : Calls Try.prog 51 #[.agg (List.toArray [.int .i64 a.kind, .int .i64 a.id, .int .i64 a.size, .string ka, .slice A1 a.stripes.length A1c, .slice A2 a.objects.length A2c, .slice A3 a.drives.length A3c]), .agg (List.toArray [.int .i64 b.kind, .int .i64 b.id, .int .i64 b.size, .string kb, .slice B1 b.stripes.length B1c, .slice B2 b.objects.length B2c, .slice B3 b.drives.length B3c])] wr.drew fun e w' => e = .returned (.bool true) ∧ Below wr.heap.size wr w' := hcall.mono fun e w' ⟨h1, h2⟩ => ⟨by rw [h1, eqB_true he], ⟨h2.os, h2.tape, h2.output, h2.size, h2.block⟩⟩
          have Hcall := Lib.hid hcall2; have He := Lib.hid he
          clear hcall hcall2 he
          go_wp2
          go_region_held3 (fun w' => (w'.cell? (ad.add (k * 7)) = some (.int .i64 a.kind) ∧ w'.cell? ⟨(ad.add (k * 7)).block, (ad.add (k * 7)).off + 1, none⟩ = some (.int .i64 a.id) ∧ w'.cell? ⟨(ad.add (k * 7)).block, (ad.add (k * 7)).off + 2, none⟩ = some (.int .i64 a.size) ∧ w'.cell? ⟨(ad.add (k * 7)).block, (ad.add (k * 7)).off + 3, none⟩ = some (.string ka) ∧ w'.cell? ⟨(ad.add (k * 7)).block, (ad.add (k * 7)).off + 4, none⟩ = some (.slice A1 a.stripes.length A1c) ∧ w'.cell? ⟨(ad.add (k * 7)).block, (ad.add (k * 7)).off + 5, none⟩ = some (.slice A2 a.objects.length A2c) ∧ w'.cell? ⟨(ad.add (k * 7)).block, (ad.add (k * 7)).off + 6, none⟩ = some (.slice A3 a.drives.length A3c)) ∧ (w'.cell? (ad2.add (k * 7)) = some (.int .i64 b.kind) ∧ w'.cell? ⟨(ad2.add (k * 7)).block, (ad2.add (k * 7)).off + 1, none⟩ = some (.int .i64 b.id) ∧ w'.cell? ⟨(ad2.add (k * 7)).block, (ad2.add (k * 7)).off + 2, none⟩ = some (.int .i64 b.size) ∧ w'.cell? ⟨(ad2.add (k * 7)).block, (ad2.add (k * 7)).off + 3, none⟩ = some (.string kb) ∧ w'.cell? ⟨(ad2.add (k * 7)).block, (ad2.add (k * 7)).off + 4, none⟩ = some (.slice B1 b.stripes.length B1c) ∧ w'.cell? ⟨(ad2.add (k * 7)).block, (ad2.add (k * 7)).off + 5, none⟩ = some (.slice B2 b.objects.length B2c) ∧ w'.cell? ⟨(ad2.add (k * 7)).block, (ad2.add (k * 7)).off + 6, none⟩ = some (.slice B3 b.drives.length B3c))) (first
            | exact ⟨⟨m0, m1, m2, m3, m4, m5, m6⟩, ⟨n0, n1, n2, n3, n4, n5, n6⟩⟩
            | exact ⟨⟨m0', m1', m2', m3', m4', m5', m6'⟩, ⟨n0', n1', n2', n3', n4', n5', n6'⟩⟩)
            (first
            | (go_at_call 51; refine Hcall.out.mono ?_; rintro e w2 ⟨rfl, hb2⟩; have m0' := (hb2.cell (World.block_lt_of_cell? _ _ m0)).trans m0; have m1' := (hb2.cell (World.block_lt_of_cell? _ _ m1)).trans m1; have m2' := (hb2.cell (World.block_lt_of_cell? _ _ m2)).trans m2; have m3' := (hb2.cell (World.block_lt_of_cell? _ _ m3)).trans m3; have m4' := (hb2.cell (World.block_lt_of_cell? _ _ m4)).trans m4; have m5' := (hb2.cell (World.block_lt_of_cell? _ _ m5)).trans m5; have m6' := (hb2.cell (World.block_lt_of_cell? _ _ m6)).trans m6; have n0' := (hb2.cell (World.block_lt_of_cell? _ _ n0)).trans n0; have n1' := (hb2.cell (World.block_lt_of_cell? _ _ n1)).trans n1; have n2' := (hb2.cell (World.block_lt_of_cell? _ _ n2)).trans n2; have n3' := (hb2.cell (World.block_lt_of_cell? _ _ n3)).trans n3; have n4' := (hb2.cell (World.block_lt_of_cell? _ _ n4)).trans n4; have n5' := (hb2.cell (World.block_lt_of_cell? _ _ n5)).trans n5; have n6' := (hb2.cell (World.block_lt_of_cell? _ _ n6)).trans n6))
          go_wp2
          have hbr := Hbr.out
          exact ⟨⟨k + 1, by omega, by go_num, hbr.trans (hb2.mono hbr.size), by rw [List.take_succ_eq_append_getElem hlt, List.take_succ_eq_append_getElem hlt2, Heq.out, Hlk.out, Hmk.out, He.out]⟩, by simp [intOf]; omega⟩
        · have hcall2 : Calls Try.prog 51 #[.agg (List.toArray [.int .i64 a.kind, .int .i64 a.id, .int .i64 a.size, .string ka, .slice A1 a.stripes.length A1c, .slice A2 a.objects.length A2c, .slice A3 a.drives.length A3c]), .agg (List.toArray [.int .i64 b.kind, .int .i64 b.id, .int .i64 b.size, .string kb, .slice B1 b.stripes.length B1c, .slice B2 b.objects.length B2c, .slice B3 b.drives.length B3c])] wr.drew fun e w' => e = .returned (.bool false) ∧ Below wr.heap.size wr w' := hcall.mono fun e w' ⟨h1, h2⟩ => ⟨by rw [h1, eqB_false he], ⟨h2.os, h2.tape, h2.output, h2.size, h2.block⟩⟩
          have Hcall := Lib.hid hcall2
          have Hf := Lib.hid (eqB_false (ne_of_take hlt hlt2 (fun h => he (by rw [← Hlk.out, ← Hmk.out, h]))))
          clear hcall hcall2 he
          go_wp2
          go_region_held3 (fun w' => (w'.cell? (ad.add (k * 7)) = some (.int .i64 a.kind) ∧ w'.cell? ⟨(ad.add (k * 7)).block, (ad.add (k * 7)).off + 1, none⟩ = some (.int .i64 a.id) ∧ w'.cell? ⟨(ad.add (k * 7)).block, (ad.add (k * 7)).off + 2, none⟩ = some (.int .i64 a.size) ∧ w'.cell? ⟨(ad.add (k * 7)).block, (ad.add (k * 7)).off + 3, none⟩ = some (.string ka) ∧ w'.cell? ⟨(ad.add (k * 7)).block, (ad.add (k * 7)).off + 4, none⟩ = some (.slice A1 a.stripes.length A1c) ∧ w'.cell? ⟨(ad.add (k * 7)).block, (ad.add (k * 7)).off + 5, none⟩ = some (.slice A2 a.objects.length A2c) ∧ w'.cell? ⟨(ad.add (k * 7)).block, (ad.add (k * 7)).off + 6, none⟩ = some (.slice A3 a.drives.length A3c)) ∧ (w'.cell? (ad2.add (k * 7)) = some (.int .i64 b.kind) ∧ w'.cell? ⟨(ad2.add (k * 7)).block, (ad2.add (k * 7)).off + 1, none⟩ = some (.int .i64 b.id) ∧ w'.cell? ⟨(ad2.add (k * 7)).block, (ad2.add (k * 7)).off + 2, none⟩ = some (.int .i64 b.size) ∧ w'.cell? ⟨(ad2.add (k * 7)).block, (ad2.add (k * 7)).off + 3, none⟩ = some (.string kb) ∧ w'.cell? ⟨(ad2.add (k * 7)).block, (ad2.add (k * 7)).off + 4, none⟩ = some (.slice B1 b.stripes.length B1c) ∧ w'.cell? ⟨(ad2.add (k * 7)).block, (ad2.add (k * 7)).off + 5, none⟩ = some (.slice B2 b.objects.length B2c) ∧ w'.cell? ⟨(ad2.add (k * 7)).block, (ad2.add (k * 7)).off + 6, none⟩ = some (.slice B3 b.drives.length B3c))) (first
            | exact ⟨⟨m0, m1, m2, m3, m4, m5, m6⟩, ⟨n0, n1, n2, n3, n4, n5, n6⟩⟩
            | exact ⟨⟨m0', m1', m2', m3', m4', m5', m6'⟩, ⟨n0', n1', n2', n3', n4', n5', n6'⟩⟩)
            (first
            | (go_at_call 51; refine Hcall.out.mono ?_; rintro e w2 ⟨rfl, hb2⟩; have m0' := (hb2.cell (World.block_lt_of_cell? _ _ m0)).trans m0; have m1' := (hb2.cell (World.block_lt_of_cell? _ _ m1)).trans m1; have m2' := (hb2.cell (World.block_lt_of_cell? _ _ m2)).trans m2; have m3' := (hb2.cell (World.block_lt_of_cell? _ _ m3)).trans m3; have m4' := (hb2.cell (World.block_lt_of_cell? _ _ m4)).trans m4; have m5' := (hb2.cell (World.block_lt_of_cell? _ _ m5)).trans m5; have m6' := (hb2.cell (World.block_lt_of_cell? _ _ m6)).trans m6; have n0' := (hb2.cell (World.block_lt_of_cell? _ _ n0)).trans n0; have n1' := (hb2.cell (World.block_lt_of_cell? _ _ n1)).trans n1; have n2' := (hb2.cell (World.block_lt_of_cell? _ _ n2)).trans n2; have n3' := (hb2.cell (World.block_lt_of_cell? _ _ n3)).trans n3; have n4' := (hb2.cell (World.block_lt_of_cell? _ _ n4)).trans n4; have n5' := (hb2.cell (World.block_lt_of_cell? _ _ n5)).trans n5; have n6' := (hb2.cell (World.block_lt_of_cell? _ _ n6)).trans n6))
          go_wp2
          go_ret
          have hbr := Hbr.out
          unfold SamePost
          rw [Hf.out]
          exact ⟨rfl, hbr.trans (hb2.mono hbr.size)⟩
      · go_wp2
        go_ret
        have e : l = m := by
          have h := Heq.out
          have h2 := Hlen.out
          rwa [List.take_of_length_le (by omega), List.take_of_length_le (by omega)] at h
        unfold SamePost
        rw [eqB_true e]
        exact ⟨rfl, Hbr.out⟩
  · have hl0 : ((l.length : Int) != (m.length : Int)) = true := by rw [bne_iff_ne]; omega
    have hf : eqB l m = false := eqB_false (by rintro rfl; exact hlen rfl)
    have Hf := Lib.hid hf; clear hf
    go_enter Try.func30, Try.ntmps30
    go_wp2
    go_ret
    unfold SamePost
    rw [Hf.out]
    exact ⟨rfl, Below.refl _ _⟩
end Go.Proofs.Ytmleldgohfcdbaa
