/- rec.Encode: a record's bytes, or why not. -/
import Derived.Test.YtmleldgohfcdbaaWriter
namespace Go.Proofs.Ytmleldgohfcdbaa
set_option linter.unusedVariables false
set_option linter.unusedSimpArgs false
open Go.RowKit
/-- What Encode answers of a record. -/
def EncPost (w : World) (r : PRec) (e : Ending) (w' : World) : Prop :=
  Below w.heap.size w w' ∧
  ((badRec r = true ∧ e = .returned (.tuple #[.slice none 0 0, .int .i64 2])) ∨
   (badRec r = false ∧ 8192 < (encRec r).length ∧ e = .returned (.tuple #[.slice none 0 0, .int .i64 4])) ∨
   (badRec r = false ∧ (encRec r).length ≤ 8192 ∧ ∃ v, e = .returned (.tuple #[v, .int .i64 0]) ∧ OwnB w' w.heap.size v (encRec r)))
/-- How many there are of each, and that the bytes are not too many for the model's memory. -/
def Room (r : PRec) : Prop :=
  r.stripes.length ≤ 1000000000000 ∧ (∀ s ∈ r.stripes, s.locs.length ≤ 1000000000000) ∧ r.objects.length ≤ 1000000000000 ∧
  (∀ o ∈ r.objects, o.stripes.length ≤ 1000000000000 ∧ ∀ s ∈ o.stripes, s.locs.length ≤ 1000000000000) ∧ r.drives.length ≤ 1000000000000 ∧ (encRec r).length ≤ 100000000000000
theorem writer_setbad {w : World} {B g : Nat} {l : List UInt8} {bad : Bool} (h : Writer w B g l bad) (b' : Bool) :
    w.cell? ⟨g, 1, none⟩ = some (.bool bad) ∧ w.frozen? ⟨g, 1, none⟩ = false ∧ Writer (w.setCell ⟨g, 1, none⟩ (.bool b')) B g l b' ∧ WF B g w (w.setCell ⟨g, 1, none⟩ (.bool b')) := by
  obtain ⟨v, hblk, hown⟩ := h
  exact ⟨blk_cell hblk 1, blk_free hblk 1, ⟨v, blk_set hblk 1 _, hown.setCell (own_ne hown hblk (by decide))⟩, WF.setCell B w 1 _⟩
theorem writer_new (w : World) (B : Nat) : Writer (w.alloc (.cells #[.slice none 0 0, .bool false] 119)) B w.heap.size [] false :=
  ⟨.slice none 0 0, heap_alloc_new w _, OwnB.nil _ _⟩
set_option maxRecDepth 100000 in
set_option maxHeartbeats 1000000 in
theorem encode_aux (w : World) (r : PRec) (hroom : Room r) (A A2 A3 : Option Addr) (c d e0 : Nat) (hrs : RStripes w (· < w.heap.size) A r.stripes) (hro : RObjs w (· < w.heap.size) A2 r.objects) (hri : RI w (· < w.heap.size) A3 r.drives) (b' : Bool)
    (hcase : (badNum r.kind 5 = true ∧ b' = true) ∨ (badNum r.kind 5 = false ∧ r.kind < 1 ∧ b' = true) ∨ (badNum r.kind 5 = false ∧ 1 ≤ r.kind ∧ b' = false)) :
    Calls Try.prog 68 #[.agg #[.int .i64 r.kind, .int .i64 r.id, .int .i64 r.size, sv r.key, .slice A r.stripes.length c, .slice A2 r.objects.length d, .slice A3 r.drives.length e0]] w (EncPost w r) := by
  obtain ⟨hk1, hk2, hk3, hk4, hk5, hle⟩ := hroom
  have hbr : badRec r = (b' || badNum r.id 1073741824 || badNum r.size 1073741824 || badKey r.key || badStripes r.stripes || badNum r.objects.length 65535 || r.objects.any badObj || badInts r.drives) := by
    unfold badRec maxID
    rcases hcase with ⟨h1, rfl⟩ | ⟨h1, h2, rfl⟩ | ⟨h1, h2, rfl⟩
    · simp [h1]
    · simp [h1, h2]
    · simp [h1, show ¬ r.kind < 1 by omega]
  obtain ⟨q1, hq1⟩ : ∃ q, ([] : List UInt8) ++ be 1 (nat64 r.kind) = q := ⟨_, rfl⟩
  obtain ⟨q2, hq2⟩ : ∃ q, q1 ++ be 4 (nat64 r.id) = q := ⟨_, rfl⟩
  obtain ⟨q3, hq3⟩ : ∃ q, q2 ++ be 4 (nat64 r.size) = q := ⟨_, rfl⟩
  obtain ⟨q4, hq4⟩ : ∃ q, q3 ++ encKey r.key = q := ⟨_, rfl⟩
  obtain ⟨q5, hq5⟩ : ∃ q, q4 ++ encStripes r.stripes = q := ⟨_, rfl⟩
  obtain ⟨q6, hq6⟩ : ∃ q, q5 ++ be 2 (nat64 r.objects.length) = q := ⟨_, rfl⟩
  have hqe : encRec r = q6 ++ r.objects.flatMap encObj ++ encInts r.drives := by rw [← hq6, ← hq5, ← hq4, ← hq3, ← hq2, ← hq1]; simp [encRec, encW, List.append_assoc]
  have hl7 : (q6 ++ r.objects.flatMap encObj ++ encInts r.drives).length ≤ 100000000000000 := by rw [← hqe]; exact hle
  have hl6 : q6.length ≤ 100000000000000 := by simp only [List.length_append] at hl7; omega
  have hl5 : q5.length ≤ 100000000000000 := by rw [← hq6, List.length_append] at hl6; omega
  have hl4 : q4.length ≤ 100000000000000 := by rw [← hq5, List.length_append] at hl5; omega
  have hl3 : q3.length ≤ 100000000000000 := by rw [← hq4, List.length_append] at hl4; omega
  have hl2 : q2.length ≤ 100000000000000 := by rw [← hq3, List.length_append] at hl3; omega
  have hl1 : q1.length ≤ 100000000000000 := by rw [← hq2, List.length_append] at hl2; omega
  have Hq1 := Lib.hid hq1; have Hq2 := Lib.hid hq2; have Hq3 := Lib.hid hq3; have Hq4 := Lib.hid hq4; have Hq5 := Lib.hid hq5; have Hq6 := Lib.hid hq6; have Hqe := Lib.hid hqe; have Hbr := Lib.hid hbr
  clear hq1 hq2 hq3 hq4 hq5 hq6 hqe hbr
  have hblk : ((w.alloc (.cells #[.int .i64 r.kind, .int .i64 r.id, .int .i64 r.size, sv r.key, .slice A r.stripes.length c, .slice A2 r.objects.length d, .slice A3 r.drives.length e0] 51)).alloc (.cells #[.slice none 0 0, .bool false] 119)).heap[w.heap.size]? =
      some (.cells #[.int .i64 r.kind, .int .i64 r.id, .int .i64 r.size, sv r.key, .slice A r.stripes.length c, .slice A2 r.objects.length d, .slice A3 r.drives.length e0] 51 (0, 0)) :=
    (Below.heap_alloc _ _ _ (by simp)).trans (heap_alloc_new w _)
  have hW0 : Writer ((w.alloc (.cells #[.int .i64 r.kind, .int .i64 r.id, .int .i64 r.size, sv r.key, .slice A r.stripes.length c, .slice A2 r.objects.length d, .slice A3 r.drives.length e0] 51)).alloc (.cells #[.slice none 0 0, .bool false] 119)) w.heap.size (w.heap.size + 1) [] false := by
    have h := writer_new (w.alloc (.cells #[.int .i64 r.kind, .int .i64 r.id, .int .i64 r.size, sv r.key, .slice A r.stripes.length c, .slice A2 r.objects.length d, .slice A3 r.drives.length e0] 51)) w.heap.size
    simpa using h
  have hf0 := (WF.alloc w.heap.size (w.heap.size + 1) w (.cells #[.int .i64 r.kind, .int .i64 r.id, .int .i64 r.size, sv r.key, .slice A r.stripes.length c, .slice A2 r.objects.length d, .slice A3 r.drives.length e0] 51)).trans (WF.alloc w.heap.size (w.heap.size + 1) _ (.cells #[.slice none 0 0, .bool false] 119))
  have hB0 : w.heap.size ≤ w.heap.size + 1 := by omega
  have hne : w.heap.size ≠ w.heap.size + 1 := by omega
  rcases hcase with ⟨hb, rfl⟩ | ⟨hb, hc, rfl⟩ | ⟨hb, hc, rfl⟩
  · have Hb := Lib.hid hb; clear hb
    go_enter Try.func68, Try.ntmps68
    go_wp2_with fail
    refine (wnum_any _ w.heap.size (w.heap.size + 1) [] false hW0 hf0.size (by simp) r.kind 5 1 (by omega)).mono ?_
    rintro e w1 ⟨rfl, hw1, hf1⟩
    rw [Hq1.out, Hb.out, Bool.false_or] at hw1
    have hblk1 := hf1.blk hblk hne (by decide)
    have a0 : w1.cell? ⟨w.heap.size, 0, none⟩ = some (.int .i64 r.kind) := blk_cell hblk1 0
    have a1 : w1.cell? ⟨w.heap.size, 1, none⟩ = some (.int .i64 r.id) := blk_cell hblk1 1
    obtain ⟨b1, b2, hw2, hf2⟩ := writer_setbad hw1 true
    have hf02 := (hf0.trans hf1).trans hf2
    have hblk2 := hf2.blk hblk1 hne (by decide)
    go_wp2_with fail
    refine (wnum_any _ w.heap.size (w.heap.size + 1) q1 true hw2 hf02.size hl1 r.id 1073741824 4 (by omega)).mono ?_
    rintro e w3 ⟨rfl, hw3, hf3⟩
    rw [Hq2.out] at hw3
    have hblk3 := hf3.blk hblk2 hne (by decide)
    have hf03 := hf02.trans hf3
    have a2 : w3.cell? ⟨w.heap.size, 2, none⟩ = some (.int .i64 r.size) := blk_cell hblk3 2
    go_wp2_with fail
    refine (wnum_any w3 w.heap.size (w.heap.size + 1) q2 _ hw3 hf03.size hl2 r.size 1073741824 4 (by omega)).mono ?_
    rintro e w4 ⟨rfl, hw4, hf4⟩
    rw [Hq3.out] at hw4
    have hblk4 := hf4.blk hblk3 hne (by decide)
    have hf04 := hf03.trans hf4
    have a3 : w4.cell? ⟨w.heap.size, 3, none⟩ = some (sv r.key) := blk_cell hblk4 3
    go_wp2_with fail
    refine (wkey_any w4 w.heap.size (w.heap.size + 1) q3 _ hw4 hf04.size r.key (by rw [Hq4.out]; exact hl4)).mono ?_
    rintro e w5 ⟨rfl, hw5, hf5⟩
    rw [Hq4.out] at hw5
    have hblk5 := hf5.blk hblk4 hne (by decide)
    have hf05 := hf04.trans hf5
    have a4 : w5.cell? ⟨w.heap.size, 4, none⟩ = some (.slice A r.stripes.length c) := blk_cell hblk5 4
    go_wp2_with fail
    refine (wstripes_any w5 w.heap.size (w.heap.size + 1) q4 _ hw5 hf05.size hB0 A c r.stripes (hrs.below (hf05.below hB0 (Nat.le_refl _))) hk1 hk2 (by rw [Hq5.out]; exact hl5)).mono ?_
    rintro e w6 ⟨rfl, hw6, hf6⟩
    rw [Hq5.out] at hw6
    have hblk6 := hf6.blk hblk5 hne (by decide)
    have hf06 := hf05.trans hf6
    have a5 : w6.cell? ⟨w.heap.size, 5, none⟩ = some (.slice A2 r.objects.length d) := blk_cell hblk6 5
    go_wp2_with fail
    refine (wnum_any w6 w.heap.size (w.heap.size + 1) q5 _ hw6 hf06.size hl5 r.objects.length 65535 2 (by omega)).mono ?_
    rintro e w7 ⟨rfl, hw7, hf7⟩
    rw [Hq6.out] at hw7
    have hblk7 := hf7.blk hblk6 hne (by decide)
    have hf07 := hf06.trans hf7
    have a5' : w7.cell? ⟨w.heap.size, 5, none⟩ = some (.slice A2 r.objects.length d) := blk_cell hblk7 5
    obtain ⟨bo, hbo⟩ : ∃ b, (true || badNum r.id 1073741824 || badNum r.size 1073741824 || badKey r.key || badStripes r.stripes || badNum r.objects.length 65535) = b := ⟨_, rfl⟩
    rw [hbo] at hw7
    have Hbo := Lib.hid hbo; clear hbo
    go_wp2_with fail
    go_loopw [6, 49] (fun _ i wr => ∃ j : Nat, j ≤ r.objects.length ∧ i = .int .i64 j ∧ Writer wr w.heap.size (w.heap.size + 1) (q6 ++ (r.objects.take j).flatMap encObj) (bo || (r.objects.take j).any badObj) ∧ WF w.heap.size (w.heap.size + 1) w wr ∧
        wr.heap[w.heap.size]? = some (.cells #[.int .i64 r.kind, .int .i64 r.id, .int .i64 r.size, sv r.key, .slice A r.stripes.length c, .slice A2 r.objects.length d, .slice A3 r.drives.length e0] 51 (0, 0))) (fun _ i _ => r.objects.length - (intOf i).toNat)
    case atStart => exact ⟨0, by omega, rfl, by simpa using hw7, hf07, hblk7⟩
    case round =>
      obtain ⟨j, hj, rfl, hwr, hfr, hblkr⟩ := hrel
      by_cases hlt : j < r.objects.length
      · obtain ⟨ad, C, c2, rfl, g0, g1, g2, g3, hlc2, hrs2⟩ := (hro.below (hfr.below hB0 (Nat.le_refl _))).at_ hlt
        have hs1 := Lib.hid (flat_take_succ r.objects encObj j hlt)
        have hs2 := Lib.hid (any_take_succ r.objects badObj j hlt)
        have hpj : (q6 ++ (r.objects.take j).flatMap encObj ++ encObj r.objects[j]).length ≤ 100000000000000 := by
          have h := flat_take_le r.objects encObj (j + 1)
          rw [hs1.out] at h
          simp only [List.length_append] at hl7 h ⊢
          omega
        obtain ⟨hk6, hk7⟩ := hk4 _ (List.getElem_mem hlt)
        have hsz := hfr.size
        have hnr : w.heap.size ≠ wr.heap.size := by have := blk_lt hblkr; omega
        have hWr := hwr.keep ((Below.refl _ wr).alloc (Nat.le_refl _) (.cells #[sv r.objects[j].key, .int .i64 r.objects[j].id, .int .i64 r.objects[j].size, .slice C r.objects[j].stripes.length c2] 80))
        have hfa := WF.alloc w.heap.size (w.heap.size + 1) wr (.cells #[sv r.objects[j].key, .int .i64 r.objects[j].id, .int .i64 r.objects[j].size, .slice C r.objects[j].stripes.length c2] 80)
        have hfra := hfr.trans hfa
        have hblka := hfa.blk hblkr hne (by decide)
        go_wp2_with fail
        refine (wobject_any _ w.heap.size (w.heap.size + 1) _ _ hWr hfra.size hB0 r.objects[j] C c2 (hrs2.below (hfa.below hB0 hsz)) hk6 hk7 hpj).mono ?_
        rintro e w8 ⟨rfl, hw8, hf8⟩
        go_wp2_with fail
        go_roundw
        case rel => exact ⟨j + 1, by omega, by go_num, by rw [hs1.out, hs2.out, ← List.append_assoc, ← Bool.or_assoc]; exact hw8, hfra.trans hf8, hf8.blk hblka hne (by decide)⟩
        case measure => simp [intOf]; omega
      · have ej : j = r.objects.length := by omega
        subst ej
        rw [List.take_length] at hwr
        have a6 : wr.cell? ⟨w.heap.size, 6, none⟩ = some (.slice A3 r.drives.length e0) := blk_cell hblkr 6
        go_wp2_with fail
        refine (wints_any wr w.heap.size (w.heap.size + 1) _ _ hwr hfr.size hB0 A3 e0 r.drives (hri.below (hfr.below hB0 (Nat.le_refl _))) hk5 hl7).mono ?_
        rintro e w8 ⟨rfl, hw8, hf8⟩
        have hbd : (bo || r.objects.any badObj || badInts r.drives) = badRec r := by rw [Hbr.out, Hbo.out]
        rw [← Hqe.out, hbd] at hw8
        obtain ⟨v9, hblk9, hown9⟩ := hw8
        obtain ⟨A9, c9, rfl, hl9, _, _⟩ := hown9.form
        have hb9 := (hfr.trans hf8).below hB0 (Nat.le_refl _)
        have z0 : w8.cell? ⟨w.heap.size + 1, 0, none⟩ = some (.slice A9 (encRec r).length c9) := blk_cell hblk9 0
        have z1 : w8.cell? ⟨w.heap.size + 1, 1, none⟩ = some (.bool (badRec r)) := blk_cell hblk9 1
        obtain ⟨bf, hbf⟩ : ∃ b, badRec r = b := ⟨_, rfl⟩
        rw [hbf] at z1
        have Hbf := Lib.hid hbf; clear hbf hbd hblk9
        cases bf
        · by_cases h8 : 8192 < (encRec r).length
          · go_wp2_with fail
            go_ret2
            exact ⟨hb9, .inr (.inl ⟨Hbf.out, h8, rfl⟩)⟩
          · go_wp2_with fail
            go_ret2
            exact ⟨hb9, .inr (.inr ⟨Hbf.out, by omega, _, rfl, hown9⟩)⟩
        · go_wp2_with fail
          go_ret2
          exact ⟨hb9, .inl ⟨Hbf.out, rfl⟩⟩
  · have Hb := Lib.hid hb; clear hb
    go_enter Try.func68, Try.ntmps68
    go_wp2_with fail
    refine (wnum_any _ w.heap.size (w.heap.size + 1) [] false hW0 hf0.size (by simp) r.kind 5 1 (by omega)).mono ?_
    rintro e w1 ⟨rfl, hw1, hf1⟩
    rw [Hq1.out, Hb.out, Bool.false_or] at hw1
    have hblk1 := hf1.blk hblk hne (by decide)
    have a0 : w1.cell? ⟨w.heap.size, 0, none⟩ = some (.int .i64 r.kind) := blk_cell hblk1 0
    have a1 : w1.cell? ⟨w.heap.size, 1, none⟩ = some (.int .i64 r.id) := blk_cell hblk1 1
    obtain ⟨b1, b2, hw2, hf2⟩ := writer_setbad hw1 true
    have hf02 := (hf0.trans hf1).trans hf2
    have hblk2 := hf2.blk hblk1 hne (by decide)
    go_wp2_with fail
    refine (wnum_any _ w.heap.size (w.heap.size + 1) q1 true hw2 hf02.size hl1 r.id 1073741824 4 (by omega)).mono ?_
    rintro e w3 ⟨rfl, hw3, hf3⟩
    rw [Hq2.out] at hw3
    have hblk3 := hf3.blk hblk2 hne (by decide)
    have hf03 := hf02.trans hf3
    have a2 : w3.cell? ⟨w.heap.size, 2, none⟩ = some (.int .i64 r.size) := blk_cell hblk3 2
    go_wp2_with fail
    refine (wnum_any w3 w.heap.size (w.heap.size + 1) q2 _ hw3 hf03.size hl2 r.size 1073741824 4 (by omega)).mono ?_
    rintro e w4 ⟨rfl, hw4, hf4⟩
    rw [Hq3.out] at hw4
    have hblk4 := hf4.blk hblk3 hne (by decide)
    have hf04 := hf03.trans hf4
    have a3 : w4.cell? ⟨w.heap.size, 3, none⟩ = some (sv r.key) := blk_cell hblk4 3
    go_wp2_with fail
    refine (wkey_any w4 w.heap.size (w.heap.size + 1) q3 _ hw4 hf04.size r.key (by rw [Hq4.out]; exact hl4)).mono ?_
    rintro e w5 ⟨rfl, hw5, hf5⟩
    rw [Hq4.out] at hw5
    have hblk5 := hf5.blk hblk4 hne (by decide)
    have hf05 := hf04.trans hf5
    have a4 : w5.cell? ⟨w.heap.size, 4, none⟩ = some (.slice A r.stripes.length c) := blk_cell hblk5 4
    go_wp2_with fail
    refine (wstripes_any w5 w.heap.size (w.heap.size + 1) q4 _ hw5 hf05.size hB0 A c r.stripes (hrs.below (hf05.below hB0 (Nat.le_refl _))) hk1 hk2 (by rw [Hq5.out]; exact hl5)).mono ?_
    rintro e w6 ⟨rfl, hw6, hf6⟩
    rw [Hq5.out] at hw6
    have hblk6 := hf6.blk hblk5 hne (by decide)
    have hf06 := hf05.trans hf6
    have a5 : w6.cell? ⟨w.heap.size, 5, none⟩ = some (.slice A2 r.objects.length d) := blk_cell hblk6 5
    go_wp2_with fail
    refine (wnum_any w6 w.heap.size (w.heap.size + 1) q5 _ hw6 hf06.size hl5 r.objects.length 65535 2 (by omega)).mono ?_
    rintro e w7 ⟨rfl, hw7, hf7⟩
    rw [Hq6.out] at hw7
    have hblk7 := hf7.blk hblk6 hne (by decide)
    have hf07 := hf06.trans hf7
    have a5' : w7.cell? ⟨w.heap.size, 5, none⟩ = some (.slice A2 r.objects.length d) := blk_cell hblk7 5
    obtain ⟨bo, hbo⟩ : ∃ b, (true || badNum r.id 1073741824 || badNum r.size 1073741824 || badKey r.key || badStripes r.stripes || badNum r.objects.length 65535) = b := ⟨_, rfl⟩
    rw [hbo] at hw7
    have Hbo := Lib.hid hbo; clear hbo
    go_wp2_with fail
    go_loopw [6, 49] (fun _ i wr => ∃ j : Nat, j ≤ r.objects.length ∧ i = .int .i64 j ∧ Writer wr w.heap.size (w.heap.size + 1) (q6 ++ (r.objects.take j).flatMap encObj) (bo || (r.objects.take j).any badObj) ∧ WF w.heap.size (w.heap.size + 1) w wr ∧
        wr.heap[w.heap.size]? = some (.cells #[.int .i64 r.kind, .int .i64 r.id, .int .i64 r.size, sv r.key, .slice A r.stripes.length c, .slice A2 r.objects.length d, .slice A3 r.drives.length e0] 51 (0, 0))) (fun _ i _ => r.objects.length - (intOf i).toNat)
    case atStart => exact ⟨0, by omega, rfl, by simpa using hw7, hf07, hblk7⟩
    case round =>
      obtain ⟨j, hj, rfl, hwr, hfr, hblkr⟩ := hrel
      by_cases hlt : j < r.objects.length
      · obtain ⟨ad, C, c2, rfl, g0, g1, g2, g3, hlc2, hrs2⟩ := (hro.below (hfr.below hB0 (Nat.le_refl _))).at_ hlt
        have hs1 := Lib.hid (flat_take_succ r.objects encObj j hlt)
        have hs2 := Lib.hid (any_take_succ r.objects badObj j hlt)
        have hpj : (q6 ++ (r.objects.take j).flatMap encObj ++ encObj r.objects[j]).length ≤ 100000000000000 := by
          have h := flat_take_le r.objects encObj (j + 1)
          rw [hs1.out] at h
          simp only [List.length_append] at hl7 h ⊢
          omega
        obtain ⟨hk6, hk7⟩ := hk4 _ (List.getElem_mem hlt)
        have hsz := hfr.size
        have hnr : w.heap.size ≠ wr.heap.size := by have := blk_lt hblkr; omega
        have hWr := hwr.keep ((Below.refl _ wr).alloc (Nat.le_refl _) (.cells #[sv r.objects[j].key, .int .i64 r.objects[j].id, .int .i64 r.objects[j].size, .slice C r.objects[j].stripes.length c2] 80))
        have hfa := WF.alloc w.heap.size (w.heap.size + 1) wr (.cells #[sv r.objects[j].key, .int .i64 r.objects[j].id, .int .i64 r.objects[j].size, .slice C r.objects[j].stripes.length c2] 80)
        have hfra := hfr.trans hfa
        have hblka := hfa.blk hblkr hne (by decide)
        go_wp2_with fail
        refine (wobject_any _ w.heap.size (w.heap.size + 1) _ _ hWr hfra.size hB0 r.objects[j] C c2 (hrs2.below (hfa.below hB0 hsz)) hk6 hk7 hpj).mono ?_
        rintro e w8 ⟨rfl, hw8, hf8⟩
        go_wp2_with fail
        go_roundw
        case rel => exact ⟨j + 1, by omega, by go_num, by rw [hs1.out, hs2.out, ← List.append_assoc, ← Bool.or_assoc]; exact hw8, hfra.trans hf8, hf8.blk hblka hne (by decide)⟩
        case measure => simp [intOf]; omega
      · have ej : j = r.objects.length := by omega
        subst ej
        rw [List.take_length] at hwr
        have a6 : wr.cell? ⟨w.heap.size, 6, none⟩ = some (.slice A3 r.drives.length e0) := blk_cell hblkr 6
        go_wp2_with fail
        refine (wints_any wr w.heap.size (w.heap.size + 1) _ _ hwr hfr.size hB0 A3 e0 r.drives (hri.below (hfr.below hB0 (Nat.le_refl _))) hk5 hl7).mono ?_
        rintro e w8 ⟨rfl, hw8, hf8⟩
        have hbd : (bo || r.objects.any badObj || badInts r.drives) = badRec r := by rw [Hbr.out, Hbo.out]
        rw [← Hqe.out, hbd] at hw8
        obtain ⟨v9, hblk9, hown9⟩ := hw8
        obtain ⟨A9, c9, rfl, hl9, _, _⟩ := hown9.form
        have hb9 := (hfr.trans hf8).below hB0 (Nat.le_refl _)
        have z0 : w8.cell? ⟨w.heap.size + 1, 0, none⟩ = some (.slice A9 (encRec r).length c9) := blk_cell hblk9 0
        have z1 : w8.cell? ⟨w.heap.size + 1, 1, none⟩ = some (.bool (badRec r)) := blk_cell hblk9 1
        obtain ⟨bf, hbf⟩ : ∃ b, badRec r = b := ⟨_, rfl⟩
        rw [hbf] at z1
        have Hbf := Lib.hid hbf; clear hbf hbd hblk9
        cases bf
        · by_cases h8 : 8192 < (encRec r).length
          · go_wp2_with fail
            go_ret2
            exact ⟨hb9, .inr (.inl ⟨Hbf.out, h8, rfl⟩)⟩
          · go_wp2_with fail
            go_ret2
            exact ⟨hb9, .inr (.inr ⟨Hbf.out, by omega, _, rfl, hown9⟩)⟩
        · go_wp2_with fail
          go_ret2
          exact ⟨hb9, .inl ⟨Hbf.out, rfl⟩⟩
  · have Hb := Lib.hid hb; clear hb
    go_enter Try.func68, Try.ntmps68
    go_wp2_with fail
    refine (wnum_any _ w.heap.size (w.heap.size + 1) [] false hW0 hf0.size (by simp) r.kind 5 1 (by omega)).mono ?_
    rintro e w1 ⟨rfl, hw1, hf1⟩
    rw [Hq1.out, Hb.out, Bool.false_or] at hw1
    have hblk1 := hf1.blk hblk hne (by decide)
    have a0 : w1.cell? ⟨w.heap.size, 0, none⟩ = some (.int .i64 r.kind) := blk_cell hblk1 0
    have a1 : w1.cell? ⟨w.heap.size, 1, none⟩ = some (.int .i64 r.id) := blk_cell hblk1 1
    obtain ⟨b1, b2, hw2, hf2⟩ := writer_setbad hw1 false
    have hf02 := (hf0.trans hf1).trans hf2
    have hblk2 := hf2.blk hblk1 hne (by decide)
    go_wp2_with fail
    try rw [show decide (r.kind < 1) = false from by simp; omega]
    refine (wnum_any _ w.heap.size (w.heap.size + 1) q1 false hw2 hf02.size hl1 r.id 1073741824 4 (by omega)).mono ?_
    rintro e w3 ⟨rfl, hw3, hf3⟩
    rw [Hq2.out] at hw3
    have hblk3 := hf3.blk hblk2 hne (by decide)
    have hf03 := hf02.trans hf3
    have a2 : w3.cell? ⟨w.heap.size, 2, none⟩ = some (.int .i64 r.size) := blk_cell hblk3 2
    go_wp2_with fail
    refine (wnum_any w3 w.heap.size (w.heap.size + 1) q2 _ hw3 hf03.size hl2 r.size 1073741824 4 (by omega)).mono ?_
    rintro e w4 ⟨rfl, hw4, hf4⟩
    rw [Hq3.out] at hw4
    have hblk4 := hf4.blk hblk3 hne (by decide)
    have hf04 := hf03.trans hf4
    have a3 : w4.cell? ⟨w.heap.size, 3, none⟩ = some (sv r.key) := blk_cell hblk4 3
    go_wp2_with fail
    refine (wkey_any w4 w.heap.size (w.heap.size + 1) q3 _ hw4 hf04.size r.key (by rw [Hq4.out]; exact hl4)).mono ?_
    rintro e w5 ⟨rfl, hw5, hf5⟩
    rw [Hq4.out] at hw5
    have hblk5 := hf5.blk hblk4 hne (by decide)
    have hf05 := hf04.trans hf5
    have a4 : w5.cell? ⟨w.heap.size, 4, none⟩ = some (.slice A r.stripes.length c) := blk_cell hblk5 4
    go_wp2_with fail
    refine (wstripes_any w5 w.heap.size (w.heap.size + 1) q4 _ hw5 hf05.size hB0 A c r.stripes (hrs.below (hf05.below hB0 (Nat.le_refl _))) hk1 hk2 (by rw [Hq5.out]; exact hl5)).mono ?_
    rintro e w6 ⟨rfl, hw6, hf6⟩
    rw [Hq5.out] at hw6
    have hblk6 := hf6.blk hblk5 hne (by decide)
    have hf06 := hf05.trans hf6
    have a5 : w6.cell? ⟨w.heap.size, 5, none⟩ = some (.slice A2 r.objects.length d) := blk_cell hblk6 5
    go_wp2_with fail
    refine (wnum_any w6 w.heap.size (w.heap.size + 1) q5 _ hw6 hf06.size hl5 r.objects.length 65535 2 (by omega)).mono ?_
    rintro e w7 ⟨rfl, hw7, hf7⟩
    rw [Hq6.out] at hw7
    have hblk7 := hf7.blk hblk6 hne (by decide)
    have hf07 := hf06.trans hf7
    have a5' : w7.cell? ⟨w.heap.size, 5, none⟩ = some (.slice A2 r.objects.length d) := blk_cell hblk7 5
    obtain ⟨bo, hbo⟩ : ∃ b, (false || badNum r.id 1073741824 || badNum r.size 1073741824 || badKey r.key || badStripes r.stripes || badNum r.objects.length 65535) = b := ⟨_, rfl⟩
    rw [hbo] at hw7
    have Hbo := Lib.hid hbo; clear hbo
    go_wp2_with fail
    go_loopw [6, 49] (fun _ i wr => ∃ j : Nat, j ≤ r.objects.length ∧ i = .int .i64 j ∧ Writer wr w.heap.size (w.heap.size + 1) (q6 ++ (r.objects.take j).flatMap encObj) (bo || (r.objects.take j).any badObj) ∧ WF w.heap.size (w.heap.size + 1) w wr ∧
        wr.heap[w.heap.size]? = some (.cells #[.int .i64 r.kind, .int .i64 r.id, .int .i64 r.size, sv r.key, .slice A r.stripes.length c, .slice A2 r.objects.length d, .slice A3 r.drives.length e0] 51 (0, 0))) (fun _ i _ => r.objects.length - (intOf i).toNat)
    case atStart => exact ⟨0, by omega, rfl, by simpa using hw7, hf07, hblk7⟩
    case round =>
      obtain ⟨j, hj, rfl, hwr, hfr, hblkr⟩ := hrel
      by_cases hlt : j < r.objects.length
      · obtain ⟨ad, C, c2, rfl, g0, g1, g2, g3, hlc2, hrs2⟩ := (hro.below (hfr.below hB0 (Nat.le_refl _))).at_ hlt
        have hs1 := Lib.hid (flat_take_succ r.objects encObj j hlt)
        have hs2 := Lib.hid (any_take_succ r.objects badObj j hlt)
        have hpj : (q6 ++ (r.objects.take j).flatMap encObj ++ encObj r.objects[j]).length ≤ 100000000000000 := by
          have h := flat_take_le r.objects encObj (j + 1)
          rw [hs1.out] at h
          simp only [List.length_append] at hl7 h ⊢
          omega
        obtain ⟨hk6, hk7⟩ := hk4 _ (List.getElem_mem hlt)
        have hsz := hfr.size
        have hnr : w.heap.size ≠ wr.heap.size := by have := blk_lt hblkr; omega
        have hWr := hwr.keep ((Below.refl _ wr).alloc (Nat.le_refl _) (.cells #[sv r.objects[j].key, .int .i64 r.objects[j].id, .int .i64 r.objects[j].size, .slice C r.objects[j].stripes.length c2] 80))
        have hfa := WF.alloc w.heap.size (w.heap.size + 1) wr (.cells #[sv r.objects[j].key, .int .i64 r.objects[j].id, .int .i64 r.objects[j].size, .slice C r.objects[j].stripes.length c2] 80)
        have hfra := hfr.trans hfa
        have hblka := hfa.blk hblkr hne (by decide)
        go_wp2_with fail
        refine (wobject_any _ w.heap.size (w.heap.size + 1) _ _ hWr hfra.size hB0 r.objects[j] C c2 (hrs2.below (hfa.below hB0 hsz)) hk6 hk7 hpj).mono ?_
        rintro e w8 ⟨rfl, hw8, hf8⟩
        go_wp2_with fail
        go_roundw
        case rel => exact ⟨j + 1, by omega, by go_num, by rw [hs1.out, hs2.out, ← List.append_assoc, ← Bool.or_assoc]; exact hw8, hfra.trans hf8, hf8.blk hblka hne (by decide)⟩
        case measure => simp [intOf]; omega
      · have ej : j = r.objects.length := by omega
        subst ej
        rw [List.take_length] at hwr
        have a6 : wr.cell? ⟨w.heap.size, 6, none⟩ = some (.slice A3 r.drives.length e0) := blk_cell hblkr 6
        go_wp2_with fail
        refine (wints_any wr w.heap.size (w.heap.size + 1) _ _ hwr hfr.size hB0 A3 e0 r.drives (hri.below (hfr.below hB0 (Nat.le_refl _))) hk5 hl7).mono ?_
        rintro e w8 ⟨rfl, hw8, hf8⟩
        have hbd : (bo || r.objects.any badObj || badInts r.drives) = badRec r := by rw [Hbr.out, Hbo.out]
        rw [← Hqe.out, hbd] at hw8
        obtain ⟨v9, hblk9, hown9⟩ := hw8
        obtain ⟨A9, c9, rfl, hl9, _, _⟩ := hown9.form
        have hb9 := (hfr.trans hf8).below hB0 (Nat.le_refl _)
        have z0 : w8.cell? ⟨w.heap.size + 1, 0, none⟩ = some (.slice A9 (encRec r).length c9) := blk_cell hblk9 0
        have z1 : w8.cell? ⟨w.heap.size + 1, 1, none⟩ = some (.bool (badRec r)) := blk_cell hblk9 1
        obtain ⟨bf, hbf⟩ : ∃ b, badRec r = b := ⟨_, rfl⟩
        rw [hbf] at z1
        have Hbf := Lib.hid hbf; clear hbf hbd hblk9
        cases bf
        · by_cases h8 : 8192 < (encRec r).length
          · go_wp2_with fail
            go_ret2
            exact ⟨hb9, .inr (.inl ⟨Hbf.out, h8, rfl⟩)⟩
          · go_wp2_with fail
            go_ret2
            exact ⟨hb9, .inr (.inr ⟨Hbf.out, by omega, _, rfl, hown9⟩)⟩
        · go_wp2_with fail
          go_ret2
          exact ⟨hb9, .inl ⟨Hbf.out, rfl⟩⟩
end Go.Proofs.Ytmleldgohfcdbaa
