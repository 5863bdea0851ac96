/- ref09.Encode. -/
import Derived.Test.YtmleldgohfcdbaaRefEnc3
import Derived.Test.YtmleldgohfcdbaaOpenArg
import Derived.Test.YtmleldgohfcdbaaEncode
namespace Go.Proofs.Ytmleldgohfcdbaa
set_option linter.unusedVariables false
set_option linter.unusedSimpArgs false
open Go.RowKit
/-! ### what the writer says, in the program's own words -/
def OSpec (s s' : OS) (bad : Bool) (enc : List UInt8) : Prop := s'.2 = (s.2 || bad) ∧ (s'.2 = false → s'.1 = s.1 ++ enc)
theorem OSpec.trans {s s1 s2 : OS} {b1 b2 : Bool} {e1 e2 : List UInt8} (h : OSpec s s1 b1 e1) (k : OSpec s1 s2 b2 e2) : OSpec s s2 (b1 || b2) (e1 ++ e2) := by
  obtain ⟨h1, h2⟩ := h
  obtain ⟨k1, k2⟩ := k
  refine ⟨by rw [k1, h1, Bool.or_assoc], fun hb => ?_⟩
  have hb1 : s1.2 = false := by rw [k1, Bool.or_eq_false_iff] at hb; exact hb.1
  rw [k2 hb, h2 hb1, List.append_assoc]
theorem onum_spec (v most : Int) (n : Nat) (s : OS) : OSpec s (onum v most n s) (badNum v most) (be n (nat64 v)) := by
  unfold onum
  cases h : badNum v most with
  | true => exact ⟨by simp, fun hb => by simp at hb⟩
  | false => exact ⟨by simp, fun _ => rfl⟩
theorem okey_spec (k : List UInt8) (s : OS) : OSpec s (okey k s) (badKey k) (encKey k) := by
  obtain ⟨h1, h2⟩ := onum_spec k.length 16 1 s
  refine ⟨h1, fun hb => ?_⟩
  show (onum k.length 16 1 s).1 ++ k = _
  rw [h2 hb]
  simp [encKey]
theorem oloop_spec {α : Type} (f : α → OS → OS) (bad : α → Bool) (enc : α → List UInt8) (hf : ∀ a s, OSpec s (f a s) (bad a) (enc a)) : ∀ (l : List α) (s : OS), OSpec s (oloop f l s) (l.any bad) (l.flatMap enc)
  | [], s => ⟨by simp [oloop], fun _ => by simp [oloop]⟩
  | a :: r, s => by
    cases hs : s.2 with
    | true => rw [oloop_bad f _ s hs]; exact ⟨by simp [hs], fun h => by rw [hs] at h; cases h⟩
    | false =>
      have h := (hf a s).trans (oloop_spec f bad enc hf r (f a s))
      have e : oloop f (a :: r) s = oloop f r (f a s) := by
        show (if s.2 = true then s else oloop f r (f a s)) = _
        rw [if_neg (by rw [hs]; decide)]
      rw [e, List.any_cons, List.flatMap_cons]
      exact h
theorem oints_spec (l : List Int) (s : OS) : OSpec s (oints l s) (badInts l) (encInts l) := (onum_spec l.length 255 1 s).trans (oloop_spec _ _ _ (fun a s => onum_spec a maxID 4 s) l _)
theorem ostripe_spec (st : PStripe) (s : OS) : OSpec s (ostripe st s) (badStripe st) (encStripe st) :=
  ((onum_spec st.id maxID 4 s).trans (onum_spec st.epoch maxID 4 _)).trans (oints_spec st.locs _)
theorem ostripes_spec (l : List PStripe) (s : OS) : OSpec s (ostripes l s) (badStripes l) (encStripes l) := (onum_spec l.length 255 1 s).trans (oloop_spec _ _ _ ostripe_spec l _)
theorem oobj_spec (o : PObj) (s : OS) : OSpec s (oobj o s) (badObj o) (encObj o) :=
  (((okey_spec o.key s).trans (onum_spec o.id maxID 4 _)).trans (onum_spec o.size maxID 4 _)).trans (ostripes_spec o.stripes _)
def orec (r : PRec) : OS := oints r.drives (oloop oobj r.objects (onum r.objects.length 65535 2 (ostripes r.stripes (okey r.key (onum r.size maxID 4 (onum r.id maxID 4 (onum r.kind 5 1 ([], false))))))))
theorem orec_spec (r : PRec) (hk : ¬ r.kind < 1) : (orec r).2 = badRec r ∧ (badRec r = false → (orec r).1 = encRec r) := by
  have h := (((((((onum_spec r.kind 5 1 ([], false)).trans (onum_spec r.id maxID 4 _)).trans (onum_spec r.size maxID 4 _)).trans (okey_spec r.key _)).trans (ostripes_spec r.stripes _)).trans (onum_spec r.objects.length 65535 2 _)).trans
    (oloop_spec oobj badObj encObj oobj_spec r.objects _)).trans (oints_spec r.drives _)
  obtain ⟨h1, h2⟩ := h
  have hb : (orec r).2 = badRec r := by
    refine h1.trans ?_
    unfold badRec
    rw [decide_eq_false hk]
    simp [Bool.or_assoc]
  refine ⟨hb, fun hg => ?_⟩
  have h3 := h2 (hb.trans hg)
  refine h3.trans ?_
  simp [encRec, encW, List.append_assoc]
theorem okey_len (k : List UInt8) (s : OS) : (okey k s).1.length ≤ s.1.length + 1 + k.length := by
  have := onum_len k.length 16 1 s
  show ((onum k.length 16 1 s).1 ++ k).length ≤ _
  rw [List.length_append]
  omega
theorem oobj_len (o : PObj) (s : OS) : (oobj o s).1.length ≤ s.1.length + o.key.length + 300000 := by
  have h1 := okey_len o.key s
  have h2 := onum_len o.id maxID 4 (okey o.key s)
  have h3 := onum_len o.size maxID 4 (onum o.id maxID 4 (okey o.key s))
  have h4 := ostripes_len o.stripes (onum o.size maxID 4 (onum o.id maxID 4 (okey o.key s)))
  unfold oobj
  omega
theorem oobj_short {o : PObj} {s : OS} (h : (oobj o s).2 = false) : o.key.length ≤ 16 := badNum_len (m := 16) (okey_ok (onum_ok (onum_ok (ostripes_ok0 h).2).2).2).1
theorem grow_bound {a l k j : Nat} (h1 : a ≤ l + k + 300000) (h2 : l ≤ 400000 * (j + 1)) (h3 : k ≤ 16) : a ≤ 400000 * (j + 1 + 1) := by omega
/-- Keys that a memory has. -/
def KeysR (r : PRec) : Prop := r.key.length ≤ 140737488351232 ∧ ∀ o ∈ r.objects, o.key.length ≤ 140737488351232
set_option maxRecDepth 100000 in
set_option maxHeartbeats 2000000 in
theorem refEncode_any (w : World) (r : PRec) (vs : List Value) (hr : RecVal w (· < w.heap.size) r vs) (hM : MaxR r) (hK : KeysR r) :
    Calls Try.prog 34 #[.agg vs.toArray] w (EncPost w r) := by
  obtain ⟨A, c, A2, c2, A3, c3, rfl, q1, q2, q3, hst, hob, hdr⟩ := hr
  obtain ⟨kv, hkv⟩ : ∃ kv, sv r.key = .string kv := ⟨_, rfl⟩
  rw [hkv]
  obtain ⟨w0, hw0⟩ : ∃ w0, w.alloc (.cells #[.int .i64 r.kind, .int .i64 r.id, .int .i64 r.size, .string kv, .slice A r.stripes.length c, .slice A2 r.objects.length c2, .slice A3 r.drives.length c3] 51) = w0 := ⟨_, rfl⟩
  have hs0 : w0.heap.size = w.heap.size + 1 := by rw [← hw0]; simp
  obtain ⟨w1, hw1⟩ : ∃ w1, w0.alloc (.cells #[.slice none 0 0, .bool false] 91) = w1 := ⟨_, rfl⟩
  have hb0 : Below w.heap.size w w0 := hw0 ▸ (Below.refl _ w).alloc (Nat.le_refl _) _
  have hb1 : Below w.heap.size w w1 := hw1 ▸ hb0.alloc hb0.size _
  have hma : w1.heap[w.heap.size]? = some (.cells #[.int .i64 r.kind, .int .i64 r.id, .int .i64 r.size, .string kv, .slice A r.stripes.length c, .slice A2 r.objects.length c2, .slice A3 r.drives.length c3] 51 (0, 0)) := by
    rw [← hw1, Below.heap_alloc _ _ _ (by omega), ← hw0]
    exact heap_alloc_new w _
  have hout : OutW w1 w.heap.size (w.heap.size + 1) ([], false) := ⟨.slice none 0 0, by rw [← hw1, ← hs0]; exact heap_alloc_new w0 _, OwnB.nil _ _⟩
  have a0 : w1.cell? ⟨w.heap.size, 0, none⟩ = some (.int .i64 r.kind) := blk_cell hma 0
  obtain ⟨hK1, hK2⟩ := hK
  obtain ⟨-, hM2, hM3, hM4, hM5, hM6⟩ := hM
  have Hw0 := Lib.hid hw0; have Hw1 := Lib.hid hw1; have Hs0 := Lib.hid hs0; have Hma := Lib.hid hma; have Hout := Lib.hid hout; have Hkv := Lib.hid hkv
  have Hst := Lib.hid (hst.below hb1); have Hob := Lib.hid (hob.below hb1); have Hdr := Lib.hid (hdr.below hb1)
  have HM2 := Lib.hid hM2; have HM3 := Lib.hid hM3; have HM4 := Lib.hid hM4; have HM5 := Lib.hid hM5; have HM6 := Lib.hid hM6
  have Hb1 := Lib.hid hb1
  clear hw0 hw1 hs0 hma hout hb0 hb1 hst hob hdr q1 q3 hM2 hM3 hM4 hM5 hM6 hkv
  have hB : w.heap.size ≤ w1.heap.size := Hb1.out.size
  have hg : w.heap.size ≤ w.heap.size + 1 := by omega
  have hne : w.heap.size ≠ w.heap.size + 1 := by omega
  by_cases hk : r.kind < 1
  · have hbad : badRec r = true := by unfold badRec; rw [decide_eq_true hk]; simp
    have Hbad := Lib.hid hbad
    clear hbad
    go_enter Try.func34, Try.ntmps34
    go_wp2_with fail
    rw [Hw0.out, Hw1.out]
    go_ret2
    exact ⟨Hb1.out, .inl ⟨Hbad.out, rfl⟩⟩
  · obtain ⟨hsp1, hsp2⟩ := orec_spec r hk
    have Hsp1 := Lib.hid hsp1; have Hsp2 := Lib.hid hsp2
    obtain ⟨res, hres⟩ : ∃ res, orec r = res := ⟨_, rfl⟩
    have hres0 := hres
    unfold orec at hres
    have n1 := onum_len r.kind 5 1 ([], false)
    have C1 := Lib.hid (onum_any w1 w.heap.size (w.heap.size + 1) ([], false) Hout.out hB r.kind 5 1 (by omega) (by show 0 + 1 ≤ _; omega))
    generalize onum r.kind 5 1 ([], false) = s1 at n1 C1 hres
    have n2 := onum_len r.id 1073741824 4 s1
    have D2 := Lib.hid (fun w' (hw' : OutW w' w.heap.size (w.heap.size + 1) s1) (hB' : w.heap.size ≤ w'.heap.size) (hl : s1.1.length + 4 ≤ 141836999983104) => onum_any w' w.heap.size (w.heap.size + 1) s1 hw' hB' r.id 1073741824 4 (by omega) hl)
    change oints r.drives (oloop oobj r.objects (onum r.objects.length 65535 2 (ostripes r.stripes (okey r.key (onum r.size 1073741824 4 (onum r.id 1073741824 4 s1)))))) = res at hres
    generalize onum r.id 1073741824 4 s1 = s2 at n2 D2 hres
    have n3 := onum_len r.size 1073741824 4 s2
    have D3 := Lib.hid (fun w' (hw' : OutW w' w.heap.size (w.heap.size + 1) s2) (hB' : w.heap.size ≤ w'.heap.size) (hl : s2.1.length + 4 ≤ 141836999983104) => onum_any w' w.heap.size (w.heap.size + 1) s2 hw' hB' r.size 1073741824 4 (by omega) hl)
    generalize onum r.size 1073741824 4 s2 = s3 at n3 D3 hres
    have n4 := okey_len r.key s3
    have m4 := fun h => (okey_ok (k := r.key) (s := s3) h).1
    have D4 := Lib.hid (fun w' (hw' : OutW w' w.heap.size (w.heap.size + 1) s3) (hB' : w.heap.size ≤ w'.heap.size) (hl : s3.1.length + 1 + r.key.length ≤ 141836999983104) => okey_any w' w.heap.size (w.heap.size + 1) s3 hw' hB' r.key hl)
    generalize okey r.key s3 = s4 at n4 m4 D4 hres
    have n5 := ostripes_len r.stripes s4
    have m5 := fun h => (ostripes_ok0 (l := r.stripes) (s := s4) h).2
    have D5 := Lib.hid (fun w' (hw' : OutW w' w.heap.size (w.heap.size + 1) s4) (hB' : w.heap.size ≤ w'.heap.size) (hr' : RStripes w' (· < w.heap.size) A r.stripes) (hl : s4.1.length + 300000 ≤ 141836999983104) => ostripes_any w' w.heap.size (w.heap.size + 1) s4 hw' hB' hg A c r.stripes hr' HM2.out HM3.out hl)
    generalize ostripes r.stripes s4 = s5 at n5 m5 D5 hres
    have n6 := onum_len r.objects.length 65535 2 s5
    have m6 := fun h => onum_ok (v := r.objects.length) (most := 65535) (n := 2) (s := s5) h
    have D6 := Lib.hid (fun w' (hw' : OutW w' w.heap.size (w.heap.size + 1) s5) (hB' : w.heap.size ≤ w'.heap.size) (hl : s5.1.length + 2 ≤ 141836999983104) => onum_any w' w.heap.size (w.heap.size + 1) s5 hw' hB' r.objects.length 65535 2 (by omega) hl)
    generalize onum r.objects.length 65535 2 s5 = s6 at n6 m6 D6 hres
    have hgood : s6.2 = false → s6.1.length ≤ 400000 ∧ r.objects.length ≤ 65535 := fun h => by
      have h5 := m6 h
      have h6 := badNum_len (m := 65535) h5.1
      have h7 := badNum_len (m := 16) (m4 (m5 h5.2))
      have : s1.1.length ≤ 0 + 1 := n1
      omega
    have n1' : s1.1.length ≤ 0 + 1 := n1
    have hs6 : s6.1.length ≤ 140737488351232 + 400000 := by omega
    have Hres := Lib.hid hres; have Hres0 := Lib.hid hres0; have Hgood := Lib.hid hgood
    clear hres hres0 hgood m4 m5 m6 n1 hsp1 hsp2
    have hq63 : r.objects.length ≤ 9223372036854775807 := by have := HM4.out; unfold maxLen at this; omega
    go_enter Try.func34, Try.ntmps34
    go_wp2_with fail
    rw [Hw0.out, Hw1.out]
    refine C1.out.mono ?_
    rintro e v1 ⟨rfl, hv1, hf1⟩
    have hma1 := hf1.blk Hma.out hne (by decide)
    have b1 : v1.cell? ⟨w.heap.size, 1, none⟩ = some (.int .i64 r.id) := blk_cell hma1 1
    have E2 := Lib.hid (D2.out v1 hv1 (Nat.le_trans hB hf1.size) (by omega))
    clear hv1
    go_wp2_with fail
    refine E2.out.mono ?_
    rintro e v2 ⟨rfl, hv2, hf2'⟩
    have hf2 := hf1.trans hf2'
    have hma2 := hf2.blk Hma.out hne (by decide)
    have b2 : v2.cell? ⟨w.heap.size, 2, none⟩ = some (.int .i64 r.size) := blk_cell hma2 2
    have E3 := Lib.hid (D3.out v2 hv2 (Nat.le_trans hB hf2.size) (by omega))
    clear hv2
    go_wp2_with fail
    refine E3.out.mono ?_
    rintro e v3 ⟨rfl, hv3, hf3'⟩
    have hf3 := hf2.trans hf3'
    have hma3 := hf3.blk Hma.out hne (by decide)
    have b3 : v3.cell? ⟨w.heap.size, 3, none⟩ = some (.string kv) := blk_cell hma3 3
    have hD4 := D4.out v3 hv3 (Nat.le_trans hB hf3.size) (by omega)
    rw [Hkv.out] at hD4
    have E4 := Lib.hid hD4
    clear hv3 hD4
    go_wp2_with fail
    refine E4.out.mono ?_
    rintro e v4 ⟨rfl, hv4, hf4'⟩
    have hf4 := hf3.trans hf4'
    have hma4 := hf4.blk Hma.out hne (by decide)
    have b4 : v4.cell? ⟨w.heap.size, 4, none⟩ = some (.slice A r.stripes.length c) := blk_cell hma4 4
    have E5 := Lib.hid (D5.out v4 hv4 (Nat.le_trans hB hf4.size) (Hst.out.below (hf4.below hg hB)) (by omega))
    clear hv4
    go_wp2_with fail
    refine E5.out.mono ?_
    rintro e v5 ⟨rfl, hv5, hf5'⟩
    have hf5 := hf4.trans hf5'
    have hma5 := hf5.blk Hma.out hne (by decide)
    have b5 : v5.cell? ⟨w.heap.size, 5, none⟩ = some (.slice A2 r.objects.length c2) := blk_cell hma5 5
    have E6 := Lib.hid (D6.out v5 hv5 (Nat.le_trans hB hf5.size) (by omega))
    clear hv5
    go_wp2_with fail
    refine E6.out.mono ?_
    rintro e v6 ⟨rfl, hv6, hf6'⟩
    have hf6 := hf5.trans hf6'
    clear hma1 hma2 hma3 hma4 hma5 b1 b2 b3 b4 b5 hf1 hf2 hf2' hf3 hf3' hf4 hf4' hf5 hf5' hf6' a0
    go_wp2_with fail
    go_loopw [5] (fun i wr => ∃ (j : Nat) (s : OS), j ≤ r.objects.length ∧ i = .int .i64 j ∧ OutW wr w.heap.size (w.heap.size + 1) s ∧ WF w.heap.size (w.heap.size + 1) w1 wr ∧ Hid (oints r.drives (oloop oobj (r.objects.drop j) s) = res) ∧
      s.1.length ≤ 140737488351232 + 100000000000 ∧ Hid (s.2 = false → s.1.length ≤ 400000 * (j + 1) ∧ r.objects.length ≤ 65535)) (fun i _ => r.objects.length - (intOf i).toNat)
    case atStart => exact ⟨0, s6, by omega, rfl, hv6, hf6, Lib.hid Hres.out, by omega, Lib.hid fun h => by have := Hgood.out h; omega⟩
    case round =>
      obtain ⟨j, s, hj, rfl, hwr, hfr, hinv, hslen, hsg⟩ := hrel
      obtain ⟨l, b⟩ := s
      dsimp only at hslen
      obtain ⟨x, hblk, hown⟩ := id hwr
      dsimp only at hblk hown
      have hmr := hfr.blk Hma.out hne (by decide)
      have c1 : wr.cell? ⟨w.heap.size + 1, 1, none⟩ = some (.bool b) := blk_cell hblk 1
      have r5 : wr.cell? ⟨w.heap.size, 5, none⟩ = some (.slice A2 r.objects.length c2) := blk_cell hmr 5
      have hBr := Nat.le_trans hB hfr.size
      by_cases hlt : j < r.objects.length
      · cases b with
        | true =>
          have Hfin := Lib.hid (oloop_bad oobj (r.objects.drop j) (l, true) rfl)
          have j1 : (j : Int) < (r.objects.length : Int) := by omega
          have hfin : oints r.drives (l, true) = res := by rw [← hinv.out, Hfin.out]
          have hnl := oints_len r.drives (l, true)
          have hdd := oints_any wr w.heap.size (w.heap.size + 1) (l, true) hwr hBr hg A3 c3 r.drives (Hdr.out.below (hfr.below hg hB)) HM6.out (by show l.length + 2000 ≤ _; omega)
          rw [hfin] at hdd hnl
          have Hdd := Lib.hid hdd
          have r6 : wr.cell? ⟨w.heap.size, 6, none⟩ = some (.slice A3 r.drives.length c3) := blk_cell hmr 6
          clear hwr hdd hfin hown hblk
          go_wp2_with fail
          refine Hdd.out.mono ?_
          rintro e w7 ⟨rfl, ⟨x7, hblk7, hown7⟩, hf7⟩
          have hbb : Below w.heap.size w w7 := Hb1.out.trans ((hfr.trans hf7).below hg hB)
          obtain ⟨l7, b7⟩ := res
          dsimp only at hblk7 hown7
          have d1 : w7.cell? ⟨w.heap.size + 1, 1, none⟩ = some (.bool b7) := blk_cell hblk7 1
          have d0 : w7.cell? ⟨w.heap.size + 1, 0, none⟩ = some x7 := blk_cell hblk7 0
          have hq1 : badRec r = b7 := by rw [← Hsp1.out, Hres0.out]
          cases b7 with
          | true =>
            have Hq1 := Lib.hid hq1
            clear hq1
            go_wp2_with fail
            go_ret2
            exact ⟨hbb, .inl ⟨Hq1.out, rfl⟩⟩
          | false =>
            have hq2 : l7 = encRec r := by
              have := Hsp2.out hq1
              rw [Hres0.out] at this
              exact this
            obtain ⟨A7, c7, rfl, hlc7, _, _⟩ := hown7.form
            have Hq1 := Lib.hid hq1; have Hq2 := Lib.hid hq2
            clear hq1 hq2
            by_cases h8 : 8192 < l7.length
            · have h8' : (8192 : Int) < (l7.length : Int) := by omega
              go_wp2_with fail
              go_ret2
              exact ⟨hbb, .inr (.inl ⟨Hq1.out, by rw [← Hq2.out]; exact h8, rfl⟩)⟩
            · have h8' : ¬ (8192 : Int) < (l7.length : Int) := by omega
              go_wp2_with fail
              go_ret2
              refine ⟨hbb, .inr (.inr ⟨Hq1.out, by rw [← Hq2.out]; omega, _, rfl, ?_⟩)⟩
              rw [← Hq2.out]
              exact hown7
        | false =>
          have hst := oloop_drop oobj r.objects j hlt (l, false) rfl
          obtain ⟨ad, C, cc, rfl, g0, g1, g2, g3, hgl, hgr⟩ := (Hob.out.below (hfr.below hg hB)).at_ hlt
          have hMo := HM5.out _ (List.getElem_mem hlt)
          have hKo := hK2 _ (List.getElem_mem hlt)
          have hsg2 := hsg.out rfl
          generalize r.objects[j] = o at hst g0 g1 g2 g3 hgl hgr hMo hKo
          obtain ⟨ka, hsa, hka⟩ : ∃ ka : ByteArray, sv o.key = .string ka ∧ True := ⟨_, rfl, trivial⟩
          rw [hsa] at g0
          obtain ⟨wa, hwa⟩ : ∃ wa, wr.alloc (.cells #[.string ka, .int .i64 o.id, .int .i64 o.size, .slice C o.stripes.length cc] 80) = wa := ⟨_, rfl⟩
          have hblka : wa.heap[wr.heap.size]? = some (.cells #[.string ka, .int .i64 o.id, .int .i64 o.size, .slice C o.stripes.length cc] 80 (0, 0)) := hwa ▸ heap_alloc_new wr _
          have hba : Below wr.heap.size wr wa := hwa ▸ (Below.refl _ wr).alloc (Nat.le_refl _) _
          have hfa : WF w.heap.size (w.heap.size + 1) wr wa := WF.of_below hba
          have hoa := hwr.keep hba
          have hnw : wr.heap.size ≠ w.heap.size + 1 := by have := hwr.lt; omega
          have o0 : wa.cell? ⟨wr.heap.size, 0, none⟩ = some (.string ka) := blk_cell hblka 0
          have hBa := Nat.le_trans hBr hfa.size
          have hlen := oobj_len o (l, false)
          have hshort := fun h => oobj_short (o := o) (s := (l, false)) h
          have hs3 : oobj o (l, false) = ostripes o.stripes (onum o.size 1073741824 4 (onum o.id 1073741824 4 (okey o.key (l, false)))) := rfl
          generalize oobj o (l, false) = s' at hst hlen hshort hs3
          have k1 := okey_len o.key (l, false)
          have C1 := okey_any wa w.heap.size (w.heap.size + 1) (l, false) hoa hBa o.key (by show l.length + 1 + o.key.length ≤ _; have h1 : l.length ≤ 400000 * (j + 1) := hsg2.1; omega)
          rw [hsa] at C1
          generalize okey o.key (l, false) = t1 at k1 C1 hs3
          have k2 := onum_len o.id 1073741824 4 t1
          have D2 := Lib.hid (fun w' (hw' : OutW w' w.heap.size (w.heap.size + 1) t1) (hB' : w.heap.size ≤ w'.heap.size) (hl : t1.1.length + 4 ≤ 141836999983104) => onum_any w' w.heap.size (w.heap.size + 1) t1 hw' hB' o.id 1073741824 4 (by omega) hl)
          generalize onum o.id 1073741824 4 t1 = t2 at k2 D2 hs3
          have k3 := onum_len o.size 1073741824 4 t2
          have D3 := Lib.hid (fun w' (hw' : OutW w' w.heap.size (w.heap.size + 1) t2) (hB' : w.heap.size ≤ w'.heap.size) (hl : t2.1.length + 4 ≤ 141836999983104) => onum_any w' w.heap.size (w.heap.size + 1) t2 hw' hB' o.size 1073741824 4 (by omega) hl)
          generalize onum o.size 1073741824 4 t2 = t3 at k3 D3 hs3
          have D4 := Lib.hid (fun w' (hw' : OutW w' w.heap.size (w.heap.size + 1) t3) (hB' : w.heap.size ≤ w'.heap.size) (hr' : RStripes w' (· < w.heap.size) C o.stripes) (hl : t3.1.length + 300000 ≤ 141836999983104) => ostripes_any w' w.heap.size (w.heap.size + 1) t3 hw' hB' hg C cc o.stripes hr' hMo.2.1 hMo.2.2 hl)
          rw [← hs3] at D4
          have CC1 := Lib.hid C1; have Hst := Lib.hid hst; have Hlen := Lib.hid hlen; have Hshort := Lib.hid hshort; have Hwa := Lib.hid hwa; have Hblka := Lib.hid hblka
          have k1' : t1.1.length ≤ l.length + 1 + o.key.length := k1
          have hl1 : l.length ≤ 400000 * (j + 1) := hsg2.1
          have hj6 := hsg2.2
          clear hs3 C1 hst hlen hshort hwa hblka hwr hoa hown hblk k1 hsa
          have j1 : (j : Int) < (r.objects.length : Int) := by omega
          have j2 : (0 : Int) ≤ (j : Int) := by omega
          go_wp2_with fail
          rw [Hwa.out]
          refine CC1.out.mono ?_
          rintro e wb ⟨rfl, hwb, hfb⟩
          have hblkb := hfb.blk Hblka.out hnw (by decide)
          have o1 : wb.cell? ⟨wr.heap.size, 1, none⟩ = some (.int .i64 o.id) := blk_cell hblkb 1
          have hfab := hfa.trans hfb
          have E2 := Lib.hid (D2.out wb hwb (Nat.le_trans hBr hfab.size) (by omega))
          clear hwb
          go_wp2_with fail
          refine E2.out.mono ?_
          rintro e wc ⟨rfl, hwc, hfc⟩
          have hblkc := hfc.blk hblkb hnw (by decide)
          have o2 : wc.cell? ⟨wr.heap.size, 2, none⟩ = some (.int .i64 o.size) := blk_cell hblkc 2
          have hfac := hfab.trans hfc
          have E3 := Lib.hid (D3.out wc hwc (Nat.le_trans hBr hfac.size) (by omega))
          clear hwc
          go_wp2_with fail
          refine E3.out.mono ?_
          rintro e wd ⟨rfl, hwd, hfd⟩
          have hblkd := hfd.blk hblkc hnw (by decide)
          have o3 : wd.cell? ⟨wr.heap.size, 3, none⟩ = some (.slice C o.stripes.length cc) := blk_cell hblkd 3
          have hfad := hfac.trans hfd
          have E4 := Lib.hid (D4.out wd hwd (Nat.le_trans hBr hfad.size) (hgr.below (hfad.below hg hBr)) (by omega))
          clear hwd
          go_wp2_with fail
          refine E4.out.mono ?_
          rintro e we ⟨rfl, hwe, hfe⟩
          go_wp2_with fail
          go_roundw
          case rel =>
            have hlen : s'.1.length ≤ l.length + o.key.length + 300000 := Hlen.out
            refine ⟨j + 1, s', by omega, by go_num, hwe, hfr.trans (hfad.trans hfe), Lib.hid (by rw [← hinv.out, Hst.out]), by omega, Lib.hid fun h => ⟨?_, hj6⟩⟩
            exact grow_bound hlen hl1 (Hshort.out h)
          case measure => simp [intOf]; omega
      · have Hfin := Lib.hid (show oloop oobj (r.objects.drop j) (l, b) = (l, b) from by rw [List.drop_of_length_le (by omega)]; rfl)
        have j1 : ¬ (j : Int) < (r.objects.length : Int) := by omega
        have hfin : oints r.drives (l, b) = res := by rw [← hinv.out, Hfin.out]
        have hnl := oints_len r.drives (l, b)
        have hdd := oints_any wr w.heap.size (w.heap.size + 1) (l, b) hwr hBr hg A3 c3 r.drives (Hdr.out.below (hfr.below hg hB)) HM6.out (by show l.length + 2000 ≤ _; omega)
        rw [hfin] at hdd hnl
        have Hdd := Lib.hid hdd
        have r6 : wr.cell? ⟨w.heap.size, 6, none⟩ = some (.slice A3 r.drives.length c3) := blk_cell hmr 6
        clear hwr hdd hfin hown hblk
        go_wp2_with fail
        refine Hdd.out.mono ?_
        rintro e w7 ⟨rfl, ⟨x7, hblk7, hown7⟩, hf7⟩
        have hbb : Below w.heap.size w w7 := Hb1.out.trans ((hfr.trans hf7).below hg hB)
        obtain ⟨l7, b7⟩ := res
        dsimp only at hblk7 hown7
        have d1 : w7.cell? ⟨w.heap.size + 1, 1, none⟩ = some (.bool b7) := blk_cell hblk7 1
        have d0 : w7.cell? ⟨w.heap.size + 1, 0, none⟩ = some x7 := blk_cell hblk7 0
        have hq1 : badRec r = b7 := by rw [← Hsp1.out, Hres0.out]
        cases b7 with
        | true =>
          have Hq1 := Lib.hid hq1
          clear hq1
          go_wp2_with fail
          go_ret2
          exact ⟨hbb, .inl ⟨Hq1.out, rfl⟩⟩
        | false =>
          have hq2 : l7 = encRec r := by
            have := Hsp2.out hq1
            rw [Hres0.out] at this
            exact this
          obtain ⟨A7, c7, rfl, hlc7, _, _⟩ := hown7.form
          have Hq1 := Lib.hid hq1; have Hq2 := Lib.hid hq2
          clear hq1 hq2
          by_cases h8 : 8192 < l7.length
          · have h8' : (8192 : Int) < (l7.length : Int) := by omega
            go_wp2_with fail
            go_ret2
            exact ⟨hbb, .inr (.inl ⟨Hq1.out, by rw [← Hq2.out]; exact h8, rfl⟩)⟩
          · have h8' : ¬ (8192 : Int) < (l7.length : Int) := by omega
            go_wp2_with fail
            go_ret2
            refine ⟨hbb, .inr (.inr ⟨Hq1.out, by rw [← Hq2.out]; omega, _, rfl, ?_⟩)⟩
            rw [← Hq2.out]
            exact hown7
end Go.Proofs.Ytmleldgohfcdbaa
