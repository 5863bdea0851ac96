/- law11's WalFull. -/
import Derived.Test.YtmleldgohfcdbaaAns
import Derived.Test.YtmleldgohfcdbaaRefEnc4
import Derived.Test.YtmleldgohfcdbaaSumLaws
namespace Go.Proofs.Ytmleldgohfcdbaa
open Go.RowKit
def recF (v : Int) : PRec := ⟨4, v, 0, [], [], [], List.replicate 200 0⟩
theorem recF_len (v : Int) : (encRec (recF v)).length = 814 := by
  have h : ((List.replicate 200 (0 : Int)).flatMap encW).length = 800 := by decide +kernel
  unfold encRec recF encKey encStripes encInts
  simp only [List.length_append, be_length, encW, h, List.flatMap_nil, List.length_nil]
theorem recF_ok (v : Int) (h0 : 0 ≤ v) (h1 : v ≤ 255) : OkR (recF v) := by
  refine ⟨?_, by rw [recF_len]; decide⟩
  have h : badInts (List.replicate 200 (0 : Int)) = false := by decide +kernel
  have hv : badNum v maxID = false := by unfold badNum maxID; simp; omega
  unfold badRec recF
  simp only [h, hv]
  rfl
theorem recF_ent (v : Int) : (ent (recF v)).length = 822 := by rw [ent_length, recF_len]
theorem ents_rep (r : PRec) (k : Nat) : (ents (List.replicate k r)).length = k * (ent r).length := by
  induction k with
  | zero => simp [ents]
  | succ k ih => rw [List.replicate_succ, ents_cons, List.length_append, ih, Nat.succ_mul]; omega
theorem recF_fits (v : Int) (h0 : 0 ≤ v) (h1 : v ≤ 255) (k : Nat) (hk : k < 19) : roomE false (recF v) (ents (List.replicate k (recF v))).length = 0 :=
  roomE_ok (recF_ok v h0 h1) _ (by rw [ents_rep, recF_ent]; omega)
theorem recF_full (v : Int) (h0 : 0 ≤ v) (h1 : v ≤ 255) : roomE false (recF v) (ents (List.replicate 19 (recF v))).length = 3 := by
  have h := recF_ok v h0 h1
  unfold roomE
  rw [if_neg (by decide), if_neg (by rw [h.1]; decide), if_neg (by have := h.2; omega), if_pos (by rw [ents_rep, recF_ent, recF_len]; decide)]
theorem recF_dl (v : Int) : (recF v).drives.length = 200 := List.length_replicate ..
theorem recF_room (v : Int) : Room (recF v) := ⟨Nat.zero_le _, by simp [recF], Nat.zero_le _, by simp [recF], by rw [recF_dl]; omega, by rw [recF_len]; decide⟩
theorem recF_max (v : Int) : MaxR (recF v) ∧ KeysR (recF v) := ⟨⟨Nat.zero_le _, Nat.zero_le _, by simp [recF], Nat.zero_le _, by simp [recF], by rw [recF_dl]; unfold maxLen; omega⟩, Nat.zero_le _, by simp [recF]⟩
theorem made_zeroI (n : Nat) : (madeCells (Value.int .i64 0).cells (n * 1)).toList = (List.replicate n (0 : Int)).map (Value.int .i64) := by
  apply List.ext_getElem
  · simp [madeCells, Value.cells]
  · intro i h1 h2
    simp [madeCells, Value.cells, Nat.mod_one]
set_option maxRecDepth 100000 in
set_option maxHeartbeats 2000000 in
theorem walFull_any (w : World) (v : Int) (hwf : (Lit.int .u8 v).wf = true) :
    Calls Try.prog 13 #[.int .u8 v] w fun e w' => e = .returned (.bool true) ∧ Below w.heap.size w w' := by
  obtain ⟨v0, v1⟩ : 0 ≤ v ∧ v ≤ 255 := by obtain ⟨a, b⟩ := wf_u8 hwf; exact ⟨a, by omega⟩
  clear hwf
  obtain ⟨gp, hgp⟩ : ∃ gp, gp = w.heap.size := ⟨_, rfl⟩
  have hnew := new_clean w
  unfold NewPost at hnew
  rw [← hgp] at hnew
  have Hgp := Lib.hid hgp
  clear hgp
  obtain ⟨i0, hi, hz0, hz1, hz2⟩ := info_parts info_int
  go_enter Try.func13, Try.ntmps13
  go_wp2_with fail
  refine hnew.mono ?_
  rintro e w1 ⟨rfl, ht1, hb1, hg1⟩
  have Hopen1 := Lib.hid (open_clean w1 gp (· ≠ gp) [] ht1 (fun k hk => by show k ≠ gp; omega) (fun k hk => hk) (by simp) (by decide))
  clear ht1
  go_wp2_with fail
  refine Hopen1.out.mono ?_
  rintro e w2 ⟨q, vl, vs, rfl, hgr2, hq1, hq2, hwal2, -, -⟩
  have Hwal2 := Lib.hid hwal2
  clear hwal2
  go_wp2_with (at_make; refine wpList_make_full w2 rfl (.const (.int .i64 200)) (.const (.int .i64 200)) 49 rfl w2.heap.size 3 i0 _ 1 Try.underlying49 hi hz0 hz1 .i64 .i64 200 200 200 rfl rfl rfl rfl (by rw [hz2]; omega) (by unfold maxLen; omega) (Nat.le_refl _) ?_; intro w3 hown3 hg3)
  have hrv := rvb_of_own hown3
  have hs3 := hg3.size
  have h23 : w2.heap.size < w3.heap.size := by obtain ⟨g', c', hv', _, hlt', _⟩ := owns_some hown3 (by omega); injection hv' with hv' _ _; injection hv' with hv' ; injection hv' with hv' _ _; omega
  obtain ⟨w4, hw4⟩ : ∃ w4, w3.alloc (.cells #[.int .i64 4, .int .i64 v, .int .i64 0, .string ⟨#[]⟩, .slice none 0 0, .slice none 0 0, .slice (some ⟨w2.heap.size, 0, none⟩) 200 200] 51) = w4 := ⟨_, rfl⟩
  have hb34 : Below w3.heap.size w3 w4 := hw4 ▸ (Below.refl _ w3).alloc (Nat.le_refl _) _
  have hm4 : w4.heap[w3.heap.size]? = some (.cells #[.int .i64 4, .int .i64 v, .int .i64 0, .string ⟨#[]⟩, .slice none 0 0, .slice none 0 0, .slice (some ⟨w2.heap.size, 0, none⟩) 200 200] 51 (0, 0)) := hw4 ▸ heap_alloc_new w3 _
  have hcs : w3.ownsRow w2.heap.size 3 1 (.slice (some ⟨w2.heap.size, 0, none⟩) 200 200) 200 ((List.replicate 200 (0 : Int)).map (.int .i64)) := by
    rw [← made_zeroI 200]
    exact hown3
  have hri : RI w3 (InT w3 [3]) (some ⟨w2.heap.size, 0, none⟩) (List.replicate 200 0) := rvb_of_own hcs
  have hrec3 : RecVal w3 (fun k => k ≠ gp ∧ k ≠ q) (recF v) [.int .i64 4, .int .i64 v, .int .i64 0, .string ⟨#[]⟩, .slice none 0 0, .slice none 0 0, .slice (some ⟨w2.heap.size, 0, none⟩) 200 200] :=
    ⟨none, 0, none, 0, _, 200, rfl, Nat.le_refl _, Nat.le_refl _, by rw [recF_dl]; omega, ⟨[], rfl, RVb.none_⟩, ⟨[], rfl, RVb.none_⟩, by
      intro j hj
      obtain ⟨ad, e, _, hc⟩ := hri j hj
      injection e with e
      subst e
      exact ⟨_, rfl, ⟨by show w2.heap.size ≠ gp; omega, by show w2.heap.size ≠ q; omega⟩, hc⟩⟩
  have hrec4 := hrec3.keep (w' := w4) fun k hk _ => hb34.block k hk
  have henc : Calls Try.prog 34 #[.agg #[.int .i64 4, .int .i64 v, .int .i64 0, .string ⟨#[]⟩, .slice none 0 0, .slice none 0 0, .slice (some ⟨w2.heap.size, 0, none⟩) 200 200]] w4 fun e w' => ∃ A5 c5, e = .returned (.tuple #[.slice A5 814 c5, .int .i64 0]) ∧ Below w4.heap.size w4 w' :=
    (refEncode_any w4 (recF v) [.int .i64 4, .int .i64 v, .int .i64 0, .string ⟨#[]⟩, .slice none 0 0, .slice none 0 0, .slice (some ⟨w2.heap.size, 0, none⟩) 200 200] (hrec4.imp fun k hk _ => hk) (recF_max v).1 (recF_max v).2).mono fun e w' h => by
      have hok := recF_ok v v0 v1
      have hln := recF_len v
      obtain ⟨h1, ⟨h2, _⟩ | ⟨_, h2, _⟩ | ⟨_, _, sv', h3, h4⟩⟩ := h
      · rw [hok.1] at h2; cases h2
      · omega
      · obtain ⟨A5, c5, rfl, _, _, _⟩ := h4.form
        rw [hln] at h3
        exact ⟨A5, c5, h3, h1⟩
  have Hw4 := Lib.hid hw4; have Hm4 := Lib.hid hm4; have Hrec4 := Lib.hid hrec4; have Henc := Lib.hid henc
  clear hw4 hm4 hrec3 hrec4 henc hri hcs hrv hown3 hi hz0 hz1 hz2 hnew
  have Hg3 := Lib.hid hg3; have Hgr2 := Lib.hid hgr2; have Hb34 := Lib.hid hb34
  clear hg3 hgr2 hb34
  go_wp2_with fail
  rw [Hw4.out]
  refine Henc.out.mono ?_
  rintro e w5 ⟨A5, c5, rfl, hb45⟩
  have h34 := Hb34.out.size
  have hw25 : Below w2.heap.size w2 w5 := by
    have h1 : Below w2.heap.size w2 w3 := (Below.refl _ w2).grown Hg3.out (Nat.le_refl _) (by simp)
    exact h1.trans ((Hb34.out.mono hs3).trans (hb45.mono (Nat.le_trans hs3 h34)))
  have hwal5 : WalAt w5 q gp (Pgq gp q) (lg (List.replicate 0 (recF v))) := by
    have h1 := Hwal2.out
    exact ⟨h1.1.keep (hw25.block gp (by omega)) fun k hk _ => hw25.block k hk, (hw25.block q hq2).trans h1.2⟩
  have hm5 := (hb45.block w3.heap.size (blk_lt Hm4.out)).trans Hm4.out
  have hrec5 := Hrec4.out.keep (w' := w5) fun k hk _ => hb45.block k hk
  have Hm5 := Lib.hid hm5; have Hrec5 := Lib.hid hrec5; have Hwal5 := Lib.hid hwal5
  clear hm5 hrec5 hwal5
  go_wp2_with fail
  have h35 : w3.heap.size < w5.heap.size := blk_lt Hm5.out
  have hgq : gp ≠ q := by omega
  go_loopw [11] (fun i wr => ∃ k : Nat, k ≤ 20 ∧ i = .int .i64 k ∧ Hid (WalAt wr q gp (Pgq gp q) (lg (List.replicate (min k 19) (recF v)))) ∧ Two gp q w5 wr) (fun i _ => 20 - (intOf i).toNat)
  case atStart => exact ⟨0, by omega, rfl, Lib.hid Hwal5.out, ⟨rfl, rfl, rfl, Nat.le_refl _, fun _ _ _ _ => rfl⟩⟩
  case round =>
    obtain ⟨k, hk, rfl, hwal, htwo⟩ := hrel
    have hszr := htwo.size
    have hmr := (htwo.block w3.heap.size h35 (by omega) (by omega)).trans Hm5.out
    have hrecr := RecVal.imp (P' := (· < wr.heap.size)) (Hrec5.out.keep (w' := wr) fun k hk hp => htwo.block k hk hp.1 hp.2) fun k hk _ => hk
    have hPr : ∀ k, wr.heap.size ≤ k → Pgq gp q k := fun k hk => ⟨by omega, by omega⟩
    have m0 : wr.cell? ⟨w3.heap.size, 0, none⟩ = some (.int .i64 4) := blk_cell hmr 0
    have m1 : wr.cell? ⟨w3.heap.size, 1, none⟩ = some (.int .i64 v) := blk_cell hmr 1
    have m2 : wr.cell? ⟨w3.heap.size, 2, none⟩ = some (.int .i64 0) := blk_cell hmr 2
    have m3 : wr.cell? ⟨w3.heap.size, 3, none⟩ = some (.string ⟨#[]⟩) := blk_cell hmr 3
    have m4 : wr.cell? ⟨w3.heap.size, 4, none⟩ = some (.slice none 0 0) := blk_cell hmr 4
    have m5 : wr.cell? ⟨w3.heap.size, 5, none⟩ = some (.slice none 0 0) := blk_cell hmr 5
    have m6 : wr.cell? ⟨w3.heap.size, 6, none⟩ = some (.slice (some ⟨w2.heap.size, 0, none⟩) 200 200) := blk_cell hmr 6
    have Hrecr := Lib.hid hrecr; have Hmr := Lib.hid hmr
    clear hrecr hmr
    by_cases hk19 : k < 19
    · have hw0 := hwal.out
      rw [Nat.min_eq_left (by omega)] at hw0
      have Happ := Lib.hid (append_clean wr q gp (Pgq gp q) (List.replicate k (recF v)) hw0 hPr (fun k hk => hk) (by omega) (recF v) (recF_room v) _ Hrecr.out (recF_fits v v0 v1 k hk19) (by rw [ents_rep, recF_ent]; omega))
      have k1 : (k : Int) < 19 := by omega
      have k2 : (k : Int) ≤ 19 := by omega
      clear hw0
      go_wp2_with fail
      refine Happ.out.mono ?_
      rintro e w6 ⟨rfl, hwal6, htwo6⟩
      have Hwal6 := Lib.hid hwal6
      clear hwal6
      go_wp2_with fail
      go_roundw
      case rel =>
        refine ⟨k + 1, by omega, by go_num, Lib.hid ?_, htwo.trans htwo6⟩
        rw [Nat.min_eq_left (by omega), List.replicate_succ']
        exact Hwal6.out
      case measure => simp [intOf]; omega
    · by_cases hk20 : k < 20
      · have hke : k = 19 := by omega
        subst hke
        have hw0 := hwal.out
        rw [Nat.min_self] at hw0
        have happ := append_no wr q gp (Pgq gp q) (List.replicate 19 (recF v)) hw0 hPr (fun k hk => hk) (by omega) (recF v) (recF_room v) _ Hrecr.out (by rw [recF_full v v0 v1]; decide) (by rw [ents_rep, recF_ent]; omega)
        rw [recF_full v v0 v1] at happ
        have Happ := Lib.hid happ
        clear hw0 happ
        go_wp2_with fail
        refine Happ.out.mono ?_
        rintro e w6 ⟨rfl, hwal6, htwo6⟩
        have Hwal6 := Lib.hid hwal6
        clear hwal6
        go_wp2_with fail
        go_roundw
        case rel => exact ⟨20, by omega, rfl, Lib.hid Hwal6.out, htwo.trans htwo6⟩
        case measure => simp [intOf]
      · have hke : k = 20 := by omega
        subst hke
        have hw0 := hwal.out
        rw [show min 20 19 = 19 from rfl] at hw0
        have Hchk := Lib.hid (check_clean wr q gp (Pgq gp q) (List.replicate 19 (recF v)) hw0 hPr (fun k hk => hk) (by omega) (recF v) (recF_room v) _ Hrecr.out (roomE_ok (recF_ok v v0 v1) _ (by rw [recF_ent]; omega)) (by rw [ents_rep, recF_ent]; omega))
        clear hw0
        go_wp2_with fail
        refine Hchk.out.mono ?_
        rintro e w6 ⟨rfl, hwal6, htwo6⟩
        have htwo56 := htwo.trans htwo6
        have hm6 := (htwo56.block w3.heap.size h35 (by omega) (by omega)).trans Hm5.out
        have hs6 := htwo6.size
        have hrec6 := RecVal.imp (P' := (· < w6.heap.size)) (Hrec5.out.keep (w' := w6) fun k hk hp => htwo56.block k hk hp.1 hp.2) fun k hk _ => hk
        have Happ := Lib.hid (append_clean w6 q gp (Pgq gp q) [recF v] hwal6 (fun k hk => ⟨by omega, by omega⟩) (fun k hk => hk) (by omega) (recF v) (recF_room v) _ hrec6 (recF_fits v v0 v1 1 (by omega)) (by rw [show [recF v] = List.replicate 1 (recF v) from rfl, ents_rep, recF_ent]; omega))
        have n0 : w6.cell? ⟨w3.heap.size, 0, none⟩ = some (.int .i64 4) := blk_cell hm6 0
        have n1 : w6.cell? ⟨w3.heap.size, 1, none⟩ = some (.int .i64 v) := blk_cell hm6 1
        have n2 : w6.cell? ⟨w3.heap.size, 2, none⟩ = some (.int .i64 0) := blk_cell hm6 2
        have n3 : w6.cell? ⟨w3.heap.size, 3, none⟩ = some (.string ⟨#[]⟩) := blk_cell hm6 3
        have n4 : w6.cell? ⟨w3.heap.size, 4, none⟩ = some (.slice none 0 0) := blk_cell hm6 4
        have n5 : w6.cell? ⟨w3.heap.size, 5, none⟩ = some (.slice none 0 0) := blk_cell hm6 5
        have n6 : w6.cell? ⟨w3.heap.size, 6, none⟩ = some (.slice (some ⟨w2.heap.size, 0, none⟩) 200 200) := blk_cell hm6 6
        clear hwal6 hrec6 hm6 m0 m1 m2 m3 m4 m5 m6
        go_wp2_with fail
        refine Happ.out.mono ?_
        rintro e w7 ⟨rfl, hwal7, htwo7⟩
        have htwo57 := htwo56.trans htwo7
        have hs7 := htwo7.size
        have hl2 : (ents ([recF v] ++ [recF v])).length = 1644 := by
          rw [show [recF v] ++ [recF v] = List.replicate 2 (recF v) from rfl, ents_rep, recF_ent]
        have Hopen := Lib.hid (open_clean w7 gp (Pgq gp q) ([recF v] ++ [recF v]) hwal7.1 (fun k hk => ⟨by omega, by omega⟩) (fun k hk => hk.1) (by intro r hr; simp at hr; subst hr; exact recF_ok v v0 v1) (by rw [hl2]; omega))
        have Hlog7 := Lib.hid hwal7.2
        have Hl2 := Lib.hid hl2
        clear hwal7 hl2 n0 n1 n2 n3 n4 n5 n6
        go_wp2_with fail
        refine Hopen.out.mono ?_
        rintro e w8 ⟨q8, v8, vs8, rfl, hgr8, hq81, hq82, -, hown8, -⟩
        obtain ⟨V8, c8, rfl⟩ : ∃ V8 c8, v8 = .slice V8 2 c8 := by
          obtain ⟨g', c', hv', -⟩ := owns_some hown8 (by simp)
          exact ⟨_, _, hv'⟩
        have hq8 : q < w7.heap.size := by omega
        have hsz8 := hgr8.size
        have hlog8 := (hgr8.block q hq8 (by simp; omega)).trans Hlog7.out
        have Hlog8 := Lib.hid hlog8
        clear hlog8 hown8
        go_wp2_with fail
        refine (answers11_any w8).mono ?_
        rintro e w9 ⟨rfl, hb9⟩
        have hsize := size_any w9 q gp _ _ ((hb9.block q (by omega)).trans Hlog8.out)
        rw [show (lg ([recF v] ++ [recF v])).size = 1644 from Hl2.out] at hsize
        have Hsize := Lib.hid hsize
        clear hsize
        go_wp2_with fail
        refine Hsize.out.mono ?_
        rintro e w' ⟨rfl, rfl⟩
        go_wp2_with fail
        go_ret
        have hgp := Hgp.out
        have e2 : Below gp w1 w2 := below_grown Hgr2.out (Nat.le_refl _) (by omega)
        have e5 : Below gp w2 w5 := hw25.mono (by omega)
        have e7 : Below gp w5 w7 := htwo57.below (Nat.le_refl _) (by omega) (by omega)
        have e8 : Below gp w7 w8 := below_grown hgr8 (Nat.le_refl _) (by omega)
        have hbf := hb1.trans (e2.trans (e5.trans (e7.trans (e8.trans (hb9.mono (by omega))))))
        rw [hgp] at hbf
        exact ⟨rfl, hbf⟩
end Go.Proofs.Ytmleldgohfcdbaa
