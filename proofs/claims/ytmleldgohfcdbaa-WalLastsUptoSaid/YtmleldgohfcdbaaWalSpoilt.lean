/- law11's WalSpoilt. -/
import Derived.Test.YtmleldgohfcdbaaAns
import Derived.Test.YtmleldgohfcdbaaRefList
namespace Go.Proofs.Ytmleldgohfcdbaa
set_option linter.unusedVariables false
set_option linter.unusedSimpArgs false
open Go.RowKit
/-- The types of the rows that a list of records has. -/
def listTs : List TypeId := [3, 78, 80, 51]
theorem recs_of_own {w : World} {base : Nat} {v : Value} {l : List PRec} {vs : List Value} (h : w.ownsRow base 51 7 v l.length vs) (hr : RowsOf (RRec w) l vs) :
    ∃ A c, v = .slice A l.length c ∧ l.length ≤ c ∧ RRecs w (InT w listTs) A l := by
  have hr2 : RowsOf (RecVal w (InT w listTs)) l vs := hr.mono fun _ _ h => RecVal.imp h fun _ _ hk => hk.imp (by decide)
  rcases h.2 with ⟨rfl, hn⟩ | ⟨g, cap, cur, rfl, hb, hg, hnc, -⟩
  · have : l = [] := List.eq_nil_of_length_eq_zero hn
    subst this
    exact ⟨none, 0, rfl, Nat.le_refl _, vs, hr2, by rw [show vs = [] from hr]; exact RVb.none_⟩
  · exact ⟨_, _, rfl, hnc, vs, hr2, (rvb_of_own h).imp fun _ _ hk => hk.imp (by decide)⟩
theorem OkR.len {r : PRec} (h : OkR r) : LenR r := by
  have hs : ∀ l : List PStripe, badStripes l = false → l.length ≤ 140737488355328 ∧ ∀ s ∈ l, s.locs.length ≤ 140737488355328 := by
    intro l h
    unfold badStripes at h
    rw [Bool.or_eq_false_iff] at h
    refine ⟨by have := badNum_iff h.1; omega, fun s hs => ?_⟩
    have h2 := any_false h.2 s hs
    unfold badStripe badInts at h2
    simp only [Bool.or_eq_false_iff] at h2
    have := badNum_iff h2.2.1
    omega
  obtain ⟨h, -⟩ := h
  unfold badRec at h
  simp only [Bool.or_eq_false_iff] at h
  obtain ⟨⟨⟨⟨⟨⟨⟨⟨-, -⟩, -⟩, -⟩, -⟩, h5⟩, h6⟩, h7⟩, h8⟩ := h
  refine ⟨(hs _ h5).1, (hs _ h5).2, by have := badNum_iff h6; omega, fun o ho => ?_, ?_⟩
  · have h9 := any_false h7 o ho
    unfold badObj at h9
    rw [Bool.or_eq_false_iff] at h9
    exact hs _ h9.2
  · unfold badInts at h8
    rw [Bool.or_eq_false_iff] at h8
    have := badNum_iff h8.1
    omega
def spT (a b : List UInt8) : TTape := ⟨⟨a, [], false, false, false⟩, ⟨b, [], false, false, false⟩, -1, false⟩
theorem openT_sp (a b : List UInt8) : openT (spT a b) = (cleanT (bestOf a b).2, 0) := by
  have hb : (spT a b).best = bestOf a b := rfl
  have h0 : (spT a b).s0.seen = a := rfl
  have h1 : (spT a b).s1.seen = b := rfl
  have h2 : (spT a b).s0.lost = false := rfl
  have h3 : (spT a b).s1.lost = false := rfl
  unfold openT
  rw [hb, h0, h1, h2, h3]
  generalize (bestOf a b).2 = x
  rw [if_neg (by decide)]
  by_cases h : a = x
  · by_cases h' : b = x
    · subst h
      subst h'
      rw [beq_self_eq_true, if_neg (by decide)]
      rfl
    · have : (b == x) = false := by rw [beq_eq_false_iff_ne]; exact h'
      rw [this, if_pos (by simp)]
      rfl
  · have : (a == x) = false := by rw [beq_eq_false_iff_ne]; exact h
    rw [this, if_pos (by simp)]
    rfl
theorem bestOf_ok (a b : List UInt8) : (∀ r ∈ (bestOf a b).1, OkR r) ∧ (bestOf a b).2.length ≤ max a.length b.length := by
  unfold bestOf
  split
  · exact ⟨(scanOf_inv b).1, by simp; omega⟩
  · exact ⟨(scanOf_inv a).1, by simp; omega⟩
theorem ents_count (l : List PRec) : l.length ≤ (ents l).length := by
  induction l with
  | nil => simp [ents]
  | cons r l ih =>
    rw [ents_cons, List.length_append, List.length_cons, ent_length]
    omega
theorem scanOf_count (b : List UInt8) : (scanOf b).1.length ≤ (scanOf b).2 := by
  rw [(scanOf_inv b).2.1]
  exact ents_count _
def GotPost (w : World) (z : List UInt8) (e : Ending) (w' : World) : Prop := ∃ v, e = .returned (.tuple #[v, .int .i64 0]) ∧ OwnB w' w.heap.size v z ∧ Below w.heap.size w w'
theorem read0_clean (w : World) (g : Nat) (P : Nat → Prop) (z : List UInt8) (h : TapeAt w g P (cleanT z)) (hz : z.length ≤ 100000000000000) : Calls Try.prog 37 #[.pointer (some ⟨g, 0, none⟩), .int .i64 0] w (GotPost w z) :=
  (read0_any w g P (cleanT z) h hz).mono fun e w' ⟨h1, h2⟩ => by
    obtain ⟨v, h3, h4⟩ : ∃ v, e = .returned (.tuple #[v, .int .i64 0]) ∧ OwnB w' w.heap.size v z := h2
    exact ⟨v, h3, h4, h1⟩
theorem read1_clean (w : World) (g : Nat) (P : Nat → Prop) (z : List UInt8) (h : TapeAt w g P (cleanT z)) (hz : z.length ≤ 100000000000000) : Calls Try.prog 37 #[.pointer (some ⟨g, 0, none⟩), .int .i64 1] w (GotPost w z) :=
  (read1_any w g P (cleanT z) h hz).mono fun e w' ⟨h1, h2⟩ => by
    obtain ⟨v, h3, h4⟩ : ∃ v, e = .returned (.tuple #[v, .int .i64 0]) ∧ OwnB w' w.heap.size v z := h2
    exact ⟨v, h3, h4, h1⟩
set_option maxRecDepth 100000 in
set_option maxHeartbeats 2000000 in
theorem walSpoilt_any (w : World) (A : Option Addr) (c : Nat) (a : List UInt8) (hac : a.length ≤ c) (hra : RB w A a) (B : Option Addr) (d : Nat) (b : List UInt8) (hbd : b.length ≤ d) (hrb : RB w B b) :
    Calls Try.prog 14 #[.slice A a.length c, .slice B b.length d] w fun e w' => e = .returned (.bool true) ∧ Below w.heap.size w w' := by
  have Hac := Lib.hid hac; have Hbd := Lib.hid hbd
  clear hac hbd
  by_cases h3 : 3000 < a.length ∨ 3000 < b.length
  · by_cases h31 : 3000 < a.length
    · go_enter Try.func14, Try.ntmps14
      go_wp2_with fail
      refine (answers11_any _).mono ?_
      rintro e w1 ⟨rfl, hb1⟩
      go_wp2_with fail
      go_ret
      exact ⟨rfl, hb1⟩
    · have h32 : 3000 < b.length := by omega
      go_enter Try.func14, Try.ntmps14
      go_wp2_with fail
      refine (answers11_any _).mono ?_
      rintro e w1 ⟨rfl, hb1⟩
      go_wp2_with fail
      go_ret
      exact ⟨rfl, hb1⟩
  have h31 : ¬ 3000 < a.length := by omega
  have h32 : ¬ 3000 < b.length := by omega
  clear h3
  obtain ⟨gp, hgp⟩ : ∃ gp, gp = w.heap.size := ⟨_, rfl⟩
  have hnew := new_clean w
  unfold NewPost at hnew
  rw [← hgp] at hnew
  have Hgp := Lib.hid hgp
  have Hra := Lib.hid hra; have Hrb := Lib.hid hrb
  have hwin : ∀ w', Below gp w w' → RB w' A a ∧ RB w' B b := fun w' h => by rw [hgp] at h; exact ⟨hra.below h, hrb.below h⟩
  clear hgp hra hrb
  have hbok := bestOf_ok a b
  have Hbok := Lib.hid hbok
  clear hbok
  go_enter Try.func14, Try.ntmps14
  go_wp2_with fail
  refine hnew.mono ?_
  rintro e w1 ⟨rfl, ht1, hb1, hg1⟩
  have Hs0 := Lib.hid (spoil0_any w1 gp (· ≠ gp) _ ht1 (fun k hk => by show k ≠ gp; omega) (fun k hk => hk) A c a (hwin w1 hb1).1 (by omega))
  clear ht1
  go_wp2_with fail
  refine Hs0.out.mono ?_
  rintro e w2 ⟨rfl, ht2, hgr2⟩
  have hb2 : Below gp w w2 := hb1.trans (below_grown hgr2 (Nat.le_refl _) (by omega))
  have hg2 : gp < w2.heap.size := by have := hgr2.size; omega
  have Hs1 := Lib.hid (spoil1_any w2 gp (· ≠ gp) _ ht2 (fun k hk => by show k ≠ gp; omega) (fun k hk => hk) B d b (hwin w2 hb2).2 (by omega))
  clear ht2
  go_wp2_with fail
  refine Hs1.out.mono ?_
  rintro e w3 ⟨rfl, ht3, hgr3⟩
  have hb3 : Below gp w w3 := hb2.trans (below_grown hgr3 (Nat.le_refl _) (by omega))
  have hg3 : gp < w3.heap.size := by have := hgr3.size; omega
  have ht3' : TapeAt w3 gp (· ≠ gp) (spT a b) := ht3
  have hop := wopen_any w3 gp (· ≠ gp) (spT a b) ht3' (fun k hk => by show k ≠ gp; omega) (fun k hk => hk) (by show (-1 : Int) ≤ _; omega) (by show a.length + 0 ≤ _; omega) (by show b.length + 0 ≤ _; omega)
  rw [openT_sp, show (spT a b).best = bestOf a b from rfl] at hop
  obtain ⟨bl, bb⟩ : ∃ be, be = bestOf a b := ⟨_, rfl⟩
  rw [← bb] at hop Hbok
  have Hbb := Lib.hid bb
  have Hop := Lib.hid hop
  clear hop ht3 ht3' bb
  go_wp2_with fail
  refine Hop.out.mono ?_
  rintro e w4 ⟨hgr4, ⟨h, -⟩ | ⟨-, q, v, vs, rfl, hq1, ht4, -, hown4, hrows4⟩⟩
  · exact absurd rfl h
  have hb4 : Below gp w w4 := hb3.trans (below_grown hgr4 (Nat.le_refl _) (by omega))
  have hg4 : gp < w4.heap.size := by have := hgr4.size; omega
  obtain ⟨V, vc, rfl, hvc, hrv⟩ := recs_of_own hown4 hrows4
  have Ht4 := Lib.hid ht4; have Hrv := Lib.hid hrv
  have Hq1 := Lib.hid hq1
  have Hsc1 := Lib.hid (scan_any A c w4 a (by omega) Hac.out (hwin w4 hb4).1)
  clear hown4 hrows4 ht4 hrv hq1
  go_wp2_with fail
  refine Hsc1.out.mono ?_
  rintro e w5 ⟨v0, vs0, rfl, hown5, hrows5, hb5'⟩
  have hb5 : Below gp w w5 := hb4.trans (hb5'.mono (by omega))
  obtain ⟨X, xc, rfl, hxc, hrx⟩ := recs_of_own hown5 hrows5
  have Hrx := Lib.hid hrx
  have Hsc2 := Lib.hid (scan_any B d w5 b (by omega) Hbd.out (hwin w5 hb5).2)
  clear hown5 hrows5 hrx
  go_wp2_with fail
  refine Hsc2.out.mono ?_
  rintro e w6 ⟨v1, vs1, rfl, hown6, hrows6, hb6'⟩
  have hg5 : gp < w5.heap.size := by have := hb5'.size; omega
  have hb6 : Below gp w w6 := hb5.trans (hb6'.mono (by omega))
  obtain ⟨Y, yc, rfl, hyc, hry⟩ := recs_of_own hown6 hrows6
  have Hry := Lib.hid hry
  clear hown6 hrows6 hry
  have hg6 : gp < w6.heap.size := by have := hb6'.size; omega
  have hb46 : Below w4.heap.size w4 w6 := hb5'.trans (hb6'.mono hb5'.size)
  have hrv6 : RRecs w6 (InT w6 listTs) V bl.1 := Hrv.out.same (SameT.of_below hb46)
  have hrx6 : RRecs w6 (InT w6 listTs) X (scanOf a).1 := Hrx.out.same (SameT.of_below hb6')
  have hry6 := Hry.out
  have ht6 := Ht4.out.keep (hb46.block gp hg4) (fun k hk _ => hb46.block k hk)
  have hna := scanOf_le a
  have hca := scanOf_count a
  have hcb := scanOf_count b
  have hnb := scanOf_le b
  have hbl : bl = (if (scanOf a).2 < (scanOf b).2 then ((scanOf b).1, b.take (scanOf b).2) else ((scanOf a).1, a.take (scanOf a).2)) := Hbb.out
  have hab6 := hwin w6 hb6
  have Hrv6 := Lib.hid hrv6; have Hrx6 := Lib.hid hrx6; have Hry6 := Lib.hid hry6; have Ht6 := Lib.hid ht6; have Hbl := Lib.hid hbl; have Hab6 := Lib.hid hab6; have Hbok2 := Lib.hid Hbok.out
  clear hrv6 hrx6 hry6 ht6 hbl hab6 Hrv Hrx Hry Ht4 Hbb Hbok
  generalize scanOf a = sa at *
  generalize scanOf b = sb at *
  obtain ⟨la, na⟩ := sa
  obtain ⟨lb, nb⟩ := sb
  dsimp only at Hrx6 Hry6 Hbl hna hnb hca hcb
  have hnc : na ≤ c := Nat.le_trans hna Hac.out
  have hnd : nb ≤ d := Nat.le_trans hnb Hbd.out
  by_cases hgt : na < nb
  · have hbl : bl = (lb, b.take nb) := by rw [Hbl.out, if_pos hgt]
    subst hbl
    obtain ⟨z, hz⟩ : ∃ z, b.take nb = z := ⟨_, rfl⟩
    have hzl : z.length = nb := by rw [← hz, List.length_take]; omega
    have Hrz := Lib.hid (show RB w6 B z from hz ▸ (Hab6.out.2).take nb)
    have hok := Hbok2.out
    rw [hz] at Ht6 hok
    have Hok := Lib.hid hok
    clear Hbl Hbok2 Hab6 hok hz
    subst hzl
    have Hr0 := Lib.hid (read0_clean w6.drew.drew gp (fun k => k ≠ gp ∧ k ≠ q) z Ht6.out (by omega))
    go_wp2_with fail
    go_region
    go_wp2_with fail
    go_region
    go_wp2_with fail
    refine Hr0.out.mono ?_
    rintro e w7 ⟨v7, rfl, hown7, hb7'⟩
    have hb67 : Below w6.heap.size w6 w7 := ⟨hb7'.os, hb7'.tape, hb7'.output, hb7'.size, hb7'.block⟩
    obtain ⟨C7, c7, rfl, hlc7, _, hr7⟩ := hown7.form
    have Hr1 := Lib.hid (read1_clean w7 gp (fun k => k ≠ gp ∧ k ≠ q) z (TapeAt.keep (t := cleanT z) Ht6.out (hb67.block gp hg6) (fun k hk _ => hb67.block k hk)) (by omega))
    have Hr7 := Lib.hid hr7
    clear hown7 hr7
    go_wp2_with fail
    refine Hr1.out.mono ?_
    rintro e w8 ⟨v8, rfl, hown8, hb8'⟩
    obtain ⟨D8, d8, rfl, hld8, _, hr8⟩ := hown8.form
    have Hr8 := Lib.hid hr8
    clear hown8 hr8
    go_wp2_with fail
    refine (answers11_any w8).mono ?_
    rintro e w9 ⟨rfl, hb9'⟩
    have hb68 : Below w6.heap.size w6 w8 := hb67.trans (hb8'.mono hb67.size)
    have hb69 : Below w6.heap.size w6 w9 := hb68.trans (hb9'.mono hb68.size)
    have hb79 : Below w7.heap.size w7 w9 := hb8'.trans (hb9'.mono hb8'.size)
    have hsm := lawSame_any V Y vc yc w9 lb lb (by omega) (by omega) hvc hyc (fun r hr => (Hok.out.1 r hr).len) (fun r hr => (Hok.out.1 r hr).len) (RRecs.imp (RRecs.same Hrv6.out (SameT.of_below hb69)) fun _ hk _ => hk) (RRecs.imp (Hry6.out.same (SameT.of_below hb69)) fun _ hk _ => hk)
    have hsm2 : Calls Try.prog 30 #[.slice V lb.length vc, .slice Y lb.length yc] w9 fun e w' => e = .returned (.bool true) ∧ Below w9.heap.size w9 w' := hsm.mono fun e w' ⟨h1, h2⟩ => ⟨by rw [h1, eqB_true rfl], h2⟩
    have Hsm := Lib.hid hsm2
    clear hsm hsm2
    go_wp2_with fail
    refine Hsm.out.mono ?_
    rintro e w10 ⟨rfl, hb10'⟩
    have hb710 := hb79.trans (hb10'.mono hb79.size)
    have hb610 := hb69.trans (hb10'.mono hb69.size)
    have hb810 : Below w8.heap.size w8 w10 := hb9'.trans (hb10'.mono hb9'.size)
    have hq1 := same_any C7 B c7 d w10 z z (by omega) (by omega) (Hr7.out.below hb710) (Hrz.out.below hb610)
    have hq2 := fun j => same_any D8 B d8 d (w10.drewN j) z z (by omega) (by omega) ((Hr8.out.below hb810).drewN j) ((Hrz.out.below hb610).drewN j)
    rw [beq_self_eq_true] at hq1
    simp only [beq_self_eq_true] at hq2
    have Hq1 := Lib.hid hq1; have Hq2 := Lib.hid hq2
    clear hq1 hq2
    go_wp2_with fail
    refine Hq1.out.mono ?_
    rintro e w11 ⟨rfl, n1, rfl⟩
    go_wp2_with fail
    refine (Hq2.out n1).mono ?_
    rintro e w12 ⟨rfl, n2, rfl⟩
    go_wp2_with fail
    go_ret
    have hbf : Below gp w w10 := hb6.trans (hb610.mono (by omega))
    rw [Hgp.out] at hbf
    exact ⟨rfl, ⟨hbf.os, hbf.tape, hbf.output, hbf.size, hbf.block⟩⟩
  · have hbl : bl = (la, a.take na) := by rw [Hbl.out, if_neg hgt]
    subst hbl
    obtain ⟨z, hz⟩ : ∃ z, a.take na = z := ⟨_, rfl⟩
    have hzl : z.length = na := by rw [← hz, List.length_take]; omega
    have Hrz := Lib.hid (show RB w6 A z from hz ▸ (Hab6.out.1).take na)
    have hok := Hbok2.out
    rw [hz] at Ht6 hok
    have Hok := Lib.hid hok
    clear Hbl Hbok2 Hab6 hok hz
    subst hzl
    have Hr0 := Lib.hid (read0_clean w6.drew gp (fun k => k ≠ gp ∧ k ≠ q) z Ht6.out (by omega))
    go_wp2_with fail
    go_region
    go_wp2_with fail
    refine Hr0.out.mono ?_
    rintro e w7 ⟨v7, rfl, hown7, hb7'⟩
    have hb67 : Below w6.heap.size w6 w7 := ⟨hb7'.os, hb7'.tape, hb7'.output, hb7'.size, hb7'.block⟩
    obtain ⟨C7, c7, rfl, hlc7, _, hr7⟩ := hown7.form
    have Hr1 := Lib.hid (read1_clean w7 gp (fun k => k ≠ gp ∧ k ≠ q) z (TapeAt.keep (t := cleanT z) Ht6.out (hb67.block gp hg6) (fun k hk _ => hb67.block k hk)) (by omega))
    have Hr7 := Lib.hid hr7
    clear hown7 hr7
    go_wp2_with fail
    refine Hr1.out.mono ?_
    rintro e w8 ⟨v8, rfl, hown8, hb8'⟩
    obtain ⟨D8, d8, rfl, hld8, _, hr8⟩ := hown8.form
    have Hr8 := Lib.hid hr8
    clear hown8 hr8
    go_wp2_with fail
    refine (answers11_any w8).mono ?_
    rintro e w9 ⟨rfl, hb9'⟩
    have hb68 : Below w6.heap.size w6 w8 := hb67.trans (hb8'.mono hb67.size)
    have hb69 : Below w6.heap.size w6 w9 := hb68.trans (hb9'.mono hb68.size)
    have hb79 : Below w7.heap.size w7 w9 := hb8'.trans (hb9'.mono hb8'.size)
    have hsm := lawSame_any V X vc xc w9 la la (by omega) (by omega) hvc hxc (fun r hr => (Hok.out.1 r hr).len) (fun r hr => (Hok.out.1 r hr).len) (RRecs.imp (RRecs.same Hrv6.out (SameT.of_below hb69)) fun _ hk _ => hk) (RRecs.imp (Hrx6.out.same (SameT.of_below hb69)) fun _ hk _ => hk)
    have hsm2 : Calls Try.prog 30 #[.slice V la.length vc, .slice X la.length xc] w9 fun e w' => e = .returned (.bool true) ∧ Below w9.heap.size w9 w' := hsm.mono fun e w' ⟨h1, h2⟩ => ⟨by rw [h1, eqB_true rfl], h2⟩
    have Hsm := Lib.hid hsm2
    clear hsm hsm2
    go_wp2_with fail
    refine Hsm.out.mono ?_
    rintro e w10 ⟨rfl, hb10'⟩
    have hb710 := hb79.trans (hb10'.mono hb79.size)
    have hb610 := hb69.trans (hb10'.mono hb69.size)
    have hb810 : Below w8.heap.size w8 w10 := hb9'.trans (hb10'.mono hb9'.size)
    have hq1 := same_any C7 A c7 c w10 z z (by omega) (by omega) (Hr7.out.below hb710) (Hrz.out.below hb610)
    have hq2 := fun j => same_any D8 A d8 c (w10.drewN j) z z (by omega) (by omega) ((Hr8.out.below hb810).drewN j) ((Hrz.out.below hb610).drewN j)
    rw [beq_self_eq_true] at hq1
    simp only [beq_self_eq_true] at hq2
    have Hq1 := Lib.hid hq1; have Hq2 := Lib.hid hq2
    clear hq1 hq2
    go_wp2_with fail
    refine Hq1.out.mono ?_
    rintro e w11 ⟨rfl, n1, rfl⟩
    go_wp2_with fail
    refine (Hq2.out n1).mono ?_
    rintro e w12 ⟨rfl, n2, rfl⟩
    go_wp2_with fail
    go_ret
    have hbf : Below gp w w10 := hb6.trans (hb610.mono (by omega))
    rw [Hgp.out] at hbf
    exact ⟨rfl, ⟨hbf.os, hbf.tape, hbf.output, hbf.size, hbf.block⟩⟩
end Go.Proofs.Ytmleldgohfcdbaa
