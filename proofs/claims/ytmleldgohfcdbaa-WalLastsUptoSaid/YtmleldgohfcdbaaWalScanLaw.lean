/- law11's WalScan. -/
import Derived.Test.YtmleldgohfcdbaaEntries
import Derived.Test.YtmleldgohfcdbaaSmall2
import Derived.Test.YtmleldgohfcdbaaOpenW
namespace Go.Proofs.Ytmleldgohfcdbaa
set_option linter.unusedVariables false
set_option linter.unusedSimpArgs false
open Go.RowKit
theorem RowsOf.split {α : Type} {R : α → List Value → Prop} : ∀ {l m : List α} {vs : List Value}, RowsOf R (l ++ m) vs → ∃ x y, vs = x ++ y ∧ RowsOf R l x ∧ RowsOf R m y
  | [], _, vs, h => ⟨[], vs, rfl, rfl, h⟩
  | a :: l, m, _, ⟨x, y, e, h1, h2⟩ => by
    obtain ⟨x', y', e', h3, h4⟩ := RowsOf.split h2
    exact ⟨x ++ x', y', by rw [e, e', List.append_assoc], ⟨x, x', rfl, h1, h3⟩, h4⟩
theorem RRecs.front {w : World} {P : Nat → Prop} {A : Option Addr} {l m : List PRec} (h : RRecs w P A (l ++ m)) : RRecs w P A l := by
  obtain ⟨vs, h1, h2⟩ := h
  obtain ⟨x, y, rfl, h3, -⟩ := h1.split
  refine ⟨x, h3, ?_⟩
  have := h2.take x.length
  rwa [List.take_left] at this
theorem RRecs.take {w : World} {P : Nat → Prop} {A : Option Addr} {l : List PRec} (h : RRecs w P A l) (k : Nat) : RRecs w P A (l.take k) := by
  rw [← List.take_append_drop k l] at h
  exact h.front
theorem recs_of_own2 {w : World} {base : Nat} {v : Value} {l : List PRec} {vs : List Value} {P : Nat → Prop} (h : w.ownsRow base 51 7 v l.length vs) (hr : RowsOf (RecVal w P) l vs) :
    ∃ A c, v = .slice A l.length c ∧ l.length ≤ c ∧ RRecs w (· < w.heap.size) A l := by
  have hr2 : RowsOf (RecVal w (· < w.heap.size)) l vs := hr.mono fun _ _ h => RecVal.imp h fun _ hk _ => hk
  rcases h.2 with ⟨rfl, hn⟩ | ⟨g, cap, cur, rfl, hb, hg, hnc, -⟩
  · have : l = [] := List.eq_nil_of_length_eq_zero hn
    subst this
    exact ⟨none, 0, rfl, Nat.le_refl _, vs, hr2, by rw [show vs = [] from hr]; exact RVb.none_⟩
  · exact ⟨_, _, rfl, hnc, vs, hr2, (rvb_of_own h).imp fun _ hk _ => hk⟩
theorem RRecs.lift {w w' : World} {A : Option Addr} {l : List PRec} (h : RRecs w (· < w.heap.size) A l) (hb : Below w.heap.size w w') : RRecs w' (· < w'.heap.size) A l := (h.below hb).imp fun _ hk _ => hk
theorem OkR.max {r : PRec} (h : OkR r) : MaxR r ∧ KeysR r := by
  obtain ⟨h1, h2, h3, h4, h5⟩ := h.len
  have hm : (140737488355328 : Nat) ≤ maxLen := by unfold maxLen; omega
  have hkey : r.key.length ≤ 16 ∧ ∀ o ∈ r.objects, o.key.length ≤ 16 := by
    obtain ⟨h, -⟩ := h
    unfold badRec at h
    simp only [Bool.or_eq_false_iff] at h
    obtain ⟨⟨⟨⟨⟨⟨⟨⟨-, -⟩, -⟩, -⟩, h4⟩, -⟩, -⟩, h7⟩, -⟩ := h
    refine ⟨badNum_len (m := 16) h4, fun o ho => ?_⟩
    have h9 := any_false h7 o ho
    unfold badObj at h9
    simp only [Bool.or_eq_false_iff] at h9
    exact badNum_len (m := 16) h9.1.1.1
  refine ⟨⟨by unfold maxLen; omega, Nat.le_trans h1 hm, fun s hs => Nat.le_trans (h2 s hs) hm, Nat.le_trans h3 hm, fun o ho => ⟨?_, Nat.le_trans (h4 o ho).1 hm, fun s hs => Nat.le_trans ((h4 o ho).2 s hs) hm⟩, Nat.le_trans h5 hm⟩, by omega, fun o ho => ?_⟩
  · have := hkey.2 o ho
    unfold maxLen
    omega
  · have := hkey.2 o ho
    omega
def TruePost (w : World) (e : Ending) (w' : World) : Prop := e = .returned (.bool true) ∧ Below w.heap.size w w'
theorem same_true (A B : Option Addr) (c d : Nat) (w : World) (l : List PRec) (hn : l.length ≤ 1000000) (hlc : l.length ≤ c) (hmd : l.length ≤ d) (hl : ∀ r ∈ l, OkR r) (hr : RRecs w (· < w.heap.size) A l) (hs : RRecs w (· < w.heap.size) B l) :
    Calls Try.prog 30 #[.slice A l.length c, .slice B l.length d] w (TruePost w) :=
  (lawSame_any A B c d w l l (by omega) (by omega) hlc hmd (fun r h => (hl r h).len) (fun r h => (hl r h).len) hr hs).mono fun e w' ⟨h1, h2⟩ => ⟨by rw [h1, eqB_true rfl], h2⟩
set_option maxRecDepth 100000 in
set_option maxHeartbeats 4000000 in
theorem walScan_any (w : World) (A : Option Addr) (c : Nat) (l : List PRec) (hlc : l.length ≤ c) (hlm : l.length ≤ maxLen) (hr : RRecs w (· < w.heap.size) A l) (hm : ∀ r ∈ l, MaxR r ∧ KeysK reachBytes r) (n : Int) (hn : (Lit.int .u16 n).wf = true)
    (B : Option Addr) (d : Nat) (more : List UInt8) (hbd : more.length ≤ d) (hrb : RB w B more) :
    Calls Try.prog 11 #[.slice A l.length c, .int .u16 n, .slice B more.length d] w (TruePost w) := by
  obtain ⟨hn0, hn1⟩ := wf_u16 hn
  clear hn
  have hl63 : l.length ≤ 9223372036854775807 := by unfold maxLen at hlm; omega
  have Hsm := Lib.hid (small_any A c w l hlm hr (fun r h => (hm r h).1))
  have Hm := Lib.hid hm; have Hr := Lib.hid hr; have Hrb := Lib.hid hrb; have Hbd := Lib.hid hbd
  clear hm hr hrb hbd hlm
  go_enter Try.func11, Try.ntmps11
  go_wp2_with fail
  refine Hsm.out.mono ?_
  rintro e w1 ⟨bs, rfl, hbs, hb1⟩
  cases bs with
  | false =>
    clear hbs
    go_wp2_with fail
    refine (answers11_any _).mono ?_
    rintro e w2 ⟨rfl, hb2⟩
    go_wp2_with fail
    go_ret
    exact ⟨rfl, hb1.trans (hb2.mono hb1.size)⟩
  | true =>
    have hl60 := hbs rfl
    clear hbs
    by_cases h200 : 200 < more.length
    · go_wp2_with fail
      refine (answers11_any _).mono ?_
      rintro e w2 ⟨rfl, hb2⟩
      go_wp2_with fail
      go_ret
      exact ⟨rfl, hb1.trans (hb2.mono hb1.size)⟩
    · have Hent := Lib.hid (entries_any A c w1 l (by omega) (Hr.out.lift hb1) (fun r h => Hm.out r h))
      have hkp := keepL_ok l [] (by simp) (by simp [ents])
      obtain ⟨out, hout⟩ : ∃ out, keepL [] l = out := ⟨_, rfl⟩
      rw [hout] at Hent hkp
      obtain ⟨hok, h16⟩ := hkp
      have hcnt := ents_count out
      have Hok := Lib.hid hok
      clear hok hout
      go_wp2_with fail
      refine Hent.out.mono ?_
      rintro e w2 ⟨v, o, vs, rfl, hown, howo, hrows, hb2'⟩
      have hb2 := hb1.trans (hb2'.mono hb1.size)
      obtain ⟨V, vc, rfl, hvc, -, hrV⟩ := hown.form
      obtain ⟨O, oc, rfl, hoc, hrO⟩ := recs_of_own2 howo hrows
      have hscan := scan_any V vc w2 (ents out) (by omega) hvc hrV
      rw [scanOf_ents0 out Hok.out] at hscan
      have Hscan := Lib.hid hscan
      have HrV := Lib.hid hrV; have HrO := Lib.hid hrO
      obtain ⟨en, hen⟩ : ∃ en, ents out = en := ⟨_, rfl⟩
      rw [hen] at Hscan HrV hvc h16 hcnt
      rw [hen]
      have Hen := Lib.hid hen
      clear hown howo hrows hscan hrV hrO hen
      go_wp2_with fail
      refine Hscan.out.mono ?_
      rintro e w3 ⟨x, xs, rfl, hownx, hrowx, hb3'⟩
      replace hownx : w3.ownsRow w2.heap.size 51 7 x out.length xs := hownx
      replace hrowx : RowsOf (RRec w3) out xs := hrowx
      obtain ⟨X, xc, rfl, hxc, hrX⟩ := recs_of_own2 hownx hrowx
      have Hsame1 := Lib.hid (same_true X O xc oc w3 out (by omega) hxc hoc Hok.out hrX (HrO.out.lift hb3'))
      have HrX := Lib.hid hrX
      clear hownx hrowx hrX
      dsimp only
      go_wp2_with fail
      refine Hsame1.out.mono ?_
      rintro e w4 ⟨rfl, hb4'⟩
      have hb24 : Below w2.heap.size w2 w4 := hb3'.trans (hb4'.mono hb3'.size)
      obtain ⟨k, hk⟩ : ∃ k : Nat, n.tmod ((en.length : Int) + 1) = (k : Int) := ⟨(n.tmod ((en.length : Int) + 1)).toNat, by have := Int.tmod_nonneg ((en.length : Int) + 1) hn0; omega⟩
      have hkl : k ≤ en.length := by have := Int.tmod_lt_of_pos n (show (0 : Int) < (en.length : Int) + 1 by omega); omega
      have hkc : k ≤ vc := Nat.le_trans hkl hvc
      have hz : ¬ (en.length : Int) + 1 = 0 := by omega
      obtain ⟨j, hj, hcut, hjk⟩ := scanOf_cut out Hok.out k
      rw [Hen.out] at hcut
      have hscan2 := scan_any V vc w4 (en.take k) (by rw [List.length_take]; omega) (by rw [List.length_take]; omega) ((HrV.out.below hb24).take k)
      rw [hcut, show (en.take k).length = k from by rw [List.length_take]; omega] at hscan2
      have Hscan2 := Lib.hid hscan2
      clear hcut hscan2
      go_wp2_with fail
      refine Hscan2.out.mono ?_
      rintro e w5 ⟨y, ys, rfl, howny, hrowy, hb5'⟩
      obtain ⟨lj, hlj⟩ : ∃ lj, out.take j = lj := ⟨_, rfl⟩
      have hljl : lj.length = j := by rw [← hlj, List.length_take]; omega
      have hokj : ∀ r ∈ lj, OkR r := fun r h => Hok.out r (List.mem_of_mem_take (hlj ▸ h))
      rw [hlj] at hjk
      replace howny : w5.ownsRow w4.heap.size 51 7 y lj.length ys := by rw [← hlj]; exact howny
      replace hrowy : RowsOf (RRec w5) lj ys := by rw [← hlj]; exact hrowy
      obtain ⟨Y, yc, rfl, hyc, hrY⟩ := recs_of_own2 howny hrowy
      have hb25 : Below w2.heap.size w2 w5 := hb24.trans (hb5'.mono hb24.size)
      have hrO5 : RRecs w5 (· < w5.heap.size) O lj := by rw [← hlj]; exact RRecs.take (HrO.out.lift hb25) j
      have hjoc : lj.length ≤ oc := by omega
      have Hsame2 := Lib.hid (same_true Y O yc oc w5 lj (by omega) hyc hjoc hokj hrY hrO5)
      have hent2 := entries_any O oc w5 lj (by omega) hrO5 (fun r h => (hokj r h).max)
      have hke : keepL [] lj = lj := by
        rw [keepL_all lj [] hokj (by rw [List.nil_append]; have h := Hen.out; omega)]
        rfl
      obtain ⟨mj, hmj⟩ : ∃ mj, (ents lj).length = mj := ⟨_, rfl⟩
      have hmk : mj ≤ k := by omega
      have Hlj := Lib.hid hlj; have Hokj := Lib.hid hokj; have HrO5 := Lib.hid hrO5; have Hke := Lib.hid hke; have Hmj := Lib.hid hmj
      have HrY := Lib.hid hrY
      rw [hlj]
      dsimp only
      rw [hmj]
      have hm1 : ¬ (k : Int) < (mj : Int) := by omega
      have hm2 : ¬ (out.length : Int) < (lj.length : Int) := by omega
      have hm3 : (lj.length : Int) ≤ (oc : Int) := by omega
      have hlj16 : lj.length ≤ 16384 := by omega
      have Hljl := Lib.hid hljl
      clear howny hrowy hrY hent2 hke hmj hlj hokj hrO5 hljl
      go_wp2_with fail
      refine Hsame2.out.mono ?_
      rintro e w6 ⟨rfl, hb6'⟩
      have hent := entries_any O oc w6 lj (by omega) (HrO5.out.lift hb6') (fun r h => (Hokj.out r h).max)
      rw [Hke.out] at hent
      have Hent2 := Lib.hid hent
      clear hent
      go_wp2_with fail
      refine Hent2.out.mono ?_
      rintro e w7 ⟨v7, o7, vs7, rfl, hown7, -, -, hb7'⟩
      obtain ⟨C7, c7, rfl, hlc7, -, -⟩ := hown7.form
      rw [Hmj.out]
      have hb57 : Below w5.heap.size w5 w7 := hb6'.trans (hb7'.mono hb6'.size)
      have hb27 : Below w2.heap.size w2 w7 := hb25.trans (hb57.mono hb25.size)
      have hB7 : Below w.heap.size w w7 := hb2.trans (hb27.mono hb2.size)
      have hlit := owns_lit w7 w7.heap.size 5 1 (Nat.le_refl _)
      have hba : Below w7.heap.size w7 (w7.alloc (.cells #[] 5)) := (Below.refl _ w7).alloc (Nat.le_refl _) _
      have hrVa := (HrV.out.below hb27).below hba
      obtain ⟨q, hq⟩ : ∃ q, en ++ more = q := ⟨_, rfl⟩
      have hql : q.length ≤ 20000 := by rw [← hq, List.length_append]; omega
      have Hq := Lib.hid hq; have Hql := Lib.hid hql
      clear hq hql hown7
      go_wp2_with (first
        | (at_builtin; refine wpList_copyB (by rfl) (.tmp 88) (.tmp 89) rfl w7.heap.size _ rfl hlit V vc en rfl hrVa (by omega) (Nat.le_trans (Nat.le_refl _) hba.size) ?_; intro A8 c8 w8 hown8 hr8 hlc8 _ hb8'; have hb8 : Below w7.heap.size w7 w8 := hba.trans hb8'; have hrm8 : RB w8 B more := (Hrb.out.below hB7).below hb8)
        | (at_builtin; refine wpList_apB (by rfl) (.tmp 90) (.tmp 91) rfl w7.heap.size _ en rfl hown8 B more.length d more rfl rfl hrm8 q Hq.out (by have := Hql.out; omega) hb8.size ?_; intro A9 c9 w9 hown9 hr9 hl9 hg9 hno9 hb9'; have hb79 : Below w7.heap.size w7 w9 := hb8.trans hb9'))
      have hscan3 := scan_any A9 c9 w9 q (by have := Hql.out; omega) hl9 hr9
      have hsq : scanOf q = (out ++ (scanOf more).1, en.length + (scanOf more).2) := by rw [← Hq.out, ← Hen.out, scanOf_ents out Hok.out more]
      rw [hsq] at hscan3
      have hcm := scanOf_count more
      have hcl := scanOf_le more
      generalize scanOf more = sm at hscan3 hcm hcl
      obtain ⟨lm, nm⟩ := sm
      dsimp only at hscan3 hcm hcl
      have Hscan3 := Lib.hid hscan3
      clear hscan3 hsq
      refine Hscan3.out.mono ?_
      rintro e w10 ⟨z, zs, rfl, hownz, hrowz, hb10'⟩
      obtain ⟨Z, zc, rfl, hzc, hrZ⟩ := recs_of_own2 hownz hrowz
      have hb210 : Below w2.heap.size w2 w10 := hb27.trans ((hb79.mono hb27.size).trans (hb10'.mono (Nat.le_trans hb27.size hb79.size)))
      have hb310 : Below w3.heap.size w3 w10 := by
        have h34 : Below w3.heap.size w3 w4 := hb4'
        have h35 : Below w3.heap.size w3 w5 := h34.trans (hb5'.mono h34.size)
        have h37 : Below w3.heap.size w3 w7 := h35.trans (hb57.mono h35.size)
        exact h37.trans ((hb79.mono h37.size).trans (hb10'.mono (Nat.le_trans h37.size hb79.size)))
      have HrZ := Lib.hid hrZ
      have hzl : (out ++ lm).length = out.length + lm.length := List.length_append
      dsimp only
      rw [hzl]
      rw [hzl] at hzc
      clear hownz hrowz hrZ hzl
      go_wp2_with fail
      refine (answers11_any w10).mono ?_
      rintro e w11 ⟨rfl, hb11'⟩
      have Hsame3 := Lib.hid (same_true Z X zc xc w11 out (by omega) (by omega) hxc Hok.out (HrZ.out.front.lift hb11') (HrX.out.lift (hb310.trans (hb11'.mono hb310.size))))
      have hg1 : ((en.length + nm : Nat) : Int) ≥ (en.length : Int) := by omega
      have hg2 : (en.length : Int) ≤ ((en.length + nm : Nat) : Int) := by omega
      have hg3 : (out.length : Int) ≤ ((out.length + lm.length : Nat) : Int) := by omega
      have hg4 : (out.length : Int) ≤ (zc : Int) := by omega
      have hg5 : (en.length : Int) ≤ (en.length : Int) + (nm : Int) := by omega
      have hg6 : (out.length : Int) ≤ (out.length : Int) + (lm.length : Int) := by omega
      go_wp2_with fail
      refine Hsame3.out.mono ?_
      rintro e w12 ⟨rfl, hb12'⟩
      go_wp2_with fail
      go_ret
      have hb212 : Below w2.heap.size w2 w12 := hb210.trans ((hb11'.mono hb210.size).trans (hb12'.mono (Nat.le_trans hb210.size hb11'.size)))
      exact ⟨rfl, hb2.trans (hb212.mono hb2.size)⟩
end Go.Proofs.Ytmleldgohfcdbaa
