/- wal.Open. -/
import Derived.Test.YtmleldgohfcdbaaLog3
import Derived.OwnWalk
namespace Go.Proofs.Ytmleldgohfcdbaa
set_option linter.unusedVariables false
set_option linter.unusedSimpArgs false
open Go.RowKit
theorem notrec_of_tape {w : World} {g : Nat} {P : Nat → Prop} {t : TTape} (h : TapeAt w g P t) : ¬ InT w recTs g := by
  obtain ⟨v0, u0, v1, u1, hb, _⟩ := h
  rintro ⟨cs, u, m, h1, h2⟩
  rw [hb] at h1
  injection h1 with h1
  injection h1 with _ h1 _
  subst h1
  exact absurd h2 (by decide)
theorem scanOf_le (b : List UInt8) : (scanOf b).2 ≤ b.length := by
  generalize hn : b.length = n
  induction n using Nat.strongRecOn generalizing b with
  | ind n ih =>
    cases h : oneOf b with
    | none => rw [scanOf_none h]; omega
    | some x =>
      obtain ⟨r, k⟩ := x
      have hb := oneOf_bd h
      rw [scanOf_some h]
      have := ih (b.drop k).length (by rw [List.length_drop]; omega) (b.drop k) rfl
      rw [List.length_drop] at this
      omega
theorem TapeAt.imp {w : World} {g : Nat} {P P' : Nat → Prop} {t : TTape} (h : TapeAt w g P t) (hP : ∀ k, k < w.heap.size → P k → P' k) : TapeAt w g P' t := by
  obtain ⟨v0, u0, v1, u1, hb, h0, h1, h2, h3⟩ := h
  exact ⟨v0, u0, v1, u1, hb, h0.imp hP, h1.imp hP, h2.imp hP, h3.imp hP⟩
/-- What a read of a side gives. -/
def TSide.seen (s : TSide) : List UInt8 := if s.lost then [] else s.all
def TSide.err (s : TSide) : Int := if s.lost then 8 else 0
def bestOf (a b : List UInt8) : List PRec × List UInt8 := if (scanOf a).2 < (scanOf b).2 then ((scanOf b).1, b.take (scanOf b).2) else ((scanOf a).1, a.take (scanOf a).2)
def TTape.best (t : TTape) : List PRec × List UInt8 := bestOf t.s0.seen t.s1.seen
def openT (t : TTape) : TTape × Int :=
  if t.s0.lost && t.s1.lost then (t, 8)
  else if (!t.s0.lost && !(t.s0.seen == t.best.2)) || (!t.s1.lost && !(t.s1.seen == t.best.2)) then writeT t t.best.2 true else (t, 0)
def WOpenPost (w : World) (g : Nat) (P : Nat → Prop) (o : TTape × Int) (b : List PRec × List UInt8) (e : Ending) (w' : World) : Prop :=
  w.grownBy w' (some g) ∧ ((o.2 ≠ 0 ∧ e = .returned (.tuple #[.pointer none, .slice none 0 0, .int .i64 o.2]) ∧ TapeAt w' g P o.1) ∨
    (o.2 = 0 ∧ ∃ q v vs, e = .returned (.tuple #[.pointer (some ⟨q, 0, none⟩), v, .int .i64 0]) ∧ w.heap.size ≤ q ∧ TapeAt w' g (fun k => P k ∧ k ≠ q) o.1 ∧ LogAt w' q g b.2.length false ∧
      w'.ownsRow w.heap.size 51 7 v b.1.length vs ∧ RowsOf (RRec w') b.1 vs))
def SeenPost (w : World) (x : List UInt8) (e0 : Int) (e : Ending) (w' : World) : Prop :=
  Below w.heap.size w w' ∧ ∃ A c, e = .returned (.tuple #[.slice A x.length c, .int .i64 e0]) ∧ x.length ≤ c ∧ RVb w' (w.heap.size ≤ ·) A (x.map bv)
theorem ReadPost.seen {w w' : World} {s : TSide} {e : Ending} (h : ReadPost w s e w') : SeenPost w s.seen s.err e w' := by
  obtain ⟨h1, h2⟩ := h
  refine ⟨h1, ?_⟩
  unfold TSide.seen TSide.err
  by_cases hl : s.lost = true
  · rw [if_pos hl] at h2 ⊢
    rw [if_pos hl]
    exact ⟨none, 0, h2, Nat.le_refl _, RVb.none_⟩
  · rw [if_neg hl] at h2 ⊢
    rw [if_neg hl]
    obtain ⟨v, rfl, hown⟩ := h2
    obtain ⟨A, c, rfl, hlc, _, _⟩ := hown.form
    exact ⟨A, c, rfl, hlc, OwnB.rvb hown⟩
set_option maxRecDepth 100000 in
set_option maxHeartbeats 400000 in
theorem open_nil (w : World) : Calls Try.prog 33 #[.pointer none] w fun e w' => e = .returned (.tuple #[.pointer none, .slice none 0 0, .int .i64 1]) ∧ w = w' := by
  go_enter Try.func33, Try.ntmps33
  go_wp2_with fail
  go_ret3
  exact ⟨rfl, rfl⟩
set_option maxRecDepth 100000 in
set_option maxHeartbeats 2000000 in
theorem wopen_any (w : World) (g : Nat) (P : Nat → Prop) (t : TTape) (h : TapeAt w g P t) (hP : ∀ k, w.heap.size ≤ k → P k) (hPg : ∀ k, P k → k ≠ g) (hf63 : t.fuse ≤ 9223372036854775807)
    (hl0 : t.s0.b.length + t.s0.loose.length ≤ 100000000) (hl1 : t.s1.b.length + t.s1.loose.length ≤ 100000000) :
    Calls Try.prog 33 #[.pointer (some ⟨g, 0, none⟩)] w (WOpenPost w g P (openT t) t.best) := by
  have hgw : g < w.heap.size := by obtain ⟨_, _, _, _, hb, _⟩ := h; exact blk_lt hb
  have hlen0 : t.s0.seen.length ≤ 100000000 := by unfold TSide.seen TSide.all; repeat' split
                                                  all_goals first | omega | (simp; omega) | simp
  have hlen1 : t.s1.seen.length ≤ 100000000 := by unfold TSide.seen TSide.all; repeat' split
                                                  all_goals first | omega | (simp; omega) | simp
  have hrd0 := (read0_any w g P t h (by omega)).mono fun e w' h => h.seen
  have hrd1 := fun w1 (h1 : TapeAt w1 g P t) => (read1_any w1 g P t h1 (by omega)).mono fun e w' h => h.seen
  have hle0 := scanOf_le t.s0.seen
  have hle1 := scanOf_le t.s1.seen
  have hbst : t.best = bestOf t.s0.seen t.s1.seen := rfl
  unfold bestOf at hbst
  have hopn : openT t = openT t := rfl
  conv at hopn => rhs; unfold openT
  have hr0 : t.s0.err = if t.s0.lost then 8 else 0 := rfl
  have hr1 : t.s1.err = if t.s1.lost then 8 else 0 := rfl
  have hrep := fun w2 (h2 : TapeAt w2 g P t) (hP2 : ∀ k, w2.heap.size ≤ k → P k) (B : Option Addr) (d : Nat) (b : List UInt8) (hb : b.length ≤ 100000000) (hs : RVb w2 (· ≠ g) B (b.map bv)) => tReplace_any w2 g P t h2 hP2 hPg hf63 B d b hs (by omega) (by omega)
  generalize openT t = o at hopn ⊢
  generalize t.best = be at hbst hopn ⊢
  generalize t.s0.seen = x at *
  generalize t.s1.seen = y at *
  generalize t.s0.err = e0 at *
  generalize t.s1.err = e1 at *
  have hsc0 := fun A c w' (hc : x.length ≤ c) (hr : RB w' A x) => scan_any A c w' x (by omega) hc hr
  have hsc1 := fun A c w' (hc : y.length ≤ c) (hr : RB w' A y) => scan_any A c w' y (by omega) hc hr
  cases hq0 : t.s0.lost with
  | true =>
    cases hq1 : t.s1.lost with
    | true =>
      rw [hq0, hq1] at hopn
      rw [hq0] at hr0
      rw [hq1] at hr1
      have hr0' : e0 = 8 := hr0
      have hr1' : e1 = 8 := hr1
      subst hr0' hr1'
      clear hr0 hr1
      have Hopn := Lib.hid (show o = (t, 8) from by rw [hopn]; rfl)
      clear hopn hbst hle0 hle1
      have Hrd0 := Lib.hid hrd0; have Hrd1 := Lib.hid hrd1; have Hsc0 := Lib.hid hsc0; have Hsc1 := Lib.hid hsc1; have Hrep := Lib.hid hrep; have Ht := Lib.hid h
      clear hrd0 hrd1 hsc0 hsc1 hrep h
      go_enter Try.func33, Try.ntmps33
      go_wp2_with fail
      refine Hrd0.out.mono ?_
      rintro e w1 ⟨hb1, A, c, rfl, hlc, hrv0⟩
      have ht1 := Ht.out.keep (hb1.block g hgw) (fun k hk _ => hb1.block k hk)
      have Hrd1b := Lib.hid (Hrd1.out w1 ht1)
      have Hrv0 := Lib.hid hrv0; have Hht1 := Lib.hid ht1
      clear hrv0 ht1
      go_wp2_with fail
      refine Hrd1b.out.mono ?_
      rintro e w2 ⟨hb2, B, d, rfl, hld, hrv1⟩
      have hbb2 : Below w.heap.size w w2 := hb1.trans (hb2.mono hb1.size)
      go_wp2_with fail
      go_ret3
      have Hn := Hopn.out
      rw [Hn]
      exact ⟨grown_of_below hbb2 _, .inl ⟨by show (8 : Int) ≠ 0; decide, rfl, Ht.out.keep (hbb2.block g hgw) (fun k hk _ => hbb2.block k hk)⟩⟩
    | false =>
      rw [hq0, hq1] at hopn
      rw [hq0] at hr0
      rw [hq1] at hr1
      have hr0' : e0 = 8 := hr0
      have hr1' : e1 = 0 := hr1
      subst hr0' hr1'
      clear hr0 hr1
      have Hrd0 := Lib.hid hrd0; have Hrd1 := Lib.hid hrd1; have Hsc0 := Lib.hid hsc0; have Hsc1 := Lib.hid hsc1; have Hrep := Lib.hid hrep; have Ht := Lib.hid h
      clear hrd0 hrd1 hsc0 hsc1 hrep h
      generalize scanOf x = sx at *
      generalize scanOf y = sy at *
      obtain ⟨lx, n⟩ := sx
      obtain ⟨ly, m⟩ := sy
      dsimp only at hle0 hle1 hbst Hsc0 Hsc1
      have Hopn0 := Lib.hid hopn; have Hbst0 := Lib.hid hbst
      clear hopn hbst
      go_enter Try.func33, Try.ntmps33
      go_wp2_with fail
      refine Hrd0.out.mono ?_
      rintro e w1 ⟨hb1, A, c, rfl, hlc, hrv0⟩
      have ht1 := Ht.out.keep (hb1.block g hgw) (fun k hk _ => hb1.block k hk)
      have Hrd1b := Lib.hid (Hrd1.out w1 ht1)
      have Hrv0 := Lib.hid hrv0; have Hht1 := Lib.hid ht1
      clear hrv0 ht1
      go_wp2_with fail
      refine Hrd1b.out.mono ?_
      rintro e w2 ⟨hb2, B, d, rfl, hld, hrv1⟩
      have hbb2 : Below w.heap.size w w2 := hb1.trans (hb2.mono hb1.size)
      have Hrv0b := Lib.hid (Hrv0.out.keep (fun k hk _ => hb2.block k hk))
      have Hs0 := Lib.hid (Hsc0.out A c w2 hlc Hrv0b.out.rv.rb)
      have Hrv1 := Lib.hid (hrv1.imp (P' := (w.heap.size ≤ ·)) fun k _ hk => Nat.le_trans hb1.size hk)
      clear hrv1
      go_wp2_with fail
      refine Hs0.out.mono ?_
      rintro e w3 ⟨v0, vs0, rfl, hown0, hrows0, hb3⟩
      have hbb3 : Below w.heap.size w w3 := hbb2.trans (hb3.mono hbb2.size)
      have hf0 := hown0.form
      have Hown0 := Lib.hid hown0; have Hrows0 := Lib.hid hrows0
      clear hown0 hrows0
      have Hrv0c := Lib.hid (Hrv0b.out.keep (fun k hk _ => hb3.block k hk))
      have Hrv1c := Lib.hid (Hrv1.out.keep (fun k hk _ => hb3.block k hk))
      have Hs1 := Lib.hid (Hsc1.out B d w3 hld Hrv1c.out.rv.rb)
      have hnc : n ≤ c := Nat.le_trans hle0 hlc
      have hmd : m ≤ d := Nat.le_trans hle1 hld
      go_wp2_with fail
      refine Hs1.out.mono ?_
      rintro e w4 ⟨v1, vs1, rfl, hown1, hrows1, hb4⟩
      have hbb4 : Below w.heap.size w w4 := hbb3.trans (hb4.mono hbb3.size)
      have Hown1 := Lib.hid hown1; have Hrows1 := Lib.hid hrows1
      clear hown1 hrows1
      have Hx := Lib.hid (Hrv0c.out.keep (fun k hk _ => hb4.block k hk))
      have Hy := Lib.hid (Hrv1c.out.keep (fun k hk _ => hb4.block k hk))
      have Ht4 := Lib.hid (Ht.out.keep (hbb4.block g hgw) (fun k hk _ => hbb4.block k hk))
      have hopn := Hopn0.out; have hbst := Hbst0.out
      clear Hopn0 Hbst0
      by_cases hgt : n < m
      · have hbb5 : Below w.heap.size w w4.drew := ⟨hbb4.os, hbb4.tape, hbb4.output, hbb4.size, hbb4.block⟩
        have HX := Lib.hid (show RVb w4.drew (w.heap.size ≤ ·) A (x.map bv) from Hx.out)
        have HY := Lib.hid (show RVb w4.drew (w.heap.size ≤ ·) B (y.map bv) from Hy.out)
        have HT := Lib.hid (show TapeAt w4.drew g P t from Ht4.out)
        clear Hx Hy Ht4
        have Hx := HX; have Hy := HY; have Ht4 := HT
        clear HX HY HT
        rw [if_pos hgt] at hbst
        obtain ⟨z, hz⟩ : ∃ z, y.take m = z := ⟨_, rfl⟩
        have hzl : z.length = m := by rw [← hz]; simp; omega
        rw [hz] at hbst
        have hbe : be.2 = z := by rw [hbst]
        have Hz := Lib.hid ((hz ▸ List.map_take ▸ Hy.out.take m : RVb w4.drew (w.heap.size ≤ ·) B (z.map bv)))
        have heq0 := equal_any A B c d w4.drew x z Hx.out.rv.rb Hz.out.rv.rb
        have heq1 := equal_any B B d d w4.drew y z Hy.out.rv.rb Hz.out.rv.rb
        have hrp := Hrep.out w4.drew Ht4.out (fun k hk => hP k (Nat.le_trans hbb5.size hk)) B d z (by omega) (Hz.out.imp fun k _ hk => by have h9 : w.heap.size ≤ k := hk; show k ≠ g; omega)
        rw [hzl] at heq0 heq1 hrp
        rw [hbe] at hopn
        have hf1 : WOpenPost w g P o be = WOpenPost w g P o be := rfl
        clear hf1
        have Heq0 := Lib.hid heq0; have Heq1 := Lib.hid heq1; have Hrp := Lib.hid hrp
        clear heq0 heq1 hrp
        have hwin : w4.drew.ownsRow w.heap.size 51 7 v1 be.1.length vs1 ∧ RowsOf (RRec w4.drew) be.1 vs1 := by
          rw [hbst]
          exact ⟨World.ownsRow_base (show w4.drew.ownsRow _ _ _ _ _ _ from Hown1.out) hbb3.size, Hrows1.out.mono fun _ _ h => (show RRec w4.drew _ _ from h)⟩
        have Hwin := Lib.hid hwin
        clear hwin
        have Hhz := Lib.hid hz; have Hbst := Lib.hid hbst; have Hbe := Lib.hid hbe; have Hzl := Lib.hid hzl
        clear hz hbst hbe hzl
        cases hd1 : (y == z) with
        | false =>
          have Hopn := Lib.hid (show o = writeT t z true from by rw [hopn, hd1]; rfl)
          clear hopn
          go_wp2_with fail
          go_region
          go_wp2_with fail
          refine Heq1.out.mono ?_
          rintro e w5 ⟨rfl, rfl⟩
          rw [hd1]
          go_wp2_with fail
          refine Hrp.out.mono ?_
          rintro e w5 ⟨rfl, ht5, hg5⟩
          have hgr5 : w.grownBy w5 (some g) := grown_trans (grown_of_below hbb5 _) hg5
          generalize writeT t z true = wr at *
          obtain ⟨wt, mm⟩ := wr
          dsimp only at ht5
          have Ht5 := Lib.hid ht5
          clear ht5
          have hown5 : w5.ownsRow w.heap.size 51 7 v1 be.1.length vs1 := World.ownsRow.kept Hwin.out.1 hg5 (by
            cases hv : (v1 : Value).ownBlock with
            | none => exact .inl rfl
            | some k => exact .inr (by have := (Hwin.out.1.lt k hv).1; intro he; injection he with he; omega))
          have hsm5 : SameT recTs w4.drew w5 := SameT.of_grown hg5 (by rintro k hk; injection hk with hk; subst hk; exact notrec_of_tape Ht4.out)
          have hrows5 : RowsOf (RRec w5) be.1 vs1 := Hwin.out.2.mono fun _ _ h => h.same hsm5
          have Hown5 := Lib.hid hown5; have Hrows5 := Lib.hid hrows5
          clear hown5 hrows5
          by_cases hm0 : mm = 0
          · subst hm0
            go_wp2_with fail
            go_ret3
            have Hn := Hopn.out
            rw [Hn]
            refine ⟨grown_trans hgr5 (World.grownBy_alloc w5 _ _), .inr ⟨rfl, w5.heap.size, _, vs1, rfl, hgr5.size, ?_, ?_, World.ownsRow.alloc Hown5.out _, Hrows5.out.mono fun _ _ h => h.same (SameT.alloc _ w5 _)⟩⟩
            · exact ((Ht5.out.imp fun k hk hp => ⟨hp, by omega⟩)).keep (Below.heap_alloc _ _ _ (Nat.lt_of_lt_of_le hgw hgr5.size)) (fun k hk _ => Below.heap_alloc _ _ _ hk)
            · rw [Hbe.out, Hzl.out]; exact heap_alloc_new w5 _
          · go_wp2_with fail
            go_ret3
            have Hn := Hopn.out
            rw [Hn]
            exact ⟨hgr5, .inl ⟨hm0, rfl, Ht5.out⟩⟩
        | true =>
          have Hopn := Lib.hid (show o = (t, 0) from by rw [hopn, hd1]; rfl)
          clear hopn
          go_wp2_with fail
          go_region
          go_wp2_with fail
          refine Heq1.out.mono ?_
          rintro e w5 ⟨rfl, rfl⟩
          rw [hd1]
          go_wp2_with fail
          go_ret3
          have Hn := Hopn.out
          rw [Hn]
          refine ⟨grown_of_below (hbb5.alloc hbb5.size _) _, .inr ⟨rfl, w4.drew.heap.size, _, vs1, rfl, hbb5.size, ?_, ?_, World.ownsRow.alloc Hwin.out.1 _, Hwin.out.2.mono fun _ _ h => h.same (SameT.alloc _ w4.drew _)⟩⟩
          · exact ((Ht4.out.imp fun k hk hp => ⟨hp, by omega⟩)).keep (Below.heap_alloc _ _ _ (Nat.lt_of_lt_of_le hgw hbb5.size)) (fun k hk _ => Below.heap_alloc _ _ _ hk)
          · rw [Hbe.out, Hzl.out]; exact heap_alloc_new w4.drew _
      · have hbb5 := hbb4
        rw [if_neg hgt] at hbst
        obtain ⟨z, hz⟩ : ∃ z, x.take n = z := ⟨_, rfl⟩
        have hzl : z.length = n := by rw [← hz]; simp; omega
        rw [hz] at hbst
        have hbe : be.2 = z := by rw [hbst]
        have Hz := Lib.hid ((hz ▸ List.map_take ▸ Hx.out.take n : RVb w4 (w.heap.size ≤ ·) A (z.map bv)))
        have heq0 := equal_any A A c c w4 x z Hx.out.rv.rb Hz.out.rv.rb
        have heq1 := equal_any B A d c w4 y z Hy.out.rv.rb Hz.out.rv.rb
        have hrp := Hrep.out w4 Ht4.out (fun k hk => hP k (Nat.le_trans hbb5.size hk)) A c z (by omega) (Hz.out.imp fun k _ hk => by have h9 : w.heap.size ≤ k := hk; show k ≠ g; omega)
        rw [hzl] at heq0 heq1 hrp
        rw [hbe] at hopn
        have hf1 : WOpenPost w g P o be = WOpenPost w g P o be := rfl
        clear hf1
        have Heq0 := Lib.hid heq0; have Heq1 := Lib.hid heq1; have Hrp := Lib.hid hrp
        clear heq0 heq1 hrp
        have hwin : w4.ownsRow w.heap.size 51 7 v0 be.1.length vs0 ∧ RowsOf (RRec w4) be.1 vs0 := by
          rw [hbst]
          exact ⟨World.ownsRow_base (owns_below Hown0.out hb4) hbb2.size, Hrows0.out.mono fun _ _ h => h.same (SameT.of_below hb4)⟩
        have Hwin := Lib.hid hwin
        clear hwin
        have Hhz := Lib.hid hz; have Hbst := Lib.hid hbst; have Hbe := Lib.hid hbe; have Hzl := Lib.hid hzl
        clear hz hbst hbe hzl
        cases hd1 : (y == z) with
        | false =>
          have Hopn := Lib.hid (show o = writeT t z true from by rw [hopn, hd1]; rfl)
          clear hopn
          go_wp2_with fail
          refine Heq1.out.mono ?_
          rintro e w5 ⟨rfl, rfl⟩
          rw [hd1]
          go_wp2_with fail
          refine Hrp.out.mono ?_
          rintro e w5 ⟨rfl, ht5, hg5⟩
          have hgr5 : w.grownBy w5 (some g) := grown_trans (grown_of_below hbb5 _) hg5
          generalize writeT t z true = wr at *
          obtain ⟨wt, mm⟩ := wr
          dsimp only at ht5
          have Ht5 := Lib.hid ht5
          clear ht5
          have hown5 : w5.ownsRow w.heap.size 51 7 v0 be.1.length vs0 := World.ownsRow.kept Hwin.out.1 hg5 (by
            cases hv : (v0 : Value).ownBlock with
            | none => exact .inl rfl
            | some k => exact .inr (by have := (Hwin.out.1.lt k hv).1; intro he; injection he with he; omega))
          have hsm5 : SameT recTs w4 w5 := SameT.of_grown hg5 (by rintro k hk; injection hk with hk; subst hk; exact notrec_of_tape Ht4.out)
          have hrows5 : RowsOf (RRec w5) be.1 vs0 := Hwin.out.2.mono fun _ _ h => h.same hsm5
          have Hown5 := Lib.hid hown5; have Hrows5 := Lib.hid hrows5
          clear hown5 hrows5
          by_cases hm0 : mm = 0
          · subst hm0
            go_wp2_with fail
            go_ret3
            have Hn := Hopn.out
            rw [Hn]
            refine ⟨grown_trans hgr5 (World.grownBy_alloc w5 _ _), .inr ⟨rfl, w5.heap.size, _, vs0, rfl, hgr5.size, ?_, ?_, World.ownsRow.alloc Hown5.out _, Hrows5.out.mono fun _ _ h => h.same (SameT.alloc _ w5 _)⟩⟩
            · exact ((Ht5.out.imp fun k hk hp => ⟨hp, by omega⟩)).keep (Below.heap_alloc _ _ _ (Nat.lt_of_lt_of_le hgw hgr5.size)) (fun k hk _ => Below.heap_alloc _ _ _ hk)
            · rw [Hbe.out, Hzl.out]; exact heap_alloc_new w5 _
          · go_wp2_with fail
            go_ret3
            have Hn := Hopn.out
            rw [Hn]
            exact ⟨hgr5, .inl ⟨hm0, rfl, Ht5.out⟩⟩
        | true =>
          have Hopn := Lib.hid (show o = (t, 0) from by rw [hopn, hd1]; rfl)
          clear hopn
          go_wp2_with fail
          refine Heq1.out.mono ?_
          rintro e w5 ⟨rfl, rfl⟩
          rw [hd1]
          go_wp2_with fail
          go_ret3
          have Hn := Hopn.out
          rw [Hn]
          refine ⟨grown_of_below (hbb5.alloc hbb5.size _) _, .inr ⟨rfl, w4.heap.size, _, vs0, rfl, hbb5.size, ?_, ?_, World.ownsRow.alloc Hwin.out.1 _, Hwin.out.2.mono fun _ _ h => h.same (SameT.alloc _ w4 _)⟩⟩
          · exact ((Ht4.out.imp fun k hk hp => ⟨hp, by omega⟩)).keep (Below.heap_alloc _ _ _ (Nat.lt_of_lt_of_le hgw hbb5.size)) (fun k hk _ => Below.heap_alloc _ _ _ hk)
          · rw [Hbe.out, Hzl.out]; exact heap_alloc_new w4 _
  | false =>
    cases hq1 : t.s1.lost with
    | true =>
      rw [hq0, hq1] at hopn
      rw [hq0] at hr0
      rw [hq1] at hr1
      have hr0' : e0 = 0 := hr0
      have hr1' : e1 = 8 := hr1
      subst hr0' hr1'
      clear hr0 hr1
      have Hrd0 := Lib.hid hrd0; have Hrd1 := Lib.hid hrd1; have Hsc0 := Lib.hid hsc0; have Hsc1 := Lib.hid hsc1; have Hrep := Lib.hid hrep; have Ht := Lib.hid h
      clear hrd0 hrd1 hsc0 hsc1 hrep h
      generalize scanOf x = sx at *
      generalize scanOf y = sy at *
      obtain ⟨lx, n⟩ := sx
      obtain ⟨ly, m⟩ := sy
      dsimp only at hle0 hle1 hbst Hsc0 Hsc1
      have Hopn0 := Lib.hid hopn; have Hbst0 := Lib.hid hbst
      clear hopn hbst
      go_enter Try.func33, Try.ntmps33
      go_wp2_with fail
      refine Hrd0.out.mono ?_
      rintro e w1 ⟨hb1, A, c, rfl, hlc, hrv0⟩
      have ht1 := Ht.out.keep (hb1.block g hgw) (fun k hk _ => hb1.block k hk)
      have Hrd1b := Lib.hid (Hrd1.out w1 ht1)
      have Hrv0 := Lib.hid hrv0; have Hht1 := Lib.hid ht1
      clear hrv0 ht1
      go_wp2_with fail
      refine Hrd1b.out.mono ?_
      rintro e w2 ⟨hb2, B, d, rfl, hld, hrv1⟩
      have hbb2 : Below w.heap.size w w2 := hb1.trans (hb2.mono hb1.size)
      have Hrv0b := Lib.hid (Hrv0.out.keep (fun k hk _ => hb2.block k hk))
      have Hs0 := Lib.hid (Hsc0.out A c w2 hlc Hrv0b.out.rv.rb)
      have Hrv1 := Lib.hid (hrv1.imp (P' := (w.heap.size ≤ ·)) fun k _ hk => Nat.le_trans hb1.size hk)
      clear hrv1
      go_wp2_with fail
      refine Hs0.out.mono ?_
      rintro e w3 ⟨v0, vs0, rfl, hown0, hrows0, hb3⟩
      have hbb3 : Below w.heap.size w w3 := hbb2.trans (hb3.mono hbb2.size)
      have hf0 := hown0.form
      have Hown0 := Lib.hid hown0; have Hrows0 := Lib.hid hrows0
      clear hown0 hrows0
      have Hrv0c := Lib.hid (Hrv0b.out.keep (fun k hk _ => hb3.block k hk))
      have Hrv1c := Lib.hid (Hrv1.out.keep (fun k hk _ => hb3.block k hk))
      have Hs1 := Lib.hid (Hsc1.out B d w3 hld Hrv1c.out.rv.rb)
      have hnc : n ≤ c := Nat.le_trans hle0 hlc
      have hmd : m ≤ d := Nat.le_trans hle1 hld
      go_wp2_with fail
      refine Hs1.out.mono ?_
      rintro e w4 ⟨v1, vs1, rfl, hown1, hrows1, hb4⟩
      have hbb4 : Below w.heap.size w w4 := hbb3.trans (hb4.mono hbb3.size)
      have Hown1 := Lib.hid hown1; have Hrows1 := Lib.hid hrows1
      clear hown1 hrows1
      have Hx := Lib.hid (Hrv0c.out.keep (fun k hk _ => hb4.block k hk))
      have Hy := Lib.hid (Hrv1c.out.keep (fun k hk _ => hb4.block k hk))
      have Ht4 := Lib.hid (Ht.out.keep (hbb4.block g hgw) (fun k hk _ => hbb4.block k hk))
      have hopn := Hopn0.out; have hbst := Hbst0.out
      clear Hopn0 Hbst0
      by_cases hgt : n < m
      · have hbb5 : Below w.heap.size w w4.drew := ⟨hbb4.os, hbb4.tape, hbb4.output, hbb4.size, hbb4.block⟩
        have HX := Lib.hid (show RVb w4.drew (w.heap.size ≤ ·) A (x.map bv) from Hx.out)
        have HY := Lib.hid (show RVb w4.drew (w.heap.size ≤ ·) B (y.map bv) from Hy.out)
        have HT := Lib.hid (show TapeAt w4.drew g P t from Ht4.out)
        clear Hx Hy Ht4
        have Hx := HX; have Hy := HY; have Ht4 := HT
        clear HX HY HT
        rw [if_pos hgt] at hbst
        obtain ⟨z, hz⟩ : ∃ z, y.take m = z := ⟨_, rfl⟩
        have hzl : z.length = m := by rw [← hz]; simp; omega
        rw [hz] at hbst
        have hbe : be.2 = z := by rw [hbst]
        have Hz := Lib.hid ((hz ▸ List.map_take ▸ Hy.out.take m : RVb w4.drew (w.heap.size ≤ ·) B (z.map bv)))
        have heq0 := equal_any A B c d w4.drew x z Hx.out.rv.rb Hz.out.rv.rb
        have heq1 := equal_any B B d d w4.drew y z Hy.out.rv.rb Hz.out.rv.rb
        have hrp := Hrep.out w4.drew Ht4.out (fun k hk => hP k (Nat.le_trans hbb5.size hk)) B d z (by omega) (Hz.out.imp fun k _ hk => by have h9 : w.heap.size ≤ k := hk; show k ≠ g; omega)
        rw [hzl] at heq0 heq1 hrp
        rw [hbe] at hopn
        have hf1 : WOpenPost w g P o be = WOpenPost w g P o be := rfl
        clear hf1
        have Heq0 := Lib.hid heq0; have Heq1 := Lib.hid heq1; have Hrp := Lib.hid hrp
        clear heq0 heq1 hrp
        have hwin : w4.drew.ownsRow w.heap.size 51 7 v1 be.1.length vs1 ∧ RowsOf (RRec w4.drew) be.1 vs1 := by
          rw [hbst]
          exact ⟨World.ownsRow_base (show w4.drew.ownsRow _ _ _ _ _ _ from Hown1.out) hbb3.size, Hrows1.out.mono fun _ _ h => (show RRec w4.drew _ _ from h)⟩
        have Hwin := Lib.hid hwin
        clear hwin
        have Hhz := Lib.hid hz; have Hbst := Lib.hid hbst; have Hbe := Lib.hid hbe; have Hzl := Lib.hid hzl
        clear hz hbst hbe hzl
        cases hd0 : (x == z) with
        | false =>
          have Hopn := Lib.hid (show o = writeT t z true from by rw [hopn, hd0]; rfl)
          clear hopn
          go_wp2_with fail
          go_region
          go_wp2_with fail
          refine Heq0.out.mono ?_
          rintro e w5 ⟨rfl, rfl⟩
          rw [hd0]
          go_wp2_with fail
          refine Hrp.out.mono ?_
          rintro e w5 ⟨rfl, ht5, hg5⟩
          have hgr5 : w.grownBy w5 (some g) := grown_trans (grown_of_below hbb5 _) hg5
          generalize writeT t z true = wr at *
          obtain ⟨wt, mm⟩ := wr
          dsimp only at ht5
          have Ht5 := Lib.hid ht5
          clear ht5
          have hown5 : w5.ownsRow w.heap.size 51 7 v1 be.1.length vs1 := World.ownsRow.kept Hwin.out.1 hg5 (by
            cases hv : (v1 : Value).ownBlock with
            | none => exact .inl rfl
            | some k => exact .inr (by have := (Hwin.out.1.lt k hv).1; intro he; injection he with he; omega))
          have hsm5 : SameT recTs w4.drew w5 := SameT.of_grown hg5 (by rintro k hk; injection hk with hk; subst hk; exact notrec_of_tape Ht4.out)
          have hrows5 : RowsOf (RRec w5) be.1 vs1 := Hwin.out.2.mono fun _ _ h => h.same hsm5
          have Hown5 := Lib.hid hown5; have Hrows5 := Lib.hid hrows5
          clear hown5 hrows5
          by_cases hm0 : mm = 0
          · subst hm0
            go_wp2_with fail
            go_ret3
            have Hn := Hopn.out
            rw [Hn]
            refine ⟨grown_trans hgr5 (World.grownBy_alloc w5 _ _), .inr ⟨rfl, w5.heap.size, _, vs1, rfl, hgr5.size, ?_, ?_, World.ownsRow.alloc Hown5.out _, Hrows5.out.mono fun _ _ h => h.same (SameT.alloc _ w5 _)⟩⟩
            · exact ((Ht5.out.imp fun k hk hp => ⟨hp, by omega⟩)).keep (Below.heap_alloc _ _ _ (Nat.lt_of_lt_of_le hgw hgr5.size)) (fun k hk _ => Below.heap_alloc _ _ _ hk)
            · rw [Hbe.out, Hzl.out]; exact heap_alloc_new w5 _
          · go_wp2_with fail
            go_ret3
            have Hn := Hopn.out
            rw [Hn]
            exact ⟨hgr5, .inl ⟨hm0, rfl, Ht5.out⟩⟩
        | true =>
          have Hopn := Lib.hid (show o = (t, 0) from by rw [hopn, hd0]; rfl)
          clear hopn
          go_wp2_with fail
          go_region
          go_wp2_with fail
          refine Heq0.out.mono ?_
          rintro e w5 ⟨rfl, rfl⟩
          rw [hd0]
          go_wp2_with fail
          go_ret3
          have Hn := Hopn.out
          rw [Hn]
          refine ⟨grown_of_below (hbb5.alloc hbb5.size _) _, .inr ⟨rfl, w4.drew.heap.size, _, vs1, rfl, hbb5.size, ?_, ?_, World.ownsRow.alloc Hwin.out.1 _, Hwin.out.2.mono fun _ _ h => h.same (SameT.alloc _ w4.drew _)⟩⟩
          · exact ((Ht4.out.imp fun k hk hp => ⟨hp, by omega⟩)).keep (Below.heap_alloc _ _ _ (Nat.lt_of_lt_of_le hgw hbb5.size)) (fun k hk _ => Below.heap_alloc _ _ _ hk)
          · rw [Hbe.out, Hzl.out]; exact heap_alloc_new w4.drew _
      · have hbb5 := hbb4
        rw [if_neg hgt] at hbst
        obtain ⟨z, hz⟩ : ∃ z, x.take n = z := ⟨_, rfl⟩
        have hzl : z.length = n := by rw [← hz]; simp; omega
        rw [hz] at hbst
        have hbe : be.2 = z := by rw [hbst]
        have Hz := Lib.hid ((hz ▸ List.map_take ▸ Hx.out.take n : RVb w4 (w.heap.size ≤ ·) A (z.map bv)))
        have heq0 := equal_any A A c c w4 x z Hx.out.rv.rb Hz.out.rv.rb
        have heq1 := equal_any B A d c w4 y z Hy.out.rv.rb Hz.out.rv.rb
        have hrp := Hrep.out w4 Ht4.out (fun k hk => hP k (Nat.le_trans hbb5.size hk)) A c z (by omega) (Hz.out.imp fun k _ hk => by have h9 : w.heap.size ≤ k := hk; show k ≠ g; omega)
        rw [hzl] at heq0 heq1 hrp
        rw [hbe] at hopn
        have hf1 : WOpenPost w g P o be = WOpenPost w g P o be := rfl
        clear hf1
        have Heq0 := Lib.hid heq0; have Heq1 := Lib.hid heq1; have Hrp := Lib.hid hrp
        clear heq0 heq1 hrp
        have hwin : w4.ownsRow w.heap.size 51 7 v0 be.1.length vs0 ∧ RowsOf (RRec w4) be.1 vs0 := by
          rw [hbst]
          exact ⟨World.ownsRow_base (owns_below Hown0.out hb4) hbb2.size, Hrows0.out.mono fun _ _ h => h.same (SameT.of_below hb4)⟩
        have Hwin := Lib.hid hwin
        clear hwin
        have Hhz := Lib.hid hz; have Hbst := Lib.hid hbst; have Hbe := Lib.hid hbe; have Hzl := Lib.hid hzl
        clear hz hbst hbe hzl
        cases hd0 : (x == z) with
        | false =>
          have Hopn := Lib.hid (show o = writeT t z true from by rw [hopn, hd0]; rfl)
          clear hopn
          go_wp2_with fail
          refine Heq0.out.mono ?_
          rintro e w5 ⟨rfl, rfl⟩
          rw [hd0]
          go_wp2_with fail
          refine Hrp.out.mono ?_
          rintro e w5 ⟨rfl, ht5, hg5⟩
          have hgr5 : w.grownBy w5 (some g) := grown_trans (grown_of_below hbb5 _) hg5
          generalize writeT t z true = wr at *
          obtain ⟨wt, mm⟩ := wr
          dsimp only at ht5
          have Ht5 := Lib.hid ht5
          clear ht5
          have hown5 : w5.ownsRow w.heap.size 51 7 v0 be.1.length vs0 := World.ownsRow.kept Hwin.out.1 hg5 (by
            cases hv : (v0 : Value).ownBlock with
            | none => exact .inl rfl
            | some k => exact .inr (by have := (Hwin.out.1.lt k hv).1; intro he; injection he with he; omega))
          have hsm5 : SameT recTs w4 w5 := SameT.of_grown hg5 (by rintro k hk; injection hk with hk; subst hk; exact notrec_of_tape Ht4.out)
          have hrows5 : RowsOf (RRec w5) be.1 vs0 := Hwin.out.2.mono fun _ _ h => h.same hsm5
          have Hown5 := Lib.hid hown5; have Hrows5 := Lib.hid hrows5
          clear hown5 hrows5
          by_cases hm0 : mm = 0
          · subst hm0
            go_wp2_with fail
            go_ret3
            have Hn := Hopn.out
            rw [Hn]
            refine ⟨grown_trans hgr5 (World.grownBy_alloc w5 _ _), .inr ⟨rfl, w5.heap.size, _, vs0, rfl, hgr5.size, ?_, ?_, World.ownsRow.alloc Hown5.out _, Hrows5.out.mono fun _ _ h => h.same (SameT.alloc _ w5 _)⟩⟩
            · exact ((Ht5.out.imp fun k hk hp => ⟨hp, by omega⟩)).keep (Below.heap_alloc _ _ _ (Nat.lt_of_lt_of_le hgw hgr5.size)) (fun k hk _ => Below.heap_alloc _ _ _ hk)
            · rw [Hbe.out, Hzl.out]; exact heap_alloc_new w5 _
          · go_wp2_with fail
            go_ret3
            have Hn := Hopn.out
            rw [Hn]
            exact ⟨hgr5, .inl ⟨hm0, rfl, Ht5.out⟩⟩
        | true =>
          have Hopn := Lib.hid (show o = (t, 0) from by rw [hopn, hd0]; rfl)
          clear hopn
          go_wp2_with fail
          refine Heq0.out.mono ?_
          rintro e w5 ⟨rfl, rfl⟩
          rw [hd0]
          go_wp2_with fail
          go_ret3
          have Hn := Hopn.out
          rw [Hn]
          refine ⟨grown_of_below (hbb5.alloc hbb5.size _) _, .inr ⟨rfl, w4.heap.size, _, vs0, rfl, hbb5.size, ?_, ?_, World.ownsRow.alloc Hwin.out.1 _, Hwin.out.2.mono fun _ _ h => h.same (SameT.alloc _ w4 _)⟩⟩
          · exact ((Ht4.out.imp fun k hk hp => ⟨hp, by omega⟩)).keep (Below.heap_alloc _ _ _ (Nat.lt_of_lt_of_le hgw hbb5.size)) (fun k hk _ => Below.heap_alloc _ _ _ hk)
          · rw [Hbe.out, Hzl.out]; exact heap_alloc_new w4 _
    | false =>
      rw [hq0, hq1] at hopn
      rw [hq0] at hr0
      rw [hq1] at hr1
      have hr0' : e0 = 0 := hr0
      have hr1' : e1 = 0 := hr1
      subst hr0' hr1'
      clear hr0 hr1
      have Hrd0 := Lib.hid hrd0; have Hrd1 := Lib.hid hrd1; have Hsc0 := Lib.hid hsc0; have Hsc1 := Lib.hid hsc1; have Hrep := Lib.hid hrep; have Ht := Lib.hid h
      clear hrd0 hrd1 hsc0 hsc1 hrep h
      generalize scanOf x = sx at *
      generalize scanOf y = sy at *
      obtain ⟨lx, n⟩ := sx
      obtain ⟨ly, m⟩ := sy
      dsimp only at hle0 hle1 hbst Hsc0 Hsc1
      have Hopn0 := Lib.hid hopn; have Hbst0 := Lib.hid hbst
      clear hopn hbst
      go_enter Try.func33, Try.ntmps33
      go_wp2_with fail
      refine Hrd0.out.mono ?_
      rintro e w1 ⟨hb1, A, c, rfl, hlc, hrv0⟩
      have ht1 := Ht.out.keep (hb1.block g hgw) (fun k hk _ => hb1.block k hk)
      have Hrd1b := Lib.hid (Hrd1.out w1 ht1)
      have Hrv0 := Lib.hid hrv0; have Hht1 := Lib.hid ht1
      clear hrv0 ht1
      go_wp2_with fail
      refine Hrd1b.out.mono ?_
      rintro e w2 ⟨hb2, B, d, rfl, hld, hrv1⟩
      have hbb2 : Below w.heap.size w w2 := hb1.trans (hb2.mono hb1.size)
      have Hrv0b := Lib.hid (Hrv0.out.keep (fun k hk _ => hb2.block k hk))
      have Hs0 := Lib.hid (Hsc0.out A c w2 hlc Hrv0b.out.rv.rb)
      have Hrv1 := Lib.hid (hrv1.imp (P' := (w.heap.size ≤ ·)) fun k _ hk => Nat.le_trans hb1.size hk)
      clear hrv1
      go_wp2_with fail
      refine Hs0.out.mono ?_
      rintro e w3 ⟨v0, vs0, rfl, hown0, hrows0, hb3⟩
      have hbb3 : Below w.heap.size w w3 := hbb2.trans (hb3.mono hbb2.size)
      have hf0 := hown0.form
      have Hown0 := Lib.hid hown0; have Hrows0 := Lib.hid hrows0
      clear hown0 hrows0
      have Hrv0c := Lib.hid (Hrv0b.out.keep (fun k hk _ => hb3.block k hk))
      have Hrv1c := Lib.hid (Hrv1.out.keep (fun k hk _ => hb3.block k hk))
      have Hs1 := Lib.hid (Hsc1.out B d w3 hld Hrv1c.out.rv.rb)
      have hnc : n ≤ c := Nat.le_trans hle0 hlc
      have hmd : m ≤ d := Nat.le_trans hle1 hld
      go_wp2_with fail
      refine Hs1.out.mono ?_
      rintro e w4 ⟨v1, vs1, rfl, hown1, hrows1, hb4⟩
      have hbb4 : Below w.heap.size w w4 := hbb3.trans (hb4.mono hbb3.size)
      have Hown1 := Lib.hid hown1; have Hrows1 := Lib.hid hrows1
      clear hown1 hrows1
      have Hx := Lib.hid (Hrv0c.out.keep (fun k hk _ => hb4.block k hk))
      have Hy := Lib.hid (Hrv1c.out.keep (fun k hk _ => hb4.block k hk))
      have Ht4 := Lib.hid (Ht.out.keep (hbb4.block g hgw) (fun k hk _ => hbb4.block k hk))
      have hopn := Hopn0.out; have hbst := Hbst0.out
      clear Hopn0 Hbst0
      by_cases hgt : n < m
      · have hbb5 : Below w.heap.size w w4.drew := ⟨hbb4.os, hbb4.tape, hbb4.output, hbb4.size, hbb4.block⟩
        have HX := Lib.hid (show RVb w4.drew (w.heap.size ≤ ·) A (x.map bv) from Hx.out)
        have HY := Lib.hid (show RVb w4.drew (w.heap.size ≤ ·) B (y.map bv) from Hy.out)
        have HT := Lib.hid (show TapeAt w4.drew g P t from Ht4.out)
        clear Hx Hy Ht4
        have Hx := HX; have Hy := HY; have Ht4 := HT
        clear HX HY HT
        rw [if_pos hgt] at hbst
        obtain ⟨z, hz⟩ : ∃ z, y.take m = z := ⟨_, rfl⟩
        have hzl : z.length = m := by rw [← hz]; simp; omega
        rw [hz] at hbst
        have hbe : be.2 = z := by rw [hbst]
        have Hz := Lib.hid ((hz ▸ List.map_take ▸ Hy.out.take m : RVb w4.drew (w.heap.size ≤ ·) B (z.map bv)))
        have heq0 := equal_any A B c d w4.drew x z Hx.out.rv.rb Hz.out.rv.rb
        have heq1 := equal_any B B d d w4.drew y z Hy.out.rv.rb Hz.out.rv.rb
        have hrp := Hrep.out w4.drew Ht4.out (fun k hk => hP k (Nat.le_trans hbb5.size hk)) B d z (by omega) (Hz.out.imp fun k _ hk => by have h9 : w.heap.size ≤ k := hk; show k ≠ g; omega)
        rw [hzl] at heq0 heq1 hrp
        rw [hbe] at hopn
        have hf1 : WOpenPost w g P o be = WOpenPost w g P o be := rfl
        clear hf1
        have Heq0 := Lib.hid heq0; have Heq1 := Lib.hid heq1; have Hrp := Lib.hid hrp
        clear heq0 heq1 hrp
        have hwin : w4.drew.ownsRow w.heap.size 51 7 v1 be.1.length vs1 ∧ RowsOf (RRec w4.drew) be.1 vs1 := by
          rw [hbst]
          exact ⟨World.ownsRow_base (show w4.drew.ownsRow _ _ _ _ _ _ from Hown1.out) hbb3.size, Hrows1.out.mono fun _ _ h => (show RRec w4.drew _ _ from h)⟩
        have Hwin := Lib.hid hwin
        clear hwin
        have Hhz := Lib.hid hz; have Hbst := Lib.hid hbst; have Hbe := Lib.hid hbe; have Hzl := Lib.hid hzl
        clear hz hbst hbe hzl
        cases hd0 : (x == z) with
        | false =>
          have Hopn := Lib.hid (show o = writeT t z true from by rw [hopn, hd0]; rfl)
          clear hopn
          go_wp2_with fail
          go_region
          go_wp2_with fail
          refine Heq0.out.mono ?_
          rintro e w5 ⟨rfl, rfl⟩
          rw [hd0]
          go_wp2_with fail
          refine Hrp.out.mono ?_
          rintro e w5 ⟨rfl, ht5, hg5⟩
          have hgr5 : w.grownBy w5 (some g) := grown_trans (grown_of_below hbb5 _) hg5
          generalize writeT t z true = wr at *
          obtain ⟨wt, mm⟩ := wr
          dsimp only at ht5
          have Ht5 := Lib.hid ht5
          clear ht5
          have hown5 : w5.ownsRow w.heap.size 51 7 v1 be.1.length vs1 := World.ownsRow.kept Hwin.out.1 hg5 (by
            cases hv : (v1 : Value).ownBlock with
            | none => exact .inl rfl
            | some k => exact .inr (by have := (Hwin.out.1.lt k hv).1; intro he; injection he with he; omega))
          have hsm5 : SameT recTs w4.drew w5 := SameT.of_grown hg5 (by rintro k hk; injection hk with hk; subst hk; exact notrec_of_tape Ht4.out)
          have hrows5 : RowsOf (RRec w5) be.1 vs1 := Hwin.out.2.mono fun _ _ h => h.same hsm5
          have Hown5 := Lib.hid hown5; have Hrows5 := Lib.hid hrows5
          clear hown5 hrows5
          by_cases hm0 : mm = 0
          · subst hm0
            go_wp2_with fail
            go_ret3
            have Hn := Hopn.out
            rw [Hn]
            refine ⟨grown_trans hgr5 (World.grownBy_alloc w5 _ _), .inr ⟨rfl, w5.heap.size, _, vs1, rfl, hgr5.size, ?_, ?_, World.ownsRow.alloc Hown5.out _, Hrows5.out.mono fun _ _ h => h.same (SameT.alloc _ w5 _)⟩⟩
            · exact ((Ht5.out.imp fun k hk hp => ⟨hp, by omega⟩)).keep (Below.heap_alloc _ _ _ (Nat.lt_of_lt_of_le hgw hgr5.size)) (fun k hk _ => Below.heap_alloc _ _ _ hk)
            · rw [Hbe.out, Hzl.out]; exact heap_alloc_new w5 _
          · go_wp2_with fail
            go_ret3
            have Hn := Hopn.out
            rw [Hn]
            exact ⟨hgr5, .inl ⟨hm0, rfl, Ht5.out⟩⟩
        | true =>
          cases hd1 : (y == z) with
          | false =>
            have Hopn := Lib.hid (show o = writeT t z true from by rw [hopn, hd0, hd1]; rfl)
            clear hopn
            go_wp2_with fail
            go_region
            go_wp2_with fail
            refine Heq0.out.mono ?_
            rintro e w5 ⟨rfl, rfl⟩
            rw [hd0]
            go_wp2_with fail
            refine Heq1.out.mono ?_
            rintro e w5 ⟨rfl, rfl⟩
            rw [hd1]
            go_wp2_with fail
            refine Hrp.out.mono ?_
            rintro e w5 ⟨rfl, ht5, hg5⟩
            have hgr5 : w.grownBy w5 (some g) := grown_trans (grown_of_below hbb5 _) hg5
            generalize writeT t z true = wr at *
            obtain ⟨wt, mm⟩ := wr
            dsimp only at ht5
            have Ht5 := Lib.hid ht5
            clear ht5
            have hown5 : w5.ownsRow w.heap.size 51 7 v1 be.1.length vs1 := World.ownsRow.kept Hwin.out.1 hg5 (by
              cases hv : (v1 : Value).ownBlock with
              | none => exact .inl rfl
              | some k => exact .inr (by have := (Hwin.out.1.lt k hv).1; intro he; injection he with he; omega))
            have hsm5 : SameT recTs w4.drew w5 := SameT.of_grown hg5 (by rintro k hk; injection hk with hk; subst hk; exact notrec_of_tape Ht4.out)
            have hrows5 : RowsOf (RRec w5) be.1 vs1 := Hwin.out.2.mono fun _ _ h => h.same hsm5
            have Hown5 := Lib.hid hown5; have Hrows5 := Lib.hid hrows5
            clear hown5 hrows5
            by_cases hm0 : mm = 0
            · subst hm0
              go_wp2_with fail
              go_ret3
              have Hn := Hopn.out
              rw [Hn]
              refine ⟨grown_trans hgr5 (World.grownBy_alloc w5 _ _), .inr ⟨rfl, w5.heap.size, _, vs1, rfl, hgr5.size, ?_, ?_, World.ownsRow.alloc Hown5.out _, Hrows5.out.mono fun _ _ h => h.same (SameT.alloc _ w5 _)⟩⟩
              · exact ((Ht5.out.imp fun k hk hp => ⟨hp, by omega⟩)).keep (Below.heap_alloc _ _ _ (Nat.lt_of_lt_of_le hgw hgr5.size)) (fun k hk _ => Below.heap_alloc _ _ _ hk)
              · rw [Hbe.out, Hzl.out]; exact heap_alloc_new w5 _
            · go_wp2_with fail
              go_ret3
              have Hn := Hopn.out
              rw [Hn]
              exact ⟨hgr5, .inl ⟨hm0, rfl, Ht5.out⟩⟩
          | true =>
            have Hopn := Lib.hid (show o = (t, 0) from by rw [hopn, hd0, hd1]; rfl)
            clear hopn
            go_wp2_with fail
            go_region
            go_wp2_with fail
            refine Heq0.out.mono ?_
            rintro e w5 ⟨rfl, rfl⟩
            rw [hd0]
            go_wp2_with fail
            refine Heq1.out.mono ?_
            rintro e w5 ⟨rfl, rfl⟩
            rw [hd1]
            go_wp2_with fail
            go_ret3
            have Hn := Hopn.out
            rw [Hn]
            refine ⟨grown_of_below (hbb5.alloc hbb5.size _) _, .inr ⟨rfl, w4.drew.heap.size, _, vs1, rfl, hbb5.size, ?_, ?_, World.ownsRow.alloc Hwin.out.1 _, Hwin.out.2.mono fun _ _ h => h.same (SameT.alloc _ w4.drew _)⟩⟩
            · exact ((Ht4.out.imp fun k hk hp => ⟨hp, by omega⟩)).keep (Below.heap_alloc _ _ _ (Nat.lt_of_lt_of_le hgw hbb5.size)) (fun k hk _ => Below.heap_alloc _ _ _ hk)
            · rw [Hbe.out, Hzl.out]; exact heap_alloc_new w4.drew _
      · have hbb5 := hbb4
        rw [if_neg hgt] at hbst
        obtain ⟨z, hz⟩ : ∃ z, x.take n = z := ⟨_, rfl⟩
        have hzl : z.length = n := by rw [← hz]; simp; omega
        rw [hz] at hbst
        have hbe : be.2 = z := by rw [hbst]
        have Hz := Lib.hid ((hz ▸ List.map_take ▸ Hx.out.take n : RVb w4 (w.heap.size ≤ ·) A (z.map bv)))
        have heq0 := equal_any A A c c w4 x z Hx.out.rv.rb Hz.out.rv.rb
        have heq1 := equal_any B A d c w4 y z Hy.out.rv.rb Hz.out.rv.rb
        have hrp := Hrep.out w4 Ht4.out (fun k hk => hP k (Nat.le_trans hbb5.size hk)) A c z (by omega) (Hz.out.imp fun k _ hk => by have h9 : w.heap.size ≤ k := hk; show k ≠ g; omega)
        rw [hzl] at heq0 heq1 hrp
        rw [hbe] at hopn
        have hf1 : WOpenPost w g P o be = WOpenPost w g P o be := rfl
        clear hf1
        have Heq0 := Lib.hid heq0; have Heq1 := Lib.hid heq1; have Hrp := Lib.hid hrp
        clear heq0 heq1 hrp
        have hwin : w4.ownsRow w.heap.size 51 7 v0 be.1.length vs0 ∧ RowsOf (RRec w4) be.1 vs0 := by
          rw [hbst]
          exact ⟨World.ownsRow_base (owns_below Hown0.out hb4) hbb2.size, Hrows0.out.mono fun _ _ h => h.same (SameT.of_below hb4)⟩
        have Hwin := Lib.hid hwin
        clear hwin
        have Hhz := Lib.hid hz; have Hbst := Lib.hid hbst; have Hbe := Lib.hid hbe; have Hzl := Lib.hid hzl
        clear hz hbst hbe hzl
        cases hd0 : (x == z) with
        | false =>
          have Hopn := Lib.hid (show o = writeT t z true from by rw [hopn, hd0]; rfl)
          clear hopn
          go_wp2_with fail
          refine Heq0.out.mono ?_
          rintro e w5 ⟨rfl, rfl⟩
          rw [hd0]
          go_wp2_with fail
          refine Hrp.out.mono ?_
          rintro e w5 ⟨rfl, ht5, hg5⟩
          have hgr5 : w.grownBy w5 (some g) := grown_trans (grown_of_below hbb5 _) hg5
          generalize writeT t z true = wr at *
          obtain ⟨wt, mm⟩ := wr
          dsimp only at ht5
          have Ht5 := Lib.hid ht5
          clear ht5
          have hown5 : w5.ownsRow w.heap.size 51 7 v0 be.1.length vs0 := World.ownsRow.kept Hwin.out.1 hg5 (by
            cases hv : (v0 : Value).ownBlock with
            | none => exact .inl rfl
            | some k => exact .inr (by have := (Hwin.out.1.lt k hv).1; intro he; injection he with he; omega))
          have hsm5 : SameT recTs w4 w5 := SameT.of_grown hg5 (by rintro k hk; injection hk with hk; subst hk; exact notrec_of_tape Ht4.out)
          have hrows5 : RowsOf (RRec w5) be.1 vs0 := Hwin.out.2.mono fun _ _ h => h.same hsm5
          have Hown5 := Lib.hid hown5; have Hrows5 := Lib.hid hrows5
          clear hown5 hrows5
          by_cases hm0 : mm = 0
          · subst hm0
            go_wp2_with fail
            go_ret3
            have Hn := Hopn.out
            rw [Hn]
            refine ⟨grown_trans hgr5 (World.grownBy_alloc w5 _ _), .inr ⟨rfl, w5.heap.size, _, vs0, rfl, hgr5.size, ?_, ?_, World.ownsRow.alloc Hown5.out _, Hrows5.out.mono fun _ _ h => h.same (SameT.alloc _ w5 _)⟩⟩
            · exact ((Ht5.out.imp fun k hk hp => ⟨hp, by omega⟩)).keep (Below.heap_alloc _ _ _ (Nat.lt_of_lt_of_le hgw hgr5.size)) (fun k hk _ => Below.heap_alloc _ _ _ hk)
            · rw [Hbe.out, Hzl.out]; exact heap_alloc_new w5 _
          · go_wp2_with fail
            go_ret3
            have Hn := Hopn.out
            rw [Hn]
            exact ⟨hgr5, .inl ⟨hm0, rfl, Ht5.out⟩⟩
        | true =>
          cases hd1 : (y == z) with
          | false =>
            have Hopn := Lib.hid (show o = writeT t z true from by rw [hopn, hd0, hd1]; rfl)
            clear hopn
            go_wp2_with fail
            refine Heq0.out.mono ?_
            rintro e w5 ⟨rfl, rfl⟩
            rw [hd0]
            go_wp2_with fail
            refine Heq1.out.mono ?_
            rintro e w5 ⟨rfl, rfl⟩
            rw [hd1]
            go_wp2_with fail
            refine Hrp.out.mono ?_
            rintro e w5 ⟨rfl, ht5, hg5⟩
            have hgr5 : w.grownBy w5 (some g) := grown_trans (grown_of_below hbb5 _) hg5
            generalize writeT t z true = wr at *
            obtain ⟨wt, mm⟩ := wr
            dsimp only at ht5
            have Ht5 := Lib.hid ht5
            clear ht5
            have hown5 : w5.ownsRow w.heap.size 51 7 v0 be.1.length vs0 := World.ownsRow.kept Hwin.out.1 hg5 (by
              cases hv : (v0 : Value).ownBlock with
              | none => exact .inl rfl
              | some k => exact .inr (by have := (Hwin.out.1.lt k hv).1; intro he; injection he with he; omega))
            have hsm5 : SameT recTs w4 w5 := SameT.of_grown hg5 (by rintro k hk; injection hk with hk; subst hk; exact notrec_of_tape Ht4.out)
            have hrows5 : RowsOf (RRec w5) be.1 vs0 := Hwin.out.2.mono fun _ _ h => h.same hsm5
            have Hown5 := Lib.hid hown5; have Hrows5 := Lib.hid hrows5
            clear hown5 hrows5
            by_cases hm0 : mm = 0
            · subst hm0
              go_wp2_with fail
              go_ret3
              have Hn := Hopn.out
              rw [Hn]
              refine ⟨grown_trans hgr5 (World.grownBy_alloc w5 _ _), .inr ⟨rfl, w5.heap.size, _, vs0, rfl, hgr5.size, ?_, ?_, World.ownsRow.alloc Hown5.out _, Hrows5.out.mono fun _ _ h => h.same (SameT.alloc _ w5 _)⟩⟩
              · exact ((Ht5.out.imp fun k hk hp => ⟨hp, by omega⟩)).keep (Below.heap_alloc _ _ _ (Nat.lt_of_lt_of_le hgw hgr5.size)) (fun k hk _ => Below.heap_alloc _ _ _ hk)
              · rw [Hbe.out, Hzl.out]; exact heap_alloc_new w5 _
            · go_wp2_with fail
              go_ret3
              have Hn := Hopn.out
              rw [Hn]
              exact ⟨hgr5, .inl ⟨hm0, rfl, Ht5.out⟩⟩
          | true =>
            have Hopn := Lib.hid (show o = (t, 0) from by rw [hopn, hd0, hd1]; rfl)
            clear hopn
            go_wp2_with fail
            refine Heq0.out.mono ?_
            rintro e w5 ⟨rfl, rfl⟩
            rw [hd0]
            go_wp2_with fail
            refine Heq1.out.mono ?_
            rintro e w5 ⟨rfl, rfl⟩
            rw [hd1]
            go_wp2_with fail
            go_ret3
            have Hn := Hopn.out
            rw [Hn]
            refine ⟨grown_of_below (hbb5.alloc hbb5.size _) _, .inr ⟨rfl, w4.heap.size, _, vs0, rfl, hbb5.size, ?_, ?_, World.ownsRow.alloc Hwin.out.1 _, Hwin.out.2.mono fun _ _ h => h.same (SameT.alloc _ w4 _)⟩⟩
            · exact ((Ht4.out.imp fun k hk hp => ⟨hp, by omega⟩)).keep (Below.heap_alloc _ _ _ (Nat.lt_of_lt_of_le hgw hbb5.size)) (fun k hk _ => Below.heap_alloc _ _ _ hk)
            · rw [Hbe.out, Hzl.out]; exact heap_alloc_new w4 _
end Go.Proofs.Ytmleldgohfcdbaa
