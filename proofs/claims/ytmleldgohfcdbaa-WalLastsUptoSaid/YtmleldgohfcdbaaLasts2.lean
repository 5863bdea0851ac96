/- law11's WalLasts: the walk. -/
import Derived.Test.YtmleldgohfcdbaaLasts
import Derived.Test.YtmleldgohfcdbaaAppends
namespace Go.Proofs.Ytmleldgohfcdbaa
set_option linter.unusedVariables false
set_option linter.unusedSimpArgs false
open Go.RowKit
/-- A row of records that came to be in blocks from B on; what they bear lies below n0. -/
def PhAt (W : World) (n0 B : Nat) (p : Value) (ph : List PRec) : Prop :=
  ∃ A c pvs, p = .slice A ph.length c ∧ ph.length ≤ c ∧ (ph = [] → A = none ∧ c = 0) ∧ RowsOf (RecVal W (· < n0)) ph pvs ∧ RVb W (B ≤ ·) A pvs
theorem PhAt.nil (W : World) (n0 B : Nat) : PhAt W n0 B (.slice none 0 0) [] := ⟨none, 0, [], rfl, Nat.le_refl _, fun _ => ⟨rfl, rfl⟩, rfl, RVb.none_⟩
theorem PhAt.keep {W W' : World} {n0 B : Nat} {p : Value} {ph : List PRec} (h : PhAt W n0 B p ph) (hk : ∀ k, k < W.heap.size → (k < n0 ∨ B ≤ k) → W'.heap[k]? = W.heap[k]?) : PhAt W' n0 B p ph := by
  obtain ⟨A, c, pvs, h1, h2, h3, h4, h5⟩ := h
  exact ⟨A, c, pvs, h1, h2, h3, h4.mono fun _ _ h => h.keep fun k hk' hp => hk k hk' (.inl hp), h5.keep fun k hk' hp => hk k hk' (.inr hp)⟩
theorem PhAt.two {W W' : World} {n0 B g q : Nat} {p : Value} {ph : List PRec} (h : PhAt W n0 B p ph) (ht : Two g q W W') (h1 : n0 ≤ g) (h2 : n0 ≤ q) (h3 : g < B) (h4 : q < B) : PhAt W' n0 B p ph :=
  h.keep fun k hk hp => ht.block k hk (by omega) (by omega)
theorem PhAt.recs {W : World} {n0 B : Nat} {p : Value} {ph : List PRec} (h : PhAt W n0 B p ph) : ∃ A c, p = .slice A ph.length c ∧ ph.length ≤ c ∧ RRecs W (· < W.heap.size) A ph := by
  obtain ⟨A, c, pvs, h1, h2, h3, h4, h5⟩ := h
  exact ⟨A, c, h1, h2, pvs, h4.mono fun _ _ h => h.imp fun k hk _ => hk, h5.imp fun k hk _ => hk⟩
theorem below_drew {B : Nat} {a w : World} (h : Below B a w) : Below B a w.drew := ⟨h.os, h.tape, h.output, h.size, h.block⟩
theorem PhAt.of_own {W : World} {n0 B B' : Nat} {p : Value} {ph : List PRec} {pvs : List Value} (h : W.ownsRow B' 51 7 p ph.length pvs) (hr : RowsOf (RecVal W (· < n0)) ph pvs) (hB : B ≤ B') (hp : ph ≠ []) : PhAt W n0 B p ph := by
  rcases h.2 with ⟨-, hn⟩ | ⟨g, cap, cur, rfl, hb, hg, hnc, -⟩
  · exact absurd (List.eq_nil_of_length_eq_zero hn) hp
  · refine ⟨_, cap, pvs, rfl, hnc, fun e => absurd e hp, hr, ?_⟩
    intro j hj
    obtain ⟨ad, e, hc⟩ := RV.of_own h j hj
    exact ⟨ad, e, by injection e with e; subst e; exact Nat.le_trans hB hb, hc⟩
theorem rows_one {w : World} {P : Nat → Prop} : ∀ {l : List PRec} {vs : List Value}, RowsOf (RecVal w P) l vs → ∀ u ∈ vs, u.oneCell' = true
  | [], _, h => by rw [show _ = [] from h]; simp
  | a :: l, _, ⟨x, y, e, h1, h2⟩ => by
    subst e
    intro u hu
    rcases List.mem_append.1 hu with hu | hu
    · obtain ⟨_, _, _, _, _, _, rfl, _⟩ := h1
      simp at hu
      rcases hu with rfl | rfl | rfl | rfl | rfl | rfl | rfl <;> rfl
    · exact rows_one h2 u hu
/-- The state within the region that makes the second row. -/
structure R16 (w6 W : World) (v : Value) (n : Nat) (xs : List Value) : Prop where
  own : W.ownsRow w6.heap.size 51 7 v n xs
  bel : Below w6.heap.size w6 W
section
variable {w6 W : World} {v : Value} {n : Nat} {xs : List Value}
theorem R16.alloc (h : R16 w6 W v n xs) (o : Obj) : R16 w6 (W.alloc o) v n xs := ⟨owns_below h.own ((Below.refl _ W).alloc (Nat.le_refl _) o), h.bel.alloc h.bel.size o⟩
theorem R16.pend (_ : R16 w6 W v n xs) (cs : List Value) : (W.alloc (.cells cs.toArray 51)).heap[W.heap.size]? = some (.cells cs.toArray 51 (0, 0)) := heap_alloc_new W _
theorem r16_start (W : World) (hb : Below w6.heap.size w6 W) : R16 w6 ((W.alloc (.cells #[] 51)).drew) (.slice (some ⟨W.heap.size, 0, none⟩) 0 0) 0 [] :=
  ⟨⟨rfl, .inr ⟨W.heap.size, 0, #[], rfl, hb.size, heap_alloc_new W _, Nat.le_refl _, Nat.zero_le _, rfl, rfl⟩⟩, below_drew (hb.alloc hb.size _)⟩
theorem step16 (hS : R16 w6 W v n xs) {A : Option Addr} {m c : Nat} {news : List Value} (hr : RV W A news) (hl : news.length = m * 7) (h1 : ∀ u ∈ news, u.oneCell' = true) (h63 : n + m ≤ 1000) (hcm : m ≤ 1000)
    {y : Nat → Option Bool} {d : Option Tmp} {pos : String} {af : Array Edge} {a : Act} {K : Act → World → Prop} {Q : Exit → Act → World → Prop} {E : Prop} {s z : Operand}
    (hs : a.eval s = v) (hx : a.eval z = .slice A m c)
    (hk : ∀ v' w', R16 w6 w' v' (n + m) (xs ++ news) → (∀ (N : Nat) (cs : Array Value), W.heap[N]? = some (.cells cs 51 (0, 0)) → v.ownBlock ≠ some N → w'.heap[N]? = some (.cells cs 51 (0, 0))) → K (a.put d v') w') :
    if Region.wanted (⟨d, .call { callee := .builtin .append, args := #[s, z], argTypes := #[39, 39] }, 39, pos, af, none⟩ : Oper) y = true then
      Oper.wp Try.prog ⟨d, .call { callee := .builtin .append, args := #[s, z], argTypes := #[39, 39] }, 39, pos, af, none⟩ a W K Q else E := by
  obtain ⟨ir, hir, hir1, hir2, hir3⟩ := info_parts info_rec
  obtain ⟨v', w', hrun, ho, hg, hn⟩ := run_append_rv (P := Try.prog) W w6.heap.size 39 39 51 ir zeroRec 7 112 Try.underlying39 hir hir1 hir2 hir3 rfl (Nat.zero_lt_succ _) v n xs hS.own A m c news hl hr h1 (by unfold maxLen; omega) (by omega) hS.bel.size
  refine step_append ⟨v', w', by rw [hs, hx]; exact hrun, hk v' w' ⟨ho, hS.bel.trans ⟨hg.os, hg.tape, hg.output, hg.size, fun k hk => hg.block k (Nat.lt_of_lt_of_le hk hS.bel.size) fun e => ?_⟩⟩ fun N cs hN hne => (hg.block N (blk_lt hN) (fun e => hne e.symm)).trans hN⟩
  have := (hS.own.lt k e.symm).1
  omega
end
theorem notlist_of_tape {w : World} {g : Nat} {P : Nat → Prop} {t : TTape} (h : TapeAt w g P t) : ¬ InT w listTs g := by
  obtain ⟨v0, u0, v1, u1, hb, _⟩ := h
  rintro ⟨cs, u, m, h1, h2⟩
  rw [hb] at h1
  injection h1 with h1
  injection h1 with _ h1 _
  subst h1
  exact absurd h2 (by decide)
theorem last_bd {acc ph : List PRec} {x : WLog} (h : LastSt acc ph x) (hl : (ents acc).length ≤ 16384) :
    x.t.fuse ≤ 255 ∧ x.size ≤ 16384 ∧ x.t.s0.swap = false ∧ x.t.s1.swap = false ∧ x.t.s0.b.length + x.t.s0.loose.length ≤ 100000 ∧ x.t.s1.b.length + x.t.s1.loose.length ≤ 100000 ∧ ph.length ≤ acc.length + 1 := by
  rcases h with ⟨rfl, fu, h0, h1, rfl⟩ | ⟨r, b, h0, h1, rfl, rfl⟩
  · exact ⟨h1, hl, rfl, rfl, by show (ents acc).length + 0 ≤ _; omega, by show (ents acc).length + 0 ≤ _; omega, by simp⟩
  · cases b with
    | false => exact ⟨by show (0 : Int) ≤ _; omega, hl, rfl, rfl, by show (ents acc).length + (ent r).length ≤ _; omega, by show (ents acc).length + 0 ≤ _; omega, by simp⟩
    | true => exact ⟨by show (0 : Int) ≤ _; omega, hl, rfl, rfl, by show (ents acc ++ ent r).length + 0 ≤ _; rw [List.length_append]; omega, by show (ents acc).length + (ent r).length ≤ _; omega, by simp⟩
set_option maxRecDepth 100000 in
set_option maxHeartbeats 8000000 in
theorem walLasts_any (w : World) (A : Option Addr) (c : Nat) (l : List PRec) (hlm : l.length ≤ maxLen) (hr : RRecs w (· < w.heap.size) A l) (hm : ∀ r ∈ l, FewR r) (fu : Nat) (hfu : fu ≤ 255) (keep : Int) (lo : Nat) (hlo : lo ≤ 255) :
    Calls Try.prog 16 #[.slice A l.length c, .int .u8 fu, .int .i64 keep, .int .u8 lo] w (TruePost w) := by
  have hl63 : l.length ≤ 9223372036854775807 := by unfold maxLen at hlm; omega
  have Hsm := Lib.hid (small_any A c w l hlm hr (fun r h => (hm r h).bounds.2.1))
  have Hm := Lib.hid hm; have Hr := Lib.hid hr
  clear hm hr hlm
  go_enter Try.func16, Try.ntmps16
  go_wp2_with fail
  refine Hsm.out.mono ?_
  rintro e w1 ⟨bs, rfl, hbs, hB1⟩
  cases bs with
  | false =>
    clear hbs
    go_wp2_with fail
    refine (answers11_any _).mono ?_
    rintro e w2 ⟨rfl, hb2⟩
    go_wp2_with fail
    go_ret
    exact ⟨rfl, hB1.trans (hb2.mono hB1.size)⟩
  | true =>
    have hl60 := hbs rfl
    clear hbs
    obtain ⟨gp, hgp⟩ : ∃ gp, gp = w1.heap.size := ⟨_, rfl⟩
    have hnew := new_clean w1
    unfold NewPost at hnew
    rw [← hgp] at hnew
    have hwg : w.heap.size ≤ gp := hgp ▸ hB1.size
    have Hnew := Lib.hid hnew; have Hgp := Lib.hid hgp
    clear hnew hgp
    go_wp2_with fail
    refine Hnew.out.mono ?_
    rintro e w3 ⟨rfl, ht3, hb3, hg3⟩
    have Hopen1 := Lib.hid (open_clean w3 gp (· ≠ gp) [] ht3 (fun k hk => by show k ≠ gp; omega) (fun k hk => hk) (by simp) (by decide))
    clear ht3
    go_wp2_with fail
    refine Hopen1.out.mono ?_
    rintro e w4 ⟨q, vl, vs, rfl, hgr4, hq1, hq2, hwal4, hown4, -⟩
    obtain ⟨VA, vac, rfl⟩ : ∃ VA vac, vl = .slice VA 0 vac := by
      obtain ⟨VA, vac, h, -⟩ := recs_of_own (l := []) hown4 (show RowsOf (RRec w4) [] vs from List.eq_nil_of_length_eq_zero (by simpa using hown4.1))
      exact ⟨VA, vac, h⟩
    have hsz4 := hgr4.size
    have hb4 : Below gp w1 w4 := hb3.trans (below_grown hgr4 (Nat.le_refl _) (by omega))
    have Hfz := Lib.hid (fuse_any w4 gp (fun k => k ≠ gp ∧ k ≠ q) _ hwal4.1 (fun k hk => hk.1) fu (by omega))
    have Hlog4 := Lib.hid hwal4.2
    clear hwal4 hown4
    go_wp2_with fail
    refine Hfz.out.mono ?_
    rintro e w5 ⟨rfl, ht5, hgr5⟩
    have hsz5 := hgr5.size
    have hb5 : Below gp w1 w5 := hb4.trans (below_grown hgr5 (Nat.le_refl _) (by omega))
    have hgq : gp ≠ q := by omega
    have Hwal5 := Lib.hid (show WalAt w5 q gp (PX gp q (.slice none 0 0) (.slice none 0 0)) (lgF [] fu) from ⟨ht5.imp fun k _ hp => ⟨hp.1, hp.2, by simp [Value.ownBlock], by simp [Value.ownBlock]⟩, (hgr5.block q hq2 (by simp; omega)).trans Hlog4.out⟩)
    obtain ⟨B, hB⟩ : ∃ B, w5.heap.size = B := ⟨_, rfl⟩
    have HB := Lib.hid hB
    have hq5 : q < B := by omega
    have hg5 : gp < B := by omega
    have Hb5 := Lib.hid hb5; have Hsz5 := Lib.hid (show B ≤ w5.heap.size by omega)
    have hBb : w.heap.size ≤ w1.heap.size := hB1.size
    have hgb : gp = w1.heap.size := Hgp.out
    clear ht5 hgr5 hgr4 hb4 hb3 hsz4 hsz5 hB hb5
    have hgg := Lib.hid hgb
    clear hgb
    go_wp2_with fail
    go_loopw [13, 14, 15] (fun v p i wr => ∃ (k : Nat) (acc ph : List PRec) (x : WLog) (vs : List Value), k ≤ l.length ∧ acc.length ≤ k ∧ i = .int .i64 k ∧ wr.ownsRow B 51 7 v acc.length vs ∧
        RowsOf (RecVal wr (· < w.heap.size)) acc vs ∧ PhAt wr w.heap.size B p ph ∧ Hid (WalAt wr q gp (PX gp q v v) x) ∧ Below gp w1 wr ∧ B ≤ wr.heap.size ∧ Hid (∀ r ∈ acc, OkR r) ∧ Hid (LastSt acc ph x) ∧ (ents acc).length ≤ 16384) (fun _ _ i _ => l.length - (intOf i).toNat)
    case atStart => exact ⟨0, [], [], lgF [] fu, [], by omega, by simp, rfl, World.ownsRow_nil _ _ _ _, rfl, PhAt.nil _ _ _, Lib.hid Hwal5.out, Hb5.out, Hsz5.out, Lib.hid (by simp), Lib.hid (.inl ⟨rfl, fu, by omega, by omega, rfl⟩), by simp [ents]⟩
    case round =>
      obtain ⟨k, acc, ph, x, vs, hk, hak, rfl, hoo, hrows, hph, hwal, hbr, hszr, hacc, hst, h16⟩ := hrel
      have hBr : Below w.heap.size w wr := hB1.trans (hbr.mono (by omega))
      obtain ⟨Oo, oc, rfl, hoc, -⟩ := recs_of_own2 hoo hrows
      obtain ⟨Pp, pc, rfl, hpc, -⟩ := hph.recs
      have hbd := last_bd hst.out h16
      have Hbd := Lib.hid hbd
      have hphl := hbd.2.2.2.2.2.2
      clear hbd
      by_cases hlt : k < l.length
      · obtain ⟨ad, A1, A1c, A2, A2c, A3, A3c, rfl, ⟨p0, p1, p2, p3, p4, p5, p6⟩, hra⟩ := Hr.out.at_ hlt
        have hMa := Hm.out _ (List.getElem_mem hlt)
        generalize l[k] = a at p0 p1 p2 p3 p4 p5 p6 hra hMa
        obtain ⟨hroom, -, -⟩ := hMa.bounds
        obtain ⟨ka, hsa, -⟩ : ∃ ka : ByteArray, sv a.key = .string ka ∧ True := ⟨_, rfl, trivial⟩
        rw [hsa] at p3 hra
        have m0 : wr.cell? (ad.add (k * 7)) = some (.int .i64 a.kind) := (hBr.cell (World.block_lt_of_cell? _ _ p0)).trans p0; have m1 : wr.cell? ⟨(ad.add (k * 7)).block, (ad.add (k * 7)).off + 1, none⟩ = some (.int .i64 a.id) := (hBr.cell (World.block_lt_of_cell? _ _ p1)).trans p1; have m2 : wr.cell? ⟨(ad.add (k * 7)).block, (ad.add (k * 7)).off + 2, none⟩ = some (.int .i64 a.size) := (hBr.cell (World.block_lt_of_cell? _ _ p2)).trans p2; have m3 : wr.cell? ⟨(ad.add (k * 7)).block, (ad.add (k * 7)).off + 3, none⟩ = some (.string ka) := (hBr.cell (World.block_lt_of_cell? _ _ p3)).trans p3; have m4 : wr.cell? ⟨(ad.add (k * 7)).block, (ad.add (k * 7)).off + 4, none⟩ = some (.slice A1 a.stripes.length A1c) := (hBr.cell (World.block_lt_of_cell? _ _ p4)).trans p4; have m5 : wr.cell? ⟨(ad.add (k * 7)).block, (ad.add (k * 7)).off + 5, none⟩ = some (.slice A2 a.objects.length A2c) := (hBr.cell (World.block_lt_of_cell? _ _ p5)).trans p5; have m6 : wr.cell? ⟨(ad.add (k * 7)).block, (ad.add (k * 7)).off + 6, none⟩ = some (.slice A3 a.drives.length A3c) := (hBr.cell (World.block_lt_of_cell? _ _ p6)).trans p6
        have i1 : (0 : Int) ≤ (k : Int) := by omega
        have i2 : (k : Int) < (l.length : Int) := by omega
        have hrar : RecVal wr (· < wr.heap.size) a [.int .i64 a.kind, .int .i64 a.id, .int .i64 a.size, .string ka, .slice A1 a.stripes.length A1c, .slice A2 a.objects.length A2c, .slice A3 a.drives.length A3c] := (hra.below hBr).imp fun k hk _ => hk
        have happ := append_any wr q gp (PX gp q (.slice Oo acc.length oc) (.slice Oo acc.length oc)) x hwal.out (pxNew (g := gp) (q := q) (by omega) (by omega) hoo hoo) (fun k hk => ⟨hk.1, hk.2.1⟩) (by omega) (by have := Hbd.out.1; omega) a hroom [.int .i64 a.kind, .int .i64 a.id, .int .i64 a.size, .string ka, .slice A1 a.stripes.length A1c, .slice A2 a.objects.length A2c, .slice A3 a.drives.length A3c] hrar Hbd.out.2.1 (by have := Hbd.out.2.2.2.2.1; omega) (by have := Hbd.out.2.2.2.2.2.1; omega)
        have hls := last_step hst.out a
        have Hra := Lib.hid hra; have Hsa := Lib.hid hsa
        have Hoo := Lib.hid hoo; have Hrows := Lib.hid hrows; have Hph := Lib.hid hph
        have Hp := Lib.hid (And.intro p0 (And.intro p1 (And.intro p2 (And.intro p3 (And.intro p4 (And.intro p5 p6))))))
        clear hra hsa hroom hoo hrows hMa hrar hph
        unfold LogPost at happ
        generalize appendL x a = y at happ hls
        obtain ⟨y1, y2⟩ := y
        dsimp only at happ hls
        rcases hls with ⟨hp0, hy2, rfl⟩ | ⟨hp0, rfl, hok, hfit, hst2⟩ | ⟨hp0, rfl, hok, hfit, hst2⟩ | ⟨hp0, rfl, rfl⟩
        · have Happ := Lib.hid happ
          have Hp0 := Lib.hid hp0
          clear happ hp0 p0 p1 p2 p3 p4 p5 p6
          rcases hy2 with rfl | rfl | rfl
          all_goals
            go_wp2_with fail
            refine Happ.out.mono ?_
            rintro e w6 ⟨rfl, hwal6, htwo⟩
            have hsz6 := htwo.size
            have hbr6 : Below gp w1 w6 := hbr.trans (htwo.below (Nat.le_refl _) (by omega) (by omega))
            have hB6 : Below w.heap.size w w6 := hB1.trans (hbr6.mono (by omega))
            have Hwal6 := Lib.hid hwal6
            clear hwal6
            go_wp2_with fail
            go_roundw
            case rel => exact ⟨k + 1, acc, ph, _, vs, by omega, by omega, by go_num, owns_two Hoo.out htwo (by omega) (by omega), Hrows.out.mono fun _ _ h => h.keep (fun k hk hp => (hB6.block k hp).trans (hBr.block k hp).symm), Hph.out.two htwo (by omega) (by omega) (by omega) (by omega), Hwal6, hbr6, by omega, hacc, hst, h16⟩
            case measure => simp [intOf]; omega
        · have Happ := Lib.hid happ; have Hst2 := Lib.hid hst2; have Hok := Lib.hid hok; have Hp0 := Lib.hid hp0
          clear happ hst2 hok hp0
          go_wp2_with fail
          refine Happ.out.mono ?_
          rintro e w6 ⟨rfl, hwal6, htwo⟩
          have hsz6 := htwo.size
          have hbr6 : Below gp w1 w6 := hbr.trans (htwo.below (Nat.le_refl _) (by omega) (by omega))
          have hB6 : Below w.heap.size w w6 := hB1.trans (hbr6.mono (by omega))
          have Hwal6 := Lib.hid hwal6
          clear hwal6
          clear m0 m1 m2 m3 m4 m5 m6
          have m0 : w6.cell? (ad.add (k * 7)) = some (.int .i64 a.kind) := (hB6.cell (World.block_lt_of_cell? _ _ p0)).trans p0; have m1 : w6.cell? ⟨(ad.add (k * 7)).block, (ad.add (k * 7)).off + 1, none⟩ = some (.int .i64 a.id) := (hB6.cell (World.block_lt_of_cell? _ _ p1)).trans p1; have m2 : w6.cell? ⟨(ad.add (k * 7)).block, (ad.add (k * 7)).off + 2, none⟩ = some (.int .i64 a.size) := (hB6.cell (World.block_lt_of_cell? _ _ p2)).trans p2; have m3 : w6.cell? ⟨(ad.add (k * 7)).block, (ad.add (k * 7)).off + 3, none⟩ = some (.string ka) := (hB6.cell (World.block_lt_of_cell? _ _ p3)).trans p3; have m4 : w6.cell? ⟨(ad.add (k * 7)).block, (ad.add (k * 7)).off + 4, none⟩ = some (.slice A1 a.stripes.length A1c) := (hB6.cell (World.block_lt_of_cell? _ _ p4)).trans p4; have m5 : w6.cell? ⟨(ad.add (k * 7)).block, (ad.add (k * 7)).off + 5, none⟩ = some (.slice A2 a.objects.length A2c) := (hB6.cell (World.block_lt_of_cell? _ _ p5)).trans p5; have m6 : w6.cell? ⟨(ad.add (k * 7)).block, (ad.add (k * 7)).off + 6, none⟩ = some (.slice A3 a.drives.length A3c) := (hB6.cell (World.block_lt_of_cell? _ _ p6)).trans p6
          clear p0 p1 p2 p3 p4 p5 p6
          have hoo6 := owns_two Hoo.out htwo (by omega) (by omega)
          have hooA := World.ownsRow.alloc hoo6 (.cells #[.int .i64 a.kind, .int .i64 a.id, .int .i64 a.size, .string ka, .slice A1 a.stripes.length A1c, .slice A2 a.objects.length A2c, .slice A3 a.drives.length A3c] 51)
          have hrv : RV (w6.alloc (.cells #[.int .i64 a.kind, .int .i64 a.id, .int .i64 a.size, .string ka, .slice A1 a.stripes.length A1c, .slice A2 a.objects.length A2c, .slice A3 a.drives.length A3c] 51)) (some ⟨w6.heap.size, 0, none⟩) [.int .i64 a.kind, .int .i64 a.id, .int .i64 a.size, .string ka, .slice A1 a.stripes.length A1c, .slice A2 a.objects.length A2c, .slice A3 a.drives.length A3c] := rv_blk (heap_alloc_new w6 _)
          have hbA : Below w6.heap.size w6 (w6.alloc (.cells #[.int .i64 a.kind, .int .i64 a.id, .int .i64 a.size, .string ka, .slice A1 a.stripes.length A1c, .slice A2 a.objects.length A2c, .slice A3 a.drives.length A3c] 51)) := (Below.refl _ w6).alloc (Nat.le_refl _) _
          have Hoo6 := Lib.hid hoo6; have HooA := Lib.hid hooA; have Hrv := Lib.hid hrv; have HbA := Lib.hid hbA
          clear hoo6 hooA hrv hbA
          go_wp2_with (at_builtin; refine wpList_app _ (by rfl) (.tmp 54) (.tmp 59) 39 rfl B 51 zeroRec 7 112 Try.underlying39 info_rec rfl (by omega) _ acc.length vs rfl HooA.out (some ⟨w6.heap.size, 0, none⟩) 1 1 [.int .i64 a.kind, .int .i64 a.id, .int .i64 a.size, .string ka, .slice A1 a.stripes.length A1c, .slice A2 a.objects.length A2c, .slice A3 a.drives.length A3c] rfl rfl Hrv.out (by intro u hu; simp at hu; rcases hu with rfl | rfl | rfl | rfl | rfl | rfl | rfl <;> rfl) (by unfold maxLen; omega) (by omega) (by simp; omega) ?_; intro v7 w7 hown7 hg7 hno7)
          go_roundw
          case rel =>
            have hk67 : Kept (.slice Oo acc.length oc) (.slice Oo acc.length oc) w6 w7 := (Kept.of_below HbA.out).step hg7 (.inl rfl) (.inl rfl) (.inr (.inl rfl))
            have hnn : OrNew w6.heap.size (.slice Oo acc.length oc) v7 := by
              rcases hno7 with h | h
              · exact .inl h
              · exact .inr ⟨_, by simp, h⟩
            have hlow : ∀ j, j < B → (Value.slice Oo acc.length oc).ownBlock ≠ some j := fun j hj h => by have := (Hoo6.out.lt _ h).1; omega
            have hbk : Below B w6 w7 := ⟨hk67.os, hk67.tape, hk67.output, hk67.size, fun j hj => hk67.block j (by omega) (hlow j hj) (hlow j hj)⟩
            have hbr7 : Below gp w1 w7 := hbr6.trans (hbk.mono (by omega))
            have hB7 : Below w.heap.size w w7 := hB1.trans (hbr7.mono (by omega))
            have hs7 := hk67.size
            have he : ents (acc ++ [a]) = ents acc ++ ent a := by rw [ents_append, ents_one]
            have hp0 := Hp0.out
            subst hp0
            have hpn : PhAt w7 w.heap.size B (.slice Pp ([] : List PRec).length pc) [] := by
              obtain ⟨A', c', pvs, h1, h2, h3, h4, h5⟩ := Hph.out
              obtain ⟨rfl, rfl⟩ := h3 rfl
              rw [h1]
              exact PhAt.nil _ _ _
            refine ⟨k + 1, acc ++ [a], [], y1, vs ++ [.int .i64 a.kind, .int .i64 a.id, .int .i64 a.size, .string ka, .slice A1 a.stripes.length A1c, .slice A2 a.objects.length A2c, .slice A3 a.drives.length A3c], by omega, by simp; omega, by go_num, by rw [List.length_append]; exact hown7, RowsOf.append (R := RecVal w7 (· < w.heap.size)) (Hrows.out.mono fun _ _ h => h.keep (fun j hj hp => (hB7.block j hp).trans (hBr.block j hp).symm)) (RowsOf.one (Hra.out.below hB7)), hpn,
              Lib.hid (Hwal6.out.turn hk67 hnn hnn ⟨hlow _ (by omega), hlow _ (by omega)⟩ ⟨hlow _ (by omega), hlow _ (by omega)⟩), hbr7, by omega, Lib.hid fun r hr => ?_, Lib.hid Hst2.out, by rw [he, List.length_append]; exact hfit⟩
            rcases List.mem_append.1 hr with hr | hr
            · exact hacc.out r hr
            · rw [List.mem_singleton] at hr; subst hr; exact Hok.out
          case measure => simp [intOf]; omega
        · subst hp0
          obtain ⟨A', c', pvs, h1, h2, h3, h4, h5⟩ := Hph.out
          obtain ⟨rfl, rfl⟩ := h3 rfl
          injection h1 with e1 e2 e3
          subst e1
          subst e3
          have Happ := Lib.hid happ; have Hst2 := Lib.hid hst2; have Hok := Lib.hid hok
          clear happ hst2 hok h2 h3 h4 h5 e2
          go_wp2_with fail
          refine Happ.out.mono ?_
          rintro e w6 ⟨rfl, hwal6, htwo⟩
          have hsz6 := htwo.size
          have hbr6 : Below gp w1 w6 := hbr.trans (htwo.below (Nat.le_refl _) (by omega) (by omega))
          have hB6 : Below w.heap.size w w6 := hB1.trans (hbr6.mono (by omega))
          have Hwal6 := Lib.hid hwal6
          clear hwal6
          clear m0 m1 m2 m3 m4 m5 m6
          have m0 : w6.cell? (ad.add (k * 7)) = some (.int .i64 a.kind) := (hB6.cell (World.block_lt_of_cell? _ _ p0)).trans p0; have m1 : w6.cell? ⟨(ad.add (k * 7)).block, (ad.add (k * 7)).off + 1, none⟩ = some (.int .i64 a.id) := (hB6.cell (World.block_lt_of_cell? _ _ p1)).trans p1; have m2 : w6.cell? ⟨(ad.add (k * 7)).block, (ad.add (k * 7)).off + 2, none⟩ = some (.int .i64 a.size) := (hB6.cell (World.block_lt_of_cell? _ _ p2)).trans p2; have m3 : w6.cell? ⟨(ad.add (k * 7)).block, (ad.add (k * 7)).off + 3, none⟩ = some (.string ka) := (hB6.cell (World.block_lt_of_cell? _ _ p3)).trans p3; have m4 : w6.cell? ⟨(ad.add (k * 7)).block, (ad.add (k * 7)).off + 4, none⟩ = some (.slice A1 a.stripes.length A1c) := (hB6.cell (World.block_lt_of_cell? _ _ p4)).trans p4; have m5 : w6.cell? ⟨(ad.add (k * 7)).block, (ad.add (k * 7)).off + 5, none⟩ = some (.slice A2 a.objects.length A2c) := (hB6.cell (World.block_lt_of_cell? _ _ p5)).trans p5; have m6 : w6.cell? ⟨(ad.add (k * 7)).block, (ad.add (k * 7)).off + 6, none⟩ = some (.slice A3 a.drives.length A3c) := (hB6.cell (World.block_lt_of_cell? _ _ p6)).trans p6
          clear p0 p1 p2 p3 p4 p5 p6
          have hoo6 := owns_two Hoo.out htwo (by omega) (by omega)
          have hcells : ∀ W, Below w6.heap.size w6 W → (W.cell? (ad.add (k * 7)) = some (.int .i64 a.kind) ∧ W.cell? ⟨(ad.add (k * 7)).block, (ad.add (k * 7)).off + 1, none⟩ = some (.int .i64 a.id) ∧ W.cell? ⟨(ad.add (k * 7)).block, (ad.add (k * 7)).off + 2, none⟩ = some (.int .i64 a.size) ∧ W.cell? ⟨(ad.add (k * 7)).block, (ad.add (k * 7)).off + 3, none⟩ = some (.string ka) ∧ W.cell? ⟨(ad.add (k * 7)).block, (ad.add (k * 7)).off + 4, none⟩ = some (.slice A1 a.stripes.length A1c) ∧ W.cell? ⟨(ad.add (k * 7)).block, (ad.add (k * 7)).off + 5, none⟩ = some (.slice A2 a.objects.length A2c) ∧ W.cell? ⟨(ad.add (k * 7)).block, (ad.add (k * 7)).off + 6, none⟩ = some (.slice A3 a.drives.length A3c)) := fun W h => ⟨(h.cell (World.block_lt_of_cell? _ _ m0)).trans m0, (h.cell (World.block_lt_of_cell? _ _ m1)).trans m1, (h.cell (World.block_lt_of_cell? _ _ m2)).trans m2, (h.cell (World.block_lt_of_cell? _ _ m3)).trans m3, (h.cell (World.block_lt_of_cell? _ _ m4)).trans m4, (h.cell (World.block_lt_of_cell? _ _ m5)).trans m5, (h.cell (World.block_lt_of_cell? _ _ m6)).trans m6⟩
          have Hoo6 := Lib.hid hoo6; have Hcells := Lib.hid hcells
          have Hs0 := Lib.hid (r16_start w6 (Below.refl _ w6))
          have Hs1 := Lib.hid (show R16 w6 (((w6.alloc (.cells #[.int .i64 a.kind, .int .i64 a.id, .int .i64 a.size, .string ka, .slice A1 a.stripes.length A1c, .slice A2 a.objects.length A2c, .slice A3 a.drives.length A3c] 51)).alloc (.cells #[] 51)).drew) (.slice (some ⟨w6.heap.size + 1, 0, none⟩) 0 0) 0 [] from by have h := r16_start (w6 := w6) (w6.alloc (.cells #[.int .i64 a.kind, .int .i64 a.id, .int .i64 a.size, .string ka, .slice A1 a.stripes.length A1c, .slice A2 a.objects.length A2c, .slice A3 a.drives.length A3c] 51)) ((Below.refl _ w6).alloc (Nat.le_refl _) _); rwa [show (w6.alloc (.cells #[.int .i64 a.kind, .int .i64 a.id, .int .i64 a.size, .string ka, .slice A1 a.stripes.length A1c, .slice A2 a.objects.length A2c, .slice A3 a.drives.length A3c] 51)).heap.size = w6.heap.size + 1 by simp] at h)
          have Hn1 := Lib.hid (show (((w6.alloc (.cells #[] 51)).alloc (.cells #[.int .i64 a.kind, .int .i64 a.id, .int .i64 a.size, .string ka, .slice A1 a.stripes.length A1c, .slice A2 a.objects.length A2c, .slice A3 a.drives.length A3c] 51)).drew).heap[w6.heap.size + 1]? = some (.cells ([.int .i64 a.kind, .int .i64 a.id, .int .i64 a.size, .string ka, .slice A1 a.stripes.length A1c, .slice A2 a.objects.length A2c, .slice A3 a.drives.length A3c] : List Value).toArray 51 (0, 0)) from by have h := heap_alloc_new (w6.alloc (.cells #[] 51)) (.cells #[.int .i64 a.kind, .int .i64 a.id, .int .i64 a.size, .string ka, .slice A1 a.stripes.length A1c, .slice A2 a.objects.length A2c, .slice A3 a.drives.length A3c] 51); rwa [show (w6.alloc (.cells #[] 51)).heap.size = w6.heap.size + 1 by simp] at h)
          have Hn2 := Lib.hid (show (((w6.alloc (.cells #[.int .i64 a.kind, .int .i64 a.id, .int .i64 a.size, .string ka, .slice A1 a.stripes.length A1c, .slice A2 a.objects.length A2c, .slice A3 a.drives.length A3c] 51)).alloc (.cells #[] 51)).drew).heap[w6.heap.size]? = some (.cells ([.int .i64 a.kind, .int .i64 a.id, .int .i64 a.size, .string ka, .slice A1 a.stripes.length A1c, .slice A2 a.objects.length A2c, .slice A3 a.drives.length A3c] : List Value).toArray 51 (0, 0)) from (((Below.refl _ (w6.alloc (.cells #[.int .i64 a.kind, .int .i64 a.id, .int .i64 a.size, .string ka, .slice A1 a.stripes.length A1c, .slice A2 a.objects.length A2c, .slice A3 a.drives.length A3c] 51))).alloc (Nat.le_refl _) (.cells #[] 51)).block w6.heap.size (by simp)).trans (heap_alloc_new w6 _))
          have Hxl := Lib.hid hoo6.1
          have Hx1 := Lib.hid (rows_one Hrows.out)
          have F1 := Lib.hid (show 0 + acc.length ≤ 1000 by omega); have F2 := Lib.hid (show acc.length ≤ 1000 by omega)
          have F3 := Lib.hid (show 0 + acc.length + 1 ≤ 1000 by omega); have F5 := Lib.hid (show 1 ≤ 1000 by omega)
          have F4 := Lib.hid (show ∀ u ∈ ([.int .i64 a.kind, .int .i64 a.id, .int .i64 a.size, .string ka, .slice A1 a.stripes.length A1c, .slice A2 a.objects.length A2c, .slice A3 a.drives.length A3c] : List Value), u.oneCell' = true by intro u hu; simp at hu; rcases hu with rfl | rfl | rfl | rfl | rfl | rfl | rfl <;> rfl)
          have F8 := Lib.hid (show ([.int .i64 a.kind, .int .i64 a.id, .int .i64 a.size, .string ka, .slice A1 a.stripes.length A1c, .slice A2 a.objects.length A2c, .slice A3 a.drives.length A3c] : List Value).length = 1 * 7 from rfl)
          clear hoo6 hcells
          go_wp2_with fail
          go_region_held3 (fun w' => w'.cell? (ad.add (k * 7)) = some (.int .i64 a.kind) ∧ w'.cell? ⟨(ad.add (k * 7)).block, (ad.add (k * 7)).off + 1, none⟩ = some (.int .i64 a.id) ∧ w'.cell? ⟨(ad.add (k * 7)).block, (ad.add (k * 7)).off + 2, none⟩ = some (.int .i64 a.size) ∧ w'.cell? ⟨(ad.add (k * 7)).block, (ad.add (k * 7)).off + 3, none⟩ = some (.string ka) ∧ w'.cell? ⟨(ad.add (k * 7)).block, (ad.add (k * 7)).off + 4, none⟩ = some (.slice A1 a.stripes.length A1c) ∧ w'.cell? ⟨(ad.add (k * 7)).block, (ad.add (k * 7)).off + 5, none⟩ = some (.slice A2 a.objects.length A2c) ∧ w'.cell? ⟨(ad.add (k * 7)).block, (ad.add (k * 7)).off + 6, none⟩ = some (.slice A3 a.drives.length A3c)) (first
            | exact ⟨m0, m1, m2, m3, m4, m5, m6⟩
            | exact Hcells.out (w6.alloc (.cells #[] 51)).drew (below_drew ((Below.refl _ w6).alloc (Nat.le_refl _) _))
            | exact Hcells.out (w6.alloc (.cells #[.int .i64 a.kind, .int .i64 a.id, .int .i64 a.size, .string ka, .slice A1 a.stripes.length A1c, .slice A2 a.objects.length A2c, .slice A3 a.drives.length A3c] 51)).drew (below_drew ((Below.refl _ w6).alloc (Nat.le_refl _) _))
            | exact Hcells.out ((w6.alloc (.cells #[] 51)).alloc (.cells #[.int .i64 a.kind, .int .i64 a.id, .int .i64 a.size, .string ka, .slice A1 a.stripes.length A1c, .slice A2 a.objects.length A2c, .slice A3 a.drives.length A3c] 51)).drew (below_drew (((Below.refl _ w6).alloc (Nat.le_refl _) _).alloc (by simp) _))
            | exact Hcells.out ((w6.alloc (.cells #[.int .i64 a.kind, .int .i64 a.id, .int .i64 a.size, .string ka, .slice A1 a.stripes.length A1c, .slice A2 a.objects.length A2c, .slice A3 a.drives.length A3c] 51)).alloc (.cells #[] 51)).drew (below_drew (((Below.refl _ w6).alloc (Nat.le_refl _) _).alloc (by simp) _))
            | exact ⟨(World.cell?_alloc_lt _ _ _ (World.block_lt_of_cell? _ _ m0)).trans m0, (World.cell?_alloc_lt _ _ _ (World.block_lt_of_cell? _ _ m1)).trans m1, (World.cell?_alloc_lt _ _ _ (World.block_lt_of_cell? _ _ m2)).trans m2, (World.cell?_alloc_lt _ _ _ (World.block_lt_of_cell? _ _ m3)).trans m3, (World.cell?_alloc_lt _ _ _ (World.block_lt_of_cell? _ _ m4)).trans m4, (World.cell?_alloc_lt _ _ _ (World.block_lt_of_cell? _ _ m5)).trans m5, (World.cell?_alloc_lt _ _ _ (World.block_lt_of_cell? _ _ m6)).trans m6⟩)
            (first
            | (have hS : R16 w6 ((w6.alloc (.cells #[] 51)).drew) (.slice (some ⟨w6.heap.size, 0, none⟩) 0 0) 0 [] := Hs0.out; (with_reducible refine step16 (c := oc) hS (RV.of_own (owns_below Hoo6.out hS.bel)) Hxl.out Hx1.out F1.out F2.out ?_ ?_ ?_); rfl; rfl; intro v7 wn hS hk; obtain ⟨m0, m1, m2, m3, m4, m5, m6⟩ := Hcells.out _ hS.bel)
            | (have hS : R16 w6 (((w6.alloc (.cells #[] 51)).alloc (.cells #[.int .i64 a.kind, .int .i64 a.id, .int .i64 a.size, .string ka, .slice A1 a.stripes.length A1c, .slice A2 a.objects.length A2c, .slice A3 a.drives.length A3c] 51)).drew) (.slice (some ⟨w6.heap.size, 0, none⟩) 0 0) 0 [] := Hs0.out.alloc _; have hN : (((w6.alloc (.cells #[] 51)).alloc (.cells #[.int .i64 a.kind, .int .i64 a.id, .int .i64 a.size, .string ka, .slice A1 a.stripes.length A1c, .slice A2 a.objects.length A2c, .slice A3 a.drives.length A3c] 51)).drew).heap[w6.heap.size + 1]? = some (.cells ([.int .i64 a.kind, .int .i64 a.id, .int .i64 a.size, .string ka, .slice A1 a.stripes.length A1c, .slice A2 a.objects.length A2c, .slice A3 a.drives.length A3c] : List Value).toArray 51 (0, 0)) := Hn1.out; (with_reducible refine step16 (c := oc) hS (RV.of_own (owns_below Hoo6.out hS.bel)) Hxl.out Hx1.out F1.out F2.out ?_ ?_ ?_); rfl; rfl; intro v7 wn hS hk; have hN := hk _ _ hN (by simp [Value.ownBlock]); obtain ⟨m0, m1, m2, m3, m4, m5, m6⟩ := Hcells.out _ hS.bel)
            | (have hS : R16 w6 (((w6.alloc (.cells #[.int .i64 a.kind, .int .i64 a.id, .int .i64 a.size, .string ka, .slice A1 a.stripes.length A1c, .slice A2 a.objects.length A2c, .slice A3 a.drives.length A3c] 51)).alloc (.cells #[] 51)).drew) (.slice (some ⟨w6.heap.size + 1, 0, none⟩) 0 0) 0 [] := Hs1.out; have hN : (((w6.alloc (.cells #[.int .i64 a.kind, .int .i64 a.id, .int .i64 a.size, .string ka, .slice A1 a.stripes.length A1c, .slice A2 a.objects.length A2c, .slice A3 a.drives.length A3c] 51)).alloc (.cells #[] 51)).drew).heap[w6.heap.size]? = some (.cells ([.int .i64 a.kind, .int .i64 a.id, .int .i64 a.size, .string ka, .slice A1 a.stripes.length A1c, .slice A2 a.objects.length A2c, .slice A3 a.drives.length A3c] : List Value).toArray 51 (0, 0)) := Hn2.out; (with_reducible refine step16 (c := oc) hS (RV.of_own (owns_below Hoo6.out hS.bel)) Hxl.out Hx1.out F1.out F2.out ?_ ?_ ?_); rfl; rfl; intro v7 wn hS hk; have hN := hk _ _ hN (by simp [Value.ownBlock]); obtain ⟨m0, m1, m2, m3, m4, m5, m6⟩ := Hcells.out _ hS.bel)
            | ((with_reducible refine step16 (c := 1) hS (rv_blk hN) F8.out F4.out F3.out F5.out ?_ ?_ ?_); rfl; rfl; intro v8 wn hS hk; obtain ⟨m0, m1, m2, m3, m4, m5, m6⟩ := Hcells.out _ hS.bel)
            | (have hN := hS.pend [.int .i64 a.kind, .int .i64 a.id, .int .i64 a.size, .string ka, .slice A1 a.stripes.length A1c, .slice A2 a.objects.length A2c, .slice A3 a.drives.length A3c]; have hS := hS.alloc (.cells #[.int .i64 a.kind, .int .i64 a.id, .int .i64 a.size, .string ka, .slice A1 a.stripes.length A1c, .slice A2 a.objects.length A2c, .slice A3 a.drives.length A3c] 51); (with_reducible refine step16 (c := 1) hS (rv_blk hN) F8.out F4.out F3.out F5.out ?_ ?_ ?_); rfl; rfl; intro v8 wn hS hk; obtain ⟨m0, m1, m2, m3, m4, m5, m6⟩ := Hcells.out _ hS.bel)
            | fail "no arm")
          all_goals
            go_wp2_with fail
            go_roundw
            case rel =>
              have hbk : Below w6.heap.size w6 wn := hS.bel
              have hbr7 : Below gp w1 wn := hbr6.trans (hbk.mono (by omega))
              have hB7 : Below w.heap.size w wn := hB1.trans (hbr7.mono (by omega))
              have hs7 := hbk.size
              have hlen : 0 + acc.length + 1 = (acc ++ [a]).length := by simp
              have hown : wn.ownsRow w6.heap.size 51 7 v8 (acc ++ [a]).length (([] ++ vs) ++ [.int .i64 a.kind, .int .i64 a.id, .int .i64 a.size, .string ka, .slice A1 a.stripes.length A1c, .slice A2 a.objects.length A2c, .slice A3 a.drives.length A3c]) := hlen ▸ hS.own
              have hrow : RowsOf (RecVal wn (· < w.heap.size)) (acc ++ [a]) (([] ++ vs) ++ [.int .i64 a.kind, .int .i64 a.id, .int .i64 a.size, .string ka, .slice A1 a.stripes.length A1c, .slice A2 a.objects.length A2c, .slice A3 a.drives.length A3c]) := RowsOf.append (R := RecVal wn (· < w.heap.size)) (Hrows.out.mono fun _ _ h => h.keep (fun j hj hp => (hB7.block j hp).trans (hBr.block j hp).symm)) (RowsOf.one (Hra.out.below hB7))
              exact ⟨k + 1, acc, acc ++ [a], y1, vs, by omega, by omega, by go_num, owns_below Hoo6.out hbk, Hrows.out.mono fun _ _ h => h.keep (fun j hj hp => (hB7.block j hp).trans (hBr.block j hp).symm), PhAt.of_own hown hrow (by omega) (by simp), Lib.hid (Hwal6.out.below hbk), hbr7, by omega, hacc, Lib.hid Hst2.out, h16⟩
            case measure => simp [intOf]; omega
        · have hpn : ((ph.length : Int) == 0) = false := by rw [beq_eq_false_iff_ne]; omega
          have Happ := Lib.hid happ
          clear happ p0 p1 p2 p3 p4 p5 p6
          go_wp2_with fail
          refine Happ.out.mono ?_
          rintro e w6 ⟨rfl, hwal6, htwo⟩
          have hsz6 := htwo.size
          have hbr6 : Below gp w1 w6 := hbr.trans (htwo.below (Nat.le_refl _) (by omega) (by omega))
          have hB6 : Below w.heap.size w w6 := hB1.trans (hbr6.mono (by omega))
          have Hwal6 := Lib.hid hwal6
          clear hwal6
          go_wp2_with fail
          go_roundw
          case rel => exact ⟨k + 1, acc, ph, _, vs, by omega, by omega, by go_num, owns_two Hoo.out htwo (by omega) (by omega), Hrows.out.mono fun _ _ h => h.keep (fun k hk hp => (hB6.block k hp).trans (hBr.block k hp).symm), Hph.out.two htwo (by omega) (by omega) (by omega) (by omega), Hwal6, hbr6, by omega, hacc, hst, h16⟩
          case measure => simp [intOf]; omega
      · obtain rfl : k = l.length := by omega
        have Hcr := Lib.hid (crash_any wr gp (Pgq gp q) x.t (hwal.out.1.imp fun k _ hp => ⟨hp.1, hp.2.1⟩) (fun k hk => ⟨by omega, by omega⟩) (fun k hk => hk.1) Hbd.out.2.2.1 Hbd.out.2.2.2.1 (by have := Hbd.out.2.2.2.2.1; omega) (by have := Hbd.out.2.2.2.2.2.1; omega) keep)
        have Hoo := Lib.hid hoo; have Hrows := Lib.hid hrows; have Hph := Lib.hid hph
        obtain ⟨l', hl', hok', hlen', hcl, hops⟩ := opens_crash hst.out hacc.out h16 keep
        have Hl' := Lib.hid hl'; have Hok' := Lib.hid hok'; have Hcl := Lib.hid hcl; have Hops := Lib.hid hops
        clear hoo hrows hph hl' hok' hcl hops
        go_wp2_with fail
        refine Hcr.out.mono ?_
        rintro e w6 ⟨rfl, ht6, hgr6⟩
        have hsz6 := hgr6.size
        have hbr6 : Below gp w1 w6 := hbr.trans (below_grown hgr6 (Nat.le_refl _) (by omega))
        have Ht6 := Lib.hid ht6; have Hgr6 := Lib.hid hgr6
        clear ht6 hgr6
        have hcase : (lo % 4 = 1 ∧ ph = [] ∧ lo / 4 % 2 = 0) ∨ (lo % 4 = 1 ∧ ph = [] ∧ lo / 4 % 2 = 1) ∨ (lo % 4 ≠ 1) ∨ (lo % 4 = 1 ∧ 0 < ph.length) := by
          rcases ph with _ | ⟨r, rs⟩
          · simp; omega
          · simp; omega
        rcases hcase with ⟨h4, hpe, h2⟩ | ⟨h4, hpe, h2⟩ | h4 | ⟨h4, hpe⟩
        case' inl =>
          have z1 : ((lo : Int) % 4 == 1) = true := by rw [beq_iff_eq]; omega
          have z2 : ((ph.length : Int) == 0) = true := by rw [hpe]; rfl
          have z3 : (lo : Int) / 4 % 2 = 0 := by omega
          have Hla0 := Lib.hid <| show l' = acc by rcases Hl'.out with h | ⟨h, -⟩; exact h; rw [hpe] at h; simp at h
          have Hlz := Lib.hid (lose0_any w6 gp (Pgq gp q) _ Ht6.out (fun k hk => hk.1))
          have Hpe := Lib.hid hpe
          clear h4 hpe h2
          go_wp2_with fail
          refine Hlz.out.mono ?_
          rintro e wt ⟨rfl, htt, hgrt⟩
          have Hgrt := Lib.hid (grown_trans Hgr6.out hgrt)
          have hszt := hgrt.size
          have hbrt : Below gp w1 wt := hbr6.trans (below_grown hgrt (Nat.le_refl _) (by omega))
          obtain ⟨tt, t1, Ht, Hop1, Hop2⟩ : ∃ tt t1, Hid (TapeAt wt gp (Pgq gp q) tt) ∧ Hid (Opens tt l' t1) ∧ Hid (Opens t1 l' t1) :=
            ⟨lost0 (ents l'), lost0 (ents l'), Lib.hid (by have h := htt; rw [Hcl.out Hpe.out, ← Hla0.out] at h; exact h), Lib.hid (opens_lost0 l' Hok'.out hlen'), Lib.hid (opens_lost0 l' Hok'.out hlen')⟩
          clear htt hgrt z1 z2 z3
        case' inr.inl =>
          have z1 : ((lo : Int) % 4 == 1) = true := by rw [beq_iff_eq]; omega
          have z2 : ((ph.length : Int) == 0) = true := by rw [hpe]; rfl
          have z3 : (lo : Int) / 4 % 2 = 1 := by omega
          have Hla0 := Lib.hid <| show l' = acc by rcases Hl'.out with h | ⟨h, -⟩; exact h; rw [hpe] at h; simp at h
          have Hlz := Lib.hid (lose1_any w6 gp (Pgq gp q) _ Ht6.out (fun k hk => hk.1))
          have Hpe := Lib.hid hpe
          clear h4 hpe h2
          go_wp2_with fail
          refine Hlz.out.mono ?_
          rintro e wt ⟨rfl, htt, hgrt⟩
          have Hgrt := Lib.hid (grown_trans Hgr6.out hgrt)
          have hszt := hgrt.size
          have hbrt : Below gp w1 wt := hbr6.trans (below_grown hgrt (Nat.le_refl _) (by omega))
          obtain ⟨tt, t1, Ht, Hop1, Hop2⟩ : ∃ tt t1, Hid (TapeAt wt gp (Pgq gp q) tt) ∧ Hid (Opens tt l' t1) ∧ Hid (Opens t1 l' t1) :=
            ⟨lost1 (ents l'), lost1 (ents l'), Lib.hid (by have h := htt; rw [Hcl.out Hpe.out, ← Hla0.out] at h; exact h), Lib.hid (opens_lost1 l' Hok'.out hlen'), Lib.hid (opens_lost1 l' Hok'.out hlen')⟩
          clear htt hgrt z1 z2 z3
        case' inr.inr.inl =>
          have z1 : ((lo : Int) % 4 == 1) = false := by rw [beq_eq_false_iff_ne]; omega
          clear h4
          obtain ⟨wt, rfl⟩ : ∃ wt, wt = w6 := ⟨_, rfl⟩
          have Hgrt := Lib.hid Hgr6.out
          have hszt := Nat.le_refl wt.heap.size
          have hbrt := hbr6
          obtain ⟨tt, t1, Ht, Hop1, Hop2⟩ : ∃ tt t1, Hid (TapeAt wt gp (Pgq gp q) tt) ∧ Hid (Opens tt l' t1) ∧ Hid (Opens t1 l' t1) :=
            ⟨_, _, Lib.hid Ht6.out, Lib.hid Hops.out, Lib.hid (opens_clean l' Hok'.out hlen')⟩
          go_wp2_with fail
          clear z1
        case' inr.inr.inr =>
          have z1 : ((lo : Int) % 4 == 1) = true := by rw [beq_iff_eq]; omega
          have z2 : ((ph.length : Int) == 0) = false := by rw [beq_eq_false_iff_ne]; omega
          clear h4 hpe
          obtain ⟨wt, rfl⟩ : ∃ wt, wt = w6 := ⟨_, rfl⟩
          have Hgrt := Lib.hid Hgr6.out
          have hszt := Nat.le_refl wt.heap.size
          have hbrt := hbr6
          obtain ⟨tt, t1, Ht, Hop1, Hop2⟩ : ∃ tt t1, Hid (TapeAt wt gp (Pgq gp q) tt) ∧ Hid (Opens tt l' t1) ∧ Hid (Opens t1 l' t1) :=
            ⟨_, _, Lib.hid Ht6.out, Lib.hid Hops.out, Lib.hid (opens_clean l' Hok'.out hlen')⟩
          go_wp2_with fail
          clear z1 z2
        all_goals
          have hBt : Below w.heap.size w wt := hB1.trans (hbrt.mono (by omega))
          have htwt : Two gp q wr wt := Two.of_g Hgrt.out
          have hoot := owns_two Hoo.out htwt (by omega) (by omega)
          have hrowt : RowsOf (RecVal wt (· < w.heap.size)) acc vs := Hrows.out.mono fun _ _ h => h.keep (fun k hk hp => (hBt.block k hp).trans (hBr.block k hp).symm)
          have hpht := Hph.out.two htwt (by omega) (by omega) (by omega) (by omega)
          have Hopen1 := Lib.hid (open_tells wt gp (Pgq gp q) tt t1 l' Ht.out (fun k hk => ⟨by omega, by omega⟩) (fun k hk => hk.1) Hop1.out)
          have Hoot := Lib.hid hoot; have Hrowt := Lib.hid hrowt; have Hpht := Lib.hid hpht
          clear hoot hrowt hpht htwt
          try go_wp2_with fail
          refine Hopen1.out.mono ?_
          rintro e w7 ⟨q7, y7, vs7, rfl, hgr7, ht7, hown7, hrows7⟩
          obtain ⟨X, xc, rfl, hxc, hrx⟩ := recs_of_own hown7 hrows7
          have hsz7 := hgr7.size
          have hb7 : Below gp w1 w7 := hbrt.trans (below_grown hgr7 (Nat.le_refl _) (by omega))
          have Hopen2 := Lib.hid (open_tells w7 gp (Pgq gp q) t1 t1 l' ht7 (fun k hk => ⟨by omega, by omega⟩) (fun k hk => hk.1) Hop2.out)
          have Ht7 := Lib.hid ht7; have Hrx := Lib.hid hrx; have Hgr7 := Lib.hid hgr7
          clear hown7 hrows7 ht7 hrx hgr7
          go_wp2_with fail
          refine Hopen2.out.mono ?_
          rintro e w8 ⟨q8, y8, vs8, rfl, hgr8, ht8, hown8, hrows8⟩
          obtain ⟨Y, yc, rfl, hyc, hry⟩ := recs_of_own hown8 hrows8
          have hsz8 := hgr8.size
          have hb8 : Below gp w1 w8 := hb7.trans (below_grown hgr8 (Nat.le_refl _) (by omega))
          have hB8 : Below w.heap.size w w8 := hB1.trans (hb8.mono (by omega))
          have htw8 : Two gp q wt w8 := Two.of_g (grown_trans Hgr7.out hgr8)
          have hrx8 : RRecs w8 (InT w8 listTs) X l' := Hrx.out.same (SameT.of_grown hgr8 (fun k e => by injection e with e; subst e; exact notlist_of_tape Ht7.out))
          obtain ⟨Oo', oc', hoo', -, hrs8⟩ := recs_of_own2 (owns_two Hoot.out htw8 (by omega) (by omega)) (show RowsOf (RecVal w8 (· < w.heap.size)) acc vs from Hrowt.out.mono fun _ _ h => h.keep (fun k hk hp => (hB8.block k hp).trans (hBt.block k hp).symm))
          injection hoo' with hoo1 hoo2 hoo3
          subst hoo1
          subst hoo3
          obtain ⟨Pp', pc', hpp', -, hrp8⟩ := (Hpht.out.two htw8 (by omega) (by omega) (by omega) (by omega)).recs
          injection hpp' with hpp1 hpp2 hpp3
          subst hpp1
          subst hpp3
          have hcl8 : l'.length ≤ 1000000 := by have := ents_count l'; omega
          have Hrx8 := Lib.hid hrx8; have Hry8 := Lib.hid hry; have Hrs8 := Lib.hid hrs8; have Hrp8 := Lib.hid hrp8
          clear hown8 hrows8 ht8 hry hrx8 hrs8 hrp8 hgr8 htw8 hoo2 hpp2
          go_wp2_with fail
          refine (answers11_any _).mono ?_
          rintro e w9 ⟨rfl, hb9⟩
          have hs9 := hb9.size
          have Hsm1 := Lib.hid (same_true X Y xc yc w9 l' hcl8 hxc hyc Hok'.out (RRecs.imp (Hrx8.out.same (SameT.of_below hb9)) fun _ hk _ => hk) (RRecs.imp (Hry8.out.same (SameT.of_below hb9)) fun _ hk _ => hk))
          go_wp2_with fail
          refine Hsm1.out.mono ?_
          rintro e w10 ⟨rfl, hb10⟩
          have hs10 := hb10.size
          have hb810 : Below w8.heap.size w8 w10 := hb9.trans (hb10.mono hs9)
          have hsm2 := lawSame_any X Oo xc oc w10 l' acc (by omega) (by omega) hxc hoc (fun r hr => (Hok'.out r hr).len) (fun r hr => (hacc.out r hr).len) (RRecs.imp (Hrx8.out.same (SameT.of_below hb810)) fun _ hk _ => hk) (Hrs8.out.lift hb810)
          unfold SamePost at hsm2
          have hB10 : Below w.heap.size w w10 := hB8.trans (hb810.mono hB8.size)
          by_cases hla : l' = acc
          · rw [eqB_true hla] at hsm2
            have Hsm2 := Lib.hid hsm2
            clear hsm2 hla
            go_wp2_with fail
            refine Hsm2.out.mono ?_
            rintro e w11 ⟨rfl, hb11⟩
            go_wp2_with fail
            go_ret
            exact ⟨rfl, hB10.trans (hb11.mono hB10.size)⟩
          · rw [eqB_false hla] at hsm2
            have Hsm2 := Lib.hid hsm2
            obtain ⟨hp0, hlp⟩ : 0 < ph.length ∧ l' = ph := by
              rcases Hl'.out with h | h
              · exact absurd h hla
              · exact h
            have hp1 : (0 : Int) < (ph.length : Int) := by omega
            have Hlp := Lib.hid hlp
            clear hsm2 hla hlp
            go_wp2_with fail
            refine Hsm2.out.mono ?_
            rintro e w11 ⟨rfl, hb11⟩
            have hb811 : Below w8.heap.size w8 w11 := hb810.trans (hb11.mono hb810.size)
            have hlp := Hlp.out
            have hsm3 := same_true X Pp xc pc w11 l' hcl8 hxc (by rw [hlp]; exact hpc) Hok'.out (RRecs.imp (Hrx8.out.same (SameT.of_below hb811)) fun _ hk _ => hk) (by rw [hlp]; exact Hrp8.out.lift hb811)
            rw [show Value.slice Pp l'.length pc = Value.slice Pp ph.length pc by rw [hlp]] at hsm3
            have Hsm3 := Lib.hid hsm3
            clear hsm3 hlp
            go_wp2_with fail
            refine Hsm3.out.mono ?_
            rintro e w12 ⟨rfl, hb12⟩
            go_wp2_with fail
            go_ret
            have hB11 := hB10.trans (hb11.mono hB10.size)
            exact ⟨rfl, hB11.trans (hb12.mono hB11.size)⟩
theorem walLasts_row (w : World) (A : Option Addr) (c : Nat) (l : List PRec) (hlm : l.length ≤ maxLen) (hr : RRecs w (· < w.heap.size) A l) (hm : ∀ r ∈ l, FewR r) (fu : Int) (hfu : (Lit.int .u8 fu).wf = true) (keep : Int) (_ : (Lit.int .i64 keep).wf = true) (lo : Int) (hlo : (Lit.int .u8 lo).wf = true) :
    Calls Try.prog 16 #[.slice A l.length c, .int .u8 fu, .int .i64 keep, .int .u8 lo] w (TruePost w) := by
  have h1 : 0 ≤ fu ∧ fu ≤ 255 := by simpa [Lit.wf, IntKind.min, IntKind.max, IntKind.signed, IntKind.bits] using hfu
  have h2 : 0 ≤ lo ∧ lo ≤ 255 := by simpa [Lit.wf, IntKind.min, IntKind.max, IntKind.signed, IntKind.bits] using hlo
  obtain ⟨n, rfl⟩ := Int.eq_ofNat_of_zero_le h1.1
  obtain ⟨m, rfl⟩ := Int.eq_ofNat_of_zero_le h2.1
  exact walLasts_any w A c l hlm hr hm n (by omega) keep m (by omega)
end Go.Proofs.Ytmleldgohfcdbaa
