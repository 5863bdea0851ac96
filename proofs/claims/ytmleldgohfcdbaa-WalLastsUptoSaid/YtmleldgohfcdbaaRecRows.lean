/- rec's rows, at numbers, stripes and objects; a stripe, an object. -/
import Derived.Test.YtmleldgohfcdbaaReader
namespace Go.Proofs.Ytmleldgohfcdbaa
set_option linter.unusedVariables false
set_option linter.unusedSimpArgs false
open Go.RowKit
/-- What a row of elements answers: a slice of its own, of these. -/
def RowPost {α : Type} (w : World) (g : Nat) (E : TypeId) (size : Nat) (R : World → α → List Value → Prop) (xs : List α) (s : RS) (e : Ending) (w' : World) : Prop :=
  ∃ v vs, e = .returned v ∧ w'.ownsRow w.heap.size E size v xs.length vs ∧ RowsOf (R w') xs vs ∧ Reader w' g s ∧ w.grownBy w' (some g)
theorem Reader.lt {w : World} {g : Nat} {s : RS} (h : Reader w g s) : g < w.heap.size := by
  obtain ⟨A, c, h, _⟩ := h
  exact blk_lt h
theorem Reader.keep {w w' : World} {g : Nat} {s : RS} {row : Option Nat} (h : Reader w g s) (hg : w.grownBy w' row) (hr : ∀ k, row = some k → g < k) : Reader w' g s := by
  obtain ⟨A, c, h1, h2, h3⟩ := h
  refine ⟨A, c, (hg.block g (blk_lt h1) (fun e => by have := hr g e.symm; omega)).trans h1, h2, h3.keep fun k hk hlt => hg.block k hk (fun e => ?_)⟩
  have h0 : k < g := hlt
  have := hr k e.symm
  omega
theorem Reader.sameT {w w' : World} {g : Nat} {s : RS} {ts : List TypeId} (h : Reader w g s) (hg : w.grownBy w' (some g)) (hts : 109 ∉ ts) : SameT ts w w' := by
  obtain ⟨A, c, h1, _⟩ := h
  exact .of_grown hg fun k e => by injection e with e; subst e; exact not_inT h1 hts
theorem owns_sameT {w w' : World} {base : Nat} {E : TypeId} {size n : Nat} {v : Value} {vs : List Value} {ts : List TypeId} (h : w.ownsRow base E size v n vs) (hg : w.grownBy w' v.ownBlock) (hts : E ∉ ts) : SameT ts w w' := by
  refine .of_grown hg fun k e => ?_
  rcases h.2 with ⟨rfl, _⟩ | ⟨g, cap, cur, rfl, _, hh, _⟩
  · simp [Value.ownBlock] at e
  · simp only [Value.ownBlock, Option.some.injEq] at e
    subst e
    exact not_inT hh hts
theorem grown_of_new {w w1 w2 : World} {g B : Nat} {row : Option Nat} (h : w.grownBy w1 (some g)) (hg : w1.grownBy w2 row) (hB : w.heap.size ≤ B) (hr : ∀ k, row = some k → B ≤ k) : w.grownBy w2 (some g) :=
  ⟨hg.os.trans h.os, hg.tape.trans h.tape, hg.output.trans h.output, Nat.le_trans h.size hg.size, fun i hi hne => (hg.block i (Nat.lt_of_lt_of_le hi h.size) (fun e => by have := hr i e.symm; omega)).trans (h.block i hi hne)⟩
theorem owns_keep_g {w w' : World} {base g : Nat} {E : TypeId} {size n : Nat} {v : Value} {vs : List Value} (h : w.ownsRow base E size v n vs) (hg : w.grownBy w' (some g)) (hlt : g < base) : w'.ownsRow base E size v n vs := by
  refine h.kept hg ?_
  cases hv : v.ownBlock with
  | none => exact .inl rfl
  | some k =>
    right
    intro e
    injection e with e
    have := (h.lt k hv).1
    omega
theorem rloop_bad {α : Type} (one : RS → α × RS) (n : Nat) (s : RS) (h : s.bad = true) : rloop one n s = ([], s) := by
  cases n <;> simp [rloop, h]
theorem rloop_go {α : Type} (one : RS → α × RS) (n : Nat) (s : RS) (h : s.bad = false) : rloop one (n + 1) s = ((one s).1 :: (rloop one n (one s).2).1, (rloop one n (one s).2).2) := by
  simp [rloop, h]
theorem RowsOf.one {α : Type} {R : α → List Value → Prop} {a : α} {x : List Value} (h : R a x) : RowsOf R [a] x := ⟨x, [], by simp, h, rfl⟩
def RInt (_ : World) (a : Int) (vs : List Value) : Prop := vs = [.int .i64 a]
def RStr (w : World) (a : PStripe) (vs : List Value) : Prop := StripeVal w (InT w [3]) a vs
def RObj (w : World) (a : PObj) (vs : List Value) : Prop := ObjVal w (InT w [3, 78]) a vs
theorem RStr.same {w w' : World} {a : PStripe} {vs : List Value} (h : RStr w a vs) (hs : SameT [3] w w') : RStr w' a vs := StripeVal.same h hs
theorem RObj.same {w w' : World} {a : PObj} {vs : List Value} (h : RObj w a vs) (hs : SameT [3, 78] w w') : RObj w' a vs := ObjVal.same h hs
theorem rint_of {w : World} {xs : List Int} : ∀ {vs : List Value}, RowsOf (RInt w) xs vs → vs = xs.map (Value.int .i64) := by
  induction xs with
  | nil => exact fun h => h
  | cons a l ih =>
    rintro vs ⟨x, y, rfl, h1, h2⟩
    rw [show x = _ from h1, ih h2]
    rfl
theorem info_int : (Try.prog.info? 3).map (fun i => (i.zero, i.size, i.bytes)) = some (some (.int .i64 0), 1, 8) := by kernel_rfl
theorem info_stripe : (Try.prog.info? 78).map (fun i => (i.zero, i.size, i.bytes)) = some (some (.agg #[.int .i64 0, .int .i64 0, .slice none 0 0]), 3, 40) := by kernel_rfl
theorem info_obj : (Try.prog.info? 80).map (fun i => (i.zero, i.size, i.bytes)) = some (some (.agg #[.string ByteArray.empty, .int .i64 0, .int .i64 0, .slice none 0 0]), 4, 56) := by kernel_rfl

set_option maxRecDepth 100000 in
set_option maxHeartbeats 400000 in
theorem rowInt_any (w : World) (g : Nat) (s : RS) (hw : Reader w g s) (n : Nat) (hn : n ≤ 2) :
    Calls Try.prog 76 #[.pointer (some ⟨g, 0, none⟩), .int .i64 n, .func (.func 70) #[.pointer (some ⟨g, 0, none⟩)] #[]] w (RowPost w g 3 1 RInt (rrow (rnum 4) n s).1 (rrow (rnum 4) n s).2) := by
  have hb := rnum_bd n s (by omega)
  have hb2 := rnum_row n s hn
  have ht := rnum_any w g s hw n (by omega)
  have hgw := hw.lt
  unfold rrow
  obtain ⟨n0, hn0⟩ := Int.eq_ofNat_of_zero_le hb.1
  rw [hn0] at ht hb2 ⊢
  rw [Int.toNat_natCast]
  generalize (rnum n s).2 = s0 at ht ⊢
  obtain ⟨res, hres⟩ : ∃ res, rloop (rnum 4) n0 s0 = res := ⟨_, rfl⟩
  rw [hres]
  have Ht := Lib.hid ht; have Hres := Lib.hid hres
  clear ht hn0 hb hres
  go_enter Try.func76, Try.ntmps76
  go_wp2_with fail
  refine Ht.out.mono ?_
  rintro e w1 ⟨rfl, hw1, hg1⟩
  go_wp2_with fail
  go_loopw [7, 8] (fun v i wr => ∃ (m : Nat) (acc : _) (sr : RS) (vs : List Value), m + acc.length ≤ n0 ∧ i = .int .i64 m ∧ wr.ownsRow w.heap.size 3 1 v acc.length vs ∧ RowsOf (RInt wr) acc vs ∧ Reader wr g sr ∧ w.grownBy wr (some g) ∧
      Hid (rloop (rnum 4) n0 s0 = (acc ++ (rloop (rnum 4) m sr).1, (rloop (rnum 4) m sr).2))) (fun _ i _ => (intOf i).toNat)
  case atStart => exact ⟨n0, [], s0, [], by simp, rfl, World.ownsRow_nil _ _ _ _, rfl, hw1, hg1, by simp [Hid]⟩
  case round =>
    obtain ⟨m, acc, sr, vs, hma, rfl, hown, hrows, hwr, hgr, hinv⟩ := hrel
    by_cases hm : m = 0
    · subst hm
      go_wp2_with fail
      go_ret
      have e := Hres.out.symm.trans hinv.out
      rw [show rloop (rnum 4) 0 sr = ([], sr) from rfl, List.append_nil] at e
      rw [e]
      exact ⟨_, vs, rfl, hown, hrows, hwr, hgr⟩
    · obtain ⟨m, rfl⟩ : ∃ k, m = k + 1 := ⟨m - 1, by omega⟩
      have hwr0 := hwr
      obtain ⟨A, c, hblk, _, _⟩ := hwr0
      have c1 : wr.cell? ⟨g, 1, none⟩ = some (.bool sr.bad) := blk_cell hblk 1
      obtain ⟨bd, hbd⟩ : ∃ bd, sr.bad = bd := ⟨_, rfl⟩
      rw [hbd] at c1
      have Hbd := Lib.hid hbd
      clear hbd hblk
      cases bd with
      | true =>
        go_wp2_with fail
        go_ret
        have e := Hres.out.symm.trans hinv.out
        rw [rloop_bad _ _ _ Hbd.out, List.append_nil] at e
        rw [e]
        exact ⟨_, vs, rfl, hown, hrows, hwr, hgr⟩
      | false =>
        have hone := rword_any wr g sr hwr
        have hinv2 : Hid (rloop (rnum 4) n0 s0 = (acc ++ [((rnum 4) sr).1] ++ (rloop (rnum 4) m ((rnum 4) sr).2).1, (rloop (rnum 4) m ((rnum 4) sr).2).2)) := by
          have e := hinv.out
          rw [rloop_go _ _ _ Hbd.out] at e
          show _ = _
          rw [e, List.append_assoc]
          rfl
        generalize ((rnum 4) sr).1 = a at hone hinv2
        generalize ((rnum 4) sr).2 = s2 at hone hinv2
        have Hone := Lib.hid hone
        clear hone
        have hszw := hgr.size
        go_wp2_with fail
        refine Hone.out.mono ?_
        rintro e w3 ⟨rfl, hw3, hg3⟩
        have hgr3 := grown_trans hgr hg3
        have hszw3 := hgr3.size
        have hown3 := owns_keep_g hown hg3 hgw
        have hsame3 := hwr.sameT (ts := ([] : List TypeId)) hg3 (by decide)
        have hrows3 : RowsOf (RInt w3) acc vs := hrows.mono fun _ _ h => h
        have hownA := hown3.alloc (.cells #[.int .i64 a] 3)
        have hrv : RV (w3.alloc (.cells #[.int .i64 a] 3)) (some ⟨w3.heap.size, 0, none⟩) [.int .i64 a] := by
          intro j hj
          refine ⟨_, rfl, ?_⟩
          rw [lit_add, cell_of_row _ _ _ _ _ _ (heap_alloc_new w3 _)]
          first | (simp; done) | simpa using List.getElem?_eq_getElem hj
        go_wp2_with (at_builtin; refine wpList_app _ (by rfl) (.tmp 23) (.tmp 26) 49 rfl w.heap.size 3 _ 1 8 Try.underlying49 info_int rfl (by omega) _ acc.length vs rfl hownA (some ⟨w3.heap.size, 0, none⟩) 1 1 [.int .i64 a] rfl rfl hrv (by intro u hu; simp at hu; rw [hu]; rfl) (by unfold maxLen; omega) (by omega) (Nat.le_trans hszw3 (by simp)) ?_; intro v4 w4 hown4 hg4 hno4)
        go_roundw
        case rel =>
          have hsame4 : SameT ([] : List TypeId) w3 w4 := (SameT.alloc _ w3 _).trans (owns_sameT hownA hg4 (by decide))
          have hnew : RowsOf (RInt w4) [a] [.int .i64 a] := RowsOf.one rfl
          refine ⟨m, acc ++ [a], s2, vs ++ [.int .i64 a], by simp; omega, by go_num, ?_, RowsOf.append (R := RInt w4) (hrows3.mono fun _ _ h => h) hnew, ?_, ?_, hinv2⟩
          · rw [List.length_append]; exact hown4
          · exact (hw3.keep (World.grownBy_alloc w3 _ none) (by simp)).keep hg4 (fun k hk => Nat.lt_of_lt_of_le hgw (hownA.lt k hk).1)
          · exact grown_of_new (grown_of_new (B := w.heap.size) hgr3 (World.grownBy_alloc w3 _ none) (Nat.le_refl _) (by simp)) hg4 (Nat.le_refl _) (fun k hk => (hownA.lt k hk).1)
        case measure => simp [intOf]

def StripePost (w : World) (g : Nat) (a : PStripe) (s : RS) (e : Ending) (w' : World) : Prop :=
  ∃ A c, e = .returned (.agg #[.int .i64 a.id, .int .i64 a.epoch, .slice A a.locs.length c]) ∧ RStr w' a [.int .i64 a.id, .int .i64 a.epoch, .slice A a.locs.length c] ∧ Reader w' g s ∧ w.grownBy w' (some g)
def ObjPost (w : World) (g : Nat) (a : PObj) (s : RS) (e : Ending) (w' : World) : Prop :=
  ∃ A c, e = .returned (.agg #[sv a.key, .int .i64 a.id, .int .i64 a.size, .slice A a.stripes.length c]) ∧ RObj w' a [sv a.key, .int .i64 a.id, .int .i64 a.size, .slice A a.stripes.length c] ∧ Reader w' g s ∧ w.grownBy w' (some g)
/-- A row's value is a slice. -/
theorem owns_slice {w : World} {base : Nat} {E : TypeId} {size n : Nat} {v : Value} {vs : List Value} (h : w.ownsRow base E size v n vs) : ∃ A c, v = .slice A n c ∧ n ≤ c := by
  rcases h.2 with ⟨rfl, rfl⟩ | ⟨g, cap, cur, rfl, _, _, h1, _⟩
  · exact ⟨none, 0, rfl, Nat.le_refl _⟩
  · exact ⟨_, cap, rfl, h1⟩
theorem results_cell1 {P : Program} {fn : Func} {tmps : Array Value} {p : Tmp} {ty : TypeId} {w : World} (h : fn.results = #[.cell p ty]) (g : Nat) (t : TypeId) (cs : Array Value) (fr : Nat × Nat) (d : TypeDesc)
    (hp : tmps.getD p undef = .pointer (some ⟨g, 0, none⟩)) (hg : w.heap[g]? = some (.cells cs t fr))
    (hu : P.underlying ty = some d) (hd : (match d with | .struct _ | .array _ _ => true | _ => false) = true) (hi : (P.info? ty).map (·.size) = some cs.size) : (results fn tmps).run P w = .ok (.agg cs) w := by
  simp [results, h, show tmps[p]?.getD undef = _ by simpa using hp, asAddr, run_loadVar_row w g t _ cs fr d hg hu hd hi]
theorem results_cell2 {P : Program} {fn : Func} {tmps : Array Value} {p q : Tmp} {ty : TypeId} {w : World} (h : fn.results = #[.cell p ty, .tmp q]) (g : Nat) (t : TypeId) (cs : Array Value) (fr : Nat × Nat) (d : TypeDesc)
    (hp : tmps.getD p undef = .pointer (some ⟨g, 0, none⟩)) (hg : w.heap[g]? = some (.cells cs t fr))
    (hu : P.underlying ty = some d) (hd : (match d with | .struct _ | .array _ _ => true | _ => false) = true) (hi : (P.info? ty).map (·.size) = some cs.size) : (results fn tmps).run P w = .ok (.tuple #[.agg cs, tmps.getD q undef]) w := by
  simp [results, h, show tmps[p]?.getD undef = _ by simpa using hp, asAddr, run_loadVar_row w g t _ cs fr d hg hu hd hi]
theorem grown_setNew {w w1 : World} {g b i : Nat} {u : Value} (h : w.grownBy w1 (some g)) (hb : w.heap.size ≤ b) : w.grownBy (w1.setCell ⟨b, i, none⟩ u) (some g) :=
  grown_of_new h (grown_set w1 b i u) (Nat.le_refl _) (fun k e => by injection e with e; omega)
set_option maxRecDepth 100000 in
set_option maxHeartbeats 400000 in
theorem rstripe_any (w : World) (g : Nat) (s : RS) (hw : Reader w g s) :
    Calls Try.prog 73 #[.pointer (some ⟨g, 0, none⟩)] w (StripePost w g (rstripe s).1 (rstripe s).2) := by
  have hgw := hw.lt
  have hz : ∀ z, Reader (w.alloc (.cells #[.int .i64 0, .int .i64 0, .slice none 0 0] 78)) g z ↔ Reader (w.alloc (.cells #[.int .i64 0, .int .i64 0, .slice none 0 0] 78)) g z := fun _ => Iff.rfl
  obtain ⟨w0, hw0⟩ : ∃ w0, w.alloc (.cells #[.int .i64 0, .int .i64 0, .slice none 0 0] 78) = w0 := ⟨_, rfl⟩
  have hg0 : w.grownBy w0 none := hw0 ▸ World.grownBy_alloc w _ none
  have hr0 : Reader w0 g s := hw.keep hg0 (by simp)
  have hgm0 : w.grownBy w0 (some g) := ⟨hg0.os, hg0.tape, hg0.output, hg0.size, fun i hi _ => hg0.block i hi (by simp)⟩
  have hb0 : w0.heap[w.heap.size]? = some (.cells #[.int .i64 0, .int .i64 0, .slice none 0 0] 78 (0, 0)) := hw0 ▸ heap_alloc_new w _
  have h1 := rword_any w0 g s hr0
  have h2 := fun w' (h : Reader w' g (rnum 4 s).2) => rword_any w' g _ h
  have h3 := fun w' (h : Reader w' g (rnum 4 (rnum 4 s).2).2) => rowInt_any w' g _ h 1 (by omega)
  have hst : rstripe s = (⟨(rnum 4 s).1, (rnum 4 (rnum 4 s).2).1, (rrow (rnum 4) 1 (rnum 4 (rnum 4 s).2).2).1⟩, (rrow (rnum 4) 1 (rnum 4 (rnum 4 s).2).2).2) := rfl
  rw [hst]
  clear hst hz
  generalize (rrow (rnum 4) 1 (rnum 4 (rnum 4 s).2).2).1 = l at h3 ⊢
  generalize (rrow (rnum 4) 1 (rnum 4 (rnum 4 s).2).2).2 = s3 at h3 ⊢
  generalize (rnum 4 (rnum 4 s).2).1 = b at h2 ⊢
  generalize (rnum 4 (rnum 4 s).2).2 = s2 at h2 h3 ⊢
  generalize (rnum 4 s).1 = a at h1 ⊢
  generalize (rnum 4 s).2 = s1 at h1 h2 ⊢
  have H1 := Lib.hid h1; have H2 := Lib.hid h2; have H3 := Lib.hid h3; have Hw0 := Lib.hid hw0
  clear h1 h2 h3 hw0
  go_enter Try.func73, Try.ntmps73
  go_wp2_with fail
  rw [Hw0.out]
  go_wp2_with fail
  refine H1.out.mono ?_
  rintro e w1 ⟨rfl, hr1, hg1⟩
  go_wp2_with fail
  refine (H2.out w1 hr1).mono ?_
  rintro e w2 ⟨rfl, hr2, hg2⟩
  go_wp2_with fail
  refine (H3.out w2 hr2).mono ?_
  rintro e w3 ⟨v, vs, rfl, hown, hrows, hr3, hg3⟩
  obtain ⟨A, c, rfl, hlc⟩ := owns_slice hown
  have hgg := grown_trans (grown_trans hg1 hg2) hg3
  have hgg0 := grown_trans hgm0 hgg
  have hb3 : w3.heap[w.heap.size]? = some (.cells #[.int .i64 0, .int .i64 0, .slice none 0 0] 78 (0, 0)) := (hgg.block _ (blk_lt hb0) (by simp; omega)).trans hb0
  have f0 := blk_free hb3 0
  have d0 : w3.cell? ⟨w.heap.size, 0, none⟩ = some (.int .i64 0) := blk_cell hb3 0
  have d1 : w3.cell? ⟨w.heap.size, 1, none⟩ = some (.int .i64 0) := blk_cell hb3 1
  have d2 : w3.cell? ⟨w.heap.size, 2, none⟩ = some (.slice none 0 0) := blk_cell hb3 2
  have f1 := blk_free hb3 1
  have f2 := blk_free hb3 2
  go_wp2_with fail
  have k1 := blk_set hb3 0 (.int .i64 a)
  have k2 := blk_set k1 1 (.int .i64 b)
  have k3 := blk_set k2 2 (.slice A l.length c)
  have gw : w3.grownBy (((w3.setCell ⟨w.heap.size, 0, none⟩ (.int .i64 a)).setCell ⟨w.heap.size, 1, none⟩ (.int .i64 b)).setCell ⟨w.heap.size, 2, none⟩ (.slice A l.length c)) (some w.heap.size) :=
    grown_trans (grown_trans (grown_set _ _ _ _) (grown_set _ _ _ _)) (grown_set _ _ _ _)
  generalize ((w3.setCell ⟨w.heap.size, 0, none⟩ (.int .i64 a)).setCell ⟨w.heap.size, 1, none⟩ (.int .i64 b)).setCell ⟨w.heap.size, 2, none⟩ (.slice A l.length c) = w4 at k3 gw ⊢
  refine bodyPost_ret (results_cell1 rfl w.heap.size _ _ _ _ rfl k3 rfl rfl rfl) rfl ?_
  rw [rint_of hrows] at hown
  have hri : RI w3 (InT w3 [3]) A l := rvb_of_own hown
  exact ⟨A, c, rfl, ⟨A, c, rfl, hlc, hri.same (.of_grown gw fun k e => by injection e with e; subst e; exact not_inT hb3 (by decide))⟩, hr3.keep gw (fun k e => by injection e with e; omega), grown_of_new hgg0 gw (Nat.le_refl _) (fun k e => by injection e with e; omega)⟩

set_option maxRecDepth 100000 in
set_option maxHeartbeats 400000 in
theorem rowStripe_any (w : World) (g : Nat) (s : RS) (hw : Reader w g s) (n : Nat) (hn : n ≤ 2) :
    Calls Try.prog 72 #[.pointer (some ⟨g, 0, none⟩), .int .i64 n, .func (.func 73) #[.pointer (some ⟨g, 0, none⟩)] #[]] w (RowPost w g 78 3 RStr (rrow rstripe n s).1 (rrow rstripe n s).2) := by
  have hb := rnum_bd n s (by omega)
  have hb2 := rnum_row n s hn
  have ht := rnum_any w g s hw n (by omega)
  have hgw := hw.lt
  unfold rrow
  obtain ⟨n0, hn0⟩ := Int.eq_ofNat_of_zero_le hb.1
  rw [hn0] at ht hb2 ⊢
  rw [Int.toNat_natCast]
  generalize (rnum n s).2 = s0 at ht ⊢
  obtain ⟨res, hres⟩ : ∃ res, rloop rstripe n0 s0 = res := ⟨_, rfl⟩
  rw [hres]
  have Ht := Lib.hid ht; have Hres := Lib.hid hres
  clear ht hn0 hb hres
  go_enter Try.func72, Try.ntmps72
  go_wp2_with fail
  refine Ht.out.mono ?_
  rintro e w1 ⟨rfl, hw1, hg1⟩
  go_wp2_with fail
  go_loopw [7, 8] (fun v i wr => ∃ (m : Nat) (acc : _) (sr : RS) (vs : List Value), m + acc.length ≤ n0 ∧ i = .int .i64 m ∧ wr.ownsRow w.heap.size 78 3 v acc.length vs ∧ RowsOf (RStr wr) acc vs ∧ Reader wr g sr ∧ w.grownBy wr (some g) ∧
      Hid (rloop rstripe n0 s0 = (acc ++ (rloop rstripe m sr).1, (rloop rstripe m sr).2))) (fun _ i _ => (intOf i).toNat)
  case atStart => exact ⟨n0, [], s0, [], by simp, rfl, World.ownsRow_nil _ _ _ _, rfl, hw1, hg1, by simp [Hid]⟩
  case round =>
    obtain ⟨m, acc, sr, vs, hma, rfl, hown, hrows, hwr, hgr, hinv⟩ := hrel
    by_cases hm : m = 0
    · subst hm
      go_wp2_with fail
      go_ret
      have e := Hres.out.symm.trans hinv.out
      rw [show rloop rstripe 0 sr = ([], sr) from rfl, List.append_nil] at e
      rw [e]
      exact ⟨_, vs, rfl, hown, hrows, hwr, hgr⟩
    · obtain ⟨m, rfl⟩ : ∃ k, m = k + 1 := ⟨m - 1, by omega⟩
      have hwr0 := hwr
      obtain ⟨A, c, hblk, _, _⟩ := hwr0
      have c1 : wr.cell? ⟨g, 1, none⟩ = some (.bool sr.bad) := blk_cell hblk 1
      obtain ⟨bd, hbd⟩ : ∃ bd, sr.bad = bd := ⟨_, rfl⟩
      rw [hbd] at c1
      have Hbd := Lib.hid hbd
      clear hbd hblk
      cases bd with
      | true =>
        go_wp2_with fail
        go_ret
        have e := Hres.out.symm.trans hinv.out
        rw [rloop_bad _ _ _ Hbd.out, List.append_nil] at e
        rw [e]
        exact ⟨_, vs, rfl, hown, hrows, hwr, hgr⟩
      | false =>
        have hone := rstripe_any wr g sr hwr
        have hinv2 : Hid (rloop rstripe n0 s0 = (acc ++ [(rstripe sr).1] ++ (rloop rstripe m (rstripe sr).2).1, (rloop rstripe m (rstripe sr).2).2)) := by
          have e := hinv.out
          rw [rloop_go _ _ _ Hbd.out] at e
          show _ = _
          rw [e, List.append_assoc]
          rfl
        generalize (rstripe sr).1 = a at hone hinv2
        generalize (rstripe sr).2 = s2 at hone hinv2
        have Hone := Lib.hid hone
        clear hone
        have hszw := hgr.size
        go_wp2_with fail
        refine Hone.out.mono ?_
        rintro e w3 ⟨A3, c3, rfl, hRa, hw3, hg3⟩
        have hgr3 := grown_trans hgr hg3
        have hszw3 := hgr3.size
        have hown3 := owns_keep_g hown hg3 hgw
        have hsame3 := hwr.sameT (ts := [3]) hg3 (by decide)
        have hrows3 : RowsOf (RStr w3) acc vs := hrows.mono fun _ _ h => h.same hsame3
        have hownA := hown3.alloc (.cells #[.int .i64 a.id, .int .i64 a.epoch, .slice A3 a.locs.length c3] 78)
        have hrv : RV (w3.alloc (.cells #[.int .i64 a.id, .int .i64 a.epoch, .slice A3 a.locs.length c3] 78)) (some ⟨w3.heap.size, 0, none⟩) [.int .i64 a.id, .int .i64 a.epoch, .slice A3 a.locs.length c3] := by
          intro j hj
          refine ⟨_, rfl, ?_⟩
          rw [lit_add, cell_of_row _ _ _ _ _ _ (heap_alloc_new w3 _)]
          first | (simp; done) | simpa using List.getElem?_eq_getElem hj
        go_wp2_with (at_builtin; refine wpList_app _ (by rfl) (.tmp 23) (.tmp 26) 47 rfl w.heap.size 78 _ 3 40 Try.underlying47 info_stripe rfl (by omega) _ acc.length vs rfl hownA (some ⟨w3.heap.size, 0, none⟩) 1 1 [.int .i64 a.id, .int .i64 a.epoch, .slice A3 a.locs.length c3] rfl rfl hrv (by intro u hu; simp at hu; rcases hu with rfl | rfl | rfl <;> rfl) (by unfold maxLen; omega) (by omega) (Nat.le_trans hszw3 (by simp)) ?_; intro v4 w4 hown4 hg4 hno4)
        go_roundw
        case rel =>
          have hsame4 : SameT [3] w3 w4 := (SameT.alloc _ w3 _).trans (owns_sameT hownA hg4 (by decide))
          have hnew : RowsOf (RStr w4) [a] [.int .i64 a.id, .int .i64 a.epoch, .slice A3 a.locs.length c3] := RowsOf.one (hRa.same hsame4)
          refine ⟨m, acc ++ [a], s2, vs ++ [.int .i64 a.id, .int .i64 a.epoch, .slice A3 a.locs.length c3], by simp; omega, by go_num, ?_, RowsOf.append (R := RStr w4) (hrows3.mono fun _ _ h => h.same hsame4) hnew, ?_, ?_, hinv2⟩
          · rw [List.length_append]; exact hown4
          · exact (hw3.keep (World.grownBy_alloc w3 _ none) (by simp)).keep hg4 (fun k hk => Nat.lt_of_lt_of_le hgw (hownA.lt k hk).1)
          · exact grown_of_new (grown_of_new (B := w.heap.size) hgr3 (World.grownBy_alloc w3 _ none) (Nat.le_refl _) (by simp)) hg4 (Nat.le_refl _) (fun k hk => (hownA.lt k hk).1)
        case measure => simp [intOf]

set_option maxRecDepth 100000 in
set_option maxHeartbeats 400000 in
theorem robj_any (w : World) (g : Nat) (s : RS) (hw : Reader w g s) :
    Calls Try.prog 75 #[.pointer (some ⟨g, 0, none⟩)] w (ObjPost w g (robj s).1 (robj s).2) := by
  have hgw := hw.lt
  obtain ⟨w0, hw0⟩ : ∃ w0, w.alloc (.cells #[.string ⟨#[]⟩, .int .i64 0, .int .i64 0, .slice none 0 0] 80) = w0 := ⟨_, rfl⟩
  have hg0 : w.grownBy w0 none := hw0 ▸ World.grownBy_alloc w _ none
  have hr0 : Reader w0 g s := hw.keep hg0 (by simp)
  have hgm0 : w.grownBy w0 (some g) := ⟨hg0.os, hg0.tape, hg0.output, hg0.size, fun i hi _ => hg0.block i hi (by simp)⟩
  have hb0 : w0.heap[w.heap.size]? = some (.cells #[.string ⟨#[]⟩, .int .i64 0, .int .i64 0, .slice none 0 0] 80 (0, 0)) := hw0 ▸ heap_alloc_new w _
  have hk := rkey_any w0 g s hr0
  have h1 := fun w' (h : Reader w' g (rkey s).2) => rword_any w' g _ h
  have h2 := fun w' (h : Reader w' g (rnum 4 (rkey s).2).2) => rword_any w' g _ h
  have h3 := fun w' (h : Reader w' g (rnum 4 (rnum 4 (rkey s).2).2).2) => rowStripe_any w' g _ h 1 (by omega)
  have hst : robj s = (⟨(rkey s).1, (rnum 4 (rkey s).2).1, (rnum 4 (rnum 4 (rkey s).2).2).1, (rrow rstripe 1 (rnum 4 (rnum 4 (rkey s).2).2).2).1⟩, (rrow rstripe 1 (rnum 4 (rnum 4 (rkey s).2).2).2).2) := rfl
  rw [hst]
  clear hst
  generalize (rrow rstripe 1 (rnum 4 (rnum 4 (rkey s).2).2).2).1 = l at h3 ⊢
  generalize (rrow rstripe 1 (rnum 4 (rnum 4 (rkey s).2).2).2).2 = s4 at h3 ⊢
  generalize (rnum 4 (rnum 4 (rkey s).2).2).1 = b at h2 ⊢
  generalize (rnum 4 (rnum 4 (rkey s).2).2).2 = s3 at h2 h3 ⊢
  generalize (rnum 4 (rkey s).2).1 = a at h1 ⊢
  generalize (rnum 4 (rkey s).2).2 = s2 at h1 h2 ⊢
  generalize (rkey s).1 = key at hk ⊢
  generalize (rkey s).2 = s1 at hk h1 ⊢
  obtain ⟨kv, hkv⟩ : ∃ kv, sv key = .string kv := ⟨_, rfl⟩
  have Hk := Lib.hid hk; have H1 := Lib.hid h1; have H2 := Lib.hid h2; have H3 := Lib.hid h3; have Hw0 := Lib.hid hw0
  clear hk h1 h2 h3 hw0
  go_enter Try.func75, Try.ntmps75
  go_wp2_with fail
  rw [Hw0.out]
  go_wp2_with fail
  refine Hk.out.mono ?_
  rintro e w1 ⟨rfl, hr1, hg1⟩
  go_wp2_with fail
  refine (H1.out w1 hr1).mono ?_
  rintro e w2 ⟨rfl, hr2, hg2⟩
  go_wp2_with fail
  refine (H2.out w2 hr2).mono ?_
  rintro e w3 ⟨rfl, hr3, hg3⟩
  go_wp2_with fail
  refine (H3.out w3 hr3).mono ?_
  rintro e w4 ⟨v, vs, rfl, hown, hrows, hr4, hg4⟩
  obtain ⟨A, c, rfl, hlc⟩ := owns_slice hown
  have hgg := grown_trans (grown_trans (grown_trans hg1 hg2) hg3) hg4
  have hgg0 := grown_trans hgm0 hgg
  have hb4 : w4.heap[w.heap.size]? = some (.cells #[.string ⟨#[]⟩, .int .i64 0, .int .i64 0, .slice none 0 0] 80 (0, 0)) := (hgg.block _ (blk_lt hb0) (by simp; omega)).trans hb0
  have f0 := blk_free hb4 0
  have f1 := blk_free hb4 1
  have f2 := blk_free hb4 2
  have f3 := blk_free hb4 3
  have d0 : w4.cell? ⟨w.heap.size, 0, none⟩ = some (.string ⟨#[]⟩) := blk_cell hb4 0
  have d1 : w4.cell? ⟨w.heap.size, 1, none⟩ = some (.int .i64 0) := blk_cell hb4 1
  have d2 : w4.cell? ⟨w.heap.size, 2, none⟩ = some (.int .i64 0) := blk_cell hb4 2
  have d3 : w4.cell? ⟨w.heap.size, 3, none⟩ = some (.slice none 0 0) := blk_cell hb4 3
  go_wp2_with fail
  have k1 := blk_set hb4 0 (.string kv)
  have k2 := blk_set k1 1 (.int .i64 a)
  have k3 := blk_set k2 2 (.int .i64 b)
  have k4 := blk_set k3 3 (.slice A l.length c)
  have gw : w4.grownBy ((((w4.setCell ⟨w.heap.size, 0, none⟩ (.string kv)).setCell ⟨w.heap.size, 1, none⟩ (.int .i64 a)).setCell ⟨w.heap.size, 2, none⟩ (.int .i64 b)).setCell ⟨w.heap.size, 3, none⟩ (.slice A l.length c)) (some w.heap.size) :=
    grown_trans (grown_trans (grown_trans (grown_set _ _ _ _) (grown_set _ _ _ _)) (grown_set _ _ _ _)) (grown_set _ _ _ _)
  generalize (((w4.setCell ⟨w.heap.size, 0, none⟩ (.string kv)).setCell ⟨w.heap.size, 1, none⟩ (.int .i64 a)).setCell ⟨w.heap.size, 2, none⟩ (.int .i64 b)).setCell ⟨w.heap.size, 3, none⟩ (.slice A l.length c) = w5 at k4 gw ⊢
  refine bodyPost_ret (results_cell1 rfl w.heap.size _ _ _ _ rfl k4 rfl rfl rfl) rfl ?_
  have hri : RStripes w4 (InT w4 [3, 78]) A l := ⟨vs, hrows.mono fun _ _ h => StripeVal.imp h (fun _ _ hk => hk.imp (by decide)), (rvb_of_own hown).imp (fun _ _ hk => hk.imp (by decide))⟩
  exact ⟨A, c, by rw [hkv]; rfl, ⟨A, c, by rw [hkv], hlc, hri.same (.of_grown gw fun k e => by injection e with e; subst e; exact not_inT hb4 (by decide))⟩, hr4.keep gw (fun k e => by injection e with e; omega), grown_of_new hgg0 gw (Nat.le_refl _) (fun k e => by injection e with e; omega)⟩

set_option maxRecDepth 100000 in
set_option maxHeartbeats 400000 in
theorem rowObj_any (w : World) (g : Nat) (s : RS) (hw : Reader w g s) (n : Nat) (hn : n ≤ 2) :
    Calls Try.prog 74 #[.pointer (some ⟨g, 0, none⟩), .int .i64 n, .func (.func 75) #[.pointer (some ⟨g, 0, none⟩)] #[]] w (RowPost w g 80 4 RObj (rrow robj n s).1 (rrow robj n s).2) := by
  have hb := rnum_bd n s (by omega)
  have hb2 := rnum_row n s hn
  have ht := rnum_any w g s hw n (by omega)
  have hgw := hw.lt
  unfold rrow
  obtain ⟨n0, hn0⟩ := Int.eq_ofNat_of_zero_le hb.1
  rw [hn0] at ht hb2 ⊢
  rw [Int.toNat_natCast]
  generalize (rnum n s).2 = s0 at ht ⊢
  obtain ⟨res, hres⟩ : ∃ res, rloop robj n0 s0 = res := ⟨_, rfl⟩
  rw [hres]
  have Ht := Lib.hid ht; have Hres := Lib.hid hres
  clear ht hn0 hb hres
  go_enter Try.func74, Try.ntmps74
  go_wp2_with fail
  refine Ht.out.mono ?_
  rintro e w1 ⟨rfl, hw1, hg1⟩
  go_wp2_with fail
  go_loopw [7, 8] (fun v i wr => ∃ (m : Nat) (acc : _) (sr : RS) (vs : List Value), m + acc.length ≤ n0 ∧ i = .int .i64 m ∧ wr.ownsRow w.heap.size 80 4 v acc.length vs ∧ RowsOf (RObj wr) acc vs ∧ Reader wr g sr ∧ w.grownBy wr (some g) ∧
      Hid (rloop robj n0 s0 = (acc ++ (rloop robj m sr).1, (rloop robj m sr).2))) (fun _ i _ => (intOf i).toNat)
  case atStart => exact ⟨n0, [], s0, [], by simp, rfl, World.ownsRow_nil _ _ _ _, rfl, hw1, hg1, by simp [Hid]⟩
  case round =>
    obtain ⟨m, acc, sr, vs, hma, rfl, hown, hrows, hwr, hgr, hinv⟩ := hrel
    by_cases hm : m = 0
    · subst hm
      go_wp2_with fail
      go_ret
      have e := Hres.out.symm.trans hinv.out
      rw [show rloop robj 0 sr = ([], sr) from rfl, List.append_nil] at e
      rw [e]
      exact ⟨_, vs, rfl, hown, hrows, hwr, hgr⟩
    · obtain ⟨m, rfl⟩ : ∃ k, m = k + 1 := ⟨m - 1, by omega⟩
      have hwr0 := hwr
      obtain ⟨A, c, hblk, _, _⟩ := hwr0
      have c1 : wr.cell? ⟨g, 1, none⟩ = some (.bool sr.bad) := blk_cell hblk 1
      obtain ⟨bd, hbd⟩ : ∃ bd, sr.bad = bd := ⟨_, rfl⟩
      rw [hbd] at c1
      have Hbd := Lib.hid hbd
      clear hbd hblk
      cases bd with
      | true =>
        go_wp2_with fail
        go_ret
        have e := Hres.out.symm.trans hinv.out
        rw [rloop_bad _ _ _ Hbd.out, List.append_nil] at e
        rw [e]
        exact ⟨_, vs, rfl, hown, hrows, hwr, hgr⟩
      | false =>
        have hone := robj_any wr g sr hwr
        have hinv2 : Hid (rloop robj n0 s0 = (acc ++ [(robj sr).1] ++ (rloop robj m (robj sr).2).1, (rloop robj m (robj sr).2).2)) := by
          have e := hinv.out
          rw [rloop_go _ _ _ Hbd.out] at e
          show _ = _
          rw [e, List.append_assoc]
          rfl
        generalize (robj sr).1 = a at hone hinv2
        generalize (robj sr).2 = s2 at hone hinv2
        have Hone := Lib.hid hone
        clear hone
        have hszw := hgr.size
        go_wp2_with fail
        refine Hone.out.mono ?_
        rintro e w3 ⟨A3, c3, rfl, hRa, hw3, hg3⟩
        have hgr3 := grown_trans hgr hg3
        have hszw3 := hgr3.size
        have hown3 := owns_keep_g hown hg3 hgw
        have hsame3 := hwr.sameT (ts := [3, 78]) hg3 (by decide)
        have hrows3 : RowsOf (RObj w3) acc vs := hrows.mono fun _ _ h => h.same hsame3
        have hownA := hown3.alloc (.cells #[sv a.key, .int .i64 a.id, .int .i64 a.size, .slice A3 a.stripes.length c3] 80)
        have hrv : RV (w3.alloc (.cells #[sv a.key, .int .i64 a.id, .int .i64 a.size, .slice A3 a.stripes.length c3] 80)) (some ⟨w3.heap.size, 0, none⟩) [sv a.key, .int .i64 a.id, .int .i64 a.size, .slice A3 a.stripes.length c3] := by
          intro j hj
          refine ⟨_, rfl, ?_⟩
          rw [lit_add, cell_of_row _ _ _ _ _ _ (heap_alloc_new w3 _)]
          first | (simp; done) | simpa using List.getElem?_eq_getElem hj
        go_wp2_with (at_builtin; refine wpList_app _ (by rfl) (.tmp 23) (.tmp 26) 48 rfl w.heap.size 80 _ 4 56 Try.underlying48 info_obj rfl (by omega) _ acc.length vs rfl hownA (some ⟨w3.heap.size, 0, none⟩) 1 1 [sv a.key, .int .i64 a.id, .int .i64 a.size, .slice A3 a.stripes.length c3] rfl rfl hrv (by intro u hu; simp at hu; rcases hu with rfl | rfl | rfl | rfl <;> rfl) (by unfold maxLen; omega) (by omega) (Nat.le_trans hszw3 (by simp)) ?_; intro v4 w4 hown4 hg4 hno4)
        go_roundw
        case rel =>
          have hsame4 : SameT [3, 78] w3 w4 := (SameT.alloc _ w3 _).trans (owns_sameT hownA hg4 (by decide))
          have hnew : RowsOf (RObj w4) [a] [sv a.key, .int .i64 a.id, .int .i64 a.size, .slice A3 a.stripes.length c3] := RowsOf.one (hRa.same hsame4)
          refine ⟨m, acc ++ [a], s2, vs ++ [sv a.key, .int .i64 a.id, .int .i64 a.size, .slice A3 a.stripes.length c3], by simp; omega, by go_num, ?_, RowsOf.append (R := RObj w4) (hrows3.mono fun _ _ h => h.same hsame4) hnew, ?_, ?_, hinv2⟩
          · rw [List.length_append]; exact hown4
          · exact (hw3.keep (World.grownBy_alloc w3 _ none) (by simp)).keep hg4 (fun k hk => Nat.lt_of_lt_of_le hgw (hownA.lt k hk).1)
          · exact grown_of_new (grown_of_new (B := w.heap.size) hgr3 (World.grownBy_alloc w3 _ none) (Nat.le_refl _) (by simp)) hg4 (Nat.le_refl _) (fun k hk => (hownA.lt k hk).1)
        case measure => simp [intOf]
end Go.Proofs.Ytmleldgohfcdbaa
