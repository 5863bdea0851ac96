/- tape: both sides. -/
import Derived.Test.YtmleldgohfcdbaaWalScan
namespace Go.Proofs.Ytmleldgohfcdbaa
set_option linter.unusedVariables false
set_option linter.unusedSimpArgs false
open Go.RowKit
/-- A slice of these bytes, in blocks of which P holds. -/
def TSlice (w : World) (P : Nat → Prop) (v : Value) (l : List UInt8) : Prop := ∃ A c, v = .slice A l.length c ∧ l.length ≤ c ∧ RVb w P A (l.map bv)
theorem TSlice.keep {w w' : World} {P : Nat → Prop} {v : Value} {l : List UInt8} (h : TSlice w P v l) (hk : ∀ k, k < w.heap.size → P k → w'.heap[k]? = w.heap[k]?) : TSlice w' P v l := by
  obtain ⟨A, c, e, h1, h2⟩ := h
  exact ⟨A, c, e, h1, h2.keep hk⟩
theorem TSlice.imp {w : World} {P P' : Nat → Prop} {v : Value} {l : List UInt8} (h : TSlice w P v l) (hP : ∀ k, k < w.heap.size → P k → P' k) : TSlice w P' v l := by
  obtain ⟨A, c, e, h1, h2⟩ := h
  exact ⟨A, c, e, h1, h2.imp hP⟩
theorem TSlice.nil (w : World) (P : Nat → Prop) : TSlice w P (.slice none 0 0) [] := ⟨none, 0, rfl, Nat.le_refl _, RVb.none_⟩
theorem OwnB.rvb {w : World} {base n c : Nat} {A : Option Addr} {l : List UInt8} (h : OwnB w base (.slice A n c) l) : RVb w (base ≤ ·) A (l.map bv) := by
  intro j hj
  rcases h.2 with ⟨h0, hn⟩ | ⟨g, cap, cur, hv, hb, hg, _⟩
  · have : l.length = 0 := hn
    simp at hj
    omega
  · injection hv with hA hn _
    subst hA
    exact ⟨_, rfl, hb, World.ownsRow.cells (g := g) h (by rfl) j _ (List.getElem?_eq_getElem hj)⟩
def ApplyPost (w : World) (g o : Nat) (cs : Array Value) (t : TypeId) (n : List UInt8) (e : Ending) (w' : World) : Prop :=
  ∃ A c, e = .returned (.tuple #[]) ∧ w'.heap[g]? = some (.cells (cs.setIfInBounds o (.slice A n.length c)) t (0, 0)) ∧ n.length ≤ c ∧ RVb w' (w.heap.size ≤ ·) A (n.map bv) ∧ w.grownBy w' (some g)
set_option maxRecDepth 100000 in
set_option maxHeartbeats 400000 in
theorem applyF_any (w : World) (g o : Nat) (cs : Array Value) (t : TypeId) (hblk : w.heap[g]? = some (.cells cs t (0, 0))) (A : Option Addr) (c : Nat) (l : List UInt8) (hcell : cs[o]? = some (.slice A l.length c)) (hr : RB w A l)
    (B : Option Addr) (d : Nat) (m : List UInt8) (hs : RB w B m) (n : List UInt8) (hn : l ++ m = n) (hlen : n.length ≤ 100000000000000) :
    Calls Try.prog 60 #[.pointer (some ⟨g, o, none⟩), .slice B m.length d, .bool false] w (ApplyPost w g o cs t n) := by
  have c0 : w.cell? ⟨g, o, none⟩ = some (.slice A l.length c) := (blk_cell hblk o).trans hcell
  have hlt := blk_lt hblk
  have hl2 : l.length ≤ n.length := by rw [← hn]; simp
  have Hn := Lib.hid hn; clear hn
  go_enter Try.func60, Try.ntmps60
  go_wp2_with fail
  refine (clone_any A c w l (by omega) hr).mono ?_
  rintro e w1 ⟨v1, rfl, hown1, hb1⟩
  go_wp2_with (at_builtin; refine wpList_apB (by rfl) (.tmp 15) (.tmp 16) rfl w.heap.size v1 l rfl hown1 B m.length d m rfl rfl (hs.below hb1) n Hn.out (by omega) hb1.size ?_; intro A2 c2 w2 hown2 hr2 hlc2 hg2 hno2 hb2'; have hblk2 : w2.heap[g]? = some (.cells cs t (0, 0)) := ((hb1.trans hb2').block g hlt).trans hblk; have k0 : w2.cell? ⟨g, o, none⟩ = some (.slice A l.length c) := (blk_cell hblk2 o).trans hcell; have f0 := blk_free hblk2 o)
  go_end0
  have hgr : w.grownBy (w2.setCell ⟨g, o, none⟩ (.slice A2 n.length c2)) (some g) := grown_trans (grown_of_below (hb1.trans hb2') _) (grown_set _ _ _ _)
  refine ⟨A2, c2, rfl, blk_set hblk2 o _, hlc2, ?_, hgr⟩
  exact (OwnB.rvb hown2).keep fun k hk hge => blk_other (by have h0 : w.heap.size ≤ k := hge; omega)
set_option maxRecDepth 100000 in
set_option maxHeartbeats 400000 in
theorem applyT_any (w : World) (g o : Nat) (cs : Array Value) (t : TypeId) (hblk : w.heap[g]? = some (.cells cs t (0, 0))) (u : Value) (hcell : cs[o]? = some u)
    (B : Option Addr) (d : Nat) (m : List UInt8) (hs : RVb w (· ≠ g) B (m.map bv)) (hlen : m.length ≤ 100000000000000) :
    Calls Try.prog 60 #[.pointer (some ⟨g, o, none⟩), .slice B m.length d, .bool true] w (ApplyPost w g o cs t m) := by
  have c0 : w.cell? ⟨g, o, none⟩ = some u := (blk_cell hblk o).trans hcell
  have f0 := blk_free hblk o
  have hlt := blk_lt hblk
  obtain ⟨w0, hw0⟩ : ∃ w0, w.setCell ⟨g, o, none⟩ (.slice none 0 0) = w0 := ⟨_, rfl⟩
  have hblk0 : w0.heap[g]? = some (.cells (cs.setIfInBounds o (.slice none 0 0)) t (0, 0)) := hw0 ▸ blk_set hblk o _
  have hg0 : w.grownBy w0 (some g) := hw0 ▸ grown_set w g o _
  have hsz0 : w0.heap.size = w.heap.size := by rw [← hw0]; simp [World.setCell]
  have hs0 : RB w0 B m := (hs.keep fun k hk hne => hg0.block k hk (by simpa using hne)).rv.rb
  have ho : o < cs.size := (Array.getElem?_eq_some_iff.1 hcell).1
  have hcell0 : (cs.setIfInBounds o (.slice none 0 0))[o]? = some (.slice none 0 0) := by simp [ho]
  have d0 : w0.cell? ⟨g, o, none⟩ = some (.slice none 0 0) := (blk_cell hblk0 o).trans hcell0
  have Hw0 := Lib.hid hw0; clear hw0
  go_enter Try.func60, Try.ntmps60
  go_wp2_with fail
  rw [Hw0.out]
  refine (clone_any none 0 w0 [] (by simp) RB.none_).mono ?_
  rintro e w1 ⟨v1, rfl, hown1, hb1⟩
  go_wp2_with (at_builtin; refine wpList_apB (by rfl) (.tmp 15) (.tmp 16) rfl w0.heap.size v1 [] rfl hown1 B m.length d m rfl rfl (hs0.below hb1) m (List.nil_append m) (by omega) hb1.size ?_; intro A2 c2 w2 hown2 hr2 hlc2 hg2 hno2 hb2'; have hblk2 : w2.heap[g]? = some (.cells (cs.setIfInBounds o (.slice none 0 0)) t (0, 0)) := ((hb1.trans hb2').block g (by omega)).trans hblk0; have k0 : w2.cell? ⟨g, o, none⟩ = some (.slice none 0 0) := (blk_cell hblk2 o).trans hcell0; have g0 := blk_free hblk2 o)
  go_end0
  have hgr : w.grownBy (w2.setCell ⟨g, o, none⟩ (.slice A2 m.length c2)) (some g) := grown_trans (grown_trans hg0 (grown_of_below (hb1.trans hb2') _)) (grown_set _ _ _ _)
  have hb := blk_set hblk2 o (.slice A2 m.length c2)
  rw [Array.setIfInBounds_setIfInBounds] at hb
  refine ⟨A2, c2, rfl, hb, hlc2, ?_, hgr⟩
  have h2 := (OwnB.rvb hown2)
  rw [hsz0] at h2
  exact h2.keep fun k hk hge => blk_other (by have h0 : w.heap.size ≤ k := hge; omega)

structure TSide where
  b : List UInt8
  loose : List UInt8
  swap : Bool
  wet : Bool
  lost : Bool
structure TTape where
  s0 : TSide
  s1 : TSide
  fuse : Int
  down : Bool
def tapeCells (v0 u0 v1 u1 : Value) (t : TTape) : Array Value :=
  #[v0, u0, .bool t.s0.swap, .bool t.s0.wet, .bool t.s0.lost, v1, u1, .bool t.s1.swap, .bool t.s1.wet, .bool t.s1.lost, .int .i64 t.fuse, .bool t.down]
/-- Block g is this tape; its bytes lie in blocks of which P holds. -/
def TapeAt (w : World) (g : Nat) (P : Nat → Prop) (t : TTape) : Prop :=
  ∃ v0 u0 v1 u1, w.heap[g]? = some (.cells (tapeCells v0 u0 v1 u1 t) 85 (0, 0)) ∧ TSlice w P v0 t.s0.b ∧ TSlice w P u0 t.s0.loose ∧ TSlice w P v1 t.s1.b ∧ TSlice w P u1 t.s1.loose
def TSide.put (s : TSide) (b : List UInt8) (sw : Bool) : TSide := { s with b := (if sw then [] else s.b) ++ b }
def TSide.spill (s : TSide) (b : List UInt8) (sw : Bool) : TSide := { s with loose := b, swap := sw, wet := true }

def one0T (t : TTape) (b : List UInt8) (sw : Bool) : TTape × Bool :=
  if t.fuse = 0 then ({ t with s0 := t.s0.spill b sw, down := true }, false)
  else ({ t with s0 := t.s0.put b sw, fuse := if 0 < t.fuse then t.fuse - 1 else t.fuse }, true)

def one1T (t : TTape) (b : List UInt8) (sw : Bool) : TTape × Bool :=
  if t.fuse = 0 then ({ t with s1 := t.s1.spill b sw, down := true }, false)
  else ({ t with s1 := t.s1.put b sw, fuse := if 0 < t.fuse then t.fuse - 1 else t.fuse }, true)

theorem TSlice.form {w : World} {P : Nat → Prop} {v : Value} {l : List UInt8} (h : TSlice w P v l) : ∃ A c, v = .slice A l.length c ∧ l.length ≤ c ∧ RB w A l := by
  obtain ⟨A, c, e, h1, h2⟩ := h
  exact ⟨A, c, e, h1, h2.rv.rb⟩
theorem OwnB.tslice {w : World} {base : Nat} {v : Value} {l : List UInt8} (h : OwnB w base v l) : TSlice w (base ≤ ·) v l := by
  obtain ⟨A, c, rfl, hl, _, _⟩ := h.form
  exact ⟨A, c, rfl, hl, OwnB.rvb h⟩

set_option maxRecDepth 100000 in
set_option maxHeartbeats 1000000 in
theorem spill0_any (w : World) (g : Nat) (P : Nat → Prop) (t : TTape) (h : TapeAt w g P t) (hP : ∀ k, w.heap.size ≤ k → P k) (hPg : ∀ k, P k → k ≠ g) (hf : t.fuse = 0)
    (B : Option Addr) (d : Nat) (b : List UInt8) (hs : RB w B b) (hlen : b.length ≤ 100000000000000) (sw : Bool) :
    Calls Try.prog 77 #[.pointer (some ⟨g, 0, none⟩), .pointer (some ⟨g, 0, none⟩), .slice B b.length d, .bool sw] w fun e w' =>
      e = .returned (.bool false) ∧ TapeAt w' g P { t with s0 := t.s0.spill b sw, down := true } ∧ w.grownBy w' (some g) := by
  obtain ⟨v0, u0, v1, u1, hblk, h0, h1, h2, h3⟩ := h
  have c10 : w.cell? ⟨g, 10, none⟩ = some (.int .i64 t.fuse) := blk_cell hblk 10
  rw [hf] at c10
  go_enter Try.func77, Try.ntmps77
  go_wp2_with fail
  refine (clone_any B d w b (by omega) hs).mono ?_
  rintro e w1 ⟨vb, rfl, hown, hb1⟩
  have hblk1 := (hb1.block g (blk_lt hblk)).trans hblk
  obtain ⟨Ab, cb, rfl, hlb, _, _⟩ := hown.form
  have d11 : w1.cell? ⟨g, 11, none⟩ = some (.bool t.down) := blk_cell hblk1 11
  have d1 : w1.cell? ⟨g, 1, none⟩ = some u0 := blk_cell hblk1 1
  have d2 : w1.cell? ⟨g, 2, none⟩ = some (.bool t.s0.swap) := blk_cell hblk1 2
  have d3 : w1.cell? ⟨g, 3, none⟩ = some (.bool t.s0.wet) := blk_cell hblk1 3
  have e11 := blk_free hblk1 11
  have e1 := blk_free hblk1 1
  have e2 := blk_free hblk1 2
  have e3 := blk_free hblk1 3
  go_wp2_with fail
  go_ret
  have k1 := blk_set hblk1 11 (.bool true)
  have k2 := blk_set k1 1 (.slice Ab b.length cb)
  have k3 := blk_set k2 2 (.bool sw)
  have k4 := blk_set k3 3 (.bool true)
  have gw : w1.grownBy ((((w1.setCell ⟨g, 11, none⟩ (.bool true)).setCell ⟨g, 1, none⟩ (.slice Ab b.length cb)).setCell ⟨g, 2, none⟩ (.bool sw)).setCell ⟨g, 3, none⟩ (.bool true)) (some g) :=
    grown_trans (grown_trans (grown_trans (grown_set _ _ _ _) (grown_set _ _ _ _)) (grown_set _ _ _ _)) (grown_set _ _ _ _)
  generalize (((w1.setCell ⟨g, 11, none⟩ (.bool true)).setCell ⟨g, 1, none⟩ (.slice Ab b.length cb)).setCell ⟨g, 2, none⟩ (.bool sw)).setCell ⟨g, 3, none⟩ (.bool true) = w2 at k4 gw ⊢
  have gr : w.grownBy w2 (some g) := grown_trans (grown_of_below hb1 _) gw
  have hk : ∀ k, k < w.heap.size → P k → w2.heap[k]? = w.heap[k]? := fun k hk hp => gr.block k hk (by simpa using hPg k hp)
  have hnew : TSlice w2 P (.slice Ab b.length cb) b := ((OwnB.tslice hown).imp fun k _ h => hP k h).keep fun k hk hp => gw.block k hk (by simpa using hPg k hp)
  exact ⟨rfl, ⟨_, _, _, _, k4, h0.keep hk, hnew, h2.keep hk, h3.keep hk⟩, gr⟩
set_option maxRecDepth 100000 in
set_option maxHeartbeats 1000000 in
theorem put0_any (w : World) (g : Nat) (P : Nat → Prop) (t : TTape) (h : TapeAt w g P t) (hP : ∀ k, w.heap.size ≤ k → P k) (hPg : ∀ k, P k → k ≠ g) (hf : t.fuse ≠ 0) (hf63 : t.fuse ≤ 9223372036854775807)
    (B : Option Addr) (d : Nat) (b : List UInt8) (hs : RVb w (· ≠ g) B (b.map bv)) (hlen : b.length + t.s0.b.length ≤ 100000000000000) (sw : Bool) :
    Calls Try.prog 77 #[.pointer (some ⟨g, 0, none⟩), .pointer (some ⟨g, 0, none⟩), .slice B b.length d, .bool sw] w fun e w' =>
      e = .returned (.bool true) ∧ TapeAt w' g P { t with s0 := t.s0.put b sw, fuse := if 0 < t.fuse then t.fuse - 1 else t.fuse } ∧ w.grownBy w' (some g) := by
  obtain ⟨v0, u0, v1, u1, hblk, h0, h1, h2, h3⟩ := h
  obtain ⟨fu, hfu⟩ : ∃ fu, t.fuse = fu := ⟨_, rfl⟩
  have c10 : w.cell? ⟨g, 10, none⟩ = some (.int .i64 t.fuse) := blk_cell hblk 10
  have e10 := blk_free hblk 10
  rw [hfu] at c10 hf hf63
  have hlt := blk_lt hblk
  obtain ⟨w1, nf, hw1e, hnf, hblk1, hg1⟩ : ∃ (w1 : World) (nf : Int), (if 0 < fu then w.setCell ⟨g, 10, none⟩ (.int .i64 (fu - 1)) else w) = w1 ∧ (if 0 < fu then fu - 1 else fu) = nf ∧
      w1.heap[g]? = some (.cells (tapeCells v0 u0 v1 u1 { t with fuse := nf }) 85 (0, 0)) ∧ w.grownBy w1 (some g) := by
    by_cases hp : 0 < fu
    · refine ⟨_, _, if_pos hp, if_pos hp, blk_set hblk 10 _, grown_set _ _ _ _⟩
    · refine ⟨_, _, if_neg hp, if_neg hp, ?_, grown_of_below (Below.refl _ _) _⟩
      rw [hblk, ← hfu]
  have eif : (if 0 < t.fuse then t.fuse - 1 else t.fuse) = nf := by rw [hfu]; exact hnf
  rw [eif]
  clear eif
  have hs1 := hs.keep fun k hk hne => hg1.block k hk (by simpa using hne)
  have hk1 : ∀ k, k < w.heap.size → P k → w1.heap[k]? = w.heap[k]? := fun k hk hp => hg1.block k hk (by simpa using hPg k hp)
  have h01 := h0.keep hk1; have h11 := h1.keep hk1; have h21 := h2.keep hk1; have h31 := h3.keep hk1
  have hap : Calls Try.prog 60 #[.pointer (some ⟨g, 0, none⟩), .slice B b.length d, .bool sw] w1 (ApplyPost w1 g 0 (tapeCells v0 u0 v1 u1 { t with fuse := nf }) 85 ((if sw then [] else t.s0.b) ++ b)) := by
    cases sw with
    | true => exact applyT_any w1 g 0 _ _ hblk1 v0 rfl B d b hs1 (by omega)
    | false =>
      obtain ⟨A, c, e, hl, hr⟩ := h01
      subst e
      exact applyF_any w1 g 0 _ _ hblk1 A c t.s0.b rfl hr.rv.rb B d b hs1.rv.rb _ rfl (by simp; omega)
  have Hap := Lib.hid hap; clear hap
  have Hw1 := Lib.hid hw1e; have Hblk1 := Lib.hid hblk1; have Hnf := Lib.hid hnf; have Hfu := Lib.hid hfu
  have Hhblk := Lib.hid hblk
  clear hw1e hblk1 hnf hfu hblk
  by_cases hp : 0 < fu
  · have hw1 := Hw1.out
    rw [if_pos hp] at hw1
    have Hw1' := Lib.hid hw1; clear hw1
    have hwr : IntKind.i64.wrap (fu - 1) = fu - 1 := IntWalk.i64_in _ (by omega)
    go_enter Try.func77, Try.ntmps77
    go_wp2_with fail
    rw [Hw1'.out]
    refine Hap.out.mono ?_
    rintro e w2 ⟨A, c, rfl, hb2, hlc, hr2, hg2⟩
    go_wp2_with fail
    go_ret
    have hk2 : ∀ k, k < w1.heap.size → P k → w2.heap[k]? = w1.heap[k]? := fun k hk hp => hg2.block k hk (by simpa using hPg k hp)
    have hnew : TSlice w2 P (.slice A ((if sw then [] else t.s0.b) ++ b).length c) (t.s0.put b sw).b := ⟨A, c, rfl, hlc, hr2.imp fun k _ h => hP k (Nat.le_trans hg1.size h)⟩
    exact ⟨rfl, ⟨_, _, _, _, hb2, hnew, h11.keep hk2, h21.keep hk2, h31.keep hk2⟩, grown_trans hg1 hg2⟩
  · have hw1 := Hw1.out
    rw [if_neg hp] at hw1
    subst hw1
    go_enter Try.func77, Try.ntmps77
    go_wp2_with fail
    refine Hap.out.mono ?_
    rintro e w2 ⟨A, c, rfl, hb2, hlc, hr2, hg2⟩
    go_wp2_with fail
    go_ret
    have hk2 : ∀ k, k < w.heap.size → P k → w2.heap[k]? = w.heap[k]? := fun k hk hp => hg2.block k hk (by simpa using hPg k hp)
    have hnew : TSlice w2 P (.slice A ((if sw then [] else t.s0.b) ++ b).length c) (t.s0.put b sw).b := ⟨A, c, rfl, hlc, hr2.imp fun k _ h => hP k (Nat.le_trans hg1.size h)⟩
    exact ⟨rfl, ⟨_, _, _, _, hb2, hnew, h11.keep hk2, h21.keep hk2, h31.keep hk2⟩, grown_trans hg1 hg2⟩

set_option maxRecDepth 100000 in
set_option maxHeartbeats 1000000 in
theorem spill1_any (w : World) (g : Nat) (P : Nat → Prop) (t : TTape) (h : TapeAt w g P t) (hP : ∀ k, w.heap.size ≤ k → P k) (hPg : ∀ k, P k → k ≠ g) (hf : t.fuse = 0)
    (B : Option Addr) (d : Nat) (b : List UInt8) (hs : RB w B b) (hlen : b.length ≤ 100000000000000) (sw : Bool) :
    Calls Try.prog 77 #[.pointer (some ⟨g, 0, none⟩), .pointer (some ⟨g, 5, none⟩), .slice B b.length d, .bool sw] w fun e w' =>
      e = .returned (.bool false) ∧ TapeAt w' g P { t with s1 := t.s1.spill b sw, down := true } ∧ w.grownBy w' (some g) := by
  obtain ⟨v0, u0, v1, u1, hblk, h0, h1, h2, h3⟩ := h
  have c10 : w.cell? ⟨g, 10, none⟩ = some (.int .i64 t.fuse) := blk_cell hblk 10
  rw [hf] at c10
  go_enter Try.func77, Try.ntmps77
  go_wp2_with fail
  refine (clone_any B d w b (by omega) hs).mono ?_
  rintro e w1 ⟨vb, rfl, hown, hb1⟩
  have hblk1 := (hb1.block g (blk_lt hblk)).trans hblk
  obtain ⟨Ab, cb, rfl, hlb, _, _⟩ := hown.form
  have d11 : w1.cell? ⟨g, 11, none⟩ = some (.bool t.down) := blk_cell hblk1 11
  have d1 : w1.cell? ⟨g, 6, none⟩ = some u1 := blk_cell hblk1 6
  have d2 : w1.cell? ⟨g, 7, none⟩ = some (.bool t.s1.swap) := blk_cell hblk1 7
  have d3 : w1.cell? ⟨g, 8, none⟩ = some (.bool t.s1.wet) := blk_cell hblk1 8
  have e11 := blk_free hblk1 11
  have e1 := blk_free hblk1 6
  have e2 := blk_free hblk1 7
  have e3 := blk_free hblk1 8
  go_wp2_with fail
  go_ret
  have k1 := blk_set hblk1 11 (.bool true)
  have k2 := blk_set k1 6 (.slice Ab b.length cb)
  have k3 := blk_set k2 7 (.bool sw)
  have k4 := blk_set k3 8 (.bool true)
  have gw : w1.grownBy ((((w1.setCell ⟨g, 11, none⟩ (.bool true)).setCell ⟨g, 6, none⟩ (.slice Ab b.length cb)).setCell ⟨g, 7, none⟩ (.bool sw)).setCell ⟨g, 8, none⟩ (.bool true)) (some g) :=
    grown_trans (grown_trans (grown_trans (grown_set _ _ _ _) (grown_set _ _ _ _)) (grown_set _ _ _ _)) (grown_set _ _ _ _)
  generalize (((w1.setCell ⟨g, 11, none⟩ (.bool true)).setCell ⟨g, 6, none⟩ (.slice Ab b.length cb)).setCell ⟨g, 7, none⟩ (.bool sw)).setCell ⟨g, 8, none⟩ (.bool true) = w2 at k4 gw ⊢
  have gr : w.grownBy w2 (some g) := grown_trans (grown_of_below hb1 _) gw
  have hk : ∀ k, k < w.heap.size → P k → w2.heap[k]? = w.heap[k]? := fun k hk hp => gr.block k hk (by simpa using hPg k hp)
  have hnew : TSlice w2 P (.slice Ab b.length cb) b := ((OwnB.tslice hown).imp fun k _ h => hP k h).keep fun k hk hp => gw.block k hk (by simpa using hPg k hp)
  exact ⟨rfl, ⟨_, _, _, _, k4, h0.keep hk, h1.keep hk, h2.keep hk, hnew⟩, gr⟩
set_option maxRecDepth 100000 in
set_option maxHeartbeats 1000000 in
theorem put1_any (w : World) (g : Nat) (P : Nat → Prop) (t : TTape) (h : TapeAt w g P t) (hP : ∀ k, w.heap.size ≤ k → P k) (hPg : ∀ k, P k → k ≠ g) (hf : t.fuse ≠ 0) (hf63 : t.fuse ≤ 9223372036854775807)
    (B : Option Addr) (d : Nat) (b : List UInt8) (hs : RVb w (· ≠ g) B (b.map bv)) (hlen : b.length + t.s1.b.length ≤ 100000000000000) (sw : Bool) :
    Calls Try.prog 77 #[.pointer (some ⟨g, 0, none⟩), .pointer (some ⟨g, 5, none⟩), .slice B b.length d, .bool sw] w fun e w' =>
      e = .returned (.bool true) ∧ TapeAt w' g P { t with s1 := t.s1.put b sw, fuse := if 0 < t.fuse then t.fuse - 1 else t.fuse } ∧ w.grownBy w' (some g) := by
  obtain ⟨v0, u0, v1, u1, hblk, h0, h1, h2, h3⟩ := h
  obtain ⟨fu, hfu⟩ : ∃ fu, t.fuse = fu := ⟨_, rfl⟩
  have c10 : w.cell? ⟨g, 10, none⟩ = some (.int .i64 t.fuse) := blk_cell hblk 10
  have e10 := blk_free hblk 10
  rw [hfu] at c10 hf hf63
  have hlt := blk_lt hblk
  obtain ⟨w1, nf, hw1e, hnf, hblk1, hg1⟩ : ∃ (w1 : World) (nf : Int), (if 0 < fu then w.setCell ⟨g, 10, none⟩ (.int .i64 (fu - 1)) else w) = w1 ∧ (if 0 < fu then fu - 1 else fu) = nf ∧
      w1.heap[g]? = some (.cells (tapeCells v0 u0 v1 u1 { t with fuse := nf }) 85 (0, 0)) ∧ w.grownBy w1 (some g) := by
    by_cases hp : 0 < fu
    · refine ⟨_, _, if_pos hp, if_pos hp, blk_set hblk 10 _, grown_set _ _ _ _⟩
    · refine ⟨_, _, if_neg hp, if_neg hp, ?_, grown_of_below (Below.refl _ _) _⟩
      rw [hblk, ← hfu]
  have eif : (if 0 < t.fuse then t.fuse - 1 else t.fuse) = nf := by rw [hfu]; exact hnf
  rw [eif]
  clear eif
  have hs1 := hs.keep fun k hk hne => hg1.block k hk (by simpa using hne)
  have hk1 : ∀ k, k < w.heap.size → P k → w1.heap[k]? = w.heap[k]? := fun k hk hp => hg1.block k hk (by simpa using hPg k hp)
  have h01 := h0.keep hk1; have h11 := h1.keep hk1; have h21 := h2.keep hk1; have h31 := h3.keep hk1
  have hap : Calls Try.prog 60 #[.pointer (some ⟨g, 5, none⟩), .slice B b.length d, .bool sw] w1 (ApplyPost w1 g 5 (tapeCells v0 u0 v1 u1 { t with fuse := nf }) 85 ((if sw then [] else t.s1.b) ++ b)) := by
    cases sw with
    | true => exact applyT_any w1 g 5 _ _ hblk1 v1 rfl B d b hs1 (by omega)
    | false =>
      obtain ⟨A, c, e, hl, hr⟩ := h21
      subst e
      exact applyF_any w1 g 5 _ _ hblk1 A c t.s1.b rfl hr.rv.rb B d b hs1.rv.rb _ rfl (by simp; omega)
  have Hap := Lib.hid hap; clear hap
  have Hw1 := Lib.hid hw1e; have Hblk1 := Lib.hid hblk1; have Hnf := Lib.hid hnf; have Hfu := Lib.hid hfu
  have Hhblk := Lib.hid hblk
  clear hw1e hblk1 hnf hfu hblk
  by_cases hp : 0 < fu
  · have hw1 := Hw1.out
    rw [if_pos hp] at hw1
    have Hw1' := Lib.hid hw1; clear hw1
    have hwr : IntKind.i64.wrap (fu - 1) = fu - 1 := IntWalk.i64_in _ (by omega)
    go_enter Try.func77, Try.ntmps77
    go_wp2_with fail
    rw [Hw1'.out]
    refine Hap.out.mono ?_
    rintro e w2 ⟨A, c, rfl, hb2, hlc, hr2, hg2⟩
    go_wp2_with fail
    go_ret
    have hk2 : ∀ k, k < w1.heap.size → P k → w2.heap[k]? = w1.heap[k]? := fun k hk hp => hg2.block k hk (by simpa using hPg k hp)
    have hnew : TSlice w2 P (.slice A ((if sw then [] else t.s1.b) ++ b).length c) (t.s1.put b sw).b := ⟨A, c, rfl, hlc, hr2.imp fun k _ h => hP k (Nat.le_trans hg1.size h)⟩
    exact ⟨rfl, ⟨_, _, _, _, hb2, h01.keep hk2, h11.keep hk2, hnew, h31.keep hk2⟩, grown_trans hg1 hg2⟩
  · have hw1 := Hw1.out
    rw [if_neg hp] at hw1
    subst hw1
    go_enter Try.func77, Try.ntmps77
    go_wp2_with fail
    refine Hap.out.mono ?_
    rintro e w2 ⟨A, c, rfl, hb2, hlc, hr2, hg2⟩
    go_wp2_with fail
    go_ret
    have hk2 : ∀ k, k < w.heap.size → P k → w2.heap[k]? = w.heap[k]? := fun k hk hp => hg2.block k hk (by simpa using hPg k hp)
    have hnew : TSlice w2 P (.slice A ((if sw then [] else t.s1.b) ++ b).length c) (t.s1.put b sw).b := ⟨A, c, rfl, hlc, hr2.imp fun k _ h => hP k (Nat.le_trans hg1.size h)⟩
    exact ⟨rfl, ⟨_, _, _, _, hb2, h01.keep hk2, h11.keep hk2, hnew, h31.keep hk2⟩, grown_trans hg1 hg2⟩

def side0T (t : TTape) (b : List UInt8) (sw : Bool) : TTape × Bool := if t.s0.lost then (t, true) else one0T t b sw
def side1T (t : TTape) (b : List UInt8) (sw : Bool) : TTape × Bool := if t.s1.lost then (t, true) else one1T t b sw
/-- A write on both sides, and its answer. -/
def writeT (t : TTape) (b : List UInt8) (sw : Bool) : TTape × Int :=
  if t.down then (t, 9)
  else if t.s0.lost && t.s1.lost then (t, 8)
  else if (side0T t b sw).2 = false then ((side0T t b sw).1, 9)
  else if (side1T (side0T t b sw).1 b sw).2 = false then ((side1T (side0T t b sw).1 b sw).1, 9)
  else ((side1T (side0T t b sw).1 b sw).1, 0)
def WritePost (w : World) (g : Nat) (P : Nat → Prop) (r : TTape × Int) (e : Ending) (w' : World) : Prop := e = .returned (.int .i64 r.2) ∧ TapeAt w' g P r.1 ∧ w.grownBy w' (some g)
theorem TapeAt.cell11 {w : World} {g : Nat} {P : Nat → Prop} {t : TTape} (h : TapeAt w g P t) : w.cell? ⟨g, 11, none⟩ = some (.bool t.down) := by
  obtain ⟨_, _, _, _, h, _⟩ := h
  exact blk_cell h 11
theorem TapeAt.cell4 {w : World} {g : Nat} {P : Nat → Prop} {t : TTape} (h : TapeAt w g P t) : w.cell? ⟨g, 4, none⟩ = some (.bool t.s0.lost) := by
  obtain ⟨_, _, _, _, h, _⟩ := h
  exact blk_cell h 4
theorem TapeAt.cell9 {w : World} {g : Nat} {P : Nat → Prop} {t : TTape} (h : TapeAt w g P t) : w.cell? ⟨g, 9, none⟩ = some (.bool t.s1.lost) := by
  obtain ⟨_, _, _, _, h, _⟩ := h
  exact blk_cell h 9
theorem side0T_bd (t : TTape) (b : List UInt8) (sw : Bool) : (side0T t b sw).1.s1 = t.s1 ∧ (side0T t b sw).1.fuse ≤ max t.fuse 0 := by
  unfold side0T one0T
  split
  · exact ⟨rfl, by simp; omega⟩
  · split
    · exact ⟨rfl, by simp; omega⟩
    · refine ⟨rfl, ?_⟩
      show (if 0 < t.fuse then t.fuse - 1 else t.fuse) ≤ _
      split <;> omega
def StepAt (t : TTape) (b : List UInt8) (sw : Bool) : Nat → TTape → Prop
  | 0, tr => tr = t
  | 1, tr => tr = (side0T t b sw).1 ∧ (side0T t b sw).2 = true
  | 2, tr => tr = (side1T (side0T t b sw).1 b sw).1 ∧ (side0T t b sw).2 = true ∧ (side1T (side0T t b sw).1 b sw).2 = true
  | _, _ => False
set_option maxRecDepth 100000 in
set_option maxHeartbeats 1000000 in
theorem write_any (w : World) (g : Nat) (P : Nat → Prop) (t : TTape) (h : TapeAt w g P t) (hP : ∀ k, w.heap.size ≤ k → P k) (hPg : ∀ k, P k → k ≠ g) (hf63 : t.fuse ≤ 9223372036854775807)
    (B : Option Addr) (d : Nat) (b : List UInt8) (hs : RVb w (· ≠ g) B (b.map bv)) (hlen0 : b.length + t.s0.b.length ≤ 100000000000000) (hlen1 : b.length + t.s1.b.length ≤ 100000000000000) (sw : Bool) :
    Calls Try.prog 67 #[.pointer (some ⟨g, 0, none⟩), .slice B b.length d, .bool sw] w (WritePost w g P (writeT t b sw)) := by
  have hbd := side0T_bd t b sw
  obtain ⟨res, hres⟩ : ∃ res, writeT t b sw = res := ⟨_, rfl⟩
  rw [hres]
  have c11 := h.cell11
  have c4 := h.cell4
  have c9 := h.cell9
  cases hd : t.down with
  | true =>
    have e : res = (t, 9) := by rw [← hres]; unfold writeT; rw [hd]; rfl
    rw [hd] at c11
    rw [e]
    clear e hres
    go_enter Try.func67, Try.ntmps67
    go_wp2_with fail
    go_ret
    exact ⟨rfl, h, grown_of_below (Below.refl _ _) _⟩
  | false =>
    rw [hd] at c11
    cases hl : (t.s0.lost && t.s1.lost) with
    | true =>
      have hl0 : t.s0.lost = true := by revert hl; cases t.s0.lost <;> simp
      have hl1 : t.s1.lost = true := by revert hl; cases t.s1.lost <;> simp
      have e : res = (t, 8) := by rw [← hres]; unfold writeT; rw [hd, hl]; rfl
      rw [hl0] at c4
      rw [hl1] at c9
      rw [e]
      clear e hres
      go_enter Try.func67, Try.ntmps67
      go_wp2_with fail
      go_ret
      exact ⟨rfl, h, grown_of_below (Below.refl _ _) _⟩
    | false =>
      have e : res = if (side0T t b sw).2 = false then ((side0T t b sw).1, 9)
          else if (side1T (side0T t b sw).1 b sw).2 = false then ((side1T (side0T t b sw).1 b sw).1, 9)
          else ((side1T (side0T t b sw).1 b sw).1, 0) := by rw [← hres]; unfold writeT; rw [hd, hl]; rfl
      have He := Lib.hid e
      clear e hres
      have hgo : ∃ l0 l1, t.s0.lost = l0 ∧ t.s1.lost = l1 ∧ (l0 && l1) = false := ⟨_, _, rfl, rfl, hl⟩
      obtain ⟨l0, l1, hl0, hl1, hl01⟩ := hgo
      rw [hl0] at c4
      rw [hl1] at c9
      have Hl0 := Lib.hid hl0; have Hl1 := Lib.hid hl1; have Hhd := Lib.hid hd; have Hbd := Lib.hid hbd
      clear hl0 hl1 hl hd hbd
      rcases l0 with _ | _ <;> rcases l1 with _ | _
      case true.true => exact absurd hl01 (by decide)
      all_goals
        clear hl01
        go_enter Try.func67, Try.ntmps67
        go_wp2_with fail
        go_loopw [32] (fun i wr => ∃ (n : Nat) (tr : TTape), n ≤ 2 ∧ i = .int .i64 n ∧ TapeAt wr g P tr ∧ w.grownBy wr (some g) ∧ Hid (StepAt t b sw n tr)) (fun i _ => 2 - (intOf i).toNat)
        case atStart => exact ⟨0, t, by omega, rfl, h, grown_of_below (Below.refl _ _) _, rfl⟩
        case round =>
          obtain ⟨n, tr, hn2, rfl, htr, hgr, hst⟩ := hrel
          have hsr := hgr.size
          have hPr : ∀ k, wr.heap.size ≤ k → P k := fun k hk => hP k (Nat.le_trans hsr hk)
          have hbr := hs.keep fun k hk hne => hgr.block k hk (by simpa using hne)
          have r4 := htr.cell4
          have r9 := htr.cell9
          have hn3 : n = 0 ∨ n = 1 ∨ n = 2 := by omega
          rcases hn3 with rfl | rfl | rfl
          · obtain rfl : tr = t := hst.out
            cases hq : tr.s0.lost with
            | true =>
              rw [hq] at r4
              have hsv : side0T tr b sw = (tr, true) := by unfold side0T; rw [hq]; rfl
              have Hsv := Lib.hid hsv; clear hsv hq
              go_wp2_with fail
              go_roundw
              case rel =>
                have hsv := Hsv.out
                exact ⟨1, (side0T tr b sw).1, by omega, by go_num, by rw [hsv]; exact htr, hgr, by rw [hsv]; exact ⟨by rw [hsv], by rw [hsv]⟩⟩
              case measure => simp [intOf]
            | false =>
              rw [hq] at r4
              by_cases hf : tr.fuse = 0
              · have hsv : side0T tr b sw = ({ tr with s0 := tr.s0.spill b sw, down := true }, false) := by unfold side0T one0T; rw [hq, if_pos hf]; rfl
                have hon := spill0_any wr g P tr htr hPr hPg hf B d b hbr.rv.rb (by omega) sw
                have er : res = ({ tr with s0 := tr.s0.spill b sw, down := true }, 9) := He.out.trans (by rw [if_pos (by rw [hsv]), hsv])
                rw [er]
                have Hon := Lib.hid hon; clear hon hsv hq er
                go_wp2_with fail
                refine Hon.out.mono ?_
                rintro e w2 ⟨rfl, ht2, hg2⟩
                go_wp2_with fail
                go_ret
                exact ⟨rfl, ht2, grown_trans hgr hg2⟩
              · obtain ⟨Y, hY⟩ : ∃ Y, Y = { tr with s0 := tr.s0.put b sw, fuse := if 0 < tr.fuse then tr.fuse - 1 else tr.fuse } := ⟨_, rfl⟩
                have hsv : side0T tr b sw = (Y, true) := by unfold side0T one0T; rw [hq, if_neg hf, hY]; rfl
                have hon := put0_any wr g P tr htr hPr hPg hf hf63 B d b hbr hlen0 sw
                rw [← hY] at hon
                have Hon := Lib.hid hon; have Hsv := Lib.hid hsv; clear hon hsv hq hY
                go_wp2_with fail
                refine Hon.out.mono ?_
                rintro e w2 ⟨rfl, ht2, hg2⟩
                go_wp2_with fail
                go_roundw
                case rel =>
                  have hsv := Hsv.out
                  exact ⟨1, (side0T tr b sw).1, by omega, by go_num, by rw [hsv]; exact ht2, grown_trans hgr hg2, by rw [hsv]; exact ⟨by rw [hsv], by rw [hsv]⟩⟩
                case measure => simp [intOf]
          · obtain ⟨htr2, hx⟩ := hst.out
            cases hq : tr.s1.lost with
            | true =>
              rw [hq] at r9
              have hsv : side1T tr b sw = (tr, true) := by unfold side1T; rw [hq]; rfl
              have Hsv := Lib.hid hsv; clear hsv hq
              go_wp2_with fail
              go_roundw
              case rel =>
                have hsv := Hsv.out
                exact ⟨2, (side1T tr b sw).1, by omega, by go_num, by rw [hsv]; exact htr, hgr, by subst htr2; exact ⟨rfl, hx, by rw [hsv]⟩⟩
              case measure => simp [intOf]
            | false =>
              rw [hq] at r9
              by_cases hf : tr.fuse = 0
              · have hsv : side1T tr b sw = ({ tr with s1 := tr.s1.spill b sw, down := true }, false) := by unfold side1T one1T; rw [hq, if_pos hf]; rfl
                have hon := spill1_any wr g P tr htr hPr hPg hf B d b hbr.rv.rb (by omega) sw
                have er : res = ({ tr with s1 := tr.s1.spill b sw, down := true }, 9) := He.out.trans (by subst htr2; rw [if_neg (by rw [hx]; decide), if_pos (by rw [hsv]), hsv])
                rw [er]
                have Hon := Lib.hid hon; clear hon hsv hq er
                go_wp2_with fail
                refine Hon.out.mono ?_
                rintro e w2 ⟨rfl, ht2, hg2⟩
                go_wp2_with fail
                go_ret
                exact ⟨rfl, ht2, grown_trans hgr hg2⟩
              · obtain ⟨Y, hY⟩ : ∃ Y, Y = { tr with s1 := tr.s1.put b sw, fuse := if 0 < tr.fuse then tr.fuse - 1 else tr.fuse } := ⟨_, rfl⟩
                have hsv : side1T tr b sw = (Y, true) := by unfold side1T one1T; rw [hq, if_neg hf, hY]; rfl
                have hon := put1_any wr g P tr htr hPr hPg hf (by have := Hbd.out.2; rw [← htr2] at this; omega) B d b hbr (by have := Hbd.out.1; rw [← htr2] at this; rw [this]; exact hlen1) sw
                rw [← hY] at hon
                have Hon := Lib.hid hon; have Hsv := Lib.hid hsv; clear hon hsv hq hY
                go_wp2_with fail
                refine Hon.out.mono ?_
                rintro e w2 ⟨rfl, ht2, hg2⟩
                go_wp2_with fail
                go_roundw
                case rel =>
                  have hsv := Hsv.out
                  exact ⟨2, (side1T tr b sw).1, by omega, by go_num, by rw [hsv]; exact ht2, grown_trans hgr hg2, by subst htr2; exact ⟨rfl, hx, by rw [hsv]⟩⟩
                case measure => simp [intOf]
          · have hst2 := hst.out
            obtain ⟨rfl, hx, hy⟩ := hst2
            have er : res = ((side1T (side0T t b sw).1 b sw).1, 0) := by rw [He.out, if_neg (by rw [hx]; decide), if_neg (by rw [hy]; decide)]
            have Er := Lib.hid er; clear er hx hy
            go_wp2_with fail
            go_ret
            rw [Er.out]
            exact ⟨rfl, htr, hgr⟩
end Go.Proofs.Ytmleldgohfcdbaa
