/- ref09's writer: num, key, ints, stripes. -/
import Derived.Test.YtmleldgohfcdbaaRefEnc
import Derived.Deep.RegionLaw
namespace Go.Proofs.Ytmleldgohfcdbaa
set_option linter.unusedVariables false
set_option linter.unusedSimpArgs false
open Go.RowKit
abbrev OS := List UInt8 × Bool
def onum (v most : Int) (n : Nat) (s : OS) : OS := if badNum v most then (s.1, true) else (s.1 ++ be n (nat64 v), s.2)
def oloop {α : Type} (f : α → OS → OS) : List α → OS → OS
  | [], s => s
  | a :: r, s => if s.2 then s else oloop f r (f a s)
def okey (k : List UInt8) (s : OS) : OS := ((onum k.length 16 1 s).1 ++ k, (onum k.length 16 1 s).2)
def oints (l : List Int) (s : OS) : OS := oloop (fun v => onum v maxID 4) l (onum l.length 255 1 s)
def ostripe (st : PStripe) (s : OS) : OS := oints st.locs (onum st.epoch maxID 4 (onum st.id maxID 4 s))
def ostripes (l : List PStripe) (s : OS) : OS := oloop ostripe l (onum l.length 255 1 s)
def oobj (o : PObj) (s : OS) : OS := ostripes o.stripes (onum o.size maxID 4 (onum o.id maxID 4 (okey o.key s)))
theorem oloop_bad {α : Type} (f : α → OS → OS) (l : List α) (s : OS) (h : s.2 = true) : oloop f l s = s := by
  cases l with
  | nil => rfl
  | cons a r => unfold oloop; rw [if_pos h]
theorem oloop_drop {α : Type} (f : α → OS → OS) (l : List α) (k : Nat) (hk : k < l.length) (s : OS) (h : s.2 = false) : oloop f (l.drop k) s = oloop f (l.drop (k + 1)) (f l[k] s) := by
  rw [List.drop_eq_getElem_cons hk]
  show (if s.2 = true then s else oloop f (l.drop (k + 1)) (f l[k] s)) = _
  rw [if_neg (by rw [h]; decide)]
theorem onum_len (v most : Int) (n : Nat) (s : OS) : (onum v most n s).1.length ≤ s.1.length + n := by
  unfold onum
  split
  · simp
  · simp [be_length]
theorem onum_ok {v most : Int} {n : Nat} {s : OS} (h : (onum v most n s).2 = false) : badNum v most = false ∧ s.2 = false := by
  unfold onum at h
  split at h
  · cases h
  · rename_i hb
    exact ⟨by simpa using hb, h⟩
theorem okey_ok {k : List UInt8} {s : OS} (h : (okey k s).2 = false) : badNum k.length 16 = false ∧ s.2 = false := onum_ok h
theorem oloop_ok {α : Type} {f : α → OS → OS} (hf : ∀ a s, (f a s).2 = false → s.2 = false) : ∀ {l : List α} {s : OS}, (oloop f l s).2 = false → s.2 = false
  | [], _, h => h
  | a :: r, s, h => by
    cases hs : s.2 with
    | false => rfl
    | true => rw [oloop_bad f _ s hs, hs] at h; cases h
theorem oints_ok0 {l : List Int} {s : OS} (h : (oints l s).2 = false) : badNum l.length 255 = false ∧ s.2 = false := onum_ok (oloop_ok (fun _ _ h => (onum_ok h).2) h)
theorem ostripe_ok0 {st : PStripe} {s : OS} (h : (ostripe st s).2 = false) : s.2 = false := (onum_ok (onum_ok (oints_ok0 h).2).2).2
theorem ostripes_ok0 {l : List PStripe} {s : OS} (h : (ostripes l s).2 = false) : badNum l.length 255 = false ∧ s.2 = false := onum_ok (oloop_ok (fun _ _ h => ostripe_ok0 h) h)
theorem oobj_ok0 {o : PObj} {s : OS} (h : (oobj o s).2 = false) : s.2 = false := (okey_ok (onum_ok (onum_ok (ostripes_ok0 h).2).2).2).2
theorem badNum_len {n : Nat} {m : Nat} (h : badNum (n : Int) (m : Int) = false) : n ≤ m := by
  have : (0 : Int) ≤ n ∧ (n : Int) ≤ m := by unfold badNum at h; simp at h; omega
  omega
/-- How long the bytes become in a loop. -/
theorem oloop_len {α : Type} (f : α → OS → OS) (M : Nat) (hf : ∀ a s, (f a s).1.length ≤ s.1.length + M) : ∀ (l : List α) (s : OS), (oloop f l s).1.length ≤ s.1.length + l.length * M
  | [], s => by unfold oloop; omega
  | a :: r, s => by
    unfold oloop
    split
    · exact Nat.le_add_right _ _
    · have h1 := oloop_len f M hf r (f a s)
      have h2 := hf a s
      rw [List.length_cons, Nat.add_mul]
      omega
theorem oints_len (l : List Int) (s : OS) : (oints l s).1.length ≤ s.1.length + 1021 := by
  have h1 := onum_len l.length 255 1 s
  unfold oints
  cases hb : (onum l.length 255 1 s).2 with
  | true => rw [oloop_bad _ _ _ hb]; omega
  | false =>
    have h2 := badNum_len (m := 255) (onum_ok hb).1
    have h3 := oloop_len (fun v => onum v maxID 4) 4 (fun a s => onum_len a maxID 4 s) l (onum l.length 255 1 s)
    omega
theorem ostripe_len (st : PStripe) (s : OS) : (ostripe st s).1.length ≤ s.1.length + 1029 := by
  have h1 := onum_len st.id maxID 4 s
  have h2 := onum_len st.epoch maxID 4 (onum st.id maxID 4 s)
  have h3 := oints_len st.locs (onum st.epoch maxID 4 (onum st.id maxID 4 s))
  unfold ostripe
  omega
theorem ostripes_len (l : List PStripe) (s : OS) : (ostripes l s).1.length ≤ s.1.length + 262396 := by
  have h1 := onum_len l.length 255 1 s
  unfold ostripes
  cases hb : (onum l.length 255 1 s).2 with
  | true => rw [oloop_bad _ _ _ hb]; omega
  | false =>
    have h2 := badNum_len (m := 255) (onum_ok hb).1
    have h3 := oloop_len ostripe 1029 ostripe_len l (onum l.length 255 1 s)
    omega
/-- Block g is a writer in this state. -/
def OutW (w : World) (B g : Nat) (s : OS) : Prop := ∃ v, w.heap[g]? = some (.cells #[v, .bool s.2] 91 (0, 0)) ∧ OwnB w B v s.1
theorem OutW.keep {w w' : World} {B g : Nat} {s : OS} (h : OutW w B g s) (hb : Below w.heap.size w w') : OutW w' B g s := by
  obtain ⟨v, h1, h2⟩ := h
  exact ⟨v, (hb.block g (blk_lt h1)).trans h1, h2.below hb⟩
theorem OutW.lt {w : World} {B g : Nat} {s : OS} (h : OutW w B g s) : g < w.heap.size := by
  obtain ⟨v, h1, _⟩ := h
  exact blk_lt h1
theorem outw_mid {w w2 : World} {B g : Nat} {x v' : Value} {l l' : List UInt8} {b : Bool} (hblk : w.heap[g]? = some (.cells #[x, .bool b] 91 (0, 0))) (hown : OwnB w B x l)
    (hown2 : OwnB w2 B v' l') (hg : w.grownBy w2 x.ownBlock) :
    w2.cell? ⟨g, 0, none⟩ = some x ∧ w2.frozen? ⟨g, 0, none⟩ = false ∧ OutW (w2.setCell ⟨g, 0, none⟩ v') B g (l', b) ∧ WF B g w (w2.setCell ⟨g, 0, none⟩ v') := by
  have hne := own_ne hown hblk (by decide)
  have hblk2 : w2.heap[g]? = some (.cells #[x, .bool b] 91 (0, 0)) := (hg.block g (blk_lt hblk) (fun e => hne e.symm)).trans hblk
  have hne2 := own_ne hown2 hblk2 (by decide)
  exact ⟨blk_cell hblk2 0, blk_free hblk2 0, ⟨v', blk_set hblk2 0 _, hown2.setCell hne2⟩, (WF.of_grown hown hg).trans (WF.setCell B w2 0 _)⟩
def OPost (w : World) (B g : Nat) (s : OS) (e : Ending) (w' : World) : Prop := e = .returned (.tuple #[]) ∧ OutW w' B g s ∧ WF B g w w'
theorem be_any8 (n : Nat) (u : Nat) : True := trivial
set_option maxRecDepth 100000 in
set_option maxHeartbeats 8000000 in
theorem onum_any (w : World) (B g : Nat) (s : OS) (hw : OutW w B g s) (hB : B ≤ w.heap.size) (v most : Int) (n : Nat) (hn : n ≤ 8) (hl : s.1.length + n ≤ 141836999983104) :
    Calls Try.prog 53 #[.pointer (some ⟨g, 0, none⟩), .int .i64 v, .int .i64 n, .int .i64 most] w (OPost w B g (onum v most n s)) := by
  obtain ⟨l, b⟩ := s
  obtain ⟨x, hblk, hown⟩ := hw
  dsimp only at hblk hown hl
  have c0 : w.cell? ⟨g, 0, none⟩ = some x := blk_cell hblk 0
  have c1 : w.cell? ⟨g, 1, none⟩ = some (.bool b) := blk_cell hblk 1
  have f0 := blk_free hblk 0
  have f1 := blk_free hblk 1
  have hne := own_ne hown hblk (by decide)
  have hbadW : OutW (w.setCell ⟨g, 1, none⟩ (.bool true)) B g (l, true) := ⟨x, blk_set hblk 1 _, hown.setCell hne⟩
  have hbadF : WF B g w (w.setCell ⟨g, 1, none⟩ (.bool true)) := WF.setCell B w 1 _
  by_cases h1 : v < 0
  · have he : onum v most n (l, b) = (l, true) := by unfold onum; rw [if_pos (by simp [badNum, h1])]
    rw [he]
    have HW := Lib.hid hbadW; have HF := Lib.hid hbadF
    clear he hbadW hbadF
    go_enter Try.func53, Try.ntmps53
    go_wp2_with fail
    go_end0
    exact ⟨rfl, HW.out, HF.out⟩
  · by_cases h2 : most < v
    · have he : onum v most n (l, b) = (l, true) := by unfold onum; rw [if_pos (by simp [badNum, h2])]
      rw [he]
      have HW := Lib.hid hbadW; have HF := Lib.hid hbadF
      clear he hbadW hbadF
      go_enter Try.func53, Try.ntmps53
      go_wp2_with fail
      go_end0
      exact ⟨rfl, HW.out, HF.out⟩
    · obtain ⟨out, hout⟩ : ∃ out, l ++ be n (nat64 v) = out := ⟨_, rfl⟩
      have he : onum v most n (l, b) = (out, b) := by unfold onum; rw [if_neg (by simp [badNum]; omega)]; exact Prod.ext hout rfl
      rw [he]
      have hlen : out.length ≤ 141836999983104 := by rw [← hout, List.length_append, be_length]; exact hl
      have hnum := num_any w.drew n hn (nat64 v) (by unfold nat64; omega)
      have hu := Lib.hid (nat64_eq v)
      have hbl := be_length n (nat64 v)
      generalize be n (nat64 v) = en at hnum hout hbl
      have Hout := Lib.hid hout; have Hlen := Lib.hid hlen; have Hnum := Lib.hid hnum; have Hbl := Lib.hid hbl
      have Hblk := Lib.hid hblk; have Hown := Lib.hid hown
      clear he hbadW hbadF hout hlen hnum hl hbl hblk hown
      have hg0 : g < w.heap.size := blk_lt Hblk.out
      go_enter Try.func53, Try.ntmps53
      go_wp2_with fail
      go_region_law
        (first
        | (refine step_apW rfl (.tmp 22) (.tmp 26) rfl B x l rfl hown1 NA en.length nc en rfl rfl hnr out Hout.out Hlen.out hBw1 ?_; intro A2 c2 w2 hown2 hg2; obtain ⟨d0, e0, hw3, hf3⟩ := outw_mid hblk1 hown1 hown2 hg2)
        | (go_simp; go_at_call 48; rw [hu.out]; refine Hnum.out.mono ?_; rintro e w1 ⟨vn, rfl, hownn, hb1⟩; obtain ⟨NA, nc, rfl, hlc, _, hnr⟩ := hownn.form; have hb1' : Below w.heap.size w w1 := ⟨hb1.os, hb1.tape, hb1.output, hb1.size, hb1.block⟩; have c0' : w1.cell? ⟨g, 0, none⟩ = some x := (hb1'.cell hg0).trans c0; have hown1 : OwnB w1 B x l := Hown.out.below hb1'; have hblk1 := (hb1'.block g hg0).trans Hblk.out; have hBw1 : B ≤ w1.heap.size := Nat.le_trans hB hb1'.size))
      all_goals
        go_end0
        exact ⟨rfl, hw3, (WF.of_below hb1').trans hf3⟩

end Go.Proofs.Ytmleldgohfcdbaa
