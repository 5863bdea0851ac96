/- rec's writer: what each of its methods appends, and that nothing else turns. -/
import Derived.Test.YtmleldgohfcdbaaRecPlain
namespace Go.Proofs.Ytmleldgohfcdbaa
set_option linter.unusedVariables false
set_option linter.unusedSimpArgs false
open Go.RowKit
/-- Is block k a row of bytes? -/
def ByteBlock (w : World) (k : Nat) : Prop := ∃ cs m, w.heap[k]? = some (.cells cs 5 m)
/-- Below B nothing has turned, and from B on nothing that was there but block g and rows of bytes. -/
structure WF (B g : Nat) (w w' : World) : Prop where
  os : w'.os = w.os
  tape : w'.tape = w.tape
  output : w'.output = w.output
  size : w.heap.size ≤ w'.heap.size
  block : ∀ k, k < w.heap.size → k ≠ g → (B ≤ k → ¬ ByteBlock w k) → w'.heap[k]? = w.heap[k]?
theorem WF.refl (B g : Nat) (w : World) : WF B g w w := ⟨rfl, rfl, rfl, Nat.le_refl _, fun _ _ _ _ => rfl⟩
theorem WF.trans {B g : Nat} {a b c : World} (h : WF B g a b) (k : WF B g b c) : WF B g a c :=
  ⟨k.os.trans h.os, k.tape.trans h.tape, k.output.trans h.output, Nat.le_trans h.size k.size, fun i hi hg hb => by
    have h1 := h.block i hi hg hb
    refine (k.block i (Nat.lt_of_lt_of_le hi h.size) hg (fun hB hbb => hb hB ?_)).trans h1
    obtain ⟨cs, m, e⟩ := hbb
    exact ⟨cs, m, h1.symm.trans e⟩⟩
theorem WF.below {B g : Nat} {w w' : World} (h : WF B g w w') (hg : B ≤ g) (hB : B ≤ w.heap.size) : Below B w w' :=
  ⟨h.os, h.tape, h.output, h.size, fun k hk => h.block k (by omega) (by omega) (fun hBk => absurd hBk (by omega))⟩
theorem WF.of_below {B g : Nat} {w w' : World} (h : Below w.heap.size w w') : WF B g w w' := ⟨h.os, h.tape, h.output, h.size, fun k hk _ _ => h.block k hk⟩
theorem WF.alloc (B g : Nat) (w : World) (o : Obj) : WF B g w (w.alloc o) := .of_below ((Below.refl _ w).alloc (Nat.le_refl _) _)
theorem WF.setCell (B : Nat) {g : Nat} (w : World) (i : Nat) (u : Value) : WF B g w (w.setCell ⟨g, i, none⟩ u) :=
  ⟨rfl, rfl, rfl, by simp [World.setCell], fun k _ hg _ => Below.heap_setCell w ⟨g, i, none⟩ u k hg⟩
theorem own_byte {w : World} {B : Nat} {v : Value} {l : List UInt8} (h : OwnB w B v l) {k : Nat} (hk : v.ownBlock = some k) : ByteBlock w k ∧ B ≤ k ∧ k < w.heap.size := by
  rcases h.2 with ⟨rfl, _⟩ | ⟨g, cap, cur, rfl, hb, hg, _⟩
  · simp [Value.ownBlock] at hk
  · simp only [Value.ownBlock, Option.some.injEq] at hk
    subst hk
    exact ⟨⟨cur, (0, 0), hg⟩, hb, (Array.getElem?_eq_some_iff.1 hg).1⟩
theorem WF.of_grown {B g : Nat} {w w' : World} {v : Value} {l : List UInt8} (hown : OwnB w B v l) (h : w.grownBy w' v.ownBlock) : WF B g w w' :=
  ⟨h.os, h.tape, h.output, h.size, fun k hk _ hb => h.block k hk (fun e => by
    obtain ⟨h1, h2, _⟩ := own_byte hown e.symm
    exact hb h2 h1)⟩
/-- Block g is a writer with these bytes. -/
def Writer (w : World) (B g : Nat) (l : List UInt8) (bad : Bool) : Prop :=
  ∃ v, w.heap[g]? = some (.cells #[v, .bool bad] 119 (0, 0)) ∧ OwnB w B v l
theorem blk_lt {w : World} {g : Nat} {o : Obj} (h : w.heap[g]? = some o) : g < w.heap.size := (Array.getElem?_eq_some_iff.1 h).1
theorem blk_cell {w : World} {g : Nat} {cs : Array Value} {t : TypeId} {m : Nat × Nat} (h : w.heap[g]? = some (.cells cs t m)) (i : Nat) : w.cell? ⟨g, i, none⟩ = cs[i]? := cell_of_row w g i cs t m h
theorem blk_free {w : World} {g : Nat} {cs : Array Value} {t : TypeId} (h : w.heap[g]? = some (.cells cs t (0, 0))) (i : Nat) : w.frozen? ⟨g, i, none⟩ = false := by simp [World.frozen?, h]
theorem blk_set {w : World} {g : Nat} {cs : Array Value} {t : TypeId} {m : Nat × Nat} (h : w.heap[g]? = some (.cells cs t m)) (i : Nat) (u : Value) : (w.setCell ⟨g, i, none⟩ u).heap[g]? = some (.cells (cs.setIfInBounds i u) t m) := by
  simp [World.setCell, Array.getElem?_modify, h]
theorem blk_other {w : World} {g k : Nat} {u : Value} {i : Nat} (h : k ≠ g) : (w.setCell ⟨g, i, none⟩ u).heap[k]? = w.heap[k]? := Below.heap_setCell w ⟨g, i, none⟩ u k h
theorem own_ne {w : World} {B g : Nat} {v : Value} {l : List UInt8} {cs : Array Value} {t : TypeId} {m : Nat × Nat} (h : OwnB w B v l) (hg : w.heap[g]? = some (.cells cs t m)) (ht : t ≠ 5) : v.ownBlock ≠ some g := by
  intro e
  obtain ⟨⟨cs', m', e'⟩, _, _⟩ := own_byte h e
  rw [hg] at e'
  injection e' with e'
  injection e' with _ e' _
  exact ht e'
theorem OwnB.setCell {w : World} {B g i : Nat} {v : Value} {l : List UInt8} {u : Value} (h : OwnB w B v l) (hne : v.ownBlock ≠ some g) : OwnB (w.setCell ⟨g, i, none⟩ u) B v l :=
  h.kept (row := some g) ⟨rfl, rfl, rfl, by simp [World.setCell], fun k _ hk => blk_other (fun e => hk (by rw [e]))⟩ (.inr hne)
theorem WF.blk {B g : Nat} {w w' : World} (h : WF B g w w') {b : Nat} {cs : Array Value} {t : TypeId} {m : Nat × Nat} (hb : w.heap[b]? = some (.cells cs t m)) (hne : b ≠ g) (ht : t ≠ 5) : w'.heap[b]? = some (.cells cs t m) :=
  (h.block b (blk_lt hb) hne (fun _ hbb => by
    obtain ⟨cs', m', e⟩ := hbb
    rw [hb] at e
    injection e with e
    injection e with _ e _
    exact ht e)).trans hb
theorem Writer.keep {w w' : World} {B g : Nat} {l : List UInt8} {bad : Bool} (h : Writer w B g l bad) (hb : Below w.heap.size w w') : Writer w' B g l bad := by
  obtain ⟨v, h1, h2⟩ := h
  exact ⟨v, (hb.block g (blk_lt h1)).trans h1, h2.below hb⟩
theorem Writer.lt {w : World} {B g : Nat} {l : List UInt8} {bad : Bool} (h : Writer w B g l bad) : g < w.heap.size := by
  obtain ⟨v, h1, _⟩ := h
  exact blk_lt h1
/-- The field bad is set, then something is put behind the bytes: what holds ahead of the last store. -/
theorem writer_mid {w w2 : World} {B g : Nat} {x v' : Value} {l l' : List UInt8} {b b' : Bool} (hblk : w.heap[g]? = some (.cells #[x, .bool b] 119 (0, 0))) (hown : OwnB w B x l)
    (hown2 : OwnB w2 B v' l') (hg : (w.setCell ⟨g, 1, none⟩ (.bool b')).grownBy w2 x.ownBlock) :
    w2.cell? ⟨g, 0, none⟩ = some x ∧ w2.frozen? ⟨g, 0, none⟩ = false ∧ Writer (w2.setCell ⟨g, 0, none⟩ v') B g l' b' ∧ WF B g w (w2.setCell ⟨g, 0, none⟩ v') := by
  have hne := own_ne hown hblk (by decide)
  have hblk1 : (w.setCell ⟨g, 1, none⟩ (.bool b')).heap[g]? = some (.cells #[x, .bool b'] 119 (0, 0)) := blk_set hblk 1 _
  have hblk2 : w2.heap[g]? = some (.cells #[x, .bool b'] 119 (0, 0)) := (hg.block g (blk_lt hblk1) (fun e => hne e.symm)).trans hblk1
  have hne2 := own_ne hown2 hblk2 (by decide)
  exact ⟨blk_cell hblk2 0, blk_free hblk2 0, ⟨v', blk_set hblk2 0 _, hown2.setCell hne2⟩,
    ((WF.setCell B w 1 _).trans (WF.of_grown (hown.setCell hne) hg)).trans (WF.setCell B w2 0 _)⟩
/-- The same where the field bad is not touched. -/
theorem writer_mid0 {w w2 : World} {B g : Nat} {x v' : Value} {l l' : List UInt8} {b : Bool} (hblk : w.heap[g]? = some (.cells #[x, .bool b] 119 (0, 0))) (hown : OwnB w B x l)
    (hown2 : OwnB w2 B v' l') (hg : w.grownBy w2 x.ownBlock) :
    w2.cell? ⟨g, 0, none⟩ = some x ∧ w2.frozen? ⟨g, 0, none⟩ = false ∧ Writer (w2.setCell ⟨g, 0, none⟩ v') B g l' b ∧ WF B g w (w2.setCell ⟨g, 0, none⟩ v') := by
  have hne := own_ne hown hblk (by decide)
  have hblk2 : w2.heap[g]? = some (.cells #[x, .bool b] 119 (0, 0)) := (hg.block g (blk_lt hblk) (fun e => hne e.symm)).trans hblk
  have hne2 := own_ne hown2 hblk2 (by decide)
  exact ⟨blk_cell hblk2 0, blk_free hblk2 0, ⟨v', blk_set hblk2 0 _, hown2.setCell hne2⟩, (WF.of_grown hown hg).trans (WF.setCell B w2 0 _)⟩
set_option maxRecDepth 100000 in
set_option maxHeartbeats 400000 in
theorem wnum_aux (w : World) (B g : Nat) (l : List UInt8) (bad : Bool) (hw : Writer w B g l bad) (hB : B ≤ w.heap.size) (hl : l.length ≤ 100000000000000) (v most : Int) (n : Nat) (hn : n ≤ 8) (b' : Bool)
    (hcase : (bad = true ∧ b' = true) ∨ (bad = false ∧ v < 0 ∧ b' = true) ∨ (bad = false ∧ 0 ≤ v ∧ most < v ∧ b' = true) ∨ (bad = false ∧ 0 ≤ v ∧ v ≤ most ∧ b' = false)) :
    Calls Try.prog 78 #[.pointer (some ⟨g, 0, none⟩), .int .i64 v, .int .i64 n, .int .i64 most] w fun e w' =>
      e = .returned (.tuple #[]) ∧ Writer w' B g (l ++ be n (nat64 v)) b' ∧ WF B g w w' := by
  obtain ⟨x, hblk, hown⟩ := hw
  have c0 : w.cell? ⟨g, 0, none⟩ = some x := blk_cell hblk 0
  have c1 : w.cell? ⟨g, 1, none⟩ = some (.bool bad) := blk_cell hblk 1
  have f0 := blk_free hblk 0
  have f1 := blk_free hblk 1
  have hne := own_ne hown hblk (by decide)
  have hu := Lib.hid (nat64_eq v)
  obtain ⟨out, ho⟩ : ∃ out, l ++ be n (nat64 v) = out := ⟨_, rfl⟩
  rw [ho]
  have Ho := Lib.hid ho; clear ho
  rcases hcase with ⟨rfl, rfl⟩ | ⟨rfl, hc, rfl⟩ | ⟨rfl, hc, hc2, rfl⟩ | ⟨rfl, hc, hc2, rfl⟩
  all_goals
    go_enter Try.func78, Try.ntmps78
    go_wp2_with fail
    first | rw [hu.out] | skip
    try rw [show (decide (v < 0) || decide (most < v)) = false from by simp; omega]
    refine (put_any _ B x l (hown.setCell hne) (by simpa [World.setCell] using hB) hl n hn (nat64 v)).mono ?_
    rintro e w2 ⟨v', rfl, hown2, hg2, hno2⟩
    rw [Ho.out] at hown2
    obtain ⟨A2, c2, rfl, _, _, _⟩ := hown2.form
    obtain ⟨d0, e0, hw3, hf3⟩ := writer_mid hblk hown hown2 hg2
    go_wp2_with fail
    go_end0
    exact ⟨rfl, hw3, hf3⟩
theorem wnum_any (w : World) (B g : Nat) (l : List UInt8) (bad : Bool) (hw : Writer w B g l bad) (hB : B ≤ w.heap.size) (hl : l.length ≤ 100000000000000) (v most : Int) (n : Nat) (hn : n ≤ 8) :
    Calls Try.prog 78 #[.pointer (some ⟨g, 0, none⟩), .int .i64 v, .int .i64 n, .int .i64 most] w fun e w' =>
      e = .returned (.tuple #[]) ∧ Writer w' B g (l ++ be n (nat64 v)) (bad || badNum v most) ∧ WF B g w w' := by
  refine wnum_aux w B g l bad hw hB hl v most n hn _ ?_
  cases bad
  · by_cases h1 : v < 0
    · simp [badNum, h1]
    · by_cases h2 : most < v
      · simp [badNum, h2]; omega
      · simp [badNum, h1, h2]; omega
  · simp
set_option maxRecDepth 100000 in
set_option maxHeartbeats 400000 in
theorem wkey_any (w : World) (B g : Nat) (l : List UInt8) (bad : Bool) (hw : Writer w B g l bad) (hB : B ≤ w.heap.size) (k : List UInt8) (hl : (l ++ encKey k).length ≤ 100000000000000) :
    Calls Try.prog 79 #[.pointer (some ⟨g, 0, none⟩), sv k] w fun e w' =>
      e = .returned (.tuple #[]) ∧ Writer w' B g (l ++ encKey k) (bad || badKey k) ∧ WF B g w w' := by
  have hl0 : l.length ≤ 100000000000000 := by rw [List.length_append] at hl; omega
  obtain ⟨l1, hl1⟩ : ∃ l1, l ++ be 1 (nat64 k.length) = l1 := ⟨_, rfl⟩
  obtain ⟨out, ho⟩ : ∃ out, l1 ++ k = out := ⟨_, rfl⟩
  have hout : l ++ encKey k = out := by rw [← ho, ← hl1]; simp [encKey]
  rw [hout] at hl ⊢
  have Hl1 := Lib.hid hl1; have Ho := Lib.hid ho
  clear hl1 ho hout
  go_enter Try.func79, Try.ntmps79
  go_wp2_with fail
  refine (wnum_any w B g l bad hw hB hl0 k.length 16 1 (by omega)).mono ?_
  rintro e w1 ⟨rfl, hw1, hf1⟩
  rw [Hl1.out] at hw1
  obtain ⟨x, hblk, hown⟩ := hw1
  have c0 : w1.cell? ⟨g, 0, none⟩ = some x := blk_cell hblk 0
  have f0 := blk_free hblk 0
  have hb1 : B ≤ w1.heap.size := Nat.le_trans hB hf1.size
  go_wp2_with (at_builtin; refine wpList_apS rfl (.tmp 12) (.tmp 13) rfl B x l1 rfl hown k rfl out Ho.out (by omega) hb1 ?_; intro v2 w2 hown2 hg2; obtain ⟨A2, c2, rfl, _, _, _⟩ := hown2.form; obtain ⟨d0, e0, hw3, hf3⟩ := writer_mid0 hblk hown hown2 hg2)
  go_end0
  exact ⟨rfl, hw3, hf1.trans hf3⟩
set_option maxRecDepth 100000 in
set_option maxHeartbeats 400000 in
theorem wints_any (w : World) (B g : Nat) (l : List UInt8) (bad : Bool) (hw : Writer w B g l bad) (hB : B ≤ w.heap.size) (hg : B ≤ g) (A : Option Addr) (c : Nat) (k : List Int) (hr : RI w (· < B) A k) (hk : k.length ≤ 1000000000000) (hl : (l ++ encInts k).length ≤ 100000000000000) :
    Calls Try.prog 82 #[.pointer (some ⟨g, 0, none⟩), .slice A k.length c] w fun e w' =>
      e = .returned (.tuple #[]) ∧ Writer w' B g (l ++ encInts k) (bad || badInts k) ∧ WF B g w w' := by
  have hl0 : l.length ≤ 100000000000000 := by rw [List.length_append] at hl; omega
  have hp : ∀ j, (l ++ be 1 (nat64 k.length) ++ (k.take j).flatMap encW).length ≤ 100000000000000 := fun j => by
    have := flat_take_le k encW j
    simp only [encInts, List.length_append] at hl ⊢
    omega
  go_enter Try.func82, Try.ntmps82
  go_wp2_with fail
  refine (wnum_any w B g l bad hw hB hl0 k.length 255 1 (by omega)).mono ?_
  rintro e w1 ⟨rfl, hw1, hf1⟩
  go_wp2_with fail
  go_loopw [5, 12] (fun _ i wr => ∃ j : Nat, j ≤ k.length ∧ i = .int .i64 j ∧ Writer wr B g (l ++ be 1 (nat64 k.length) ++ (k.take j).flatMap encW) (bad || (badNum k.length 255 || (k.take j).any (badNum · maxID))) ∧ WF B g w wr) (fun _ i _ => k.length - (intOf i).toNat)
  case atStart => exact ⟨0, by omega, rfl, by simpa using hw1, hf1⟩
  case round =>
    obtain ⟨j, hj, rfl, hw2, hf2⟩ := hrel
    by_cases hlt : j < k.length
    · obtain ⟨ad, rfl, hc⟩ := (hr.below (hf2.below hg hB)).at_ hlt
      have hs1 := Lib.hid (flat_take_succ k encW j hlt)
      have hs2 := Lib.hid (any_take_succ k (badNum · maxID) j hlt)
      have hpj := hp j
      have hsz := hf2.size
      go_wp2_with fail
      refine (wnum_any wr B g _ _ hw2 (Nat.le_trans hB hsz) hpj k[j] 1073741824 4 (by omega)).mono ?_
      rintro e w3 ⟨rfl, hw3, hf3⟩
      go_wp2_with fail
      go_roundw
      case rel => exact ⟨j + 1, by omega, by go_num, by rw [hs1.out, hs2.out, ← List.append_assoc, ← Bool.or_assoc (badNum _ 255), ← Bool.or_assoc bad]; exact hw3, hf2.trans hf3⟩
      case measure => simp [intOf]; omega
    · go_wp2_with fail
      go_end0
      have e : j = k.length := by omega
      subst e
      rw [List.take_length, List.append_assoc] at hw2
      exact ⟨rfl, hw2, hf2⟩
set_option maxRecDepth 100000 in
set_option maxHeartbeats 400000 in
theorem wstripes_any (w : World) (B g : Nat) (l : List UInt8) (bad : Bool) (hw : Writer w B g l bad) (hB : B ≤ w.heap.size) (hg : B ≤ g) (A : Option Addr) (c : Nat) (k : List PStripe) (hr : RStripes w (· < B) A k) (hk : k.length ≤ 1000000000000)
    (hk2 : ∀ s ∈ k, s.locs.length ≤ 1000000000000) (hl : (l ++ encStripes k).length ≤ 100000000000000) :
    Calls Try.prog 80 #[.pointer (some ⟨g, 0, none⟩), .slice A k.length c] w fun e w' =>
      e = .returned (.tuple #[]) ∧ Writer w' B g (l ++ encStripes k) (bad || badStripes k) ∧ WF B g w w' := by
  have hl0 : l.length ≤ 100000000000000 := by rw [List.length_append] at hl; omega
  have hp : ∀ j, (l ++ be 1 (nat64 k.length) ++ (k.take j).flatMap encStripe).length ≤ 100000000000000 := fun j => by
    have := flat_take_le k encStripe j
    simp only [encStripes, List.length_append] at hl ⊢
    omega
  go_enter Try.func80, Try.ntmps80
  go_wp2_with fail
  refine (wnum_any w B g l bad hw hB hl0 k.length 255 1 (by omega)).mono ?_
  rintro e w1 ⟨rfl, hw1, hf1⟩
  go_wp2_with fail
  go_loopw [5, 12] (fun _ i wr => ∃ j : Nat, j ≤ k.length ∧ i = .int .i64 j ∧ Writer wr B g (l ++ be 1 (nat64 k.length) ++ (k.take j).flatMap encStripe) (bad || (badNum k.length 255 || (k.take j).any badStripe)) ∧ WF B g w wr) (fun _ i _ => k.length - (intOf i).toNat)
  case atStart => exact ⟨0, by omega, rfl, by simpa using hw1, hf1⟩
  case round =>
    obtain ⟨j, hj, rfl, hw2, hf2⟩ := hrel
    by_cases hlt : j < k.length
    · obtain ⟨ad, C, d, rfl, hc0, hc1, hc2, hld, hri⟩ := (hr.below (hf2.below hg hB)).at_ hlt
      have hs1 := Lib.hid (flat_take_succ k encStripe j hlt)
      have hs2 := Lib.hid (any_take_succ k badStripe j hlt)
      have hpj := hp j
      have hsz := hf2.size
      have hW := hw2.keep ((Below.refl _ wr).alloc (Nat.le_refl _) (.cells #[.int .i64 k[j].id, .int .i64 k[j].epoch, .slice C k[j].locs.length d] 78))
      have hlt2 := hw2.lt
      have hblk : (wr.alloc (.cells #[.int .i64 k[j].id, .int .i64 k[j].epoch, .slice C k[j].locs.length d] 78)).heap[wr.heap.size]? = some (.cells #[.int .i64 k[j].id, .int .i64 k[j].epoch, .slice C k[j].locs.length d] 78 (0, 0)) := heap_alloc_new wr _
      have hne : wr.heap.size ≠ g := by omega
      have hle : (l ++ be 1 (nat64 k.length) ++ (k.take j).flatMap encStripe ++ encStripe k[j]).length ≤ 100000000000000 := by
        have := hp (j + 1)
        rw [hs1.out, ← List.append_assoc] at this
        exact this
      have hll := hk2 k[j] (List.getElem_mem hlt)
      generalize hl2 : (l ++ be 1 (nat64 k.length) ++ (k.take j).flatMap encStripe) = l2 at hw2 hW hle hpj
      generalize hbd : (bad || (badNum k.length 255 || (k.take j).any badStripe)) = bad2 at hw2 hW
      have Hl2 := Lib.hid hl2; have Hbd := Lib.hid hbd
      clear hl2 hbd
      have hf0 := WF.alloc B g wr (.cells #[.int .i64 k[j].id, .int .i64 k[j].epoch, .slice C k[j].locs.length d] 78)
      have hB0 := Nat.le_trans hB hsz
      go_wp2_with fail
      refine (wnum_any _ B g _ _ hW (Nat.le_trans hB0 (by simp)) hpj k[j].id 1073741824 4 (by omega)).mono ?_
      rintro e w3 ⟨rfl, hw3, hf3⟩
      have hblk3 := hf3.blk hblk hne (by decide)
      have d1 : w3.cell? ⟨wr.heap.size, 1, none⟩ = some (.int .i64 k[j].epoch) := blk_cell hblk3 1
      have hf03 := hf0.trans hf3
      have hle2 : (l2 ++ encW k[j].id ++ encW k[j].epoch ++ encInts k[j].locs).length ≤ 100000000000000 := by
        rw [List.append_assoc, List.append_assoc, ← List.append_assoc (encW k[j].id)]
        exact hle
      have hB3 := Nat.le_trans hB0 hf03.size
      go_wp2_with fail
      refine (wnum_any w3 B g _ _ hw3 hB3 (by simp only [List.length_append, encW] at hle2 ⊢; omega) k[j].epoch 1073741824 4 (by omega)).mono ?_
      rintro e w4 ⟨rfl, hw4, hf4⟩
      have hblk4 := hf4.blk hblk3 hne (by decide)
      have d2 : w4.cell? ⟨wr.heap.size, 2, none⟩ = some (.slice C k[j].locs.length d) := blk_cell hblk4 2
      have hf04 := hf03.trans hf4
      go_wp2_with fail
      refine (wints_any w4 B g _ _ hw4 (Nat.le_trans hB0 hf04.size) hg C d k[j].locs (hri.below (hf04.below hg hB0)) hll hle2).mono ?_
      rintro e w5 ⟨rfl, hw5, hf5⟩
      go_wp2_with fail
      go_roundw
      case rel =>
        refine ⟨j + 1, by omega, by go_num, ?_, hf2.trans (hf04.trans hf5)⟩
        rw [hs1.out, hs2.out, ← List.append_assoc, ← Bool.or_assoc (badNum _ 255), ← Bool.or_assoc bad, Hl2.out, Hbd.out]
        have e1 : l2 ++ encStripe k[j] = l2 ++ be 4 (nat64 k[j].id) ++ be 4 (nat64 k[j].epoch) ++ encInts k[j].locs := by simp [encStripe, encW, List.append_assoc]
        have e2 : (bad2 || badStripe k[j]) = (bad2 || badNum k[j].id 1073741824 || badNum k[j].epoch 1073741824 || badInts k[j].locs) := by simp [badStripe, maxID, Bool.or_assoc]
        rw [e1, e2]
        exact hw5
      case measure => simp [intOf]; omega
    · go_wp2_with fail
      go_end0
      have e : j = k.length := by omega
      subst e
      rw [List.take_length, List.append_assoc] at hw2
      exact ⟨rfl, hw2, hf2⟩
set_option maxRecDepth 100000 in
set_option maxHeartbeats 400000 in
theorem wobject_any (w : World) (B g : Nat) (l : List UInt8) (bad : Bool) (hw : Writer w B g l bad) (hB : B ≤ w.heap.size) (hg : B ≤ g) (o : PObj) (A : Option Addr) (c : Nat) (hr : RStripes w (· < B) A o.stripes) (hk : o.stripes.length ≤ 1000000000000)
    (hk2 : ∀ s ∈ o.stripes, s.locs.length ≤ 1000000000000) (hl : (l ++ encObj o).length ≤ 100000000000000) :
    Calls Try.prog 81 #[.pointer (some ⟨g, 0, none⟩), .agg #[sv o.key, .int .i64 o.id, .int .i64 o.size, .slice A o.stripes.length c]] w fun e w' =>
      e = .returned (.tuple #[]) ∧ Writer w' B g (l ++ encObj o) (bad || badObj o) ∧ WF B g w w' := by
  have hl0 : (l ++ encKey o.key ++ encW o.id ++ encW o.size ++ encStripes o.stripes).length ≤ 100000000000000 := by
    simp only [encObj, List.append_assoc] at hl ⊢
    exact hl
  have e1 : l ++ encObj o = l ++ encKey o.key ++ be 4 (nat64 o.id) ++ be 4 (nat64 o.size) ++ encStripes o.stripes := by simp [encObj, encW, List.append_assoc]
  have e2 : (bad || badObj o) = (bad || badKey o.key || badNum o.id 1073741824 || badNum o.size 1073741824 || badStripes o.stripes) := by simp [badObj, maxID, Bool.or_assoc]
  rw [e1, e2]
  clear e1 e2 hl
  have hp1 : (l ++ encKey o.key).length ≤ 100000000000000 := by simp only [List.length_append] at hl0 ⊢; omega
  have hp2 : (l ++ encKey o.key ++ be 4 (nat64 o.id)).length ≤ 100000000000000 := by simp only [List.length_append, encW] at hl0 ⊢; omega
  have hlt2 := hw.lt
  have hW := hw.keep ((Below.refl _ w).alloc (Nat.le_refl _) (.cells #[sv o.key, .int .i64 o.id, .int .i64 o.size, .slice A o.stripes.length c] 80))
  have hblk : (w.alloc (.cells #[sv o.key, .int .i64 o.id, .int .i64 o.size, .slice A o.stripes.length c] 80)).heap[w.heap.size]? = some (.cells #[sv o.key, .int .i64 o.id, .int .i64 o.size, .slice A o.stripes.length c] 80 (0, 0)) := heap_alloc_new w _
  have hne : w.heap.size ≠ g := by omega
  have hf0 := WF.alloc B g w (.cells #[sv o.key, .int .i64 o.id, .int .i64 o.size, .slice A o.stripes.length c] 80)
  go_enter Try.func81, Try.ntmps81
  go_wp2_with fail
  refine (wkey_any _ B g _ _ hW (Nat.le_trans hB (by simp)) o.key hp1).mono ?_
  rintro e w3 ⟨rfl, hw3, hf3⟩
  have hblk3 := hf3.blk hblk hne (by decide)
  have d1 : w3.cell? ⟨w.heap.size, 1, none⟩ = some (.int .i64 o.id) := blk_cell hblk3 1
  have hf03 := hf0.trans hf3
  go_wp2_with fail
  refine (wnum_any w3 B g _ _ hw3 (Nat.le_trans hB hf03.size) hp1 o.id 1073741824 4 (by omega)).mono ?_
  rintro e w4 ⟨rfl, hw4, hf4⟩
  have hblk4 := hf4.blk hblk3 hne (by decide)
  have d2 : w4.cell? ⟨w.heap.size, 2, none⟩ = some (.int .i64 o.size) := blk_cell hblk4 2
  have hf04 := hf03.trans hf4
  go_wp2_with fail
  refine (wnum_any w4 B g _ _ hw4 (Nat.le_trans hB hf04.size) hp2 o.size 1073741824 4 (by omega)).mono ?_
  rintro e w5 ⟨rfl, hw5, hf5⟩
  have hblk5 := hf5.blk hblk4 hne (by decide)
  have d3 : w5.cell? ⟨w.heap.size, 3, none⟩ = some (.slice A o.stripes.length c) := blk_cell hblk5 3
  have hf05 := hf04.trans hf5
  go_wp2_with fail
  refine (wstripes_any w5 B g _ _ hw5 (Nat.le_trans hB hf05.size) hg A c o.stripes (hr.below (hf05.below hg hB)) hk hk2 hl0).mono ?_
  rintro e w6 ⟨rfl, hw6, hf6⟩
  go_wp2_with fail
  go_end0
  exact ⟨rfl, hw6, hf05.trans hf6⟩
end Go.Proofs.Ytmleldgohfcdbaa
