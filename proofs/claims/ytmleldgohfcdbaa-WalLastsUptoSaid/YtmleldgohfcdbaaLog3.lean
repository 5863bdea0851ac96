/- wal's Append and Checkpoint. -/
import Derived.Test.YtmleldgohfcdbaaLog2
import Derived.Deep.RegionHeld3
namespace Go.Proofs.Ytmleldgohfcdbaa
set_option linter.unusedVariables false
set_option linter.unusedSimpArgs false
open Go.RowKit
/-- Nothing that was there has turned but blocks g and q. -/
structure Two (g q : Nat) (w w' : World) : Prop where
  os : w'.os = w.os
  tape : w'.tape = w.tape
  output : w'.output = w.output
  size : w.heap.size ≤ w'.heap.size
  block : ∀ k, k < w.heap.size → k ≠ g → k ≠ q → w'.heap[k]? = w.heap[k]?
theorem Two.of_g {g q : Nat} {w w' : World} (h : w.grownBy w' (some g)) : Two g q w w' := ⟨h.os, h.tape, h.output, h.size, fun k hk hg _ => h.block k hk (by simpa using hg)⟩
theorem Two.of_q {g q : Nat} {w w' : World} (h : w.grownBy w' (some q)) : Two g q w w' := ⟨h.os, h.tape, h.output, h.size, fun k hk _ hq => h.block k hk (by simpa using hq)⟩
theorem Two.of_below {g q : Nat} {w w' : World} (h : Below w.heap.size w w') : Two g q w w' := ⟨h.os, h.tape, h.output, h.size, fun k hk _ _ => h.block k hk⟩
theorem Two.trans {g q : Nat} {a b c : World} (h : Two g q a b) (k : Two g q b c) : Two g q a c :=
  ⟨k.os.trans h.os, k.tape.trans h.tape, k.output.trans h.output, Nat.le_trans h.size k.size, fun i hi hg hq => (k.block i (Nat.lt_of_lt_of_le hi h.size) hg hq).trans (h.block i hi hg hq)⟩
theorem TapeAt.keep {w w' : World} {g : Nat} {P : Nat → Prop} {t : TTape} (h : TapeAt w g P t) (hg : w'.heap[g]? = w.heap[g]?) (hk : ∀ k, k < w.heap.size → P k → w'.heap[k]? = w.heap[k]?) : TapeAt w' g P t := by
  obtain ⟨v0, u0, v1, u1, hb, h0, h1, h2, h3⟩ := h
  exact ⟨v0, u0, v1, u1, hg.trans hb, h0.keep hk, h1.keep hk, h2.keep hk, h3.keep hk⟩
/-- A log's state: the tape, how many bytes, whether it is down. -/
structure WLog where
  t : TTape
  size : Nat
  down : Bool
def appendL (x : WLog) (r : PRec) : WLog × Int :=
  if roomE x.down r x.size ≠ 0 then (⟨x.t, x.size, if roomE x.down r x.size = 9 then true else x.down⟩, roomE x.down r x.size)
  else (⟨(writeT x.t (entryOf (encRec r)) false).1, if (writeT x.t (entryOf (encRec r)) false).2 = 0 then x.size + (entryOf (encRec r)).length else x.size,
    if (writeT x.t (entryOf (encRec r)) false).2 = 9 then true else x.down⟩, (writeT x.t (entryOf (encRec r)) false).2)
def checkL (x : WLog) (r : PRec) : WLog × Int :=
  if roomE x.down r 0 ≠ 0 then (⟨x.t, x.size, if roomE x.down r 0 = 9 then true else x.down⟩, roomE x.down r 0)
  else (⟨(writeT x.t (entryOf (encRec r)) true).1, if (writeT x.t (entryOf (encRec r)) true).2 = 0 then (entryOf (encRec r)).length else x.size,
    if (writeT x.t (entryOf (encRec r)) true).2 = 9 then true else x.down⟩, (writeT x.t (entryOf (encRec r)) true).2)
def WalAt (w : World) (q g : Nat) (P : Nat → Prop) (x : WLog) : Prop := TapeAt w g P x.t ∧ LogAt w q g x.size x.down
def LogPost (w : World) (q g : Nat) (P : Nat → Prop) (x : WLog × Int) (e : Ending) (w' : World) : Prop := e = .returned (.int .i64 x.2) ∧ WalAt w' q g P x.1 ∧ Two g q w w'

set_option maxRecDepth 100000 in
set_option maxHeartbeats 1000000 in
theorem append_any (w : World) (q g : Nat) (P : Nat → Prop) (x : WLog) (h : WalAt w q g P x) (hP : ∀ k, w.heap.size ≤ k → P k) (hPg : ∀ k, P k → k ≠ g ∧ k ≠ q) (hqg : q ≠ g) (hf63 : x.t.fuse ≤ 9223372036854775807)
    (r : PRec) (hroom : Room r) (vs : List Value) (hr : RecVal w (· < w.heap.size) r vs) (hs : x.size ≤ 16384) (hl0 : x.t.s0.b.length ≤ 1000000) (hl1 : x.t.s1.b.length ≤ 1000000) :
    Calls Try.prog 35 #[.pointer (some ⟨q, 0, none⟩), .agg vs.toArray] w (LogPost w q g P (appendL x r)) := by
  obtain ⟨htp, hlg⟩ := h
  have hr0 := hr
  obtain ⟨A, c, A2, c2, A3, c3, rfl, -, -, -, -, -, -⟩ := hr
  obtain ⟨kv, hkv⟩ : ∃ kv, sv r.key = .string kv := ⟨_, rfl⟩
  rw [hkv] at hr0 ⊢
  obtain ⟨w1, hw1⟩ : ∃ w1, w.alloc (.cells #[.int .i64 r.kind, .int .i64 r.id, .int .i64 r.size, .string kv, .slice A r.stripes.length c, .slice A2 r.objects.length c2, .slice A3 r.drives.length c3] 51) = w1 := ⟨_, rfl⟩
  have hb1 : Below w.heap.size w w1 := hw1 ▸ (Below.refl _ w).alloc (Nat.le_refl _) _
  have hm1 : w1.heap[w.heap.size]? = some (.cells #[.int .i64 r.kind, .int .i64 r.id, .int .i64 r.size, .string kv, .slice A r.stripes.length c, .slice A2 r.objects.length c2, .slice A3 r.drives.length c3] 51 (0, 0)) := hw1 ▸ heap_alloc_new w _
  have hl1' : LogAt w1 q g x.size x.down := (hb1.block q (blk_lt hlg)).trans hlg
  have hrec1 : RecVal w1 (· < w1.heap.size) r [.int .i64 r.kind, .int .i64 r.id, .int .i64 r.size, .string kv, .slice A r.stripes.length c, .slice A2 r.objects.length c2, .slice A3 r.drives.length c3] := (RecVal.below hr0 hb1).imp fun k hk _ => hk
  have hsz := fun w' (h : LogAt w' q g x.size x.down) => size_any w' q g x.size x.down h
  have hrm := room_any w1.drew q g x.size x.down hl1' r hroom [.int .i64 r.kind, .int .i64 r.id, .int .i64 r.size, .string kv, .slice A r.stripes.length c, .slice A2 r.objects.length c2, .slice A3 r.drives.length c3] hrec1 x.size hs
  have m0 : w1.cell? ⟨w.heap.size, 0, none⟩ = some (.int .i64 r.kind) := blk_cell hm1 0
  have m1 : w1.cell? ⟨w.heap.size, 1, none⟩ = some (.int .i64 r.id) := blk_cell hm1 1
  have m2 : w1.cell? ⟨w.heap.size, 2, none⟩ = some (.int .i64 r.size) := blk_cell hm1 2
  have m3 : w1.cell? ⟨w.heap.size, 3, none⟩ = some (.string kv) := blk_cell hm1 3
  have m4 : w1.cell? ⟨w.heap.size, 4, none⟩ = some (.slice A r.stripes.length c) := blk_cell hm1 4
  have m5 : w1.cell? ⟨w.heap.size, 5, none⟩ = some (.slice A2 r.objects.length c2) := blk_cell hm1 5
  have m6 : w1.cell? ⟨w.heap.size, 6, none⟩ = some (.slice A3 r.drives.length c3) := blk_cell hm1 6
  have Hsz := Lib.hid hsz; have Hw1 := Lib.hid hw1; have Hl1 := Lib.hid hl1'; have Hm1 := Lib.hid hm1; have Htp := Lib.hid htp; have Hhlg := Lib.hid hlg; have Hrec1 := Lib.hid hrec1; have Hr0 := Lib.hid hr0; have Hkv := Lib.hid hkv
  clear hsz hw1 hl1' hm1 htp hlg hrec1 hr0 hkv
  by_cases hre : roomE x.down r x.size = 0
  · have hroom0 := hre
    have hap : appendL x r = (⟨(writeT x.t (entryOf (encRec r)) false).1, if (writeT x.t (entryOf (encRec r)) false).2 = 0 then x.size + (entryOf (encRec r)).length else x.size, if (writeT x.t (entryOf (encRec r)) false).2 = 9 then true else x.down⟩, (writeT x.t (entryOf (encRec r)) false).2) := by unfold appendL; rw [if_neg (by rw [hre]; decide)]
    have hel : (entryOf (encRec r)).length ≤ 8200 := by
      have := entryOf_length (encRec r)
      have h8 : (encRec r).length ≤ 8192 := by
        unfold roomE at hre
        by_cases h1 : x.down = true
        · rw [if_pos h1] at hre; exact absurd hre (by decide)
        · rw [if_neg h1] at hre
          by_cases h2 : badRec r = true
          · rw [if_pos h2] at hre; exact absurd hre (by decide)
          · rw [if_neg h2] at hre
            by_cases h3 : 8192 < (encRec r).length
            · rw [if_pos h3] at hre; exact absurd hre (by decide)
            · omega
      omega
    rw [hap]
    have hrn : Calls Try.prog 57 #[.pointer (some ⟨q, 0, none⟩), .agg #[.int .i64 r.kind, .int .i64 r.id, .int .i64 r.size, .string kv, .slice A r.stripes.length c, .slice A2 r.objects.length c2, .slice A3 r.drives.length c3], .int .i64 x.size] w1.drew fun e w' => ∃ A4 c4, e = .returned (.tuple #[.slice A4 (entryOf (encRec r)).length c4, .int .i64 0]) ∧ OwnB w' w1.heap.size (.slice A4 (entryOf (encRec r)).length c4) (entryOf (encRec r)) ∧ Below w1.heap.size w1.drew w' :=
      hrm.mono fun e w' ⟨h1, h2⟩ => by
        rcases h2 with ⟨h2, _⟩ | ⟨_, v, h2, h3⟩
        · exact absurd hre h2
        · obtain ⟨A4, c4, rfl, _, _, _⟩ := h3.form
          exact ⟨A4, c4, h2, h3, h1⟩
    generalize entryOf (encRec r) = en at hrn hel
    have hgw : g < w.heap.size := by obtain ⟨_, _, _, _, hb, _⟩ := Htp.out; exact blk_lt hb
    have htap := fun (w' : World) (h' : TapeAt w' g P x.t) (hsz : w.heap.size ≤ w'.heap.size) (A4 : Option Addr) (c4 : Nat) (hrv : RVb w' (· ≠ g) A4 (en.map bv)) => tAppend_any w' g P x.t h' (fun k hk => hP k (Nat.le_trans hsz hk)) (fun k hk => (hPg k hk).1) hf63 A4 c4 en hrv (by omega) (by omega)
    generalize writeT x.t en false = wr at htap
    obtain ⟨wt, m⟩ := wr
    dsimp only
    obtain ⟨y, hy⟩ : ∃ y : WLog × Int, y = (⟨wt, if m = 0 then x.size + en.length else x.size, if m = 9 then true else x.down⟩, m) := ⟨_, rfl⟩
    rw [← hy]
    have Hrn := Lib.hid hrn; have Hy := Lib.hid hy; have Hel := Lib.hid hel; have Htap := Lib.hid htap
    clear hrn hrm hap hre hy hel htap hroom0
    go_enter Try.func35, Try.ntmps35
    go_wp2_with fail
    rw [Hw1.out]
    go_region_held3 (fun w' => w'.cell? ⟨w.heap.size, 0, none⟩ = some (.int .i64 r.kind) ∧ w'.cell? ⟨w.heap.size, 1, none⟩ = some (.int .i64 r.id) ∧ w'.cell? ⟨w.heap.size, 2, none⟩ = some (.int .i64 r.size) ∧ w'.cell? ⟨w.heap.size, 3, none⟩ = some (.string kv) ∧ w'.cell? ⟨w.heap.size, 4, none⟩ = some (.slice A r.stripes.length c) ∧ w'.cell? ⟨w.heap.size, 5, none⟩ = some (.slice A2 r.objects.length c2) ∧ w'.cell? ⟨w.heap.size, 6, none⟩ = some (.slice A3 r.drives.length c3)) (first
      | exact ⟨m0, m1, m2, m3, m4, m5, m6⟩
      | exact ⟨n0, n1, n2, n3, n4, n5, n6⟩)
      (first
      | (go_at_call 38; refine (Hsz.out w1.drew Hl1.out).mono ?_; rintro e w' ⟨rfl, rfl⟩)
      | (go_at_call 57; refine Hrn.out.mono ?_; rintro e w2 ⟨A4, c4, rfl, hown2, hb2⟩; have n0 : w2.cell? ⟨w.heap.size, 0, none⟩ = some (.int .i64 r.kind) := (hb2.cell (blk_lt Hm1.out)).trans m0; have n1 : w2.cell? ⟨w.heap.size, 1, none⟩ = some (.int .i64 r.id) := (hb2.cell (blk_lt Hm1.out)).trans m1; have n2 : w2.cell? ⟨w.heap.size, 2, none⟩ = some (.int .i64 r.size) := (hb2.cell (blk_lt Hm1.out)).trans m2; have n3 : w2.cell? ⟨w.heap.size, 3, none⟩ = some (.string kv) := (hb2.cell (blk_lt Hm1.out)).trans m3; have n4 : w2.cell? ⟨w.heap.size, 4, none⟩ = some (.slice A r.stripes.length c) := (hb2.cell (blk_lt Hm1.out)).trans m4; have n5 : w2.cell? ⟨w.heap.size, 5, none⟩ = some (.slice A2 r.objects.length c2) := (hb2.cell (blk_lt Hm1.out)).trans m5; have n6 : w2.cell? ⟨w.heap.size, 6, none⟩ = some (.slice A3 r.drives.length c3) := (hb2.cell (blk_lt Hm1.out)).trans m6))
    have hb2' : Below w1.heap.size w1 w2 := ⟨hb2.os, hb2.tape, hb2.output, hb2.size, hb2.block⟩
    have hbb : Below w.heap.size w w2 := hb1.trans (hb2'.mono hb1.size)
    have hl2 : LogAt w2 q g x.size x.down := (hb2.block q (blk_lt Hl1.out)).trans Hl1.out
    have ht2 := Htp.out.keep (hbb.block g hgw) (fun k hk _ => hbb.block k hk)
    have hrv := (OwnB.rvb hown2).imp (P' := (· ≠ g)) fun k _ hk => by have := hb1.size; have h9 : w1.heap.size ≤ k := hk; show k ≠ g; omega
    have l0 : w2.cell? ⟨q, 0, none⟩ = some (.pointer (some ⟨g, 0, none⟩)) := blk_cell hl2 0
    have Hap := Lib.hid (Htap.out w2 ht2 hbb.size A4 c4 hrv)
    clear ht2 hrv n0 n1 n2 n3 n4 n5 n6 m0 m1 m2 m3 m4 m5 m6 hown2
    have Hl2 := Lib.hid hl2; clear hl2
    go_wp2_with fail
    refine Hap.out.mono ?_
    rintro e w3 ⟨rfl, ht3, hg3⟩
    have hl3 : LogAt w3 q g x.size x.down := (hg3.block q (blk_lt Hl2.out) (by simpa using hqg)).trans Hl2.out
    have Ht3 := Lib.hid ht3; clear ht3
    go_wp2_with fail
    refine (Hsz.out w3 hl3).mono ?_
    rintro e w' ⟨rfl, rfl⟩
    have Hl3 := Lib.hid hl3; clear hl3
    have hel := Hel.out
    go_wp2_with fail
    have hdn := done_any w3 q g x.size (x.size + en.length) x.down Hl3.out m
    rw [Int.natCast_add] at hdn
    refine hdn.mono ?_
    rintro e w4 ⟨rfl, hl4, hg4⟩
    go_wp2_with fail
    go_ret
    rw [Hy.out]
    exact ⟨rfl, ⟨Ht3.out.keep (hg4.block g (Nat.lt_of_lt_of_le hgw (Nat.le_trans hbb.size hg3.size)) (by simpa using Ne.symm hqg)) (fun k hk hp => hg4.block k hk (by simpa using (hPg k hp).2)), hl4⟩, ((Two.of_below hbb).trans (Two.of_g hg3)).trans (Two.of_q hg4)⟩
  · have hap : appendL x r = (⟨x.t, x.size, if roomE x.down r x.size = 9 then true else x.down⟩, roomE x.down r x.size) := by unfold appendL; rw [if_pos hre]
    rw [hap]
    have hrn : Calls Try.prog 57 #[.pointer (some ⟨q, 0, none⟩), .agg #[.int .i64 r.kind, .int .i64 r.id, .int .i64 r.size, .string kv, .slice A r.stripes.length c, .slice A2 r.objects.length c2, .slice A3 r.drives.length c3], .int .i64 x.size] w1.drew fun e w' => e = .returned (.tuple #[.slice none 0 0, .int .i64 (roomE x.down r x.size)]) ∧ Below w1.heap.size w1.drew w' :=
      hrm.mono fun e w' ⟨h1, h2⟩ => by
        rcases h2 with ⟨_, h2⟩ | ⟨h2, _⟩
        · exact ⟨h2, h1⟩
        · exact absurd h2 hre
    generalize roomE x.down r x.size = m at hrn hre
    obtain ⟨y, hy⟩ : ∃ y : WLog × Int, y = (⟨x.t, x.size, if m = 9 then true else x.down⟩, m) := ⟨_, rfl⟩
    rw [← hy]
    have Hrn := Lib.hid hrn; have Hre := Lib.hid hre; have Hy := Lib.hid hy
    clear hrn hrm hap hre hy
    go_enter Try.func35, Try.ntmps35
    go_wp2_with fail
    rw [Hw1.out]
    go_region_held3 (fun w' => w'.cell? ⟨w.heap.size, 0, none⟩ = some (.int .i64 r.kind) ∧ w'.cell? ⟨w.heap.size, 1, none⟩ = some (.int .i64 r.id) ∧ w'.cell? ⟨w.heap.size, 2, none⟩ = some (.int .i64 r.size) ∧ w'.cell? ⟨w.heap.size, 3, none⟩ = some (.string kv) ∧ w'.cell? ⟨w.heap.size, 4, none⟩ = some (.slice A r.stripes.length c) ∧ w'.cell? ⟨w.heap.size, 5, none⟩ = some (.slice A2 r.objects.length c2) ∧ w'.cell? ⟨w.heap.size, 6, none⟩ = some (.slice A3 r.drives.length c3)) (first
      | exact ⟨m0, m1, m2, m3, m4, m5, m6⟩
      | exact ⟨n0, n1, n2, n3, n4, n5, n6⟩)
      (first
      | (go_at_call 38; refine (Hsz.out w1.drew Hl1.out).mono ?_; rintro e w' ⟨rfl, rfl⟩)
      | (go_at_call 57; refine Hrn.out.mono ?_; rintro e w2 ⟨rfl, hb2⟩; have n0 : w2.cell? ⟨w.heap.size, 0, none⟩ = some (.int .i64 r.kind) := (hb2.cell (blk_lt Hm1.out)).trans m0; have n1 : w2.cell? ⟨w.heap.size, 1, none⟩ = some (.int .i64 r.id) := (hb2.cell (blk_lt Hm1.out)).trans m1; have n2 : w2.cell? ⟨w.heap.size, 2, none⟩ = some (.int .i64 r.size) := (hb2.cell (blk_lt Hm1.out)).trans m2; have n3 : w2.cell? ⟨w.heap.size, 3, none⟩ = some (.string kv) := (hb2.cell (blk_lt Hm1.out)).trans m3; have n4 : w2.cell? ⟨w.heap.size, 4, none⟩ = some (.slice A r.stripes.length c) := (hb2.cell (blk_lt Hm1.out)).trans m4; have n5 : w2.cell? ⟨w.heap.size, 5, none⟩ = some (.slice A2 r.objects.length c2) := (hb2.cell (blk_lt Hm1.out)).trans m5; have n6 : w2.cell? ⟨w.heap.size, 6, none⟩ = some (.slice A3 r.drives.length c3) := (hb2.cell (blk_lt Hm1.out)).trans m6))
    have hl2 : LogAt w2 q g x.size x.down := (hb2.block q (blk_lt Hl1.out)).trans Hl1.out
    have hre := Hre.out
    go_wp2_with fail
    refine (Hsz.out w2 hl2).mono ?_
    rintro e w' ⟨rfl, rfl⟩
    go_wp2_with fail
    refine (done_any w2 q g x.size x.size x.down hl2 m).mono ?_
    rintro e w3 ⟨rfl, hl3, hg3⟩
    go_wp2_with fail
    go_ret
    have hb2' : Below w1.heap.size w1 w2 := ⟨hb2.os, hb2.tape, hb2.output, hb2.size, hb2.block⟩
    have hbb : Below w.heap.size w w2 := hb1.trans (hb2'.mono hb1.size)
    rw [Hy.out]
    refine ⟨rfl, ⟨?_, by rw [if_neg hre] at hl3; exact hl3⟩, (Two.of_below hbb).trans (Two.of_q hg3)⟩
    have ht2 := Htp.out.keep (hbb.block g (by obtain ⟨_, _, _, _, hb, _⟩ := Htp.out; exact blk_lt hb)) (fun k hk _ => hbb.block k hk)
    exact ht2.keep (hg3.block g (Nat.lt_of_lt_of_le (by obtain ⟨_, _, _, _, hb, _⟩ := Htp.out; exact blk_lt hb) hbb.size) (by simpa using Ne.symm hqg)) (fun k hk hp => hg3.block k hk (by simpa using (hPg k hp).2))

set_option maxRecDepth 100000 in
set_option maxHeartbeats 1000000 in
theorem check_any (w : World) (q g : Nat) (P : Nat → Prop) (x : WLog) (h : WalAt w q g P x) (hP : ∀ k, w.heap.size ≤ k → P k) (hPg : ∀ k, P k → k ≠ g ∧ k ≠ q) (hqg : q ≠ g) (hf63 : x.t.fuse ≤ 9223372036854775807)
    (r : PRec) (hroom : Room r) (vs : List Value) (hr : RecVal w (· < w.heap.size) r vs) (hl0 : x.t.s0.b.length ≤ 1000000) (hl1 : x.t.s1.b.length ≤ 1000000) :
    Calls Try.prog 39 #[.pointer (some ⟨q, 0, none⟩), .agg vs.toArray] w (LogPost w q g P (checkL x r)) := by
  obtain ⟨htp, hlg⟩ := h
  have hr0 := hr
  obtain ⟨A, c, A2, c2, A3, c3, rfl, -, -, -, -, -, -⟩ := hr
  obtain ⟨kv, hkv⟩ : ∃ kv, sv r.key = .string kv := ⟨_, rfl⟩
  rw [hkv] at hr0 ⊢
  obtain ⟨w1, hw1⟩ : ∃ w1, w.alloc (.cells #[.int .i64 r.kind, .int .i64 r.id, .int .i64 r.size, .string kv, .slice A r.stripes.length c, .slice A2 r.objects.length c2, .slice A3 r.drives.length c3] 51) = w1 := ⟨_, rfl⟩
  have hb1 : Below w.heap.size w w1 := hw1 ▸ (Below.refl _ w).alloc (Nat.le_refl _) _
  have hm1 : w1.heap[w.heap.size]? = some (.cells #[.int .i64 r.kind, .int .i64 r.id, .int .i64 r.size, .string kv, .slice A r.stripes.length c, .slice A2 r.objects.length c2, .slice A3 r.drives.length c3] 51 (0, 0)) := hw1 ▸ heap_alloc_new w _
  have hl1' : LogAt w1 q g x.size x.down := (hb1.block q (blk_lt hlg)).trans hlg
  have hrec1 : RecVal w1 (· < w1.heap.size) r [.int .i64 r.kind, .int .i64 r.id, .int .i64 r.size, .string kv, .slice A r.stripes.length c, .slice A2 r.objects.length c2, .slice A3 r.drives.length c3] := (RecVal.below hr0 hb1).imp fun k hk _ => hk
  have hrm := room_any w1 q g x.size x.down hl1' r hroom [.int .i64 r.kind, .int .i64 r.id, .int .i64 r.size, .string kv, .slice A r.stripes.length c, .slice A2 r.objects.length c2, .slice A3 r.drives.length c3] hrec1 0 (by omega)
  have m0 : w1.cell? ⟨w.heap.size, 0, none⟩ = some (.int .i64 r.kind) := blk_cell hm1 0
  have m1 : w1.cell? ⟨w.heap.size, 1, none⟩ = some (.int .i64 r.id) := blk_cell hm1 1
  have m2 : w1.cell? ⟨w.heap.size, 2, none⟩ = some (.int .i64 r.size) := blk_cell hm1 2
  have m3 : w1.cell? ⟨w.heap.size, 3, none⟩ = some (.string kv) := blk_cell hm1 3
  have m4 : w1.cell? ⟨w.heap.size, 4, none⟩ = some (.slice A r.stripes.length c) := blk_cell hm1 4
  have m5 : w1.cell? ⟨w.heap.size, 5, none⟩ = some (.slice A2 r.objects.length c2) := blk_cell hm1 5
  have m6 : w1.cell? ⟨w.heap.size, 6, none⟩ = some (.slice A3 r.drives.length c3) := blk_cell hm1 6
  have Hw1 := Lib.hid hw1; have Hl1 := Lib.hid hl1'; have Hm1 := Lib.hid hm1; have Htp := Lib.hid htp; have Hhlg := Lib.hid hlg; have Hrec1 := Lib.hid hrec1; have Hr0 := Lib.hid hr0; have Hkv := Lib.hid hkv
  clear hw1 hl1' hm1 htp hlg hrec1 hr0 hkv
  by_cases hre : roomE x.down r 0 = 0
  · have hroom0 := hre
    have hap : checkL x r = (⟨(writeT x.t (entryOf (encRec r)) true).1, if (writeT x.t (entryOf (encRec r)) true).2 = 0 then (entryOf (encRec r)).length else x.size, if (writeT x.t (entryOf (encRec r)) true).2 = 9 then true else x.down⟩, (writeT x.t (entryOf (encRec r)) true).2) := by unfold checkL; rw [if_neg (by rw [hre]; decide)]
    have hel : (entryOf (encRec r)).length ≤ 8200 := by
      have := entryOf_length (encRec r)
      have h8 : (encRec r).length ≤ 8192 := by
        unfold roomE at hre
        by_cases h1 : x.down = true
        · rw [if_pos h1] at hre; exact absurd hre (by decide)
        · rw [if_neg h1] at hre
          by_cases h2 : badRec r = true
          · rw [if_pos h2] at hre; exact absurd hre (by decide)
          · rw [if_neg h2] at hre
            by_cases h3 : 8192 < (encRec r).length
            · rw [if_pos h3] at hre; exact absurd hre (by decide)
            · omega
      omega
    rw [hap]
    have hrn : Calls Try.prog 57 #[.pointer (some ⟨q, 0, none⟩), .agg #[.int .i64 r.kind, .int .i64 r.id, .int .i64 r.size, .string kv, .slice A r.stripes.length c, .slice A2 r.objects.length c2, .slice A3 r.drives.length c3], .int .i64 0] w1 fun e w' => ∃ A4 c4, e = .returned (.tuple #[.slice A4 (entryOf (encRec r)).length c4, .int .i64 0]) ∧ OwnB w' w1.heap.size (.slice A4 (entryOf (encRec r)).length c4) (entryOf (encRec r)) ∧ Below w1.heap.size w1 w' :=
      hrm.mono fun e w' ⟨h1, h2⟩ => by
        rcases h2 with ⟨h2, _⟩ | ⟨_, v, h2, h3⟩
        · exact absurd hre h2
        · obtain ⟨A4, c4, rfl, _, _, _⟩ := h3.form
          exact ⟨A4, c4, h2, h3, h1⟩
    generalize entryOf (encRec r) = en at hrn hel
    have hgw : g < w.heap.size := by obtain ⟨_, _, _, _, hb, _⟩ := Htp.out; exact blk_lt hb
    have htap := fun (w' : World) (h' : TapeAt w' g P x.t) (hsz : w.heap.size ≤ w'.heap.size) (A4 : Option Addr) (c4 : Nat) (hrv : RVb w' (· ≠ g) A4 (en.map bv)) => tReplace_any w' g P x.t h' (fun k hk => hP k (Nat.le_trans hsz hk)) (fun k hk => (hPg k hk).1) hf63 A4 c4 en hrv (by omega) (by omega)
    generalize writeT x.t en true = wr at htap
    obtain ⟨wt, m⟩ := wr
    dsimp only
    obtain ⟨y, hy⟩ : ∃ y : WLog × Int, y = (⟨wt, if m = 0 then en.length else x.size, if m = 9 then true else x.down⟩, m) := ⟨_, rfl⟩
    rw [← hy]
    have Hrn := Lib.hid hrn; have Hy := Lib.hid hy; have Hel := Lib.hid hel; have Htap := Lib.hid htap
    clear hrn hrm hap hre hy hel htap hroom0
    go_enter Try.func39, Try.ntmps39
    go_wp2_with fail
    rw [Hw1.out]
    refine Hrn.out.mono ?_
    rintro e w2 ⟨A4, c4, rfl, hown2, hb2⟩
    have hb2' : Below w1.heap.size w1 w2 := ⟨hb2.os, hb2.tape, hb2.output, hb2.size, hb2.block⟩
    have hbb : Below w.heap.size w w2 := hb1.trans (hb2'.mono hb1.size)
    have hl2 : LogAt w2 q g x.size x.down := (hb2.block q (blk_lt Hl1.out)).trans Hl1.out
    have ht2 := Htp.out.keep (hbb.block g hgw) (fun k hk _ => hbb.block k hk)
    have hrv := (OwnB.rvb hown2).imp (P' := (· ≠ g)) fun k _ hk => by have := hb1.size; have h9 : w1.heap.size ≤ k := hk; show k ≠ g; omega
    have l0 : w2.cell? ⟨q, 0, none⟩ = some (.pointer (some ⟨g, 0, none⟩)) := blk_cell hl2 0
    have Hap := Lib.hid (Htap.out w2 ht2 hbb.size A4 c4 hrv)
    clear ht2 hrv m0 m1 m2 m3 m4 m5 m6 hown2
    have Hl2 := Lib.hid hl2; clear hl2
    go_wp2_with fail
    refine Hap.out.mono ?_
    rintro e w3 ⟨rfl, ht3, hg3⟩
    have hl3 : LogAt w3 q g x.size x.down := (hg3.block q (blk_lt Hl2.out) (by simpa using hqg)).trans Hl2.out
    have Ht3 := Lib.hid ht3; clear ht3
    go_wp2_with fail
    have hdn := done_any w3 q g x.size en.length x.down hl3 m
    refine hdn.mono ?_
    rintro e w4 ⟨rfl, hl4, hg4⟩
    go_wp2_with fail
    go_ret
    rw [Hy.out]
    exact ⟨rfl, ⟨Ht3.out.keep (hg4.block g (Nat.lt_of_lt_of_le hgw (Nat.le_trans hbb.size hg3.size)) (by simpa using Ne.symm hqg)) (fun k hk hp => hg4.block k hk (by simpa using (hPg k hp).2)), hl4⟩, ((Two.of_below hbb).trans (Two.of_g hg3)).trans (Two.of_q hg4)⟩
  · have hap : checkL x r = (⟨x.t, x.size, if roomE x.down r 0 = 9 then true else x.down⟩, roomE x.down r 0) := by unfold checkL; rw [if_pos hre]
    rw [hap]
    have hrn : Calls Try.prog 57 #[.pointer (some ⟨q, 0, none⟩), .agg #[.int .i64 r.kind, .int .i64 r.id, .int .i64 r.size, .string kv, .slice A r.stripes.length c, .slice A2 r.objects.length c2, .slice A3 r.drives.length c3], .int .i64 0] w1 fun e w' => e = .returned (.tuple #[.slice none 0 0, .int .i64 (roomE x.down r 0)]) ∧ Below w1.heap.size w1 w' :=
      hrm.mono fun e w' ⟨h1, h2⟩ => by
        rcases h2 with ⟨_, h2⟩ | ⟨h2, _⟩
        · exact ⟨h2, h1⟩
        · exact absurd h2 hre
    generalize roomE x.down r 0 = m at hrn hre
    obtain ⟨y, hy⟩ : ∃ y : WLog × Int, y = (⟨x.t, x.size, if m = 9 then true else x.down⟩, m) := ⟨_, rfl⟩
    rw [← hy]
    have Hrn := Lib.hid hrn; have Hre := Lib.hid hre; have Hy := Lib.hid hy
    clear hrn hrm hap hre hy
    go_enter Try.func39, Try.ntmps39
    go_wp2_with fail
    rw [Hw1.out]
    refine Hrn.out.mono ?_
    rintro e w2 ⟨rfl, hb2⟩
    have hl2 : LogAt w2 q g x.size x.down := (hb2.block q (blk_lt Hl1.out)).trans Hl1.out
    have hre := Hre.out
    go_wp2_with fail
    refine (done_any w2 q g x.size 0 x.down hl2 m).mono ?_
    rintro e w3 ⟨rfl, hl3, hg3⟩
    go_wp2_with fail
    go_ret
    have hb2' : Below w1.heap.size w1 w2 := ⟨hb2.os, hb2.tape, hb2.output, hb2.size, hb2.block⟩
    have hbb : Below w.heap.size w w2 := hb1.trans (hb2'.mono hb1.size)
    rw [Hy.out]
    refine ⟨rfl, ⟨?_, by rw [if_neg hre] at hl3; exact hl3⟩, (Two.of_below hbb).trans (Two.of_q hg3)⟩
    have ht2 := Htp.out.keep (hbb.block g (by obtain ⟨_, _, _, _, hb, _⟩ := Htp.out; exact blk_lt hb)) (fun k hk _ => hbb.block k hk)
    exact ht2.keep (hg3.block g (Nat.lt_of_lt_of_le (by obtain ⟨_, _, _, _, hb, _⟩ := Htp.out; exact blk_lt hb) hbb.size) (by simpa using Ne.symm hqg)) (fun k hk hp => hg3.block k hk (by simpa using (hPg k hp).2))
end Go.Proofs.Ytmleldgohfcdbaa
