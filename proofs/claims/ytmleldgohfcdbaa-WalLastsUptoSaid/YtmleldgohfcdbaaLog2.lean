/- wal's room. -/
import Derived.Test.YtmleldgohfcdbaaLog
namespace Go.Proofs.Ytmleldgohfcdbaa
set_option linter.unusedVariables false
set_option linter.unusedSimpArgs false
open Go.RowKit
def roomE (d : Bool) (r : PRec) (ahead : Nat) : Int :=
  if d then 9 else if badRec r then 2 else if 8192 < (encRec r).length then 4 else if 16384 < ahead + (8 + (encRec r).length) then 3 else 0
def RoomPost (w : World) (r : PRec) (d : Bool) (ahead : Nat) (e : Ending) (w' : World) : Prop :=
  Below w.heap.size w w' ∧ ((roomE d r ahead ≠ 0 ∧ e = .returned (.tuple #[.slice none 0 0, .int .i64 (roomE d r ahead)])) ∨
    (roomE d r ahead = 0 ∧ ∃ v, e = .returned (.tuple #[v, .int .i64 0]) ∧ OwnB w' w.heap.size v (entryOf (encRec r))))
set_option maxRecDepth 100000 in
set_option maxHeartbeats 1000000 in
theorem room_any (w : World) (q g s : Nat) (d : Bool) (h : LogAt w q g s d) (r : PRec) (hroom : Room r) (vs : List Value) (hr : RecVal w (· < w.heap.size) r vs) (ahead : Nat) (ha : ahead ≤ 16384) :
    Calls Try.prog 57 #[.pointer (some ⟨q, 0, none⟩), .agg vs.toArray, .int .i64 ahead] w (RoomPost w r d ahead) := by
  obtain ⟨A, c, A2, c2, A3, c3, rfl, h1, h2, h3, h4, h5, h6⟩ := hr
  obtain ⟨kv, hkv⟩ : ∃ kv, sv r.key = .string kv := ⟨_, rfl⟩
  rw [hkv]
  obtain ⟨w1, hw1⟩ : ∃ w1, w.alloc (.cells #[.int .i64 r.kind, .int .i64 r.id, .int .i64 r.size, .string kv, .slice A r.stripes.length c, .slice A2 r.objects.length c2, .slice A3 r.drives.length c3] 51) = w1 := ⟨_, rfl⟩
  have hb1 : Below w.heap.size w w1 := hw1 ▸ (Below.refl _ w).alloc (Nat.le_refl _) _
  have hm1 : w1.heap[w.heap.size]? = some (.cells #[.int .i64 r.kind, .int .i64 r.id, .int .i64 r.size, .string kv, .slice A r.stripes.length c, .slice A2 r.objects.length c2, .slice A3 r.drives.length c3] 51 (0, 0)) := hw1 ▸ heap_alloc_new w _
  have hl1 : LogAt w1 q g s d := (hb1.block q (blk_lt h)).trans h
  have hrec : RecVal w1 (· < w1.heap.size) r [.int .i64 r.kind, .int .i64 r.id, .int .i64 r.size, .string kv, .slice A r.stripes.length c, .slice A2 r.objects.length c2, .slice A3 r.drives.length c3] :=
    (RecVal.below (w := w) ⟨A, c, A2, c2, A3, c3, by rw [hkv], h1, h2, h3, h4, h5, h6⟩ hb1).imp fun k hk _ => hk
  have henc := encode_any w1 r hroom _ hrec
  have Henc := Lib.hid henc; have Hw1 := Lib.hid hw1; have Hm1 := Lib.hid hm1
  have l2 : w1.cell? ⟨q, 2, none⟩ = some (.bool d) := blk_cell hl1 2
  clear henc hrec h1 h2 h3 h4 h5 h6 hm1 hl1 hkv
  subst hw1
  cases d with
  | true =>
    go_enter Try.func57, Try.ntmps57
    go_wp2_with fail
    go_ret2
    exact ⟨hb1, .inl ⟨by unfold roomE; simp, rfl⟩⟩
  | false =>
    go_enter Try.func57, Try.ntmps57
    go_wp2_with fail
    refine Henc.out.mono ?_
    rintro e w2 ⟨hb2, hp⟩
    have hbb : Below w.heap.size w w2 := hb1.trans (hb2.mono hb1.size)
    rcases hp with ⟨hbad, rfl⟩ | ⟨hbad, h8, rfl⟩ | ⟨hbad, h8, v, rfl, hown⟩
    · have he : roomE false r ahead = 2 := by unfold roomE; rw [if_neg (by decide), if_pos hbad]
      have He := Lib.hid he; clear he hbad
      go_wp2_with fail
      go_ret2
      exact ⟨hbb, .inl ⟨by rw [He.out]; decide, by rw [He.out]; rfl⟩⟩
    · have he : roomE false r ahead = 4 := by unfold roomE; rw [if_neg (by decide), if_neg (by rw [hbad]; decide), if_pos h8]
      have He := Lib.hid he; clear he hbad
      go_wp2_with fail
      go_ret2
      exact ⟨hbb, .inl ⟨by rw [He.out]; decide, by rw [He.out]; rfl⟩⟩
    · obtain ⟨Av, cv, rfl, hlv, _, hrv⟩ := hown.form
      have he : roomE false r ahead = if 16384 < ahead + (8 + (encRec r).length) then 3 else 0 := by unfold roomE; rw [if_neg (by decide), if_neg (by rw [hbad]; decide), if_neg (by omega)]
      have hfr := walFrame_any Av cv w2 (encRec r) (by omega) hlv hrv
      have hel := entryOf_length (encRec r)
      obtain ⟨en, hen⟩ : ∃ en, entryOf (encRec r) = en := ⟨_, rfl⟩
      rw [hen] at hfr hel
      have Hen := Lib.hid hen; have Hel := Lib.hid hel; clear hen hel
      have Hfr := Lib.hid hfr; have Hbad := Lib.hid hbad
      clear hfr hbad
      go_wp2_with fail
      refine Hfr.out.mono ?_
      rintro e w3 ⟨v3, rfl, hown3, hb3⟩
      obtain ⟨A4, c4, rfl, hl4, _, hr4⟩ := hown3.form
      have hbb3 : Below w.heap.size w w3 := hbb.trans (hb3.mono hbb.size)
      by_cases hf : 16384 < ahead + (8 + (encRec r).length)
      · rw [if_pos hf] at he
        have He := Lib.hid he; clear he
        have hf2 : (16384 : Int) - ahead < en.length := by have := Hel.out; omega
        go_wp2_with fail
        go_ret2
        exact ⟨hbb3, .inl ⟨by rw [He.out]; decide, by rw [He.out]; rfl⟩⟩
      · rw [if_neg hf] at he
        have He := Lib.hid he; clear he
        have hf2 : (en.length : Int) ≤ (16384 : Int) - ahead := by have := Hel.out; omega
        go_wp2_with fail
        go_ret2
        exact ⟨hbb3, .inr ⟨He.out, .slice A4 en.length c4, rfl, by rw [Hen.out]; exact World.ownsRow_base hown3 hbb.size⟩⟩
end Go.Proofs.Ytmleldgohfcdbaa
