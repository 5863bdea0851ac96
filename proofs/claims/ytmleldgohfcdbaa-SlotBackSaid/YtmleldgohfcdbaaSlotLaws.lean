/- The walks of the laws on frames. -/
import Derived.Test.YtmleldgohfcdbaaSlotRef
import Derived.Lib.SlBytesConst
namespace Go.Proofs.Ytmleldgohfcdbaa
open Go.RowKit
theorem frame_le (s p : Nat) (b : List UInt8) : (frameOf s p (b.take 50)).length ≤ 60 := by rw [frameOf_length, List.length_take]; omega
/-- Open, of a frame that was just made. -/
theorem open_some_any {A : Option Addr} {c : Nat} {w : World} {l : List UInt8} {s p : Nat} {b : List UInt8} (hn : l.length ≤ 100000000000) (hlc : l.length ≤ c) (hr : RB w A l) (h : openOf l = some (s, p, b)) :
    Calls Try.prog 22 #[.slice A l.length c] w fun e w' => ∃ v, e = .returned (.tuple #[.int .i64 s, .int .i64 p, v, .bool true]) ∧ OwnB w' w.heap.size v b ∧ Below w.heap.size w w' := by
  have := open_any A c w l hn hlc hr
  rw [h] at this
  exact this
theorem open_none_any {A : Option Addr} {c : Nat} {w : World} {l : List UInt8} (hn : l.length ≤ 100000000000) (hlc : l.length ≤ c) (hr : RB w A l) (h : openOf l = none) :
    Calls Try.prog 22 #[.slice A l.length c] w fun e w' => e = .returned (.tuple #[.int .i64 0, .int .i64 0, .slice none 0 0, .bool false]) ∧ Below w.heap.size w w' := by
  have := open_any A c w l hn hlc hr
  rw [h] at this
  exact this
set_option maxRecDepth 100000 in
set_option maxHeartbeats 1000000 in
theorem answers7_any (w : World) : Calls Try.prog 20 #[] w fun e w' => e = .returned (.bool true) ∧ Below w.heap.size w w' := by
  have kc := fun (w : World) (C : Array Value) (n c : Nat) => Lib.run_convert_bytes_const (P := Try.prog) w 22 5 C n c Try.underlying22 Try.underlying5
  obtain ⟨fo, hfo⟩ : ∃ fo, frameOf 5 3 [97, 98] = fo := ⟨_, rfl⟩
  have hop := open_frame 5 3 [97, 98] (by omega) (by omega) (by simp)
  have hfl := frame_le 5 3 [97, 98]
  rw [show ([97, 98] : List UInt8).take 50 = [97, 98] from rfl, hfo] at hfl
  rw [hfo] at hop
  have Hop := Lib.hid hop
  have Hfo := Lib.hid hfo
  clear hop hfo
  go_enter Try.func20, Try.ntmps20
  go_wp2_with fail
  refine (frame_any 5 3 (by omega) _ 2 _ [97, 98] (by simp) (by simp) (RB_new w [97, 98] 5 (2, 3))).mono ?_
  rintro e w1 ⟨v1, rfl, hown1, hb1⟩
  rw [show ([97, 98] : List UInt8).take 50 = [97, 98] from rfl, Hfo.out] at hown1
  obtain ⟨A1, c1, rfl, hl1, _, hr1⟩ := hown1.form
  have hb1' : Below w.heap.size w w1 := ((Below.refl _ w).alloc (Nat.le_refl _) _).trans (hb1.mono (by simp))
  go_wp2_with fail
  refine (open_some_any (by omega) hl1 hr1 Hop.out).mono ?_
  rintro e w2 ⟨v2, rfl, hown2, hb2⟩
  obtain ⟨A2, c2, rfl, hl2, _, hr2⟩ := hown2.form
  have hst : (convert 22 9 (.slice A2 2 c2)).run Try.prog w2 = .ok (.string ⟨#[97, 98]⟩) w2 := run_str w2 hr2 c2
  go_wp2_with fail
  go_ret
  exact ⟨rfl, hb1'.trans (hb2.mono hb1'.size)⟩
set_option maxRecDepth 100000 in
set_option maxHeartbeats 1000000 in
theorem slotReads_any (A : Option Addr) (c : Nat) (w : World) (l : List UInt8) (hlc : l.length ≤ c) (hr : RB w A l) :
    Calls Try.prog 7 #[.slice A l.length c] w fun e w' => e = .returned (.bool true) ∧ Below w.heap.size w w' := by
  by_cases h200 : 200 < l.length
  · go_enter Try.func7, Try.ntmps7
    go_wp2_with fail
    refine (answers7_any _).mono ?_
    rintro e w1 ⟨rfl, hb1⟩
    go_wp2_with fail
    go_ret
    exact ⟨rfl, hb1⟩
  cases ho : openOf l with
  | none =>
    have h1 := fun w' (hr' : RB w' A l) => open_none_any (c := c) (w := w') (by omega) hlc hr' ho
    have h2 := fun w' (hr' : RB w' A l) => openRef_any A c w' l (by omega) hlc hr'
    rw [ho] at h2
    have H1 := Lib.hid h1
    have H2 := Lib.hid h2
    clear h1 h2 ho
    go_enter Try.func7, Try.ntmps7
    go_wp2_with fail
    refine (H1.out w hr).mono ?_
    rintro e w1 ⟨rfl, hb1⟩
    go_wp2_with fail
    refine (H2.out w1 (hr.below hb1)).mono ?_
    rintro e w2 ⟨rfl, hb2⟩
    go_wp2_with fail
    refine (answers7_any _).mono ?_
    rintro e w3 ⟨rfl, hb3⟩
    go_wp2_with fail
    refine (same_any none none 0 0 w3 [] [] (by simp) (by simp) RB.none_ RB.none_).mono ?_
    rintro e w4 ⟨rfl, n, rfl⟩
    go_wp2_with fail
    go_ret
    have hb := (hb1.trans (hb2.mono hb1.size)).trans (hb3.mono (Nat.le_trans hb1.size hb2.size))
    exact ⟨rfl, ⟨hb.os, hb.tape, hb.output, hb.size, hb.block⟩⟩
  | some x =>
    obtain ⟨s, p, b⟩ := x
    have hbl : b.length ≤ 200 := by
      obtain ⟨_, _, _, _, hx, _⟩ := open_some ho
      simp only [Prod.mk.injEq] at hx
      rw [hx.2.2, List.length_drop, List.length_take]
      omega
    have h1 := fun w' (hr' : RB w' A l) => open_some_any (c := c) (w := w') (by omega) hlc hr' ho
    have h2 := fun w' (hr' : RB w' A l) => openRef_any A c w' l (by omega) hlc hr'
    rw [ho] at h2
    have H1 := Lib.hid h1
    have H2 := Lib.hid h2
    clear h1 h2 ho
    go_enter Try.func7, Try.ntmps7
    go_wp2_with fail
    refine (H1.out w hr).mono ?_
    rintro e w1 ⟨v1, rfl, hown1, hb1⟩
    obtain ⟨A1, c1, rfl, hl1, _, hr1⟩ := hown1.form
    go_wp2_with fail
    refine (H2.out w1 (hr.below hb1)).mono ?_
    rintro e w2 ⟨A2, c2, rfl, hr2, hb2⟩
    go_wp2_with fail
    refine (answers7_any _).mono ?_
    rintro e w3 ⟨rfl, hb3⟩
    have hb23 := hb2.trans (hb3.mono hb2.size)
    go_wp2_with fail
    refine (same_any A1 A2 c1 c2 w3 b b (by omega) (by omega) (hr1.below hb23) (hr2.below hb23)).mono ?_
    rintro e w4 ⟨rfl, n, rfl⟩
    rw [beq_self_eq_true]
    go_wp2_with fail
    go_ret
    have hb := hb1.trans (hb23.mono hb1.size)
    exact ⟨rfl, ⟨hb.os, hb.tape, hb.output, hb.size, hb.block⟩⟩
end Go.Proofs.Ytmleldgohfcdbaa
