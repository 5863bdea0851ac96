/- ref09.Same: are records the same? -/
import Derived.Test.YtmleldgohfcdbaaRefSame
import Derived.Test.YtmleldgohfcdbaaOpenArg
namespace Go.Proofs.Ytmleldgohfcdbaa
set_option linter.unusedVariables false
set_option linter.unusedSimpArgs false
open Go.RowKit
theorem rec_eq {a b : PRec} (h0 : a.kind = b.kind) (h1 : a.id = b.id) (h2 : a.size = b.size) (h3 : a.key = b.key) (h4 : a.stripes = b.stripes) (h5 : a.objects = b.objects) (h6 : a.drives = b.drives) : a = b := by
  cases a; cases b; simp_all
/-- Lengths that a memory has. -/
def LenR (r : PRec) : Prop := r.stripes.length ≤ 140737488355328 ∧ (∀ s ∈ r.stripes, s.locs.length ≤ 140737488355328) ∧ r.objects.length ≤ 140737488355328 ∧ (∀ o ∈ r.objects, o.stripes.length ≤ 140737488355328 ∧ ∀ s ∈ o.stripes, s.locs.length ≤ 140737488355328) ∧ r.drives.length ≤ 140737488355328
def SamePost {α : Type} (w : World) (a b : α) (e : Ending) (w' : World) : Prop := e = .returned (.bool (eqB a b)) ∧ Below w.heap.size w w'
set_option maxRecDepth 100000 in
set_option maxHeartbeats 1000000 in
theorem refSame_any (w : World) (P Q : Nat → Prop) (a b : PRec) (va vb : List Value) (ha : RecVal w P a va) (hb : RecVal w Q b vb) (hla : LenR a) (hlb : LenR b) :
    Calls Try.prog 51 #[.agg va.toArray, .agg vb.toArray] w (SamePost w a b) := by
  obtain ⟨A1, A1c, A2, A2c, A3, A3c, rfl, a1, a2, a3, a4, a5, a6⟩ := ha
  obtain ⟨B1, B1c, B2, B2c, B3, B3c, rfl, b1, b2, b3, b4, b5, b6⟩ := hb
  obtain ⟨ka, hsa, hka⟩ := str_name a.key
  obtain ⟨kb, hsb, hkb⟩ := str_name b.key
  rw [hsa, hsb]
  obtain ⟨w0, hw0⟩ : ∃ w0, w.alloc (.cells #[.int .i64 a.kind, .int .i64 a.id, .int .i64 a.size, .string ka, .slice A1 a.stripes.length A1c, .slice A2 a.objects.length A2c, .slice A3 a.drives.length A3c] 51) = w0 := ⟨_, rfl⟩
  have hs0 : w0.heap.size = w.heap.size + 1 := by rw [← hw0]; simp
  obtain ⟨w1, hw1⟩ : ∃ w1, w0.alloc (.cells #[.int .i64 b.kind, .int .i64 b.id, .int .i64 b.size, .string kb, .slice B1 b.stripes.length B1c, .slice B2 b.objects.length B2c, .slice B3 b.drives.length B3c] 51) = w1 := ⟨_, rfl⟩
  have hb0 : Below w.heap.size w w0 := hw0 ▸ (Below.refl _ w).alloc (Nat.le_refl _) _
  have hb1 : Below w.heap.size w w1 := hw1 ▸ hb0.alloc hb0.size _
  have hma : w1.heap[w.heap.size]? = some (.cells #[.int .i64 a.kind, .int .i64 a.id, .int .i64 a.size, .string ka, .slice A1 a.stripes.length A1c, .slice A2 a.objects.length A2c, .slice A3 a.drives.length A3c] 51 (0, 0)) := by
    rw [← hw1, Below.heap_alloc _ _ _ (by omega), ← hw0]
    exact heap_alloc_new w _
  have hmb : w1.heap[w.heap.size + 1]? = some (.cells #[.int .i64 b.kind, .int .i64 b.id, .int .i64 b.size, .string kb, .slice B1 b.stripes.length B1c, .slice B2 b.objects.length B2c, .slice B3 b.drives.length B3c] 51 (0, 0)) := by
    rw [← hw1, ← hs0]
    exact heap_alloc_new w0 _
  have hk : ∀ k, k < w.heap.size → w1.heap[k]? = w.heap[k]? := fun k hk => hb1.block k hk
  have hst0 : Calls Try.prog 64 #[.slice A1 a.stripes.length A1c, .slice B1 b.stripes.length B1c] w1 fun e w' => e = .returned (.bool (eqB a.stripes b.stripes)) ∧ ∃ i, w' = w1.drewN i :=
    stripes_any A1 B1 A1c B1c w1 a.stripes b.stripes hla.1 hlb.1 a1 b1 (P := fun _ => True) hla.2.1 hlb.2.1 ((a4.keep fun k hk' _ => hk k hk').imp fun _ _ _ => trivial) ((b4.keep fun k hk' _ => hk k hk').imp fun _ _ _ => trivial)
  have hob : ∀ j, Calls Try.prog 65 #[.slice A2 a.objects.length A2c, .slice B2 b.objects.length B2c] (w1.drewN j) fun e w' => e = .returned (.bool (eqB a.objects b.objects)) ∧ ∃ i, w' = (w1.drewN j).drewN i := fun j =>
    objects_any A2 B2 A2c B2c (w1.drewN j) a.objects b.objects hla.2.2.1 hlb.2.2.1 a2 b2 (P := fun _ => True) hla.2.2.2.1 hlb.2.2.2.1 ((a5.keep fun k hk' _ => hk k hk').imp fun _ _ _ => trivial) ((b5.keep fun k hk' _ => hk k hk').imp fun _ _ _ => trivial)
  have hdr : ∀ j, Calls Try.prog 66 #[.slice A3 a.drives.length A3c, .slice B3 b.drives.length B3c] (w1.drewN j) fun e w' => e = .returned (.bool (eqB a.drives b.drives)) ∧ ∃ i, w' = (w1.drewN j).drewN i := fun j =>
    ints_any A3 B3 A3c B3c (w1.drewN j) a.drives b.drives hla.2.2.2.2 hlb.2.2.2.2 a3 b3 (P := fun _ => True) ((a6.keep fun k hk' _ => hk k hk').imp fun _ _ _ => trivial) ((b6.keep fun k hk' _ => hk k hk').imp fun _ _ _ => trivial)
  have m0 : w1.cell? ⟨w.heap.size, 0, none⟩ = some (.int .i64 a.kind) := blk_cell hma 0
  have m1 : w1.cell? ⟨w.heap.size, 1, none⟩ = some (.int .i64 a.id) := blk_cell hma 1
  have m2 : w1.cell? ⟨w.heap.size, 2, none⟩ = some (.int .i64 a.size) := blk_cell hma 2
  have m3 : w1.cell? ⟨w.heap.size, 3, none⟩ = some (.string ka) := blk_cell hma 3
  have m4 : w1.cell? ⟨w.heap.size, 4, none⟩ = some (.slice A1 a.stripes.length A1c) := blk_cell hma 4
  have m5 : w1.cell? ⟨w.heap.size, 5, none⟩ = some (.slice A2 a.objects.length A2c) := blk_cell hma 5
  have m6 : w1.cell? ⟨w.heap.size, 6, none⟩ = some (.slice A3 a.drives.length A3c) := blk_cell hma 6
  have n0 : w1.cell? ⟨w.heap.size + 1, 0, none⟩ = some (.int .i64 b.kind) := blk_cell hmb 0
  have n1 : w1.cell? ⟨w.heap.size + 1, 1, none⟩ = some (.int .i64 b.id) := blk_cell hmb 1
  have n2 : w1.cell? ⟨w.heap.size + 1, 2, none⟩ = some (.int .i64 b.size) := blk_cell hmb 2
  have n3 : w1.cell? ⟨w.heap.size + 1, 3, none⟩ = some (.string kb) := blk_cell hmb 3
  have n4 : w1.cell? ⟨w.heap.size + 1, 4, none⟩ = some (.slice B1 b.stripes.length B1c) := blk_cell hmb 4
  have n5 : w1.cell? ⟨w.heap.size + 1, 5, none⟩ = some (.slice B2 b.objects.length B2c) := blk_cell hmb 5
  have n6 : w1.cell? ⟨w.heap.size + 1, 6, none⟩ = some (.slice B3 b.drives.length B3c) := blk_cell hmb 6
  have hkey : (ka.toList == kb.toList) = decide (a.key = b.key) := by rw [hka, hkb, str_beq]
  have Hw0 := Lib.hid hw0; have Hw1 := Lib.hid hw1; have Hb1 := Lib.hid hb1; have Hs0 := Lib.hid hs0
  clear hw0 hw1 hb0 hb1 hma hmb hk hsa hsb hka hkb a1 a2 a3 a4 a5 a6 b1 b2 b3 b4 b5 b6 hla hlb hs0
  by_cases he0 : a.kind = b.kind
  · have hc0 : (a.kind == b.kind) = true := by rw [he0, beq_self_eq_true]
    have He0 := Lib.hid he0; clear he0
    by_cases he1 : a.id = b.id
    · have hc1 : (a.id == b.id) = true := by rw [he1, beq_self_eq_true]
      have He1 := Lib.hid he1; clear he1
      by_cases he2 : a.size = b.size
      · have hc2 : (a.size == b.size) = true := by rw [he2, beq_self_eq_true]
        have He2 := Lib.hid he2; clear he2
        by_cases he3 : a.key = b.key
        · rw [decide_eq_true he3] at hkey
          have He3 := Lib.hid he3; clear he3
          by_cases he4 : a.stripes = b.stripes
          · rw [eqB_true he4] at hst0
            have Hst0 := Lib.hid hst0; clear hst0
            have He4 := Lib.hid he4; clear he4
            by_cases he5 : a.objects = b.objects
            · have Hhob := Lib.hid (fun j => (eqB_true he5 ▸ hob j : Calls Try.prog 65 _ (w1.drewN j) fun e w' => e = .returned (.bool true) ∧ ∃ i, w' = (w1.drewN j).drewN i)); clear hob
              have He5 := Lib.hid he5; clear he5
              by_cases he6 : a.drives = b.drives
              · have Hhdr := Lib.hid (fun j => (eqB_true he6 ▸ hdr j : Calls Try.prog 66 _ (w1.drewN j) fun e w' => e = .returned (.bool true) ∧ ∃ i, w' = (w1.drewN j).drewN i)); clear hdr
                have He6 := Lib.hid he6; clear he6
                have HF := Lib.hid (eqB_true (rec_eq He0.out He1.out He2.out He3.out He4.out He5.out He6.out))
                go_enter Try.func51, Try.ntmps51
                go_wp2_with fail
                rw [Hw0.out, Hw1.out]
                refine Hst0.out.mono ?_
                rintro e w2 ⟨rfl, i1, rfl⟩
                go_wp2_with fail
                refine (Hhob.out i1).mono ?_
                rintro e w2 ⟨rfl, i2, rfl⟩
                go_wp2_with fail
                refine (Hhdr.out (i1 + i2)).mono ?_
                rintro e w2 ⟨rfl, i3, rfl⟩
                go_wp2_with fail
                go_ret
                unfold SamePost
                rw [HF.out]
                have hb := Hb1.out
                exact ⟨rfl, ⟨hb.os, hb.tape, hb.output, hb.size, hb.block⟩⟩
              · have Hhdr := Lib.hid (fun j => (eqB_false he6 ▸ hdr j : Calls Try.prog 66 _ (w1.drewN j) fun e w' => e = .returned (.bool false) ∧ ∃ i, w' = (w1.drewN j).drewN i)); clear hdr
                have HF := Lib.hid (eqB_false (fun h : a = b => he6 (by rw [h]))); clear he6
                go_enter Try.func51, Try.ntmps51
                go_wp2_with fail
                rw [Hw0.out, Hw1.out]
                refine Hst0.out.mono ?_
                rintro e w2 ⟨rfl, i1, rfl⟩
                go_wp2_with fail
                refine (Hhob.out i1).mono ?_
                rintro e w2 ⟨rfl, i2, rfl⟩
                go_wp2_with fail
                refine (Hhdr.out (i1 + i2)).mono ?_
                rintro e w2 ⟨rfl, i3, rfl⟩
                go_wp2_with fail
                go_ret
                unfold SamePost
                rw [HF.out]
                have hb := Hb1.out
                exact ⟨rfl, ⟨hb.os, hb.tape, hb.output, hb.size, hb.block⟩⟩
            · have Hhob := Lib.hid (fun j => (eqB_false he5 ▸ hob j : Calls Try.prog 65 _ (w1.drewN j) fun e w' => e = .returned (.bool false) ∧ ∃ i, w' = (w1.drewN j).drewN i)); clear hob
              have HF := Lib.hid (eqB_false (fun h : a = b => he5 (by rw [h]))); clear he5
              go_enter Try.func51, Try.ntmps51
              go_wp2_with fail
              rw [Hw0.out, Hw1.out]
              refine Hst0.out.mono ?_
              rintro e w2 ⟨rfl, i1, rfl⟩
              go_wp2_with fail
              refine (Hhob.out i1).mono ?_
              rintro e w2 ⟨rfl, i2, rfl⟩
              go_wp2_with fail
              go_ret
              unfold SamePost
              rw [HF.out]
              have hb := Hb1.out
              exact ⟨rfl, ⟨hb.os, hb.tape, hb.output, hb.size, hb.block⟩⟩
          · rw [eqB_false he4] at hst0
            have Hst0 := Lib.hid hst0; clear hst0
            have HF := Lib.hid (eqB_false (fun h : a = b => he4 (by rw [h]))); clear he4
            go_enter Try.func51, Try.ntmps51
            go_wp2_with fail
            rw [Hw0.out, Hw1.out]
            refine Hst0.out.mono ?_
            rintro e w2 ⟨rfl, i1, rfl⟩
            go_wp2_with fail
            go_ret
            unfold SamePost
            rw [HF.out]
            have hb := Hb1.out
            exact ⟨rfl, ⟨hb.os, hb.tape, hb.output, hb.size, hb.block⟩⟩
        · rw [decide_eq_false he3] at hkey
          have HF := Lib.hid (eqB_false (fun h : a = b => he3 (by rw [h]))); clear he3
          go_enter Try.func51, Try.ntmps51
          go_wp2_with fail
          rw [Hw0.out, Hw1.out]
          go_ret
          unfold SamePost
          rw [HF.out]
          have hb := Hb1.out
          exact ⟨rfl, ⟨hb.os, hb.tape, hb.output, hb.size, hb.block⟩⟩
      · have hc2 : (a.size == b.size) = false := by rw [beq_eq_false_iff_ne]; exact he2
        have HF := Lib.hid (eqB_false (fun h : a = b => he2 (by rw [h]))); clear he2
        go_enter Try.func51, Try.ntmps51
        go_wp2_with fail
        rw [Hw0.out, Hw1.out]
        go_ret
        unfold SamePost
        rw [HF.out]
        have hb := Hb1.out
        exact ⟨rfl, ⟨hb.os, hb.tape, hb.output, hb.size, hb.block⟩⟩
    · have hc1 : (a.id == b.id) = false := by rw [beq_eq_false_iff_ne]; exact he1
      have HF := Lib.hid (eqB_false (fun h : a = b => he1 (by rw [h]))); clear he1
      go_enter Try.func51, Try.ntmps51
      go_wp2_with fail
      rw [Hw0.out, Hw1.out]
      go_ret
      unfold SamePost
      rw [HF.out]
      have hb := Hb1.out
      exact ⟨rfl, ⟨hb.os, hb.tape, hb.output, hb.size, hb.block⟩⟩
  · have hc0 : (a.kind == b.kind) = false := by rw [beq_eq_false_iff_ne]; exact he0
    have HF := Lib.hid (eqB_false (fun h : a = b => he0 (by rw [h]))); clear he0
    go_enter Try.func51, Try.ntmps51
    go_wp2_with fail
    rw [Hw0.out, Hw1.out]
    go_ret
    unfold SamePost
    rw [HF.out]
    have hb := Hb1.out
    exact ⟨rfl, ⟨hb.os, hb.tape, hb.output, hb.size, hb.block⟩⟩
end Go.Proofs.Ytmleldgohfcdbaa
