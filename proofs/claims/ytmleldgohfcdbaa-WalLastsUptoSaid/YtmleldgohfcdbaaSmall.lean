/- ref09.Small, law11.small: they answer something. -/
import Derived.Test.YtmleldgohfcdbaaOpenArg
import Derived.Test.YtmleldgohfcdbaaRefList
namespace Go.Proofs.Ytmleldgohfcdbaa
set_option linter.unusedVariables false
set_option linter.unusedSimpArgs false
open Go.RowKit
def BoolPost (w : World) (e : Ending) (w' : World) : Prop := ∃ b, e = .returned (.bool b) ∧ Below w.heap.size w w'
set_option maxRecDepth 100000 in
set_option maxHeartbeats 2000000 in
theorem refSmall_any (w : World) (r : PRec) (vs : List Value) (hr : RecVal w (· < w.heap.size) r vs) (hM : MaxR r) :
    Calls Try.prog 31 #[.agg vs.toArray] w (BoolPost w) := by
  obtain ⟨A, c, A2, c2, A3, c3, rfl, q1, q2, q3, hst, hob, -⟩ := hr
  obtain ⟨kv, hkv⟩ : ∃ kv, sv r.key = .string kv := ⟨_, rfl⟩
  rw [hkv]
  clear hkv
  obtain ⟨w1, hw1⟩ : ∃ w1, w.alloc (.cells #[.int .i64 r.kind, .int .i64 r.id, .int .i64 r.size, .string kv, .slice A r.stripes.length c, .slice A2 r.objects.length c2, .slice A3 r.drives.length c3] 51) = w1 := ⟨_, rfl⟩
  have hb1 : Below w.heap.size w w1 := hw1 ▸ (Below.refl _ w).alloc (Nat.le_refl _) _
  have hm1 : w1.heap[w.heap.size]? = some (.cells #[.int .i64 r.kind, .int .i64 r.id, .int .i64 r.size, .string kv, .slice A r.stripes.length c, .slice A2 r.objects.length c2, .slice A3 r.drives.length c3] 51 (0, 0)) := hw1 ▸ heap_alloc_new w _
  have m4 : w1.cell? ⟨w.heap.size, 4, none⟩ = some (.slice A r.stripes.length c) := blk_cell hm1 4
  have m5 : w1.cell? ⟨w.heap.size, 5, none⟩ = some (.slice A2 r.objects.length c2) := blk_cell hm1 5
  have m6 : w1.cell? ⟨w.heap.size, 6, none⟩ = some (.slice A3 r.drives.length c3) := blk_cell hm1 6
  have hst1 := hst.below hb1
  have hob1 := hob.below hb1
  obtain ⟨-, hM2, -, hM4, hM5, hM6⟩ := hM
  have HM5 := Lib.hid hM5
  have hq1 : r.stripes.length ≤ 9223372036854775807 := by unfold maxLen at hM2; omega
  have hq2 : r.objects.length ≤ 9223372036854775807 := by unfold maxLen at hM4; omega
  have Hw1 := Lib.hid hw1; have Hst := Lib.hid hst1; have Hob := Lib.hid hob1; have Hb1 := Lib.hid hb1
  clear hw1 hst1 hob1 hst hob hM2 hM4 hM5 hM6 hm1 hb1
  have hB := Hb1.out.size
  by_cases h400 : 400 < wrap64 (wrap64 ((r.stripes.length : Int) + (r.objects.length : Int)) + (r.drives.length : Int))
  · go_enter Try.func31, Try.ntmps31
    go_wp2_with fail
    rw [Hw1.out]
    go_ret
    exact ⟨false, rfl, Hb1.out⟩
  · go_enter Try.func31, Try.ntmps31
    go_wp2_with fail
    rw [Hw1.out]
    generalize wrap64 (wrap64 ((r.stripes.length : Int) + (r.objects.length : Int)) + (r.drives.length : Int)) = n0
    go_loopw [3, 4] (fun n i wr => ∃ (k : Nat) (x : Int), k ≤ r.stripes.length ∧ i = .int .i64 k ∧ n = .int .i64 x ∧ w1 = wr) (fun _ i _ => r.stripes.length - (intOf i).toNat)
    case atStart => exact ⟨0, _, Nat.zero_le _, rfl, rfl, by first | rfl | trivial⟩
    case round =>
      obtain ⟨k, x, hk, rfl, rfl, rfl⟩ := hrel
      by_cases hlt : k < r.stripes.length
      · obtain ⟨ad, C, d, rfl, g0, g1, g2, hld, -⟩ := Hst.out.at_ hlt
        have i1 : (0 : Int) ≤ (k : Int) := by omega
        have i2 : (k : Int) < (r.stripes.length : Int) := by omega
        go_wp2_with fail
        go_roundw
        case rel => exact ⟨k + 1, _, by omega, by go_num, rfl, by first | rfl | trivial⟩
        case measure => simp [intOf]; omega
      · have i2 : ¬ (k : Int) < (r.stripes.length : Int) := by omega
        go_wp2_with fail
        go_loopw [3, 5] (fun n i wr => ∃ (k : Nat) (x : Int), k ≤ r.objects.length ∧ i = .int .i64 k ∧ n = .int .i64 x ∧ w1 = wr) (fun _ i _ => r.objects.length - (intOf i).toNat)
        case atStart => exact ⟨0, _, Nat.zero_le _, rfl, rfl, by first | rfl | trivial⟩
        case round =>
          obtain ⟨j, y, hj, rfl, rfl, rfl⟩ := hrel
          by_cases hjt : j < r.objects.length
          · have j1 : (0 : Int) ≤ (j : Int) := by omega
            have j2 : (j : Int) < (r.objects.length : Int) := by omega
            by_cases hy : y < 4000
            · obtain ⟨ad, C, d, rfl, g0, g1, g2, g3, hld, hstr⟩ := Hob.out.at_ hjt
              have hMo := HM5.out _ (List.getElem_mem hjt)
              generalize r.objects[j] = o at g0 g1 g2 g3 hld hstr hMo
              have ho63 : o.stripes.length ≤ 9223372036854775807 := by have := hMo.2.1; unfold maxLen at this; omega
              have Hstr := Lib.hid hstr
              clear hstr g0 g1 g2 hMo
              go_wp2_with fail
              go_loopw [3, 6] (fun n i wr => ∃ (k : Nat) (x : Int), k ≤ o.stripes.length ∧ i = .int .i64 k ∧ n = .int .i64 x ∧ w1 = wr) (fun _ i _ => o.stripes.length - (intOf i).toNat)
              case atStart => exact ⟨0, _, Nat.zero_le _, rfl, rfl, by first | rfl | trivial⟩
              case round =>
                obtain ⟨t, z, ht, rfl, rfl, rfl⟩ := hrel
                by_cases htt : t < o.stripes.length
                · have t1 : (0 : Int) ≤ (t : Int) := by omega
                  have t2 : (t : Int) < (o.stripes.length : Int) := by omega
                  by_cases hz : z < 4000
                  · obtain ⟨ad2, D, dd, rfl, p0, p1, p2, hpd, -⟩ := Hstr.out.at_ htt
                    go_wp2_with fail
                    go_roundw
                    case rel => exact ⟨t + 1, _, by omega, by go_num, rfl, by first | rfl | trivial⟩
                    case measure => simp [intOf]; omega
                  · go_wp2_with fail
                    go_roundw
                    case rel => exact ⟨j + 1, _, by omega, by go_num, rfl, by first | rfl | trivial⟩
                    case measure => simp [intOf]; omega
                · have t2 : ¬ (t : Int) < (o.stripes.length : Int) := by omega
                  go_wp2_with fail
                  go_roundw
                  case rel => exact ⟨j + 1, _, by omega, by go_num, rfl, by first | rfl | trivial⟩
                  case measure => simp [intOf]; omega
            · go_wp2_with fail
              go_ret
              exact ⟨_, rfl, Hb1.out⟩
          · have j2 : ¬ (j : Int) < (r.objects.length : Int) := by omega
            go_wp2_with fail
            go_ret
            exact ⟨_, rfl, Hb1.out⟩
end Go.Proofs.Ytmleldgohfcdbaa
