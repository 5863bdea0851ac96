/- law11's WalNone. -/
import Derived.Test.YtmleldgohfcdbaaAns
import Derived.Test.YtmleldgohfcdbaaOpenArg
namespace Go.Proofs.Ytmleldgohfcdbaa
open Go.RowKit
/-- A tape that is lost on both sides. -/
def lostT (t : TTape) : Prop := t.s0.lost = true ∧ t.s1.lost = true
set_option maxRecDepth 100000 in
set_option maxHeartbeats 1000000 in
theorem walNone_any (w : World) (r : PRec) (vs : List Value) (h : RecVal w (· < w.heap.size) r vs) (_ : MaxR r) :
    Calls Try.prog 15 #[.agg vs.toArray] w fun e w' => e = .returned (.bool true) ∧ Below w.heap.size w w' := by
  obtain ⟨A, c, A2, c2, A3, c3, rfl, -, -, -, -, -, -⟩ := h
  obtain ⟨kv, hkv⟩ : ∃ kv, sv r.key = .string kv := ⟨_, rfl⟩
  rw [hkv]
  clear hkv
  obtain ⟨w0, hw0⟩ : ∃ w0, w.alloc (.cells #[.int .i64 r.kind, .int .i64 r.id, .int .i64 r.size, .string kv, .slice A r.stripes.length c, .slice A2 r.objects.length c2, .slice A3 r.drives.length c3] 51) = w0 := ⟨_, rfl⟩
  have hb0 : Below w.heap.size w w0 := hw0 ▸ (Below.refl _ w).alloc (Nat.le_refl _) _
  have hm0 : w0.heap[w.heap.size]? = some (.cells #[.int .i64 r.kind, .int .i64 r.id, .int .i64 r.size, .string kv, .slice A r.stripes.length c, .slice A2 r.objects.length c2, .slice A3 r.drives.length c3] 51 (0, 0)) := hw0 ▸ heap_alloc_new w _
  have Hw0 := Lib.hid hw0; have Hm0 := Lib.hid hm0
  clear hw0 hm0
  obtain ⟨gp, hgp⟩ : ∃ gp, gp = w0.heap.size := ⟨_, rfl⟩
  have hnew := new_clean w0
  unfold NewPost at hnew
  rw [← hgp] at hnew
  have Hgp := Lib.hid hgp
  have hbg : w.heap.size ≤ gp := hgp ▸ hb0.size
  have hbg2 : w.heap.size < gp := hgp ▸ blk_lt Hm0.out
  clear hgp
  go_enter Try.func15, Try.ntmps15
  go_wp2_with fail
  rw [Hw0.out]
  refine (open_nil w0).mono ?_
  rintro e w' ⟨rfl, rfl⟩
  go_wp2_with fail
  refine hnew.mono ?_
  rintro e w1 ⟨rfl, ht1, hb1, hg1⟩
  have Hl0 := Lib.hid (lose0_any w1 gp (· ≠ gp) _ ht1 (fun k hk => hk))
  clear ht1
  go_wp2_with fail
  refine Hl0.out.mono ?_
  rintro e w2 ⟨rfl, ht2, hgr2⟩
  have Hl1 := Lib.hid (lose1_any w2 gp (· ≠ gp) _ ht2 (fun k hk => hk))
  clear ht2
  go_wp2_with fail
  refine Hl1.out.mono ?_
  rintro e w3 ⟨rfl, ht3, hgr3⟩
  have hop := wopen_any w3 gp (· ≠ gp) _ ht3 (fun k hk => by have := hgr2.size; have := hgr3.size; show k ≠ gp; omega) (fun k hk => hk) (by show (-1 : Int) ≤ _; omega) (by show 0 + 0 ≤ 100000000; omega) (by show 0 + 0 ≤ 100000000; omega)
  have hot : ∀ t : TTape, t.s0.lost = true → t.s1.lost = true → openT t = (t, 8) := by
    intro t h1 h2
    unfold openT
    rw [h1, h2]
    rfl
  rw [hot _ rfl rfl] at hop
  have hop2 : Calls Try.prog 33 #[.pointer (some ⟨gp, 0, none⟩)] w3 fun e w' => e = .returned (.tuple #[.pointer none, .slice none 0 0, .int .i64 8]) ∧ w3.grownBy w' (some gp) := hop.mono fun e w' h => by
    obtain ⟨h1, ⟨-, h2, -⟩ | ⟨h2, -⟩⟩ := h
    · exact ⟨h2, h1⟩
    · exact absurd h2 (by show ¬ (8 : Int) = 0; decide)
  have Hop := Lib.hid hop2
  clear hop hop2 ht3 hot
  go_wp2_with fail
  refine Hop.out.mono ?_
  rintro e w4 ⟨rfl, hgr4⟩
  go_wp2_with fail
  refine (answers11_any w4).mono ?_
  rintro e w5 ⟨rfl, hb5⟩
  have hB1 : Below gp w0 w1 := hb1
  have hsz : gp < w4.heap.size := by have := hgr2.size; have := hgr3.size; have := hgr4.size; omega
  have hB5 : Below gp w0 w5 := hb1.trans ((below_grown hgr2 (Nat.le_refl _) (by omega)).trans ((below_grown hgr3 (Nat.le_refl _) (by have := hgr2.size; omega)).trans ((below_grown hgr4 (Nat.le_refl _) (by have := hgr2.size; have := hgr3.size; omega)).trans (hb5.mono (by omega)))))
  have hm5 : w5.heap[w.heap.size]? = some (.cells #[.int .i64 r.kind, .int .i64 r.id, .int .i64 r.size, .string kv, .slice A r.stripes.length c, .slice A2 r.objects.length c2, .slice A3 r.drives.length c3] 51 (0, 0)) := (hB5.block _ hbg2).trans Hm0.out
  have m0 : w5.cell? ⟨w.heap.size, 0, none⟩ = some (.int .i64 r.kind) := blk_cell hm5 0
  have m1 : w5.cell? ⟨w.heap.size, 1, none⟩ = some (.int .i64 r.id) := blk_cell hm5 1
  have m2 : w5.cell? ⟨w.heap.size, 2, none⟩ = some (.int .i64 r.size) := blk_cell hm5 2
  have m3 : w5.cell? ⟨w.heap.size, 3, none⟩ = some (.string kv) := blk_cell hm5 3
  have m4 : w5.cell? ⟨w.heap.size, 4, none⟩ = some (.slice A r.stripes.length c) := blk_cell hm5 4
  have m5 : w5.cell? ⟨w.heap.size, 5, none⟩ = some (.slice A2 r.objects.length c2) := blk_cell hm5 5
  have m6 : w5.cell? ⟨w.heap.size, 6, none⟩ = some (.slice A3 r.drives.length c3) := blk_cell hm5 6
  have Hm5 := Lib.hid hm5
  clear hm5
  go_wp2_with fail
  refine (append_nil w5 r.kind r.id r.size kv A A2 A3 r.stripes.length r.objects.length r.drives.length c c2 c3).mono ?_
  rintro e w6 ⟨rfl, hb6⟩
  have hm6 : w6.heap[w.heap.size]? = some (.cells #[.int .i64 r.kind, .int .i64 r.id, .int .i64 r.size, .string kv, .slice A r.stripes.length c, .slice A2 r.objects.length c2, .slice A3 r.drives.length c3] 51 (0, 0)) := (hb6.block _ (blk_lt Hm5.out)).trans Hm5.out
  have n0 : w6.cell? ⟨w.heap.size, 0, none⟩ = some (.int .i64 r.kind) := blk_cell hm6 0
  have n1 : w6.cell? ⟨w.heap.size, 1, none⟩ = some (.int .i64 r.id) := blk_cell hm6 1
  have n2 : w6.cell? ⟨w.heap.size, 2, none⟩ = some (.int .i64 r.size) := blk_cell hm6 2
  have n3 : w6.cell? ⟨w.heap.size, 3, none⟩ = some (.string kv) := blk_cell hm6 3
  have n4 : w6.cell? ⟨w.heap.size, 4, none⟩ = some (.slice A r.stripes.length c) := blk_cell hm6 4
  have n5 : w6.cell? ⟨w.heap.size, 5, none⟩ = some (.slice A2 r.objects.length c2) := blk_cell hm6 5
  have n6 : w6.cell? ⟨w.heap.size, 6, none⟩ = some (.slice A3 r.drives.length c3) := blk_cell hm6 6
  clear hm6 m0 m1 m2 m3 m4 m5 m6
  go_wp2_with fail
  refine (check_nil w6 r.kind r.id r.size kv A A2 A3 r.stripes.length r.objects.length r.drives.length c c2 c3).mono ?_
  rintro e w7 ⟨rfl, hb7⟩
  go_wp2_with fail
  refine (size_nil w7).mono ?_
  rintro e w' ⟨rfl, rfl⟩
  go_wp2_with fail
  go_ret
  have hgw5 : gp ≤ w5.heap.size := by have := hb5.size; omega
  have hB7 : Below gp w0 w7 := (hB5.trans (hb6.mono hgw5)).trans (hb7.mono (Nat.le_trans hgw5 hb6.size))
  exact ⟨rfl, hb0.trans (hB7.mono hbg)⟩
end Go.Proofs.Ytmleldgohfcdbaa
