/- rec's reader: its methods and rows. -/
import Derived.Test.YtmleldgohfcdbaaReadPlain
import Derived.Test.YtmleldgohfcdbaaWriter
namespace Go.Proofs.Ytmleldgohfcdbaa
set_option linter.unusedVariables false
set_option linter.unusedSimpArgs false
open Go.RowKit
/-- Block g is a reader of these bytes, which lie elsewhere. -/
def Reader (w : World) (g : Nat) (s : RS) : Prop :=
  ∃ A c, w.heap[g]? = some (.cells #[.slice A s.b.length c, .bool s.bad] 109 (0, 0)) ∧ s.b.length ≤ c ∧ RVb w (· < g) A (s.b.map bv)
theorem RVb.take {w : World} {P : Nat → Prop} {A : Option Addr} {xs : List Value} (h : RVb w P A xs) (k : Nat) : RVb w P A (xs.take k) := fun j hj => by
  have hl : j < xs.length := by simp at hj; omega
  obtain ⟨ad, e, hp, hc⟩ := h j hl
  exact ⟨ad, e, hp, by rw [hc]; simp⟩
theorem RVb.drop {w : World} {P : Nat → Prop} {A : Option Addr} {xs : List Value} (h : RVb w P A xs) (k : Nat) : RVb w P (A.map (·.add k)) (xs.drop k) := fun j hj => by
  have hl : k + j < xs.length := by simp at hj; omega
  obtain ⟨ad, e, hp, hc⟩ := h (k + j) hl
  exact ⟨ad.add k, by rw [e]; rfl, by rw [block_of_add]; exact hp, by rw [add_of_add, hc]; simp⟩
theorem RVb.cut {w : World} {P : Nat → Prop} {A : Option Addr} {xs : List Value} (h : RVb w P A xs) {k cap : Nat} (hc : xs.length ≤ cap) : RVb w P (if cap = k then A else A.map (·.add k)) (xs.drop k) := by
  split
  · rw [List.drop_eq_nil_of_le (by omega)]
    exact fun j hj => absurd hj (by simp)
  · exact h.drop k
theorem RVb.none_ {w : World} {P : Nat → Prop} {A : Option Addr} : RVb w P A [] := fun _ h => absurd h (by simp)
theorem RVb.grown {w w' : World} {g : Nat} {A : Option Addr} {xs : List Value} (h : RVb w (· < g) A xs) (hg : w.grownBy w' (some g)) : RVb w' (· < g) A xs :=
  h.keep fun k hk hlt => hg.block k hk (fun e => by injection e with e; omega)
theorem grown_trans {a b c : World} {g : Nat} (h : a.grownBy b (some g)) (k : b.grownBy c (some g)) : a.grownBy c (some g) :=
  ⟨k.os.trans h.os, k.tape.trans h.tape, k.output.trans h.output, Nat.le_trans h.size k.size, fun i hi hne => (k.block i (Nat.lt_of_lt_of_le hi h.size) hne).trans (h.block i hi hne)⟩
theorem grown_set (w : World) (g i : Nat) (u : Value) : w.grownBy (w.setCell ⟨g, i, none⟩ u) (some g) :=
  ⟨rfl, rfl, rfl, by simp [World.setCell], fun k _ hk => blk_other (fun e => hk (by rw [e]))⟩
theorem grown_drewN {w w' : World} {g : Option Nat} (h : w.grownBy w' g) (n : Nat) : w.grownBy (w'.drewN n) g := ⟨h.os, h.tape, h.output, h.size, h.block⟩
def TakePost (w : World) (g : Nat) (x : List UInt8) (s : RS) (e : Ending) (w' : World) : Prop :=
  ∃ A c, e = .returned (.slice A x.length c) ∧ x.length ≤ c ∧ RVb w' (· < g) A (x.map bv) ∧ Reader w' g s ∧ w.grownBy w' (some g)
set_option maxRecDepth 100000 in
set_option maxHeartbeats 400000 in
theorem rtake_any (w : World) (g : Nat) (s : RS) (hw : Reader w g s) (n : Nat) (hn : n ≤ 9000000000000000000) :
    Calls Try.prog 83 #[.pointer (some ⟨g, 0, none⟩), .int .i64 n] w (TakePost w g (rtake n s).1 (rtake n s).2) := by
  obtain ⟨b, bad⟩ := s
  obtain ⟨A, c, hblk, hlc, hr⟩ := hw
  dsimp only at hblk hlc hr
  have c0 : w.cell? ⟨g, 0, none⟩ = some (.slice A b.length c) := blk_cell hblk 0
  have c1 : w.cell? ⟨g, 1, none⟩ = some (.bool bad) := blk_cell hblk 1
  have f0 := blk_free hblk 0
  have f1 := blk_free hblk 1
  have hset1 := blk_set hblk 1 (.bool true)
  have hgr1 := grown_set w g 1 (.bool true)
  cases bad with
  | true =>
    have e : rtake n ⟨b, true⟩ = ([], ⟨b, true⟩) := by simp [rtake]
    rw [e]
    clear e
    go_enter Try.func83, Try.ntmps83
    go_wp2_with fail
    go_ret
    exact ⟨none, 0, rfl, Nat.le_refl _, RVb.none_, ⟨A, c, hset1, hlc, hr.grown hgr1⟩, hgr1⟩
  | false =>
    by_cases hlt : b.length < n
    · have e : rtake n ⟨b, false⟩ = ([], ⟨b, true⟩) := by simp [rtake, hlt]
      rw [e]
      clear e
      go_enter Try.func83, Try.ntmps83
      go_wp2_with fail
      go_ret
      exact ⟨none, 0, rfl, Nat.le_refl _, RVb.none_, ⟨A, c, hset1, hlc, hr.grown hgr1⟩, hgr1⟩
    · have e : rtake n ⟨b, false⟩ = (b.take n, ⟨b.drop n, false⟩) := by simp [rtake, hlt]
      rw [e]
      clear e
      have hnc : (n : Int) ≤ (c : Int) := by omega
      have hlen : (b.take n).length = n := by rw [List.length_take]; omega
      have hld : (b.drop n).length = b.length - n := List.length_drop ..
      have Hlen := Lib.hid hlen; have Hld := Lib.hid hld
      clear hlen hld
      by_cases hcn : c = n
      · subst hcn
        have hset := blk_set hblk 0 (.slice A (b.length - c) (c - c))
        have hgr := grown_set w g 0 (.slice A (b.length - c) (c - c))
        have hr1 := (hr.take c).grown hgr
        have hr2 := (hr.cut (k := c) (cap := c) (by simpa using hlc)).grown hgr
        rw [if_pos rfl] at hr2
        go_enter Try.func83, Try.ntmps83
        go_wp2_with fail
        go_ret
        have hz : b.length - c = 0 := by omega
        simp only [Nat.sub_self, hz] at hset hgr hr1 hr2
        exact ⟨A, c, by rw [Hlen.out]; rfl, by rw [Hlen.out]; omega, by rw [List.map_take]; exact hr1, ⟨A, 0, by rw [Hld.out, hz]; exact hset, by rw [Hld.out]; omega, by rw [List.map_drop]; exact hr2⟩, hgr⟩
      · have hset := blk_set hblk 0 (.slice (A.map (·.add n)) (b.length - n) (c - n))
        have hgr := grown_set w g 0 (.slice (A.map (·.add n)) (b.length - n) (c - n))
        have hr1 := (hr.take n).grown hgr
        have hr2 := (hr.drop n).grown hgr
        go_enter Try.func83, Try.ntmps83
        go_wp2_with fail
        go_ret
        exact ⟨A, c, by rw [Hlen.out]; rfl, by rw [Hlen.out]; omega, by rw [List.map_take]; exact hr1, ⟨_, c - n, by rw [Hld.out]; exact hset, by rw [Hld.out]; omega, by rw [List.map_drop]; exact hr2⟩, hgr⟩
def NumPost (w : World) (g : Nat) (x : Int) (s : RS) (e : Ending) (w' : World) : Prop := e = .returned (.int .i64 x) ∧ Reader w' g s ∧ w.grownBy w' (some g)
set_option maxRecDepth 100000 in
set_option maxHeartbeats 400000 in
theorem rnum_any (w : World) (g : Nat) (s : RS) (hw : Reader w g s) (n : Nat) (hn : n ≤ 4) :
    Calls Try.prog 69 #[.pointer (some ⟨g, 0, none⟩), .int .i64 n] w (NumPost w g (rnum n s).1 (rnum n s).2) := by
  have hb := rnum_bd n s hn
  have hl := rtake_len n s
  have ht := rtake_any w g s hw n (by omega)
  unfold rnum at hb ⊢
  generalize (rtake n s).1 = x at hb hl ht ⊢
  generalize (rtake n s).2 = s2 at ht ⊢
  dsimp only at hb ⊢
  have Ht := Lib.hid ht; clear ht
  go_enter Try.func69, Try.ntmps69
  go_wp2_with fail
  refine Ht.out.mono ?_
  rintro e w1 ⟨A, c, rfl, hlc, hr, hw1, hg1⟩
  go_wp2_with fail
  refine (get_any A c w1 x (by omega) (RV.rb hr.rv)).mono ?_
  rintro e w' ⟨rfl, rfl⟩
  have hx : ((ofBe x : Nat) : Int) < 4294967296 := hb.2
  go_wp2_with fail
  go_ret
  exact ⟨rfl, hw1, hg1⟩
set_option maxRecDepth 100000 in
set_option maxHeartbeats 400000 in
theorem rword_any (w : World) (g : Nat) (s : RS) (hw : Reader w g s) :
    Calls Try.prog 70 #[.pointer (some ⟨g, 0, none⟩)] w (NumPost w g (rnum 4 s).1 (rnum 4 s).2) := by
  have ht := rnum_any w g s hw 4 (by omega)
  generalize (rnum 4 s).1 = x at ht ⊢
  generalize (rnum 4 s).2 = s2 at ht ⊢
  have Ht := Lib.hid ht; clear ht
  go_enter Try.func70, Try.ntmps70
  go_wp2_with fail
  refine Ht.out.mono ?_
  rintro e w1 ⟨rfl, hw1, hg1⟩
  go_wp2_with fail
  go_ret
  exact ⟨rfl, hw1, hg1⟩
def KeyPost (w : World) (g : Nat) (x : List UInt8) (s : RS) (e : Ending) (w' : World) : Prop := e = .returned (sv x) ∧ Reader w' g s ∧ w.grownBy w' (some g)
set_option maxRecDepth 100000 in
set_option maxHeartbeats 400000 in
theorem rkey_any (w : World) (g : Nat) (s : RS) (hw : Reader w g s) :
    Calls Try.prog 71 #[.pointer (some ⟨g, 0, none⟩)] w (KeyPost w g (rkey s).1 (rkey s).2) := by
  have hb := rnum_bd 1 s (by omega)
  have ht := rnum_any w g s hw 1 (by omega)
  unfold rkey
  obtain ⟨n, hn⟩ := Int.eq_ofNat_of_zero_le hb.1
  have hn2 : n ≤ 4294967296 := by omega
  rw [hn] at ht ⊢
  rw [Int.toNat_natCast]
  generalize (rnum 1 s).2 = s2 at ht ⊢
  have h2 := fun w' (h : Reader w' g s2) => rtake_any w' g s2 h n (by omega)
  generalize (rtake n s2).1 = x at h2 ⊢
  generalize (rtake n s2).2 = s3 at h2 ⊢
  have Ht := Lib.hid ht; have H2 := Lib.hid h2
  clear ht hn hb h2
  go_enter Try.func71, Try.ntmps71
  go_wp2_with fail
  refine Ht.out.mono ?_
  rintro e w1 ⟨rfl, hw1, hg1⟩
  go_wp2_with fail
  refine (H2.out w1 hw1).mono ?_
  rintro e w2 ⟨A, c, rfl, hlc, hr, hw2, hg2⟩
  have hst := run_str w2 (RV.rb hr.rv) c
  go_wp2_with fail
  go_ret
  exact ⟨rfl, hw2, grown_trans hg1 hg2⟩
end Go.Proofs.Ytmleldgohfcdbaa
