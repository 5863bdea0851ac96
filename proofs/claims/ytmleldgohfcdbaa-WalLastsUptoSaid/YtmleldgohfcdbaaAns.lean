/- law11's answers: a log opened, one record appended, opened again. -/
import Derived.Test.YtmleldgohfcdbaaNil
namespace Go.Proofs.Ytmleldgohfcdbaa
set_option linter.unusedVariables false
set_option linter.unusedSimpArgs false
open Go.RowKit
/-- A log that nothing has happened to but appends. -/
def lg (l : List PRec) : WLog := ⟨cleanT (ents l), (ents l).length, false⟩
def Pgq (g q : Nat) (k : Nat) : Prop := k ≠ g ∧ k ≠ q
theorem Two.below {g q B : Nat} {w w' : World} (h : Two g q w w') (hg : B ≤ g) (hq : B ≤ q) (hB : B ≤ w.heap.size) : Below B w w' :=
  ⟨h.os, h.tape, h.output, h.size, fun k hk => h.block k (by omega) (by omega) (by omega)⟩
theorem below_grown {g B : Nat} {w w' : World} (h : w.grownBy w' (some g)) (hg : B ≤ g) (hB : B ≤ w.heap.size) : Below B w w' :=
  ⟨h.os, h.tape, h.output, h.size, fun k hk => h.block k (by omega) (by simp; omega)⟩
def NewPost (w : World) (e : Ending) (w' : World) : Prop :=
  e = .returned (.pointer (some ⟨w.heap.size, 0, none⟩)) ∧ TapeAt w' w.heap.size (· ≠ w.heap.size) (cleanT (ents [])) ∧ Below w.heap.size w w' ∧ w.heap.size < w'.heap.size
theorem new_clean (w : World) : Calls Try.prog 32 #[] w (NewPost w) :=
  (new_any w).mono fun e w' ⟨h1, h2⟩ => by
    subst h2
    exact ⟨h1, tape_new w _, (Below.refl _ w).alloc (Nat.le_refl _) _, by simp⟩
def OpenedPost (w : World) (g : Nat) (P : Nat → Prop) (l : List PRec) (e : Ending) (w' : World) : Prop :=
  ∃ q v vs, e = .returned (.tuple #[.pointer (some ⟨q, 0, none⟩), v, .int .i64 0]) ∧ w.grownBy w' (some g) ∧ w.heap.size ≤ q ∧ q < w'.heap.size ∧ WalAt w' q g (fun k => P k ∧ k ≠ q) (lg l) ∧
    w'.ownsRow w.heap.size 51 7 v l.length vs ∧ RowsOf (RRec w') l vs
theorem open_clean (w : World) (g : Nat) (P : Nat → Prop) (l : List PRec) (h : TapeAt w g P (cleanT (ents l))) (hP : ∀ k, w.heap.size ≤ k → P k) (hPg : ∀ k, P k → k ≠ g)
    (hl : ∀ r ∈ l, OkR r) (hlen : (ents l).length ≤ 100000000) : Calls Try.prog 33 #[.pointer (some ⟨g, 0, none⟩)] w (OpenedPost w g P l) :=
  (wopen_any w g P (cleanT (ents l)) h hP hPg (by show (-1 : Int) ≤ _; omega) (by show (ents l).length + 0 ≤ _; omega) (by show (ents l).length + 0 ≤ _; omega)).mono fun e w' h => by
    rw [openT_clean l hl, best_clean l hl] at h
    obtain ⟨h1, ⟨h2, _⟩ | ⟨_, q, v, vs, h3, h4, h5, h6, h7, h8⟩⟩ := h
    · exact absurd rfl h2
    · exact ⟨q, v, vs, h3, h1, h4, blk_lt h6, ⟨h5, h6⟩, h7, h8⟩
def AppendedPost (w : World) (q g : Nat) (P : Nat → Prop) (l : List PRec) (x : Int) (e : Ending) (w' : World) : Prop := e = .returned (.int .i64 x) ∧ WalAt w' q g P (lg l) ∧ Two g q w w'
theorem append_clean (w : World) (q g : Nat) (P : Nat → Prop) (l : List PRec) (h : WalAt w q g P (lg l)) (hP : ∀ k, w.heap.size ≤ k → P k) (hPg : ∀ k, P k → k ≠ g ∧ k ≠ q) (hqg : q ≠ g) (r : PRec) (hroom : Room r) (vs : List Value)
    (hr : RecVal w (· < w.heap.size) r vs) (hok : roomE false r (ents l).length = 0) (hs : (ents l).length ≤ 16384) :
    Calls Try.prog 35 #[.pointer (some ⟨q, 0, none⟩), .agg vs.toArray] w (AppendedPost w q g P (l ++ [r]) 0) :=
  (append_any w q g P (lg l) h hP hPg hqg (by show (-1 : Int) ≤ _; omega) r hroom vs hr hs (by show (ents l).length ≤ _; omega) (by show (ents l).length ≤ _; omega)).mono fun e w' h => by
    have h0 := appendL_clean hok
    have he : (⟨cleanT (ents l ++ ent r), (ents l ++ ent r).length, false⟩ : WLog) = lg (l ++ [r]) := by
      unfold lg
      rw [ents_append, show ents [r] = ent r from by rw [ents_cons]; simp [ents]]
    rw [he] at h0
    change LogPost w q g P (appendL ⟨cleanT (ents l), (ents l).length, false⟩ r) e w' at h
    rw [h0] at h
    exact h
theorem append_no (w : World) (q g : Nat) (P : Nat → Prop) (l : List PRec) (h : WalAt w q g P (lg l)) (hP : ∀ k, w.heap.size ≤ k → P k) (hPg : ∀ k, P k → k ≠ g ∧ k ≠ q) (hqg : q ≠ g) (r : PRec) (hroom : Room r) (vs : List Value)
    (hr : RecVal w (· < w.heap.size) r vs) (hok : roomE false r (ents l).length ≠ 0) (hs : (ents l).length ≤ 16384) :
    Calls Try.prog 35 #[.pointer (some ⟨q, 0, none⟩), .agg vs.toArray] w (AppendedPost w q g P l (roomE false r (ents l).length)) :=
  (append_any w q g P (lg l) h hP hPg hqg (by show (-1 : Int) ≤ _; omega) r hroom vs hr hs (by show (ents l).length ≤ _; omega) (by show (ents l).length ≤ _; omega)).mono fun e w' h => by
    have h0 := appendL_no hok
    change LogPost w q g P (appendL ⟨cleanT (ents l), (ents l).length, false⟩ r) e w' at h
    rw [h0] at h
    exact h
theorem check_clean (w : World) (q g : Nat) (P : Nat → Prop) (l : List PRec) (h : WalAt w q g P (lg l)) (hP : ∀ k, w.heap.size ≤ k → P k) (hPg : ∀ k, P k → k ≠ g ∧ k ≠ q) (hqg : q ≠ g) (r : PRec) (hroom : Room r) (vs : List Value)
    (hr : RecVal w (· < w.heap.size) r vs) (hok : roomE false r 0 = 0) (hs : (ents l).length ≤ 16384) :
    Calls Try.prog 39 #[.pointer (some ⟨q, 0, none⟩), .agg vs.toArray] w (AppendedPost w q g P [r] 0) :=
  (check_any w q g P (lg l) h hP hPg hqg (by show (-1 : Int) ≤ _; omega) r hroom vs hr (by show (ents l).length ≤ _; omega) (by show (ents l).length ≤ _; omega)).mono fun e w' h => by
    have h0 := checkL_clean (b := ents l) hok
    have he : (⟨cleanT (ent r), (ent r).length, false⟩ : WLog) = lg [r] := by
      unfold lg
      rw [show ents [r] = ent r from by rw [ents_cons]; simp [ents]]
    rw [he] at h0
    change LogPost w q g P (checkL ⟨cleanT (ents l), (ents l).length, false⟩ r) e w' at h
    rw [h0] at h
    exact h
theorem check_no (w : World) (q g : Nat) (P : Nat → Prop) (l : List PRec) (h : WalAt w q g P (lg l)) (hP : ∀ k, w.heap.size ≤ k → P k) (hPg : ∀ k, P k → k ≠ g ∧ k ≠ q) (hqg : q ≠ g) (r : PRec) (hroom : Room r) (vs : List Value)
    (hr : RecVal w (· < w.heap.size) r vs) (hok : roomE false r 0 ≠ 0) (hs : (ents l).length ≤ 16384) :
    Calls Try.prog 39 #[.pointer (some ⟨q, 0, none⟩), .agg vs.toArray] w (AppendedPost w q g P l (roomE false r 0)) :=
  (check_any w q g P (lg l) h hP hPg hqg (by show (-1 : Int) ≤ _; omega) r hroom vs hr (by show (ents l).length ≤ _; omega) (by show (ents l).length ≤ _; omega)).mono fun e w' h => by
    have h0 := checkL_no (b := ents l) hok
    change LogPost w q g P (checkL ⟨cleanT (ents l), (ents l).length, false⟩ r) e w' at h
    rw [h0] at h
    exact h
theorem size_clean (w : World) (q g : Nat) (P : Nat → Prop) (l : List PRec) (h : WalAt w q g P (lg l)) : Calls Try.prog 38 #[.pointer (some ⟨q, 0, none⟩)] w fun e w' => e = .returned (.int .i64 (ents l).length) ∧ w = w' :=
  size_any w q g _ _ h.2
def recA : PRec := ⟨2, 5, 0, [97], [], [], []⟩
theorem recA_ok : OkR recA := ⟨by decide, by decide⟩
theorem recA_len : (ents [recA]).length = 23 := by
  rw [ents_cons, List.length_append, ent_length]
  decide
theorem recA_fits : roomE false recA (ents []).length = 0 := roomE_ok recA_ok _ (by rw [ent_length]; decide)
theorem recA_room : Room recA := ⟨by decide, by decide, by decide, by decide, by decide, by decide⟩
theorem recA_val (w : World) (P : Nat → Prop) : RecVal w P recA [.int .i64 2, .int .i64 5, .int .i64 0, .string ⟨#[97]⟩, .slice none 0 0, .slice none 0 0, .slice none 0 0] :=
  ⟨none, 0, none, 0, none, 0, rfl, Nat.le_refl _, Nat.le_refl _, Nat.le_refl _, ⟨[], rfl, RVb.none_⟩, ⟨[], rfl, RVb.none_⟩, RVb.none_⟩
set_option maxRecDepth 100000 in
set_option maxHeartbeats 1000000 in
theorem answers11_any (w : World) : Calls Try.prog 27 #[] w fun e w' => e = .returned (.bool true) ∧ Below w.heap.size w w' := by
  have hl0 := ents_cons recA []
  have hlen : (ents []).length ≤ 100000000 := by decide
  have hlen1 : (ents [recA]).length ≤ 100000000 := by rw [recA_len]; decide
  obtain ⟨gp, hgp⟩ : ∃ gp, gp = w.heap.size := ⟨_, rfl⟩
  have hnew := new_clean w
  unfold NewPost at hnew
  rw [← hgp] at hnew
  have Hgp := Lib.hid hgp
  clear hgp
  go_enter Try.func27, Try.ntmps27
  go_wp2_with fail
  refine hnew.mono ?_
  rintro e w1 ⟨rfl, ht1, hb1, hg1⟩
  have Hopen1 := Lib.hid (open_clean w1 gp (· ≠ gp) [] ht1 (fun k hk => by show k ≠ gp; omega) (fun k hk => hk) (by simp) hlen)
  clear ht1
  go_wp2_with fail
  refine Hopen1.out.mono ?_
  rintro e w2 ⟨q, v, vs, rfl, hgr2, hq1, hq2, hwal2, -, -⟩
  have hA1 : ∀ k, w2.heap.size ≤ k → k ≠ gp ∧ k ≠ q := fun k hk => ⟨by have := hgr2.size; omega, by omega⟩
  have hA2 : (ents []).length ≤ 16384 := by decide
  have hA3 : q ≠ gp := by omega
  have hA4 := append_clean w2 q gp (fun k => k ≠ gp ∧ k ≠ q) [] hwal2 hA1 (fun k hk => hk) hA3 recA recA_room _ (recA_val w2 _) recA_fits hA2
  have Happ := Lib.hid hA4
  clear hA1 hA2 hA3 hA4
  clear hwal2
  go_wp2_with fail
  refine Happ.out.mono ?_
  rintro e w3 ⟨rfl, hwal3, htwo⟩
  have hq3 : w2.heap.size ≤ w3.heap.size := htwo.size
  have Hopen2 := Lib.hid (open_clean w3 gp (fun k => k ≠ gp ∧ k ≠ q) [recA] hwal3.1 (fun k hk => ⟨by have := hgr2.size; omega, by omega⟩) (fun k hk => hk.1) (by intro r hr; rw [List.mem_singleton] at hr; subst hr; exact recA_ok) hlen1)
  have Hwal3 := Lib.hid hwal3
  clear hwal3
  go_wp2_with fail
  refine Hopen2.out.mono ?_
  rintro e w4 ⟨q4, v4, vs4, rfl, hgr4, hq41, hq42, hwal4, hown4, x, y, rfl, hrec, hy⟩
  have hy' : y = [] := hy
  subst hy'
  obtain ⟨gv, cv, rfl, hgv1, hgv2, hgv3⟩ := owns_some hown4 (by simp)
  obtain ⟨_, _, _, _, _, _, rfl, -⟩ := hrec
  have hcell := owns_cell hown4 (j := 1) (by simp)
  have hsz := size_any w4 q gp _ _ ((hgr4.block q (by omega) (by simp; omega)).trans Hwal3.out.2)
  rw [show (lg ([] ++ [recA])).size = 23 from recA_len] at hsz
  have Hsz := Lib.hid hsz
  have hc : w4.cell? ⟨gv, 1, none⟩ = some (.int .i64 5) := hcell
  clear hsz hcell hown4 hwal4 hlen hlen1 hl0
  go_wp2_with fail
  refine Hsz.out.mono ?_
  rintro e w' ⟨rfl, rfl⟩
  go_wp2_with fail
  go_ret
  have hgp := Hgp.out
  rw [← hgp]
  refine ⟨rfl, hb1.trans (((below_grown hgr2 ?_ ?_).trans (htwo.below ?_ ?_ ?_)).trans (below_grown hgr4 ?_ ?_))⟩
  all_goals (have := hgr2.size; have := hgr4.size; omega)
end Go.Proofs.Ytmleldgohfcdbaa
