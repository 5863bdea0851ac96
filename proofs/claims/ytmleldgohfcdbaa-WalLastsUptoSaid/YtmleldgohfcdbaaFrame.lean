/- What a frame is, as a list of bytes; the contracts of slot.Frame and slot.Open and of the reference's. -/
import Derived.Test.YtmleldgohfcdbaaBytes
import Derived.Test.YtmleldgohfcdbaaSum
import Derived.Lib.MinMax
namespace Go.Proofs.Ytmleldgohfcdbaa
set_option linter.unusedVariables false
set_option linter.unusedSimpArgs false
open Go.RowKit
/-- The head and the shard; and the sum of these behind. -/
def frameHead (s p : Nat) (b : List UInt8) : List UInt8 := be 4 s ++ [UInt8.ofNat p, UInt8.ofNat b.length] ++ b
def frameOf (s p : Nat) (b : List UInt8) : List UInt8 := frameHead s p b ++ be 4 (crc (frameHead s p b))
theorem frameHead_length (s p : Nat) (b : List UInt8) : (frameHead s p b).length = 6 + b.length := by simp [frameHead, be_length]; omega
theorem frameOf_length (s p : Nat) (b : List UInt8) : (frameOf s p b).length = 10 + b.length := by simp [frameOf, frameHead_length, be_length]; omega
set_option maxRecDepth 100000 in
set_option maxHeartbeats 1000000 in
theorem frame_any (s p : Nat) (hs : s < 9223372036854775808) (A : Option Addr) (c : Nat) (w : World) (l : List UInt8) (hn : l.length ≤ 100000000000) (hlc : l.length ≤ c) (hr : RB w A l) :
    Calls Try.prog 21 #[.int .i64 s, .int .i64 p, .slice A l.length c] w fun e w' => ∃ v, e = .returned v ∧ OwnB w' w.heap.size v (frameOf s p (l.take 50)) ∧ Below w.heap.size w w' := by
  obtain ⟨f1, hf1⟩ : ∃ f1, be 4 s ++ [UInt8.ofNat p, UInt8.ofNat (l.take 50).length] = f1 := ⟨_, rfl⟩
  obtain ⟨fh, hf2⟩ : ∃ fh, f1 ++ l.take 50 = fh := ⟨_, rfl⟩
  have hfo : frameOf s p (l.take 50) = fh ++ be 4 (crc fh) := by rw [← hf2, ← hf1]; rfl
  have hl1 : f1.length = 6 := by rw [← hf1]; simp [be_length]
  have hl2 : fh.length ≤ 56 := by rw [← hf2]; simp; omega
  have Hf1 := Lib.hid hf1; have Hf2 := Lib.hid hf2; have Hfo := Lib.hid hfo; have Hl1 := Lib.hid hl1; have Hl2 := Lib.hid hl2
  clear hf1 hf2 hfo hl1 hl2
  have hrm := hr.take 50
  by_cases h50 : l.length ≤ 50
  · have e50 : l.take 50 = l := List.take_of_length_le h50
    rw [e50] at Hf1 Hf2 Hfo hrm ⊢
    clear e50
    have hmin : min (l.length : Int) 50 = (l.length : Int) := by omega
    go_enter Try.func21, Try.ntmps21
    go_wp2_with fail
    refine (put_any w w.heap.size _ [] (OwnB.nil w _) (Nat.le_refl _) (by simp) 4 (by omega) s).mono ?_
    rintro e w1 ⟨v1, rfl, hown1, hg1, hno1⟩
    rw [List.nil_append] at hown1
    have hb1 : Below w.heap.size w w1 := (Below.refl _ w).grown hg1 (Nat.le_refl _) (by simp [Value.ownBlock])
    have hr1 := hr.below hb1
    have hs1 := hb1.size
    have hrb : RB (w1.alloc (.cells #[.int .u8 ((p : Int) % 256), .int .u8 l.length] 5)) (some ⟨w1.heap.size, 0, none⟩) [UInt8.ofNat p, UInt8.ofNat l.length] := by
      have h := RB_new w1 [UInt8.ofNat p, UInt8.ofNat l.length] 5 (0, 0)
      have e1 : bv (UInt8.ofNat p) = .int .u8 ((p : Int) % 256) := by unfold bv; congr 1
      have e2 : bv (UInt8.ofNat l.length) = .int .u8 l.length := by unfold bv; congr 1; rw [UInt8.toNat_ofNat']; omega
      rw [← e1, ← e2]
      exact h
    go_wp2_with (first
      | (at_builtin; refine wpList_apB (by rfl) (.tmp 15) (.tmp 21) rfl w.heap.size v1 (be 4 s) rfl (hown1.below ((Below.refl _ w1).alloc (Nat.le_refl _) _)) (some ⟨w1.heap.size, 0, none⟩) 2 2 [UInt8.ofNat p, UInt8.ofNat l.length] rfl rfl hrb f1 Hf1.out (by have := Hl1.out; omega) (Nat.le_trans hs1 (by simp)) ?_; intro A2 c2 w2 hown2 hr2 hl2 hg2 hno2 hb2'; have hb2 : Below w.heap.size w w2 := (hb1.alloc hs1 _).trans hb2'; clear hb2' hg2 hno2)
      | (at_builtin; refine wpList_apB (by rfl) (.tmp 23) (.tmp 24) rfl w.heap.size _ f1 rfl hown2 A l.length c l rfl rfl (hrm.below hb2) fh Hf2.out (by have := Hl2.out; omega) hb2.size ?_; intro A3 c3 w3 hown3 hr3 hl3 hg3 hno3 hb3'; have hb3 : Below w.heap.size w w3 := hb2.trans hb3'; clear hb3' hg3 hno3))
    refine (of_any A3 c3 w3 fh (by have := Hl2.out; omega) hr3).mono ?_
    rintro e w' ⟨rfl, rfl⟩
    have hcl := crc_lt fh
    go_wp2_with fail
    refine (put_any w3 w.heap.size _ fh hown3 hb3.size (by have := Hl2.out; omega) 4 (by omega) (crc fh)).mono ?_
    rintro e w4 ⟨v4, rfl, hown4, hg4, hno4⟩
    go_wp2_with fail
    go_ret
    exact ⟨v4, rfl, by rw [Hfo.out]; exact hown4, hb3.trans (below_of_grown hown3 hg4 hb3.size)⟩
  · have hmin : min (l.length : Int) 50 = 50 := by omega
    have hml : (l.take 50).length = 50 := by simp; omega
    generalize l.take 50 = m at Hf1 Hf2 Hfo hrm hml ⊢
    have Hml := Lib.hid hml; clear hml
    go_enter Try.func21, Try.ntmps21
    go_wp2_with fail
    refine (put_any w w.heap.size _ [] (OwnB.nil w _) (Nat.le_refl _) (by simp) 4 (by omega) s).mono ?_
    rintro e w1 ⟨v1, rfl, hown1, hg1, hno1⟩
    rw [List.nil_append] at hown1
    have hb1 : Below w.heap.size w w1 := (Below.refl _ w).grown hg1 (Nat.le_refl _) (by simp [Value.ownBlock])
    have hr1 := hr.below hb1
    have hs1 := hb1.size
    have hrb : RB (w1.alloc (.cells #[.int .u8 ((p : Int) % 256), .int .u8 50] 5)) (some ⟨w1.heap.size, 0, none⟩) [UInt8.ofNat p, UInt8.ofNat m.length] := by
      have h := RB_new w1 [UInt8.ofNat p, UInt8.ofNat m.length] 5 (0, 0)
      have e1 : bv (UInt8.ofNat p) = .int .u8 ((p : Int) % 256) := by unfold bv; congr 1
      have e2 : bv (UInt8.ofNat m.length) = .int .u8 50 := by unfold bv; congr 1; rw [UInt8.toNat_ofNat']; rw [Hml.out]; rfl
      rw [← e1, ← e2]
      exact h
    go_wp2_with (first
      | (at_builtin; refine wpList_apB (by rfl) (.tmp 15) (.tmp 21) rfl w.heap.size v1 (be 4 s) rfl (hown1.below ((Below.refl _ w1).alloc (Nat.le_refl _) _)) (some ⟨w1.heap.size, 0, none⟩) 2 2 [UInt8.ofNat p, UInt8.ofNat m.length] rfl rfl hrb f1 Hf1.out (by have := Hl1.out; omega) (Nat.le_trans hs1 (by simp)) ?_; intro A2 c2 w2 hown2 hr2 hl2 hg2 hno2 hb2'; have hb2 : Below w.heap.size w w2 := (hb1.alloc hs1 _).trans hb2'; clear hb2' hg2 hno2)
      | (at_builtin; refine wpList_apB (by rfl) (.tmp 23) (.tmp 24) rfl w.heap.size _ f1 rfl hown2 A 50 c m rfl Hml.out.symm (hrm.below hb2) fh Hf2.out (by have := Hl2.out; omega) hb2.size ?_; intro A3 c3 w3 hown3 hr3 hl3 hg3 hno3 hb3'; have hb3 : Below w.heap.size w w3 := hb2.trans hb3'; clear hb3' hg3 hno3))
    refine (of_any A3 c3 w3 fh (by have := Hl2.out; omega) hr3).mono ?_
    rintro e w' ⟨rfl, rfl⟩
    have hcl := crc_lt fh
    go_wp2_with fail
    refine (put_any w3 w.heap.size _ fh hown3 hb3.size (by have := Hl2.out; omega) 4 (by omega) (crc fh)).mono ?_
    rintro e w4 ⟨v4, rfl, hown4, hg4, hno4⟩
    go_wp2_with fail
    go_ret
    exact ⟨v4, rfl, by rw [Hfo.out]; exact hown4, hb3.trans (below_of_grown hown3 hg4 hb3.size)⟩
/-- What bytes are a frame of, or nothing. -/
def openOf (s : List UInt8) : Option (Nat × Nat × List UInt8) :=
  if s.length < 10 then none
  else if frameOf (ofBe (s.take 4)) (s.getD 4 0).toNat (((s.take (s.length - 4)).drop 6).take 50) == s then some (ofBe (s.take 4), (s.getD 4 0).toNat, (s.take (s.length - 4)).drop 6) else none
theorem results_tmp4 {fn : Func} {t u v x : Tmp} (h : fn.results = #[.tmp t, .tmp u, .tmp v, .tmp x]) (tmps : Array Value) (P : Program) (w : World) :
    (results fn tmps).run P w = .ok (.tuple #[tmps.getD t undef, tmps.getD u undef, tmps.getD v undef, tmps.getD x undef]) w := by simp [results, h]
/-- What Open answers. -/
def OpenPost (w : World) (o : Option (Nat × Nat × List UInt8)) (e : Ending) (w' : World) : Prop :=
  match o with
  | none => e = .returned (.tuple #[.int .i64 0, .int .i64 0, .slice none 0 0, .bool false]) ∧ Below w.heap.size w w'
  | some (s, p, b) => ∃ v, e = .returned (.tuple #[.int .i64 s, .int .i64 p, v, .bool true]) ∧ OwnB w' w.heap.size v b ∧ Below w.heap.size w w'
theorem quiet_eq {P : Program} {f : FuncId} {args : Array Value} {w : World} {n : Nat} {v : Value} (h : Calls P f args (w.drewN n) fun e w' => e = .returned v ∧ w.drewN n = w') :
    Calls P f args (w.drewN n) fun e w'' => e = .returned v ∧ ∃ m, w'' = w.drewN m := h.mono fun _ _ ⟨he, hm⟩ => ⟨he, n, hm.symm⟩
set_option maxRecDepth 100000 in
set_option maxHeartbeats 1000000 in
theorem open_any (A : Option Addr) (c : Nat) (w : World) (l : List UInt8) (hn : l.length ≤ 100000000000) (hlc : l.length ≤ c) (hr : RB w A l) :
    Calls Try.prog 22 #[.slice A l.length c] w (OpenPost w (openOf l)) := by
  by_cases h10 : l.length < 10
  · have e : openOf l = none := by unfold openOf; rw [if_pos h10]
    rw [e]
    go_enter Try.func22, Try.ntmps22
    go_wp2_with fail
    refine bodyPost_ret (results_tmp4 rfl _ _ _) rfl ?_
    exact ⟨rfl, Below.refl _ _⟩
  · obtain ⟨ad, rfl, h4⟩ := hr.at_ (k := 4) (by omega)
    have hr4 := hr.take 4
    have hrb := (hr.take (l.length - 4)).drop 6
    have hc6 : ¬ c = 6 := by omega
    have h4' : w.cell? ⟨ad.block, ad.off + 4, none⟩ = some (bv l[4]) := h4
    have hst := ofBe_small (l.take 4)
    rw [show (l.take 4).length = 4 from by simp; omega] at hst
    have hopen : openOf l = if frameOf (ofBe (l.take 4)) l[4].toNat (((l.take (l.length - 4)).drop 6).take 50) == l then some (ofBe (l.take 4), l[4].toNat, (l.take (l.length - 4)).drop 6) else none := by
      unfold openOf
      rw [if_neg h10, show l.getD 4 0 = l[4] from by simp [List.getD, List.getElem?_eq_getElem (show 4 < l.length by omega)]]
    rw [hopen]
    clear hopen
    have hget : ∀ x, Calls Try.prog 45 #[.slice (some ad) 4 c] (w.drewN x) fun e w' => e = .returned (.int .u64 (ofBe (l.take 4))) ∧ w.drewN x = w' := fun x => by
      have h := get_any (some ad) c (w.drewN x) (l.take 4) (by simp; omega) hr4
      rwa [show (l.take 4).length = 4 from by simp; omega] at h
    have hbl : ((l.take (l.length - 4)).drop 6).length = l.length - 4 - 6 := by simp
    generalize (l.take (l.length - 4)).drop 6 = b at hrb hbl ⊢
    generalize ofBe (l.take 4) = st at hst hget ⊢
    generalize l[4] = x at h4 h4' ⊢
    have hp := x.toNat_lt
    have Hget := Lib.hid hget; clear hget
    have g1 : (4 : Int) ≤ (c : Int) := by omega
    have g2 : (4 : Int) < (l.length : Int) := by omega
    have g3 : (6 : Int) ≤ (l.length : Int) - 4 := by omega
    have g4 : (l.length : Int) - 4 ≤ (c : Int) := by omega
    have hf : ∀ x', Calls Try.prog 21 #[.int .i64 st, .int .i64 x.toNat, .slice (some ⟨ad.block, ad.off + 6, none⟩) (l.length - 4 - 6) (c - 6)] (w.drewN x') fun e w' =>
        ∃ v, e = .returned v ∧ OwnB w' w.heap.size v (frameOf st x.toNat (b.take 50)) ∧ Below w.heap.size w w' := fun x' => by
      have h := frame_any st x.toNat (by omega) (some ⟨ad.block, ad.off + 6, none⟩) (c - 6) (w.drewN x') b (by omega) (by omega) hrb
      rw [hbl] at h
      exact h.mono fun e w' ⟨v, h1, h2, h3⟩ => ⟨v, h1, h2, ⟨h3.os, h3.tape, h3.output, h3.size, h3.block⟩⟩
    have Hf := Lib.hid hf; clear hf
    have Hbl := Lib.hid hbl; clear hbl
    by_cases heq : frameOf st x.toNat (b.take 50) = l
    · have hq : (frameOf st x.toNat (b.take 50) == l) = true := by rw [heq, beq_self_eq_true]
      have Hq := Lib.hid hq
      rw [hq, if_pos rfl]
      clear hq heq
      go_enter Try.func22, Try.ntmps22
      go_wp2_with fail
      go_quiet ((go_at_call 45; exact quiet_eq (Hget.out _)))
      go_wp2_with fail
      refine (Hf.out _).mono ?_
      rintro e w1 ⟨v1, rfl, hown1, hb1⟩
      obtain ⟨A1, c1, rfl, hl1, _, hr1⟩ := hown1.form
      go_wp2_with fail
      refine (equal_any A1 (some ad) c1 c w1 _ l hr1 (hr.below hb1)).mono ?_
      rintro e w' ⟨rfl, rfl⟩
      rw [Hq.out]
      go_wp2_with fail
      have hc := clone_any (some ⟨ad.block, ad.off + 6, none⟩) (c - 6) w1 b (by have := Hbl.out; omega) (hrb.below hb1)
      rw [Hbl.out] at hc
      refine hc.mono ?_
      rintro e w2 ⟨v2, rfl, hown2, hb2⟩
      go_wp2_with fail
      refine bodyPost_ret (results_tmp4 rfl _ _ _) rfl ?_
      exact ⟨v2, rfl, World.ownsRow_base hown2 hb1.size, hb1.trans (hb2.mono hb1.size)⟩
    · have hq : (frameOf st x.toNat (b.take 50) == l) = false := by rw [beq_eq_false_iff_ne]; exact heq
      have Hq := Lib.hid hq
      rw [hq, if_neg (by decide)]
      clear hq heq
      go_enter Try.func22, Try.ntmps22
      go_wp2_with fail
      go_quiet ((go_at_call 45; exact quiet_eq (Hget.out _)))
      go_wp2_with fail
      refine (Hf.out _).mono ?_
      rintro e w1 ⟨v1, rfl, hown1, hb1⟩
      obtain ⟨A1, c1, rfl, hl1, _, hr1⟩ := hown1.form
      go_wp2_with fail
      refine (equal_any A1 (some ad) c1 c w1 _ l hr1 (hr.below hb1)).mono ?_
      rintro e w' ⟨rfl, rfl⟩
      rw [Hq.out]
      go_wp2_with fail
      refine bodyPost_ret (results_tmp4 rfl _ _ _) rfl ?_
      exact ⟨rfl, hb1⟩
end Go.Proofs.Ytmleldgohfcdbaa
