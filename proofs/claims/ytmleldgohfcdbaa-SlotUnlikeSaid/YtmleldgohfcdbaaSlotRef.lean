/- The contracts of the reference's Frame and Open. -/
import Derived.Test.YtmleldgohfcdbaaOpenPlain
import Derived.Test.YtmleldgohfcdbaaSumLaws
namespace Go.Proofs.Ytmleldgohfcdbaa
open Go.RowKit
set_option maxRecDepth 100000 in
set_option maxHeartbeats 1000000 in
theorem frameRef_any (s p : Nat) (hs : s < 9223372036854775808) (A : Option Addr) (c : Nat) (w : World) (l : List UInt8) (hn : l.length ≤ 100000000000) (hlc : l.length ≤ c) (hr : RB w A l) :
    Calls Try.prog 24 #[.int .i64 s, .int .i64 p, .slice A l.length c] w fun e w' => ∃ v, e = .returned v ∧ OwnB w' w.heap.size v (frameOf s p (l.take 50)) ∧ Below w.heap.size w w' := by
  obtain ⟨f1, hf1⟩ : ∃ f1, be 4 s ++ [UInt8.ofNat p, UInt8.ofNat (l.take 50).length] = f1 := ⟨_, rfl⟩
  obtain ⟨fh, hf2⟩ : ∃ fh, f1 ++ l.take 50 = fh := ⟨_, rfl⟩
  obtain ⟨fo, hfo⟩ : ∃ fo, fo = fh ++ be 4 (crc fh) := ⟨_, rfl⟩
  have hfe : frameOf s p (l.take 50) = fo := by rw [hfo, ← hf2, ← hf1]; rfl
  have hl1 : f1.length = 6 := by rw [← hf1]; simp [be_length]
  have hl2 : fh.length ≤ 56 := by rw [← hf2]; simp; omega
  have hl3 : fo.length ≤ 60 := by rw [hfo, List.length_append, be_length]; omega
  have Hf1 := Lib.hid hf1; have Hf2 := Lib.hid hf2; have Hfo := Lib.hid hfo; have Hl1 := Lib.hid hl1; have Hl2 := Lib.hid hl2; have Hl3 := Lib.hid hl3; have Hfe := Lib.hid hfe
  clear hf1 hf2 hfo hl1 hl2 hl3 hfe
  have hrm := hr.take 50
  by_cases h50 : l.length ≤ 50
  · have e50 : l.take 50 = l := List.take_of_length_le h50
    rw [e50] at Hf1 Hf2 Hfe hrm ⊢
    clear e50
    go_enter Try.func24, Try.ntmps24
    go_wp2_with fail
    refine (num_any w 4 (by omega) s (by omega)).mono ?_
    rintro e w1 ⟨v1, rfl, hown1, hb1⟩
    have hr1 := hr.below hb1
    have hs1 := hb1.size
    have hrb : RB (w1.alloc (.cells #[.int .u8 ((p : Int) % 256), .int .u8 l.length] 5)) (some ⟨w1.heap.size, 0, none⟩) [UInt8.ofNat p, UInt8.ofNat l.length] := by
      have h := RB_new w1 [UInt8.ofNat p, UInt8.ofNat l.length] 5 (0, 0)
      have e1 : bv (UInt8.ofNat p) = .int .u8 ((p : Int) % 256) := by unfold bv; congr 1
      have e2 : bv (UInt8.ofNat l.length) = .int .u8 l.length := by unfold bv; congr 1; rw [UInt8.toNat_ofNat']; omega
      rw [← e1, ← e2]
      exact h
    go_wp2_with (first
      | (at_builtin; refine wpList_apB (by rfl) (.tmp 15) (.tmp 21) rfl w.heap.size v1 (be 4 s) rfl (hown1.below ((Below.refl _ w1).alloc (Nat.le_refl _) _)) (some ⟨w1.heap.size, 0, none⟩) 2 2 [UInt8.ofNat p, UInt8.ofNat l.length] rfl rfl hrb f1 Hf1.out (by have := Hl1.out; omega) (Nat.le_trans hs1 (by simp)) ?_; intro A2 c2 w2 hown2 hr2 hl2 hg2 hno2 hb2'; have hb2 : Below w.heap.size w w2 := (hb1.alloc hs1 _).trans hb2'; clear hb2' hg2 hno2)
      | (at_builtin; refine wpList_apB (by rfl) (.tmp 23) (.tmp 24) rfl w.heap.size _ f1 rfl hown2 A l.length c l rfl rfl (hrm.below hb2) fh Hf2.out (by have := Hl2.out; omega) hb2.size ?_; intro A3 c3 w3 hown3 hr3 hl3 hg3 hno3 hb3'; have hb3 : Below w.heap.size w w3 := hb2.trans hb3'; clear hb3' hg3 hno3))
    refine (crcRef_any A3 c3 w3 fh (by have := Hl2.out; omega) hr3).mono ?_
    rintro e w' ⟨rfl, rfl⟩
    have hcl := crc_lt fh
    go_wp2_with fail
    refine (num_any w3 4 (by omega) (crc fh) (by omega)).mono ?_
    rintro e w4 ⟨v4, rfl, hown4, hb4⟩
    obtain ⟨A4, c4, rfl, hl4, _, hr4⟩ := hown4.form
    rw [be_length]
    go_wp2_with (at_builtin; refine wpList_apB (by rfl) (.tmp 26) (.tmp 30) rfl w.heap.size _ fh rfl (hown3.below hb4) A4 4 c4 (be 4 (crc fh)) rfl (by rw [be_length]) hr4 fo Hfo.out.symm (by have := Hl3.out; omega) (Nat.le_trans hb3.size hb4.size) ?_; intro A5 c5 w5 hown5 hr5 hl5 hg5 hno5 hb5)
    go_ret
    exact ⟨_, rfl, by rw [Hfe.out]; exact hown5, (hb3.trans (hb4.mono hb3.size)).trans hb5⟩
  · have hml : (l.take 50).length = 50 := by simp; omega
    have h50c : (50 : Int) ≤ (c : Int) := by omega
    generalize l.take 50 = m at Hf1 Hf2 Hfe hrm hml ⊢
    have Hml := Lib.hid hml; clear hml
    go_enter Try.func24, Try.ntmps24
    go_wp2_with fail
    refine (num_any w 4 (by omega) s (by omega)).mono ?_
    rintro e w1 ⟨v1, rfl, hown1, hb1⟩
    have hr1 := hr.below hb1
    have hs1 := hb1.size
    have hrb : RB (w1.alloc (.cells #[.int .u8 ((p : Int) % 256), .int .u8 50] 5)) (some ⟨w1.heap.size, 0, none⟩) [UInt8.ofNat p, UInt8.ofNat m.length] := by
      have h := RB_new w1 [UInt8.ofNat p, UInt8.ofNat m.length] 5 (0, 0)
      have e1 : bv (UInt8.ofNat p) = .int .u8 ((p : Int) % 256) := by unfold bv; congr 1
      have e2 : bv (UInt8.ofNat m.length) = .int .u8 50 := by unfold bv; congr 1; rw [UInt8.toNat_ofNat']; rw [Hml.out]; rfl
      rw [← e1, ← e2]
      exact h
    go_wp2_with (first
      | (at_builtin; refine wpList_apB (by rfl) (.tmp 15) (.tmp 21) rfl w.heap.size v1 (be 4 s) rfl (hown1.below ((Below.refl _ w1).alloc (Nat.le_refl _) _)) (some ⟨w1.heap.size, 0, none⟩) 2 2 [UInt8.ofNat p, UInt8.ofNat m.length] rfl rfl hrb f1 Hf1.out (by have := Hl1.out; omega) (Nat.le_trans hs1 (by simp)) ?_; intro A2 c2 w2 hown2 hr2 hl2 hg2 hno2 hb2'; have hb2 : Below w.heap.size w w2 := (hb1.alloc hs1 _).trans hb2'; clear hb2' hg2 hno2)
      | (at_builtin; refine wpList_apB (by rfl) (.tmp 23) (.tmp 24) rfl w.heap.size _ f1 rfl hown2 A 50 c m rfl Hml.out.symm (hrm.below hb2) fh Hf2.out (by have := Hl2.out; omega) hb2.size ?_; intro A3 c3 w3 hown3 hr3 hl3 hg3 hno3 hb3'; have hb3 : Below w.heap.size w w3 := hb2.trans hb3'; clear hb3' hg3 hno3))
    refine (crcRef_any A3 c3 w3 fh (by have := Hl2.out; omega) hr3).mono ?_
    rintro e w' ⟨rfl, rfl⟩
    have hcl := crc_lt fh
    go_wp2_with fail
    refine (num_any w3 4 (by omega) (crc fh) (by omega)).mono ?_
    rintro e w4 ⟨v4, rfl, hown4, hb4⟩
    obtain ⟨A4, c4, rfl, hl4, _, hr4⟩ := hown4.form
    rw [be_length]
    go_wp2_with (at_builtin; refine wpList_apB (by rfl) (.tmp 26) (.tmp 30) rfl w.heap.size _ fh rfl (hown3.below hb4) A4 4 c4 (be 4 (crc fh)) rfl (by rw [be_length]) hr4 fo Hfo.out.symm (by have := Hl3.out; omega) (Nat.le_trans hb3.size hb4.size) ?_; intro A5 c5 w5 hown5 hr5 hl5 hg5 hno5 hb5)
    go_ret
    exact ⟨_, rfl, by rw [Hfe.out]; exact hown5, (hb3.trans (hb4.mono hb3.size)).trans hb5⟩
/-- What the reference's Open answers: its bytes lie in what it was handed. -/
def RefOpenPost (w : World) (o : Option (Nat × Nat × List UInt8)) (e : Ending) (w' : World) : Prop :=
  match o with
  | none => e = .returned (.tuple #[.int .i64 0, .int .i64 0, .slice none 0 0, .bool false]) ∧ Below w.heap.size w w'
  | some (s, p, b) => ∃ A c, e = .returned (.tuple #[.int .i64 s, .int .i64 p, .slice A b.length c, .bool true]) ∧ RB w A b ∧ Below w.heap.size w w'
theorem open_long {l : List UInt8} (h : 60 < l.length) : openOf l = none := by
  cases ho : openOf l with
  | none => rfl
  | some x => obtain ⟨_, h2, _⟩ := open_some ho; omega
set_option maxRecDepth 100000 in
set_option maxHeartbeats 1000000 in
theorem openRef_any (A : Option Addr) (c : Nat) (w : World) (l : List UInt8) (hn : l.length ≤ 100000000000) (hlc : l.length ≤ c) (hr : RB w A l) :
    Calls Try.prog 25 #[.slice A l.length c] w (RefOpenPost w (openOf l)) := by
  by_cases h10 : l.length < 10
  · have e : openOf l = none := by unfold openOf; rw [if_pos h10]
    rw [e]
    go_enter Try.func25, Try.ntmps25
    go_wp2_with fail
    refine bodyPost_ret (results_tmp4 rfl _ _ _) rfl ?_
    exact ⟨rfl, Below.refl _ _⟩
  by_cases h60 : 60 < l.length
  · rw [open_long h60]
    go_enter Try.func25, Try.ntmps25
    go_wp2_with fail
    refine bodyPost_ret (results_tmp4 rfl _ _ _) rfl ?_
    exact ⟨rfl, Below.refl _ _⟩
  · obtain ⟨ad, rfl, h4⟩ := hr.at_ (k := 4) (by omega)
    have hr4 := hr.take 4
    have hrb := (hr.take (l.length - 4)).drop 6
    have hc6 : ¬ c = 6 := by omega
    have h4' : w.cell? ⟨ad.block, ad.off + 4, none⟩ = some (bv l[4]) := h4
    have hst := ofBe_small (l.take 4)
    rw [show (l.take 4).length = 4 from by simp; omega] at hst
    have hopen : openOf l = if frameOf (ofBe (l.take 4)) l[4].toNat (((l.take (l.length - 4)).drop 6).take 50) == l then some (ofBe (l.take 4), l[4].toNat, (l.take (l.length - 4)).drop 6) else none := by
      unfold openOf
      rw [if_neg h10, show l.getD 4 0 = l[4] from by simp [List.getD, List.getElem?_eq_getElem (show 4 < l.length by omega)]]
    rw [hopen]
    clear hopen
    have hget : ∀ x, Calls Try.prog 49 #[.slice (some ad) 4 c] (w.drewN x) fun e w' => e = .returned (.int .u64 (ofBe (l.take 4))) ∧ w.drewN x = w' := fun x => by
      have h := read_any (some ad) c (w.drewN x) (l.take 4) (by simp; omega) hr4
      rwa [show (l.take 4).length = 4 from by simp; omega] at h
    have hbl : ((l.take (l.length - 4)).drop 6).length = l.length - 10 := by simp; omega
    generalize (l.take (l.length - 4)).drop 6 = b at hrb hbl ⊢
    generalize ofBe (l.take 4) = st at hst hget ⊢
    generalize l[4] = x at h4 h4' ⊢
    have hp := x.toNat_lt
    have Hget := Lib.hid hget; clear hget
    have g1 : (4 : Int) ≤ (c : Int) := by omega
    have g2 : (4 : Int) < (l.length : Int) := by omega
    have g3 : (6 : Int) ≤ 6 + ((l.length : Int) - 10) := by omega
    have g4 : 6 + ((l.length : Int) - 10) ≤ (c : Int) := by omega
    have hf : ∀ x', Calls Try.prog 24 #[.int .i64 st, .int .i64 x.toNat, .slice (some ⟨ad.block, ad.off + 6, none⟩) (l.length - 10) (c - 6)] (w.drewN x') fun e w' =>
        ∃ v, e = .returned v ∧ OwnB w' w.heap.size v (frameOf st x.toNat (b.take 50)) ∧ Below w.heap.size w w' := fun x' => by
      have h := frameRef_any st x.toNat (by omega) (some ⟨ad.block, ad.off + 6, none⟩) (c - 6) (w.drewN x') b (by omega) (by omega) hrb
      rw [hbl] at h
      exact h.mono fun e w' ⟨v, h1, h2, h3⟩ => ⟨v, h1, h2, ⟨h3.os, h3.tape, h3.output, h3.size, h3.block⟩⟩
    have Hf := Lib.hid hf; clear hf
    have Hbl := Lib.hid hbl; clear hbl
    have hfl := frameOf_length st x.toNat (b.take 50)
    have hfl2 : (frameOf st x.toNat (b.take 50)).length ≤ 60 := by rw [hfl, List.length_take]; omega
    clear hfl
    obtain ⟨fo, hfo⟩ : ∃ fo, frameOf st x.toNat (b.take 50) = fo := ⟨_, rfl⟩
    rw [hfo] at Hf hfl2 ⊢
    clear hfo
    by_cases heq : fo = l
    · have hq : (fo == l) = true := by rw [heq, beq_self_eq_true]
      have Hq := Lib.hid hq
      rw [hq, if_pos rfl]
      clear hq heq
      go_enter Try.func25, Try.ntmps25
      go_wp2_with fail
      go_quiet ((go_at_call 49; exact quiet_eq (Hget.out _)))
      go_wp2_with fail
      refine (Hf.out _).mono ?_
      rintro e w1 ⟨v1, rfl, hown1, hb1⟩
      obtain ⟨A1, c1, rfl, hl1, _, hr1⟩ := hown1.form
      go_wp2_with fail
      refine (same_any A1 (some ad) c1 c w1 fo l (by omega) (by omega) hr1 (hr.below hb1)).mono ?_
      rintro e w' ⟨rfl, n2, rfl⟩
      rw [Hq.out]
      go_wp2_with fail
      refine bodyPost_ret (results_tmp4 rfl _ _ _) rfl ?_
      exact ⟨_, c - 6, by rw [Hbl.out]; rfl, hrb, ⟨hb1.os, hb1.tape, hb1.output, hb1.size, hb1.block⟩⟩
    · have hq : (fo == l) = false := by rw [beq_eq_false_iff_ne]; exact heq
      have Hq := Lib.hid hq
      rw [hq, if_neg (by decide)]
      clear hq heq
      go_enter Try.func25, Try.ntmps25
      go_wp2_with fail
      go_quiet ((go_at_call 49; exact quiet_eq (Hget.out _)))
      go_wp2_with fail
      refine (Hf.out _).mono ?_
      rintro e w1 ⟨v1, rfl, hown1, hb1⟩
      obtain ⟨A1, c1, rfl, hl1, _, hr1⟩ := hown1.form
      go_wp2_with fail
      refine (same_any A1 (some ad) c1 c w1 fo l (by omega) (by omega) hr1 (hr.below hb1)).mono ?_
      rintro e w' ⟨rfl, n2, rfl⟩
      rw [Hq.out]
      go_wp2_with fail
      refine bodyPost_ret (results_tmp4 rfl _ _ _) rfl ?_
      exact ⟨rfl, ⟨hb1.os, hb1.tape, hb1.output, hb1.size, hb1.block⟩⟩
end Go.Proofs.Ytmleldgohfcdbaa
