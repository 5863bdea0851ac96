/- Plain lists: what bytes are a frame; a frame that is turned, cut off or longer is none. -/
import Derived.Test.YtmleldgohfcdbaaFrame
import Derived.Test.YtmleldgohfcdbaaTurn
namespace Go.Proofs.Ytmleldgohfcdbaa
set_option linter.unusedVariables false
set_option linter.unusedSimpArgs false
theorem ofBe_be4 (s : Nat) (h : s < 4294967296) : ofBe (be 4 s) = s := by
  simp [be, ofBe, beStep]
  omega
theorem byte4 (a b c d : UInt8) : be 4 (ofBe [a, b, c, d]) = [a, b, c, d] := by
  have ha := a.toNat_lt; have hb := b.toNat_lt; have hc := c.toNat_lt; have hd := d.toNat_lt
  have e : ofBe [a, b, c, d] = ((a.toNat * 256 + b.toNat) * 256 + c.toNat) * 256 + d.toNat := by
    simp [ofBe, beStep]; omega
  rw [e]
  simp only [be, List.cons.injEq, and_true]
  refine ⟨UInt8.toNat_inj.1 ?_, UInt8.toNat_inj.1 ?_, UInt8.toNat_inj.1 ?_, UInt8.toNat_inj.1 ?_⟩ <;> rw [UInt8.toNat_ofNat'] <;> omega
theorem be4_ofBe (l : List UInt8) (h : l.length = 4) : be 4 (ofBe l) = l := by
  match l, h with
  | [a, b, c, d], _ => exact byte4 a b c d
theorem be4_inj {s t : Nat} (hs : s < 4294967296) (ht : t < 4294967296) (h : be 4 s = be 4 t) : s = t := by
  rw [← ofBe_be4 s hs, h, ofBe_be4 t ht]
theorem frame_take4 (s p : Nat) (b : List UInt8) : (frameOf s p b).take 4 = be 4 s := by
  unfold frameOf frameHead
  rw [List.append_assoc, List.append_assoc, List.append_assoc, List.take_append_of_le_length (by rw [be_length]; omega), List.take_of_length_le (by rw [be_length]; omega)]
theorem frame_get4 (s p : Nat) (b : List UInt8) : (frameOf s p b).getD 4 0 = UInt8.ofNat p := by
  simp [frameOf, frameHead, List.getD, be]
theorem frame_get5 (s p : Nat) (b : List UInt8) : (frameOf s p b).getD 5 0 = UInt8.ofNat b.length := by
  simp [frameOf, frameHead, List.getD, be]
theorem frame_take (s p : Nat) (b : List UInt8) : (frameOf s p b).take ((frameOf s p b).length - 4) = frameHead s p b := by
  unfold frameOf
  rw [List.length_append, be_length, Nat.add_sub_cancel, List.take_left]
theorem frame_drop (s p : Nat) (b : List UInt8) : (frameOf s p b).drop ((frameOf s p b).length - 4) = be 4 (crc (frameHead s p b)) := by
  unfold frameOf
  rw [List.length_append, be_length, Nat.add_sub_cancel, List.drop_left]
theorem frameHead_drop (s p : Nat) (b : List UInt8) : (frameHead s p b).drop 6 = b := by
  unfold frameHead
  have e : (be 4 s ++ [UInt8.ofNat p, UInt8.ofNat b.length]).length = 6 := by simp [be_length]
  rw [← e, List.drop_left]
theorem open_frame (s p : Nat) (b : List UInt8) (hs : s < 4294967296) (hp : p < 256) (hb : b.length ≤ 50) : openOf (frameOf s p b) = some (s, p, b) := by
  unfold openOf
  rw [if_neg (by rw [frameOf_length]; omega), frame_take4, ofBe_be4 s hs, frame_get4, frame_take, frameHead_drop, List.take_of_length_le (by omega),
    show (UInt8.ofNat p).toNat = p from by rw [UInt8.toNat_ofNat']; omega, if_pos (beq_self_eq_true _)]
theorem frameOf_inj {s s' p p' : Nat} {b b' : List UInt8} (hs : s < 4294967296) (hp : p < 256) (hb : b.length ≤ 50) (hs' : s' < 4294967296) (hp' : p' < 256) (hb' : b'.length ≤ 50)
    (h : frameOf s p b = frameOf s' p' b') : s = s' ∧ p = p' ∧ b = b' := by
  have h1 := open_frame s p b hs hp hb
  rw [h, open_frame s' p' b' hs' hp' hb'] at h1
  simp only [Option.some.injEq, Prod.mk.injEq] at h1
  exact ⟨h1.1.symm, h1.2.1.symm, h1.2.2.symm⟩
/-- What opens: its sixth byte tells its length, its last four the sum of all ahead. -/
theorem open_some {f : List UInt8} {x : Nat × Nat × List UInt8} (h : openOf f = some x) :
    10 ≤ f.length ∧ f.length ≤ 60 ∧ (f.getD 5 0).toNat = f.length - 10 ∧ f.drop (f.length - 4) = be 4 (crc (f.take (f.length - 4))) ∧ x = (ofBe (f.take 4), (f.getD 4 0).toNat, (f.take (f.length - 4)).drop 6) ∧
      frameOf x.1 x.2.1 x.2.2 = f := by
  unfold openOf at h
  split at h
  · cases h
  · rename_i h10
    split at h
    · rename_i he
      injection h with h
      have he := eq_of_beq he
      generalize hb : ((f.take (f.length - 4)).drop 6) = b at he h
      have hbl : b.length = f.length - 10 := by rw [← hb]; simp; omega
      have hl := congrArg List.length he
      rw [frameOf_length, List.length_take] at hl
      have h50 : b.length ≤ 50 := by omega
      rw [List.take_of_length_le h50] at he
      have h5 := congrArg (fun l => l.getD 5 0) he
      simp only [frame_get5] at h5
      refine ⟨by omega, by omega, ?_, ?_, h.symm, ?_⟩
      · rw [← h5, UInt8.toNat_ofNat']; omega
      · rw [← he, frame_drop, frame_take]
      · rw [← h]; exact he
    · cases h
theorem turnAt_take (l : List UInt8) (k t n : Nat) : ∀ i, k + i ≤ n → (turnAt l k t i).take n = turnAt (l.take n) k t i
  | 0, _ => rfl
  | i + 1, h => by
    unfold turnAt
    rw [← turnAt_take l k t n i (by omega), List.take_set]
    congr 2
    simp [List.getD, show k + i < n by omega]
theorem turnAt_drop (l : List UInt8) (k t n : Nat) : ∀ i, k + i ≤ n → (turnAt l k t i).drop n = l.drop n
  | 0, _ => rfl
  | i + 1, h => by
    unfold turnAt
    rw [List.drop_set, if_pos (by omega)]
    exact turnAt_drop l k t n i (by omega)
theorem open_turned (s p : Nat) (b : List UInt8) (k t : Nat) (hk : k + 4 ≤ (frameOf s p b).length - 4) (ht : t < 4294967296) (h0 : t ≠ 0) : openOf (turnAt (frameOf s p b) k t 4) = none := by
  cases ho : openOf (turnAt (frameOf s p b) k t 4) with
  | none => rfl
  | some x =>
    exfalso
    obtain ⟨h1, _, _, h4, _⟩ := open_some ho
    rw [turnAt_length] at h4
    rw [turnAt_drop _ _ _ _ 4 hk, frame_drop, turnAt_take _ _ _ _ 4 hk, frame_take] at h4
    have hfl := frameHead_length s p b
    have hol := frameOf_length s p b
    have := be4_inj (crc_lt _) (crc_lt _) h4
    exact turned_other (frameHead s p b) k t (by omega) ht h0 this
theorem open_cut (s p : Nat) (b : List UInt8) (hb : b.length ≤ 50) (k : Nat) (hk : k < (frameOf s p b).length) : openOf ((frameOf s p b).take k) = none := by
  cases ho : openOf ((frameOf s p b).take k) with
  | none => rfl
  | some x =>
    exfalso
    obtain ⟨h1, _, h3, _⟩ := open_some ho
    have hol := frameOf_length s p b
    rw [List.length_take] at h1 h3
    have e : ((frameOf s p b).take k).getD 5 0 = (frameOf s p b).getD 5 0 := by
      simp [List.getD, show 5 < k by omega]
    rw [e, frame_get5, UInt8.toNat_ofNat'] at h3
    omega
theorem open_more (s p : Nat) (b : List UInt8) (hb : b.length ≤ 50) (x : UInt8) : openOf (frameOf s p b ++ [x]) = none := by
  cases ho : openOf (frameOf s p b ++ [x]) with
  | none => rfl
  | some y =>
    exfalso
    obtain ⟨h1, _, h3, _⟩ := open_some ho
    have hol := frameOf_length s p b
    rw [List.length_append, List.length_singleton] at h1 h3
    have e : (frameOf s p b ++ [x]).getD 5 0 = (frameOf s p b).getD 5 0 := by
      simp [List.getD, List.getElem?_append, show 5 < (frameOf s p b).length by omega]
    rw [e, frame_get5, UInt8.toNat_ofNat'] at h3
    omega
end Go.Proofs.Ytmleldgohfcdbaa
