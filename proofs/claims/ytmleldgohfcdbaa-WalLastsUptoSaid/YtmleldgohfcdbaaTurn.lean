/- Bytes of which up to four side by side are turned: plain lists; their sums differ. -/
import Derived.Test.YtmleldgohfcdbaaCrc
namespace Go.Proofs.Ytmleldgohfcdbaa
set_option linter.unusedVariables false
set_option linter.unusedSimpArgs false
/-- Bytes of which the i-th behind k is turned by the i-th byte of t, up to i. -/
def turnAt (l : List UInt8) (k t : Nat) : Nat → List UInt8
  | 0 => l
  | i + 1 => (turnAt l k t i).set (k + i) ((turnAt l k t i).getD (k + i) 0 ^^^ UInt8.ofNat (t / 2 ^ (8 * i)))
theorem turnAt_length (l : List UInt8) (k t : Nat) : ∀ i, (turnAt l k t i).length = l.length
  | 0 => rfl
  | i + 1 => by unfold turnAt; rw [List.length_set, turnAt_length l k t i]
theorem four_at (l : List UInt8) (k : Nat) (h : k + 4 ≤ l.length) : ∃ p b0 b1 b2 b3 q, l = p ++ b0 :: b1 :: b2 :: b3 :: q ∧ p.length = k := by
  refine ⟨l.take k, l[k], l[k + 1], l[k + 2], l[k + 3], l.drop (k + 4), ?_, by simp; omega⟩
  rw [← List.drop_eq_getElem_cons (i := k + 3) (by omega), ← List.drop_eq_getElem_cons (i := k + 2) (by omega), ← List.drop_eq_getElem_cons (i := k + 1) (by omega),
    ← List.drop_eq_getElem_cons (i := k) (by omega), List.take_append_drop]
theorem turnAt_four (p q : List UInt8) (b0 b1 b2 b3 : UInt8) (t : Nat) :
    turnAt (p ++ b0 :: b1 :: b2 :: b3 :: q) p.length t 4 = p ++ (b0 ^^^ UInt8.ofNat t) :: (b1 ^^^ UInt8.ofNat (t / 256)) :: (b2 ^^^ UInt8.ofNat (t / 65536)) :: (b3 ^^^ UInt8.ofNat (t / 16777216)) :: q := by
  simp [turnAt, List.getD]
theorem xor_same {b c : UInt8} (h : b = b ^^^ c) : c = 0 := by
  have h2 : b ^^^ b = b ^^^ (b ^^^ c) := congrArg (b ^^^ ·) h
  rw [← UInt8.xor_assoc, UInt8.xor_self, UInt8.zero_xor] at h2
  exact h2.symm
theorem ofNat_zero {n : Nat} (h : UInt8.ofNat n = 0) : n % 256 = 0 := by
  have := congrArg UInt8.toNat h
  simpa using this
theorem turned_other (l : List UInt8) (k t : Nat) (h : k + 4 ≤ l.length) (ht : t < 4294967296) (h0 : t ≠ 0) : crc l ≠ crc (turnAt l k t 4) := by
  obtain ⟨p, b0, b1, b2, b3, q, rfl, rfl⟩ := four_at l k h
  rw [turnAt_four]
  intro hc
  obtain ⟨e0, e1, e2, e3⟩ := crc_burst p q _ _ _ _ _ _ _ _ hc
  have z0 := ofNat_zero (xor_same e0)
  have z1 := ofNat_zero (xor_same e1)
  have z2 := ofNat_zero (xor_same e2)
  have z3 := ofNat_zero (xor_same e3)
  omega
theorem set_other (l : List UInt8) (k : Nat) (h : k < l.length) (x : UInt8) (h0 : x ≠ 0) : crc l ≠ crc (l.set k (l[k] ^^^ x)) := by
  have e : l = l.take k ++ l[k] :: l.drop (k + 1) := by rw [← List.drop_eq_getElem_cons, List.take_append_drop]
  have e2 : l.set k (l[k] ^^^ x) = l.take k ++ (l[k] ^^^ x) :: l.drop (k + 1) := List.set_eq_take_append_cons_drop.trans (by rw [if_pos h])
  intro hc
  rw [e2] at hc
  exact h0 (xor_same (crc_one (l.take k) (l.drop (k + 1)) l[k] _ ((congrArg crc e).symm.trans hc)))
end Go.Proofs.Ytmleldgohfcdbaa
