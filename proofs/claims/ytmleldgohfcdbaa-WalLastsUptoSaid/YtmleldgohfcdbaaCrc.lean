/- Plain numbers and lists: the sum CRC-32C as a fold, that it parts bytes of which up to 32 bits side by side are turned, or one byte is another one. -/
namespace Go.Proofs.Ytmleldgohfcdbaa
set_option linter.unusedVariables false
set_option linter.unusedSimpArgs false
def crcStep (v : Nat) : Nat := if v % 2 = 1 then v / 2 ^^^ 2197175160 else v / 2
def crcIter : Nat → Nat → Nat
  | 0, v => v
  | k + 1, v => crcStep (crcIter k v)
def crcByte (v : Nat) (c : UInt8) : Nat := crcIter 8 (v ^^^ c.toNat)
def crcFold (v : Nat) (l : List UInt8) : Nat := l.foldl crcByte v
def ones : Nat := 4294967295
theorem ones_lt : ones < 2 ^ 32 := by decide
def crc (l : List UInt8) : Nat := crcFold ones l ^^^ ones

theorem xor_self_left (a b : Nat) : a ^^^ (a ^^^ b) = b := by rw [← Nat.xor_assoc, Nat.xor_self, Nat.zero_xor]
theorem xor_eq_zero {a b : Nat} (h : a ^^^ b = 0) : a = b := by
  have := xor_self_left a b
  rw [h, Nat.xor_zero] at this
  exact this
theorem xor_inj_right {a b c : Nat} (h : a ^^^ c = b ^^^ c) : a = b := by
  have h2 := congrArg (· ^^^ c) h
  simpa [Nat.xor_assoc] using h2
theorem crcStep_lt {v : Nat} (h : v < 2 ^ 32) : crcStep v < 2 ^ 32 := by
  unfold crcStep
  split
  · exact Nat.xor_lt_two_pow (by omega) (by decide)
  · omega
theorem crcIter_lt {v : Nat} (h : v < 2 ^ 32) : ∀ k, crcIter k v < 2 ^ 32
  | 0 => h
  | k + 1 => crcStep_lt (crcIter_lt h k)
theorem crcByte_lt {v : Nat} (h : v < 2 ^ 32) (c : UInt8) : crcByte v c < 2 ^ 32 :=
  crcIter_lt (Nat.xor_lt_two_pow h (by have := c.toNat_lt; omega)) 8
theorem crcFold_lt (l : List UInt8) : ∀ {v : Nat}, v < 2 ^ 32 → crcFold v l < 2 ^ 32 := by
  induction l with
  | nil => exact fun h => h
  | cons c l ih => exact fun h => ih (crcByte_lt h c)
theorem crc_lt (l : List UInt8) : crc l < 2 ^ 32 := Nat.xor_lt_two_pow (crcFold_lt l ones_lt) ones_lt

theorem mod2 (a b : Nat) : (a ^^^ b) % 2 = (a % 2) ^^^ (b % 2) := Nat.xor_mod_two_pow (n := 1)
theorem crcStep_xor (a b : Nat) : crcStep (a ^^^ b) = crcStep a ^^^ crcStep b := by
  unfold crcStep
  rw [Nat.xor_div_two]
  rcases Nat.mod_two_eq_zero_or_one a with ha | ha <;> rcases Nat.mod_two_eq_zero_or_one b with hb | hb <;> rw [mod2, ha, hb] <;> simp
  · rw [Nat.xor_assoc]
  · rw [Nat.xor_assoc, Nat.xor_comm (b / 2), Nat.xor_assoc]
  · rw [Nat.xor_assoc, Nat.xor_comm 2197175160, Nat.xor_assoc, Nat.xor_self, Nat.xor_zero]
theorem crcIter_xor (a b : Nat) : ∀ k, crcIter k (a ^^^ b) = crcIter k a ^^^ crcIter k b
  | 0 => rfl
  | k + 1 => by show crcStep (crcIter k _) = crcStep _ ^^^ crcStep _; rw [crcIter_xor a b k, crcStep_xor]
theorem crcStep_zero {v : Nat} (hv : v < 2 ^ 32) (h : crcStep v = 0) : v = 0 := by
  unfold crcStep at h
  split at h
  · have := xor_eq_zero h
    omega
  · omega
theorem crcIter_zero {v : Nat} (hv : v < 2 ^ 32) : ∀ k, crcIter k v = 0 → v = 0
  | 0, h => h
  | k + 1, h => crcIter_zero hv k (crcStep_zero (crcIter_lt hv k) h)
theorem crcIter_inj {a b k : Nat} (ha : a < 2 ^ 32) (hb : b < 2 ^ 32) (h : crcIter k a = crcIter k b) : a = b :=
  xor_eq_zero (crcIter_zero (Nat.xor_lt_two_pow ha hb) k (by rw [crcIter_xor, h, Nat.xor_self]))
theorem crcFold_inj (l : List UInt8) : ∀ {a b : Nat}, a < 2 ^ 32 → b < 2 ^ 32 → crcFold a l = crcFold b l → a = b := by
  induction l with
  | nil => exact fun _ _ h => h
  | cons c l ih =>
    intro a b ha hb h
    have h2 := ih (crcByte_lt ha c) (crcByte_lt hb c) h
    exact xor_inj_right (crcIter_inj (Nat.xor_lt_two_pow ha (by have := c.toNat_lt; omega)) (Nat.xor_lt_two_pow hb (by have := c.toNat_lt; omega)) h2)
theorem crcFold_append (v : Nat) (l m : List UInt8) : crcFold v (l ++ m) = crcFold (crcFold v l) m := List.foldl_append
theorem crcFold_take_succ (v : Nat) (l : List UInt8) (k : Nat) (h : k < l.length) : crcFold v (l.take (k + 1)) = crcByte (crcFold v (l.take k)) l[k] := by
  rw [List.take_succ_eq_append_getElem h, crcFold_append]
  rfl
theorem crcFold_cons (v : Nat) (c : UInt8) (l : List UInt8) : crcFold v (c :: l) = crcFold (crcByte v c) l := List.foldl_cons ..
theorem crc_inj {l m : List UInt8} (h : crc l = crc m) : crcFold ones l = crcFold ones m := xor_inj_right h

theorem crcIter_shift (x : Nat) : ∀ k, crcIter k (x * 2 ^ k) = x
  | 0 => by simp [crcIter]
  | k + 1 => by
    have h : ∀ j y, crcIter (j + 1) (y * 2) = crcIter j y := by
      intro j
      induction j with
      | zero => intro y; unfold crcIter crcIter crcStep; rw [if_neg (by omega)]; omega
      | succ j ih => intro y; show crcStep (crcIter (j + 1) (y * 2)) = _; rw [ih]; rfl
    rw [show x * 2 ^ (k + 1) = (x * 2 ^ k) * 2 from by rw [Nat.pow_succ, Nat.mul_assoc], h, crcIter_shift x k]

theorem xor_low (a d : Nat) (h : d < 256) : (a * 2 ^ 8) ^^^ d = a * 256 + d := by
  have h1 : ((a * 2 ^ 8) ^^^ d) / 2 ^ 8 = a := by
    rw [Nat.xor_div_two_pow, Nat.mul_div_cancel _ (by decide), Nat.div_eq_of_lt h, Nat.xor_zero]
  have h2 : ((a * 2 ^ 8) ^^^ d) % 2 ^ 8 = d := by
    rw [Nat.xor_mod_two_pow, Nat.mul_mod_left, Nat.zero_xor, Nat.mod_eq_of_lt h]
  omega

/-- Four bytes that are turned come to another state, unless nothing was turned. -/
theorem burst_zero {d0 d1 d2 d3 : Nat} (h0 : d0 < 256) (h1 : d1 < 256) (h2 : d2 < 256) (h3 : d3 < 256)
    (h : crcIter 8 (crcIter 8 (crcIter 8 (crcIter 8 d0 ^^^ d1) ^^^ d2) ^^^ d3) = 0) : d0 = 0 ∧ d1 = 0 ∧ d2 = 0 ∧ d3 = 0 := by
  have l : ∀ {x d : Nat}, x < 2 ^ 32 → d < 2 ^ 32 → x ^^^ d < 2 ^ 32 := fun a b => Nat.xor_lt_two_pow a b
  have b0 : d0 < 2 ^ 32 := by omega
  have b1 : d1 < 2 ^ 32 := by omega
  have b2 : d2 < 2 ^ 32 := by omega
  have b3 : d3 < 2 ^ 32 := by omega
  have e3 := xor_eq_zero (crcIter_zero (l (crcIter_lt (l (crcIter_lt (l (crcIter_lt b0 8) b1) 8) b2) 8) b3) 8 h)
  have e2 := crcIter_inj (l (crcIter_lt (l (crcIter_lt b0 8) b1) 8) b2) (by omega : d3 * 2 ^ 8 < 2 ^ 32) (e3.trans (crcIter_shift d3 8).symm)
  have e2' : crcIter 8 (crcIter 8 d0 ^^^ d1) = (d3 * 2 ^ 8) ^^^ d2 := by rw [← e2, Nat.xor_assoc, Nat.xor_self, Nat.xor_zero]
  have j2 := xor_low d3 d2 h2
  rw [j2] at e2'
  have e1 := crcIter_inj (l (crcIter_lt b0 8) b1) (by omega : (d3 * 256 + d2) * 2 ^ 8 < 2 ^ 32) (e2'.trans (crcIter_shift _ 8).symm)
  have e1' : crcIter 8 d0 = ((d3 * 256 + d2) * 2 ^ 8) ^^^ d1 := by rw [← e1, Nat.xor_assoc, Nat.xor_self, Nat.xor_zero]
  have j1 := xor_low (d3 * 256 + d2) d1 h1
  rw [j1] at e1'
  have e0 := crcIter_inj b0 (by omega : ((d3 * 256 + d2) * 256 + d1) * 2 ^ 8 < 2 ^ 32) (e1'.trans (crcIter_shift _ 8).symm)
  omega
theorem xor_four (a b c d : Nat) : (a ^^^ c) ^^^ (b ^^^ d) = (a ^^^ b) ^^^ (c ^^^ d) := by
  rw [Nat.xor_assoc, Nat.xor_assoc, ← Nat.xor_assoc c, Nat.xor_comm c b, Nat.xor_assoc]
theorem crcByte_xor (a b : Nat) (c d : UInt8) : crcByte a c ^^^ crcByte b d = crcIter 8 ((a ^^^ b) ^^^ (c.toNat ^^^ d.toNat)) :=
  (crcIter_xor _ _ 8).symm.trans (by rw [xor_four])
theorem xor_byte_lt (c d : UInt8) : c.toNat ^^^ d.toNat < 256 := Nat.xor_lt_two_pow (n := 8) c.toNat_lt d.toNat_lt
theorem byte_eq {c d : UInt8} (h : c.toNat ^^^ d.toNat = 0) : c = d := UInt8.toNat_inj.1 (xor_eq_zero h)

theorem crc_burst (p q : List UInt8) (b0 b1 b2 b3 c0 c1 c2 c3 : UInt8) (h : crc (p ++ b0 :: b1 :: b2 :: b3 :: q) = crc (p ++ c0 :: c1 :: c2 :: c3 :: q)) :
    b0 = c0 ∧ b1 = c1 ∧ b2 = c2 ∧ b3 = c3 := by
  have h1 := crc_inj h
  rw [crcFold_append, crcFold_append] at h1
  have hv := crcFold_lt p ones_lt
  generalize crcFold ones p = v at h1 hv
  simp only [crcFold_cons] at h1
  have h2 := crcFold_inj q (crcByte_lt (crcByte_lt (crcByte_lt (crcByte_lt hv b0) b1) b2) b3) (crcByte_lt (crcByte_lt (crcByte_lt (crcByte_lt hv c0) c1) c2) c3) h1
  have h3 : crcByte (crcByte (crcByte (crcByte v b0) b1) b2) b3 ^^^ crcByte (crcByte (crcByte (crcByte v c0) c1) c2) c3 = 0 := by rw [h2, Nat.xor_self]
  have h4 : crcIter 8 (crcIter 8 (crcIter 8 (crcIter 8 (b0.toNat ^^^ c0.toNat) ^^^ (b1.toNat ^^^ c1.toNat)) ^^^ (b2.toNat ^^^ c2.toNat)) ^^^ (b3.toNat ^^^ c3.toNat)) = 0 := by
    rw [← h3, crcByte_xor (crcByte (crcByte (crcByte v b0) b1) b2), crcByte_xor (crcByte (crcByte v b0) b1), crcByte_xor (crcByte v b0), crcByte_xor v, Nat.xor_self, Nat.zero_xor]
  clear h3 h2 h1
  obtain ⟨e0, e1, e2, e3⟩ := burst_zero (xor_byte_lt b0 c0) (xor_byte_lt b1 c1) (xor_byte_lt b2 c2) (xor_byte_lt b3 c3) h4
  exact ⟨byte_eq e0, byte_eq e1, byte_eq e2, byte_eq e3⟩
theorem crc_one (p q : List UInt8) (b c : UInt8) (h : crc (p ++ b :: q) = crc (p ++ c :: q)) : b = c := by
  have h1 := crc_inj h
  rw [crcFold_append, crcFold_append] at h1
  have hv := crcFold_lt p ones_lt
  generalize crcFold ones p = v at h1 hv
  simp only [crcFold_cons] at h1
  have h2 := crcFold_inj q (crcByte_lt hv b) (crcByte_lt hv c) h1
  have h3 : crcByte v b ^^^ crcByte v c = 0 := by rw [h2, Nat.xor_self]
  rw [crcByte_xor, Nat.xor_self, Nat.zero_xor] at h3
  exact byte_eq (crcIter_zero (Nat.lt_trans (xor_byte_lt b c) (by decide)) 8 h3)
theorem crc_example : crc [49, 50, 51, 52, 53, 54, 55, 56, 57] = 3808858755 := by decide +kernel
end Go.Proofs.Ytmleldgohfcdbaa
