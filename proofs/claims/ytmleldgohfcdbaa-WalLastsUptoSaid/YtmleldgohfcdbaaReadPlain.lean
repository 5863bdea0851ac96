/- The reader of records, as functions of lists of bytes. -/
import Derived.Test.YtmleldgohfcdbaaRecPlain
namespace Go.Proofs.Ytmleldgohfcdbaa
set_option linter.unusedVariables false
set_option linter.unusedSimpArgs false
structure RS where
  b : List UInt8
  bad : Bool
def rtake (n : Nat) (s : RS) : List UInt8 × RS := if s.bad = true ∨ s.b.length < n then ([], ⟨s.b, true⟩) else (s.b.take n, ⟨s.b.drop n, false⟩)
def rnum (n : Nat) (s : RS) : Int × RS := ((ofBe (rtake n s).1 : Nat), (rtake n s).2)
def rkey (s : RS) : List UInt8 × RS := rtake (rnum 1 s).1.toNat (rnum 1 s).2
def rloop {α : Type} (one : RS → α × RS) : Nat → RS → List α × RS
  | 0, s => ([], s)
  | n + 1, s => if s.bad then ([], s) else ((one s).1 :: (rloop one n (one s).2).1, (rloop one n (one s).2).2)
def rrow {α : Type} (one : RS → α × RS) (n : Nat) (s : RS) : List α × RS := rloop one (rnum n s).1.toNat (rnum n s).2
def rstripe (s : RS) : PStripe × RS :=
  let a := rnum 4 s
  let b := rnum 4 a.2
  let c := rrow (rnum 4) 1 b.2
  (⟨a.1, b.1, c.1⟩, c.2)
def robj (s : RS) : PObj × RS :=
  let k := rkey s
  let a := rnum 4 k.2
  let b := rnum 4 a.2
  let c := rrow rstripe 1 b.2
  (⟨k.1, a.1, b.1, c.1⟩, c.2)
def rrec (s : RS) : PRec × RS :=
  let a := rnum 1 s
  let b := rnum 4 a.2
  let c := rnum 4 b.2
  let k := rkey c.2
  let d := rrow rstripe 1 k.2
  let e := rrow robj 2 d.2
  let f := rrow (rnum 4) 1 e.2
  (⟨a.1, b.1, c.1, k.1, d.1, e.1, f.1⟩, f.2)
theorem rtake_len (n : Nat) (s : RS) : (rtake n s).1.length ≤ n := by
  unfold rtake
  split
  · simp
  · rw [List.length_take]; omega
theorem rnum_bd (n : Nat) (s : RS) (hn : n ≤ 4) : 0 ≤ (rnum n s).1 ∧ (rnum n s).1 < 4294967296 := by
  have h1 := ofBe_small (rtake n s).1
  have h2 := rtake_len n s
  have h3 : (256 : Nat) ^ (rtake n s).1.length ≤ 256 ^ 4 := Nat.pow_le_pow_right (by omega) (by omega)
  have h4 : (256 : Nat) ^ 4 = 4294967296 := by decide
  show 0 ≤ ((ofBe (rtake n s).1 : Nat) : Int) ∧ ((ofBe (rtake n s).1 : Nat) : Int) < 4294967296
  omega
theorem rnum_row (n : Nat) (s : RS) (hn : n ≤ 2) : (rnum n s).1 < 65536 := by
  have h1 := ofBe_small (rtake n s).1
  have h2 := rtake_len n s
  have h3 : (256 : Nat) ^ (rtake n s).1.length ≤ 256 ^ 2 := Nat.pow_le_pow_right (by omega) (by omega)
  have h4 : (256 : Nat) ^ 2 = 65536 := by decide
  show ((ofBe (rtake n s).1 : Nat) : Int) < 65536
  omega
theorem rloop_len {α : Type} (one : RS → α × RS) (n : Nat) : ∀ s, (rloop one n s).1.length ≤ n := by
  induction n with
  | zero => intro s; simp [rloop]
  | succ n ih =>
    intro s
    unfold rloop
    split
    · simp
    · simp only [List.length_cons]
      have := ih (one s).2
      omega
end Go.Proofs.Ytmleldgohfcdbaa
