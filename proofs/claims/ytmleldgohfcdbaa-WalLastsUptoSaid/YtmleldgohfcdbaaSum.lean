/- sum.Of and the reference's Crc both return the sum crc of the bytes; Same tells whether two are the same. -/
import Derived.Test.YtmleldgohfcdbaaProg
import Derived.Test.YtmleldgohfcdbaaBase
import Derived.Test.YtmleldgohfcdbaaCrc
import Derived.WalkSpells
import Derived.WalkLawsBesides
import Derived.LoopTactic
import Derived.Outline
import Derived.IntWalk
import Derived.Laws.BitsAllLaws
import Derived.Lib.Hide
namespace Go.Proofs.Ytmleldgohfcdbaa
set_option linter.unusedVariables false
set_option linter.unusedSimpArgs false
open Go.RowKit
theorem crc_xor_in (u : Nat) (c : UInt8) (hu : u < 2 ^ 32) : bits .xor .u32 (u : Int) ((c.toNat : Int) % 4294967296) = ((u ^^^ c.toNat : Nat) : Int) := by
  have h := c.toNat_lt
  rw [show ((c.toNat : Int) % 4294967296) = (c.toNat : Int) from by omega]
  exact u32_xor_nat u c.toNat hu (by omega)
theorem crc_step_in (u : Nat) (hu : u < 2 ^ 32) : bits .xor .u32 ((u : Int) / 2) (2197175160 * bits .and .u32 (u : Int) 1 % 4294967296) = ((crcStep u : Nat) : Int) := by
  have h1 : bits .and .u32 (u : Int) 1 = ((u % 2 : Nat) : Int) := by
    rw [show (1 : Int) = ((1 : Nat) : Int) from rfl, u32_and_nat u 1 hu (by decide), Nat.and_one_is_mod]
  rw [h1, show ((u : Int) / 2) = ((u / 2 : Nat) : Int) from by omega, show (2197175160 * ((u % 2 : Nat) : Int) % 4294967296) = ((2197175160 * (u % 2) : Nat) : Int) from by omega,
    u32_xor_nat _ _ (by omega) (by omega)]
  unfold crcStep
  rcases Nat.mod_two_eq_zero_or_one u with h | h <;> rw [h] <;> simp
theorem crc_end_in (u : Nat) (hu : u < 2 ^ 32) : bits .xor .u32 IntKind.u32.max (u : Int) = ((u ^^^ ones : Nat) : Int) := by
  rw [show IntKind.u32.max = ((ones : Nat) : Int) from by decide, u32_xor_nat _ _ ones_lt hu, Nat.xor_comm]
theorem ret_int {k : IntKind} {a b : Int} (h : a = b) : Ending.returned (.int k a) = .returned (.int k b) := by rw [h]
set_option maxHeartbeats 400000 in
theorem of_any (A : Option Addr) (c : Nat) (w : World) (l : List UInt8) (hn : l.length ≤ 9000000000000000) (hr : RB w A l) :
    Calls Try.prog 18 #[.slice A l.length c] w fun e w' => e = .returned (.int .u32 (crc l)) ∧ w = w' := by
  go_enter Try.func18, Try.ntmps18
  go_wp2
  go_loop [3, 5, 8] (fun v _ i => ∃ k : Nat, k ≤ l.length ∧ i = .int .i64 k ∧ v = .int .u32 (crcFold ones (l.take k))) (fun _ _ i => l.length - (intOf i).toNat)
  case atStart => exact ⟨0, by omega, rfl, rfl⟩
  case round =>
   obtain ⟨k, hk, rfl, rfl⟩ := hrel
   have hu := crcFold_lt (l.take k) ones_lt
   have hs := Lib.hid (crcFold_take_succ ones l k)
   generalize hg : crcFold ones (l.take k) = u at hu hs
   have Hg := Lib.hid hg; clear hg
   by_cases hlt : k < l.length
   · obtain ⟨ad, rfl, hcell⟩ := hr.at_ hlt
     go_wp2
     rw [crc_xor_in u l[k] hu]
     have hx : u ^^^ l[k].toNat < 2 ^ 32 := Nat.xor_lt_two_pow hu (by have := l[k].toNat_lt; omega)
     go_loop [3, 16, 17] (fun v i _ => ∃ j : Nat, j ≤ 8 ∧ i = .int .i64 j ∧ v = .int .u32 (crcIter j (u ^^^ l[k].toNat))) (fun _ i _ => 8 - (intOf i).toNat)
     case atStart => exact ⟨0, by omega, rfl, rfl⟩
     case round =>
      obtain ⟨j, hj, rfl, rfl⟩ := hrel
      have hv := crcIter_lt hx j
      by_cases hj8 : j < 8
      · go_wp2
        go_round
        case rel => exact ⟨j + 1, by omega, by go_num, int_eq (crc_step_in _ hv)⟩
        case measure => simp [intOf]; omega
      · go_wp2
        have e : j = 8 := by omega
        subst e
        exact ⟨⟨k + 1, by omega, by go_num, by rw [hs.out hlt]; rfl⟩, by simp [intOf]; omega⟩
   · go_wp2
     go_ret
     refine ⟨ret_int ((crc_end_in _ hu).trans ?_), rfl⟩
     have e : k = l.length := by omega
     subst e
     rw [← Hg.out, List.take_length]
     rfl
end Go.Proofs.Ytmleldgohfcdbaa
