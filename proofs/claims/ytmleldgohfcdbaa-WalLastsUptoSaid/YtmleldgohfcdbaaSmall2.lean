/- law11.small: it answers something; if true, there are at most 60 records. -/
import Derived.Test.YtmleldgohfcdbaaSmall
namespace Go.Proofs.Ytmleldgohfcdbaa
set_option linter.unusedVariables false
set_option linter.unusedSimpArgs false
open Go.RowKit
def SmallPost (w : World) (l : List PRec) (e : Ending) (w' : World) : Prop := ∃ b : Bool, e = .returned (.bool b) ∧ (b = true → l.length ≤ 60) ∧ Below w.heap.size w w'
set_option maxRecDepth 100000 in
set_option maxHeartbeats 1000000 in
theorem small_any (A : Option Addr) (c : Nat) (w : World) (l : List PRec) (hl : l.length ≤ maxLen) (hr : RRecs w (· < w.heap.size) A l) (hM : ∀ r ∈ l, MaxR r) :
    Calls Try.prog 26 #[.slice A l.length c] w (SmallPost w l) := by
  have hl63 : l.length ≤ 9223372036854775807 := by unfold maxLen at hl; omega
  have Hr := Lib.hid hr; have HM := Lib.hid hM
  clear hl hr hM
  go_enter Try.func26, Try.ntmps26
  go_wp2_with fail
  go_loopw [3] (fun i wr => ∃ k : Nat, k ≤ l.length ∧ i = .int .i64 k ∧ Below w.heap.size w wr) (fun i _ => l.length - (intOf i).toNat)
  case atStart => exact ⟨0, by omega, rfl, Below.refl _ _⟩
  case round =>
    obtain ⟨k, hk, rfl, hbr⟩ := hrel
    by_cases hlt : k < l.length
    · have hrw := Hr.out.below hbr
      obtain ⟨ad, A1, A1c, A2, A2c, A3, A3c, rfl, ⟨m0, m1, m2, m3, m4, m5, m6⟩, hra⟩ := hrw.at_ hlt
      have hMa := HM.out _ (List.getElem_mem hlt)
      generalize l[k] = a at m0 m1 m2 m3 m4 m5 m6 hra hMa
      have hcall := refSmall_any wr a _ (hra.imp fun k hk _ => hk) hMa
      obtain ⟨ka, hsa, -⟩ := str_name a.key
      rw [hsa] at m3 hcall
      have i1 : (0 : Int) ≤ (k : Int) := by omega
      have i2 : (k : Int) < (l.length : Int) := by omega
      have Hcall := Lib.hid hcall
      clear hcall hra hrw hMa hsa
      go_wp2_with fail
      refine Hcall.out.mono ?_
      rintro e w2 ⟨b, rfl, hb2⟩
      have hbb : Below w.heap.size w w2 := hbr.trans (hb2.mono hbr.size)
      cases b with
      | true =>
        go_wp2_with fail
        go_roundw
        case rel => exact ⟨k + 1, by omega, by go_num, hbb⟩
        case measure => simp [intOf]; omega
      | false =>
        go_wp2_with fail
        go_ret
        exact ⟨false, rfl, by simp, hbb⟩
    · have i2 : ¬ (k : Int) < (l.length : Int) := by omega
      go_wp2_with fail
      go_ret
      exact ⟨decide ((l.length : Int) ≤ 60), rfl, fun h => by have := of_decide_eq_true h; omega, hbr⟩
end Go.Proofs.Ytmleldgohfcdbaa
