/-
  No cell of these rows narrows 'for every input' (looked for: loops, veiled, ifaces, maps, wideKeys, modest, calm, conditions, laid).
  DERIVED. THE GIVEN ROWS OF THIS SEAT. 14 by the template 'for every input the law returns true; each argument reads behind the call as it read before'; 0 by the template 'total and deterministic' (their statements: YtmleldgohfcdbaaTotals.lean).
  GIVEN WITH THE SEED: the statements are not yours to turn. If you find one false, say at which input.
  Laid BY PROGRAM, IN A SANDBOX (cutbox-rows.mjs): the forced cells as the released guide's own fill.sh prints them over the translation 7d3a37849d489488… (all of the seat's roots in one cut). By AI agents, Wed Nov 11 2026. No macro, syntax, notation, axiom, sorry.
-/
import Derived.Test.YtmleldgohfcdbaaChecked
import GoSem.Claim
import GoSem.ClaimJoined
import GoSem.ClaimMapViews
import Derived.JoinedTies
import Derived.KernelRfl
namespace Go.Proofs.Ytmleldgohfcdbaa
/- THE CELL 'sum', in the pinned program and in every row, IS THE sha256 OF THE DUMP (.gsa) THAT YtmleldgohfcdbaaProg.lean LOADS. Nothing in Lean hashes anything: it is a label: what it is worth is what the hold of that sum in a sandbox is worth. -/
noncomputable def Try.pinned : Pinned := { name := "ytmleldgohfcdbaa", sum := "7d3a37849d48948864413e5594c12d91ae206780e4252f6888846460334d6046", checked := Try.checked }
namespace Rows
def none {H : Type} : Left H := { results := [], args := [] }

/-- 'flittinglaw04.SumOf': WHATEVER THE INPUT: true; the input reads as it did. -/
def sumOfSpec : ChangeSpec := { name := "sumOf", fn := fun _ => fun
  | [d] => { results := [.lit (.bool true)], args := [d] }
  | _ => none }
def sumOfRow : OpenClaim := { program := "ytmleldgohfcdbaa", sum := "7d3a37849d48948864413e5594c12d91ae206780e4252f6888846460334d6046", func := "flitting/flittinglaw04.SumOf", spec := "sumOf", apart := false }
def SumOfSaid : Prop := sumOfRow.holds Try.pinned (OpenSpec.ofChange sumOfSpec)

/-- ITS FALSE NEIGHBOUR: 'it returns false'. Refute it at one input. -/
def sumOfWrong : ChangeSpec := { name := "sumOf", fn := fun _ => fun
  | [d] => { results := [.lit (.bool false)], args := [d] }
  | _ => none }
def SumOfWrongFalsely : Prop := sumOfRow.holds Try.pinned (OpenSpec.ofChange sumOfWrong)

/-- 'flittinglaw04.SumBurst': WHATEVER THE INPUT: true; the input reads as it did. -/
def sumBurstSpec : ChangeSpec := { name := "sumBurst", fn := fun _ => fun
  | [d1, d2, d3] => { results := [.lit (.bool true)], args := [d1, d2, d3] }
  | _ => none }
def sumBurstRow : OpenClaim := { program := "ytmleldgohfcdbaa", sum := "7d3a37849d48948864413e5594c12d91ae206780e4252f6888846460334d6046", func := "flitting/flittinglaw04.SumBurst", spec := "sumBurst", apart := false }
def SumBurstSaid : Prop := sumBurstRow.holds Try.pinned (OpenSpec.ofChange sumBurstSpec)

/-- ITS FALSE NEIGHBOUR: 'it returns false'. Refute it at one input. -/
def sumBurstWrong : ChangeSpec := { name := "sumBurst", fn := fun _ => fun
  | [d1, d2, d3] => { results := [.lit (.bool false)], args := [d1, d2, d3] }
  | _ => none }
def SumBurstWrongFalsely : Prop := sumBurstRow.holds Try.pinned (OpenSpec.ofChange sumBurstWrong)

/-- 'flittinglaw04.SumOne': WHATEVER THE INPUT: true; the input reads as it did. -/
def sumOneSpec : ChangeSpec := { name := "sumOne", fn := fun _ => fun
  | [d1, d2, d3] => { results := [.lit (.bool true)], args := [d1, d2, d3] }
  | _ => none }
def sumOneRow : OpenClaim := { program := "ytmleldgohfcdbaa", sum := "7d3a37849d48948864413e5594c12d91ae206780e4252f6888846460334d6046", func := "flitting/flittinglaw04.SumOne", spec := "sumOne", apart := false }
def SumOneSaid : Prop := sumOneRow.holds Try.pinned (OpenSpec.ofChange sumOneSpec)

/-- ITS FALSE NEIGHBOUR: 'it returns false'. Refute it at one input. -/
def sumOneWrong : ChangeSpec := { name := "sumOne", fn := fun _ => fun
  | [d1, d2, d3] => { results := [.lit (.bool false)], args := [d1, d2, d3] }
  | _ => none }
def SumOneWrongFalsely : Prop := sumOneRow.holds Try.pinned (OpenSpec.ofChange sumOneWrong)

/-- 'flittinglaw07.SlotBack': WHATEVER THE INPUT: true; the input reads as it did. -/
def slotBackSpec : ChangeSpec := { name := "slotBack", fn := fun _ => fun
  | [d1, d2, d3] => { results := [.lit (.bool true)], args := [d1, d2, d3] }
  | _ => none }
def slotBackRow : OpenClaim := { program := "ytmleldgohfcdbaa", sum := "7d3a37849d48948864413e5594c12d91ae206780e4252f6888846460334d6046", func := "flitting/flittinglaw07.SlotBack", spec := "slotBack", apart := false }
def SlotBackSaid : Prop := slotBackRow.holds Try.pinned (OpenSpec.ofChange slotBackSpec)

/-- ITS FALSE NEIGHBOUR: 'it returns false'. Refute it at one input. -/
def slotBackWrong : ChangeSpec := { name := "slotBack", fn := fun _ => fun
  | [d1, d2, d3] => { results := [.lit (.bool false)], args := [d1, d2, d3] }
  | _ => none }
def SlotBackWrongFalsely : Prop := slotBackRow.holds Try.pinned (OpenSpec.ofChange slotBackWrong)

/-- 'flittinglaw07.SlotReads': WHATEVER THE INPUT: true; the input reads as it did. -/
def slotReadsSpec : ChangeSpec := { name := "slotReads", fn := fun _ => fun
  | [d] => { results := [.lit (.bool true)], args := [d] }
  | _ => none }
def slotReadsRow : OpenClaim := { program := "ytmleldgohfcdbaa", sum := "7d3a37849d48948864413e5594c12d91ae206780e4252f6888846460334d6046", func := "flitting/flittinglaw07.SlotReads", spec := "slotReads", apart := false }
def SlotReadsSaid : Prop := slotReadsRow.holds Try.pinned (OpenSpec.ofChange slotReadsSpec)

/-- ITS FALSE NEIGHBOUR: 'it returns false'. Refute it at one input. -/
def slotReadsWrong : ChangeSpec := { name := "slotReads", fn := fun _ => fun
  | [d] => { results := [.lit (.bool false)], args := [d] }
  | _ => none }
def SlotReadsWrongFalsely : Prop := slotReadsRow.holds Try.pinned (OpenSpec.ofChange slotReadsWrong)

/-- 'flittinglaw07.SlotTurned': WHATEVER THE INPUT: true; the input reads as it did. -/
def slotTurnedSpec : ChangeSpec := { name := "slotTurned", fn := fun _ => fun
  | [d1, d2, d3, d4, d5] => { results := [.lit (.bool true)], args := [d1, d2, d3, d4, d5] }
  | _ => none }
def slotTurnedRow : OpenClaim := { program := "ytmleldgohfcdbaa", sum := "7d3a37849d48948864413e5594c12d91ae206780e4252f6888846460334d6046", func := "flitting/flittinglaw07.SlotTurned", spec := "slotTurned", apart := false }
def SlotTurnedSaid : Prop := slotTurnedRow.holds Try.pinned (OpenSpec.ofChange slotTurnedSpec)

/-- ITS FALSE NEIGHBOUR: 'it returns false'. Refute it at one input. -/
def slotTurnedWrong : ChangeSpec := { name := "slotTurned", fn := fun _ => fun
  | [d1, d2, d3, d4, d5] => { results := [.lit (.bool false)], args := [d1, d2, d3, d4, d5] }
  | _ => none }
def SlotTurnedWrongFalsely : Prop := slotTurnedRow.holds Try.pinned (OpenSpec.ofChange slotTurnedWrong)

/-- 'flittinglaw07.SlotUnlike': WHATEVER THE INPUT: true; the input reads as it did. -/
def slotUnlikeSpec : ChangeSpec := { name := "slotUnlike", fn := fun _ => fun
  | [d1, d2, d3, d4, d5, d6] => { results := [.lit (.bool true)], args := [d1, d2, d3, d4, d5, d6] }
  | _ => none }
def slotUnlikeRow : OpenClaim := { program := "ytmleldgohfcdbaa", sum := "7d3a37849d48948864413e5594c12d91ae206780e4252f6888846460334d6046", func := "flitting/flittinglaw07.SlotUnlike", spec := "slotUnlike", apart := false }
def SlotUnlikeSaid : Prop := slotUnlikeRow.holds Try.pinned (OpenSpec.ofChange slotUnlikeSpec)

/-- ITS FALSE NEIGHBOUR: 'it returns false'. Refute it at one input. -/
def slotUnlikeWrong : ChangeSpec := { name := "slotUnlike", fn := fun _ => fun
  | [d1, d2, d3, d4, d5, d6] => { results := [.lit (.bool false)], args := [d1, d2, d3, d4, d5, d6] }
  | _ => none }
def SlotUnlikeWrongFalsely : Prop := slotUnlikeRow.holds Try.pinned (OpenSpec.ofChange slotUnlikeWrong)

/-- 'flittinglaw07.SlotCuts': WHATEVER THE INPUT: true; the input reads as it did. -/
def slotCutsSpec : ChangeSpec := { name := "slotCuts", fn := fun _ => fun
  | [d1, d2, d3, d4, d5] => { results := [.lit (.bool true)], args := [d1, d2, d3, d4, d5] }
  | _ => none }
def slotCutsRow : OpenClaim := { program := "ytmleldgohfcdbaa", sum := "7d3a37849d48948864413e5594c12d91ae206780e4252f6888846460334d6046", func := "flitting/flittinglaw07.SlotCuts", spec := "slotCuts", apart := false }
def SlotCutsSaid : Prop := slotCutsRow.holds Try.pinned (OpenSpec.ofChange slotCutsSpec)

/-- ITS FALSE NEIGHBOUR: 'it returns false'. Refute it at one input. -/
def slotCutsWrong : ChangeSpec := { name := "slotCuts", fn := fun _ => fun
  | [d1, d2, d3, d4, d5] => { results := [.lit (.bool false)], args := [d1, d2, d3, d4, d5] }
  | _ => none }
def SlotCutsWrongFalsely : Prop := slotCutsRow.holds Try.pinned (OpenSpec.ofChange slotCutsWrong)

/-- 'flittinglaw11.WalScan': WHATEVER THE INPUT: true; the input reads as it did. -/
def walScanSpec : ChangeSpec := { name := "walScan", fn := fun _ => fun
  | [d1, d2, d3] => { results := [.lit (.bool true)], args := [d1, d2, d3] }
  | _ => none }
def walScanRow : OpenClaim := { program := "ytmleldgohfcdbaa", sum := "7d3a37849d48948864413e5594c12d91ae206780e4252f6888846460334d6046", func := "flitting/flittinglaw11.WalScan", spec := "walScan", unfollowed := true, recurses := true, apart := false }
def WalScanSaid : Prop := walScanRow.holds Try.pinned (OpenSpec.ofChange walScanSpec)

/-- ITS FALSE NEIGHBOUR: 'it returns false'. Refute it at one input. -/
def walScanWrong : ChangeSpec := { name := "walScan", fn := fun _ => fun
  | [d1, d2, d3] => { results := [.lit (.bool false)], args := [d1, d2, d3] }
  | _ => none }
def WalScanWrongFalsely : Prop := walScanRow.holds Try.pinned (OpenSpec.ofChange walScanWrong)

/-- 'flittinglaw11.WalAppends': WHATEVER THE INPUT: true; the input reads as it did. -/
def walAppendsSpec : ChangeSpec := { name := "walAppends", fn := fun _ => fun
  | [d1, d2] => { results := [.lit (.bool true)], args := [d1, d2] }
  | _ => none }
def walAppendsRow : OpenClaim := { program := "ytmleldgohfcdbaa", sum := "7d3a37849d48948864413e5594c12d91ae206780e4252f6888846460334d6046", func := "flitting/flittinglaw11.WalAppends", spec := "walAppends", unfollowed := true, recurses := true, apart := false }
def WalAppendsSaid : Prop := walAppendsRow.holds Try.pinned (OpenSpec.ofChange walAppendsSpec)

/-- ITS FALSE NEIGHBOUR: 'it returns false'. Refute it at one input. -/
def walAppendsWrong : ChangeSpec := { name := "walAppends", fn := fun _ => fun
  | [d1, d2] => { results := [.lit (.bool false)], args := [d1, d2] }
  | _ => none }
def WalAppendsWrongFalsely : Prop := walAppendsRow.holds Try.pinned (OpenSpec.ofChange walAppendsWrong)

/-- 'flittinglaw11.WalFull': WHATEVER THE INPUT: true; the input reads as it did. -/
def walFullSpec : ChangeSpec := { name := "walFull", fn := fun _ => fun
  | [d] => { results := [.lit (.bool true)], args := [d] }
  | _ => none }
def walFullRow : OpenClaim := { program := "ytmleldgohfcdbaa", sum := "7d3a37849d48948864413e5594c12d91ae206780e4252f6888846460334d6046", func := "flitting/flittinglaw11.WalFull", spec := "walFull", unfollowed := true, recurses := true, apart := false }
def WalFullSaid : Prop := walFullRow.holds Try.pinned (OpenSpec.ofChange walFullSpec)

/-- ITS FALSE NEIGHBOUR: 'it returns false'. Refute it at one input. -/
def walFullWrong : ChangeSpec := { name := "walFull", fn := fun _ => fun
  | [d] => { results := [.lit (.bool false)], args := [d] }
  | _ => none }
def WalFullWrongFalsely : Prop := walFullRow.holds Try.pinned (OpenSpec.ofChange walFullWrong)

/-- 'flittinglaw11.WalSpoilt': WHATEVER THE INPUT: true; the input reads as it did. -/
def walSpoiltSpec : ChangeSpec := { name := "walSpoilt", fn := fun _ => fun
  | [d1, d2] => { results := [.lit (.bool true)], args := [d1, d2] }
  | _ => none }
def walSpoiltRow : OpenClaim := { program := "ytmleldgohfcdbaa", sum := "7d3a37849d48948864413e5594c12d91ae206780e4252f6888846460334d6046", func := "flitting/flittinglaw11.WalSpoilt", spec := "walSpoilt", unfollowed := true, recurses := true, apart := false }
def WalSpoiltSaid : Prop := walSpoiltRow.holds Try.pinned (OpenSpec.ofChange walSpoiltSpec)

/-- ITS FALSE NEIGHBOUR: 'it returns false'. Refute it at one input. -/
def walSpoiltWrong : ChangeSpec := { name := "walSpoilt", fn := fun _ => fun
  | [d1, d2] => { results := [.lit (.bool false)], args := [d1, d2] }
  | _ => none }
def WalSpoiltWrongFalsely : Prop := walSpoiltRow.holds Try.pinned (OpenSpec.ofChange walSpoiltWrong)

/-- 'flittinglaw11.WalNone': WHATEVER THE INPUT: true; the input reads as it did. -/
def walNoneSpec : ChangeSpec := { name := "walNone", fn := fun _ => fun
  | [d] => { results := [.lit (.bool true)], args := [d] }
  | _ => none }
def walNoneRow : OpenClaim := { program := "ytmleldgohfcdbaa", sum := "7d3a37849d48948864413e5594c12d91ae206780e4252f6888846460334d6046", func := "flitting/flittinglaw11.WalNone", spec := "walNone", unfollowed := true, recurses := true, apart := false }
def WalNoneSaid : Prop := walNoneRow.holds Try.pinned (OpenSpec.ofChange walNoneSpec)

/-- ITS FALSE NEIGHBOUR: 'it returns false'. Refute it at one input. -/
def walNoneWrong : ChangeSpec := { name := "walNone", fn := fun _ => fun
  | [d] => { results := [.lit (.bool false)], args := [d] }
  | _ => none }
def WalNoneWrongFalsely : Prop := walNoneRow.holds Try.pinned (OpenSpec.ofChange walNoneWrong)

/-- 'flittinglaw11.WalLasts': WHATEVER THE INPUT: true; the input reads as it did. -/
def walLastsSpec : ChangeSpec := { name := "walLasts", fn := fun _ => fun
  | [d1, d2, d3, d4] => { results := [.lit (.bool true)], args := [d1, d2, d3, d4] }
  | _ => none }
def walLastsRow : OpenClaim := { program := "ytmleldgohfcdbaa", sum := "7d3a37849d48948864413e5594c12d91ae206780e4252f6888846460334d6046", func := "flitting/flittinglaw11.WalLasts", spec := "walLasts", unfollowed := true, recurses := true, apart := false }
def WalLastsSaid : Prop := walLastsRow.holds Try.pinned (OpenSpec.ofChange walLastsSpec)

/-- ITS FALSE NEIGHBOUR: 'it returns false'. Refute it at one input. -/
def walLastsWrong : ChangeSpec := { name := "walLasts", fn := fun _ => fun
  | [d1, d2, d3, d4] => { results := [.lit (.bool false)], args := [d1, d2, d3, d4] }
  | _ => none }
def WalLastsWrongFalsely : Prop := walLastsRow.holds Try.pinned (OpenSpec.ofChange walLastsWrong)

/- THE SECOND FORM. 'bulk': how many values and letters a reading holds, each counted each time it is reached (what is shared counts as often as it is met; a slice's spare places count too). A statement '..UptoSaid' is the law's where the arguments, and the package variables that the reading takes, are together of bulk at most 1048576: NARROWER than '..Said'. Prove '..Said' where nothing that the law and all that it calls make is longer than what came in: it says more and counts as full. Else prove '..UptoSaid'. A law counts once. -/
mutual
def uptoBulk {H : Type} : DataW H → Nat
  | .lit (.string bytes) => bytes.length + 1
  | .lit _ => 1
  | .nil => 1
  | .ptr d => uptoBulk d + 1
  | .slice elems spare => uptoBulkAll elems + uptoBulkAll spare + 1
  | .agg parts => uptoBulkAll parts + 1
  | .iface _ d => uptoBulk d + 1
  | .map entries => uptoBulkEntries entries + 1
  | .held _ => 1
def uptoBulkAll {H : Type} : List (DataW H) → Nat
  | [] => 0
  | d :: r => uptoBulk d + uptoBulkAll r
def uptoBulkEntries {H : Type} : List (Lit × DataW H) → Nat
  | [] => 0
  | x :: r => uptoBulkEntry x + uptoBulkEntries r
def uptoBulkEntry {H : Type} : Lit × DataW H → Nat
  | (.string bytes, d) => bytes.length + uptoBulk d + 1
  | (_, d) => uptoBulk d + 1
 end
def uptoSmall : (H : Type) → List (DataW H) → Bool := fun _ ds => decide (uptoBulkAll ds ≤ 1048576)
def OpenSpec.upto (s : _root_.Go.ChangeSpec) : _root_.Go.OpenSpec := { _root_.Go.OpenSpec.ofChange s with cond := some uptoSmall }

/-- 'flittinglaw04.SumOf', WHERE WHAT IT READS IS OF BULK AT MOST 1048576: true; the input reads as it did. -/
def sumOfUptoRow : OpenClaim := { program := "ytmleldgohfcdbaa", sum := "7d3a37849d48948864413e5594c12d91ae206780e4252f6888846460334d6046", func := "flitting/flittinglaw04.SumOf", spec := "sumOf", apart := false, narrowed := true }
def SumOfUptoSaid : Prop := sumOfUptoRow.holds Try.pinned (OpenSpec.upto sumOfSpec)

/-- 'flittinglaw04.SumBurst', WHERE WHAT IT READS IS OF BULK AT MOST 1048576: true; the input reads as it did. -/
def sumBurstUptoRow : OpenClaim := { program := "ytmleldgohfcdbaa", sum := "7d3a37849d48948864413e5594c12d91ae206780e4252f6888846460334d6046", func := "flitting/flittinglaw04.SumBurst", spec := "sumBurst", apart := false, narrowed := true }
def SumBurstUptoSaid : Prop := sumBurstUptoRow.holds Try.pinned (OpenSpec.upto sumBurstSpec)

/-- 'flittinglaw04.SumOne', WHERE WHAT IT READS IS OF BULK AT MOST 1048576: true; the input reads as it did. -/
def sumOneUptoRow : OpenClaim := { program := "ytmleldgohfcdbaa", sum := "7d3a37849d48948864413e5594c12d91ae206780e4252f6888846460334d6046", func := "flitting/flittinglaw04.SumOne", spec := "sumOne", apart := false, narrowed := true }
def SumOneUptoSaid : Prop := sumOneUptoRow.holds Try.pinned (OpenSpec.upto sumOneSpec)

/-- 'flittinglaw07.SlotBack', WHERE WHAT IT READS IS OF BULK AT MOST 1048576: true; the input reads as it did. -/
def slotBackUptoRow : OpenClaim := { program := "ytmleldgohfcdbaa", sum := "7d3a37849d48948864413e5594c12d91ae206780e4252f6888846460334d6046", func := "flitting/flittinglaw07.SlotBack", spec := "slotBack", apart := false, narrowed := true }
def SlotBackUptoSaid : Prop := slotBackUptoRow.holds Try.pinned (OpenSpec.upto slotBackSpec)

/-- 'flittinglaw07.SlotReads', WHERE WHAT IT READS IS OF BULK AT MOST 1048576: true; the input reads as it did. -/
def slotReadsUptoRow : OpenClaim := { program := "ytmleldgohfcdbaa", sum := "7d3a37849d48948864413e5594c12d91ae206780e4252f6888846460334d6046", func := "flitting/flittinglaw07.SlotReads", spec := "slotReads", apart := false, narrowed := true }
def SlotReadsUptoSaid : Prop := slotReadsUptoRow.holds Try.pinned (OpenSpec.upto slotReadsSpec)

/-- 'flittinglaw07.SlotTurned', WHERE WHAT IT READS IS OF BULK AT MOST 1048576: true; the input reads as it did. -/
def slotTurnedUptoRow : OpenClaim := { program := "ytmleldgohfcdbaa", sum := "7d3a37849d48948864413e5594c12d91ae206780e4252f6888846460334d6046", func := "flitting/flittinglaw07.SlotTurned", spec := "slotTurned", apart := false, narrowed := true }
def SlotTurnedUptoSaid : Prop := slotTurnedUptoRow.holds Try.pinned (OpenSpec.upto slotTurnedSpec)

/-- 'flittinglaw07.SlotUnlike', WHERE WHAT IT READS IS OF BULK AT MOST 1048576: true; the input reads as it did. -/
def slotUnlikeUptoRow : OpenClaim := { program := "ytmleldgohfcdbaa", sum := "7d3a37849d48948864413e5594c12d91ae206780e4252f6888846460334d6046", func := "flitting/flittinglaw07.SlotUnlike", spec := "slotUnlike", apart := false, narrowed := true }
def SlotUnlikeUptoSaid : Prop := slotUnlikeUptoRow.holds Try.pinned (OpenSpec.upto slotUnlikeSpec)

/-- 'flittinglaw07.SlotCuts', WHERE WHAT IT READS IS OF BULK AT MOST 1048576: true; the input reads as it did. -/
def slotCutsUptoRow : OpenClaim := { program := "ytmleldgohfcdbaa", sum := "7d3a37849d48948864413e5594c12d91ae206780e4252f6888846460334d6046", func := "flitting/flittinglaw07.SlotCuts", spec := "slotCuts", apart := false, narrowed := true }
def SlotCutsUptoSaid : Prop := slotCutsUptoRow.holds Try.pinned (OpenSpec.upto slotCutsSpec)

/-- 'flittinglaw11.WalScan', WHERE WHAT IT READS IS OF BULK AT MOST 1048576: true; the input reads as it did. -/
def walScanUptoRow : OpenClaim := { program := "ytmleldgohfcdbaa", sum := "7d3a37849d48948864413e5594c12d91ae206780e4252f6888846460334d6046", func := "flitting/flittinglaw11.WalScan", spec := "walScan", unfollowed := true, recurses := true, apart := false, narrowed := true }
def WalScanUptoSaid : Prop := walScanUptoRow.holds Try.pinned (OpenSpec.upto walScanSpec)

/-- 'flittinglaw11.WalAppends', WHERE WHAT IT READS IS OF BULK AT MOST 1048576: true; the input reads as it did. -/
def walAppendsUptoRow : OpenClaim := { program := "ytmleldgohfcdbaa", sum := "7d3a37849d48948864413e5594c12d91ae206780e4252f6888846460334d6046", func := "flitting/flittinglaw11.WalAppends", spec := "walAppends", unfollowed := true, recurses := true, apart := false, narrowed := true }
def WalAppendsUptoSaid : Prop := walAppendsUptoRow.holds Try.pinned (OpenSpec.upto walAppendsSpec)

/-- 'flittinglaw11.WalFull', WHERE WHAT IT READS IS OF BULK AT MOST 1048576: true; the input reads as it did. -/
def walFullUptoRow : OpenClaim := { program := "ytmleldgohfcdbaa", sum := "7d3a37849d48948864413e5594c12d91ae206780e4252f6888846460334d6046", func := "flitting/flittinglaw11.WalFull", spec := "walFull", unfollowed := true, recurses := true, apart := false, narrowed := true }
def WalFullUptoSaid : Prop := walFullUptoRow.holds Try.pinned (OpenSpec.upto walFullSpec)

/-- 'flittinglaw11.WalSpoilt', WHERE WHAT IT READS IS OF BULK AT MOST 1048576: true; the input reads as it did. -/
def walSpoiltUptoRow : OpenClaim := { program := "ytmleldgohfcdbaa", sum := "7d3a37849d48948864413e5594c12d91ae206780e4252f6888846460334d6046", func := "flitting/flittinglaw11.WalSpoilt", spec := "walSpoilt", unfollowed := true, recurses := true, apart := false, narrowed := true }
def WalSpoiltUptoSaid : Prop := walSpoiltUptoRow.holds Try.pinned (OpenSpec.upto walSpoiltSpec)

/-- 'flittinglaw11.WalNone', WHERE WHAT IT READS IS OF BULK AT MOST 1048576: true; the input reads as it did. -/
def walNoneUptoRow : OpenClaim := { program := "ytmleldgohfcdbaa", sum := "7d3a37849d48948864413e5594c12d91ae206780e4252f6888846460334d6046", func := "flitting/flittinglaw11.WalNone", spec := "walNone", unfollowed := true, recurses := true, apart := false, narrowed := true }
def WalNoneUptoSaid : Prop := walNoneUptoRow.holds Try.pinned (OpenSpec.upto walNoneSpec)

/-- 'flittinglaw11.WalLasts', WHERE WHAT IT READS IS OF BULK AT MOST 1048576: true; the input reads as it did. -/
def walLastsUptoRow : OpenClaim := { program := "ytmleldgohfcdbaa", sum := "7d3a37849d48948864413e5594c12d91ae206780e4252f6888846460334d6046", func := "flitting/flittinglaw11.WalLasts", spec := "walLasts", unfollowed := true, recurses := true, apart := false, narrowed := true }
def WalLastsUptoSaid : Prop := walLastsUptoRow.holds Try.pinned (OpenSpec.upto walLastsSpec)

end Rows
end Go.Proofs.Ytmleldgohfcdbaa
