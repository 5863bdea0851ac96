/- append on slices of bytes, over this program's tables. -/
import Derived.Test.YtmleldgohfcdbaaProg
import Derived.Test.YtmleldgohfcdbaaBase
import Derived.KernelRfl
import Derived.Laws.BytesArg
import Derived.WalkSpells
import Derived.Lib.AppendStr
namespace Go.Proofs.Ytmleldgohfcdbaa
set_option linter.unusedVariables false
set_option linter.unusedSimpArgs false
open Go.RowKit
theorem info_byte : (Try.prog.info? 5).map (fun i => (i.zero, i.size, i.bytes)) = some (some (.int .u8 0), 1, 1) := by kernel_rfl
theorem wpList_appB {ops : Array Oper} {rest : List Oper} {o : Oper} {a : Act} {w : World} {Q : Exit → Act → World → Prop} (hgd : Region.wanted o (yielded ops a.tmps) = true) (s x : Operand)
    (ho : o.op = .call { callee := .builtin .append, args := #[s, x], argTypes := #[22, 22] })
    (base : Nat) (v : Value) (l : List UInt8) (hs : a.eval s = v) (hown : OwnB w base v l)
    (A : Option Addr) (c : Nat) (m : List UInt8) (hx : a.eval x = .slice A m.length c) (hr : RB w A m)
    (hlen : l.length + m.length ≤ 140737488355328) (hbase : base ≤ w.heap.size)
    (h : ∀ v' w', OwnB w' base v' (l ++ m) → w.grownBy w' v.ownBlock → (v'.ownBlock = v.ownBlock ∨ v'.ownBlock = some w.heap.size) → wpList Try.prog ops Q rest (a.put o.dst v') w') : wpList Try.prog ops Q (o :: rest) a w :=
  wpList_app w hgd s x 22 ho base 5 _ 1 1 Try.underlying22 info_byte rfl (by omega) v l.length _ hs hown A m.length c _ hx (by simp) hr.rv (bv_one m)
    (by unfold maxLen; omega) (by omega) hbase fun v' w' h1 h2 h3 => h v' w' (by unfold OwnB; rw [List.length_append, List.map_append]; exact h1) h2 h3
/-- append, what comes out under a name of its own. -/
theorem wpList_apB {ops : Array Oper} {rest : List Oper} {o : Oper} {a : Act} {w : World} {Q : Exit → Act → World → Prop} (hgd : Region.wanted o (yielded ops a.tmps) = true) (s x : Operand)
    (ho : o.op = .call { callee := .builtin .append, args := #[s, x], argTypes := #[22, 22] })
    (base : Nat) (v : Value) (l : List UInt8) (hs : a.eval s = v) (hown : OwnB w base v l)
    (A : Option Addr) (n c : Nat) (m : List UInt8) (hx : a.eval x = .slice A n c) (hn : n = m.length) (hr : RB w A m) (out : List UInt8) (hout : l ++ m = out)
    (hlen : out.length ≤ 140737488355328) (hbase : base ≤ w.heap.size)
    (h : ∀ A' c' w', OwnB w' base (.slice A' out.length c') out → RB w' A' out → out.length ≤ c' → w.grownBy w' v.ownBlock → ((Value.slice A' out.length c').ownBlock = v.ownBlock ∨ (Value.slice A' out.length c').ownBlock = some w.heap.size) → Below base w w' →
      wpList Try.prog ops Q rest (a.put o.dst (.slice A' out.length c')) w') : wpList Try.prog ops Q (o :: rest) a w := by
  subst hn
  subst hout
  refine wpList_appB hgd s x ho base v l hs hown A c m hx hr (by simpa using hlen) hbase fun v' w' h1 h2 h3 => ?_
  obtain ⟨A', c', rfl, hl, _, hr'⟩ := h1.form
  exact h A' c' w' h1 hr' hl h2 h3 (below_of_grown hown h2 hbase)
/-- 'append([]byte{}, b...)': a copy. -/
theorem wpList_copyB {ops : Array Oper} {rest : List Oper} {o : Oper} {a : Act} {w : World} {Q : Exit → Act → World → Prop} (hgd : Region.wanted o (yielded ops a.tmps) = true) (s x : Operand)
    (ho : o.op = .call { callee := .builtin .append, args := #[s, x], argTypes := #[22, 22] })
    (base : Nat) (v : Value) (hs : a.eval s = v) (hown : OwnB w base v [])
    (A : Option Addr) (c : Nat) (m : List UInt8) (hx : a.eval x = .slice A m.length c) (hr : RB w A m)
    (hlen : m.length ≤ 140737488355328) (hbase : base ≤ w.heap.size)
    (h : ∀ A' c' w', OwnB w' base (.slice A' m.length c') m → RB w' A' m → m.length ≤ c' → (0 < m.length → ∃ g, A' = some ⟨g, 0, none⟩ ∧ base ≤ g ∧ g < w'.heap.size) → Below base w w' → wpList Try.prog ops Q rest (a.put o.dst (.slice A' m.length c')) w') : wpList Try.prog ops Q (o :: rest) a w :=
  wpList_appB hgd s x ho base v [] hs hown A c m hx hr (by simpa using hlen) hbase fun v' w' h1 h2 _ => by
    rw [List.nil_append] at h1
    obtain ⟨A', c', rfl, hl, _, hr'⟩ := h1.form
    refine h A' c' w' h1 hr' hl (fun hm => ?_) (below_of_grown hown h2 hbase)
    obtain ⟨g, cc, hv, hg, hgw, _⟩ := owns_some h1 hm
    injection hv with hA _ _
    exact ⟨g, hA, hg, hgw⟩
/-- 'string(b)'. -/
theorem run_str {A : Option Addr} {l : List UInt8} (w : World) (hr : RB w A l) (c : Nat) :
    (convert 22 9 (.slice A l.length c)).run Try.prog w = .ok (.string ⟨l.toArray⟩) w := by
  rcases l with _ | ⟨x, r⟩
  · rw [run_convert_bytes_string w _ _ _ _ _ c Try.underlying22 Try.underlying5 Try.underlying9]
    cases A <;> simp [Conv.bytesToString, loadCells]
    all_goals rfl
  · obtain ⟨ad, rfl, hc0⟩ := hr 0 (by simp)
    rw [add_zero] at hc0
    obtain ⟨b, o, s⟩ := ad
    have hs : s = none := by
      cases s with
      | none => rfl
      | some y =>
        simp only [World.cell?, Option.isSome_some, if_true] at hc0
        split at hc0 <;> simp at hc0
    subst hs
    have h := run_convert_bytes_arg (P := Try.prog) w 22 5 Try.underlying22 Try.underlying5 b o (x :: r).length c ((x :: r).map fun y => (y.toNat : Int)) (by simp) (fun i hi => by
      obtain ⟨ad, e, hc⟩ := hr i hi
      injection e with e
      subst e
      rw [Addr.add_lit] at hc
      rw [hc]
      simp only [bv]
      congr 2
      rw [List.getD_eq_getElem?_getD, List.getElem?_map, List.getElem?_eq_getElem hi]
      rfl) 9 Try.underlying9
    rw [h]
    have e : strOfNums ((x :: r).map fun y => (y.toNat : Int)) = ⟨(x :: r).toArray⟩ := by
      have h2 : ((x :: r).map fun y => (y.toNat : Int)).map (fun n => UInt8.ofNat n.toNat) = x :: r := by
        rw [List.map_map]
        exact (List.map_congr_left fun y _ => by simp).trans (List.map_id _)
      unfold strOfNums
      rw [h2]
    rw [e]
/-- A text, as a value. -/
abbrev sv (l : List UInt8) : Value := .string ⟨l.toArray⟩
/-- append of a text's bytes. -/
theorem wpList_apS {ops : Array Oper} {rest : List Oper} {o : Oper} {a : Act} {w : World} {Q : Exit → Act → World → Prop} (hgd : o.guard = none) (s x : Operand)
    (ho : o.op = .call { callee := .builtin .append, args := #[s, x], argTypes := #[22, 9] })
    (base : Nat) (v : Value) (l : List UInt8) (hs : a.eval s = v) (hown : OwnB w base v l)
    (m : List UInt8) (hx : a.eval x = sv m) (out : List UInt8) (hout : l ++ m = out)
    (hlen : out.length ≤ 140737488355328) (hbase : base ≤ w.heap.size)
    (h : ∀ v' w', OwnB w' base v' out → w.grownBy w' v.ownBlock → wpList Try.prog ops Q rest (a.put o.dst v') w') : wpList Try.prog ops Q (o :: rest) a w := by
  obtain ⟨i, hi, hz, hsize, hby⟩ := info_parts info_byte
  subst hout
  have hsz : (⟨m.toArray⟩ : ByteArray).size = m.length := by simp [ByteArray.size]
  rw [List.length_append] at hlen
  refine Lib.wpList_append_own_string w hgd s x 22 9 ho base 5 i Try.underlying22 Try.underlying9 hi hz hsize hby v l.length _ hs hown ⟨m.toArray⟩ hx (by rw [hsz]; unfold maxLen; omega) (by rw [hsz]; omega) hbase fun v' w' h1 h2 _ => h v' w' ?_ h2
  unfold OwnB
  rw [List.length_append, List.map_append]
  rw [hsz] at h1
  exact h1
end Go.Proofs.Ytmleldgohfcdbaa
