/- append on slices of bytes, over this program's tables. -/
import Derived.Test.YtmleldgohfcdbaaProg
import Derived.Test.YtmleldgohfcdbaaBase
import Derived.KernelRfl
namespace Go.Proofs.Ytmleldgohfcdbaa
open Go.RowKit
theorem info_byte : (Try.prog.info? 5).map (fun i => (i.zero, i.size, i.bytes)) = some (some (.int .u8 0), 1, 1) := by kernel_rfl
theorem wpList_appB {ops : Array Oper} {rest : List Oper} {o : Oper} {a : Act} {w : World} {Q : Exit → Act → World → Prop} (hgd : Region.wanted o (yielded ops a.tmps) = true) (s x : Operand)
    (ho : o.op = .call { callee := .builtin .append, args := #[s, x], argTypes := #[22, 22] })
    (base : Nat) (v : Value) (l : List UInt8) (hs : a.eval s = v) (hown : OwnB w base v l)
    (A : Option Addr) (c : Nat) (m : List UInt8) (hx : a.eval x = .slice A m.length c) (hr : RB w A m)
    (hlen : l.length + m.length ≤ 140737488355328) (hbase : base ≤ w.heap.size)
    (h : ∀ v' w', OwnB w' base v' (l ++ m) → w.grownBy w' v.ownBlock → (v'.ownBlock = v.ownBlock ∨ v'.ownBlock = some w.heap.size) → wpList Try.prog ops Q rest (a.put o.dst v') w') : wpList Try.prog ops Q (o :: rest) a w :=
  wpList_app w hgd s x 22 ho base 5 _ 1 1 Try.underlying22 info_byte rfl (by omega) v l.length _ hs hown A m.length c _ hx (by simp) hr.rv (bv_one m)
    (by unfold maxLen; omega) (by omega) hbase fun v' w' h1 h2 h3 => h v' w' (by unfold OwnB; rw [List.length_append, List.map_append]; exact h1) h2 h3
/-- 'append([]byte{}, b...)': a copy. -/
theorem wpList_copyB {ops : Array Oper} {rest : List Oper} {o : Oper} {a : Act} {w : World} {Q : Exit → Act → World → Prop} (hgd : Region.wanted o (yielded ops a.tmps) = true) (s x : Operand)
    (ho : o.op = .call { callee := .builtin .append, args := #[s, x], argTypes := #[22, 22] })
    (base : Nat) (v : Value) (hs : a.eval s = v) (hown : OwnB w base v [])
    (A : Option Addr) (c : Nat) (m : List UInt8) (hx : a.eval x = .slice A m.length c) (hr : RB w A m)
    (hlen : m.length ≤ 140737488355328) (hbase : base ≤ w.heap.size)
    (h : ∀ A' c' w', OwnB w' base (.slice A' m.length c') m → RB w' A' m → m.length ≤ c' → (0 < m.length → ∃ g, A' = some ⟨g, 0, none⟩ ∧ base ≤ g ∧ g < w'.heap.size) → Below base w w' → wpList Try.prog ops Q rest (a.put o.dst (.slice A' m.length c')) w') : wpList Try.prog ops Q (o :: rest) a w :=
  wpList_appB hgd s x ho base v [] hs hown A c m hx hr (by simpa using hlen) hbase fun v' w' h1 h2 _ => by
    rw [List.nil_append] at h1
    obtain ⟨A', c', rfl, hl, _, hr'⟩ := h1.form
    refine h A' c' w' h1 hr' hl (fun hm => ?_) (below_of_grown hown h2 hbase)
    obtain ⟨g, cc, hv, hg, hgw, _⟩ := owns_some h1 hm
    injection hv with hA _ _
    exact ⟨g, hA, hg, hgw⟩
end Go.Proofs.Ytmleldgohfcdbaa
