/- ref09's writer: what each of its methods does. -/
import Derived.Test.YtmleldgohfcdbaaWriter
import Derived.Deep.DeepAppendWide
import Derived.Deep.RegionHeld3
import Derived.Lib.AppendStr
namespace Go.Proofs.Ytmleldgohfcdbaa
set_option linter.unusedVariables false
set_option linter.unusedSimpArgs false
open Go.RowKit
/-! ### append onto up to 141836999983104 bytes -/
theorem run_apW (w : World) (ty : TypeId) (base : Nat) (v : Value) (l : List UInt8) (hown : OwnB w base v l) (A : Option Addr) (c : Nat) (m : List UInt8) (hr : RB w A m) (hlen : l.length + m.length ≤ 141836999983104) (hbase : base ≤ w.heap.size) :
    ∃ A' c' w', (Builtin.append_ #[22, 22] ty #[v, .slice A m.length c]).run Try.prog w = .ok (.slice A' (l ++ m).length c') w' ∧ OwnB w' base (.slice A' (l ++ m).length c') (l ++ m) ∧ w.grownBy w' v.ownBlock := by
  obtain ⟨i, hi, hz, hsize, hby⟩ := info_parts info_byte
  rcases A with _ | ad
  · have hm : m = [] := by
      rcases m with _ | ⟨u, r⟩
      · rfl
      · obtain ⟨ad, h, _⟩ := hr 0 (by simp)
        cases h
    subst hm
    have h1 := run_append_nil_src (P := Try.prog) w base 22 ty 5 i 1 Try.underlying22 hi v l.length _ hown c
    rw [List.append_nil]
    obtain ⟨A', c', rfl, _, _, _⟩ := hown.form
    exact ⟨A', c', w, h1, hown, World.grownBy.refl w _⟩
  · obtain ⟨v', w', h1, h2, h3, -⟩ := run_append_own_wide (P := Try.prog) w base 22 ty 5 i (.int .u8 0) 1 1 Try.underlying22 hi hz hsize hby rfl (by omega) v l.length _ hown ad m.length c (m.map bv) (by simp)
      (fun j u hu => hr.bytes j u hu ad rfl) (bv_one m) (by unfold maxLen; omega) (by omega) hbase
    have h4 : OwnB w' base v' (l ++ m) := by unfold OwnB; rw [List.length_append, List.map_append]; exact h2
    obtain ⟨A', c', rfl, _, _, _⟩ := h4.form
    exact ⟨A', c', w', h1, h4, h3⟩
theorem step_apW {ops : Array Oper} {o : Oper} {a : Act} {w : World} {K : Act → World → Prop} {Q : Exit → Act → World → Prop} {E : Prop} (hgd : o.guard = none) (s x : Operand)
    (ho : o.op = .call { callee := .builtin .append, args := #[s, x], argTypes := #[22, 22] })
    (base : Nat) (v : Value) (l : List UInt8) (hs : a.eval s = v) (hown : OwnB w base v l)
    (A : Option Addr) (n c : Nat) (m : List UInt8) (hx : a.eval x = .slice A n c) (hn : n = m.length) (hr : RB w A m) (out : List UInt8) (hout : l ++ m = out) (hlen : out.length ≤ 141836999983104) (hbase : base ≤ w.heap.size)
    (h : ∀ A' c' w', OwnB w' base (.slice A' out.length c') out → w.grownBy w' v.ownBlock → K (a.put o.dst (.slice A' out.length c')) w') :
    if Region.wanted o (yielded ops a.tmps) = true then Oper.wp Try.prog o a w K Q else E := by
  have hw : Region.wanted o (yielded ops a.tmps) = true := by simp [Region.wanted, hgd]
  rw [if_pos hw]
  subst hn
  subst hout
  obtain ⟨A', c', w', hrun, h1, h2⟩ := run_apW w o.type base v l hown A c m hr (by simpa using hlen) hbase
  unfold Oper.wp execOp
  simp only [ho, resolve, invoke, builtin, Sem.run_bind, Sem.run_pure, Result.andThen_ok, List.map_toArray, List.map_cons, List.map_nil, hs, hx, hrun]
  exact h A' c' w' h1 h2
/-! ### append of a text -/
theorem run_apSW (w : World) (ty : TypeId) (base : Nat) (v : Value) (l : List UInt8) (hown : OwnB w base v l) (m : List UInt8) (hlen : l.length + m.length ≤ 141836999983104) (hbase : base ≤ w.heap.size) :
    ∃ A' c' w', (Builtin.append_ #[22, 9] ty #[v, sv m]).run Try.prog w = .ok (.slice A' (l ++ m).length c') w' ∧ OwnB w' base (.slice A' (l ++ m).length c') (l ++ m) ∧ w.grownBy w' v.ownBlock := by
  obtain ⟨i, hi, hz, hsize, hby⟩ := info_parts info_byte
  have hsz : (⟨m.toArray⟩ : ByteArray).size = m.length := by simp [ByteArray.size]
  have hst : Lib.strCells ⟨m.toArray⟩ = m.map bv := by simp [Lib.strCells]
  by_cases hsmall : l.length + m.length ≤ 140737488355328
  · obtain ⟨v', w', h1, h2, h3, -⟩ := Lib.run_append_own_string (P := Try.prog) w base 22 9 ty 5 i Try.underlying22 Try.underlying9 hi hz hsize hby v l.length _ hown ⟨m.toArray⟩ (by rw [hsz]; unfold maxLen; omega) (by rw [hsz]; omega) hbase
    rw [hsz, hst] at h2
    have h4 : OwnB w' base v' (l ++ m) := by unfold OwnB; rw [List.length_append, List.map_append]; exact h2
    obtain ⟨A', c', rfl, _, _, _⟩ := h4.form
    exact ⟨A', c', w', h1, h4, h3⟩
  · have hw : ∀ (old : Nat), old < l.length + m.length → Builtin.nextslicecap (l.length + m.length) old ≤ 281474976710656 := fun old ho => by
      have := growslice_fits_wide (bytes := 1) ho (by omega)
      omega
    have hm0 : 0 < m.length ∨ 140737488355328 < l.length := by omega
    have hml : ∀ (x : Nat), (m.map bv).toArray.size = m.length := fun _ => by simp
    have new_ : ∀ (old : Nat), old < l.length + m.length →
        OwnB (w.drew.alloc (.cells ((l.map bv).toArray ++ (m.map bv).toArray ++ Builtin.zeroCells (Value.int .u8 0).cells (grownCap w (l.length + m.length) old 5 - (l.length + m.length))) 5)) base
          (.slice (some ⟨w.heap.size, 0, none⟩) (l ++ m).length (grownCap w (l.length + m.length) old 5)) (l ++ m) ∧
        ∀ row, w.grownBy (w.drew.alloc (.cells ((l.map bv).toArray ++ (m.map bv).toArray ++ Builtin.zeroCells (Value.int .u8 0).cells (grownCap w (l.length + m.length) old 5 - (l.length + m.length))) 5)) row := by
      intro old ho
      have hge := grownCap_ge w (l.length + m.length) old 5
      have hcm : grownCap w (l.length + m.length) old 5 ≤ maxLen := grownCap_le_maxLen w (l.length + m.length) old _ (by unfold maxLen; omega)
      refine ⟨⟨by simp, .inr ⟨w.heap.size, _, _, by rw [List.length_append], hbase, heap_alloc_new w.drew _, by rw [List.length_append]; exact hge, hcm, ?_, ?_⟩⟩, fun row => ⟨rfl, rfl, rfl, by simp, fun k hk _ => Below.heap_alloc w.drew _ k hk⟩⟩
      · have hz1 : (Value.int IntKind.u8 0).cells.size = 1 := rfl
        simp only [Array.size_append, List.size_toArray, size_zeroCells, hz1, List.length_map]
        omega
      · simp only [Array.toList_append, List.append_assoc, List.map_append]
        rw [← List.append_assoc, show (l ++ m).length * 1 = (l.map bv ++ m.map bv).length from by simp]
        exact List.take_left
    rcases hown.2 with ⟨rfl, hn⟩ | ⟨g, cap, cur, rfl, hbg, hg, hnc, hcm, hcs, htake⟩
    · have : l = [] := List.eq_nil_of_length_eq_zero hn
      subst this
      have hr := run_append_nil_string (P := Try.prog) w 22 9 ty 5 i (.int .u8 0) Try.underlying22 Try.underlying9 hi hz ⟨m.toArray⟩ (by rw [hsz]; simp at hm0; omega) (by rw [hsz]; simp at hlen; omega) (by rw [hsz, hby]; simp at hlen; omega)
      have hnew := new_ 0 (by simp at hm0 ⊢; omega)
      simp only [List.length_nil, Nat.zero_add, List.map_nil, List.nil_append, Array.empty_append] at hnew ⊢
      have e1 : ((⟨m.toArray⟩ : ByteArray).data.map fun b => Value.int .u8 b.toNat) = (m.map bv).toArray := by
        apply Array.ext'
        simp
      rw [e1, hsz] at hr
      exact ⟨_, _, _, hr, hnew.1, hnew.2 _⟩
    · by_cases hroom : l.length + m.length ≤ cap
      · have hcs' : cur.size = cap := by simpa using hcs
        have hr := Lib.run_append_room_string (P := Try.prog) w 22 9 ty 5 i Try.underlying22 Try.underlying9 hi hsize g l.length cap cur hg ⟨m.toArray⟩ (by rw [hsz]; exact hroom) (by rw [hsz]; omega)
        rw [hsz, hst] at hr
        refine ⟨some ⟨g, 0, none⟩, cap, _, by rw [List.length_append]; exact hr, ⟨by simp, .inr ⟨g, cap, _, rfl, hbg, setRow_heap w g cur _ _ _ hg, by rw [List.length_append]; exact hroom, hcm, ?_, ?_⟩⟩, ⟨rfl, rfl, rfl, by simp, fun k _ hk => setRow_other w g k _ (fun e => hk (by simp [Value.ownBlock, e]))⟩⟩
        · simp only [List.size_toArray, List.length_append, List.length_take, List.length_drop, Array.length_toList, List.length_map]
          omega
        · have ht' : cur.toList.take l.length = l.map bv := by simpa using htake
          rw [ht', show (l ++ m).length * 1 = (l.map bv ++ m.map bv).length from by simp, List.map_append]
          exact List.take_left
      · have holds : ∀ j u, (l.map bv)[j]? = some u → w.cell? ((⟨g, 0, none⟩ : Addr).add j) = some u := World.ownsRow.cells (g := g) hown rfl
        have hr := Lib.run_append_grow_string (P := Try.prog) w 22 9 ty 5 i (.int .u8 0) Try.underlying22 Try.underlying9 hi hz ⟨g, 0, none⟩ l.length cap (l.map bv) (by rw [hsize]; simp) holds ⟨m.toArray⟩ (by rw [hsz]; omega) (by rw [hsz]; omega) (by rw [hsz, hby, Nat.mul_one]; exact hw cap (by omega))
        rw [hsz, hst] at hr
        have hnew := new_ cap (by omega)
        exact ⟨_, _, _, by rw [List.length_append]; exact hr, by simpa using hnew.1, hnew.2 _⟩
theorem wpList_apSW {ops : Array Oper} {rest : List Oper} {o : Oper} {a : Act} {w : World} {Q : Exit → Act → World → Prop} (hgd : o.guard = none) (s x : Operand)
    (ho : o.op = .call { callee := .builtin .append, args := #[s, x], argTypes := #[22, 9] })
    (base : Nat) (v : Value) (l : List UInt8) (hs : a.eval s = v) (hown : OwnB w base v l) (m : List UInt8) (hx : a.eval x = sv m) (out : List UInt8) (hout : l ++ m = out) (hlen : out.length ≤ 141836999983104) (hbase : base ≤ w.heap.size)
    (h : ∀ A' c' w', OwnB w' base (.slice A' out.length c') out → w.grownBy w' v.ownBlock → wpList Try.prog ops Q rest (a.put o.dst (.slice A' out.length c')) w') : wpList Try.prog ops Q (o :: rest) a w := by
  refine wpList_plain hgd fun K hK => ?_
  subst hout
  obtain ⟨A', c', w', hr, h2, h3⟩ := run_apSW w o.type base v l hown m (by simpa using hlen) hbase
  unfold Oper.wp execOp
  simp only [ho, resolve, invoke, builtin, Sem.run_bind, Sem.run_pure, Result.andThen_ok, List.map_toArray, List.map_cons, List.map_nil, hs, hx, hr]
  exact hK _ _ (h A' c' w' h2 h3)
end Go.Proofs.Ytmleldgohfcdbaa
