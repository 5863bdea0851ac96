/- Records that came in, of bounded keys, opened. -/
import Derived.Test.YtmleldgohfcdbaaOpenArg
import Derived.Test.YtmleldgohfcdbaaRefEnc4
import Derived.SizedLaws
namespace Go.Proofs.Ytmleldgohfcdbaa
set_option linter.unusedVariables false
set_option linter.unusedSimpArgs false
open Go.RowKit
section
variable {H : Type} {enc : TypeId × Value → H} {w : World} {base : Nat} {spare : Nat → Bool} {held : Bool}
theorem weightsAll_mem {P : Program} {e : TypeId} : ∀ {l : List (DataW H)} {d : DataW H}, d ∈ l → ∀ n ∈ d.weights P e, n ∈ DataW.weightsAll P e l
  | a :: l, d, h, n, hn => by
    simp only [DataW.weightsAll, List.mem_append]
    rcases List.mem_cons.1 h with rfl | h
    · exact .inl hn
    · exact .inr (weightsAll_mem h n hn)
theorem trod_rows_w {P : Program} {α : Type} [Inhabited α] (K : Nat) (R : α → List Value → Prop) {t e : TypeId} {n : Nat} (ht : P.underlying t = some (.slice e)) (hc : P.cellsOf e = n)
    (hel : ∀ fuel cs x, DataW.trod enc P w base spare held fuel e cs = some x → (∀ k ∈ x.1.weights P e, k ≤ K) → ∃ a, R a cs) {fuel : Nat} {cs : List Value} {x : DataW H × List MemPlace} (h : DataW.trod enc P w base spare held fuel t cs = some x)
    (hw : ∀ k ∈ x.1.weights P t, k ≤ K) :
    ∃ A c l vs, cs = [.slice A l.length c] ∧ l.length ≤ c ∧ c ≤ maxLen ∧ RowsOf R l vs ∧ RVb w (· < w.heap.size) A vs := by
  rcases Go.Deep.open_slice ht h with ⟨rfl, -⟩ | ⟨a, len, cap, m, f, D, Pl, rfl, -, hl, hm, hmm, hxe, hx⟩
  · exact ⟨none, 0, [], [], rfl, Nat.le_refl _, Nat.zero_le _, rfl, RVb.none_⟩
  · have hlm : len ≤ m := by rw [hmm]; split <;> omega
    have hD : ∀ i, i < len → ∀ k ∈ (D i).weights P e, k ≤ K := fun i hi k hk => by
      refine hw k ?_
      rw [hxe]
      unfold DataW.weights
      rw [ht]
      simp only [List.mem_cons, List.mem_append]
      exact .inr (.inl (weightsAll_mem (List.mem_map.2 ⟨i, List.mem_range.2 hi, rfl⟩) k hk))
    have key : ∀ k, k ≤ len → ∃ (l : List α) (vs : List Value), l.length = k ∧ RowsOf R l vs ∧ vs.length = k * n ∧ ∀ j (hj : j < vs.length), w.cell? (a.add j) = some vs[j] := by
      intro k
      induction k with
      | zero => exact fun _ => ⟨[], [], rfl, rfl, by simp, fun j hj => absurd hj (by simp)⟩
      | succ k ih =>
        intro hk
        obtain ⟨l, vs, h1, h2, h3, h4⟩ := ih (by omega)
        obtain ⟨cs', h5, h6⟩ := hx k (by omega)
        obtain ⟨b, hb⟩ := hel _ _ _ h6 (hD k (by omega))
        obtain ⟨-, h7, h8⟩ := World.cells?_some h5
        rw [hc] at h7 h8
        refine ⟨l ++ [b], vs ++ cs', by simp [h1], h2.append ⟨cs', [], by simp, hb, rfl⟩, by rw [List.length_append, h3, h7, Nat.add_mul]; omega, fun j hj => ?_⟩
        by_cases hj2 : j < vs.length
        · rw [List.getElem_append_left hj2]; exact h4 j hj2
        · have h9 := h8 (j - vs.length) (by rw [List.length_append] at hj; omega)
          rw [Go.Deep.add_add, show k * n + (j - vs.length) = j by omega] at h9
          rw [List.getElem_append_right (by omega), h9]
          exact List.getElem?_eq_getElem _
    obtain ⟨l, vs, h1, h2, -, h4⟩ := key len (Nat.le_refl _)
    refine ⟨some a, cap, l, vs, by rw [h1], by omega, hm, h2, fun j hj => ⟨a, rfl, ?_, h4 j hj⟩⟩
    have := World.block_lt_of_cell? w _ (h4 j hj)
    rwa [block_of_add] at this
/-- The parts of a struct's reading weigh no more than it. -/
theorem trod_fields_w {P : Program} {t : TypeId} {sh : Array (TypeId × Nat × Nat)} (hs : P.underlying t = some (.struct (fieldsOf P t))) (hsh : (fieldsOf P t).map (shapeOf P) = sh)
    {fuel : Nat} {cs : List Value} {x : DataW H × List MemPlace} (h : DataW.trod enc P w base spare held fuel t cs = some x) :
    ∃ n, cs.length = P.cellsOf t ∧ ∀ (i : Nat) (ty : TypeId) (o c : Nat), sh[i]? = some (ty, o, c) → ∃ y, DataW.trod enc P w base spare held n ty ((cs.drop o).take c) = some y ∧ ∀ k ∈ y.1.weights P ty, k ∈ x.1.weights P t := by
  obtain ⟨xs, n, -, hxe, hl, hx, hf⟩ := DataW.trod_struct hs h
  refine ⟨n, hl, fun i ty o c hi => ?_⟩
  rw [← hsh, Array.getElem?_map] at hi
  cases hfi : (fieldsOf P t)[i]? with
  | none => rw [hfi] at hi; cases hi
  | some f =>
    rw [hfi] at hi
    injection hi with hi
    unfold shapeOf at hi
    injection hi with h1 h2
    injection h2 with h2 h3
    have h4 := hf i f hfi
    rw [h2, h3, h1] at h4
    have hlt : i < xs.length := by rw [hx]; exact (Array.getElem?_eq_some_iff.1 hfi).1
    refine ⟨xs[i], h4.trans (List.getElem?_eq_getElem hlt), fun k hk => ?_⟩
    rw [hxe]
    show k ∈ DataW.weights P t (.agg (xs.map (·.1)))
    unfold DataW.weights
    rw [hs]
    refine DataW.weights_mem_each (j := i) (t := ty) ?_ ?_ k hk
    · rw [List.getElem?_map, show (fieldsOf P t).toList[i]? = (fieldsOf P t)[i]? from by simp, hfi, ← h1]
      rfl
    · rw [List.getElem?_map, List.getElem?_eq_getElem hlt]
      rfl
theorem trod_str_w {K fuel : Nat} {cs : List Value} {x : DataW H × List MemPlace} (h : DataW.trod enc Try.prog w base spare held fuel 9 cs = some x) (hw : ∀ k ∈ x.1.weights Try.prog 9, k ≤ K) : ∃ l, cs = [sv l] ∧ l.length ≤ maxLen ∧ l.length ≤ K := by
  obtain ⟨s, h, hx, hs⟩ := DataW.trod_string (by kernel_rfl) h
  refine ⟨s.data.toList, by rw [h], by simpa using hs, ?_⟩
  rw [hx] at hw
  have := hw s.data.toList.length (by unfold DataW.weights; simp)
  exact this
theorem trod_obj_w {K fuel : Nat} {cs : List Value} {x : DataW H × List MemPlace} (h : DataW.trod enc Try.prog w base spare held fuel 80 cs = some x) (hw : ∀ k ∈ x.1.weights Try.prog 80, k ≤ K) :
    ∃ o, ObjVal w (· < w.heap.size) o cs ∧ MaxO o ∧ o.key.length ≤ K := by
  obtain ⟨n, hl, hf⟩ := trod_fields_w (t := 80) (sh := #[(9, 0, 1), (3, 1, 1), (3, 2, 1), (47, 3, 1)]) (by kernel_rfl) (by kernel_rfl) h
  rw [show Try.prog.cellsOf 80 = 4 from by kernel_rfl] at hl
  obtain ⟨a, b, c, d, rfl⟩ := cells4 hl
  obtain ⟨y0, h0, w0⟩ := hf 0 _ _ _ rfl
  obtain ⟨y1, h1, -⟩ := hf 1 _ _ _ rfl
  obtain ⟨y2, h2, -⟩ := hf 2 _ _ _ rfl
  obtain ⟨y3, h3, -⟩ := hf 3 _ _ _ rfl
  obtain ⟨k, e0, hk, hkK⟩ := trod_str_w h0 (fun k hk => hw k (w0 k hk))
  obtain ⟨n1, e1⟩ := trod_int_any h1
  obtain ⟨n2, e2⟩ := trod_int_any h2
  obtain ⟨A, d, l, e3, hc, hm, hr, hs⟩ := trod_stripes_any h3
  injection e0 with e0 _; injection e1 with e1 _; injection e2 with e2 _; injection e3 with e3 _
  subst e0 e1 e2 e3
  exact ⟨⟨k, n1, n2, l⟩, ⟨A, d, rfl, hc, hr⟩, ⟨hk, hm, hs⟩, hkK⟩
theorem trod_objs_w {K fuel : Nat} {cs : List Value} {x : DataW H × List MemPlace} (h : DataW.trod enc Try.prog w base spare held fuel 48 cs = some x) (hw : ∀ k ∈ x.1.weights Try.prog 48, k ≤ K) :
    ∃ A c l, cs = [.slice A l.length c] ∧ l.length ≤ c ∧ l.length ≤ maxLen ∧ RObjs w (· < w.heap.size) A l ∧ ∀ o ∈ l, MaxO o ∧ o.key.length ≤ K := by
  obtain ⟨A, c, l, vs, h1, h2, h3, h4, h5⟩ := trod_rows_w (n := 4) K (fun (s : PObj) cs => ObjVal w (· < w.heap.size) s cs ∧ MaxO s ∧ s.key.length ≤ K) (by kernel_rfl) (by kernel_rfl) (fun _ _ _ h hw => trod_obj_w h hw) h hw
  obtain ⟨h6, h7⟩ := RowsOf.all (fun a x h => h) h4
  exact ⟨A, c, l, h1, h2, Nat.le_trans h2 h3, ⟨vs, h6, h5⟩, h7⟩
def KeysK (K : Nat) (r : PRec) : Prop := r.key.length ≤ K ∧ ∀ o ∈ r.objects, o.key.length ≤ K
theorem trod_rec_w {K fuel : Nat} {cs : List Value} {x : DataW H × List MemPlace} (h : DataW.trod enc Try.prog w base spare held fuel 51 cs = some x) (hw : ∀ k ∈ x.1.weights Try.prog 51, k ≤ K) :
    ∃ r, RecVal w (· < w.heap.size) r cs ∧ MaxR r ∧ KeysK K r := by
  obtain ⟨n, hl, hf⟩ := trod_fields_w (t := 51) (sh := #[(3, 0, 1), (3, 1, 1), (3, 2, 1), (9, 3, 1), (47, 4, 1), (48, 5, 1), (49, 6, 1)]) (by kernel_rfl) (by kernel_rfl) h
  rw [show Try.prog.cellsOf 51 = 7 from by kernel_rfl] at hl
  obtain ⟨a, b, c, d, e, f, g, rfl⟩ := cells7 hl
  obtain ⟨y0, h0, -⟩ := hf 0 _ _ _ rfl
  obtain ⟨y1, h1, -⟩ := hf 1 _ _ _ rfl
  obtain ⟨y2, h2, -⟩ := hf 2 _ _ _ rfl
  obtain ⟨y3, h3, w3⟩ := hf 3 _ _ _ rfl
  obtain ⟨y4, h4, -⟩ := hf 4 _ _ _ rfl
  obtain ⟨y5, h5, w5⟩ := hf 5 _ _ _ rfl
  obtain ⟨y6, h6, -⟩ := hf 6 _ _ _ rfl
  obtain ⟨n0, e0⟩ := trod_int_any h0
  obtain ⟨n1, e1⟩ := trod_int_any h1
  obtain ⟨n2, e2⟩ := trod_int_any h2
  obtain ⟨k, e3, hk, hkK⟩ := trod_str_w h3 (fun k hk => hw k (w3 k hk))
  obtain ⟨A, ca, l, e4, hc, hm, hr, hs⟩ := trod_stripes_any h4
  obtain ⟨A2, ca2, l2, e5, hc2, hm2, hr2, hs2⟩ := trod_objs_w h5 (fun k hk => hw k (w5 k hk))
  obtain ⟨A3, ca3, l3, e6, hc3, hm3, hr3⟩ := trod_ints_any h6
  injection e0 with e0 _; injection e1 with e1 _; injection e2 with e2 _; injection e3 with e3 _; injection e4 with e4 _; injection e5 with e5 _; injection e6 with e6 _
  subst e0 e1 e2 e3 e4 e5 e6
  exact ⟨⟨n0, n1, n2, k, l, l2, l3⟩, ⟨A, ca, A2, ca2, A3, ca3, rfl, hc, hc2, hc3, hr, hr2, hr3⟩, ⟨hk, hm, hs, hm2, fun o ho => (hs2 o ho).1, hm3⟩, hkK, fun o ho => (hs2 o ho).2⟩
set_option maxRecDepth 100000 in
/-- A record that came in: its value. -/
theorem rec_arg_w {K : Nat} {v : Value} {d : DataW H} {p : List MemPlace} {r0 : Reach} {b0 : Nat} (hv : Value.okWide Try.prog w r0 b0 51 v) (h : DataW.Trod enc Try.prog w base spare held 51 v d p) (hw : ∀ k ∈ d.weights Try.prog 51, k ≤ K) :
    ∃ r vs, v = .agg vs.toArray ∧ RecVal w (· < w.heap.size) r vs ∧ MaxR r ∧ KeysK K r := by
  have hu : Try.prog.underlying 51 = some (.struct (fieldsOf Try.prog 51)) := by kernel_rfl
  obtain ⟨cs, hcs, -⟩ := Go.WideShapes.okWide_struct hu hv
  subst hcs
  obtain ⟨fuel, hf⟩ := h
  obtain ⟨r, h1, h2⟩ := trod_rec_w hf hw
  exact ⟨r, cs.toList, by simp, h1, h2⟩
set_option maxRecDepth 100000 in
/-- Records that came in: their slice. -/
theorem recs_arg_w {K : Nat} {v : Value} {d : DataW H} {p : List MemPlace} {r0 : Reach} {b0 : Nat} (hv : Value.okWide Try.prog w r0 b0 39 v) (h : DataW.Trod enc Try.prog w base spare held 39 v d p) (hw : ∀ k ∈ d.weights Try.prog 39, k ≤ K) :
    ∃ A c l, v = .slice A l.length c ∧ l.length ≤ c ∧ l.length ≤ maxLen ∧ RRecs w (· < w.heap.size) A l ∧ ∀ r ∈ l, MaxR r ∧ KeysK K r := by
  have hu : Try.prog.underlying 39 = some (.slice 51) := by kernel_rfl
  obtain ⟨a, len, cap, hcs⟩ := Go.WideShapes.okWide_slice hu hv
  subst hcs
  obtain ⟨fuel, hf⟩ := h
  obtain ⟨A, c, l, vs, h1, h2, h3, h4, h5⟩ := trod_rows_w (n := 7) K (fun (s : PRec) cs => RecVal w (· < w.heap.size) s cs ∧ MaxR s ∧ KeysK K s) hu (by kernel_rfl) (fun _ _ _ h hw => trod_rec_w h hw) hf hw
  obtain ⟨h6, h7⟩ := RowsOf.all (fun a x h => h) h4
  have h8 : [Value.slice a len cap] = [.slice A l.length c] := h1
  injection h8 with h8 _
  exact ⟨A, c, l, h8, h2, Nat.le_trans h2 h3, ⟨vs, h6, h5⟩, h7⟩
end
end Go.Proofs.Ytmleldgohfcdbaa
