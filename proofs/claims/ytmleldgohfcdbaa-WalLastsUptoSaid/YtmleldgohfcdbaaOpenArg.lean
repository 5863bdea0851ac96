/- Records that came in, opened. -/
import Derived.Test.YtmleldgohfcdbaaReader
import Derived.Deep.Slices
namespace Go.Proofs.Ytmleldgohfcdbaa
set_option linter.unusedVariables false
set_option linter.unusedSimpArgs false
open Go.RowKit
section
variable {H : Type} {enc : TypeId × Value → H} {w : World} {base : Nat} {spare : Nat → Bool} {held : Bool}
/-- The fields of a struct type. -/
def fieldsOf (P : Program) (t : TypeId) : Array Field := match P.underlying t with
  | some (.struct fs) => fs
  | _ => #[]
def shapeOf (P : Program) (f : Field) : TypeId × Nat × Nat := (f.type, f.offset, P.cellsOf f.type)
theorem trod_fields {P : Program} {t : TypeId} {sh : Array (TypeId × Nat × Nat)} (hs : P.underlying t = some (.struct (fieldsOf P t))) (hsh : (fieldsOf P t).map (shapeOf P) = sh)
    {fuel : Nat} {cs : List Value} {x : DataW H × List MemPlace} (h : DataW.trod enc P w base spare held fuel t cs = some x) :
    ∃ n, cs.length = P.cellsOf t ∧ ∀ (i : Nat) (ty : TypeId) (o c : Nat), sh[i]? = some (ty, o, c) → ∃ y, DataW.trod enc P w base spare held n ty ((cs.drop o).take c) = some y := by
  obtain ⟨xs, n, -, -, hl, hx, hf⟩ := DataW.trod_struct hs h
  refine ⟨n, hl, fun i ty o c hi => ?_⟩
  rw [← hsh, Array.getElem?_map] at hi
  cases hfi : (fieldsOf P t)[i]? with
  | none => rw [hfi] at hi; cases hi
  | some f =>
    rw [hfi] at hi
    injection hi with hi
    unfold shapeOf at hi
    injection hi with h1 h2
    injection h2 with h2 h3
    have h4 := hf i f hfi
    rw [h2, h3, h1] at h4
    have hlt : i < xs.length := by rw [hx]; exact (Array.getElem?_eq_some_iff.1 hfi).1
    exact ⟨xs[i], h4.trans (List.getElem?_eq_getElem hlt)⟩
theorem trod_rows {P : Program} {α : Type} [Inhabited α] (R : α → List Value → Prop) {t e : TypeId} {n : Nat} (ht : P.underlying t = some (.slice e)) (hc : P.cellsOf e = n)
    (hel : ∀ fuel cs x, DataW.trod enc P w base spare held fuel e cs = some x → ∃ a, R a cs) {fuel : Nat} {cs : List Value} {x : DataW H × List MemPlace} (h : DataW.trod enc P w base spare held fuel t cs = some x) :
    ∃ A c l vs, cs = [.slice A l.length c] ∧ l.length ≤ c ∧ c ≤ maxLen ∧ RowsOf R l vs ∧ RVb w (· < w.heap.size) A vs := by
  rcases Go.Deep.open_slice ht h with ⟨rfl, -⟩ | ⟨a, len, cap, m, f, D, Pl, rfl, -, hl, hm, hmm, -, hx⟩
  · exact ⟨none, 0, [], [], rfl, Nat.le_refl _, Nat.zero_le _, rfl, RVb.none_⟩
  · have hlm : len ≤ m := by rw [hmm]; split <;> omega
    have key : ∀ k, k ≤ len → ∃ (l : List α) (vs : List Value), l.length = k ∧ RowsOf R l vs ∧ vs.length = k * n ∧ ∀ j (hj : j < vs.length), w.cell? (a.add j) = some vs[j] := by
      intro k
      induction k with
      | zero => exact fun _ => ⟨[], [], rfl, rfl, by simp, fun j hj => absurd hj (by simp)⟩
      | succ k ih =>
        intro hk
        obtain ⟨l, vs, h1, h2, h3, h4⟩ := ih (by omega)
        obtain ⟨cs', h5, h6⟩ := hx k (by omega)
        obtain ⟨b, hb⟩ := hel _ _ _ h6
        obtain ⟨-, h7, h8⟩ := World.cells?_some h5
        rw [hc] at h7 h8
        refine ⟨l ++ [b], vs ++ cs', by simp [h1], h2.append ⟨cs', [], by simp, hb, rfl⟩, by rw [List.length_append, h3, h7, Nat.add_mul]; omega, fun j hj => ?_⟩
        by_cases hj2 : j < vs.length
        · rw [List.getElem_append_left hj2]; exact h4 j hj2
        · have h9 := h8 (j - vs.length) (by rw [List.length_append] at hj; omega)
          rw [Go.Deep.add_add, show k * n + (j - vs.length) = j by omega] at h9
          rw [List.getElem_append_right (by omega), h9]
          exact List.getElem?_eq_getElem _
    obtain ⟨l, vs, h1, h2, -, h4⟩ := key len (Nat.le_refl _)
    refine ⟨some a, cap, l, vs, by rw [h1], by omega, hm, h2, fun j hj => ⟨a, rfl, ?_, h4 j hj⟩⟩
    have := World.block_lt_of_cell? w _ (h4 j hj)
    rwa [block_of_add] at this
theorem RowsOf.all {α : Type} {R R' : α → List Value → Prop} {Q : α → Prop} (h : ∀ a x, R a x → R' a x ∧ Q a) : ∀ {l : List α} {vs : List Value}, RowsOf R l vs → RowsOf R' l vs ∧ ∀ a ∈ l, Q a
  | [], _, hr => ⟨hr, by simp⟩
  | b :: l, _, ⟨x, y, e, h1, h2⟩ => by
    obtain ⟨i1, i2⟩ := RowsOf.all h h2
    obtain ⟨j1, j2⟩ := h _ _ h1
    refine ⟨⟨x, y, e, j1, i1⟩, fun a ha => ?_⟩
    rcases List.mem_cons.1 ha with rfl | ha
    · exact j2
    · exact i2 a ha
instance : Inhabited PStripe := ⟨⟨0, 0, []⟩⟩
instance : Inhabited PObj := ⟨⟨[], 0, 0, []⟩⟩
instance : Inhabited PRec := ⟨⟨0, 0, 0, [], [], [], []⟩⟩
theorem cells3 {cs : List Value} (h : cs.length = 3) : ∃ a b c, cs = [a, b, c] := by
  match cs, h with
  | [a, b, c], _ => exact ⟨a, b, c, rfl⟩
theorem cells4 {cs : List Value} (h : cs.length = 4) : ∃ a b c d, cs = [a, b, c, d] := by
  match cs, h with
  | [a, b, c, d], _ => exact ⟨a, b, c, d, rfl⟩
theorem cells7 {cs : List Value} (h : cs.length = 7) : ∃ a b c d e f g, cs = [a, b, c, d, e, f, g] := by
  match cs, h with
  | [a, b, c, d, e, f, g], _ => exact ⟨a, b, c, d, e, f, g, rfl⟩
def MaxS (s : PStripe) : Prop := s.locs.length ≤ maxLen
def MaxO (o : PObj) : Prop := o.key.length ≤ maxLen ∧ o.stripes.length ≤ maxLen ∧ ∀ s ∈ o.stripes, MaxS s
def MaxR (r : PRec) : Prop := r.key.length ≤ maxLen ∧ r.stripes.length ≤ maxLen ∧ (∀ s ∈ r.stripes, MaxS s) ∧ r.objects.length ≤ maxLen ∧ (∀ o ∈ r.objects, MaxO o) ∧ r.drives.length ≤ maxLen
theorem trod_int_any {fuel : Nat} {cs : List Value} {x : DataW H × List MemPlace} (h : DataW.trod enc Try.prog w base spare held fuel 3 cs = some x) : ∃ n, cs = [.int .i64 n] := by
  obtain ⟨n, h, -⟩ := DataW.trod_int (k := .i64) (by kernel_rfl) h
  exact ⟨n, h⟩
theorem trod_str_any {fuel : Nat} {cs : List Value} {x : DataW H × List MemPlace} (h : DataW.trod enc Try.prog w base spare held fuel 9 cs = some x) : ∃ l, cs = [sv l] ∧ l.length ≤ maxLen := by
  obtain ⟨s, h, -, hs⟩ := DataW.trod_string (by kernel_rfl) h
  refine ⟨s.data.toList, ?_, by simpa using hs⟩
  rw [h]
theorem rows_ints {l : List Int} {vs : List Value} (h : RowsOf (fun n cs => cs = [.int .i64 n]) l vs) : vs = l.map (.int .i64) := by
  induction l generalizing vs with
  | nil => exact h
  | cons a l ih =>
    obtain ⟨x, y, rfl, rfl, hy⟩ := h
    rw [ih hy]
    rfl
theorem trod_ints_any {fuel : Nat} {cs : List Value} {x : DataW H × List MemPlace} (h : DataW.trod enc Try.prog w base spare held fuel 49 cs = some x) :
    ∃ A c l, cs = [.slice A l.length c] ∧ l.length ≤ c ∧ l.length ≤ maxLen ∧ RI w (· < w.heap.size) A l := by
  obtain ⟨A, c, l, vs, h1, h2, h3, h4, h5⟩ := trod_rows (n := 1) (fun (n : Int) cs => cs = [.int .i64 n]) (by kernel_rfl) (by kernel_rfl) (fun _ _ _ h => trod_int_any h) h
  exact ⟨A, c, l, h1, h2, Nat.le_trans h2 h3, by unfold RI; rw [← rows_ints h4]; exact h5⟩
theorem trod_stripe_any {fuel : Nat} {cs : List Value} {x : DataW H × List MemPlace} (h : DataW.trod enc Try.prog w base spare held fuel 78 cs = some x) :
    ∃ s, StripeVal w (· < w.heap.size) s cs ∧ MaxS s := by
  obtain ⟨n, hl, hf⟩ := trod_fields (t := 78) (sh := #[(3, 0, 1), (3, 1, 1), (49, 2, 1)]) (by kernel_rfl) (by kernel_rfl) h
  rw [show Try.prog.cellsOf 78 = 3 from by kernel_rfl] at hl
  obtain ⟨a, b, c, rfl⟩ := cells3 hl
  obtain ⟨y0, h0⟩ := hf 0 _ _ _ rfl
  obtain ⟨y1, h1⟩ := hf 1 _ _ _ rfl
  obtain ⟨y2, h2⟩ := hf 2 _ _ _ rfl
  obtain ⟨n0, e0⟩ := trod_int_any h0
  obtain ⟨n1, e1⟩ := trod_int_any h1
  obtain ⟨A, d, l, e2, hc, hm, hr⟩ := trod_ints_any h2
  injection e0 with e0 _; injection e1 with e1 _; injection e2 with e2 _
  subst e0 e1 e2
  exact ⟨⟨n0, n1, l⟩, ⟨A, d, rfl, hc, hr⟩, hm⟩
theorem trod_stripes_any {fuel : Nat} {cs : List Value} {x : DataW H × List MemPlace} (h : DataW.trod enc Try.prog w base spare held fuel 47 cs = some x) :
    ∃ A c l, cs = [.slice A l.length c] ∧ l.length ≤ c ∧ l.length ≤ maxLen ∧ RStripes w (· < w.heap.size) A l ∧ ∀ s ∈ l, MaxS s := by
  obtain ⟨A, c, l, vs, h1, h2, h3, h4, h5⟩ := trod_rows (n := 3) (fun (s : PStripe) cs => StripeVal w (· < w.heap.size) s cs ∧ MaxS s) (by kernel_rfl) (by kernel_rfl) (fun _ _ _ h => trod_stripe_any h) h
  obtain ⟨h6, h7⟩ := RowsOf.all (fun a x h => h) h4
  exact ⟨A, c, l, h1, h2, Nat.le_trans h2 h3, ⟨vs, h6, h5⟩, h7⟩
theorem trod_obj_any {fuel : Nat} {cs : List Value} {x : DataW H × List MemPlace} (h : DataW.trod enc Try.prog w base spare held fuel 80 cs = some x) :
    ∃ o, ObjVal w (· < w.heap.size) o cs ∧ MaxO o := by
  obtain ⟨n, hl, hf⟩ := trod_fields (t := 80) (sh := #[(9, 0, 1), (3, 1, 1), (3, 2, 1), (47, 3, 1)]) (by kernel_rfl) (by kernel_rfl) h
  rw [show Try.prog.cellsOf 80 = 4 from by kernel_rfl] at hl
  obtain ⟨a, b, c, d, rfl⟩ := cells4 hl
  obtain ⟨y0, h0⟩ := hf 0 _ _ _ rfl
  obtain ⟨y1, h1⟩ := hf 1 _ _ _ rfl
  obtain ⟨y2, h2⟩ := hf 2 _ _ _ rfl
  obtain ⟨y3, h3⟩ := hf 3 _ _ _ rfl
  obtain ⟨k, e0, hk⟩ := trod_str_any h0
  obtain ⟨n1, e1⟩ := trod_int_any h1
  obtain ⟨n2, e2⟩ := trod_int_any h2
  obtain ⟨A, d, l, e3, hc, hm, hr, hs⟩ := trod_stripes_any h3
  injection e0 with e0 _; injection e1 with e1 _; injection e2 with e2 _; injection e3 with e3 _
  subst e0 e1 e2 e3
  exact ⟨⟨k, n1, n2, l⟩, ⟨A, d, rfl, hc, hr⟩, hk, hm, hs⟩
theorem trod_objs_any {fuel : Nat} {cs : List Value} {x : DataW H × List MemPlace} (h : DataW.trod enc Try.prog w base spare held fuel 48 cs = some x) :
    ∃ A c l, cs = [.slice A l.length c] ∧ l.length ≤ c ∧ l.length ≤ maxLen ∧ RObjs w (· < w.heap.size) A l ∧ ∀ o ∈ l, MaxO o := by
  obtain ⟨A, c, l, vs, h1, h2, h3, h4, h5⟩ := trod_rows (n := 4) (fun (s : PObj) cs => ObjVal w (· < w.heap.size) s cs ∧ MaxO s) (by kernel_rfl) (by kernel_rfl) (fun _ _ _ h => trod_obj_any h) h
  obtain ⟨h6, h7⟩ := RowsOf.all (fun a x h => h) h4
  exact ⟨A, c, l, h1, h2, Nat.le_trans h2 h3, ⟨vs, h6, h5⟩, h7⟩
theorem trod_rec_any {fuel : Nat} {cs : List Value} {x : DataW H × List MemPlace} (h : DataW.trod enc Try.prog w base spare held fuel 51 cs = some x) :
    ∃ r, RecVal w (· < w.heap.size) r cs ∧ MaxR r := by
  obtain ⟨n, hl, hf⟩ := trod_fields (t := 51) (sh := #[(3, 0, 1), (3, 1, 1), (3, 2, 1), (9, 3, 1), (47, 4, 1), (48, 5, 1), (49, 6, 1)]) (by kernel_rfl) (by kernel_rfl) h
  rw [show Try.prog.cellsOf 51 = 7 from by kernel_rfl] at hl
  obtain ⟨a, b, c, d, e, f, g, rfl⟩ := cells7 hl
  obtain ⟨y0, h0⟩ := hf 0 _ _ _ rfl
  obtain ⟨y1, h1⟩ := hf 1 _ _ _ rfl
  obtain ⟨y2, h2⟩ := hf 2 _ _ _ rfl
  obtain ⟨y3, h3⟩ := hf 3 _ _ _ rfl
  obtain ⟨y4, h4⟩ := hf 4 _ _ _ rfl
  obtain ⟨y5, h5⟩ := hf 5 _ _ _ rfl
  obtain ⟨y6, h6⟩ := hf 6 _ _ _ rfl
  obtain ⟨n0, e0⟩ := trod_int_any h0
  obtain ⟨n1, e1⟩ := trod_int_any h1
  obtain ⟨n2, e2⟩ := trod_int_any h2
  obtain ⟨k, e3, hk⟩ := trod_str_any h3
  obtain ⟨A, ca, l, e4, hc, hm, hr, hs⟩ := trod_stripes_any h4
  obtain ⟨A2, ca2, l2, e5, hc2, hm2, hr2, hs2⟩ := trod_objs_any h5
  obtain ⟨A3, ca3, l3, e6, hc3, hm3, hr3⟩ := trod_ints_any h6
  injection e0 with e0 _; injection e1 with e1 _; injection e2 with e2 _; injection e3 with e3 _; injection e4 with e4 _; injection e5 with e5 _; injection e6 with e6 _
  subst e0 e1 e2 e3 e4 e5 e6
  exact ⟨⟨n0, n1, n2, k, l, l2, l3⟩, ⟨A, ca, A2, ca2, A3, ca3, rfl, hc, hc2, hc3, hr, hr2, hr3⟩, hk, hm, hs, hm2, hs2, hm3⟩
theorem trod_recs_any {fuel : Nat} {cs : List Value} {x : DataW H × List MemPlace} (h : DataW.trod enc Try.prog w base spare held fuel 39 cs = some x) :
    ∃ A c l, cs = [.slice A l.length c] ∧ l.length ≤ c ∧ l.length ≤ maxLen ∧ RRecs w (· < w.heap.size) A l ∧ ∀ r ∈ l, MaxR r := by
  obtain ⟨A, c, l, vs, h1, h2, h3, h4, h5⟩ := trod_rows (n := 7) (fun (s : PRec) cs => RecVal w (· < w.heap.size) s cs ∧ MaxR s) (by kernel_rfl) (by kernel_rfl) (fun _ _ _ h => trod_rec_any h) h
  obtain ⟨h6, h7⟩ := RowsOf.all (fun a x h => h) h4
  exact ⟨A, c, l, h1, h2, Nat.le_trans h2 h3, ⟨vs, h6, h5⟩, h7⟩
set_option maxRecDepth 100000 in
/-- A record that came in: its value. -/
theorem rec_arg {v : Value} {d : DataW H} {p : List MemPlace} {r0 : Reach} {b0 : Nat} (hv : Value.okWide Try.prog w r0 b0 51 v) (h : DataW.Trod enc Try.prog w base spare held 51 v d p) :
    ∃ r vs, v = .agg vs.toArray ∧ RecVal w (· < w.heap.size) r vs ∧ MaxR r := by
  have hu : Try.prog.underlying 51 = some (.struct (fieldsOf Try.prog 51)) := by kernel_rfl
  obtain ⟨cs, hcs, -⟩ := Go.WideShapes.okWide_struct hu hv
  subst hcs
  obtain ⟨fuel, hf⟩ := h
  obtain ⟨r, h1, h2⟩ := trod_rec_any hf
  exact ⟨r, cs.toList, by simp, h1, h2⟩
set_option maxRecDepth 100000 in
/-- Records that came in: their slice. -/
theorem recs_arg {v : Value} {d : DataW H} {p : List MemPlace} {r0 : Reach} {b0 : Nat} (hv : Value.okWide Try.prog w r0 b0 39 v) (h : DataW.Trod enc Try.prog w base spare held 39 v d p) :
    ∃ A c l, v = .slice A l.length c ∧ l.length ≤ c ∧ l.length ≤ maxLen ∧ RRecs w (· < w.heap.size) A l ∧ ∀ r ∈ l, MaxR r := by
  have hu : Try.prog.underlying 39 = some (.slice 51) := by kernel_rfl
  obtain ⟨a, len, cap, hcs⟩ := Go.WideShapes.okWide_slice hu hv
  subst hcs
  obtain ⟨fuel, hf⟩ := h
  obtain ⟨A, c, l, h1, h2⟩ := trod_recs_any hf
  have h3 : [Value.slice a len cap] = [.slice A l.length c] := h1
  injection h3 with h3 _
  exact ⟨A, c, l, h3, h2⟩
end
end Go.Proofs.Ytmleldgohfcdbaa
