/- Records that came in, of bounded bulk: how long their bytes are. -/
import Derived.Test.YtmleldgohfcdbaaRows
import Derived.Test.YtmleldgohfcdbaaOpenArg
import Derived.Test.YtmleldgohfcdbaaRefEnc4
namespace Go.Proofs.Ytmleldgohfcdbaa
set_option linter.unusedVariables false
set_option linter.unusedSimpArgs false
open Go.RowKit
theorem bulk_one {H : Type} (d : DataW H) : 1 ≤ Rows.uptoBulk d := by
  cases d with
  | lit l => cases l <;> simp [Rows.uptoBulk]
  | nil => simp [Rows.uptoBulk]
  | ptr d => simp [Rows.uptoBulk]
  | slice elems spare => simp [Rows.uptoBulk]
  | agg parts => simp [Rows.uptoBulk]
  | iface t d => simp [Rows.uptoBulk]
  | map entries => simp [Rows.uptoBulk]
  | held h => simp [Rows.uptoBulk]
theorem bulk_append {H : Type} (l r : List (DataW H)) : Rows.uptoBulkAll (l ++ r) = Rows.uptoBulkAll l + Rows.uptoBulkAll r := by
  induction l with
  | nil => simp [Rows.uptoBulkAll]
  | cons x l ih => simp only [List.cons_append, Rows.uptoBulkAll, ih]; omega
theorem bulk_part {H : Type} {d : DataW H} {l : List (DataW H)} (h : d ∈ l) : Rows.uptoBulk d ≤ Rows.uptoBulkAll l := by
  induction l with
  | nil => cases h
  | cons x r ih =>
    simp only [Rows.uptoBulkAll]
    rcases List.mem_cons.1 h with e | e
    · subst e; omega
    · have := ih e; omega
section
variable {H : Type} {enc : TypeId × Value → H} {w : World} {base : Nat} {spare : Nat → Bool} {held : Bool}
theorem trod_fields_b {P : Program} {t : TypeId} {sh : Array (TypeId × Nat × Nat)} (hs : P.underlying t = some (.struct (fieldsOf P t))) (hsh : (fieldsOf P t).map (shapeOf P) = sh)
    {fuel : Nat} {cs : List Value} {x : DataW H × List MemPlace} (h : DataW.trod enc P w base spare held fuel t cs = some x) :
    ∃ (n : Nat) (xs : List (DataW H × List MemPlace)), cs.length = P.cellsOf t ∧ xs.length = sh.size ∧ Rows.uptoBulk x.1 = Rows.uptoBulkAll (xs.map (·.1)) + 1 ∧
      ∀ (i : Nat) (ty : TypeId) (o c : Nat), sh[i]? = some (ty, o, c) → DataW.trod enc P w base spare held n ty ((cs.drop o).take c) = xs[i]? := by
  obtain ⟨xs, n, -, hxe, hl, hx, hf⟩ := DataW.trod_struct hs h
  refine ⟨n, xs, hl, by rw [hx, ← hsh, Array.size_map], by rw [hxe]; simp [Rows.uptoBulk], fun i ty o c hi => ?_⟩
  rw [← hsh, Array.getElem?_map] at hi
  cases hfi : (fieldsOf P t)[i]? with
  | none => rw [hfi] at hi; cases hi
  | some f =>
    rw [hfi] at hi
    injection hi with hi
    unfold shapeOf at hi
    injection hi with h1 h2
    injection h2 with h2 h3
    have h4 := hf i f hfi
    rw [h2, h3, h1] at h4
    exact h4
theorem trod_rows_b {P : Program} {α : Type} [Inhabited α] (R : α → List Value → Prop) (en : α → List UInt8) {t e : TypeId} {n : Nat} (ht : P.underlying t = some (.slice e)) (hc : P.cellsOf e = n)
    (hel : ∀ fuel cs x, DataW.trod enc P w base spare held fuel e cs = some x → ∃ a, R a cs ∧ (en a).length ≤ 8 * Rows.uptoBulk x.1) {fuel : Nat} {cs : List Value} {x : DataW H × List MemPlace} (h : DataW.trod enc P w base spare held fuel t cs = some x) :
    ∃ A c l vs, cs = [.slice A l.length c] ∧ l.length ≤ c ∧ c ≤ maxLen ∧ RowsOf R l vs ∧ RVb w (· < w.heap.size) A vs ∧ (l.flatMap en).length + 8 ≤ 8 * Rows.uptoBulk x.1 ∧ ∀ a ∈ l, (en a).length ≤ 8 * Rows.uptoBulk x.1 := by
  rcases Go.Deep.open_slice ht h with ⟨rfl, hxe⟩ | ⟨a, len, cap, m, f, D, Pl, rfl, -, hl, hm, hmm, hxe, hx⟩
  · exact ⟨none, 0, [], [], rfl, Nat.le_refl _, Nat.zero_le _, rfl, RVb.none_, by rw [hxe]; simp [Rows.uptoBulk], by simp⟩
  · have hlm : len ≤ m := by rw [hmm]; split <;> omega
    have key : ∀ k, k ≤ len → ∃ (l : List α) (vs : List Value), l.length = k ∧ RowsOf R l vs ∧ vs.length = k * n ∧ (∀ j (hj : j < vs.length), w.cell? (a.add j) = some vs[j]) ∧ (l.flatMap en).length ≤ 8 * Rows.uptoBulkAll ((List.range k).map D) ∧
        ∀ b ∈ l, (en b).length ≤ 8 * Rows.uptoBulkAll ((List.range k).map D) := by
      intro k
      induction k with
      | zero => exact fun _ => ⟨[], [], rfl, rfl, by simp, fun j hj => absurd hj (by simp), by simp, by simp⟩
      | succ k ih =>
        intro hk
        obtain ⟨l, vs, h1, h2, h3, h4, h10, h11⟩ := ih (by omega)
        obtain ⟨cs', h5, h6⟩ := hx k (by omega)
        obtain ⟨b, hb, hbl⟩ := hel _ _ _ h6
        obtain ⟨-, h7, h8⟩ := World.cells?_some h5
        rw [hc] at h7 h8
        have hsum : Rows.uptoBulkAll ((List.range (k + 1)).map D) = Rows.uptoBulkAll ((List.range k).map D) + Rows.uptoBulk (D k) := by
          rw [List.range_succ, List.map_append, bulk_append]
          simp [Rows.uptoBulkAll]
        refine ⟨l ++ [b], vs ++ cs', by simp [h1], h2.append ⟨cs', [], by simp, hb, rfl⟩, by rw [List.length_append, h3, h7, Nat.add_mul]; omega, fun j hj => ?_, ?_, fun b' hb' => ?_⟩
        · by_cases hj2 : j < vs.length
          · rw [List.getElem_append_left hj2]; exact h4 j hj2
          · have h9 := h8 (j - vs.length) (by rw [List.length_append] at hj; omega)
            rw [Go.Deep.add_add, show k * n + (j - vs.length) = j by omega] at h9
            rw [List.getElem_append_right (by omega), h9]
            exact List.getElem?_eq_getElem _
        · rw [hsum, List.flatMap_append, List.length_append]
          simp only [List.flatMap_cons, List.flatMap_nil, List.append_nil]
          dsimp only at hbl
          omega
        · rw [hsum]
          rcases List.mem_append.1 hb' with hb' | hb'
          · have := h11 b' hb'
            omega
          · rw [List.mem_singleton] at hb'
            subst hb'
            dsimp only at hbl
            omega
    obtain ⟨l, vs, h1, h2, -, h4, h5, h6⟩ := key len (Nat.le_refl _)
    have hbulk : Rows.uptoBulkAll ((List.range len).map D) + 1 ≤ Rows.uptoBulk x.1 := by
      rw [hxe]
      simp only [Rows.uptoBulk]
      omega
    refine ⟨some a, cap, l, vs, by rw [h1], by omega, hm, h2, fun j hj => ⟨a, rfl, ?_, h4 j hj⟩, by omega, fun b hb => by have := h6 b hb; omega⟩
    have := World.block_lt_of_cell? w _ (h4 j hj)
    rwa [block_of_add] at this
theorem trod_int_b {fuel : Nat} {cs : List Value} {x : DataW H × List MemPlace} (h : DataW.trod enc Try.prog w base spare held fuel 3 cs = some x) : ∃ n, cs = [.int .i64 n] ∧ (encW n).length ≤ 8 * Rows.uptoBulk x.1 := by
  obtain ⟨n, h⟩ := trod_int_any h
  have := bulk_one x.1
  exact ⟨n, h, by unfold encW; rw [be_length]; omega⟩
theorem trod_ints_b {fuel : Nat} {cs : List Value} {x : DataW H × List MemPlace} (h : DataW.trod enc Try.prog w base spare held fuel 49 cs = some x) :
    ∃ A c l, cs = [.slice A l.length c] ∧ l.length ≤ c ∧ RI w (· < w.heap.size) A l ∧ (encInts l).length ≤ 8 * Rows.uptoBulk x.1 := by
  obtain ⟨A, c, l, vs, h1, h2, -, h4, h5, h6, -⟩ := trod_rows_b (n := 1) (fun (n : Int) cs => cs = [.int .i64 n]) encW (by kernel_rfl) (by kernel_rfl) (fun _ _ _ h => trod_int_b h) h
  exact ⟨A, c, l, h1, h2, by unfold RI; rw [← rows_ints h4]; exact h5, by unfold encInts; rw [List.length_append, be_length]; omega⟩
theorem trod_str_b {fuel : Nat} {cs : List Value} {x : DataW H × List MemPlace} (h : DataW.trod enc Try.prog w base spare held fuel 9 cs = some x) : ∃ l, cs = [sv l] ∧ (encKey l).length ≤ 8 * Rows.uptoBulk x.1 := by
  obtain ⟨s, h, hx, -⟩ := DataW.trod_string (by kernel_rfl) h
  refine ⟨s.data.toList, by rw [h], ?_⟩
  rw [hx]
  unfold encKey
  rw [List.length_append, be_length]
  simp only [Rows.uptoBulk]
  omega
theorem three {α : Type} {xs : List α} (h : xs.length = 3) : ∃ a b c, xs = [a, b, c] := by
  match xs, h with
  | [a, b, c], _ => exact ⟨a, b, c, rfl⟩
theorem four {α : Type} {xs : List α} (h : xs.length = 4) : ∃ a b c d, xs = [a, b, c, d] := by
  match xs, h with
  | [a, b, c, d], _ => exact ⟨a, b, c, d, rfl⟩
theorem seven {α : Type} {xs : List α} (h : xs.length = 7) : ∃ a b c d e f g, xs = [a, b, c, d, e, f, g] := by
  match xs, h with
  | [a, b, c, d, e, f, g], _ => exact ⟨a, b, c, d, e, f, g, rfl⟩
theorem trod_stripe_b {fuel : Nat} {cs : List Value} {x : DataW H × List MemPlace} (h : DataW.trod enc Try.prog w base spare held fuel 78 cs = some x) :
    ∃ s, StripeVal w (· < w.heap.size) s cs ∧ (encStripe s).length ≤ 8 * Rows.uptoBulk x.1 := by
  obtain ⟨n, xs, hl, hx, hb, hf⟩ := trod_fields_b (t := 78) (sh := #[(3, 0, 1), (3, 1, 1), (49, 2, 1)]) (by kernel_rfl) (by kernel_rfl) h
  rw [show Try.prog.cellsOf 78 = 3 from by kernel_rfl] at hl
  obtain ⟨a, b, c, rfl⟩ := cells3 hl
  obtain ⟨y0, y1, y2, rfl⟩ := three hx
  obtain ⟨n0, e0, f0⟩ := trod_int_b (hf 0 _ _ _ rfl)
  obtain ⟨n1, e1, f1⟩ := trod_int_b (hf 1 _ _ _ rfl)
  obtain ⟨A, d, l, e2, hc, hr, f2⟩ := trod_ints_b (hf 2 _ _ _ rfl)
  injection e0 with e0 _; injection e1 with e1 _; injection e2 with e2 _
  subst e0 e1 e2
  refine ⟨⟨n0, n1, l⟩, ⟨A, d, rfl, hc, hr⟩, ?_⟩
  rw [hb]
  simp only [List.map_cons, List.map_nil, Rows.uptoBulkAll]
  unfold encStripe
  rw [List.length_append, List.length_append]
  dsimp only
  omega
theorem trod_stripes_b {fuel : Nat} {cs : List Value} {x : DataW H × List MemPlace} (h : DataW.trod enc Try.prog w base spare held fuel 47 cs = some x) :
    ∃ A c l, cs = [.slice A l.length c] ∧ l.length ≤ c ∧ RStripes w (· < w.heap.size) A l ∧ (encStripes l).length ≤ 8 * Rows.uptoBulk x.1 := by
  obtain ⟨A, c, l, vs, h1, h2, -, h4, h5, h6, -⟩ := trod_rows_b (n := 3) (fun (s : PStripe) cs => StripeVal w (· < w.heap.size) s cs) encStripe (by kernel_rfl) (by kernel_rfl) (fun _ _ _ h => trod_stripe_b h) h
  exact ⟨A, c, l, h1, h2, ⟨vs, h4, h5⟩, by unfold encStripes; rw [List.length_append, be_length]; omega⟩
theorem trod_obj_b {fuel : Nat} {cs : List Value} {x : DataW H × List MemPlace} (h : DataW.trod enc Try.prog w base spare held fuel 80 cs = some x) :
    ∃ o, ObjVal w (· < w.heap.size) o cs ∧ (encObj o).length ≤ 8 * Rows.uptoBulk x.1 := by
  obtain ⟨n, xs, hl, hx, hb, hf⟩ := trod_fields_b (t := 80) (sh := #[(9, 0, 1), (3, 1, 1), (3, 2, 1), (47, 3, 1)]) (by kernel_rfl) (by kernel_rfl) h
  rw [show Try.prog.cellsOf 80 = 4 from by kernel_rfl] at hl
  obtain ⟨a, b, c, d, rfl⟩ := cells4 hl
  obtain ⟨y0, y1, y2, y3, rfl⟩ := four hx
  obtain ⟨k, e0, f0⟩ := trod_str_b (hf 0 _ _ _ rfl)
  obtain ⟨n1, e1, f1⟩ := trod_int_b (hf 1 _ _ _ rfl)
  obtain ⟨n2, e2, f2⟩ := trod_int_b (hf 2 _ _ _ rfl)
  obtain ⟨A, d, l, e3, hc, hr, f3⟩ := trod_stripes_b (hf 3 _ _ _ rfl)
  injection e0 with e0 _; injection e1 with e1 _; injection e2 with e2 _; injection e3 with e3 _
  subst e0 e1 e2 e3
  refine ⟨⟨k, n1, n2, l⟩, ⟨A, d, rfl, hc, hr⟩, ?_⟩
  rw [hb]
  simp only [List.map_cons, List.map_nil, Rows.uptoBulkAll]
  unfold encObj
  rw [List.length_append, List.length_append, List.length_append]
  dsimp only
  omega
theorem trod_objs_b {fuel : Nat} {cs : List Value} {x : DataW H × List MemPlace} (h : DataW.trod enc Try.prog w base spare held fuel 48 cs = some x) :
    ∃ A c l, cs = [.slice A l.length c] ∧ l.length ≤ c ∧ RObjs w (· < w.heap.size) A l ∧ (l.flatMap encObj).length + 8 ≤ 8 * Rows.uptoBulk x.1 := by
  obtain ⟨A, c, l, vs, h1, h2, -, h4, h5, h6, -⟩ := trod_rows_b (n := 4) (fun (s : PObj) cs => ObjVal w (· < w.heap.size) s cs) encObj (by kernel_rfl) (by kernel_rfl) (fun _ _ _ h => trod_obj_b h) h
  exact ⟨A, c, l, h1, h2, ⟨vs, h4, h5⟩, h6⟩
theorem trod_rec_b {fuel : Nat} {cs : List Value} {x : DataW H × List MemPlace} (h : DataW.trod enc Try.prog w base spare held fuel 51 cs = some x) :
    ∃ r, RecVal w (· < w.heap.size) r cs ∧ (encRec r).length ≤ 8 * Rows.uptoBulk x.1 := by
  obtain ⟨n, xs, hl, hx, hb, hf⟩ := trod_fields_b (t := 51) (sh := #[(3, 0, 1), (3, 1, 1), (3, 2, 1), (9, 3, 1), (47, 4, 1), (48, 5, 1), (49, 6, 1)]) (by kernel_rfl) (by kernel_rfl) h
  rw [show Try.prog.cellsOf 51 = 7 from by kernel_rfl] at hl
  obtain ⟨a, b, c, d, e, f, g, rfl⟩ := cells7 hl
  obtain ⟨y0, y1, y2, y3, y4, y5, y6, rfl⟩ := seven hx
  obtain ⟨n0, e0, f0⟩ := trod_int_b (hf 0 _ _ _ rfl)
  obtain ⟨n1, e1, f1⟩ := trod_int_b (hf 1 _ _ _ rfl)
  obtain ⟨n2, e2, f2⟩ := trod_int_b (hf 2 _ _ _ rfl)
  obtain ⟨k, e3, f3⟩ := trod_str_b (hf 3 _ _ _ rfl)
  obtain ⟨A, ca, l, e4, hc, hr, f4⟩ := trod_stripes_b (hf 4 _ _ _ rfl)
  obtain ⟨A2, ca2, l2, e5, hc2, hr2, f5⟩ := trod_objs_b (hf 5 _ _ _ rfl)
  obtain ⟨A3, ca3, l3, e6, hc3, hr3, f6⟩ := trod_ints_b (hf 6 _ _ _ rfl)
  injection e0 with e0 _; injection e1 with e1 _; injection e2 with e2 _; injection e3 with e3 _; injection e4 with e4 _; injection e5 with e5 _; injection e6 with e6 _
  subst e0 e1 e2 e3 e4 e5 e6
  refine ⟨⟨n0, n1, n2, k, l, l2, l3⟩, ⟨A, ca, A2, ca2, A3, ca3, rfl, hc, hc2, hc3, hr, hr2, hr3⟩, ?_⟩
  have b0 := bulk_one y0.1
  rw [hb]
  simp only [List.map_cons, List.map_nil, Rows.uptoBulkAll]
  unfold encRec
  simp only [List.length_append, be_length]
  omega
/-- A record whose bytes are not too many. -/
def FewR (r : PRec) : Prop := (encRec r).length ≤ 8388608
set_option maxRecDepth 100000 in
theorem rec_arg_b {v : Value} {d : DataW H} {p : List MemPlace} {r0 : Reach} {b0 : Nat} (hv : Value.okWide Try.prog w r0 b0 51 v) (h : DataW.Trod enc Try.prog w base spare held 51 v d p) (hb : Rows.uptoBulk d ≤ 1048576) :
    ∃ r vs, v = .agg vs.toArray ∧ RecVal w (· < w.heap.size) r vs ∧ FewR r := by
  have hu : Try.prog.underlying 51 = some (.struct (fieldsOf Try.prog 51)) := by kernel_rfl
  obtain ⟨cs, hcs, -⟩ := Go.WideShapes.okWide_struct hu hv
  subst hcs
  obtain ⟨fuel, hf⟩ := h
  obtain ⟨r, h1, h2⟩ := trod_rec_b hf
  exact ⟨r, cs.toList, by simp, h1, by unfold FewR; dsimp only at h2; omega⟩
set_option maxRecDepth 100000 in
theorem recs_arg_b {v : Value} {d : DataW H} {p : List MemPlace} {r0 : Reach} {b0 : Nat} (hv : Value.okWide Try.prog w r0 b0 39 v) (h : DataW.Trod enc Try.prog w base spare held 39 v d p) (hb : Rows.uptoBulk d ≤ 1048576) :
    ∃ A c l, v = .slice A l.length c ∧ l.length ≤ c ∧ l.length ≤ maxLen ∧ RRecs w (· < w.heap.size) A l ∧ ∀ r ∈ l, FewR r := by
  have hu : Try.prog.underlying 39 = some (.slice 51) := by kernel_rfl
  obtain ⟨a, len, cap, hcs⟩ := Go.WideShapes.okWide_slice hu hv
  subst hcs
  obtain ⟨fuel, hf⟩ := h
  obtain ⟨A, c, l, vs, h1, h2, h3, h4, h5, -, h7⟩ := trod_rows_b (n := 7) (fun (s : PRec) cs => RecVal w (· < w.heap.size) s cs) encRec hu (by kernel_rfl) (fun _ _ _ h => trod_rec_b h) hf
  have h8 : [Value.slice a len cap] = [.slice A l.length c] := h1
  injection h8 with h8 _
  exact ⟨A, c, l, h8, h2, Nat.le_trans h2 h3, ⟨vs, h4, h5⟩, fun r hr => by have := h7 r hr; unfold FewR; dsimp only at this; omega⟩
end
theorem flat_ge {α : Type} (en : α → List UInt8) (h1 : ∀ a, 1 ≤ (en a).length) : ∀ (l : List α), l.length ≤ (l.flatMap en).length ∧ ∀ a ∈ l, (en a).length ≤ (l.flatMap en).length
  | [] => by simp
  | a :: l => by
    obtain ⟨i1, i2⟩ := flat_ge en h1 l
    have := h1 a
    rw [List.flatMap_cons, List.length_append, List.length_cons]
    refine ⟨by omega, fun b hb => ?_⟩
    rcases List.mem_cons.1 hb with rfl | hb
    · omega
    · have := i2 b hb; omega
theorem encInts_ge (l : List Int) : l.length ≤ (encInts l).length := by
  have := (flat_ge encW (fun a => by unfold encW; rw [be_length]; omega) l).1
  unfold encInts
  rw [List.length_append]
  omega
theorem encStripe_ge (s : PStripe) : s.locs.length ≤ (encStripe s).length ∧ 1 ≤ (encStripe s).length := by
  have := encInts_ge s.locs
  unfold encStripe encW
  simp only [List.length_append, be_length]
  omega
theorem encStripes_ge (l : List PStripe) : l.length ≤ (encStripes l).length ∧ ∀ s ∈ l, s.locs.length ≤ (encStripes l).length := by
  obtain ⟨h1, h2⟩ := flat_ge encStripe (fun a => (encStripe_ge a).2) l
  unfold encStripes
  rw [List.length_append]
  refine ⟨by omega, fun s hs => ?_⟩
  have h3 := h2 s hs
  have h4 := (encStripe_ge s).1
  omega
theorem encObj_ge (o : PObj) : o.key.length ≤ (encObj o).length ∧ o.stripes.length ≤ (encObj o).length ∧ (∀ s ∈ o.stripes, s.locs.length ≤ (encObj o).length) ∧ 1 ≤ (encObj o).length := by
  obtain ⟨h1, h2⟩ := encStripes_ge o.stripes
  unfold encObj encKey encW
  simp only [List.length_append, be_length]
  refine ⟨by omega, by omega, fun s hs => ?_, by omega⟩
  have := h2 s hs
  omega
theorem FewR.bounds {r : PRec} (h : FewR r) : Room r ∧ MaxR r ∧ KeysR r := by
  unfold FewR at h
  have hl : (encRec r).length = 1 + 4 + 4 + (encKey r.key).length + (encStripes r.stripes).length + 2 + (r.objects.flatMap encObj).length + (encInts r.drives).length := by
    unfold encRec encW
    simp only [List.length_append, be_length]
  obtain ⟨s1, s2⟩ := encStripes_ge r.stripes
  obtain ⟨o1, o2⟩ := flat_ge encObj (fun a => (encObj_ge a).2.2.2) r.objects
  have d1 := encInts_ge r.drives
  have k1 : r.key.length ≤ (encKey r.key).length := by unfold encKey; rw [List.length_append]; omega
  have hm : (8388608 : Nat) ≤ maxLen := by unfold maxLen; omega
  have ho : ∀ o ∈ r.objects, o.key.length ≤ 8388608 ∧ o.stripes.length ≤ 8388608 ∧ ∀ s ∈ o.stripes, s.locs.length ≤ 8388608 := fun o ho => by
    have h1 := o2 o ho
    obtain ⟨h2, h3, h4, -⟩ := encObj_ge o
    exact ⟨by omega, by omega, fun s hs => by have := h4 s hs; omega⟩
  refine ⟨⟨by omega, fun s hs => by have := s2 s hs; omega, by omega, fun o h => ⟨by have := (ho o h).2.1; omega, fun s hs => by have := (ho o h).2.2 s hs; omega⟩, by omega, by omega⟩,
    ⟨by omega, by omega, fun s hs => by have := s2 s hs; unfold MaxS; omega, by omega, fun o h => ⟨by have := (ho o h).1; omega, by have := (ho o h).2.1; omega, fun s hs => by have := (ho o h).2.2 s hs; unfold MaxS; omega⟩, by omega⟩, by omega, fun o h => by have := (ho o h).1; omega⟩
end Go.Proofs.Ytmleldgohfcdbaa
