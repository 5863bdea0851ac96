/- Words for memory: a slice of bytes that reads as a list; what a slice of the call's own holds. No program is named here. -/
import Derived.Below
import Derived.Laws.OwnMore
import Derived.Deep.AppendLies
import Derived.Deep.Draws
import Derived.Laws.Rows
import Derived.Maps.AppendAt
import Derived.RegionTactic
import Derived.OwnWalk
import Derived.WalkKit
namespace Go.Proofs.Ytmleldgohfcdbaa
set_option linter.unusedVariables false
set_option linter.unusedSimpArgs false
open Go.RowKit
theorem block_of_add (a : Addr) (n : Nat) : (a.add n).block = a.block := by unfold Addr.add; split <;> rfl
theorem add_of_add (a : Addr) (i j : Nat) : (a.add i).add j = a.add (i + j) := by
  unfold Addr.add
  by_cases hi : i = 0 <;> by_cases hj : j = 0 <;> simp [hi, hj, Nat.add_assoc]
theorem int_eq {k : IntKind} {a b : Int} (h : a = b) : Value.int k a = .int k b := by rw [h]
theorem add_zero (a : Addr) : a.add 0 = a := rfl

/-- The cells from A on are these. -/
def RV (w : World) (A : Option Addr) (xs : List Value) : Prop :=
  ∀ j (h : j < xs.length), ∃ ad, A = some ad ∧ w.cell? (ad.add j) = some xs[j]
section
variable {w w' : World} {A : Option Addr} {xs : List Value}
theorem RV.none_ : RV w A [] := fun _ h => absurd h (by simp)
theorem RV.at_ (h : RV w A xs) {k : Nat} (hk : k < xs.length) : ∃ ad, A = some ad ∧ w.cell? (ad.add k) = some xs[k] := h k hk
theorem RV.keep (h : RV w A xs) (hk : ∀ p : Addr, p.block < w.heap.size → w'.cell? p = w.cell? p) : RV w' A xs := fun j hj => by
  obtain ⟨ad, e, hc⟩ := h j hj
  exact ⟨ad, e, (hk _ (World.block_lt_of_cell? w _ hc)).trans hc⟩
theorem RV.below (h : RV w A xs) (hb : Below w.heap.size w w') : RV w' A xs := h.keep fun _ hp => hb.cell hp
theorem RV.drewN (h : RV w A xs) (k : Nat) : RV (w.drewN k) A xs := h
theorem RV.alloc (h : RV w A xs) (o : Obj) : RV (w.alloc o) A xs := h.keep fun p hp => World.cell?_alloc_lt w o p hp
theorem RV.take (h : RV w A xs) (k : Nat) : RV w A (xs.take k) := fun j hj => by
  have hl : j < xs.length := by simp at hj; omega
  obtain ⟨ad, e, hc⟩ := h j hl
  exact ⟨ad, e, by rw [hc]; simp⟩
theorem RV.drop (h : RV w A xs) (k : Nat) : RV w (A.map (·.add k)) (xs.drop k) := fun j hj => by
  have hl : k + j < xs.length := by simp at hj; omega
  obtain ⟨ad, e, hc⟩ := h (k + j) hl
  exact ⟨ad.add k, by rw [e]; rfl, by rw [add_of_add, hc]; simp⟩
theorem RV.of_own {base : Nat} {e : TypeId} {size n c : Nat} (h : w.ownsRow base e size (.slice A n c) n xs) : RV w A xs := by
  intro j hj
  rcases h.2 with ⟨h0, hn⟩ | ⟨g, cap, cur, hv, _⟩
  · have : xs.length = 0 := by rw [h.1, hn, Nat.zero_mul]
    omega
  · injection hv with hA
    subst hA
    exact ⟨_, rfl, h.cells (g := g) rfl j _ (List.getElem?_eq_getElem hj)⟩
end
section
variable {P : Program} (w : World)
theorem run_append_nil_src (base : Nat) (t ty e : TypeId) (i : TypeInfo) (size : Nat) (ht : P.underlying t = some (.slice e)) (hi : P.info? e = some i)
    (v : Value) (n : Nat) (xs : List Value) (hown : w.ownsRow base e size v n xs) (c : Nat) : (Builtin.append_ #[t, t] ty #[v, .slice none 0 c]).run P w = .ok v w := by
  rcases hown.2 with ⟨rfl, rfl⟩ | ⟨g, cap, cur, rfl, _, _, hnc, _⟩
  · simp [Builtin.append_, run_underlying ht, sizeOf, typeInfo, hi, Builtin.lenOf, Builtin.firstCells]
  · simp [Builtin.append_, run_underlying ht, sizeOf, typeInfo, hi, Builtin.lenOf, Builtin.firstCells, hnc, storeCells]
theorem run_append_rv (base : Nat) (t ty e : TypeId) (i : TypeInfo) (z : Value) (size bytes : Nat) (ht : P.underlying t = some (.slice e)) (hi : P.info? e = some i) (hz : i.zero = some z)
    (hsize : i.size = size) (hby : i.bytes = bytes) (hzs : z.cells.size = size) (hsz : 0 < size)
    (v : Value) (n : Nat) (xs : List Value) (hown : w.ownsRow base e size v n xs)
    (A : Option Addr) (m c : Nat) (news : List Value) (hl : news.length = m * size) (hr : RV w A news) (h1 : ∀ u ∈ news, u.oneCell' = true)
    (h63 : n + m ≤ maxLen) (hbytes : (n + m) * bytes ≤ 140737488355328) (hbase : base ≤ w.heap.size) :
    ∃ v' w', (Builtin.append_ #[t, t] ty #[v, .slice A m c]).run P w = .ok v' w' ∧ w'.ownsRow base e size v' (n + m) (xs ++ news) ∧ w.grownBy w' v.ownBlock ∧
      (v'.ownBlock = v.ownBlock ∨ v'.ownBlock = some w.heap.size) := by
  rcases A with _ | ad
  · have hn : news = [] := by
      rcases news with _ | ⟨u, r⟩
      · rfl
      · obtain ⟨ad, h, _⟩ := hr 0 (by simp)
        cases h
    subst hn
    have hm : m = 0 := by
      rcases Nat.eq_zero_or_pos m with h0 | h0
      · exact h0
      · have : 0 < m * size := Nat.mul_pos h0 hsz
        simp at hl
        omega
    subst hm
    exact ⟨v, w, run_append_nil_src w base t ty e i size ht hi v n xs hown c, by simpa using hown, World.grownBy.refl w _, .inl rfl⟩
  · have hcells : ∀ j u, news[j]? = some u → w.cell? (ad.add j) = some u := by
      intro j u hu
      obtain ⟨hj, rfl⟩ := List.getElem?_eq_some_iff.1 hu
      obtain ⟨ad', h, hc⟩ := hr j hj
      injection h with h
      subst h
      exact hc
    obtain ⟨v', w', hrun, h2, h3, _, h5⟩ := run_append_own_at (P := P) w base t ty e i z size bytes ht hi hz hsize hby hzs hsz v n xs hown ad m c news hl hcells h1 h63 hbytes hbase
    exact ⟨v', w', hrun, h2, h3, h5⟩
/-- append, at an operation whose guard (if it has one) holds. -/
theorem wpList_app {ops : Array Oper} {rest : List Oper} {o : Oper} {a : Act} {Q : Exit → Act → World → Prop} (hgd : Region.wanted o (yielded ops a.tmps) = true) (s x : Operand) (t : TypeId)
    (ho : o.op = .call { callee := .builtin .append, args := #[s, x], argTypes := #[t, t] })
    (base : Nat) (e : TypeId) (z : Value) (size bytes : Nat) (ht : P.underlying t = some (.slice e)) (hi : (P.info? e).map (fun i => (i.zero, i.size, i.bytes)) = some (some z, size, bytes))
    (hzs : z.cells.size = size) (hsz : 0 < size)
    (v : Value) (n : Nat) (xs : List Value) (hs : a.eval s = v) (hown : w.ownsRow base e size v n xs)
    (A : Option Addr) (m c : Nat) (news : List Value) (hx : a.eval x = .slice A m c) (hl : news.length = m * size) (hr : RV w A news) (h1 : ∀ u ∈ news, u.oneCell' = true)
    (h63 : n + m ≤ maxLen) (hbytes : (n + m) * bytes ≤ 140737488355328) (hbase : base ≤ w.heap.size)
    (h : ∀ v' w', w'.ownsRow base e size v' (n + m) (xs ++ news) → w.grownBy w' v.ownBlock → (v'.ownBlock = v.ownBlock ∨ v'.ownBlock = some w.heap.size) → wpList P ops Q rest (a.put o.dst v') w') : wpList P ops Q (o :: rest) a w := by
  obtain ⟨i, hi, hz, hsize, hby⟩ := info_parts hi
  refine wpList_step fun K hK => ?_
  rw [if_pos hgd]
  obtain ⟨v', w', hrun, h2, h3, h4⟩ := run_append_rv (P := P) w base t o.type e i z size bytes ht hi hz hsize hby hzs hsz v n xs hown A m c news hl hr h1 h63 hbytes hbase
  unfold Oper.wp execOp
  simp only [ho, resolve, invoke, builtin, Sem.run_bind, Sem.run_pure, Result.andThen_ok, List.map_toArray, List.map_cons, List.map_nil, hs, hx, hrun]
  exact hK _ _ (h v' w' h2 h3 h4)
end

/-- A byte, as a value. -/
abbrev bv (c : UInt8) : Value := .int .u8 c.toNat
/-- The slice at A reads as these bytes. -/
def RB (w : World) (A : Option Addr) (l : List UInt8) : Prop :=
  ∀ j (h : j < l.length), ∃ ad, A = some ad ∧ w.cell? (ad.add j) = some (bv l[j])

section
variable {w w' : World} {A : Option Addr} {l : List UInt8}
theorem RB.none_ : RB w A [] := fun _ h => absurd h (by simp)
theorem RB.at_ (h : RB w A l) {k : Nat} (hk : k < l.length) : ∃ ad, A = some ad ∧ w.cell? (ad.add k) = some (bv l[k]) := h k hk
theorem RB.lt (h : RB w A l) {ad : Addr} (hA : A = some ad) (hl : 0 < l.length) : ad.block < w.heap.size := by
  obtain ⟨ad', e, hc⟩ := h 0 hl
  rw [hA] at e
  injection e with e
  subst e
  exact World.block_lt_of_cell? w _ hc
theorem RB.keep (h : RB w A l) (hk : ∀ p : Addr, p.block < w.heap.size → w'.cell? p = w.cell? p) : RB w' A l := fun j hj => by
  obtain ⟨ad, e, hc⟩ := h j hj
  exact ⟨ad, e, (hk _ (World.block_lt_of_cell? w _ hc)).trans hc⟩
theorem RB.below (h : RB w A l) (hb : Below w.heap.size w w') : RB w' A l := h.keep fun _ hp => hb.cell hp
theorem RB.drew (h : RB w A l) : RB w.drew A l := h
theorem RB.drewN (h : RB w A l) (k : Nat) : RB (w.drewN k) A l := h
theorem RB.alloc (h : RB w A l) (o : Obj) : RB (w.alloc o) A l := h.keep fun p hp => World.cell?_alloc_lt w o p hp
theorem RB.take (h : RB w A l) (k : Nat) : RB w A (l.take k) := fun j hj => by
  have hl : j < l.length := by simp at hj; omega
  obtain ⟨ad, e, hc⟩ := h j hl
  exact ⟨ad, e, by rw [hc]; simp⟩
theorem RB.drop (h : RB w A l) (k : Nat) : RB w (A.map (·.add k)) (l.drop k) := fun j hj => by
  have hl : k + j < l.length := by simp at hj; omega
  obtain ⟨ad, e, hc⟩ := h (k + j) hl
  exact ⟨ad.add k, by rw [e]; rfl, by rw [add_of_add, hc]; simp⟩
/-- 's[k:]': the model keeps the address where nothing is left of the room. -/
theorem RB.cut (h : RB w A l) {k cap : Nat} (hc : l.length ≤ cap) : RB w (if cap = k then A else A.map (·.add k)) (l.drop k) := by
  split
  · rename_i e
    rw [List.drop_eq_nil_of_le (by omega)]
    exact RB.none_
  · exact h.drop k
theorem RB.bytes (h : RB w A l) : ∀ j u, (l.map bv)[j]? = some u → ∀ ad, A = some ad → w.cell? (ad.add j) = some u := by
  intro j u hu ad hA
  rw [List.getElem?_map, Option.map_eq_some_iff] at hu
  obtain ⟨c, hc, rfl⟩ := hu
  obtain ⟨hj, rfl⟩ := List.getElem?_eq_some_iff.1 hc
  obtain ⟨ad', e, hcell⟩ := h j hj
  rw [hA] at e
  injection e with e
  subst e
  exact hcell
end

theorem RB_new (w : World) (l : List UInt8) (e : TypeId) (m : Nat × Nat) : RB (w.alloc (.cells (l.map bv).toArray e m)) (some ⟨w.heap.size, 0, none⟩) l := fun j hj => by
  refine ⟨_, rfl, ?_⟩
  have hadd : (⟨w.heap.size, 0, none⟩ : Addr).add j = ⟨w.heap.size, j, none⟩ := by unfold Addr.add; split <;> simp_all
  rw [hadd]
  rw [cell_of_row _ _ _ _ _ _ (heap_alloc_new w _)]
  simp [hj]
theorem RB.rv {w : World} {A : Option Addr} {l : List UInt8} (h : RB w A l) : RV w A (l.map bv) := fun j hj => by
  obtain ⟨ad, e, hc⟩ := h j (by simpa using hj)
  exact ⟨ad, e, by rw [hc]; simp⟩
theorem RV.rb {w : World} {A : Option Addr} {l : List UInt8} (h : RV w A (l.map bv)) : RB w A l := fun j hj => by
  obtain ⟨ad, e, hc⟩ := h j (by simpa using hj)
  exact ⟨ad, e, by rw [hc]; simp⟩
theorem bv_one (l : List UInt8) : ∀ u ∈ l.map bv, u.oneCell' = true := by
  intro u hu
  obtain ⟨c, _, rfl⟩ := List.mem_map.1 hu
  rfl
theorem World.ownsRow_base {w : World} {base base' : Nat} {e : TypeId} {size n : Nat} {v : Value} {xs : List Value} (h : w.ownsRow base e size v n xs) (hb : base' ≤ base) : w.ownsRow base' e size v n xs := by
  refine ⟨h.1, ?_⟩
  rcases h.2 with h0 | ⟨g, cap, cur, hv, hg, rest⟩
  · exact .inl h0
  · exact .inr ⟨g, cap, cur, hv, Nat.le_trans hb hg, rest⟩
/-- A slice of the call's own (in a block from base on) that holds these bytes. -/
def OwnB (w : World) (base : Nat) (v : Value) (l : List UInt8) : Prop := w.ownsRow base 5 1 v l.length (l.map bv)
theorem OwnB.form {w : World} {base : Nat} {v : Value} {l : List UInt8} (h : OwnB w base v l) :
    ∃ A c, v = .slice A l.length c ∧ l.length ≤ c ∧ c ≤ maxLen ∧ RB w A l := by
  rcases h.2 with ⟨rfl, hn⟩ | ⟨g, cap, cur, rfl, hb, hg, hnc, hcm, hcs, htake⟩
  · have : l = [] := List.eq_nil_of_length_eq_zero hn
    subst this
    exact ⟨none, 0, rfl, Nat.le_refl _, Nat.zero_le _, RB.none_⟩
  · refine ⟨_, _, rfl, hnc, hcm, fun j hj => ⟨_, rfl, ?_⟩⟩
    exact World.ownsRow.cells (g := g) h rfl j _ (by rw [List.getElem?_map, List.getElem?_eq_getElem hj]; rfl)
theorem below_of_grown {base : Nat} {w w' : World} {e : TypeId} {size n : Nat} {v : Value} {xs : List Value} (h : w.ownsRow base e size v n xs) (hg : w.grownBy w' v.ownBlock) (hb : base ≤ w.heap.size) : Below base w w' :=
  (Below.refl base w).grown hg hb fun k hk => (h.lt k hk).1
/-- An empty literal is a slice of the call's own. -/
theorem owns_lit (w : World) (base : Nat) (e : TypeId) (size : Nat) (hb : base ≤ w.heap.size) : (w.alloc (.cells #[] e)).ownsRow base e size (.slice (some ⟨w.heap.size, 0, none⟩) 0 0) 0 [] :=
  World.ownsRow_made w #[] 0 hb (Nat.zero_le _) (by simp)
theorem lit_add (g j : Nat) : (⟨g, 0, none⟩ : Addr).add j = ⟨g, j, none⟩ := by unfold Addr.add; split <;> simp_all
theorem owns_some {w : World} {base : Nat} {e : TypeId} {size n : Nat} {v : Value} {xs : List Value} (h : w.ownsRow base e size v n xs) (hn : 0 < n) :
    ∃ g c, v = .slice (some ⟨g, 0, none⟩) n c ∧ base ≤ g ∧ g < w.heap.size ∧ n ≤ c := by
  rcases h.2 with ⟨_, h0⟩ | ⟨g, cap, cur, rfl, hb, hg, hnc, _⟩
  · omega
  · exact ⟨g, cap, rfl, hb, (Array.getElem?_eq_some_iff.1 hg).1, hnc⟩
theorem owns_cell {w : World} {base : Nat} {e : TypeId} {size n g c : Nat} {xs : List Value} (h : w.ownsRow base e size (.slice (some ⟨g, 0, none⟩) n c) n xs) {j : Nat} (hj : j < xs.length) :
    w.cell? ⟨g, j, none⟩ = some xs[j] := by
  have := h.cells (g := g) rfl j _ (List.getElem?_eq_getElem hj)
  rwa [lit_add] at this
theorem owns_free {w : World} {base : Nat} {e : TypeId} {size n g c : Nat} {xs : List Value} (h : w.ownsRow base e size (.slice (some ⟨g, 0, none⟩) n c) n xs) (j : Nat) : w.frozen? ⟨g, j, none⟩ = false := by
  rcases h.2 with ⟨h0, _⟩ | ⟨g', cap, cur, hv, _, hg, _⟩
  · cases h0
  · injection hv with hA _ _
    injection hA with hA
    injection hA with hA
    subst hA
    simp [World.frozen?, hg]
theorem owns_set {w : World} {base : Nat} {e : TypeId} {size n g c : Nat} {xs : List Value} (h : w.ownsRow base e size (.slice (some ⟨g, 0, none⟩) n c) n xs) (j : Nat) (hj : j < xs.length) (u : Value) :
    (w.setCell ⟨g, j, none⟩ u).ownsRow base e size (.slice (some ⟨g, 0, none⟩) n c) n (xs.set j u) := by
  refine ⟨by rw [List.length_set]; exact h.1, ?_⟩
  rcases h.2 with ⟨h0, _⟩ | ⟨g', cap, cur, hv, hb, hg, hnc, hcm, hcs, htake⟩
  · cases h0
  · injection hv with hA hn hc
    injection hA with hA
    injection hA with hA
    subst hA
    subst hc
    refine .inr ⟨g, c, cur.setIfInBounds j u, rfl, hb, ?_, hnc, hcm, by simpa using hcs, ?_⟩
    · simp [World.setCell, Array.getElem?_modify, hg]
    · have hjl : j < n * size := by rw [← h.1]; exact hj
      rw [Array.toList_setIfInBounds, ← htake, List.take_set]
theorem OwnB.cell {w : World} {base g n c : Nat} {l : List UInt8} (h : OwnB w base (.slice (some ⟨g, 0, none⟩) n c) l) {j : Nat} (hj : j < l.length) : w.cell? ⟨g, j, none⟩ = some (bv l[j]) := by
  rcases h.2 with ⟨h0, _⟩ | ⟨g', cap, cur, hv, _⟩
  · cases h0
  · injection hv with _ hn _
    subst hn
    have := owns_cell (size := 1) h (j := j) (by simpa using hj)
    simpa using this
theorem OwnB.free {w : World} {base g n c : Nat} {l : List UInt8} (h : OwnB w base (.slice (some ⟨g, 0, none⟩) n c) l) (j : Nat) : w.frozen? ⟨g, j, none⟩ = false := by
  rcases h.2 with ⟨h0, _⟩ | ⟨g', cap, cur, hv, _⟩
  · cases h0
  · injection hv with _ hn _
    subst hn
    exact owns_free (size := 1) h j
theorem OwnB.set {w : World} {base g n c : Nat} {l : List UInt8} (h : OwnB w base (.slice (some ⟨g, 0, none⟩) n c) l) (j : Nat) (hj : j < l.length) (x : UInt8) :
    OwnB (w.setCell ⟨g, j, none⟩ (bv x)) base (.slice (some ⟨g, 0, none⟩) n c) (l.set j x) := by
  rcases h.2 with ⟨h0, _⟩ | ⟨g', cap, cur, hv, _⟩
  · cases h0
  · injection hv with _ hn _
    subst hn
    have := owns_set (size := 1) h j (by simpa using hj) (bv x)
    unfold OwnB
    rw [List.length_set, List.map_set]
    exact this
/-- What came in as a row of numbers reads as bytes. -/
theorem rb_of_row {w : World} {a : Option Addr} {len cap : Nat} {zs : List Int}
    (h : (a = none ∧ len = 0 ∧ cap = 0 ∧ zs = []) ∨ ∃ x, a = some x ∧ len ≤ cap ∧ cap ≤ maxLen ∧ zs.length = cap ∧ (∀ i, i < zs.length → w.cell? (x.add i) = some (.int .u8 (zs.getD i 0))) ∧ ∀ n ∈ zs, (Lit.int .u8 n).wf = true) :
    ∃ l : List UInt8, len = l.length ∧ RB w a l ∧ l.length ≤ cap ∧ cap ≤ maxLen := by
  rcases h with ⟨rfl, rfl, rfl, rfl⟩ | ⟨x, rfl, hl, hm, hz, hc, hw⟩
  · exact ⟨[], rfl, RB.none_, Nat.le_refl _, Nat.zero_le _⟩
  · have hlen : ((zs.take len).map fun n => UInt8.ofNat n.toNat).length = len := by simp; omega
    refine ⟨(zs.take len).map fun n => UInt8.ofNat n.toNat, hlen.symm, fun j hj => ⟨x, rfl, ?_⟩, by omega, hm⟩
    have hj' : j < zs.length := by omega
    rw [hc j hj']
    have hwj := hw zs[j] (List.getElem_mem hj')
    have hb : 0 ≤ zs[j] ∧ zs[j] < 256 := by
      have h0 : IntKind.u8.min = 0 := by decide
      have h1 : IntKind.u8.max = 255 := by decide
      simp only [Lit.wf, h0, h1, Bool.and_eq_true, decide_eq_true_eq] at hwj
      omega
    have e : (zs.getD j 0) = zs[j] := by simp [List.getD, List.getElem?_eq_getElem hj']
    rw [e]
    simp only [List.getElem_map, List.getElem_take, bv, UInt8.toNat_ofNat']
    congr 2
    omega
theorem OwnB.nil (w : World) (base : Nat) : OwnB w base (.slice none 0 0) [] := World.ownsRow_nil w base _ 1
theorem OwnB.kept {w w' : World} {base : Nat} {v : Value} {l : List UInt8} {row : Option Nat} (h : OwnB w base v l) (hg : w.grownBy w' row) (hne : v.ownBlock = none ∨ v.ownBlock ≠ row) : OwnB w' base v l :=
  World.ownsRow.kept h hg hne
theorem grown_of_below {w w' : World} (h : Below w.heap.size w w') (row : Option Nat) : w.grownBy w' row := ⟨h.os, h.tape, h.output, h.size, fun i hi _ => h.block i hi⟩
theorem OwnB.below {w w' : World} {base : Nat} {v : Value} {l : List UInt8} (h : OwnB w base v l) (hb : Below w.heap.size w w') : OwnB w' base v l := by
  refine h.kept (grown_of_below hb none) ?_
  cases hv : v.ownBlock <;> simp
end Go.Proofs.Ytmleldgohfcdbaa
