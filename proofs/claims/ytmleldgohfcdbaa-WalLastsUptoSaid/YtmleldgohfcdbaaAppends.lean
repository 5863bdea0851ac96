/- law11's WalAppends. -/
import Derived.Test.YtmleldgohfcdbaaWalScanLaw
import Derived.Test.YtmleldgohfcdbaaBulk
import Derived.Test.YtmleldgohfcdbaaStep
namespace Go.Proofs.Ytmleldgohfcdbaa
set_option linter.unusedVariables false
set_option linter.unusedSimpArgs false
open Go.RowKit
/-- append, at a step of a region that draws its order. -/
theorem step_app {y : Nat → Option Bool} {o : Oper} {a : Act} {w : World} {K : Act → World → Prop} {Q : Exit → Act → World → Prop} {E : Prop} (hgd : o.guard = none) (s x : Operand) (t : TypeId)
    (ho : o.op = .call { callee := .builtin .append, args := #[s, x], argTypes := #[t, t] })
    (base : Nat) (e : TypeId) (z : Value) (size bytes : Nat) (ht : Try.prog.underlying t = some (.slice e)) (hi : (Try.prog.info? e).map (fun i => (i.zero, i.size, i.bytes)) = some (some z, size, bytes))
    (hzs : z.cells.size = size) (hsz : 0 < size)
    (v : Value) (n : Nat) (xs : List Value) (hs : a.eval s = v) (hown : w.ownsRow base e size v n xs)
    (A : Option Addr) (m c : Nat) (news : List Value) (hx : a.eval x = .slice A m c) (hl : news.length = m * size) (hr : RV w A news) (h1 : ∀ u ∈ news, u.oneCell' = true)
    (h63 : n + m ≤ maxLen) (hbytes : (n + m) * bytes ≤ 140737488355328) (hbase : base ≤ w.heap.size)
    (h : ∀ v' w', w'.ownsRow base e size v' (n + m) (xs ++ news) → w.grownBy w' v.ownBlock → (v'.ownBlock = v.ownBlock ∨ v'.ownBlock = some w.heap.size) → K (a.put o.dst v') w') :
    if Region.wanted o y = true then Oper.wp Try.prog o a w K Q else E := by
  obtain ⟨i, hi, hz, hsize, hby⟩ := info_parts hi
  have hw : Region.wanted o y = true := by simp [Region.wanted, hgd]
  rw [if_pos hw]
  obtain ⟨v', w', hrun, h2, h3, h4⟩ := run_append_rv (P := Try.prog) w base t o.type e i z size bytes ht hi hz hsize hby hzs hsz v n xs hown A m c news hl hr h1 h63 hbytes hbase
  unfold Oper.wp execOp
  simp only [ho, resolve, invoke, builtin, Sem.run_bind, Sem.run_pure, Result.andThen_ok, List.map_toArray, List.map_cons, List.map_nil, hs, hx, hrun]
  exact h v' w' h2 h3 h4
/-- append, at a step of a region that draws its order, the operation written out: a goal of another form is told at once. -/
theorem step_append {P : Program} {y : Nat → Option Bool} {d : Option Tmp} {s x : Operand} {t : TypeId} {ty : TypeId} {pos : String} {af : Array Edge} {a : Act} {w : World} {K : Act → World → Prop} {Q : Exit → Act → World → Prop} {E : Prop}
    (h : ∃ v' w', (Builtin.append_ #[t, t] ty #[a.eval s, a.eval x]).run P w = .ok v' w' ∧ K (a.put d v') w') :
    if Region.wanted (⟨d, .call { callee := .builtin .append, args := #[s, x], argTypes := #[t, t] }, ty, pos, af, none⟩ : Oper) y = true then
      Oper.wp P ⟨d, .call { callee := .builtin .append, args := #[s, x], argTypes := #[t, t] }, ty, pos, af, none⟩ a w K Q else E := by
  obtain ⟨v', w', hrun, hk⟩ := h
  rw [if_pos (by simp [Region.wanted])]
  unfold Oper.wp execOp
  simp only [resolve, invoke, builtin, Sem.run_bind, Sem.run_pure, Result.andThen_ok, List.map_toArray, List.map_cons, List.map_nil, hrun]
  exact hk
/-- A block that is none of the tape's, the log's, and no row of these two. -/
def PX (g q : Nat) (v o : Value) (k : Nat) : Prop := k ≠ g ∧ k ≠ q ∧ v.ownBlock ≠ some k ∧ o.ownBlock ≠ some k
theorem pxNew {w : World} {g q n m : Nat} {v o : Value} {B B' : Nat} {e e' size size' : Nat} {xs ys : List Value} (hg : g < w.heap.size) (hq : q < w.heap.size) (hv : w.ownsRow B e size v n xs) (ho : w.ownsRow B' e' size' o m ys) :
    ∀ k, w.heap.size ≤ k → PX g q v o k := fun k hk => ⟨by omega, by omega, fun h => by have := (hv.lt k h).2; omega, fun h => by have := (ho.lt k h).2; omega⟩
/-- What may have turned: blocks of these two rows alone, and new ones. -/
structure Kept (v o : Value) (w w' : World) : Prop where
  os : w'.os = w.os
  tape : w'.tape = w.tape
  output : w'.output = w.output
  size : w.heap.size ≤ w'.heap.size
  block : ∀ k, k < w.heap.size → v.ownBlock ≠ some k → o.ownBlock ≠ some k → w'.heap[k]? = w.heap[k]?
theorem Kept.of_below {v o : Value} {w w' : World} (h : Below w.heap.size w w') : Kept v o w w' := ⟨h.os, h.tape, h.output, h.size, fun k hk _ _ => h.block k hk⟩
def OrNew (n : Nat) (v v' : Value) : Prop := v'.ownBlock = v.ownBlock ∨ ∃ k, n ≤ k ∧ v'.ownBlock = some k
theorem Kept.step {v o v1 o1 : Value} {w a b : World} {row : Option Nat} (h : Kept v o w a) (hg : a.grownBy b row) (hv : OrNew w.heap.size v v1) (ho : OrNew w.heap.size o o1) (hrow : row = none ∨ row = v1.ownBlock ∨ row = o1.ownBlock) : Kept v o w b :=
  ⟨hg.os.trans h.os, hg.tape.trans h.tape, hg.output.trans h.output, Nat.le_trans h.size hg.size, fun k hk h1 h2 => (hg.block k (Nat.lt_of_lt_of_le hk h.size) (fun e => by
    rcases hrow with r | r | r
    · rw [r] at e; cases e
    · rcases hv with hv | ⟨j, hj, hv⟩
      · rw [r, hv] at e; exact h1 e.symm
      · rw [r, hv] at e; injection e with e; omega
    · rcases ho with ho | ⟨j, hj, ho⟩
      · rw [r, ho] at e; exact h2 e.symm
      · rw [r, ho] at e; injection e with e; omega)).trans (h.block k hk h1 h2)⟩
theorem WalAt.turn {w w' : World} {q g : Nat} {v o v' o' : Value} {x : WLog} (h : WalAt w q g (PX g q v o) x) (hk : Kept v o w w') (hv : OrNew w.heap.size v v') (ho : OrNew w.heap.size o o') (hvg : v.ownBlock ≠ some g ∧ v.ownBlock ≠ some q) (hog : o.ownBlock ≠ some g ∧ o.ownBlock ≠ some q) :
    WalAt w' q g (PX g q v' o') x := by
  obtain ⟨h1, h2⟩ := h
  have hgw : g < w.heap.size := by obtain ⟨_, _, _, _, hb, _⟩ := h1; exact blk_lt hb
  refine ⟨(h1.imp (P' := fun k => PX g q v o k ∧ PX g q v' o' k) fun k hk' hp => ⟨hp, hp.1, hp.2.1, fun e => ?_, fun e => ?_⟩).keep (hk.block g hgw hvg.1 hog.1) (fun k hk' hp => hk.block k hk' hp.1.2.2.1 hp.1.2.2.2) |>.imp fun k _ hp => hp.2, (hk.block q (blk_lt h2) hvg.2 hog.2).trans h2⟩
  · rcases hv with hv | ⟨j, hj, hv⟩
    · rw [hv] at e; exact hp.2.2.1 e
    · rw [hv] at e; injection e with e; omega
  · rcases ho with ho | ⟨j, hj, ho⟩
    · rw [ho] at e; exact hp.2.2.2 e
    · rw [ho] at e; injection e with e; omega
theorem owns_two {w w' : World} {B e size n g q : Nat} {v : Value} {xs : List Value} (h : w.ownsRow B e size v n xs) (ht : Two g q w w') (hg : g < B) (hq : q < B) : w'.ownsRow B e size v n xs := by
  refine ⟨h.1, ?_⟩
  rcases h.2 with h0 | ⟨k, cap, cur, hv, hb, hk, rest⟩
  · exact .inl h0
  · exact .inr ⟨k, cap, cur, hv, hb, (ht.block k (blk_lt hk) (by omega) (by omega)).trans hk, rest⟩
theorem Kept.cell {v o : Value} {w W : World} (h : Kept v o w W) {a : Addr} {x : Value} (hc : w.cell? a = some x) (h1 : v.ownBlock ≠ some a.block) (h2 : o.ownBlock ≠ some a.block) : W.cell? a = some x :=
  (World.cell?_of_block (h.block _ (World.block_lt_of_cell? w _ hc) h1 h2)).trans hc
/-- The state within the region that appends to both rows. -/
structure R18 (w6 : World) (B : Nat) (vb0 vo0 : Value) (W : World) (vb vo : Value) (lb : List UInt8) (n : Nat) (xs : List Value) : Prop where
  ob : OwnB W B vb lb
  oo : W.ownsRow B 51 7 vo n xs
  kept : Kept vb0 vo0 w6 W
  nb : OrNew w6.heap.size vb0 vb
  no : OrNew w6.heap.size vo0 vo
  base : B ≤ W.heap.size
section
variable {w6 W W' : World} {B n : Nat} {vb0 vo0 vb vo : Value} {lb : List UInt8} {xs : List Value}
theorem R18.below (h : R18 w6 B vb0 vo0 W vb vo lb n xs) (hb : Below W.heap.size W W') : R18 w6 B vb0 vo0 W' vb vo lb n xs :=
  ⟨h.ob.below hb, owns_below h.oo hb, h.kept.step (grown_of_below hb none) h.nb h.no (.inl rfl), h.nb, h.no, Nat.le_trans h.base hb.size⟩
theorem R18.alloc (h : R18 w6 B vb0 vo0 W vb vo lb n xs) (o : Obj) : R18 w6 B vb0 vo0 (W.alloc o) vb vo lb n xs := h.below ((Below.refl _ W).alloc (Nat.le_refl _) o)
theorem OrNew.next {v v' v2 : Value} {a b : Nat} (h : OrNew a v v') (hab : a ≤ b) (hn : v2.ownBlock = v'.ownBlock ∨ v2.ownBlock = some b) : OrNew a v v2 := by
  rcases hn with hn | hn
  · rcases h with h | ⟨k, hk, h⟩
    · exact .inl (hn.trans h)
    · exact .inr ⟨k, hk, hn.trans h⟩
  · exact .inr ⟨b, hab, hn⟩
theorem R18.app1 (h : R18 w6 B vb0 vo0 W vb vo lb n xs) {v1 : Value} {m : List UInt8} (hown : W'.ownsRow B 5 1 v1 (lb.length + m.length) (lb.map bv ++ m.map bv)) (hg : W.grownBy W' vb.ownBlock)
    (hn : v1.ownBlock = vb.ownBlock ∨ v1.ownBlock = some W.heap.size) : R18 w6 B vb0 vo0 W' v1 vo (lb ++ m) n xs :=
  ⟨by unfold OwnB; rw [List.length_append, List.map_append]; exact hown, World.ownsRow.kept h.oo hg (own_types_ne h.oo h.ob (by decide)), h.kept.step hg h.nb h.no (.inr (.inl rfl)), h.nb.next h.kept.size hn, h.no, Nat.le_trans h.base hg.size⟩
theorem R18.app2 (h : R18 w6 B vb0 vo0 W vb vo lb n xs) {v1 : Value} {n1 : Nat} {ys : List Value} (hown : W'.ownsRow B 51 7 v1 n1 ys) (hg : W.grownBy W' vo.ownBlock)
    (hn : v1.ownBlock = vo.ownBlock ∨ v1.ownBlock = some W.heap.size) : R18 w6 B vb0 vo0 W' vb v1 lb n1 ys :=
  ⟨OwnB.kept h.ob hg (own_types_ne h.ob h.oo (by decide)), hown, h.kept.step hg h.nb h.no (.inr (.inr rfl)), h.nb, h.no.next h.kept.size hn, Nat.le_trans h.base hg.size⟩
theorem R18.src (h : R18 w6 B vb0 vo0 W vb vo lb n xs) {A : Option Addr} {l : List UInt8} (hs : RVb w6 (fun k => vb0.ownBlock ≠ some k ∧ vo0.ownBlock ≠ some k) A (l.map bv)) : RB W A l :=
  (hs.keep fun k hk hp => h.kept.block k hk hp.1 hp.2).rv.rb
theorem R18.pend (_ : R18 w6 B vb0 vo0 W vb vo lb n xs) (cs : List Value) : (W.alloc (.cells cs.toArray 51)).heap[W.heap.size]? = some (.cells cs.toArray 51 (0, 0)) := heap_alloc_new W _
theorem rv_blk {N : Nat} {cs : List Value} (h : W.heap[N]? = some (.cells cs.toArray 51 (0, 0))) : RV W (some ⟨N, 0, none⟩) cs := by
  intro j hj
  refine ⟨_, rfl, ?_⟩
  rw [lit_add, cell_of_row _ _ _ _ _ _ h]
  first | (simp; done) | simpa using List.getElem?_eq_getElem hj
theorem rvb_of_blk {N : Nat} {cs : List Value} (h : W.heap[N]? = some (.cells cs.toArray 51 (0, 0))) : RVb W (· < W.heap.size) (some ⟨N, 0, none⟩) cs := by
  intro j hj
  obtain ⟨ad, e, hc⟩ := rv_blk h j hj
  exact ⟨ad, e, by injection e with e; subst e; exact blk_lt h, hc⟩
theorem WalAt.below {q g : Nat} {P : Nat → Prop} {x : WLog} (h : WalAt W q g P x) (hb : Below W.heap.size W W') : WalAt W' q g P x :=
  ⟨h.1.keep (hb.block g (by obtain ⟨_, _, _, _, hb, _⟩ := h.1; exact blk_lt hb)) fun k hk _ => hb.block k hk, (hb.block q (blk_lt h.2)).trans h.2⟩
theorem R18.row (h : R18 w6 B vb0 vo0 W vb vo lb n xs) {base : Nat} {v : Value} {l : List UInt8} (hE : OwnB W base v l) (hg : W.grownBy W' vo.ownBlock) : OwnB W' base v l := OwnB.kept hE hg (own_types_ne hE h.oo (by decide))
theorem OwnB.alc {base : Nat} {v : Value} {l : List UInt8} (h : OwnB W base v l) (o : Obj) : OwnB (W.alloc o) base v l := h.below ((Below.refl _ W).alloc (Nat.le_refl _) o)
theorem R18.step1 (h : R18 w6 B vb0 vo0 W vb vo lb n xs) {base c : Nat} {NA : Option Addr} {l : List UInt8} (hE : OwnB W base (.slice NA l.length c) l) (h63 : lb.length + l.length ≤ 16384) :
    ∃ v' w', (Builtin.append_ #[22, 22] 22 #[vb, .slice NA l.length c]).run Try.prog W = .ok v' w' ∧ R18 w6 B vb0 vo0 w' v' vo (lb ++ l) n xs ∧
      (∀ (N : Nat) (cs : Array Value), W.heap[N]? = some (.cells cs 51 (0, 0)) → w'.heap[N]? = some (.cells cs 51 (0, 0))) := by
  obtain ⟨ib, hib, hib1, hib2, hib3⟩ := info_parts info_byte
  obtain ⟨vb1, wn, hrun, hob1, hg1, hn1⟩ := run_append_rv (P := Try.prog) W B 22 22 5 ib (.int .u8 0) 1 1 Try.underlying22 hib hib1 hib2 hib3 rfl Nat.one_pos vb lb.length (lb.map bv) h.ob NA l.length c (l.map bv) (by simp) (RV.of_own hE) (bv_one _) (by unfold maxLen; omega) (by omega) h.base
  exact ⟨vb1, wn, hrun, h.app1 hob1 hg1 hn1, fun N cs hN => (hg1.block _ (blk_lt hN) (fun e => own_ne h.ob hN (by decide) e.symm)).trans hN⟩
theorem R18.step2 (h : R18 w6 B vb0 vo0 W vb vo lb n xs) {N : Nat} {cs : List Value} (hN : W.heap[N]? = some (.cells cs.toArray 51 (0, 0))) (hl : cs.length = 7) (h1 : ∀ u ∈ cs, u.oneCell' = true) (h63 : n + 1 ≤ 100) :
    ∃ v' w', (Builtin.append_ #[39, 39] 39 #[vo, .slice (some ⟨N, 0, none⟩) 1 1]).run Try.prog W = .ok v' w' ∧ R18 w6 B vb0 vo0 w' vb v' lb (n + 1) (xs ++ cs) ∧
      (∀ base v l, OwnB W base v l → OwnB w' base v l) := by
  obtain ⟨ir, hir, hir1, hir2, hir3⟩ := info_parts info_rec
  obtain ⟨vo1, wn, hrun, hoo1, hg1, hn1⟩ := run_append_rv (P := Try.prog) W B 39 39 51 ir zeroRec 7 112 Try.underlying39 hir hir1 hir2 hir3 rfl (Nat.zero_lt_succ _) vo n xs h.oo (some ⟨N, 0, none⟩) 1 1 cs (by omega) (rv_blk hN) h1 (by unfold maxLen; omega) (by omega) h.base
  exact ⟨vo1, wn, hrun, h.app2 hoo1 hg1 hn1, fun _ _ _ hE => h.row hE hg1⟩
end
section
variable {w6 W : World} {B n : Nat} {vb0 vo0 vb vo : Value} {lb : List UInt8} {xs : List Value} {y : Nat → Option Bool} {d : Option Tmp} {ty : TypeId} {pos : String} {af : Array Edge} {a : Act} {K : Act → World → Prop} {Q : Exit → Act → World → Prop} {E : Prop}
/-- The first append, as a step: it fits at the world of which hS speaks alone. -/
theorem step18_1 (hS : R18 w6 B vb0 vo0 W vb vo lb n xs) {base c : Nat} {NA : Option Addr} {l : List UInt8} (hE : OwnB W base (.slice NA l.length c) l) (h63 : lb.length + l.length ≤ 16384) {s x : Operand}
    (hs : a.eval s = vb) (hx : a.eval x = .slice NA l.length c)
    (hk : ∀ v' w', R18 w6 B vb0 vo0 w' v' vo (lb ++ l) n xs → (∀ (N : Nat) (cs : Array Value), W.heap[N]? = some (.cells cs 51 (0, 0)) → w'.heap[N]? = some (.cells cs 51 (0, 0))) → K (a.put d v') w') :
    if Region.wanted (⟨d, .call { callee := .builtin .append, args := #[s, x], argTypes := #[22, 22] }, 22, pos, af, none⟩ : Oper) y = true then
      Oper.wp Try.prog ⟨d, .call { callee := .builtin .append, args := #[s, x], argTypes := #[22, 22] }, 22, pos, af, none⟩ a W K Q else E := by
  obtain ⟨v', w', hrun, h1, h2⟩ := hS.step1 hE h63
  exact step_append ⟨v', w', by rw [hs, hx]; exact hrun, hk v' w' h1 h2⟩
theorem step18_2 (hS : R18 w6 B vb0 vo0 W vb vo lb n xs) {N : Nat} {cs : List Value} (hN : W.heap[N]? = some (.cells cs.toArray 51 (0, 0))) (hl : cs.length = 7) (h1 : ∀ u ∈ cs, u.oneCell' = true) (h63 : n + 1 ≤ 100) {s x : Operand}
    (hs : a.eval s = vo) (hx : a.eval x = .slice (some ⟨N, 0, none⟩) 1 1)
    (hk : ∀ v' w', R18 w6 B vb0 vo0 w' vb v' lb (n + 1) (xs ++ cs) → (∀ base v l, OwnB W base v l → OwnB w' base v l) → K (a.put d v') w') :
    if Region.wanted (⟨d, .call { callee := .builtin .append, args := #[s, x], argTypes := #[39, 39] }, 39, pos, af, none⟩ : Oper) y = true then
      Oper.wp Try.prog ⟨d, .call { callee := .builtin .append, args := #[s, x], argTypes := #[39, 39] }, 39, pos, af, none⟩ a W K Q else E := by
  obtain ⟨v', w', hrun, h1, h2⟩ := hS.step2 hN hl h1 h63
  exact step_append ⟨v', w', by rw [hs, hx]; exact hrun, hk v' w' h1 h2⟩
theorem step18_call (hS : R18 w6 B vb0 vo0 W vb vo lb n xs) {f : FuncId} {fn : Func} {os : List Operand} {args : List Value} {ts : Array TypeId} {l : List UInt8}
    (hf : Try.prog.funcs[f]? = some fn) (hn : (fn.name == "runtime.NumGoroutine") = false) (hb : fn.body.isNone = false)
    (hc : Calls Try.prog f args.toArray W fun e w' => ∃ v, e = .returned v ∧ OwnB w' W.heap.size v l ∧ Below W.heap.size W w') (hx : os.map a.eval = args)
    (hk : ∀ NA nc w', R18 w6 B vb0 vo0 w' vb vo lb n xs → OwnB w' W.heap.size (.slice NA l.length nc) l → (∀ (N : Nat) (cs : Array Value), W.heap[N]? = some (.cells cs 51 (0, 0)) → w'.heap[N]? = some (.cells cs 51 (0, 0))) → K (a.put d (.slice NA l.length nc)) w') :
    if Region.wanted (⟨d, .call { callee := .value (.func f), args := os.toArray, argTypes := ts }, ty, pos, af, none⟩ : Oper) y = true then
      Oper.wp Try.prog ⟨d, .call { callee := .value (.func f), args := os.toArray, argTypes := ts }, ty, pos, af, none⟩ a W K Q else E := by
  refine step_call hf hn hb ?_
  rw [hx]
  refine hc.mono fun e w' ⟨v, he, h1, h2⟩ => ⟨v, he, ?_⟩
  obtain ⟨NA, nc, rfl, -⟩ := OwnB.form h1
  exact hk NA nc w' (hS.below h2) h1 fun N cs hN => (h2.block _ (blk_lt hN)).trans hN
end
end Go.Proofs.Ytmleldgohfcdbaa
