/- Records as data, and the bytes that they have. -/
import Derived.Test.YtmleldgohfcdbaaBytes
namespace Go.Proofs.Ytmleldgohfcdbaa
set_option linter.unusedVariables false
set_option linter.unusedSimpArgs false
open Go.RowKit
/-- uint64(v). -/
def nat64 (v : Int) : Nat := (v % 18446744073709551616).toNat
theorem nat64_eq (v : Int) : IntKind.u64.wrap v = (nat64 v : Int) := by rw [IntKind.wrap_u64]; unfold nat64; omega
theorem nat64_nat (n : Nat) (h : n < 18446744073709551616) : nat64 (n : Int) = n := by unfold nat64; omega
structure PStripe where
  id : Int
  epoch : Int
  locs : List Int
structure PObj where
  key : List UInt8
  id : Int
  size : Int
  stripes : List PStripe
structure PRec where
  kind : Int
  id : Int
  size : Int
  key : List UInt8
  stripes : List PStripe
  objects : List PObj
  drives : List Int
def maxID : Int := 1073741824
def badNum (v most : Int) : Bool := decide (v < 0) || decide (most < v)
def encW (v : Int) : List UInt8 := be 4 (nat64 v)
def encInts (l : List Int) : List UInt8 := be 1 (nat64 l.length) ++ l.flatMap encW
def badInts (l : List Int) : Bool := badNum l.length 255 || l.any (badNum · maxID)
def encKey (k : List UInt8) : List UInt8 := be 1 (nat64 k.length) ++ k
def badKey (k : List UInt8) : Bool := badNum k.length 16
def encStripe (s : PStripe) : List UInt8 := encW s.id ++ encW s.epoch ++ encInts s.locs
def badStripe (s : PStripe) : Bool := badNum s.id maxID || badNum s.epoch maxID || badInts s.locs
def encStripes (l : List PStripe) : List UInt8 := be 1 (nat64 l.length) ++ l.flatMap encStripe
def badStripes (l : List PStripe) : Bool := badNum l.length 255 || l.any badStripe
def encObj (o : PObj) : List UInt8 := encKey o.key ++ encW o.id ++ encW o.size ++ encStripes o.stripes
def badObj (o : PObj) : Bool := badKey o.key || badNum o.id maxID || badNum o.size maxID || badStripes o.stripes
def encRec (r : PRec) : List UInt8 :=
  be 1 (nat64 r.kind) ++ encW r.id ++ encW r.size ++ encKey r.key ++ encStripes r.stripes ++ be 2 (nat64 r.objects.length) ++ r.objects.flatMap encObj ++ encInts r.drives
def badRec (r : PRec) : Bool :=
  badNum r.kind 5 || decide (r.kind < 1) || badNum r.id maxID || badNum r.size maxID || badKey r.key || badStripes r.stripes || badNum r.objects.length 65535 || r.objects.any badObj || badInts r.drives
theorem flat_take_le {α β : Type} (l : List α) (f : α → List β) (k : Nat) : ((l.take k).flatMap f).length ≤ (l.flatMap f).length := by
  have h : l.flatMap f = (l.take k).flatMap f ++ (l.drop k).flatMap f := by rw [← List.flatMap_append, List.take_append_drop]
  rw [h, List.length_append]
  omega
theorem flat_take_succ {α β : Type} (l : List α) (f : α → List β) (k : Nat) (h : k < l.length) : (l.take (k + 1)).flatMap f = (l.take k).flatMap f ++ f l[k] := by
  rw [List.take_succ_eq_append_getElem h, List.flatMap_append]
  simp
theorem any_take_succ {α : Type} (l : List α) (f : α → Bool) (k : Nat) (h : k < l.length) : (l.take (k + 1)).any f = ((l.take k).any f || f l[k]) := by
  rw [List.take_succ_eq_append_getElem h, List.any_append]
  simp
/-! ### Records in memory, in blocks of which P holds -/
/-- The cells from A on are these, in a block of which P holds. -/
def RVb (w : World) (P : Nat → Prop) (A : Option Addr) (xs : List Value) : Prop :=
  ∀ j (h : j < xs.length), ∃ ad, A = some ad ∧ P ad.block ∧ w.cell? (ad.add j) = some xs[j]
theorem RVb.keep {w w' : World} {P : Nat → Prop} {A : Option Addr} {xs : List Value} (h : RVb w P A xs) (hk : ∀ k, k < w.heap.size → P k → w'.heap[k]? = w.heap[k]?) : RVb w' P A xs := fun j hj => by
  obtain ⟨ad, e, hB, hc⟩ := h j hj
  exact ⟨ad, e, hB, (World.cell?_of_block (hk _ (World.block_lt_of_cell? w _ hc) (by rw [block_of_add]; exact hB))).trans hc⟩
theorem RVb.imp {w : World} {P P' : Nat → Prop} {A : Option Addr} {xs : List Value} (h : RVb w P A xs) (hP : ∀ k, k < w.heap.size → P k → P' k) : RVb w P' A xs := fun j hj => by
  obtain ⟨ad, e, hb, hc⟩ := h j hj
  have hl := World.block_lt_of_cell? w _ hc
  rw [block_of_add] at hl
  exact ⟨ad, e, hP _ hl hb, hc⟩
theorem RVb.rv {w : World} {P : Nat → Prop} {A : Option Addr} {xs : List Value} (h : RVb w P A xs) : RV w A xs := fun j hj => by
  obtain ⟨ad, e, _, hc⟩ := h j hj
  exact ⟨ad, e, hc⟩
theorem RV.rvb {w : World} {A : Option Addr} {xs : List Value} (h : RV w A xs) : RVb w (· < w.heap.size) A xs := fun j hj => by
  obtain ⟨ad, e, hc⟩ := h j hj
  exact ⟨ad, e, by have := World.block_lt_of_cell? w _ hc; rwa [block_of_add] at this, hc⟩
/-- The slice at A reads as these numbers. -/
def RI (w : World) (P : Nat → Prop) (A : Option Addr) (l : List Int) : Prop := RVb w P A (l.map (Value.int .i64))
/-- Values, one stretch an element. -/
def RowsOf {α : Type} (R : α → List Value → Prop) : List α → List Value → Prop
  | [], vs => vs = []
  | a :: l, vs => ∃ x y, vs = x ++ y ∧ R a x ∧ RowsOf R l y
theorem RowsOf.mono {α : Type} {R R' : α → List Value → Prop} (h : ∀ a x, R a x → R' a x) : ∀ {l : List α} {vs : List Value}, RowsOf R l vs → RowsOf R' l vs
  | [], _, hr => hr
  | _ :: _, _, ⟨x, y, e, h1, h2⟩ => ⟨x, y, e, h _ _ h1, h2.mono h⟩
theorem RowsOf.length {α : Type} {R : α → List Value → Prop} {n : Nat} (hn : ∀ a x, R a x → x.length = n) : ∀ {l : List α} {vs : List Value}, RowsOf R l vs → vs.length = l.length * n
  | [], _, hr => by rw [show _ = [] from hr]; simp
  | _ :: l, _, ⟨x, y, e, h1, h2⟩ => by
    rw [e, List.length_append, hn _ _ h1, h2.length hn, List.length_cons, Nat.add_mul]; omega
theorem RowsOf.get {α : Type} {R : α → List Value → Prop} {n : Nat} (hn : ∀ a x, R a x → x.length = n) : ∀ {l : List α} {vs : List Value}, RowsOf R l vs → ∀ k (hk : k < l.length),
    ∃ x, R l[k] x ∧ ∀ i, i < n → vs[k * n + i]? = x[i]?
  | a :: l, _, ⟨x, y, e, h1, h2⟩, k, hk => by
    subst e
    cases k with
    | zero => exact ⟨x, h1, fun i hi => by rw [Nat.zero_mul, Nat.zero_add, List.getElem?_append_left (by rw [hn _ _ h1]; exact hi)]⟩
    | succ k =>
      obtain ⟨x', h', g⟩ := h2.get hn k (by simpa using hk)
      refine ⟨x', h', fun i hi => ?_⟩
      rw [← g i hi, List.getElem?_append_right (by rw [hn _ _ h1, Nat.add_mul]; omega), hn _ _ h1]
      congr 1
      rw [Nat.add_mul]; omega
theorem RowsOf.append {α : Type} {R : α → List Value → Prop} : ∀ {l m : List α} {xs ys : List Value}, RowsOf R l xs → RowsOf R m ys → RowsOf R (l ++ m) (xs ++ ys)
  | [], _, _, _, h, h' => by rw [show _ = [] from h]; exact h'
  | _ :: _, _, _, _, ⟨x, y, e, h1, h2⟩, h' => ⟨x, y ++ _, by rw [e, List.append_assoc], h1, h2.append h'⟩
def StripeVal (w : World) (P : Nat → Prop) (s : PStripe) (vs : List Value) : Prop :=
  ∃ A c, vs = [.int .i64 s.id, .int .i64 s.epoch, .slice A s.locs.length c] ∧ s.locs.length ≤ c ∧ RI w P A s.locs
def RStripes (w : World) (P : Nat → Prop) (A : Option Addr) (l : List PStripe) : Prop := ∃ vs, RowsOf (StripeVal w P) l vs ∧ RVb w P A vs
def ObjVal (w : World) (P : Nat → Prop) (o : PObj) (vs : List Value) : Prop :=
  ∃ A c, vs = [sv o.key, .int .i64 o.id, .int .i64 o.size, .slice A o.stripes.length c] ∧ o.stripes.length ≤ c ∧ RStripes w P A o.stripes
def RObjs (w : World) (P : Nat → Prop) (A : Option Addr) (l : List PObj) : Prop := ∃ vs, RowsOf (ObjVal w P) l vs ∧ RVb w P A vs
def RecVal (w : World) (P : Nat → Prop) (r : PRec) (vs : List Value) : Prop :=
  ∃ A c A2 d A3 e, vs = [.int .i64 r.kind, .int .i64 r.id, .int .i64 r.size, sv r.key, .slice A r.stripes.length c, .slice A2 r.objects.length d, .slice A3 r.drives.length e] ∧
    r.stripes.length ≤ c ∧ r.objects.length ≤ d ∧ r.drives.length ≤ e ∧ RStripes w P A r.stripes ∧ RObjs w P A2 r.objects ∧ RI w P A3 r.drives
def RRecs (w : World) (P : Nat → Prop) (A : Option Addr) (l : List PRec) : Prop := ∃ vs, RowsOf (RecVal w P) l vs ∧ RVb w P A vs
section
variable {w w' : World} {P : Nat → Prop}
theorem RI.keep {A : Option Addr} {l : List Int} (h : RI w P A l) (hk : ∀ k, k < w.heap.size → P k → w'.heap[k]? = w.heap[k]?) : RI w' P A l := RVb.keep h hk
theorem RI.imp {A : Option Addr} {l : List Int} {P' : Nat → Prop} (h : RI w P A l) (hP : ∀ k, k < w.heap.size → P k → P' k) : RI w P' A l := RVb.imp h hP
theorem StripeVal.keep {s : PStripe} {vs : List Value} (h : StripeVal w P s vs) (hk : ∀ k, k < w.heap.size → P k → w'.heap[k]? = w.heap[k]?) : StripeVal w' P s vs := by
  obtain ⟨A, c, e, h1, h2⟩ := h
  exact ⟨A, c, e, h1, h2.keep hk⟩
theorem StripeVal.imp {s : PStripe} {vs : List Value} {P' : Nat → Prop} (h : StripeVal w P s vs) (hP : ∀ k, k < w.heap.size → P k → P' k) : StripeVal w P' s vs := by
  obtain ⟨A, c, e, h1, h2⟩ := h
  exact ⟨A, c, e, h1, h2.imp hP⟩
theorem RStripes.keep {A : Option Addr} {l : List PStripe} (h : RStripes w P A l) (hk : ∀ k, k < w.heap.size → P k → w'.heap[k]? = w.heap[k]?) : RStripes w' P A l := by
  obtain ⟨vs, h1, h2⟩ := h
  exact ⟨vs, h1.mono fun _ _ h => h.keep hk, h2.keep hk⟩
theorem RStripes.imp {A : Option Addr} {l : List PStripe} {P' : Nat → Prop} (h : RStripes w P A l) (hP : ∀ k, k < w.heap.size → P k → P' k) : RStripes w P' A l := by
  obtain ⟨vs, h1, h2⟩ := h
  exact ⟨vs, h1.mono fun _ _ h => h.imp hP, h2.imp hP⟩
theorem ObjVal.keep {s : PObj} {vs : List Value} (h : ObjVal w P s vs) (hk : ∀ k, k < w.heap.size → P k → w'.heap[k]? = w.heap[k]?) : ObjVal w' P s vs := by
  obtain ⟨A, c, e, h1, h2⟩ := h
  exact ⟨A, c, e, h1, h2.keep hk⟩
theorem ObjVal.imp {s : PObj} {vs : List Value} {P' : Nat → Prop} (h : ObjVal w P s vs) (hP : ∀ k, k < w.heap.size → P k → P' k) : ObjVal w P' s vs := by
  obtain ⟨A, c, e, h1, h2⟩ := h
  exact ⟨A, c, e, h1, h2.imp hP⟩
theorem RObjs.keep {A : Option Addr} {l : List PObj} (h : RObjs w P A l) (hk : ∀ k, k < w.heap.size → P k → w'.heap[k]? = w.heap[k]?) : RObjs w' P A l := by
  obtain ⟨vs, h1, h2⟩ := h
  exact ⟨vs, h1.mono fun _ _ h => h.keep hk, h2.keep hk⟩
theorem RObjs.imp {A : Option Addr} {l : List PObj} {P' : Nat → Prop} (h : RObjs w P A l) (hP : ∀ k, k < w.heap.size → P k → P' k) : RObjs w P' A l := by
  obtain ⟨vs, h1, h2⟩ := h
  exact ⟨vs, h1.mono fun _ _ h => h.imp hP, h2.imp hP⟩
theorem RecVal.keep {r : PRec} {vs : List Value} (h : RecVal w P r vs) (hk : ∀ k, k < w.heap.size → P k → w'.heap[k]? = w.heap[k]?) : RecVal w' P r vs := by
  obtain ⟨A, c, A2, d, A3, e, h0, h1, h2, h3, h4, h5, h6⟩ := h
  exact ⟨A, c, A2, d, A3, e, h0, h1, h2, h3, h4.keep hk, h5.keep hk, h6.keep hk⟩
theorem RecVal.imp {r : PRec} {vs : List Value} {P' : Nat → Prop} (h : RecVal w P r vs) (hP : ∀ k, k < w.heap.size → P k → P' k) : RecVal w P' r vs := by
  obtain ⟨A, c, A2, d, A3, e, h0, h1, h2, h3, h4, h5, h6⟩ := h
  exact ⟨A, c, A2, d, A3, e, h0, h1, h2, h3, h4.imp hP, h5.imp hP, h6.imp hP⟩
theorem RRecs.keep {A : Option Addr} {l : List PRec} (h : RRecs w P A l) (hk : ∀ k, k < w.heap.size → P k → w'.heap[k]? = w.heap[k]?) : RRecs w' P A l := by
  obtain ⟨vs, h1, h2⟩ := h
  exact ⟨vs, h1.mono fun _ _ h => h.keep hk, h2.keep hk⟩
theorem RRecs.imp {A : Option Addr} {l : List PRec} {P' : Nat → Prop} (h : RRecs w P A l) (hP : ∀ k, k < w.heap.size → P k → P' k) : RRecs w P' A l := by
  obtain ⟨vs, h1, h2⟩ := h
  exact ⟨vs, h1.mono fun _ _ h => h.imp hP, h2.imp hP⟩
end
section
variable {w w' : World} {B : Nat}
theorem RI.below {A : Option Addr} {l : List Int} (h : RI w (· < B) A l) (hb : Below B w w') : RI w' (· < B) A l := h.keep fun k _ hk => hb.block k hk
theorem RStripes.below {A : Option Addr} {l : List PStripe} (h : RStripes w (· < B) A l) (hb : Below B w w') : RStripes w' (· < B) A l := h.keep fun k _ hk => hb.block k hk
theorem RObjs.below {A : Option Addr} {l : List PObj} (h : RObjs w (· < B) A l) (hb : Below B w w') : RObjs w' (· < B) A l := h.keep fun k _ hk => hb.block k hk
theorem RecVal.below {r : PRec} {vs : List Value} (h : RecVal w (· < B) r vs) (hb : Below B w w') : RecVal w' (· < B) r vs := h.keep fun k _ hk => hb.block k hk
theorem RRecs.below {A : Option Addr} {l : List PRec} (h : RRecs w (· < B) A l) (hb : Below B w w') : RRecs w' (· < B) A l := h.keep fun k _ hk => hb.block k hk
end
/-- Block k is a row of elements of one of these types. -/
def InT (w : World) (ts : List TypeId) (k : Nat) : Prop := ∃ cs t m, w.heap[k]? = some (.cells cs t m) ∧ t ∈ ts
/-- No row of these types has turned. -/
def SameT (ts : List TypeId) (w w' : World) : Prop := ∀ k, InT w ts k → w'.heap[k]? = w.heap[k]?
section
variable {w w' : World} {ts : List TypeId}
theorem InT.lt {k : Nat} (h : InT w ts k) : k < w.heap.size := by
  obtain ⟨cs, t, m, e, _⟩ := h
  exact (Array.getElem?_eq_some_iff.1 e).1
theorem InT.imp {k : Nat} {ts' : List TypeId} (h : InT w ts k) (hs : ∀ t ∈ ts, t ∈ ts') : InT w ts' k := by
  obtain ⟨cs, t, m, e, ht⟩ := h
  exact ⟨cs, t, m, e, hs t ht⟩
theorem SameT.inT (h : SameT ts w w') {k : Nat} (hk : InT w ts k) : InT w' ts k := by
  obtain ⟨cs, t, m, e, ht⟩ := hk
  exact ⟨cs, t, m, (h k ⟨cs, t, m, e, ht⟩).trans e, ht⟩
theorem SameT.refl (ts : List TypeId) (w : World) : SameT ts w w := fun _ _ => rfl
theorem SameT.trans {w2 : World} (h : SameT ts w w') (k : SameT ts w' w2) : SameT ts w w2 := fun i hi => (k i (h.inT hi)).trans (h i hi)
theorem SameT.of_below (h : Below w.heap.size w w') : SameT ts w w' := fun k hk => h.block k hk.lt
theorem SameT.alloc (ts : List TypeId) (w : World) (o : Obj) : SameT ts w (w.alloc o) := .of_below ((Below.refl _ w).alloc (Nat.le_refl _) _)
theorem SameT.of_grown {row : Option Nat} (h : w.grownBy w' row) (hr : ∀ k, row = some k → ¬ InT w ts k) : SameT ts w w' := fun k hk => h.block k hk.lt (fun e => hr k e.symm hk)
theorem SameT.sub {ts' : List TypeId} (h : SameT ts w w') (hs : ∀ t ∈ ts', t ∈ ts) : SameT ts' w w' := fun k hk => h k (hk.imp hs)
theorem not_inT {g : Nat} {cs : Array Value} {t : TypeId} {m : Nat × Nat} (h : w.heap[g]? = some (.cells cs t m)) (ht : t ∉ ts) : ¬ InT w ts g := by
  rintro ⟨cs', t', m', e, ht'⟩
  rw [h] at e
  injection e with e
  injection e with _ e _
  exact ht (e ▸ ht')
theorem RI.same {A : Option Addr} {l : List Int} (h : RI w (InT w ts) A l) (hs : SameT ts w w') : RI w' (InT w' ts) A l := (h.keep fun k _ hk => hs k hk).imp fun _ _ hk => hs.inT hk
theorem StripeVal.same {s : PStripe} {vs : List Value} (h : StripeVal w (InT w ts) s vs) (hs : SameT ts w w') : StripeVal w' (InT w' ts) s vs := (h.keep fun k _ hk => hs k hk).imp fun _ _ hk => hs.inT hk
theorem RStripes.same {A : Option Addr} {l : List PStripe} (h : RStripes w (InT w ts) A l) (hs : SameT ts w w') : RStripes w' (InT w' ts) A l := (h.keep fun k _ hk => hs k hk).imp fun _ _ hk => hs.inT hk
theorem ObjVal.same {s : PObj} {vs : List Value} (h : ObjVal w (InT w ts) s vs) (hs : SameT ts w w') : ObjVal w' (InT w' ts) s vs := (h.keep fun k _ hk => hs k hk).imp fun _ _ hk => hs.inT hk
theorem RObjs.same {A : Option Addr} {l : List PObj} (h : RObjs w (InT w ts) A l) (hs : SameT ts w w') : RObjs w' (InT w' ts) A l := (h.keep fun k _ hk => hs k hk).imp fun _ _ hk => hs.inT hk
theorem RecVal.same {r : PRec} {vs : List Value} (h : RecVal w (InT w ts) r vs) (hs : SameT ts w w') : RecVal w' (InT w' ts) r vs := (h.keep fun k _ hk => hs k hk).imp fun _ _ hk => hs.inT hk
theorem RRecs.same {A : Option Addr} {l : List PRec} (h : RRecs w (InT w ts) A l) (hs : SameT ts w w') : RRecs w' (InT w' ts) A l := (h.keep fun k _ hk => hs k hk).imp fun _ _ hk => hs.inT hk
theorem rvb_of_own {base : Nat} {e : TypeId} {size n c : Nat} {A : Option Addr} {vs : List Value} (h : w.ownsRow base e size (.slice A n c) n vs) : RVb w (InT w [e]) A vs := by
  intro j hj
  rcases h.2 with ⟨h0, hn⟩ | ⟨g, cap, cur, hv, _, hg, _⟩
  · have : vs.length = 0 := by rw [h.1, hn, Nat.zero_mul]
    omega
  · injection hv with hA
    subst hA
    exact ⟨_, rfl, ⟨cur, e, (0, 0), hg, by simp⟩, h.cells (g := g) rfl j _ (List.getElem?_eq_getElem hj)⟩
end
section
variable {w w' : World} {P : Nat → Prop}
theorem RI.at_ {A : Option Addr} {l : List Int} (h : RI w P A l) {k : Nat} (hk : k < l.length) : ∃ ad, A = some ad ∧ w.cell? (ad.add k) = some (.int .i64 l[k]) := by
  obtain ⟨ad, e, _, hc⟩ := h k (by simpa using hk)
  exact ⟨ad, e, by rw [hc]; simp⟩
theorem RVb.some_at {A : Option Addr} {vs : List Value} (h : RVb w P A vs) {ad : Addr} (hA : A = some ad) {j : Nat} {u : Value} (hu : vs[j]? = some u) : w.cell? (ad.add j) = some u := by
  obtain ⟨hj, rfl⟩ := List.getElem?_eq_some_iff.1 hu
  obtain ⟨ad', e, _, hc⟩ := h j hj
  rw [hA] at e
  injection e with e
  subst e
  exact hc
theorem add_lit_of {w : World} {ad : Addr} {n i : Nat} {o : Option Value} (h : w.cell? (ad.add (n + (i + 1))) = o) : w.cell? ⟨(ad.add n).block, (ad.add n).off + (i + 1), none⟩ = o := by
  rw [← h, ← add_of_add]
  rfl
theorem RStripes.at_ {A : Option Addr} {l : List PStripe} (h : RStripes w P A l) {k : Nat} (hk : k < l.length) :
    ∃ ad C c, A = some ad ∧ w.cell? (ad.add (k * 3)) = some (.int .i64 l[k].id) ∧ w.cell? ⟨(ad.add (k * 3)).block, (ad.add (k * 3)).off + 1, none⟩ = some (.int .i64 l[k].epoch) ∧
      w.cell? ⟨(ad.add (k * 3)).block, (ad.add (k * 3)).off + 2, none⟩ = some (.slice C l[k].locs.length c) ∧ l[k].locs.length ≤ c ∧ RI w P C l[k].locs := by
  obtain ⟨vs, h1, h2⟩ := h
  have hn : ∀ a x, StripeVal w P a x → x.length = 3 := by rintro a x ⟨_, _, rfl, _⟩; rfl
  obtain ⟨x, ⟨C, c, rfl, hl, hr⟩, hg⟩ := h1.get hn k hk
  have g0 := hg 0 (by omega)
  have g1 := hg 1 (by omega)
  have g2 := hg 2 (by omega)
  obtain ⟨ad, hA, _⟩ := h2 (k * 3 + 0) (List.getElem?_eq_some_iff.1 g0).1
  exact ⟨ad, C, c, hA, h2.some_at hA g0, add_lit_of (h2.some_at hA g1), add_lit_of (h2.some_at hA g2), hl, hr⟩
theorem RObjs.at_ {A : Option Addr} {l : List PObj} (h : RObjs w P A l) {k : Nat} (hk : k < l.length) :
    ∃ ad C c, A = some ad ∧ w.cell? (ad.add (k * 4)) = some (sv l[k].key) ∧ w.cell? ⟨(ad.add (k * 4)).block, (ad.add (k * 4)).off + 1, none⟩ = some (.int .i64 l[k].id) ∧ w.cell? ⟨(ad.add (k * 4)).block, (ad.add (k * 4)).off + 2, none⟩ = some (.int .i64 l[k].size) ∧
      w.cell? ⟨(ad.add (k * 4)).block, (ad.add (k * 4)).off + 3, none⟩ = some (.slice C l[k].stripes.length c) ∧ l[k].stripes.length ≤ c ∧ RStripes w P C l[k].stripes := by
  obtain ⟨vs, h1, h2⟩ := h
  have hn : ∀ a x, ObjVal w P a x → x.length = 4 := by rintro a x ⟨_, _, rfl, _⟩; rfl
  obtain ⟨x, ⟨C, c, rfl, hl, hr⟩, hg⟩ := h1.get hn k hk
  have g0 := hg 0 (by omega)
  have g1 := hg 1 (by omega)
  have g2 := hg 2 (by omega)
  have g3 := hg 3 (by omega)
  obtain ⟨ad, hA, _⟩ := h2 (k * 4 + 0) (List.getElem?_eq_some_iff.1 g0).1
  exact ⟨ad, C, c, hA, h2.some_at hA g0, add_lit_of (h2.some_at hA g1), add_lit_of (h2.some_at hA g2), add_lit_of (h2.some_at hA g3), hl, hr⟩
end
end Go.Proofs.Ytmleldgohfcdbaa
