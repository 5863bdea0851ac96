/- rec.Decode: the record of bytes. -/
import Derived.Test.YtmleldgohfcdbaaRecRows
import Derived.Test.YtmleldgohfcdbaaEncode
namespace Go.Proofs.Ytmleldgohfcdbaa
set_option linter.unusedVariables false
set_option linter.unusedSimpArgs false
open Go.RowKit
theorem rnum_byte (s : RS) : (rnum 1 s).1 < 256 := by
  have h1 := ofBe_small (rtake 1 s).1
  have h2 := rtake_len 1 s
  have h3 : (256 : Nat) ^ (rtake 1 s).1.length ≤ 256 ^ 1 := Nat.pow_le_pow_right (by omega) (by omega)
  have h4 : (256 : Nat) ^ 1 = 256 := by decide
  show ((ofBe (rtake 1 s).1 : Nat) : Int) < 256
  omega
theorem rrow_len1 {α : Type} (one : RS → α × RS) (s : RS) : (rrow one 1 s).1.length ≤ 255 := by
  have h1 := rloop_len one (rnum 1 s).1.toNat (rnum 1 s).2
  have h2 := rnum_byte s
  show (rloop one (rnum 1 s).1.toNat (rnum 1 s).2).1.length ≤ 255
  omega
theorem rrow_len2 {α : Type} (one : RS → α × RS) (s : RS) : (rrow one 2 s).1.length ≤ 65535 := by
  have h1 := rloop_len one (rnum 2 s).1.toNat (rnum 2 s).2
  have h2 := rnum_row 2 s (by omega)
  show (rloop one (rnum 2 s).1.toNat (rnum 2 s).2).1.length ≤ 65535
  omega
theorem rloop_all {α : Type} (one : RS → α × RS) (P : α → Prop) (h : ∀ s, P (one s).1) (n : Nat) : ∀ s, ∀ a ∈ (rloop one n s).1, P a := by
  induction n with
  | zero => intro s a ha; simp [rloop] at ha
  | succ n ih =>
    intro s a ha
    unfold rloop at ha
    split at ha
    · simp at ha
    · rcases List.mem_cons.1 ha with rfl | ha
      · exact h s
      · exact ih _ a ha
theorem rrow_all {α : Type} (one : RS → α × RS) (P : α → Prop) (h : ∀ s, P (one s).1) (n : Nat) (s : RS) : ∀ a ∈ (rrow one n s).1, P a := rloop_all one P h _ _
theorem flat_len {α β : Type} (f : α → List β) (M : Nat) : ∀ (l : List α), (∀ a ∈ l, (f a).length ≤ M) → (l.flatMap f).length ≤ l.length * M
  | [], _ => by simp
  | a :: l, h => by
    have h1 := h a (by simp)
    have h2 := flat_len f M l fun b hb => h b (by simp [hb])
    rw [List.flatMap_cons, List.length_append, List.length_cons, Nat.add_mul]
    omega
theorem encInts_len (l : List Int) (h : l.length ≤ 255) : (encInts l).length ≤ 1021 := by
  have := flat_len encW 4 l fun a _ => by unfold encW; rw [be_length]; omega
  unfold encInts
  rw [List.length_append, be_length]
  omega
theorem encStripe_len (s : PStripe) (h : s.locs.length ≤ 255) : (encStripe s).length ≤ 2000 := by
  have := encInts_len s.locs h
  unfold encStripe encW
  simp only [List.length_append, be_length]
  omega
theorem encStripes_len (l : List PStripe) (h : l.length ≤ 255) (hs : ∀ s ∈ l, s.locs.length ≤ 255) : (encStripes l).length ≤ 520000 := by
  have := flat_len encStripe 2000 l fun a ha => encStripe_len a (hs a ha)
  unfold encStripes
  rw [List.length_append, be_length]
  omega
theorem rkey_len (s : RS) : (rkey s).1.length ≤ 255 := by
  have h1 := rtake_len (rnum 1 s).1.toNat (rnum 1 s).2
  have h2 := rnum_byte s
  show (rtake (rnum 1 s).1.toNat (rnum 1 s).2).1.length ≤ 255
  omega
def OkObj (o : PObj) : Prop := o.key.length ≤ 255 ∧ o.stripes.length ≤ 255 ∧ ∀ s ∈ o.stripes, s.locs.length ≤ 255
theorem rstripe_ok (s : RS) : (rstripe s).1.locs.length ≤ 255 := rrow_len1 _ _
theorem robj_ok (s : RS) : OkObj (robj s).1 := ⟨rkey_len s, rrow_len1 _ _, rrow_all rstripe (fun a => a.locs.length ≤ 255) rstripe_ok 1 _⟩
theorem encObj_len (o : PObj) (h : OkObj o) : (encObj o).length ≤ 530000 := by
  obtain ⟨h1, h2, h3⟩ := h
  have := encStripes_len o.stripes h2 h3
  unfold encObj encW encKey
  simp only [List.length_append, be_length]
  omega
def OkRec (r : PRec) : Prop := r.key.length ≤ 255 ∧ r.stripes.length ≤ 255 ∧ (∀ s ∈ r.stripes, s.locs.length ≤ 255) ∧ r.objects.length ≤ 65535 ∧ (∀ o ∈ r.objects, OkObj o) ∧ r.drives.length ≤ 255
theorem rrec_ok (s : RS) : OkRec (rrec s).1 :=
  ⟨rkey_len _, rrow_len1 _ _, rrow_all rstripe (fun a => a.locs.length ≤ 255) rstripe_ok 1 _, rrow_len2 _ _, rrow_all robj OkObj robj_ok 2 _, rrow_len1 _ _⟩
theorem OkRec.room {r : PRec} (h : OkRec r) : Room r := by
  obtain ⟨h1, h2, h3, h4, h5, h6⟩ := h
  have e1 := encStripes_len r.stripes h2 h3
  have e2 := flat_len encObj 530000 r.objects fun a ha => encObj_len a (h5 a ha)
  have e3 := encInts_len r.drives h6
  refine ⟨by omega, fun s hs => by have := h3 s hs; omega, by omega, fun o ho => ?_, by omega, ?_⟩
  · obtain ⟨_, h7, h8⟩ := h5 o ho
    exact ⟨by omega, fun s hs => by have := h8 s hs; omega⟩
  · unfold encRec encW encKey
    simp only [List.length_append, be_length]
    omega
theorem encode_any (w : World) (r : PRec) (hroom : Room r) (vs : List Value) (h : RecVal w (· < w.heap.size) r vs) :
    Calls Try.prog 68 #[.agg vs.toArray] w (EncPost w r) := by
  obtain ⟨A, c, A2, d, A3, e, rfl, h1, h2, h3, h4, h5, h6⟩ := h
  by_cases hb : badNum r.kind 5 = true
  · exact encode_aux w r hroom A A2 A3 c d e h4 h5 h6 true (.inl ⟨hb, rfl⟩)
  · have hb' : badNum r.kind 5 = false := by simpa using hb
    by_cases hk : r.kind < 1
    · exact encode_aux w r hroom A A2 A3 c d e h4 h5 h6 true (.inr (.inl ⟨hb', hk, rfl⟩))
    · exact encode_aux w r hroom A A2 A3 c d e h4 h5 h6 false (.inr (.inr ⟨hb', by omega, rfl⟩))
def decode (b : List UInt8) : Option PRec :=
  if (rrec ⟨b, false⟩).2.bad = true ∨ badRec (rrec ⟨b, false⟩).1 = true ∨ 8192 < (encRec (rrec ⟨b, false⟩).1).length ∨ (encRec (rrec ⟨b, false⟩).1 == b) = false then none else some (rrec ⟨b, false⟩).1
def zeroRec : Value := .agg #[.int .i64 0, .int .i64 0, .int .i64 0, .string ⟨#[]⟩, .slice none 0 0, .slice none 0 0, .slice none 0 0]
/-- The types of the rows that a record has. -/
def recTs : List TypeId := [3, 78, 80]
/-- A record's value, in rows of these types. -/
def RRec (w : World) (r : PRec) (vs : List Value) : Prop := RecVal w (InT w recTs) r vs
theorem RRec.same {w w' : World} {a : PRec} {vs : List Value} (h : RRec w a vs) (hs : SameT recTs w w') : RRec w' a vs := RecVal.same h hs
def DecPost (w : World) (b : List UInt8) (e : Ending) (w' : World) : Prop :=
  Below w.heap.size w w' ∧
  match decode b with
  | none => e = .returned (.tuple #[zeroRec, .int .i64 2])
  | some r => ∃ vs, e = .returned (.tuple #[.agg vs.toArray, .int .i64 0]) ∧ RRec w' r vs
theorem below_of_sets {w w' : World} {b : Nat} (h : w.grownBy w' (some b)) (hb : b < w.heap.size) : Below b w w' := ⟨h.os, h.tape, h.output, h.size, fun k hk => h.block k (by omega) (by simp; omega)⟩
theorem decode_eq {b : List UInt8} {r : PRec} {s : RS} (h : rrec ⟨b, false⟩ = (r, s)) : decode b = if s.bad = true ∨ badRec r = true ∨ 8192 < (encRec r).length ∨ (encRec r == b) = false then none else some r := by unfold decode; rw [h]
set_option maxRecDepth 100000 in
set_option maxHeartbeats 1000000 in
theorem decode_any (B : Option Addr) (c0 : Nat) (w : World) (b : List UInt8) (hbc : b.length ≤ c0) (hr : RB w B b) :
    Calls Try.prog 62 #[.slice B b.length c0] w (DecPost w b) := by
  obtain ⟨w1, hw1⟩ : ∃ w1, w.alloc (.cells #[.int .i64 0, .int .i64 0, .int .i64 0, .string ⟨#[]⟩, .slice none 0 0, .slice none 0 0, .slice none 0 0] 51) = w1 := ⟨_, rfl⟩
  have hs1 : w1.heap.size = w.heap.size + 1 := by rw [← hw1]; simp
  have hb1 : w1.heap[w.heap.size]? = some (.cells #[.int .i64 0, .int .i64 0, .int .i64 0, .string ⟨#[]⟩, .slice none 0 0, .slice none 0 0, .slice none 0 0] 51 (0, 0)) := hw1 ▸ heap_alloc_new w _
  have hB1 : Below w.heap.size w w1 := hw1 ▸ (Below.refl _ w).alloc (Nat.le_refl _) _
  obtain ⟨w2, hw2⟩ : ∃ w2, w1.alloc (.cells #[.slice B b.length c0, .bool false] 109) = w2 := ⟨_, rfl⟩
  obtain ⟨g, hg⟩ : ∃ g, w.heap.size + 1 = g := ⟨_, rfl⟩
  have hb2 : w2.heap[w.heap.size]? = some (.cells #[.int .i64 0, .int .i64 0, .int .i64 0, .string ⟨#[]⟩, .slice none 0 0, .slice none 0 0, .slice none 0 0] 51 (0, 0)) := hw2 ▸ (Below.heap_alloc w1 _ _ (by omega)).trans hb1
  have hB2 : Below w.heap.size w w2 := hw2 ▸ hB1.alloc (by omega) _
  have hr2 : Reader w2 g ⟨b, false⟩ := by
    refine ⟨B, c0, by rw [← hw2, ← hg, ← hs1]; exact heap_alloc_new w1 _, hbc, ?_⟩
    have h := (hr.rv.rvb.imp (P' := (· < g)) fun k hk _ => by show k < g; omega)
    exact h.keep fun k hk _ => hB2.block k hk
  have hgw : w.heap.size < g := by omega
  have h0 := rnum_any w2 g _ hr2 1 (by omega)
  have h1 := fun w' (h : Reader w' g (rnum 1 ⟨b, false⟩).2) => rword_any w' g _ h
  have h2 := fun w' (h : Reader w' g (rnum 4 (rnum 1 ⟨b, false⟩).2).2) => rword_any w' g _ h
  have h3 := fun w' (h : Reader w' g (rnum 4 (rnum 4 (rnum 1 ⟨b, false⟩).2).2).2) => rkey_any w' g _ h
  have h4 := fun w' (h : Reader w' g (rkey (rnum 4 (rnum 4 (rnum 1 ⟨b, false⟩).2).2).2).2) => rowStripe_any w' g _ h 1 (by omega)
  have h5 := fun w' (h : Reader w' g (rrow rstripe 1 (rkey (rnum 4 (rnum 4 (rnum 1 ⟨b, false⟩).2).2).2).2).2) => rowObj_any w' g _ h 2 (by omega)
  have h6 := fun w' (h : Reader w' g (rrow robj 2 (rrow rstripe 1 (rkey (rnum 4 (rnum 4 (rnum 1 ⟨b, false⟩).2).2).2).2).2).2) => rowInt_any w' g _ h 1 (by omega)
  have hok := rrec_ok ⟨b, false⟩
  have hrr : rrec ⟨b, false⟩ = (⟨(rnum 1 ⟨b, false⟩).1, (rnum 4 (rnum 1 ⟨b, false⟩).2).1, (rnum 4 (rnum 4 (rnum 1 ⟨b, false⟩).2).2).1, (rkey (rnum 4 (rnum 4 (rnum 1 ⟨b, false⟩).2).2).2).1, (rrow rstripe 1 (rkey (rnum 4 (rnum 4 (rnum 1 ⟨b, false⟩).2).2).2).2).1, (rrow robj 2 (rrow rstripe 1 (rkey (rnum 4 (rnum 4 (rnum 1 ⟨b, false⟩).2).2).2).2).2).1, (rrow (rnum 4) 1 (rrow robj 2 (rrow rstripe 1 (rkey (rnum 4 (rnum 4 (rnum 1 ⟨b, false⟩).2).2).2).2).2).2).1⟩, (rrow (rnum 4) 1 (rrow robj 2 (rrow rstripe 1 (rkey (rnum 4 (rnum 4 (rnum 1 ⟨b, false⟩).2).2).2).2).2).2).2) := rfl
  rw [hrr] at hok
  generalize (rrow (rnum 4) 1 (rrow robj 2 (rrow rstripe 1 (rkey (rnum 4 (rnum 4 (rnum 1 ⟨b, false⟩).2).2).2).2).2).2).1 = ld at h6 hok hrr
  generalize (rrow (rnum 4) 1 (rrow robj 2 (rrow rstripe 1 (rkey (rnum 4 (rnum 4 (rnum 1 ⟨b, false⟩).2).2).2).2).2).2).2 = s7 at h6 hok hrr
  generalize (rrow robj 2 (rrow rstripe 1 (rkey (rnum 4 (rnum 4 (rnum 1 ⟨b, false⟩).2).2).2).2).2).1 = lo at h5 hok hrr
  generalize (rrow robj 2 (rrow rstripe 1 (rkey (rnum 4 (rnum 4 (rnum 1 ⟨b, false⟩).2).2).2).2).2).2 = s6 at h5 h6 hok hrr
  generalize (rrow rstripe 1 (rkey (rnum 4 (rnum 4 (rnum 1 ⟨b, false⟩).2).2).2).2).1 = ls at h4 hok hrr
  generalize (rrow rstripe 1 (rkey (rnum 4 (rnum 4 (rnum 1 ⟨b, false⟩).2).2).2).2).2 = s5 at h4 h5 hok hrr
  generalize (rkey (rnum 4 (rnum 4 (rnum 1 ⟨b, false⟩).2).2).2).1 = key at h3 hok hrr
  generalize (rkey (rnum 4 (rnum 4 (rnum 1 ⟨b, false⟩).2).2).2).2 = s4 at h3 h4 hok hrr
  generalize (rnum 4 (rnum 4 (rnum 1 ⟨b, false⟩).2).2).1 = sz at h2 hok hrr
  generalize (rnum 4 (rnum 4 (rnum 1 ⟨b, false⟩).2).2).2 = s3 at h2 h3 hok hrr
  generalize (rnum 4 (rnum 1 ⟨b, false⟩).2).1 = id at h1 hok hrr
  generalize (rnum 4 (rnum 1 ⟨b, false⟩).2).2 = s2 at h1 h2 hok hrr
  generalize (rnum 1 ⟨b, false⟩).1 = kd at h0 hok hrr
  generalize (rnum 1 ⟨b, false⟩).2 = s1 at h0 h1 hok hrr
  obtain ⟨kv, hkv⟩ : ∃ kv, sv key = .string kv := ⟨_, rfl⟩
  have hroom := hok.room
  have hdec := decode_eq hrr
  obtain ⟨r, hrec⟩ : ∃ r : PRec, r = ⟨kd, id, sz, key, ls, lo, ld⟩ := ⟨_, rfl⟩
  rw [← hrec] at hdec hroom
  clear hok hrr
  have H0 := Lib.hid h0; clear h0
  have H1 := Lib.hid h1; clear h1
  have H2 := Lib.hid h2; clear h2
  have H3 := Lib.hid h3; clear h3
  have H4 := Lib.hid h4; clear h4
  have H5 := Lib.hid h5; clear h5
  have H6 := Lib.hid h6; clear h6
  have Hw1 := Lib.hid hw1; have Hw2 := Lib.hid hw2; have Hg := Lib.hid hg; have Hdec := Lib.hid hdec; have Hroom := Lib.hid hroom; have Hs1 := Lib.hid hs1; have Hrec := Lib.hid hrec
  clear hw1 hw2 hdec hroom hs1 hg hrec
  go_enter Try.func62, Try.ntmps62
  go_wp2_with fail
  rw [Hw1.out]
  go_wp2_with fail
  rw [Hw2.out, Hg.out]
  go_wp2_with fail
  refine H0.out.mono ?_
  rintro e w3 ⟨rfl, hr3, hg3⟩
  go_wp2_with fail
  refine (H1.out w3 hr3).mono ?_
  rintro e w4 ⟨rfl, hr4, hg4⟩
  go_wp2_with fail
  refine (H2.out w4 hr4).mono ?_
  rintro e w5 ⟨rfl, hr5, hg5⟩
  go_wp2_with fail
  refine (H3.out w5 hr5).mono ?_
  rintro e w6 ⟨rfl, hr6, hg6⟩
  go_wp2_with fail
  refine (H4.out w6 hr6).mono ?_
  rintro e w7 ⟨v, vs7, rfl, hown7, hrows7, hr7, hg7⟩
  obtain ⟨A, c, rfl, hlc7⟩ := owns_slice hown7
  go_wp2_with fail
  refine (H5.out w7 hr7).mono ?_
  rintro e w8 ⟨v, vs8, rfl, hown8, hrows8, hr8, hg8⟩
  obtain ⟨A2, c2, rfl, hlc8⟩ := owns_slice hown8
  go_wp2_with fail
  refine (H6.out w8 hr8).mono ?_
  rintro e w9 ⟨v, vs9, rfl, hown9, hrows9, hr9, hg9⟩
  obtain ⟨A3, c3, rfl, hlc9⟩ := owns_slice hown9
  have hg29 := grown_trans (grown_trans (grown_trans (grown_trans (grown_trans (grown_trans hg3 hg4) hg5) hg6) hg7) hg8) hg9
  have hB9 : Below w.heap.size w w9 := hB2.trans ⟨hg29.os, hg29.tape, hg29.output, hg29.size, fun k hk => hg29.block k (by have := hB2.size; omega) (by simp; omega)⟩
  have hb9 : w9.heap[w.heap.size]? = some (.cells #[.int .i64 0, .int .i64 0, .int .i64 0, .string ⟨#[]⟩, .slice none 0 0, .slice none 0 0, .slice none 0 0] 51 (0, 0)) := (hg29.block _ (blk_lt hb2) (by simp; omega)).trans hb2
  have hSS : RStripes w9 (InT w9 recTs) A ls :=
    RStripes.same ⟨vs7, hrows7.mono fun _ _ h => StripeVal.imp h (fun _ _ hk => hk.imp (by decide)), (rvb_of_own hown7).imp (fun _ _ hk => hk.imp (by decide))⟩ ((hr7.sameT hg8 (by decide)).trans (hr8.sameT hg9 (by decide)))
  have hOO : RObjs w9 (InT w9 recTs) A2 lo :=
    RObjs.same ⟨vs8, hrows8.mono fun _ _ h => ObjVal.imp h (fun _ _ hk => hk.imp (by decide)), (rvb_of_own hown8).imp (fun _ _ hk => hk.imp (by decide))⟩ (hr8.sameT hg9 (by decide))
  have hII : RI w9 (InT w9 recTs) A3 ld := by
    rw [rint_of hrows9] at hown9
    exact (rvb_of_own hown9).imp (fun _ _ hk => hk.imp (by decide))
  have hrec9 : RRec w9 r [.int .i64 kd, .int .i64 id, .int .i64 sz, .string kv, .slice A ls.length c, .slice A2 lo.length c2, .slice A3 ld.length c3] := by
    rw [Hrec.out]
    exact ⟨A, c, A2, c2, A3, c3, by rw [hkv], hlc7, hlc8, hlc9, hSS, hOO, hII⟩
  obtain ⟨wa, hwa⟩ : ∃ wa, w9.alloc (.cells #[.int .i64 kd, .int .i64 id, .int .i64 sz, .string kv, .slice A ls.length c, .slice A2 lo.length c2, .slice A3 ld.length c3] 51) = wa := ⟨_, rfl⟩
  have hsa : w9.heap.size < wa.heap.size := by rw [← hwa]; simp
  have hba : wa.heap[w9.heap.size]? = some (.cells #[.int .i64 kd, .int .i64 id, .int .i64 sz, .string kv, .slice A ls.length c, .slice A2 lo.length c2, .slice A3 ld.length c3] 51 (0, 0)) := hwa ▸ heap_alloc_new w9 _
  have hga : w9.grownBy wa none := hwa ▸ World.grownBy_alloc w9 _ none
  have hreca : RRec wa r [.int .i64 kd, .int .i64 id, .int .i64 sz, .string kv, .slice A ls.length c, .slice A2 lo.length c2, .slice A3 ld.length c3] := hrec9.same (hwa ▸ SameT.alloc _ w9 _)
  have hBa : Below w.heap.size w wa := hB9.trans ⟨hga.os, hga.tape, hga.output, hga.size, fun k hk => hga.block k (by have := hB9.size; omega) (by simp)⟩
  have henc := encode_any wa r Hroom.out [.int .i64 kd, .int .i64 id, .int .i64 sz, .string kv, .slice A ls.length c, .slice A2 lo.length c2, .slice A3 ld.length c3] (RecVal.imp hreca fun _ hk _ => hk)
  have Henc := Lib.hid henc; have Hwa := Lib.hid hwa; clear hwa henc
  go_wp2_with fail
  rw [Hwa.out]
  refine Henc.out.mono ?_
  intro e wb hpost
  obtain ⟨hbb, hpost⟩ := hpost
  have hBb : Below w.heap.size w wb := hBa.trans ⟨hbb.os, hbb.tape, hbb.output, hbb.size, fun k hk => hbb.block k (by have := hBa.size; omega)⟩
  have hrb : Reader wb g s7 := (hr9.keep hga (by simp)).keep (grown_of_below hbb none) (by simp)
  have hbb2 : wb.heap[w9.heap.size]? = some (.cells #[.int .i64 kd, .int .i64 id, .int .i64 sz, .string kv, .slice A ls.length c, .slice A2 lo.length c2, .slice A3 ld.length c3] 51 (0, 0)) := (hbb.block _ hsa).trans hba
  have hbo : wb.heap[w.heap.size]? = some (.cells #[.int .i64 0, .int .i64 0, .int .i64 0, .string ⟨#[]⟩, .slice none 0 0, .slice none 0 0, .slice none 0 0] 51 (0, 0)) := (hbb.block _ (Nat.lt_trans (blk_lt hb9) hsa)).trans ((hga.block _ (blk_lt hb9) (by simp)).trans hb9)
  have hrecb : RRec wb r [.int .i64 kd, .int .i64 id, .int .i64 sz, .string kv, .slice A ls.length c, .slice A2 lo.length c2, .slice A3 ld.length c3] := hreca.same (.of_below hbb)
  obtain ⟨AB, cB, hgb, _, _⟩ := hrb
  have g1 : wb.cell? ⟨g, 1, none⟩ = some (.bool s7.bad) := blk_cell hgb 1
  have hRB : RB wb B b := hr.keep fun p hp => hBb.cell hp
  obtain ⟨bd, hbd⟩ : ∃ bd, s7.bad = bd := ⟨_, rfl⟩
  rw [hbd] at g1
  have Hbd := Lib.hid hbd
  clear hbd hgb
  have f0 := blk_free hbo 0
  have f1 := blk_free hbo 1
  have f2 := blk_free hbo 2
  have f3 := blk_free hbo 3
  have f4 := blk_free hbo 4
  have f5 := blk_free hbo 5
  have f6 := blk_free hbo 6
  have d0 : wb.cell? ⟨w.heap.size, 0, none⟩ = some (.int .i64 0) := blk_cell hbo 0
  have d1 : wb.cell? ⟨w.heap.size, 1, none⟩ = some (.int .i64 0) := blk_cell hbo 1
  have d2 : wb.cell? ⟨w.heap.size, 2, none⟩ = some (.int .i64 0) := blk_cell hbo 2
  have d3 : wb.cell? ⟨w.heap.size, 3, none⟩ = some (.string ⟨#[]⟩) := blk_cell hbo 3
  have d4 : wb.cell? ⟨w.heap.size, 4, none⟩ = some (.slice none 0 0) := blk_cell hbo 4
  have d5 : wb.cell? ⟨w.heap.size, 5, none⟩ = some (.slice none 0 0) := blk_cell hbo 5
  have d6 : wb.cell? ⟨w.heap.size, 6, none⟩ = some (.slice none 0 0) := blk_cell hbo 6
  have kz0 := blk_set hbo 0 (.int .i64 0)
  have kz1 := blk_set kz0 1 (.int .i64 0)
  have kz2 := blk_set kz1 2 (.int .i64 0)
  have kz3 := blk_set kz2 3 (.string ⟨#[]⟩)
  have kz4 := blk_set kz3 4 (.slice none 0 0)
  have kz5 := blk_set kz4 5 (.slice none 0 0)
  have kz6 := blk_set kz5 6 (.slice none 0 0)
  have hBz : Below w.heap.size w (((((((wb.setCell ⟨w.heap.size, 0, none⟩ (.int .i64 0)).setCell ⟨w.heap.size, 1, none⟩ (.int .i64 0)).setCell ⟨w.heap.size, 2, none⟩ (.int .i64 0)).setCell ⟨w.heap.size, 3, none⟩ (.string ⟨#[]⟩)).setCell ⟨w.heap.size, 4, none⟩ (.slice none 0 0)).setCell ⟨w.heap.size, 5, none⟩ (.slice none 0 0)).setCell ⟨w.heap.size, 6, none⟩ (.slice none 0 0)) := hBb.trans (below_of_sets (grown_trans (grown_trans (grown_trans (grown_trans (grown_trans (grown_trans (grown_set _ _ _ _) (grown_set _ _ _ _)) (grown_set _ _ _ _)) (grown_set _ _ _ _)) (grown_set _ _ _ _)) (grown_set _ _ _ _)) (grown_set _ _ _ _)) (blk_lt hbo))
  have kv0 := blk_set hbo 0 (.int .i64 kd)
  have kv1 := blk_set kv0 1 (.int .i64 id)
  have kv2 := blk_set kv1 2 (.int .i64 sz)
  have kv3 := blk_set kv2 3 (.string kv)
  have kv4 := blk_set kv3 4 (.slice A ls.length c)
  have kv5 := blk_set kv4 5 (.slice A2 lo.length c2)
  have kv6 := blk_set kv5 6 (.slice A3 ld.length c3)
  have gv : wb.grownBy (((((((wb.setCell ⟨w.heap.size, 0, none⟩ (.int .i64 kd)).setCell ⟨w.heap.size, 1, none⟩ (.int .i64 id)).setCell ⟨w.heap.size, 2, none⟩ (.int .i64 sz)).setCell ⟨w.heap.size, 3, none⟩ (.string kv)).setCell ⟨w.heap.size, 4, none⟩ (.slice A ls.length c)).setCell ⟨w.heap.size, 5, none⟩ (.slice A2 lo.length c2)).setCell ⟨w.heap.size, 6, none⟩ (.slice A3 ld.length c3)) (some w.heap.size) := (grown_trans (grown_trans (grown_trans (grown_trans (grown_trans (grown_trans (grown_set _ _ _ _) (grown_set _ _ _ _)) (grown_set _ _ _ _)) (grown_set _ _ _ _)) (grown_set _ _ _ _)) (grown_set _ _ _ _)) (grown_set _ _ _ _))
  have hBv : Below w.heap.size w (((((((wb.setCell ⟨w.heap.size, 0, none⟩ (.int .i64 kd)).setCell ⟨w.heap.size, 1, none⟩ (.int .i64 id)).setCell ⟨w.heap.size, 2, none⟩ (.int .i64 sz)).setCell ⟨w.heap.size, 3, none⟩ (.string kv)).setCell ⟨w.heap.size, 4, none⟩ (.slice A ls.length c)).setCell ⟨w.heap.size, 5, none⟩ (.slice A2 lo.length c2)).setCell ⟨w.heap.size, 6, none⟩ (.slice A3 ld.length c3)) := hBb.trans (below_of_sets gv (blk_lt hbo))
  have e0 : wb.cell? ⟨w9.heap.size, 0, none⟩ = some (.int .i64 kd) := blk_cell hbb2 0
  have e1 : wb.cell? ⟨w9.heap.size, 1, none⟩ = some (.int .i64 id) := blk_cell hbb2 1
  have e2 : wb.cell? ⟨w9.heap.size, 2, none⟩ = some (.int .i64 sz) := blk_cell hbb2 2
  have e3 : wb.cell? ⟨w9.heap.size, 3, none⟩ = some (.string kv) := blk_cell hbb2 3
  have e4 : wb.cell? ⟨w9.heap.size, 4, none⟩ = some (.slice A ls.length c) := blk_cell hbb2 4
  have e5 : wb.cell? ⟨w9.heap.size, 5, none⟩ = some (.slice A2 lo.length c2) := blk_cell hbb2 5
  have e6 : wb.cell? ⟨w9.heap.size, 6, none⟩ = some (.slice A3 ld.length c3) := blk_cell hbb2 6
  cases bd with
  | true =>
    have hd : decode b = none := by rw [Hdec.out, if_pos (.inl Hbd.out)]
    have Hd := Lib.hid hd; clear hd
    rcases hpost with ⟨_, rfl⟩ | ⟨_, _, rfl⟩ | ⟨_, _, v, rfl, hown⟩
    · go_wp2_with fail
      refine bodyPost_ret (results_cell2 rfl w.heap.size _ _ _ _ rfl kz6 rfl rfl rfl) rfl ?_
      exact ⟨hBz, by rw [Hd.out]; rfl⟩
    · go_wp2_with fail
      refine bodyPost_ret (results_cell2 rfl w.heap.size _ _ _ _ rfl kz6 rfl rfl rfl) rfl ?_
      exact ⟨hBz, by rw [Hd.out]; rfl⟩
    · go_wp2_with fail
      refine bodyPost_ret (results_cell2 rfl w.heap.size _ _ _ _ rfl kz6 rfl rfl rfl) rfl ?_
      exact ⟨hBz, by rw [Hd.out]; rfl⟩
  | false =>
    rcases hpost with ⟨hbad, rfl⟩ | ⟨_, h8, rfl⟩ | ⟨hbad, h8, v, rfl, hown⟩
    · have hd : decode b = none := by rw [Hdec.out, if_pos (.inr (.inl hbad))]
      have Hd := Lib.hid hd; clear hd hbad
      go_wp2_with fail
      refine bodyPost_ret (results_cell2 rfl w.heap.size _ _ _ _ rfl kz6 rfl rfl rfl) rfl ?_
      exact ⟨hBz, by rw [Hd.out]; rfl⟩
    · have hd : decode b = none := by rw [Hdec.out, if_pos (.inr (.inr (.inl h8)))]
      have Hd := Lib.hid hd; clear hd h8
      go_wp2_with fail
      refine bodyPost_ret (results_cell2 rfl w.heap.size _ _ _ _ rfl kz6 rfl rfl rfl) rfl ?_
      exact ⟨hBz, by rw [Hd.out]; rfl⟩
    · obtain ⟨Av, cv, rfl, hlv, _, hrv⟩ := hown.form
      by_cases hq : (encRec r == b) = true
      · have hd : decode b = some r := by
          rw [Hdec.out, if_neg]
          rintro (h | h | h | h)
          · rw [Hbd.out] at h; exact absurd h (by decide)
          · rw [hbad] at h; exact absurd h (by decide)
          · omega
          · rw [hq] at h; exact absurd h (by decide)
        have Hd := Lib.hid hd; have Hq := Lib.hid hq; clear hd hbad hq
        go_wp2_with fail
        refine (equal_any Av B cv c0 wb (encRec r) b hrv hRB).mono ?_
        rintro e w' ⟨rfl, rfl⟩
        rw [Hq.out]
        go_wp2_with fail
        refine bodyPost_ret (results_cell2 rfl w.heap.size _ _ _ _ rfl kv6 rfl rfl rfl) rfl ?_
        exact ⟨hBv, by rw [Hd.out]; exact ⟨[.int .i64 kd, .int .i64 id, .int .i64 sz, .string kv, .slice A ls.length c, .slice A2 lo.length c2, .slice A3 ld.length c3], rfl, hrecb.same (.of_grown gv fun k e => by injection e with e; subst e; exact not_inT hbo (by decide))⟩⟩
      · have hq' : (encRec r == b) = false := by simpa using hq
        have hd : decode b = none := by rw [Hdec.out, if_pos (.inr (.inr (.inr hq')))]
        have Hd := Lib.hid hd; have Hq := Lib.hid hq'; clear hd hq hq' hbad
        go_wp2_with fail
        refine (equal_any Av B cv c0 wb (encRec r) b hrv hRB).mono ?_
        rintro e w' ⟨rfl, rfl⟩
        rw [Hq.out]
        go_wp2_with fail
        refine bodyPost_ret (results_cell2 rfl w.heap.size _ _ _ _ rfl kz6 rfl rfl rfl) rfl ?_
        exact ⟨hBz, by rw [Hd.out]; rfl⟩
end Go.Proofs.Ytmleldgohfcdbaa
