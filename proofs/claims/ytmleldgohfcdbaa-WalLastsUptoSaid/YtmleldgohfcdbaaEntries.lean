/- law11.entries. -/
import Derived.Test.YtmleldgohfcdbaaEntry
import Derived.Test.YtmleldgohfcdbaaRefEnc4
import Derived.Test.YtmleldgohfcdbaaWalSpoilt
namespace Go.Proofs.Ytmleldgohfcdbaa
set_option linter.unusedVariables false
set_option linter.unusedSimpArgs false
open Go.RowKit
def keepL : List PRec → List PRec → List PRec
  | acc, [] => acc
  | acc, r :: rest => if roomE false r (ents acc).length = 0 then keepL (acc ++ [r]) rest else keepL acc rest
theorem keepL_drop (l acc : List PRec) (k : Nat) (hk : k < l.length) : keepL acc (l.drop k) = if roomE false l[k] (ents acc).length = 0 then keepL (acc ++ [l[k]]) (l.drop (k + 1)) else keepL acc (l.drop (k + 1)) := by
  rw [List.drop_eq_getElem_cons hk]
  rfl
theorem roomE_inv {r : PRec} {n : Nat} (h : roomE false r n = 0) : OkR r ∧ n + (ent r).length ≤ 16384 := by
  have hl := ent_length r
  unfold roomE at h
  rw [if_neg (by decide)] at h
  by_cases h2 : badRec r = true
  · rw [if_pos h2] at h; exact absurd h (by decide)
  · rw [if_neg h2] at h
    by_cases h3 : 8192 < (encRec r).length
    · rw [if_pos h3] at h; exact absurd h (by decide)
    · rw [if_neg h3] at h
      by_cases h4 : 16384 < n + (8 + (encRec r).length)
      · rw [if_pos h4] at h; exact absurd h (by decide)
      · exact ⟨⟨by simpa using h2, by omega⟩, by omega⟩
theorem keepL_ok : ∀ (l acc : List PRec), (∀ r ∈ acc, OkR r) → (ents acc).length ≤ 16384 → (∀ r ∈ keepL acc l, OkR r) ∧ (ents (keepL acc l)).length ≤ 16384
  | [], acc, h1, h2 => ⟨h1, h2⟩
  | r :: rest, acc, h1, h2 => by
    unfold keepL
    split
    · rename_i hr
      obtain ⟨h3, h4⟩ := roomE_inv hr
      refine keepL_ok rest (acc ++ [r]) (fun x hx => ?_) (by rw [ents_append, show ents [r] = ent r from by rw [ents_cons]; simp [ents], List.length_append]; exact h4)
      rcases List.mem_append.1 hx with hx | hx
      · exact h1 x hx
      · rw [List.mem_singleton] at hx; subst hx; exact h3
    · exact keepL_ok rest acc h1 h2
theorem keepL_all : ∀ (l acc : List PRec), (∀ r ∈ l, OkR r) → (ents (acc ++ l)).length ≤ 16384 → keepL acc l = acc ++ l
  | [], acc, _, _ => by simp [keepL]
  | r :: rest, acc, h1, h2 => by
    have h3 : (ents (acc ++ r :: rest)).length = (ents acc).length + (ent r).length + (ents rest).length := by rw [ents_append, ents_cons, List.length_append, List.length_append]; omega
    unfold keepL
    rw [if_pos (roomE_ok (h1 r (by simp)) _ (by omega)), keepL_all rest (acc ++ [r]) (fun x hx => h1 x (by simp [hx])) (by simpa using h2)]
    simp
theorem own_types_ne {w : World} {base base' : Nat} {e e' : TypeId} {size size' n n' : Nat} {v v' : Value} {xs xs' : List Value} (h : w.ownsRow base e size v n xs) (h' : w.ownsRow base' e' size' v' n' xs') (he : e ≠ e') :
    v.ownBlock = none ∨ v.ownBlock ≠ v'.ownBlock := by
  rcases h.2 with ⟨rfl, _⟩ | ⟨g, cap, cur, rfl, _, hg, _⟩
  · exact .inl rfl
  · refine .inr ?_
    rcases h'.2 with ⟨rfl, _⟩ | ⟨g', cap', cur', rfl, _, hg', _⟩
    · simp [Value.ownBlock]
    · intro e
      simp only [Value.ownBlock, Option.some.injEq] at e
      subst e
      rw [hg] at hg'
      injection hg' with hg'
      injection hg' with _ hg' _
      exact he hg'
theorem rv_new7 (w : World) (vs : List Value) : RV (w.alloc (.cells vs.toArray 51)) (some ⟨w.heap.size, 0, none⟩) vs := by
  intro j hj
  refine ⟨_, rfl, ?_⟩
  rw [lit_add, cell_of_row _ _ _ _ _ _ (heap_alloc_new w _)]
  first | (simp; done) | simpa using List.getElem?_eq_getElem hj
def EntriesPost (w : World) (l : List PRec) (e : Ending) (w' : World) : Prop :=
  ∃ v o vs, e = .returned (.tuple #[v, o]) ∧ OwnB w' w.heap.size v (ents l) ∧ w'.ownsRow w.heap.size 51 7 o l.length vs ∧ RowsOf (RecVal w' (· < w.heap.size)) l vs ∧ Below w.heap.size w w'
set_option maxRecDepth 100000 in
set_option maxHeartbeats 2000000 in
theorem entries_any (A : Option Addr) (c : Nat) (w : World) (l : List PRec) (hl : l.length ≤ 1000000000) (hr : RRecs w (· < w.heap.size) A l) (hM : ∀ r ∈ l, MaxR r ∧ KeysR r) :
    Calls Try.prog 28 #[.slice A l.length c] w (EntriesPost w (keepL [] l)) := by
  obtain ⟨res, hres⟩ : ∃ res, keepL [] l = res := ⟨_, rfl⟩
  rw [hres]
  have Hres := Lib.hid hres
  have Hr := Lib.hid hr; have HM := Lib.hid hM
  clear hr hM hres
  go_enter Try.func28, Try.ntmps28
  go_wp2_with fail
  go_loopw [4, 5, 6] (fun v o i wr => ∃ (k : Nat) (acc : List PRec) (vs : List Value), k ≤ l.length ∧ acc.length ≤ k ∧ i = .int .i64 k ∧ OwnB wr w.heap.size v (ents acc) ∧ wr.ownsRow w.heap.size 51 7 o acc.length vs ∧
      RowsOf (RecVal wr (· < w.heap.size)) acc vs ∧ Below w.heap.size w wr ∧ Hid (keepL acc (l.drop k) = res) ∧ (ents acc).length ≤ 16384) (fun _ _ i _ => l.length - (intOf i).toNat)
  case atStart => exact ⟨0, [], [], by omega, by simp, rfl, OwnB.nil _ _, World.ownsRow_nil _ _ _ _, rfl, Below.refl _ _, by simpa [Hid] using Hres.out, by simp [ents]⟩
  case round =>
    obtain ⟨k, acc, vs, hk, hak, rfl, hob, hoo, hrows, hbr, hinv, h16⟩ := hrel
    obtain ⟨Av, cv, rfl, hlv, _, _⟩ := hob.form
    by_cases hlt : k < l.length
    · obtain ⟨ad, A1, A1c, A2, A2c, A3, A3c, rfl, ⟨p0, p1, p2, p3, p4, p5, p6⟩, hra⟩ := Hr.out.at_ hlt
      have hMa := HM.out _ (List.getElem_mem hlt)
      have hst := keepL_drop l acc k hlt
      have hinv1 := hinv.out
      rw [hst] at hinv1
      clear hst
      generalize l[k] = a at p0 p1 p2 p3 p4 p5 p6 hra hMa hinv1
      have henc := refEncode_any wr a _ ((hra.below hbr).imp fun k hk _ => hk) hMa.1 hMa.2
      obtain ⟨ka, hsa, hsa2⟩ : ∃ ka : ByteArray, sv a.key = .string ka ∧ True := ⟨_, rfl, trivial⟩
      rw [hsa] at p3 henc hra
      have m0 : wr.cell? (ad.add (k * 7)) = some (.int .i64 a.kind) := (hbr.cell (World.block_lt_of_cell? _ _ p0)).trans p0; have m1 : wr.cell? ⟨(ad.add (k * 7)).block, (ad.add (k * 7)).off + 1, none⟩ = some (.int .i64 a.id) := (hbr.cell (World.block_lt_of_cell? _ _ p1)).trans p1; have m2 : wr.cell? ⟨(ad.add (k * 7)).block, (ad.add (k * 7)).off + 2, none⟩ = some (.int .i64 a.size) := (hbr.cell (World.block_lt_of_cell? _ _ p2)).trans p2; have m3 : wr.cell? ⟨(ad.add (k * 7)).block, (ad.add (k * 7)).off + 3, none⟩ = some (.string ka) := (hbr.cell (World.block_lt_of_cell? _ _ p3)).trans p3; have m4 : wr.cell? ⟨(ad.add (k * 7)).block, (ad.add (k * 7)).off + 4, none⟩ = some (.slice A1 a.stripes.length A1c) := (hbr.cell (World.block_lt_of_cell? _ _ p4)).trans p4; have m5 : wr.cell? ⟨(ad.add (k * 7)).block, (ad.add (k * 7)).off + 5, none⟩ = some (.slice A2 a.objects.length A2c) := (hbr.cell (World.block_lt_of_cell? _ _ p5)).trans p5; have m6 : wr.cell? ⟨(ad.add (k * 7)).block, (ad.add (k * 7)).off + 6, none⟩ = some (.slice A3 a.drives.length A3c) := (hbr.cell (World.block_lt_of_cell? _ _ p6)).trans p6
      have i1 : (0 : Int) ≤ (k : Int) := by omega
      have i2 : (k : Int) < (l.length : Int) := by omega
      have Henc := Lib.hid henc; have Hra := Lib.hid hra; have Hinv1 := Lib.hid hinv1; have Hsa := Lib.hid hsa
      have Hob := Lib.hid hob; have Hoo := Lib.hid hoo; have Hrows := Lib.hid hrows
      clear henc hra hMa hsa hinv1 hob hoo hrows hsa2
      have Hel := Lib.hid (ent_length a)
      obtain ⟨en, hen⟩ : ∃ en, ents acc = en := ⟨_, rfl⟩
      have Hen := Lib.hid hen
      rw [hen] at hlv h16 Hob
      rw [hen]
      go_wp2_with fail
      refine Henc.out.mono ?_
      rintro e w2 ⟨hb2, hp⟩
      have hbr2 : Below w.heap.size w w2 := hbr.trans (hb2.mono hbr.size)
      rcases hp with ⟨hbad, rfl⟩ | ⟨hbad, h8, rfl⟩ | ⟨hbad, h8, v2, rfl, hown2⟩
      · have hno : keepL acc (l.drop (k + 1)) = res := by
          have h := Hinv1.out
          rw [if_neg (by unfold roomE; rw [if_neg (by decide), if_pos hbad]; decide)] at h
          exact h
        have Hno := Lib.hid hno
        clear hno hbad
        go_wp2_with fail
        go_roundw
        case rel => exact ⟨k + 1, acc, vs, by omega, by omega, by go_num, by rw [Hen.out]; exact Hob.out.below hb2, owns_below Hoo.out hb2, Hrows.out.mono fun _ _ h => h.keep (fun k hk _ => hb2.block k hk), hbr2, Hno, by rw [Hen.out]; exact h16⟩
        case measure => simp [intOf]; omega
      · have hno : keepL acc (l.drop (k + 1)) = res := by
          have h := Hinv1.out
          rw [if_neg (by unfold roomE; rw [if_neg (by decide), if_neg (by rw [hbad]; decide), if_pos h8]; decide)] at h
          exact h
        have Hno := Lib.hid hno
        clear hno hbad
        go_wp2_with fail
        go_roundw
        case rel => exact ⟨k + 1, acc, vs, by omega, by omega, by go_num, by rw [Hen.out]; exact Hob.out.below hb2, owns_below Hoo.out hb2, Hrows.out.mono fun _ _ h => h.keep (fun k hk _ => hb2.block k hk), hbr2, Hno, by rw [Hen.out]; exact h16⟩
        case measure => simp [intOf]; omega
      · obtain ⟨A4, c4, rfl, hl4, _, hr4⟩ := hown2.form
        by_cases hfit : 16384 < en.length + (8 + (encRec a).length)
        · have hno : keepL acc (l.drop (k + 1)) = res := by
            have h := Hinv1.out
            rw [if_neg (by unfold roomE; rw [if_neg (by decide), if_neg (by rw [hbad]; decide), if_neg (by omega), if_pos (by rw [Hen.out]; exact hfit)]; decide)] at h
            exact h
          have Hno := Lib.hid hno
          have hf2 : (16384 : Int) < (en.length : Int) + ((encRec a).length : Int) + 8 := by omega
          clear hno hbad
          go_wp2_with fail
          go_roundw
          case rel => exact ⟨k + 1, acc, vs, by omega, by omega, by go_num, by rw [Hen.out]; exact Hob.out.below hb2, owns_below Hoo.out hb2, Hrows.out.mono fun _ _ h => h.keep (fun k hk _ => hb2.block k hk), hbr2, Hno, by rw [Hen.out]; exact h16⟩
          case measure => simp [intOf]; omega
        · have hyes : keepL (acc ++ [a]) (l.drop (k + 1)) = res := by
            have h := Hinv1.out
            rw [if_pos (roomE_ok ⟨hbad, h8⟩ _ (by rw [Hen.out, Hel.out]; omega))] at h
            exact h
          have Hyes := Lib.hid hyes
          have hf2 : ¬ (16384 : Int) < (en.length : Int) + ((encRec a).length : Int) + 8 := by omega
          have hentry : Calls Try.prog 36 #[.slice A4 (encRec a).length c4] w2 fun e w' => ∃ v, e = .returned v ∧ OwnB w' w2.heap.size v (ent a) ∧ Below w2.heap.size w2 w' := entry_any A4 c4 w2 (encRec a) (by omega) hr4
          have Hentry := Lib.hid hentry
          obtain ⟨en2, hen2⟩ : ∃ en2, en ++ ent a = en2 := ⟨_, rfl⟩
          have hl2 : en2.length ≤ 16384 := by rw [← hen2, List.length_append, Hel.out]; omega
          have Hen2 := Lib.hid hen2; have Hl2 := Lib.hid hl2
          clear hyes hentry hbad hen2 hl2
          go_wp2_with fail
          refine Hentry.out.mono ?_
          rintro e w3 ⟨v3, rfl, hown3, hb3⟩
          obtain ⟨A5, c5, rfl, hl5, _, hr5⟩ := hown3.form
          have hbr3 : Below w.heap.size w w3 := hbr2.trans (hb3.mono hbr2.size)
          have hob3 := (Hob.out.below hb2).below hb3
          have hoo3 := owns_below (owns_below Hoo.out hb2) hb3
          clear m0 m1 m2 m3 m4 m5 m6
          go_wp2_with (first
            | (at_builtin; refine wpList_apB (by rfl) (.tmp 34) (.tmp 36) rfl w.heap.size _ en rfl hob3 A5 (ent a).length c5 (ent a) rfl rfl hr5 en2 Hen2.out (by have := Hl2.out; omega) hbr3.size ?_; intro A6 c6 w4 hown4 hr6 hl6 hg4 hno4 hb4'; have hbr4 : Below w.heap.size w w4 := hbr3.trans hb4'; have hoo4 := World.ownsRow.kept hoo3 hg4 (own_types_ne hoo3 hob3 (by decide)); have hoo5 := hoo4.alloc (.cells #[.int .i64 a.kind, .int .i64 a.id, .int .i64 a.size, .string ka, .slice A1 a.stripes.length A1c, .slice A2 a.objects.length A2c, .slice A3 a.drives.length A3c] 51); have n0 : w4.cell? (ad.add (k * 7)) = some (.int .i64 a.kind) := (hbr4.cell (World.block_lt_of_cell? _ _ p0)).trans p0; have n1 : w4.cell? ⟨(ad.add (k * 7)).block, (ad.add (k * 7)).off + 1, none⟩ = some (.int .i64 a.id) := (hbr4.cell (World.block_lt_of_cell? _ _ p1)).trans p1; have n2 : w4.cell? ⟨(ad.add (k * 7)).block, (ad.add (k * 7)).off + 2, none⟩ = some (.int .i64 a.size) := (hbr4.cell (World.block_lt_of_cell? _ _ p2)).trans p2; have n3 : w4.cell? ⟨(ad.add (k * 7)).block, (ad.add (k * 7)).off + 3, none⟩ = some (.string ka) := (hbr4.cell (World.block_lt_of_cell? _ _ p3)).trans p3; have n4 : w4.cell? ⟨(ad.add (k * 7)).block, (ad.add (k * 7)).off + 4, none⟩ = some (.slice A1 a.stripes.length A1c) := (hbr4.cell (World.block_lt_of_cell? _ _ p4)).trans p4; have n5 : w4.cell? ⟨(ad.add (k * 7)).block, (ad.add (k * 7)).off + 5, none⟩ = some (.slice A2 a.objects.length A2c) := (hbr4.cell (World.block_lt_of_cell? _ _ p5)).trans p5; have n6 : w4.cell? ⟨(ad.add (k * 7)).block, (ad.add (k * 7)).off + 6, none⟩ = some (.slice A3 a.drives.length A3c) := (hbr4.cell (World.block_lt_of_cell? _ _ p6)).trans p6; have hrv := rv_new7 w4 [.int .i64 a.kind, .int .i64 a.id, .int .i64 a.size, .string ka, .slice A1 a.stripes.length A1c, .slice A2 a.objects.length A2c, .slice A3 a.drives.length A3c]; have hsz4 := hbr4.size)
            | (at_builtin; refine wpList_app _ (by rfl) (.tmp 38) (.tmp 43) 39 rfl w.heap.size 51 zeroRec 7 112 Try.underlying39 info_rec rfl (by omega) _ acc.length vs rfl hoo5 (some ⟨w4.heap.size, 0, none⟩) 1 1 [.int .i64 a.kind, .int .i64 a.id, .int .i64 a.size, .string ka, .slice A1 a.stripes.length A1c, .slice A2 a.objects.length A2c, .slice A3 a.drives.length A3c] rfl rfl hrv (by intro u hu; simp at hu; rcases hu with rfl | rfl | rfl | rfl | rfl | rfl | rfl <;> rfl) (by unfold maxLen; omega) (by omega) (by simp; omega) ?_; intro v7 w7 hown7 hg7 hno7))
          go_roundw
          case rel =>
            have hbr5 : Below w.heap.size w (w4.alloc (.cells #[.int .i64 a.kind, .int .i64 a.id, .int .i64 a.size, .string ka, .slice A1 a.stripes.length A1c, .slice A2 a.objects.length A2c, .slice A3 a.drives.length A3c] 51)) := hbr4.alloc hbr4.size _
            have hbr7 : Below w.heap.size w w7 := hbr5.trans (below_of_grown hoo5 hg7 hbr5.size)
            have hob7 : OwnB w7 w.heap.size (.slice A6 en2.length c6) en2 := by
              have h5 : OwnB (w4.alloc (.cells #[.int .i64 a.kind, .int .i64 a.id, .int .i64 a.size, .string ka, .slice A1 a.stripes.length A1c, .slice A2 a.objects.length A2c, .slice A3 a.drives.length A3c] 51)) w.heap.size (.slice A6 en2.length c6) en2 := hown4.below ((Below.refl _ w4).alloc (Nat.le_refl _) _)
              exact h5.kept hg7 (own_types_ne h5 hoo5 (by decide))
            have hee : ents (acc ++ [a]) = en2 := by rw [ents_append, Hen.out, show ents [a] = ent a from by rw [ents_cons]; simp [ents], Hen2.out]
            refine ⟨k + 1, acc ++ [a], vs ++ [.int .i64 a.kind, .int .i64 a.id, .int .i64 a.size, .string ka, .slice A1 a.stripes.length A1c, .slice A2 a.objects.length A2c, .slice A3 a.drives.length A3c], by omega, by simp; omega, by go_num, by rw [hee]; exact hob7, by rw [List.length_append]; exact hown7, RowsOf.append (R := RecVal w7 (· < w.heap.size)) (Hrows.out.mono fun _ _ h => h.keep (fun k hk hp => (hbr7.block k hp).trans (hbr.block k hp).symm)) (RowsOf.one (Hra.out.below hbr7)), hbr7, Hyes, by rw [hee]; exact Hl2.out⟩
          case measure => simp [intOf]; omega
    · have hfin : acc = res := by
        have h := hinv.out
        rw [List.drop_of_length_le (by omega)] at h
        exact h
      subst hfin
      have i2 : ¬ (k : Int) < (l.length : Int) := by omega
      go_wp2_with fail
      go_ret2
      exact ⟨_, _, vs, rfl, hob, hoo, hrows, hbr⟩
end Go.Proofs.Ytmleldgohfcdbaa
