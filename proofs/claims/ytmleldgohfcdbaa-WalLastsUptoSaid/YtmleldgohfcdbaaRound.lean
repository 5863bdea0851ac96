/- Records written and read back: plain lists. -/
import Derived.Test.YtmleldgohfcdbaaWalScan
import Derived.Test.YtmleldgohfcdbaaOpenPlain
namespace Go.Proofs.Ytmleldgohfcdbaa
set_option linter.unusedVariables false
set_option linter.unusedSimpArgs false
theorem ofBe_be1 (s : Nat) (h : s < 256) : ofBe (be 1 s) = s := by
  simp [be, ofBe, beStep]
  omega
theorem ofBe_be2 (s : Nat) (h : s < 65536) : ofBe (be 2 s) = s := by
  simp [be, ofBe, beStep]
  omega
theorem rtake_ok (x y : List UInt8) : rtake x.length ⟨x ++ y, false⟩ = (x, ⟨y, false⟩) := by
  unfold rtake
  rw [if_neg (by simp)]
  simp
theorem rnum_ok (n : Nat) (u : Nat) (v : Int) (hv : (u : Int) = v) (h : ofBe (be n u) = u) (y : List UInt8) : rnum n ⟨be n u ++ y, false⟩ = (v, ⟨y, false⟩) := by
  have h1 := rtake_ok (be n u) y
  rw [be_length] at h1
  unfold rnum
  rw [h1]
  show (((ofBe (be n u) : Nat) : Int), _) = _
  rw [h, hv]
theorem badNum_iff {v m : Int} (h : badNum v m = false) : 0 ≤ v ∧ v ≤ m := by
  unfold badNum at h
  simp at h
  omega
theorem rnum1_ok (v m : Int) (h : badNum v m = false) (hm : m ≤ 255) (y : List UInt8) : rnum 1 ⟨be 1 (nat64 v) ++ y, false⟩ = (v, ⟨y, false⟩) := by
  have h1 := badNum_iff h
  have h2 : ((nat64 v : Nat) : Int) = v := by unfold nat64; omega
  exact rnum_ok 1 _ v h2 (ofBe_be1 _ (by omega)) y
theorem rnum2_ok (v m : Int) (h : badNum v m = false) (hm : m ≤ 65535) (y : List UInt8) : rnum 2 ⟨be 2 (nat64 v) ++ y, false⟩ = (v, ⟨y, false⟩) := by
  have h1 := badNum_iff h
  have h2 : ((nat64 v : Nat) : Int) = v := by unfold nat64; omega
  exact rnum_ok 2 _ v h2 (ofBe_be2 _ (by omega)) y
theorem rnum4_ok (v : Int) (h : badNum v maxID = false) (y : List UInt8) : rnum 4 ⟨encW v ++ y, false⟩ = (v, ⟨y, false⟩) := by
  have h1 := badNum_iff h
  unfold maxID at h1
  have h2 : ((nat64 v : Nat) : Int) = v := by unfold nat64; omega
  exact rnum_ok 4 _ v h2 (ofBe_be4 _ (by omega)) y
theorem rloop_ok {α : Type} (one : RS → α × RS) (enc : α → List UInt8) : ∀ (l : List α), (∀ a ∈ l, ∀ y, one ⟨enc a ++ y, false⟩ = (a, ⟨y, false⟩)) → ∀ y, rloop one l.length ⟨l.flatMap enc ++ y, false⟩ = (l, ⟨y, false⟩)
  | [], _, y => rfl
  | a :: l, h, y => by
    have h1 := h a (by simp) (l.flatMap enc ++ y)
    have h2 := rloop_ok one enc l (fun b hb => h b (by simp [hb])) y
    rw [List.length_cons, List.flatMap_cons, List.append_assoc, rloop, h1]
    simp [h2]
theorem rrow_ok {α : Type} (one : RS → α × RS) (enc : α → List UInt8) (n : Nat) (l : List α) (hn : ∀ y, rnum n ⟨be n (nat64 l.length) ++ y, false⟩ = ((l.length : Int), ⟨y, false⟩))
    (h : ∀ a ∈ l, ∀ y, one ⟨enc a ++ y, false⟩ = (a, ⟨y, false⟩)) (y : List UInt8) : rrow one n ⟨be n (nat64 l.length) ++ l.flatMap enc ++ y, false⟩ = (l, ⟨y, false⟩) := by
  unfold rrow
  rw [List.append_assoc, hn]
  exact rloop_ok one enc l h y
theorem rkey_ok (k : List UInt8) (h : badKey k = false) (y : List UInt8) : rkey ⟨encKey k ++ y, false⟩ = (k, ⟨y, false⟩) := by
  have h1 := rnum1_ok k.length 16 h (by omega) (k ++ y)
  unfold rkey encKey
  rw [List.append_assoc, h1]
  exact rtake_ok k y
theorem any_false {α : Type} {l : List α} {f : α → Bool} (h : l.any f = false) : ∀ a ∈ l, f a = false := by
  intro a ha
  cases hf : f a with
  | false => rfl
  | true => rw [List.any_eq_true.2 ⟨a, ha, hf⟩] at h; cases h
theorem rints_ok (l : List Int) (h : badInts l = false) (y : List UInt8) : rrow (rnum 4) 1 ⟨encInts l ++ y, false⟩ = (l, ⟨y, false⟩) := by
  unfold badInts at h
  rw [Bool.or_eq_false_iff] at h
  exact rrow_ok (rnum 4) encW 1 l (fun y => rnum1_ok _ 255 h.1 (by omega) y) (fun a ha y => rnum4_ok a (any_false h.2 a ha) y) y
theorem rstripe_enc (s : PStripe) (h : badStripe s = false) (y : List UInt8) : rstripe ⟨encStripe s ++ y, false⟩ = (s, ⟨y, false⟩) := by
  unfold badStripe at h
  rw [Bool.or_eq_false_iff, Bool.or_eq_false_iff] at h
  unfold rstripe encStripe
  simp only [List.append_assoc]
  rw [rnum4_ok _ h.1.1]
  simp only
  rw [rnum4_ok _ h.1.2]
  simp only
  rw [rints_ok _ h.2]
theorem rstripes_ok (l : List PStripe) (h : badStripes l = false) (y : List UInt8) : rrow rstripe 1 ⟨encStripes l ++ y, false⟩ = (l, ⟨y, false⟩) := by
  unfold badStripes at h
  rw [Bool.or_eq_false_iff] at h
  exact rrow_ok rstripe encStripe 1 l (fun y => rnum1_ok _ 255 h.1 (by omega) y) (fun a ha y => rstripe_enc a (any_false h.2 a ha) y) y
theorem robj_enc (o : PObj) (h : badObj o = false) (y : List UInt8) : robj ⟨encObj o ++ y, false⟩ = (o, ⟨y, false⟩) := by
  unfold badObj at h
  rw [Bool.or_eq_false_iff, Bool.or_eq_false_iff, Bool.or_eq_false_iff] at h
  unfold robj encObj
  simp only [List.append_assoc]
  rw [rkey_ok _ h.1.1.1]
  simp only
  rw [rnum4_ok _ h.1.1.2]
  simp only
  rw [rnum4_ok _ h.1.2]
  simp only
  rw [rstripes_ok _ h.2]
theorem rrec_enc (r : PRec) (h : badRec r = false) (y : List UInt8) : rrec ⟨encRec r ++ y, false⟩ = (r, ⟨y, false⟩) := by
  unfold badRec at h
  simp only [Bool.or_eq_false_iff] at h
  obtain ⟨⟨⟨⟨⟨⟨⟨⟨h1, -⟩, h2⟩, h3⟩, h4⟩, h5⟩, h6⟩, h7⟩, h8⟩ := h
  have ho := fun y => rrow_ok robj encObj 2 r.objects (fun y => rnum2_ok _ 65535 h6 (by omega) y) (fun a ha y => robj_enc a (any_false h7 a ha) y) y
  unfold rrec encRec
  simp only [List.append_assoc] at ho ⊢
  rw [rnum1_ok _ 5 h1 (by omega)]
  simp only
  rw [rnum4_ok _ h2]
  simp only
  rw [rnum4_ok _ h3]
  simp only
  rw [rkey_ok _ h4]
  simp only
  rw [rstripes_ok _ h5]
  simp only
  rw [ho]
  simp only
  rw [rints_ok _ h8]
/-- A record that may be written. -/
def OkR (r : PRec) : Prop := badRec r = false ∧ (encRec r).length ≤ 8192
theorem decode_enc {r : PRec} (h : OkR r) : decode (encRec r) = some r := by
  have h1 := rrec_enc r h.1 []
  rw [List.append_nil] at h1
  rw [decode_eq h1, if_neg]
  rintro (h2 | h2 | h2 | h2)
  · cases h2
  · rw [h.1] at h2; cases h2
  · have := h.2; omega
  · rw [beq_self_eq_true] at h2; cases h2
theorem decode_some {b : List UInt8} {r : PRec} (h : decode b = some r) : encRec r = b ∧ OkR r := by
  unfold decode at h
  split at h
  · cases h
  · rename_i hn
    injection h with h
    rw [h] at hn
    simp only [not_or] at hn
    obtain ⟨_, h2, h3, h4⟩ := hn
    have h5 : (encRec r == b) = true := by simpa using h4
    exact ⟨by simpa using h5, by simpa using h2, by omega⟩
/-- An entry of a record. -/
def ent (r : PRec) : List UInt8 := entryOf (encRec r)
theorem ent_length (r : PRec) : (ent r).length = 8 + (encRec r).length := entryOf_length _
theorem entryOf_take4 (x y : List UInt8) : (entryOf x ++ y).take 4 = be 4 x.length := by
  unfold entryOf
  rw [List.append_assoc, List.append_assoc, List.take_append_of_le_length (by rw [be_length]; omega), List.take_of_length_le (by rw [be_length]; omega)]
theorem entryOf_drop8 (x y : List UInt8) : (entryOf x ++ y).drop 8 = x ++ y := by
  unfold entryOf
  rw [List.append_assoc (_ ++ _), List.drop_append_of_le_length (by simp [be_length]), List.drop_of_length_le (by simp [be_length]), List.nil_append]
theorem oneOf_ent {r : PRec} (h : OkR r) (y : List UInt8) : oneOf (ent r ++ y) = some (r, (ent r).length) := by
  have hl := ent_length r
  have h8 := h.2
  have e4 : ofBe ((ent r ++ y).take 4) = (encRec r).length := by
    unfold ent
    rw [entryOf_take4, ofBe_be4 _ (by omega)]
  unfold oneOf
  rw [if_neg (by rw [List.length_append]; omega), e4, if_neg (by rw [List.length_append]; omega)]
  have e8 : ((ent r ++ y).drop 8).take (encRec r).length = encRec r := by
    unfold ent
    rw [entryOf_drop8, List.take_append_of_le_length (Nat.le_refl _), List.take_length]
  rw [e8, decode_enc h]
  have et : (ent r ++ y).take (8 + (encRec r).length) = ent r := by
    rw [← hl, List.take_append_of_le_length (Nat.le_refl _), List.take_length]
  show (if (entryOf (encRec r) == (ent r ++ y).take (8 + (encRec r).length)) = true then some (r, 8 + (encRec r).length) else none) = _
  rw [et, if_pos (by show (ent r == ent r) = true; exact beq_self_eq_true _), hl]
theorem oneOf_inv {b : List UInt8} {r : PRec} {n : Nat} (h : oneOf b = some (r, n)) : OkR r ∧ n = (ent r).length ∧ b = ent r ++ b.drop n := by
  unfold oneOf at h
  split at h
  · cases h
  · split at h
    · cases h
    · split at h
      · cases h
      · rename_i hl hs _ r' hd
        split at h
        · rename_i he
          injection h with h
          injection h with h1 h2
          subst h1
          obtain ⟨hx, hok⟩ := decode_some hd
          have he2 : ent r' = b.take n := by
            rw [← h2]
            have := eq_of_beq he
            rw [← hx] at this
            exact this
          have hxl : (encRec r').length = ofBe (b.take 4) := by
            rw [hx, List.length_take, List.length_drop]
            omega
          refine ⟨hok, by rw [ent_length, hxl, ← h2], ?_⟩
          rw [he2, List.take_append_drop]
        · cases h
/-- Entries, one behind the other. -/
def ents (l : List PRec) : List UInt8 := l.flatMap ent
theorem ents_cons (r : PRec) (l : List PRec) : ents (r :: l) = ent r ++ ents l := by unfold ents; rw [List.flatMap_cons]
theorem ents_append (l m : List PRec) : ents (l ++ m) = ents l ++ ents m := by unfold ents; rw [List.flatMap_append]
theorem scanOf_ents : ∀ (l : List PRec), (∀ r ∈ l, OkR r) → ∀ y, scanOf (ents l ++ y) = (l ++ (scanOf y).1, (ents l).length + (scanOf y).2)
  | [], _, y => by simp [ents]
  | r :: l, h, y => by
    have h1 := scanOf_ents l (fun a ha => h a (by simp [ha])) y
    have h2 := oneOf_ent (h r (by simp)) (ents l ++ y)
    rw [ents_cons, List.append_assoc, scanOf_some h2, List.drop_append_of_le_length (Nat.le_refl _), List.drop_length, List.nil_append, h1, List.length_append]
    simp [Nat.add_assoc]
theorem scanOf_nil : scanOf [] = ([], 0) := scanOf_none (by unfold oneOf; rw [if_pos (by simp)])
theorem scanOf_ents0 (l : List PRec) (h : ∀ r ∈ l, OkR r) : scanOf (ents l) = (l, (ents l).length) := by
  have h1 := scanOf_ents l h []
  rw [List.append_nil, scanOf_nil] at h1
  simpa using h1
theorem scanOf_inv (b : List UInt8) : (∀ r ∈ (scanOf b).1, OkR r) ∧ (scanOf b).2 = (ents (scanOf b).1).length ∧ b.take (scanOf b).2 = ents (scanOf b).1 := by
  generalize hn : b.length = n
  induction n using Nat.strongRecOn generalizing b with
  | ind n ih =>
    cases h : oneOf b with
    | none => rw [scanOf_none h]; simp [ents]
    | some x =>
      obtain ⟨r, k⟩ := x
      obtain ⟨h1, h2, h3⟩ := oneOf_inv h
      have hb := oneOf_bd h
      obtain ⟨i1, i2, i3⟩ := ih (b.drop k).length (by rw [List.length_drop]; omega) (b.drop k) rfl
      rw [scanOf_some h]
      refine ⟨fun a ha => ?_, ?_, ?_⟩
      · rcases List.mem_cons.1 ha with rfl | ha
        · exact h1
        · exact i1 a ha
      · show k + _ = _
        rw [ents_cons, List.length_append, ← h2, ← i2]
      · show b.take (k + _) = _
        rw [ents_cons, ← i3]
        generalize (scanOf (b.drop k)).2 = m
        refine (congrArg (List.take (k + m)) h3).trans ?_
        rw [List.take_append, List.take_of_length_le (by omega), show k + m - (ent r).length = m by omega]
theorem oneOf_cut (r : PRec) (h8 : (encRec r).length ≤ 8192) (y : List UInt8) (k : Nat) (hk : k < (ent r).length) : oneOf ((ent r ++ y).take k) = none := by
  have hl := ent_length r
  have e4 : 4 ≤ k → ofBe (((ent r ++ y).take k).take 4) = (encRec r).length := by
    intro h4
    rw [List.take_take, Nat.min_eq_left h4]
    unfold ent
    rw [entryOf_take4, ofBe_be4 _ (by omega)]
  have hlen : ((ent r ++ y).take k).length = k := by rw [List.length_take, List.length_append]; omega
  unfold oneOf
  rw [hlen]
  by_cases h : k < 8
  · rw [if_pos h]
  · rw [if_neg h, if_pos]
    right
    rw [e4 (by omega)]
    omega
theorem scanOf_cut : ∀ (l : List PRec), (∀ r ∈ l, OkR r) → ∀ k, ∃ j, j ≤ l.length ∧ scanOf ((ents l).take k) = (l.take j, (ents (l.take j)).length) ∧ (ents (l.take j)).length ≤ k
  | [], _, k => ⟨0, Nat.le_refl _, by simp [ents, scanOf_nil], by simp [ents]⟩
  | r :: l, h, k => by
    have hr := h r (by simp)
    by_cases hk : k < (ent r).length
    · refine ⟨0, Nat.zero_le _, ?_, by simp [ents]⟩
      rw [ents_cons, scanOf_none (oneOf_cut r hr.2 (ents l) k hk)]
      simp [ents]
    · obtain ⟨j, hj, h1, h2⟩ := scanOf_cut l (fun a ha => h a (by simp [ha])) (k - (ent r).length)
      refine ⟨j + 1, by rw [List.length_cons]; omega, ?_, ?_⟩
      · rw [ents_cons, List.take_append, List.take_of_length_le (by omega), scanOf_some (oneOf_ent hr _), List.drop_append_of_le_length (Nat.le_refl _), List.drop_length, List.nil_append, h1,
          List.take_succ_cons, ents_cons, List.length_append]
      · rw [List.take_succ_cons, ents_cons, List.length_append]
        omega
end Go.Proofs.Ytmleldgohfcdbaa
