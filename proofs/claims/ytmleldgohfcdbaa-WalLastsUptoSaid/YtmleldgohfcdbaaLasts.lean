/- law11's WalLasts: what stands on the tapes, and what opening tells: no program in sight. -/
import Derived.Test.YtmleldgohfcdbaaWalScanLaw
import Derived.Test.YtmleldgohfcdbaaCrash
namespace Go.Proofs.Ytmleldgohfcdbaa
set_option linter.unusedVariables false
set_option linter.unusedSimpArgs false
open Go.RowKit
def side (b : List UInt8) : TSide := ⟨b, [], false, false, false⟩
def sideW (b l : List UInt8) : TSide := ⟨b, l, false, true, false⟩
/-- A log whose tapes bear these records, the power gone behind so many writes. -/
def lgF (l : List PRec) (fu : Int) : WLog := ⟨⟨side (ents l), side (ents l), fu, false⟩, (ents l).length, false⟩
/-- A log whose power went at the write of r: on the first side, or on the second. -/
def downL (l : List PRec) (r : PRec) (second : Bool) : WLog :=
  ⟨if second then ⟨side (ents l ++ ent r), sideW (ents l) (ent r), 0, true⟩ else ⟨sideW (ents l) (ent r), side (ents l), 0, true⟩, (ents l).length, true⟩
def LastSt (acc ph : List PRec) (x : WLog) : Prop :=
  (ph = [] ∧ ∃ fu : Int, 0 ≤ fu ∧ fu ≤ 255 ∧ x = lgF acc fu) ∨ (∃ r b, OkR r ∧ (ents acc).length + (ent r).length ≤ 16384 ∧ ph = acc ++ [r] ∧ x = downL acc r b)
theorem appendL_lgF_no {l : List PRec} {fu : Int} {r : PRec} (h : roomE false r (ents l).length ≠ 0) : appendL (lgF l fu) r = (lgF l fu, roomE false r (ents l).length) := by
  have h9 : roomE false r (ents l).length ≠ 9 := by
    unfold roomE
    rw [if_neg (by decide)]
    repeat' split
    all_goals decide
  unfold appendL
  rw [show (lgF l fu).down = false from rfl, show (lgF l fu).size = (ents l).length from rfl, if_pos h, if_neg h9]
  rfl
theorem roomE_down (r : PRec) (n : Nat) : roomE true r n = 9 := rfl
theorem appendL_down (l : List PRec) (r r' : PRec) (b : Bool) : appendL (downL l r b) r' = (downL l r b, 9) := by
  unfold appendL
  rw [show (downL l r b).down = true from rfl, roomE_down, if_pos (by decide), if_pos rfl]
  rfl
theorem writeT_f0 (b e : List UInt8) : writeT ⟨side b, side b, 0, false⟩ e false = (⟨sideW b e, side b, 0, true⟩, 9) := rfl
theorem writeT_f1 (b e : List UInt8) : writeT ⟨side b, side b, 1, false⟩ e false = (⟨side (b ++ e), sideW b e, 0, true⟩, 9) := rfl
theorem writeT_f2 (b e : List UInt8) (fu : Int) (h : 2 ≤ fu) : writeT ⟨side b, side b, fu, false⟩ e false = (⟨side (b ++ e), side (b ++ e), fu - 2, false⟩, 0) := by
  have h1 : ¬ fu = 0 := by omega
  have h2 : 0 < fu := by omega
  have h3 : ¬ fu - 1 = 0 := by omega
  have h4 : 0 < fu - 1 := by omega
  have h5 : side0T ⟨side b, side b, fu, false⟩ e false = (⟨side (b ++ e), side b, fu - 1, false⟩, true) := by
    unfold side0T one0T
    simp only [side, if_neg h1, if_pos h2, TSide.put]
    rfl
  have h6 : side1T ⟨side (b ++ e), side b, fu - 1, false⟩ e false = (⟨side (b ++ e), side (b ++ e), fu - 1 - 1, false⟩, true) := by
    unfold side1T one1T
    simp only [side, if_neg h3, if_pos h4, TSide.put]
    rfl
  unfold writeT
  rw [if_neg (by simp), if_neg (by simp [side]), h5]
  dsimp only
  rw [if_neg (by decide), h6]
  dsimp only
  rw [if_neg (by decide), show fu - 1 - 1 = fu - 2 by omega]
theorem appendL_lgF {l : List PRec} {fu : Int} {r : PRec} (h : roomE false r (ents l).length = 0) (hfu : 0 ≤ fu) :
    appendL (lgF l fu) r = if fu = 0 then (downL l r false, 9) else if fu = 1 then (downL l r true, 9) else (lgF (l ++ [r]) (fu - 2), 0) := by
  have he : ents (l ++ [r]) = ents l ++ ent r := by rw [ents_append, show ents [r] = ent r from by rw [ents_cons]; simp [ents]]
  unfold appendL
  rw [show (lgF l fu).down = false from rfl, show (lgF l fu).size = (ents l).length from rfl, if_neg (by rw [h]; decide), show (lgF l fu).t = ⟨side (ents l), side (ents l), fu, false⟩ from rfl]
  by_cases h0 : fu = 0
  · subst h0
    rw [if_pos rfl, writeT_f0]
    rfl
  · rw [if_neg h0]
    by_cases h1 : fu = 1
    · subst h1
      rw [if_pos rfl, writeT_f1]
      rfl
    · rw [if_neg h1, writeT_f2 _ _ _ (by omega)]
      unfold lgF
      rw [he]
      dsimp only
      rw [if_pos rfl, if_neg (by decide), List.length_append]
      rfl
/-- What an append comes to. -/
theorem last_step {acc ph : List PRec} {x : WLog} (h : LastSt acc ph x) (r : PRec) :
    (ph = [] ∧ ((appendL x r).2 = 2 ∨ (appendL x r).2 = 4 ∨ (appendL x r).2 = 3) ∧ (appendL x r).1 = x) ∨
    (ph = [] ∧ (appendL x r).2 = 0 ∧ OkR r ∧ (ents acc).length + (ent r).length ≤ 16384 ∧ LastSt (acc ++ [r]) [] (appendL x r).1) ∨
    (ph = [] ∧ (appendL x r).2 = 9 ∧ OkR r ∧ (ents acc).length + (ent r).length ≤ 16384 ∧ LastSt acc (acc ++ [r]) (appendL x r).1) ∨
    (0 < ph.length ∧ (appendL x r).2 = 9 ∧ (appendL x r).1 = x) := by
  rcases h with ⟨rfl, fu, h0, h1, rfl⟩ | ⟨r0, b, h0, h1, rfl, rfl⟩
  · by_cases hr : roomE false r (ents acc).length = 0
    · obtain ⟨hok, hl⟩ := roomE_inv hr
      rw [appendL_lgF hr h0]
      by_cases hf0 : fu = 0
      · rw [if_pos hf0]
        exact .inr (.inr (.inl ⟨rfl, rfl, hok, hl, .inr ⟨r, false, hok, hl, rfl, rfl⟩⟩))
      · rw [if_neg hf0]
        by_cases hf1 : fu = 1
        · rw [if_pos hf1]
          exact .inr (.inr (.inl ⟨rfl, rfl, hok, hl, .inr ⟨r, true, hok, hl, rfl, rfl⟩⟩))
        · rw [if_neg hf1]
          exact .inr (.inl ⟨rfl, rfl, hok, hl, .inl ⟨rfl, fu - 2, by omega, by omega, rfl⟩⟩)
    · rw [appendL_lgF_no hr]
      refine .inl ⟨rfl, ?_, rfl⟩
      revert hr
      unfold roomE
      rw [if_neg (by decide)]
      repeat' split
      all_goals simp
  · rw [appendL_down]
    exact .inr (.inr (.inr ⟨by simp, rfl, rfl⟩))
/-- Opening this tape tells these records, and leaves that tape. -/
def Opens (t : TTape) (l : List PRec) (t' : TTape) : Prop := openT t = (t', 0) ∧ t.best = (l, ents l) ∧ t.fuse ≤ 255 ∧ t.s0.b.length + t.s0.loose.length ≤ 100000 ∧ t.s1.b.length + t.s1.loose.length ≤ 100000
theorem opens_clean (l : List PRec) (h : ∀ r ∈ l, OkR r) (hl : (ents l).length ≤ 16384) : Opens (cleanT (ents l)) l (cleanT (ents l)) :=
  ⟨openT_clean l h, best_clean l h, by show (-1 : Int) ≤ _; omega, by show (ents l).length + 0 ≤ _; omega, by show (ents l).length + 0 ≤ _; omega⟩
theorem ents_one (r : PRec) : ents [r] = ent r := by rw [ents_cons]; simp [ents]
/-- A piece of an entry is none, or the whole. -/
theorem scan_piece {r : PRec} (h : OkR r) (j : Nat) : scanOf ((ent r).take j) = ([], 0) ∨ (ent r).take j = ent r := by
  obtain ⟨k, hk, h1, h2⟩ := scanOf_cut [r] (by simpa using h) j
  rw [ents_one] at h1
  match k, hk with
  | 0, _ => exact .inl (by rw [h1]; simp [ents])
  | 1, _ =>
    right
    rw [show List.take 1 [r] = [r] from rfl, ents_one] at h2
    exact List.take_of_length_le h2
theorem best_piece {acc : List PRec} {r : PRec} (ha : ∀ r ∈ acc, OkR r) (hr : OkR r) (j : Nat) :
    bestOf (ents acc ++ (ent r).take j) (ents acc) = (acc, ents acc) ∨ bestOf (ents acc ++ (ent r).take j) (ents acc) = (acc ++ [r], ents (acc ++ [r])) := by
  have h0 := scanOf_ents acc ha ((ent r).take j)
  have h1 := scanOf_ents0 acc ha
  have he : ents (acc ++ [r]) = ents acc ++ ent r := by rw [ents_append, ents_one]
  rcases scan_piece hr j with h2 | h2
  · left
    rw [h2] at h0
    unfold bestOf
    rw [h0, h1, if_neg (by simp)]
    simp
  · right
    rw [h2]
    have h3 := scanOf_ents0 (acc ++ [r]) (by intro a h; rcases List.mem_append.1 h with h | h; exact ha a h; rw [List.mem_singleton] at h; subst h; exact hr)
    rw [he] at h3
    unfold bestOf
    rw [h3, h1, if_neg (by simp), he]
    dsimp only
    rw [List.take_length]
theorem best_piece2 {acc : List PRec} {r : PRec} (ha : ∀ r ∈ acc, OkR r) (hr : OkR r) (j : Nat) : bestOf (ents acc ++ ent r) (ents acc ++ (ent r).take j) = (acc ++ [r], ents (acc ++ [r])) := by
  have he : ents (acc ++ [r]) = ents acc ++ ent r := by rw [ents_append, ents_one]
  have h3 := scanOf_ents0 (acc ++ [r]) (by intro a h; rcases List.mem_append.1 h with h | h; exact ha a h; rw [List.mem_singleton] at h; subst h; exact hr)
  rw [he] at h3
  have hle := scanOf_le (ents acc ++ (ent r).take j)
  rw [List.length_append, List.length_take] at hle
  unfold bestOf
  rw [h3, if_neg (by simp; omega), he]
  dsimp only
  rw [List.take_length]
/-- Behind a crash: what opening tells is all that was answered, or that and what was under way. -/
theorem opens_crash {acc ph : List PRec} {x : WLog} (h : LastSt acc ph x) (ha : ∀ r ∈ acc, OkR r) (hl : (ents acc).length ≤ 16384) (keep : Int) :
    ∃ l, (l = acc ∨ (0 < ph.length ∧ l = ph)) ∧ (∀ r ∈ l, OkR r) ∧ (ents l).length ≤ 16384 ∧ (ph = [] → crashT x.t keep = cleanT (ents acc)) ∧ Opens (crashT x.t keep) l (cleanT (ents l)) := by
  rcases h with ⟨rfl, fu, h0, h1, rfl⟩ | ⟨r, b, hr, h1, rfl, rfl⟩
  · exact ⟨acc, .inl rfl, ha, hl, fun _ => rfl, opens_clean acc ha hl⟩
  · have he : ents (acc ++ [r]) = ents acc ++ ent r := by rw [ents_append, ents_one]
    have ha2 : ∀ a ∈ acc ++ [r], OkR a := by intro a h; rcases List.mem_append.1 h with h | h; exact ha a h; rw [List.mem_singleton] at h; subst h; exact hr
    obtain ⟨j, hj⟩ : ∃ j, (min (max keep 0) ((ent r).length : Int)).toNat = j := ⟨_, rfl⟩
    have hjl : ((ent r).take j).length ≤ (ent r).length := by rw [List.length_take]; omega
    cases b with
    | false =>
      have hc : crashT (downL acc r false).t keep = spT (ents acc ++ (ent r).take j) (ents acc) := by rw [← hj]; rfl
      rw [hc]
      have key : ∀ l, bestOf (ents acc ++ (ent r).take j) (ents acc) = (l, ents l) → Opens (spT (ents acc ++ (ent r).take j) (ents acc)) l (cleanT (ents l)) := fun l hb =>
        ⟨by rw [openT_sp, hb], hb, by show (-1 : Int) ≤ _; omega, by show (ents acc ++ (ent r).take j).length + 0 ≤ _; rw [List.length_append]; omega, by show (ents acc).length + 0 ≤ _; omega⟩
      rcases best_piece ha hr j with hb | hb
      · exact ⟨acc, .inl rfl, ha, hl, fun h => by simp at h, key _ hb⟩
      · exact ⟨acc ++ [r], .inr ⟨by simp, rfl⟩, ha2, by rw [he, List.length_append]; exact h1, fun h => by simp at h, key _ hb⟩
    | true =>
      have hc : crashT (downL acc r true).t keep = spT (ents acc ++ ent r) (ents acc ++ (ent r).take j) := by rw [← hj]; rfl
      rw [hc]
      have hb := best_piece2 ha hr j
      exact ⟨acc ++ [r], .inr ⟨by simp, rfl⟩, ha2, by rw [he, List.length_append]; exact h1, fun h => by simp at h,
        ⟨by rw [openT_sp, hb], hb, by show (-1 : Int) ≤ _; omega, by show (ents acc ++ ent r).length + 0 ≤ _; rw [List.length_append]; omega, by show (ents acc ++ (ent r).take j).length + 0 ≤ _; rw [List.length_append]; omega⟩⟩
/-- One side is lost. -/
def lost0 (b : List UInt8) : TTape := ⟨⟨[], [], false, false, true⟩, side b, -1, false⟩
def lost1 (b : List UInt8) : TTape := ⟨side b, ⟨[], [], false, false, true⟩, -1, false⟩
theorem ents_nil_of {l : List PRec} (h : (ents l).length = 0) : l = [] := by
  cases l with
  | nil => rfl
  | cons r l => rw [ents_cons, List.length_append, ent_length] at h; omega
theorem opens_lost0 (l : List PRec) (h : ∀ r ∈ l, OkR r) (hl : (ents l).length ≤ 16384) : Opens (lost0 (ents l)) l (lost0 (ents l)) := by
  have hb : (lost0 (ents l)).best = (l, ents l) := by
    show bestOf [] (ents l) = _
    unfold bestOf
    rw [scanOf_ents0 l h, scanOf_nil]
    by_cases h0 : 0 < (ents l).length
    · rw [if_pos h0]; simp
    · rw [ents_nil_of (l := l) (by omega)]; simp [ents]
  refine ⟨?_, hb, by show (-1 : Int) ≤ _; omega, by show 0 + 0 ≤ _; omega, by show (ents l).length + 0 ≤ _; omega⟩
  unfold openT
  rw [hb, show (lost0 (ents l)).s0.lost = true from rfl, show (lost0 (ents l)).s1.lost = false from rfl, show (lost0 (ents l)).s1.seen = ents l from rfl, if_neg (by decide), beq_self_eq_true]
  rfl
theorem opens_lost1 (l : List PRec) (h : ∀ r ∈ l, OkR r) (hl : (ents l).length ≤ 16384) : Opens (lost1 (ents l)) l (lost1 (ents l)) := by
  have hb : (lost1 (ents l)).best = (l, ents l) := by
    show bestOf (ents l) [] = _
    unfold bestOf
    rw [scanOf_ents0 l h, scanOf_nil, if_neg (by simp)]
    simp
  refine ⟨?_, hb, by show (-1 : Int) ≤ _; omega, by show (ents l).length + 0 ≤ _; omega, by show 0 + 0 ≤ _; omega⟩
  unfold openT
  rw [hb, show (lost1 (ents l)).s1.lost = true from rfl, show (lost1 (ents l)).s0.lost = false from rfl, show (lost1 (ents l)).s0.seen = ents l from rfl, if_neg (by decide), beq_self_eq_true]
  rfl
/-- Opening, as what it tells. -/
def TellsPost (w : World) (g : Nat) (P : Nat → Prop) (l : List PRec) (t' : TTape) (e : Ending) (w' : World) : Prop :=
  ∃ q v vs, e = .returned (.tuple #[.pointer (some ⟨q, 0, none⟩), v, .int .i64 0]) ∧ w.grownBy w' (some g) ∧ TapeAt w' g P t' ∧ w'.ownsRow w.heap.size 51 7 v l.length vs ∧ RowsOf (RRec w') l vs
theorem open_tells (w : World) (g : Nat) (P : Nat → Prop) (t t' : TTape) (l : List PRec) (h : TapeAt w g P t) (hP : ∀ k, w.heap.size ≤ k → P k) (hPg : ∀ k, P k → k ≠ g) (ho : Opens t l t') :
    Calls Try.prog 33 #[.pointer (some ⟨g, 0, none⟩)] w (TellsPost w g P l t') :=
  (wopen_any w g P t h hP hPg (by have := ho.2.2.1; omega) (by have := ho.2.2.2.1; omega) (by have := ho.2.2.2.2; omega)).mono fun e w' h => by
    obtain ⟨h1, ⟨h2, _⟩ | ⟨_, q, v, vs, h3, h4, h5, h6, h7, h8⟩⟩ := h
    · exact absurd (by rw [ho.1]) h2
    · rw [ho.1] at h5
      rw [ho.2.1] at h7 h8
      exact ⟨q, v, vs, h3, h1, h5.imp fun _ _ hp => hp.1, h7, h8⟩
end Go.Proofs.Ytmleldgohfcdbaa
