/- Contracts of bytes.Equal, bytes.Clone, hash.Put, hash.Get and of the reference's Same, Num, Read. -/
import Derived.Test.YtmleldgohfcdbaaLaw
import Derived.WalkLawsBesides
import Derived.LoopTactic
import Derived.Outline
import Derived.IntWalk
import Derived.Lib.Hide
import Derived.Laws.BitsAllLaws
import Derived.Deep.QuietTactic
import Derived.BigQuiet
import Derived.Lib.LazyBuf
namespace Go.Proofs.Ytmleldgohfcdbaa
set_option linter.unusedVariables false
set_option linter.unusedSimpArgs false
open Go.RowKit
set_option maxHeartbeats 400000 in
theorem equal_any (A B : Option Addr) (c d : Nat) (w : World) (l m : List UInt8) (hr : RB w A l) (hs : RB w B m) :
    Calls Try.prog 46 #[.slice A l.length c, .slice B m.length d] w fun e w' => e = .returned (.bool (l == m)) ∧ w = w' := by
  have h1 := run_str w hr c
  have h2 := run_str w hs d
  go_enter Try.func46, Try.ntmps46
  go_wp2_with fail
  go_ret
  exact ⟨by first | rfl | simp, rfl⟩
set_option maxRecDepth 100000 in
set_option maxHeartbeats 400000 in
theorem clone_any (A : Option Addr) (c : Nat) (w : World) (l : List UInt8) (hn : l.length ≤ 140737488355328) (hr : RB w A l) :
    Calls Try.prog 47 #[.slice A l.length c] w fun e w' => ∃ v, e = .returned v ∧ OwnB w' w.heap.size v l ∧ Below w.heap.size w w' := by
  have hnil := fun w' => Lib.run_eql_slice_nil (P := Try.prog) w' 22 5 A l.length c 0 0 Try.underlying22
  go_enter Try.func47, Try.ntmps47
  cases A with
  | none =>
    have e : l = [] := by
      rcases l with _ | ⟨x, r⟩
      · rfl
      · obtain ⟨ad, h, _⟩ := hr 0 (by simp)
        cases h
    subst e
    simp only [List.length_nil] at hnil
    go_wp2_with fail
    go_ret
    exact ⟨_, rfl, OwnB.nil _ _, Below.refl _ _⟩
  | some ad =>
    go_wp2_with (at_builtin; refine wpList_copyB (by rfl) (.tmp 5) (.tmp 6) rfl w.heap.size (.slice (some ⟨w.heap.size, 0, none⟩) 0 0) rfl (owns_lit w w.heap.size _ 1 (Nat.le_refl _)) (some ad) c l rfl (hr.alloc _) hn (by simp) ?_; intro A2 c2 w2 hown2 hr2 hl2 hf2 hb2)
    go_ret
    exact ⟨_, rfl, hown2, ((Below.refl _ w).alloc (Nat.le_refl _) _).trans hb2⟩
/-- A number in n bytes, the highest one first. -/
def be : Nat → Nat → List UInt8
  | 0, _ => []
  | n + 1, u => UInt8.ofNat (u / 256 ^ n) :: be n u
theorem be_length (n u : Nat) : (be n u).length = n := by
  induction n with
  | zero => rfl
  | succ n ih => simp [be, ih]
theorem be_get (n u j : Nat) (h : j < n) : (be n u)[j]'(by rw [be_length]; exact h) = UInt8.ofNat (u / 256 ^ (n - 1 - j)) := by
  induction n generalizing j with
  | zero => omega
  | succ n ih =>
    cases j with
    | zero => simp [be]
    | succ j =>
      simp only [be, List.getElem_cons_succ]
      rw [ih j (by omega)]
      congr 3
      omega
/-- The row is the same one, or a new one. -/
def NewOr (w : World) (v v' : Value) : Prop := v'.ownBlock = v.ownBlock ∨ ∃ g, v'.ownBlock = some g ∧ w.heap.size ≤ g
theorem NewOr.refl (w : World) (v : Value) : NewOr w v v := .inl rfl
theorem NewOr.grown {w w1 w2 : World} {v v1 : Value} (h : NewOr w v v1) (hg : w.grownBy w1 v.ownBlock) (hg2 : w1.grownBy w2 v1.ownBlock) : w.grownBy w2 v.ownBlock :=
  ⟨hg2.os.trans hg.os, hg2.tape.trans hg.tape, hg2.output.trans hg.output, Nat.le_trans hg.size hg2.size, fun k hk hne => by
    refine (hg2.block k (Nat.lt_of_lt_of_le hk hg.size) ?_).trans (hg.block k hk hne)
    rcases h with e | ⟨g, e, hgs⟩
    · rw [e]; exact hne
    · rw [e]; intro e2; injection e2 with e2; omega⟩
theorem NewOr.trans {w w1 : World} {v v1 v2 : Value} (h : NewOr w v v1) (hs : w.heap.size ≤ w1.heap.size) (h2 : v2.ownBlock = v1.ownBlock ∨ v2.ownBlock = some w1.heap.size) : NewOr w v v2 := by
  rcases h2 with e | e
  · rcases h with e1 | ⟨g, e1, hg⟩
    · exact .inl (e.trans e1)
    · exact .inr ⟨g, e.trans e1, hg⟩
  · exact .inr ⟨_, e, hs⟩
theorem put_byte (u k : Nat) : bv (UInt8.ofNat (u / 256 ^ k)) = .int .u8 ((u : Int) / 2 ^ (8 * k) % 256) := by
  unfold bv
  congr 1
  rw [UInt8.toNat_ofNat', show (256 : Nat) = 2 ^ 8 from rfl, ← Nat.pow_mul]
  simp
theorem be_take_succ (n u j : Nat) (h : j < n) : (be n u).take (j + 1) = (be n u).take j ++ [UInt8.ofNat (u / 256 ^ (n - 1 - j))] := by
  rw [List.take_succ_eq_append_getElem (by rw [be_length]; exact h), be_get n u j h]
set_option maxRecDepth 100000 in
set_option maxHeartbeats 400000 in
theorem put_any (w : World) (B : Nat) (v : Value) (l : List UInt8) (hown : OwnB w B v l) (hB : B ≤ w.heap.size) (hl : l.length ≤ 100000000000000) (n : Nat) (hn : n ≤ 8) (u : Nat) :
    Calls Try.prog 44 #[v, .int .u64 u, .int .i64 n] w fun e w' => ∃ v', e = .returned v' ∧ OwnB w' B v' (l ++ be n u) ∧ w.grownBy w' v.ownBlock ∧ NewOr w v v' := by
  go_enter Try.func44, Try.ntmps44
  go_wp2_with fail
  go_loopw [0, 7] (fun b i wr => ∃ j : Nat, j ≤ n ∧ i = .int .i64 ((n : Int) - 1 - j) ∧ OwnB wr B b (l ++ (be n u).take j) ∧ w.grownBy wr v.ownBlock ∧ NewOr w v b) (fun _ i _ => ((intOf i) + 1).toNat)
  case atStart => exact ⟨0, by omega, by simp, by simpa using hown, World.grownBy.refl w _, .refl w v⟩
  case round =>
    obtain ⟨j, hj, rfl, hown, hg, hno⟩ := hrel
    by_cases hlt : j < n
    · have hsz := hg.size
      have hx := put_byte u (n - 1 - j)
      have hrb : RB (wr.alloc (.cells #[.int .u8 ((u : Int) / 2 ^ (8 * (n - 1 - j)) % 256)] 5)) (some ⟨wr.heap.size, 0, none⟩) [UInt8.ofNat (u / 256 ^ (n - 1 - j))] := by
        rw [← hx]; exact RB_new wr [_] 5 (0, 0)
      have Hx := Lib.hid hx; clear hx
      have hlen : (l ++ (be n u).take j).length ≤ 100000000000008 := by simp [be_length]; omega
      go_wp2_with (at_builtin; refine wpList_appB (by rfl) (.tmp 14) (.tmp 20) rfl B _ (l ++ (be n u).take j) rfl (hown.below ((Below.refl _ wr).alloc (Nat.le_refl _) _)) (some ⟨wr.heap.size, 0, none⟩) 1 [UInt8.ofNat (u / 256 ^ (n - 1 - j))] rfl hrb (by simp only [List.length_singleton]; omega) (Nat.le_trans hB (Nat.le_trans hsz (by simp))) ?_; intro v2 w2 hown2 hg2 hno2)
      go_roundw
      case rel => exact ⟨j + 1, by omega, by go_num, by rw [be_take_succ n u j hlt, ← List.append_assoc]; exact hown2, hno.grown hg ((World.grownBy_alloc wr _ _).trans hg2), hno.trans (w1 := wr.alloc _) (by simp; omega) hno2⟩
      case measure => simp [intOf]; omega
    · go_wp2_with fail
      go_ret
      have e : j = n := by omega
      subst e
      rw [List.take_of_length_le (by rw [be_length]; omega)] at hown
      exact ⟨_, rfl, hown, hg, hno⟩
/-- The number of bytes, the highest one first. -/
def beStep (v : Nat) (c : UInt8) : Nat := (v * 256 + c.toNat) % 18446744073709551616
def ofBe (l : List UInt8) : Nat := l.foldl beStep 0
theorem ofBe_lt (l : List UInt8) : ofBe l < 18446744073709551616 := by
  have h : ∀ (l : List UInt8) (v : Nat), v < 18446744073709551616 → l.foldl beStep v < 18446744073709551616 := by
    intro l
    induction l with
    | nil => exact fun v h => h
    | cons c l ih => exact fun v _ => ih _ (Nat.mod_lt _ (by omega))
  exact h l 0 (by omega)
theorem ofBe_take_succ (l : List UInt8) (k : Nat) (h : k < l.length) : ofBe (l.take (k + 1)) = beStep (ofBe (l.take k)) l[k] := by
  unfold ofBe
  rw [List.take_succ_eq_append_getElem h, List.foldl_append]
  rfl
theorem ofBe_small (l : List UInt8) : ofBe l < 256 ^ l.length := by
  have hs : ∀ (k : Nat), k ≤ l.length → ofBe (l.take k) < 256 ^ k := by
    intro k
    induction k with
    | zero => intro _; simp [ofBe]
    | succ k ih =>
      intro hk
      rw [ofBe_take_succ l k (by omega)]
      have h1 := ih (by omega)
      have h2 := (l[k]'(by omega)).toNat_lt
      unfold beStep
      refine Nat.lt_of_le_of_lt (Nat.mod_le _ _) ?_
      rw [Nat.pow_succ]
      omega
  have h := hs l.length (Nat.le_refl _)
  rwa [List.take_length] at h
theorem get_in (v : Nat) (c : UInt8) : bits .or .u64 (IntKind.u64.wrap ((v : Int) * 256)) (IntKind.u64.wrap (c.toNat : Int)) = ((beStep v c : Nat) : Int) := by
  have hc := c.toNat_lt
  have e : IntKind.u64.wrap ((v : Int) * 256) = ((v * 256 % 18446744073709551616 : Nat) : Int) := by rw [IntKind.wrap_u64]; omega
  have e2 : IntKind.u64.wrap (c.toNat : Int) = (c.toNat : Int) := by rw [IntKind.wrap_u64]; omega
  rw [e, e2, u64_or_nat _ _ (Nat.mod_lt _ (by omega)) (by omega), nat_join 8 _ _ (by omega) (by omega)]
  unfold beStep
  omega
theorem read_in (v : Nat) (c : UInt8) : IntKind.u64.wrap (IntKind.u64.wrap ((v : Int) * 256) + IntKind.u64.wrap (c.toNat : Int)) = ((beStep v c : Nat) : Int) := by
  have hc := c.toNat_lt
  rw [IntKind.wrap_u64, IntKind.wrap_u64, IntKind.wrap_u64]
  unfold beStep
  omega
set_option maxHeartbeats 400000 in
theorem get_any (A : Option Addr) (c : Nat) (w : World) (l : List UInt8) (hn : l.length ≤ 9000000000000000) (hr : RB w A l) :
    Calls Try.prog 45 #[.slice A l.length c] w fun e w' => e = .returned (.int .u64 (ofBe l)) ∧ w = w' := by
  go_enter Try.func45, Try.ntmps45
  go_wp2
  go_loop [3, 5, 8] (fun v _ i => ∃ k : Nat, k ≤ l.length ∧ i = .int .i64 k ∧ v = .int .u64 (ofBe (l.take k))) (fun _ _ i => l.length - (intOf i).toNat)
  case atStart => exact ⟨0, by omega, rfl, rfl⟩
  case round =>
   obtain ⟨k, hk, rfl, rfl⟩ := hrel
   have hu := ofBe_lt (l.take k)
   have hs := Lib.hid (ofBe_take_succ l k)
   generalize hg : ofBe (l.take k) = u at hu hs
   have Hg := Lib.hid hg; clear hg
   by_cases hlt : k < l.length
   · obtain ⟨ad, rfl, hcell⟩ := hr.at_ hlt
     go_wp2
     exact ⟨⟨k + 1, by omega, by go_num, int_eq ((get_in _ _).trans (by rw [hs.out hlt]))⟩, by simp [intOf]; omega⟩
   · go_wp2
     go_ret
     have e : k = l.length := by omega
     subst e
     rw [List.take_length] at Hg
     exact ⟨by rw [Hg.out]; rfl, rfl⟩
set_option maxHeartbeats 400000 in
theorem read_any (A : Option Addr) (c : Nat) (w : World) (l : List UInt8) (hn : l.length ≤ 9000000000000000) (hr : RB w A l) :
    Calls Try.prog 49 #[.slice A l.length c] w fun e w' => e = .returned (.int .u64 (ofBe l)) ∧ w = w' := by
  go_enter Try.func49, Try.ntmps49
  go_wp2
  go_loop [3, 4] (fun v i => ∃ k : Nat, k ≤ l.length ∧ i = .int .i64 k ∧ v = .int .u64 (ofBe (l.take k))) (fun _ i => l.length - (intOf i).toNat)
  case atStart => exact ⟨0, by omega, rfl, rfl⟩
  case round =>
   obtain ⟨k, hk, rfl, rfl⟩ := hrel
   have hu := ofBe_lt (l.take k)
   have hs := Lib.hid (ofBe_take_succ l k)
   generalize hg : ofBe (l.take k) = u at hu hs
   have Hg := Lib.hid hg; clear hg
   by_cases hlt : k < l.length
   · obtain ⟨ad, rfl, hcell⟩ := hr.at_ hlt
     go_wp2
     exact ⟨⟨k + 1, by omega, by go_num, int_eq ((read_in _ _).trans (by rw [hs.out hlt]))⟩, by simp [intOf]; omega⟩
   · go_wp2
     go_ret
     have e : k = l.length := by omega
     subst e
     rw [List.take_length] at Hg
     exact ⟨by rw [Hg.out]; rfl, rfl⟩
theorem num_set (n u j : Nat) (h : j < n) : (List.replicate (n - j) (0 : UInt8) ++ (be n u).drop (n - j)).set (n - 1 - j) (UInt8.ofNat (u / 256 ^ j)) = List.replicate (n - (j + 1)) 0 ++ (be n u).drop (n - (j + 1)) := by
  have e : n - j = (n - (j + 1)) + 1 := by omega
  have e2 : (be n u).drop (n - (j + 1)) = UInt8.ofNat (u / 256 ^ j) :: (be n u).drop (n - j) := by
    rw [List.drop_eq_getElem_cons (by rw [be_length]; omega), be_get n u _ (by omega), ← e, show n - 1 - (n - (j + 1)) = j from by omega]
  rw [e2, e, List.replicate_succ', List.append_assoc, show n - 1 - j = (List.replicate (n - (j + 1)) (0 : UInt8)).length + 0 from by simp; omega, List.set_append_right _ _ (by simp)]
  simp
theorem num_byte (u j : Nat) : Value.int .u8 ((((u / 256 ^ j : Nat)) : Int) % 256) = bv (UInt8.ofNat (u / 256 ^ j)) := by
  unfold bv
  congr 1
theorem made_zero (n : Nat) : (madeCells (Value.int .u8 0).cells (n * 1)).toList = (List.replicate n (0 : UInt8)).map bv := by
  apply List.ext_getElem
  · simp [madeCells]
  · intro i h1 h2
    simp [madeCells, Value.cells, bv, Nat.mod_one]
set_option maxRecDepth 100000 in
set_option maxHeartbeats 400000 in
theorem num_any (w : World) (n : Nat) (hn : n ≤ 8) (u : Nat) (hu : u < 18446744073709551616) :
    Calls Try.prog 48 #[.int .u64 u, .int .i64 n] w fun e w' => ∃ v', e = .returned v' ∧ OwnB w' w.heap.size v' (be n u) ∧ Below w.heap.size w w' := by
  obtain ⟨i0, hi, hz0, hz1, hz2⟩ := info_parts info_byte
  go_enter Try.func48, Try.ntmps48
  go_wp2_with (at_make; refine wpList_make_full w rfl (.tmp 7) (.tmp 7) 22 rfl w.heap.size 5 i0 _ 1 Try.underlying22 hi hz0 hz1 .i64 .i64 n n n rfl rfl rfl rfl (by rw [hz2]; omega) (by unfold maxLen; omega) (Nat.le_refl _) ?_; intro w1 hown1 hg1)
  have hown1' : OwnB w1 w.heap.size (.slice (some ⟨w.heap.size, 0, none⟩) n n) (List.replicate n 0) := by
    unfold OwnB; rw [← made_zero, List.length_replicate]; exact hown1
  have hb1 : Below w.heap.size w w1 := (Below.refl _ w).grown hg1 (Nat.le_refl _) (by simp)
  go_loopw [0, 6] (fun v i wr => ∃ j : Nat, j ≤ n ∧ i = .int .i64 ((n : Int) - 1 - j) ∧ v = .int .u64 ((u / 256 ^ j : Nat) : Int) ∧
      OwnB wr w.heap.size (.slice (some ⟨w.heap.size, 0, none⟩) n n) (List.replicate (n - j) 0 ++ (be n u).drop (n - j)) ∧ Below w.heap.size w wr) (fun _ i _ => ((intOf i) + 1).toNat)
  case atStart => exact ⟨0, by omega, by simp, by simp, by simpa [List.drop_eq_nil_of_le (Nat.le_of_eq (be_length n u))] using hown1', hb1⟩
  case round =>
    obtain ⟨j, hj, rfl, rfl, hown, hb⟩ := hrel
    by_cases hlt : j < n
    · have hll : n - 1 - j < (List.replicate (n - j) (0 : UInt8) ++ (be n u).drop (n - j)).length := by simp [be_length]; omega
      have hq : u / 256 ^ j < 18446744073709551616 := Nat.lt_of_le_of_lt (Nat.div_le_self _ _) hu
      have hz := hown.set (n - 1 - j) hll (UInt8.ofNat (u / 256 ^ j))
      rw [num_set n u j hlt] at hz
      rw [← num_byte] at hz
      have hz2 := hb.setCell (p := ⟨w.heap.size, n - 1 - j, none⟩) (Nat.le_refl _) (Value.int .u8 ((((u / 256 ^ j : Nat)) : Int) % 256))
      have hc := hown.cell hll
      have hf := hown.free (n - 1 - j)
      have hd : u / 256 ^ (j + 1) = u / 256 ^ j / 256 := by rw [Nat.pow_succ, Nat.div_div_eq_div_mul]
      have Hd := Lib.hid hd; clear hd
      generalize u / 256 ^ j = q at hz hz2 hq Hd
      generalize (List.replicate (n - j) (0 : UInt8) ++ (be n u).drop (n - j))[n - 1 - j] = x at hc
      go_wp2
      exact ⟨⟨j + 1, by omega, by go_num, int_eq (by rw [Hd.out]; omega), hz, hz2⟩, by simp [intOf]; omega⟩
    · go_wp2
      go_ret
      have e : j = n := by omega
      subst e
      simp only [Nat.sub_self, List.replicate_zero, List.nil_append, List.drop_zero] at hown
      exact ⟨_, rfl, hown, hb⟩
theorem RB.of_drewN {w : World} {A : Option Addr} {l : List UInt8} {k : Nat} (h : RB w A l) : RB (w.drewN k) A l := h
theorem beq_of_take {l m : List UInt8} {k : Nat} (hl : l.length = m.length) (hk : k < l.length) (h : ¬ l[k] = m[k]'(by omega)) : (l == m) = false := by
  rw [beq_eq_false_iff_ne]
  rintro rfl
  exact h rfl
set_option maxRecDepth 100000 in
set_option maxHeartbeats 400000 in
theorem same_any (A B : Option Addr) (c d : Nat) (w : World) (l m : List UInt8) (hn : l.length ≤ 9000000000000000) (hm : m.length ≤ 9000000000000000) (hr : RB w A l) (hs : RB w B m) :
    Calls Try.prog 23 #[.slice A l.length c, .slice B m.length d] w fun e w' => e = .returned (.bool (l == m)) ∧ ∃ n, w' = w.drewN n := by
  by_cases hlen : l.length = m.length
  · have hl0 : ((l.length : Int) != (m.length : Int)) = false := by rw [bne_eq_false_iff_eq]; omega
    have Hlen := Lib.hid hlen
    clear hlen
    go_enter Try.func23, Try.ntmps23
    go_wp2
    go_loopw [5] (fun i wr => ∃ k : Nat, k ≤ l.length ∧ i = .int .i64 k ∧ (∃ n, wr = w.drewN n) ∧ l.take k = m.take k) (fun i _ => l.length - (intOf i).toNat)
    case atStart => exact ⟨0, by omega, rfl, ⟨0, rfl⟩, rfl⟩
    case round =>
      obtain ⟨k, hk, rfl, ⟨n, rfl⟩, heq⟩ := hrel
      have Heq := Lib.hid heq
      clear heq
      by_cases hlt : k < l.length
      · have hlt2 : k < m.length := by have := Hlen.out; omega
        obtain ⟨ad, rfl, hcell⟩ := hr.at_ hlt
        obtain ⟨ad2, rfl, hcell2⟩ := hs.at_ hlt2
        have i1 : (0 : Int) ≤ (k : Int) := by omega
        have i2 : (k : Int) < (l.length : Int) := by omega
        have i3 : (k : Int) < (m.length : Int) := by omega
        by_cases he : l[k] = m[k]
        · have hb : ((l[k].toNat : Int) != (m[k].toNat : Int)) = false := by rw [he, bne_self_eq_false]
          have He := Lib.hid he; clear he
          go_wp2
          go_quiet (fail)
          go_wp2
          exact ⟨⟨k + 1, by omega, by go_num, ⟨_, rfl⟩, by rw [List.take_succ_eq_append_getElem hlt, List.take_succ_eq_append_getElem hlt2, Heq.out, He.out]⟩, by simp [intOf]; omega⟩
        · have hb : ((l[k].toNat : Int) != (m[k].toNat : Int)) = true := by rw [bne_iff_ne]; intro e; exact he (UInt8.toNat_inj.1 (by omega))
          have hf := beq_of_take Hlen.out hlt he
          have He := Lib.hid he; clear he
          have Hf := Lib.hid hf; clear hf
          go_wp2
          go_quiet (fail)
          go_wp2
          go_ret
          exact ⟨by rw [Hf.out]; rfl, n + nq, by simp⟩
      · go_wp2
        go_ret
        have e : l = m := by
          have h := Heq.out
          have h2 := Hlen.out
          rwa [List.take_of_length_le (by omega), List.take_of_length_le (by omega)] at h
        exact ⟨by rw [e, beq_self_eq_true]; rfl, n, rfl⟩
  · have hl0 : ((l.length : Int) != (m.length : Int)) = true := by rw [bne_iff_ne]; omega
    have hf : (l == m) = false := by rw [beq_eq_false_iff_ne]; rintro rfl; exact hlen rfl
    have Hf := Lib.hid hf; clear hf
    go_enter Try.func23, Try.ntmps23
    go_wp2
    go_ret
    exact ⟨by rw [Hf.out]; rfl, 0, rfl⟩
end Go.Proofs.Ytmleldgohfcdbaa
