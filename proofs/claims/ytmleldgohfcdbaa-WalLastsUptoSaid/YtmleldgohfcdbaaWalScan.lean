/- wal.Scan: the records at the front of bytes. -/
import Derived.Test.YtmleldgohfcdbaaWalOne
namespace Go.Proofs.Ytmleldgohfcdbaa
set_option linter.unusedVariables false
set_option linter.unusedSimpArgs false
open Go.RowKit
theorem owns_below {w w' : World} {base : Nat} {E : TypeId} {size n : Nat} {v : Value} {vs : List Value} (h : w.ownsRow base E size v n vs) (hb : Below w.heap.size w w') : w'.ownsRow base E size v n vs :=
  h.kept (grown_of_below hb none) (by
    cases hv : v.ownBlock with
    | none => exact .inl rfl
    | some k => exact .inr (by simp))
theorem oneOf_bd {b : List UInt8} {r : PRec} {n : Nat} (h : oneOf b = some (r, n)) : 8 ≤ n ∧ n ≤ b.length := by
  unfold oneOf at h
  split at h
  · cases h
  · split at h
    · cases h
    · split at h
      · cases h
      · split at h
        · injection h with h
          injection h with _ h
          omega
        · cases h
def scanOf (b : List UInt8) : List PRec × Nat :=
  match h : oneOf b with
  | none => ([], 0)
  | some (r, n) => (r :: (scanOf (b.drop n)).1, n + (scanOf (b.drop n)).2)
termination_by b.length
decreasing_by all_goals (have := oneOf_bd h; simp only [List.length_drop]; omega)
theorem scanOf_none {b : List UInt8} (h : oneOf b = none) : scanOf b = ([], 0) := by
  rw [scanOf]
  split
  · rfl
  · rename_i h2
    rw [h] at h2
    cases h2
theorem scanOf_some {b : List UInt8} {r : PRec} {n : Nat} (h : oneOf b = some (r, n)) : scanOf b = (r :: (scanOf (b.drop n)).1, n + (scanOf (b.drop n)).2) := by
  rw [scanOf]
  split
  · rename_i h2
    rw [h] at h2
    cases h2
  · rename_i r' n' h2
    rw [h] at h2
    injection h2 with h2
    injection h2 with h3 h4
    subst h3 h4
    rfl
def ScanPost (w : World) (o : List PRec × Nat) (e : Ending) (w' : World) : Prop :=
  ∃ v vs, e = .returned (.tuple #[v, .int .i64 o.2]) ∧ w'.ownsRow w.heap.size 51 7 v o.1.length vs ∧ RowsOf (RRec w') o.1 vs ∧ Below w.heap.size w w'
theorem info_rec : (Try.prog.info? 51).map (fun i => (i.zero, i.size, i.bytes)) = some (some zeroRec, 7, 112) := by kernel_rfl
set_option maxRecDepth 100000 in
set_option maxHeartbeats 1000000 in
theorem scan_any (A : Option Addr) (c : Nat) (w : World) (l : List UInt8) (hn : l.length ≤ 1000000000) (hlc : l.length ≤ c) (hr : RB w A l) :
    Calls Try.prog 29 #[.slice A l.length c] w (ScanPost w (scanOf l)) := by
  obtain ⟨res, hres⟩ : ∃ res, scanOf l = res := ⟨_, rfl⟩
  rw [hres]
  have Hres := Lib.hid hres
  clear hres
  go_enter Try.func29, Try.ntmps29
  go_wp2_with fail
  go_loopw [4, 5] (fun v i wr => ∃ (k : Nat) (acc : List PRec) (vs : List Value), k ≤ l.length ∧ acc.length ≤ k ∧ i = .int .i64 k ∧ wr.ownsRow w.heap.size 51 7 v acc.length vs ∧ RowsOf (RRec wr) acc vs ∧ Below w.heap.size w wr ∧
      Hid (scanOf l = (acc ++ (scanOf (l.drop k)).1, k + (scanOf (l.drop k)).2))) (fun _ i _ => l.length - (intOf i).toNat)
  case atStart => exact ⟨0, [], [], by omega, by simp, rfl, World.ownsRow_nil _ _ _ _, rfl, Below.refl _ _, by simp [Hid]⟩
  case round =>
    obtain ⟨k, acc, vs, hk, hak, rfl, hown, hrows, hbr, hinv⟩ := hrel
    have hrk := (hr.below hbr).cut (k := k) hlc
    have hld : (l.drop k).length = l.length - k := List.length_drop ..
    have hkc : (k : Int) ≤ (c : Int) := by omega
    by_cases hck : c = k
    · rw [if_pos hck] at hrk
      subst hck
      have hone := one_any A 0 wr (l.drop c) (by omega) (by omega) hrk
      rw [hld] at hone
      have hlz : l.length - c = 0 := by omega
      rw [hlz] at hone
      have hon : oneOf (l.drop c) = none := by unfold oneOf; rw [if_pos (by omega)]
      rw [hon] at hone
      have hsn := scanOf_none hon
      have hfin : res = (acc, c) := by rw [← Hres.out, hinv.out, hsn]; simp
      rw [hfin]
      have Hone := Lib.hid hone; clear hone hon hsn hfin
      go_wp2_with fail
      refine Hone.out.mono ?_
      rintro e w2 ⟨hb2, hp⟩
      replace hp : e = .returned (.tuple #[zeroRec, .int .i64 0]) := hp
      subst hp
      rw [show zeroRec = .agg #[.int .i64 0, .int .i64 0, .int .i64 0, .string ⟨#[]⟩, .slice none 0 0, .slice none 0 0, .slice none 0 0] from rfl]
      go_wp2_with fail
      go_ret2
      exact ⟨_, vs, rfl, World.ownsRow.alloc (owns_below hown hb2) _, (hrows.mono fun _ _ h => RRec.same (RRec.same h (.of_below hb2)) (SameT.alloc _ _ _)), (hbr.trans (hb2.mono hbr.size)).alloc (Nat.le_trans hbr.size hb2.size) _⟩
    · rw [if_neg hck] at hrk
      have hone := one_any (A.map (·.add k)) (c - k) wr (l.drop k) (by omega) (by omega) hrk
      rw [hld] at hone
      rcases hon : oneOf (l.drop k) with _ | ⟨r, n⟩
      · skip
        rw [hon] at hone
        have hsn := scanOf_none hon
        have hfin : res = (acc, k) := by rw [← Hres.out, hinv.out, hsn]; simp
        rw [hfin]
        have Hone := Lib.hid hone; clear hone hon hsn hfin
        go_wp2_with fail
        refine Hone.out.mono ?_
        rintro e w2 ⟨hb2, hp⟩
        replace hp : e = .returned (.tuple #[zeroRec, .int .i64 0]) := hp
        subst hp
        rw [show zeroRec = .agg #[.int .i64 0, .int .i64 0, .int .i64 0, .string ⟨#[]⟩, .slice none 0 0, .slice none 0 0, .slice none 0 0] from rfl]
        go_wp2_with fail
        go_ret2
        exact ⟨_, vs, rfl, World.ownsRow.alloc (owns_below hown hb2) _, (hrows.mono fun _ _ h => RRec.same (RRec.same h (.of_below hb2)) (SameT.alloc _ _ _)), (hbr.trans (hb2.mono hbr.size)).alloc (Nat.le_trans hbr.size hb2.size) _⟩
      · skip
        rw [hon] at hone
        have hss := scanOf_some hon
        have hbd := oneOf_bd hon
        have hinv2 : Hid (scanOf l = (acc ++ [r] ++ (scanOf (l.drop (k + n))).1, k + n + (scanOf (l.drop (k + n))).2)) := by
          show _ = _
          rw [hinv.out, hss, List.drop_drop, List.append_assoc, Nat.add_assoc]
          rfl
        have Hone := Lib.hid hone; clear hone hon hss
        obtain ⟨kv, hkv⟩ : ∃ kv, sv r.key = .string kv := ⟨_, rfl⟩
        rw [hld] at hbd
        go_wp2_with fail
        refine Hone.out.mono ?_
        rintro e w2 ⟨hb2, hp⟩
        obtain ⟨vs2, rfl, A1, c1, A2, c2, A3, c3, rfl, q1, q2, q3, q4, q5, q6⟩ : ∃ vs, e = .returned (.tuple #[.agg vs.toArray, .int .i64 n]) ∧ RRec w2 r vs := hp
        rw [hkv]
        have hrec2 : RRec w2 r [.int .i64 r.kind, .int .i64 r.id, .int .i64 r.size, .string kv, .slice A1 r.stripes.length c1, .slice A2 r.objects.length c2, .slice A3 r.drives.length c3] := ⟨A1, c1, A2, c2, A3, c3, by rw [hkv], q1, q2, q3, q4, q5, q6⟩
        clear q1 q2 q3 q4 q5 q6
        have hsr := hbr.size
        have hs2 := hb2.size
        have hown2 := owns_below hown hb2
        have hrows2 : RowsOf (RRec w2) acc vs := hrows.mono fun _ _ h => RRec.same h (.of_below hb2)
        have hown4 := (hown2.alloc (.cells #[.int .i64 r.kind, .int .i64 r.id, .int .i64 r.size, .string kv, .slice A1 r.stripes.length c1, .slice A2 r.objects.length c2, .slice A3 r.drives.length c3] 51)).alloc (.cells #[.int .i64 r.kind, .int .i64 r.id, .int .i64 r.size, .string kv, .slice A1 r.stripes.length c1, .slice A2 r.objects.length c2, .slice A3 r.drives.length c3] 51)
        have hsame4 : SameT recTs w2 ((w2.alloc (.cells #[.int .i64 r.kind, .int .i64 r.id, .int .i64 r.size, .string kv, .slice A1 r.stripes.length c1, .slice A2 r.objects.length c2, .slice A3 r.drives.length c3] 51)).alloc (.cells #[.int .i64 r.kind, .int .i64 r.id, .int .i64 r.size, .string kv, .slice A1 r.stripes.length c1, .slice A2 r.objects.length c2, .slice A3 r.drives.length c3] 51)) := (SameT.alloc _ w2 _).trans (SameT.alloc _ _ _)
        have hbb4 : Below w.heap.size w ((w2.alloc (.cells #[.int .i64 r.kind, .int .i64 r.id, .int .i64 r.size, .string kv, .slice A1 r.stripes.length c1, .slice A2 r.objects.length c2, .slice A3 r.drives.length c3] 51)).alloc (.cells #[.int .i64 r.kind, .int .i64 r.id, .int .i64 r.size, .string kv, .slice A1 r.stripes.length c1, .slice A2 r.objects.length c2, .slice A3 r.drives.length c3] 51)) := ((hbr.trans (hb2.mono hsr)).alloc (Nat.le_trans hsr hs2) _).alloc (by simp; omega) _
        have hrv : RV ((w2.alloc (.cells #[.int .i64 r.kind, .int .i64 r.id, .int .i64 r.size, .string kv, .slice A1 r.stripes.length c1, .slice A2 r.objects.length c2, .slice A3 r.drives.length c3] 51)).alloc (.cells #[.int .i64 r.kind, .int .i64 r.id, .int .i64 r.size, .string kv, .slice A1 r.stripes.length c1, .slice A2 r.objects.length c2, .slice A3 r.drives.length c3] 51)) (some ⟨w2.heap.size + 1, 0, none⟩) [.int .i64 r.kind, .int .i64 r.id, .int .i64 r.size, .string kv, .slice A1 r.stripes.length c1, .slice A2 r.objects.length c2, .slice A3 r.drives.length c3] := by
          intro j hj
          refine ⟨_, rfl, ?_⟩
          have hnew : ((w2.alloc (.cells #[.int .i64 r.kind, .int .i64 r.id, .int .i64 r.size, .string kv, .slice A1 r.stripes.length c1, .slice A2 r.objects.length c2, .slice A3 r.drives.length c3] 51)).alloc (.cells #[.int .i64 r.kind, .int .i64 r.id, .int .i64 r.size, .string kv, .slice A1 r.stripes.length c1, .slice A2 r.objects.length c2, .slice A3 r.drives.length c3] 51)).heap[w2.heap.size + 1]? = some (.cells #[.int .i64 r.kind, .int .i64 r.id, .int .i64 r.size, .string kv, .slice A1 r.stripes.length c1, .slice A2 r.objects.length c2, .slice A3 r.drives.length c3] 51 (0, 0)) := by
            have h := heap_alloc_new (w2.alloc (.cells #[.int .i64 r.kind, .int .i64 r.id, .int .i64 r.size, .string kv, .slice A1 r.stripes.length c1, .slice A2 r.objects.length c2, .slice A3 r.drives.length c3] 51)) (.cells #[.int .i64 r.kind, .int .i64 r.id, .int .i64 r.size, .string kv, .slice A1 r.stripes.length c1, .slice A2 r.objects.length c2, .slice A3 r.drives.length c3] 51)
            simpa using h
          rw [lit_add, cell_of_row _ _ _ _ _ _ hnew]
          first | (simp; done) | simpa using List.getElem?_eq_getElem hj
        go_wp2_with (at_builtin; refine wpList_app _ (by rfl) (.tmp 19) (.tmp 21) 39 rfl w.heap.size 51 zeroRec 7 112 Try.underlying39 info_rec rfl (by omega) _ acc.length vs rfl hown4 (some ⟨w2.heap.size + 1, 0, none⟩) 1 1 [.int .i64 r.kind, .int .i64 r.id, .int .i64 r.size, .string kv, .slice A1 r.stripes.length c1, .slice A2 r.objects.length c2, .slice A3 r.drives.length c3] rfl rfl hrv (by intro u hu; simp at hu; rcases hu with rfl | rfl | rfl | rfl | rfl | rfl | rfl <;> rfl) (by unfold maxLen; omega) (by omega) (by simp; omega) ?_; intro v5 w5 hown5 hg5 hno5)
        go_roundw
        case rel =>
          have hsame5 : SameT recTs w2 w5 := hsame4.trans (owns_sameT hown4 hg5 (by decide))
          refine ⟨k + n, acc ++ [r], vs ++ [.int .i64 r.kind, .int .i64 r.id, .int .i64 r.size, .string kv, .slice A1 r.stripes.length c1, .slice A2 r.objects.length c2, .slice A3 r.drives.length c3], by omega, by simp; omega, by go_num, ?_, RowsOf.append (R := RRec w5) (hrows2.mono fun _ _ h => RRec.same h hsame5) (RowsOf.one (RRec.same hrec2 hsame5)), ?_, hinv2⟩
          · rw [List.length_append]; exact hown5
          · exact hbb4.trans (below_of_grown hown4 hg5 hbb4.size)
        case measure => simp [intOf]; omega

end Go.Proofs.Ytmleldgohfcdbaa
