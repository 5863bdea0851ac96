/- ref09: are numbers, stripes, objects the same? -/
import Derived.Test.YtmleldgohfcdbaaReader
import Derived.Test.YtmleldgohfcdbaaFrame
namespace Go.Proofs.Ytmleldgohfcdbaa
set_option linter.unusedVariables false
set_option linter.unusedSimpArgs false
open Go.RowKit
open Classical in
/-- Are they the same? -/
noncomputable def eqB {α : Type} (a b : α) : Bool := decide (a = b)
theorem eqB_true {α : Type} {a b : α} (h : a = b) : eqB a b = true := by unfold eqB; simp [h]
theorem eqB_false {α : Type} {a b : α} (h : ¬ a = b) : eqB a b = false := by unfold eqB; simp [h]
theorem eqB_iff {α : Type} {a b : α} : eqB a b = true ↔ a = b := by unfold eqB; simp
theorem quiet_add {P : Program} {f : FuncId} {args : Array Value} {w : World} {v : Value} (h : ∀ j, Calls P f args (w.drewN j) fun e w' => e = .returned v ∧ ∃ i, w' = (w.drewN j).drewN i) {n x : Nat} :
    Calls P f args (w.drewN (n + x)) fun e w'' => e = .returned v ∧ ∃ m, w'' = w.drewN (n + m) :=
  (h (n + x)).mono fun _ _ ⟨he, i, hi⟩ => ⟨he, x + i, by rw [hi, World.drewN_drewN, Nat.add_assoc]⟩
def EqPost {α : Type} (w : World) (a b : α) (e : Ending) (w' : World) : Prop := e = .returned (.bool (eqB a b)) ∧ ∃ n, w' = w.drewN n
theorem ne_of_take {α : Type} {l m : List α} {k : Nat} (hk : k < l.length) (hm : k < m.length) (h : ¬ l[k] = m[k]) : ¬ l = m := by
  rintro rfl
  exact h rfl
set_option maxRecDepth 100000 in
set_option maxHeartbeats 1000000 in
theorem ints_any (A B : Option Addr) (c d : Nat) (w : World) (l m : List Int) (hn : l.length ≤ 140737488355328) (hm : m.length ≤ 140737488355328) (hlc : l.length ≤ c) (hmd : m.length ≤ d) {P : Nat → Prop} (hr : RI w P A l) (hs : RI w P B m) :
    Calls Try.prog 66 #[.slice A l.length c, .slice B m.length d] w (EqPost w l m) := by
  by_cases hlen : l.length = m.length
  · have hl0 : ((l.length : Int) != (m.length : Int)) = false := by rw [bne_eq_false_iff_eq]; omega
    have Hlen := Lib.hid hlen
    clear hlen
    go_enter Try.func66, Try.ntmps66
    go_wp2
    go_loopw [5] (fun i wr => ∃ k : Nat, k ≤ l.length ∧ i = .int .i64 k ∧ (∃ n, wr = w.drewN n) ∧ l.take k = m.take k) (fun i _ => l.length - (intOf i).toNat)
    case atStart => exact ⟨0, by omega, rfl, ⟨0, rfl⟩, rfl⟩
    case round =>
      obtain ⟨k, hk, rfl, ⟨n, rfl⟩, heq⟩ := hrel
      have Heq := Lib.hid heq
      clear heq
      by_cases hlt : k < l.length
      · have hlt2 : k < m.length := by have := Hlen.out; omega
        obtain ⟨ad, rfl, hcell⟩ := hr.at_ hlt
        obtain ⟨ad2, rfl, hcell2⟩ := hs.at_ hlt2
        have i1 : (0 : Int) ≤ (k : Int) := by omega
        have i2 : (k : Int) < (l.length : Int) := by omega
        have i3 : (k : Int) < (m.length : Int) := by omega
        by_cases he0 : l[k] = m[k]
        · have hb0 : (l[k] != m[k]) = false := by rw [he0, bne_self_eq_false]
          have He0 := Lib.hid he0; clear he0
          have Hel := Lib.hid (show l[k] = m[k] from by exact He0.out)
          go_wp2
          go_quiet (fail)
          go_wp2
          exact ⟨⟨k + 1, by omega, by go_num, ⟨_, rfl⟩, by rw [List.take_succ_eq_append_getElem hlt, List.take_succ_eq_append_getElem hlt2, Heq.out, Hel.out]⟩, by simp [intOf]; omega⟩
        · have hb0 : (l[k] != m[k]) = true := by rw [bne_iff_ne]; exact he0
          have Hf := Lib.hid (eqB_false (ne_of_take hlt hlt2 (fun h => he0 (by rw [h]))))
          clear he0
          go_wp2
          go_quiet (fail)
          go_wp2
          go_ret
          exact ⟨by rw [Hf.out]; rfl, n + nq, by simp⟩
      · go_wp2
        go_ret
        have e : l = m := by
          have h := Heq.out
          have h2 := Hlen.out
          rwa [List.take_of_length_le (by omega), List.take_of_length_le (by omega)] at h
        exact ⟨by rw [eqB_true e]; rfl, n, rfl⟩
  · have hl0 : ((l.length : Int) != (m.length : Int)) = true := by rw [bne_iff_ne]; omega
    have hf : eqB l m = false := eqB_false (by rintro rfl; exact hlen rfl)
    have Hf := Lib.hid hf; clear hf
    go_enter Try.func66, Try.ntmps66
    go_wp2
    go_ret
    exact ⟨by rw [Hf.out]; rfl, 0, rfl⟩
theorem stripe_eq {a b : PStripe} (h1 : a.id = b.id) (h2 : a.epoch = b.epoch) (h3 : a.locs = b.locs) : a = b := by
  cases a; cases b; simp_all
set_option maxRecDepth 100000 in
set_option maxHeartbeats 1000000 in
theorem stripes_any (A B : Option Addr) (c d : Nat) (w : World) (l m : List PStripe) (hn : l.length ≤ 140737488355328) (hm : m.length ≤ 140737488355328) (hlc : l.length ≤ c) (hmd : m.length ≤ d) {P : Nat → Prop} (hlM : ∀ s ∈ l, s.locs.length ≤ 140737488355328) (hmM : ∀ s ∈ m, s.locs.length ≤ 140737488355328) (hr : RStripes w P A l) (hs : RStripes w P B m) :
    Calls Try.prog 64 #[.slice A l.length c, .slice B m.length d] w (EqPost w l m) := by
  by_cases hlen : l.length = m.length
  · have hl0 : ((l.length : Int) != (m.length : Int)) = false := by rw [bne_eq_false_iff_eq]; omega
    have Hlen := Lib.hid hlen
    clear hlen
    go_enter Try.func64, Try.ntmps64
    go_wp2
    go_loopw [5] (fun i wr => ∃ k : Nat, k ≤ l.length ∧ i = .int .i64 k ∧ (∃ n, wr = w.drewN n) ∧ l.take k = m.take k) (fun i _ => l.length - (intOf i).toNat)
    case atStart => exact ⟨0, by omega, rfl, ⟨0, rfl⟩, rfl⟩
    case round =>
      obtain ⟨k, hk, rfl, ⟨n, rfl⟩, heq⟩ := hrel
      have Heq := Lib.hid heq
      clear heq
      by_cases hlt : k < l.length
      · have hlt2 : k < m.length := by have := Hlen.out; omega
        obtain ⟨ad, C, cc, rfl, g0, g1, g2, hgl, hgr⟩ := hr.at_ hlt
        obtain ⟨ad2, D, dd, rfl, k0, k1, k2, hkl, hkr⟩ := hs.at_ hlt2
        have hal := hlM _ (List.getElem_mem hlt)
        have hbl := hmM _ (List.getElem_mem hlt2)
        have hc : ∀ j, Calls Try.prog 66 #[.slice C l[k].locs.length cc, .slice D m[k].locs.length dd] (w.drewN j) fun e w' => e = .returned (.bool (eqB l[k].locs m[k].locs)) ∧ ∃ i, w' = (w.drewN j).drewN i := fun j => ints_any C D cc dd (w.drewN j) l[k].locs m[k].locs hal hbl hgl hkl (P := P) hgr hkr
        obtain ⟨a, hlk⟩ : ∃ a, l[k] = a := ⟨_, rfl⟩
        obtain ⟨b, hmk⟩ : ∃ b, m[k] = b := ⟨_, rfl⟩
        rw [hlk] at g0 g1 g2 hgl
        rw [hmk] at k0 k1 k2 hkl
        rw [hlk, hmk] at hc
        have Hlk := Lib.hid hlk; have Hmk := Lib.hid hmk
        clear hlk hmk hgr hkr hal hbl
        have i1 : (0 : Int) ≤ (k : Int) := by omega
        have i2 : (k : Int) < (l.length : Int) := by omega
        have i3 : (k : Int) < (m.length : Int) := by omega
        by_cases he0 : a.id = b.id
        · have hb0 : (a.id != b.id) = false := by rw [he0, bne_self_eq_false]
          have He0 := Lib.hid he0; clear he0
          by_cases he1 : a.epoch = b.epoch
          · have hb1 : (a.epoch != b.epoch) = false := by rw [he1, bne_self_eq_false]
            have He1 := Lib.hid he1; clear he1
            by_cases he2 : a.locs = b.locs
            · rw [eqB_true he2] at hc
              have Hc := Lib.hid hc; clear hc
              have He2 := Lib.hid he2; clear he2
              have Hel := Lib.hid (show l[k] = m[k] from by rw [Hlk.out, Hmk.out]; exact stripe_eq He0.out He1.out He2.out)
              go_wp2
              go_quiet ((go_at_call 66; exact quiet_add Hc.out))
              go_wp2
              exact ⟨⟨k + 1, by omega, by go_num, ⟨_, rfl⟩, by rw [List.take_succ_eq_append_getElem hlt, List.take_succ_eq_append_getElem hlt2, Heq.out, Hel.out]⟩, by simp [intOf]; omega⟩
            · rw [eqB_false he2] at hc
              have Hc := Lib.hid hc; clear hc
              have Hf := Lib.hid (eqB_false (ne_of_take hlt hlt2 (fun h => he2 (by rw [← Hlk.out, ← Hmk.out, h]))))
              clear he2
              go_wp2
              go_quiet ((go_at_call 66; exact quiet_add Hc.out))
              go_wp2
              go_ret
              exact ⟨by rw [Hf.out]; rfl, n + nq, by simp⟩
          · have hb1 : (a.epoch != b.epoch) = true := by rw [bne_iff_ne]; exact he1
            have Hf := Lib.hid (eqB_false (ne_of_take hlt hlt2 (fun h => he1 (by rw [← Hlk.out, ← Hmk.out, h]))))
            clear he1
            go_wp2
            go_quiet (fail)
            go_wp2
            go_ret
            exact ⟨by rw [Hf.out]; rfl, n + nq, by simp⟩
        · have hb0 : (a.id != b.id) = true := by rw [bne_iff_ne]; exact he0
          have Hf := Lib.hid (eqB_false (ne_of_take hlt hlt2 (fun h => he0 (by rw [← Hlk.out, ← Hmk.out, h]))))
          clear he0
          go_wp2
          go_quiet (fail)
          go_wp2
          go_ret
          exact ⟨by rw [Hf.out]; rfl, n + nq, by simp⟩
      · go_wp2
        go_ret
        have e : l = m := by
          have h := Heq.out
          have h2 := Hlen.out
          rwa [List.take_of_length_le (by omega), List.take_of_length_le (by omega)] at h
        exact ⟨by rw [eqB_true e]; rfl, n, rfl⟩
  · have hl0 : ((l.length : Int) != (m.length : Int)) = true := by rw [bne_iff_ne]; omega
    have hf : eqB l m = false := eqB_false (by rintro rfl; exact hlen rfl)
    have Hf := Lib.hid hf; clear hf
    go_enter Try.func64, Try.ntmps64
    go_wp2
    go_ret
    exact ⟨by rw [Hf.out]; rfl, 0, rfl⟩
theorem obj_eq {a b : PObj} (h1 : a.key = b.key) (h2 : a.id = b.id) (h3 : a.size = b.size) (h4 : a.stripes = b.stripes) : a = b := by
  cases a; cases b; simp_all
theorem str_beq (a b : List UInt8) : (ByteArray.toList ⟨a.toArray⟩ == ByteArray.toList ⟨b.toArray⟩) = decide (a = b) := by
  rw [ByteArray.toList_eq, ByteArray.toList_eq]
  exact Bool.eq_iff_iff.2 (by simp)
theorem str_name (l : List UInt8) : ∃ ka : ByteArray, sv l = .string ka ∧ ka = ⟨l.toArray⟩ := ⟨_, rfl, rfl⟩
set_option maxRecDepth 100000 in
set_option maxHeartbeats 1000000 in
theorem objects_any (A B : Option Addr) (c d : Nat) (w : World) (l m : List PObj) (hn : l.length ≤ 140737488355328) (hm : m.length ≤ 140737488355328) (hlc : l.length ≤ c) (hmd : m.length ≤ d) {P : Nat → Prop} (hlM : ∀ o ∈ l, o.stripes.length ≤ 140737488355328 ∧ ∀ s ∈ o.stripes, s.locs.length ≤ 140737488355328) (hmM : ∀ o ∈ m, o.stripes.length ≤ 140737488355328 ∧ ∀ s ∈ o.stripes, s.locs.length ≤ 140737488355328) (hr : RObjs w P A l) (hs : RObjs w P B m) :
    Calls Try.prog 65 #[.slice A l.length c, .slice B m.length d] w (EqPost w l m) := by
  by_cases hlen : l.length = m.length
  · have hl0 : ((l.length : Int) != (m.length : Int)) = false := by rw [bne_eq_false_iff_eq]; omega
    have Hlen := Lib.hid hlen
    clear hlen
    go_enter Try.func65, Try.ntmps65
    go_wp2
    go_loopw [5] (fun i wr => ∃ k : Nat, k ≤ l.length ∧ i = .int .i64 k ∧ (∃ n, wr = w.drewN n) ∧ l.take k = m.take k) (fun i _ => l.length - (intOf i).toNat)
    case atStart => exact ⟨0, by omega, rfl, ⟨0, rfl⟩, rfl⟩
    case round =>
      obtain ⟨k, hk, rfl, ⟨n, rfl⟩, heq⟩ := hrel
      have Heq := Lib.hid heq
      clear heq
      by_cases hlt : k < l.length
      · have hlt2 : k < m.length := by have := Hlen.out; omega
        obtain ⟨ad, C, cc, rfl, g0, g1, g2, g3, hgl, hgr⟩ := hr.at_ hlt
        obtain ⟨ad2, D, dd, rfl, k0, k1, k2, k3, hkl, hkr⟩ := hs.at_ hlt2
        have hal := hlM _ (List.getElem_mem hlt)
        have hbl := hmM _ (List.getElem_mem hlt2)
        have hc : ∀ j, Calls Try.prog 64 #[.slice C l[k].stripes.length cc, .slice D m[k].stripes.length dd] (w.drewN j) fun e w' => e = .returned (.bool (eqB l[k].stripes m[k].stripes)) ∧ ∃ i, w' = (w.drewN j).drewN i := fun j => stripes_any C D cc dd (w.drewN j) l[k].stripes m[k].stripes hal.1 hbl.1 hgl hkl (P := P) hal.2 hbl.2 hgr hkr
        obtain ⟨a, hlk⟩ : ∃ a, l[k] = a := ⟨_, rfl⟩
        obtain ⟨b, hmk⟩ : ∃ b, m[k] = b := ⟨_, rfl⟩
        rw [hlk] at g0 g1 g2 g3 hgl
        rw [hmk] at k0 k1 k2 k3 hkl
        rw [hlk, hmk] at hc
        obtain ⟨ka, hsa, hka⟩ := str_name a.key
        obtain ⟨kb, hsb, hkb⟩ := str_name b.key
        rw [hsa] at g0
        rw [hsb] at k0
        have Hlk := Lib.hid hlk; have Hmk := Lib.hid hmk
        clear hlk hmk hgr hkr hal hbl hsa hsb
        have i1 : (0 : Int) ≤ (k : Int) := by omega
        have i2 : (k : Int) < (l.length : Int) := by omega
        have i3 : (k : Int) < (m.length : Int) := by omega
        by_cases he0 : a.key = b.key
        · have hb0 : (ka.toList == kb.toList) = true := by rw [hka, hkb, str_beq]; exact decide_eq_true he0
          have He0 := Lib.hid he0; clear he0 hka hkb
          by_cases he1 : a.id = b.id
          · have hb1 : (a.id != b.id) = false := by rw [he1, bne_self_eq_false]
            have He1 := Lib.hid he1; clear he1
            by_cases he2 : a.size = b.size
            · have hb2 : (a.size != b.size) = false := by rw [he2, bne_self_eq_false]
              have He2 := Lib.hid he2; clear he2
              by_cases he3 : a.stripes = b.stripes
              · rw [eqB_true he3] at hc
                have Hc := Lib.hid hc; clear hc
                have He3 := Lib.hid he3; clear he3
                have Hel := Lib.hid (show l[k] = m[k] from by rw [Hlk.out, Hmk.out]; exact obj_eq He0.out He1.out He2.out He3.out)
                go_wp2
                go_quiet ((go_at_call 64; exact quiet_add Hc.out))
                go_wp2
                exact ⟨⟨k + 1, by omega, by go_num, ⟨_, rfl⟩, by rw [List.take_succ_eq_append_getElem hlt, List.take_succ_eq_append_getElem hlt2, Heq.out, Hel.out]⟩, by simp [intOf]; omega⟩
              · rw [eqB_false he3] at hc
                have Hc := Lib.hid hc; clear hc
                have Hf := Lib.hid (eqB_false (ne_of_take hlt hlt2 (fun h => he3 (by rw [← Hlk.out, ← Hmk.out, h]))))
                clear he3
                go_wp2
                go_quiet ((go_at_call 64; exact quiet_add Hc.out))
                go_wp2
                go_ret
                exact ⟨by rw [Hf.out]; rfl, n + nq, by simp⟩
            · have hb2 : (a.size != b.size) = true := by rw [bne_iff_ne]; exact he2
              have Hf := Lib.hid (eqB_false (ne_of_take hlt hlt2 (fun h => he2 (by rw [← Hlk.out, ← Hmk.out, h]))))
              clear he2
              go_wp2
              go_quiet (fail)
              go_wp2
              go_ret
              exact ⟨by rw [Hf.out]; rfl, n + nq, by simp⟩
          · have hb1 : (a.id != b.id) = true := by rw [bne_iff_ne]; exact he1
            have Hf := Lib.hid (eqB_false (ne_of_take hlt hlt2 (fun h => he1 (by rw [← Hlk.out, ← Hmk.out, h]))))
            clear he1
            go_wp2
            go_quiet (fail)
            go_wp2
            go_ret
            exact ⟨by rw [Hf.out]; rfl, n + nq, by simp⟩
        · have hb0 : (ka.toList == kb.toList) = false := by rw [hka, hkb, str_beq]; exact decide_eq_false he0
          have Hf := Lib.hid (eqB_false (ne_of_take hlt hlt2 (fun h => he0 (by rw [← Hlk.out, ← Hmk.out, h]))))
          clear he0 hka hkb
          go_wp2
          go_quiet (fail)
          go_wp2
          go_ret
          exact ⟨by rw [Hf.out]; rfl, n + nq, by simp⟩
      · go_wp2
        go_ret
        have e : l = m := by
          have h := Heq.out
          have h2 := Hlen.out
          rwa [List.take_of_length_le (by omega), List.take_of_length_le (by omega)] at h
        exact ⟨by rw [eqB_true e]; rfl, n, rfl⟩
  · have hl0 : ((l.length : Int) != (m.length : Int)) = true := by rw [bne_iff_ne]; omega
    have hf : eqB l m = false := eqB_false (by rintro rfl; exact hlen rfl)
    have Hf := Lib.hid hf; clear hf
    go_enter Try.func65, Try.ntmps65
    go_wp2
    go_ret
    exact ⟨by rw [Hf.out]; rfl, 0, rfl⟩
end Go.Proofs.Ytmleldgohfcdbaa
