/-
  Contracts: a name that a file may have; whether a file is there.
  Conditions: stated lemma by lemma.
-/
import Derived.Test.YtheocdfccdpmbaaDkT
import Derived.Lib.ConvBytes
import Derived.Deep.Cut
import Derived.StillTailTactics
namespace Go.Proofs.Ytheocdfccdpmbaa
open Go.RowKit Go.Maps
set_option linter.unusedVariables false
set_option linter.unusedSimpArgs false
set_option maxHeartbeats 4000000

namespace Dk
def okB (c : Nat) : Bool := (decide (97 ≤ c) && decide (c ≤ 122)) || (decide (48 ≤ c) && decide (c ≤ 57)) || decide (c = 45) || decide (c = 46)
/-- a name that a file may have -/
def named (n : ByteArray) : Bool := n.data.toList.all (fun c => okB c.toNat) && decide (1 ≤ n.size) && decide (n.size ≤ 16)
end Dk
theorem mem8 {l : List UInt8} {k : Nat} (h : k < l.length) : l.getD k 0 ∈ l := by simp [List.getD, h]
theorem all8 {p : UInt8 → Bool} {l : List UInt8} (h : ∀ i, i < l.length → p (l.getD i 0) = true) : l.all p = true := by
  rw [List.all_eq_true]
  intro c hc
  obtain ⟨i, hi, e⟩ := List.getElem_of_mem hc
  have := h i hi
  rwa [show l.getD i 0 = c from by simp [List.getD, hi, e]] at this
theorem bel_bytes (w : World) (e : TypeId) (s : ByteArray) : Below w.heap.size w (Lib.bytesWorld w e s) :=
  ⟨rfl, rfl, rfl, by rw [Lib.bytesWorld_size]; omega, fun i hi => Lib.bytesWorld_at_old w e s i hi⟩
theorem named_calls (s : ByteArray) (hs : s.size ≤ 4611686018427387904) (w : World) :
    Calls Try.prog 63 #[.string s] w fun e w' => e = .returned (.bool (Dk.named s)) ∧ Below w.heap.size w w' := by
  have hcv := fun w => Lib.run_convert_string_bytes (P := Try.prog) w 9 47 5 s Try.underlying9 Try.underlying47 Try.underlying5
  have HB1 := Lib.hid (bel_bytes w 5 s)
  have HC1 := Lib.hid (Lib.bytesWorld_cell w 5 s)
  have HL1 := Lib.hid (Lib.bytesWorld_size w 5 s)
  have HS := Lib.hid hs
  obtain ⟨nm, hnm⟩ : ∃ nm, nm = Dk.named s := ⟨_, rfl⟩
  rw [← hnm]
  have HNM := Lib.hid hnm
  clear hnm
  go_enter Try.func63, Try.ntmps63
  go_wp2_with fail
  generalize Lib.bytesWorld w 5 s = w1 at *
  have HC0 := Lib.hid (show w.heap.size < w1.heap.size by rw [HL1.out]; omega)
  clear hcv HL1
  go_loopg [8, 4] s.size (fun n v8 v4 W => ∃ k : Nat, v8 = .int .i64 k ∧ k + n = s.size ∧ W = w1 ∧ Hid (∀ j, j < k → Dk.okB (s.data.toList.getD j 0).toNat = true))
  case atStart => exact ⟨0, rfl, by omega, rfl, Lib.hid (fun j hj => by omega)⟩
  case round =>
    obtain ⟨k, rfl, hk, rfl, HI⟩ := hrel
    have HK := Lib.hid hk
    clear hk
    by_cases hlt : k < s.size
    · have hl : (k : Int) < (s.size : Int) := by omega
      have hc := HC1.out k hlt
      have hx256 := (s.data.toList.getD k 0).toNat_lt
      obtain ⟨x, hx⟩ : ∃ x, x = (s.data.toList.getD k 0).toNat := ⟨_, rfl⟩
      rw [← hx] at hc hx256
      have HX := Lib.hid hx
      clear hx
      have hk1 : (k : Int) + 1 ≤ 9223372036854775807 := by have := HS.out; omega
      have hwk : IntKind.i64.wrap (k : Int) = (k : Int) := IntWalk.i64_in _ (by omega)
      have HG : Hid (0 < gk) := Lib.hid (by have := HK.out; omega)
      have hcase : ((97 ≤ x ∧ x ≤ 122) ∨ x < 45 ∨ x = 45 ∨ x = 46 ∨ x = 47 ∨ (48 ≤ x ∧ x ≤ 57) ∨ (57 < x ∧ x < 97) ∨ 122 < x) := by omega
      have HGO : Hid (Dk.okB x = true → ∀ j, j < k + 1 → Dk.okB (s.data.toList.getD j 0).toNat = true) := Lib.hid (fun h j hj => by
        rcases Nat.lt_or_ge j k with h1 | h1
        · exact HI.out j h1
        · rw [show j = k from by omega, ← HX.out]; exact h)
      have HNO : Hid (Dk.okB x = false → nm = false) := Lib.hid (fun h => by
        rw [HNM.out]
        unfold Dk.named
        have : s.data.toList.all (fun c => Dk.okB c.toNat) = false := by
          rw [List.all_eq_false]
          exact ⟨s.data.toList.getD k 0, mem8 (by rw [Array.length_toList]; exact hlt), by rw [← HX.out, h]; simp⟩
        rw [this]; simp)
      clear hx256
      rcases hcase with h | h | h | h | h | h | h | h
      · have d1 : ¬ (x : Int) < 97 := by omega
        have d2 : ¬ (122 : Int) < (x : Int) := by omega
        have HO : Hid (Dk.okB x = true) := Lib.hid (by unfold Dk.okB; simp [h.1, h.2])
        clear h
        go_wp2_with fail
        go_roundg (gk - 1)
        case rel => exact ⟨k + 1, by go_num, by have := HK.out; have := HG.out; omega, rfl, Lib.hid (HGO.out HO.out)⟩
        case measure => have := HG.out; omega
      · have d1 : (x : Int) < 97 := by omega
        have d2 : (x : Int) < 48 := by omega
        have d3 : ((x : Int) != 45) = true := by rw [bne_iff_ne]; omega
        have d4 : ((x : Int) != 46) = true := by rw [bne_iff_ne]; omega
        have HO : Hid (Dk.okB x = false) := Lib.hid (by unfold Dk.okB; simp; omega)
        clear h
        go_wp2_with fail
        go_ret
        rw [HNO.out HO.out]
        exact ⟨rfl, HB1.out⟩
      · subst h
        have HO : Hid (Dk.okB 45 = true) := Lib.hid (by decide)
        go_wp2_with fail
        go_roundg (gk - 1)
        case rel => exact ⟨k + 1, by go_num, by have := HK.out; have := HG.out; omega, rfl, Lib.hid (HGO.out HO.out)⟩
        case measure => have := HG.out; omega
      · subst h
        have HO : Hid (Dk.okB 46 = true) := Lib.hid (by decide)
        go_wp2_with fail
        go_roundg (gk - 1)
        case rel => exact ⟨k + 1, by go_num, by have := HK.out; have := HG.out; omega, rfl, Lib.hid (HGO.out HO.out)⟩
        case measure => have := HG.out; omega
      · subst h
        have HO : Hid (Dk.okB 47 = false) := Lib.hid (by decide)
        go_wp2_with fail
        go_ret
        rw [HNO.out HO.out]
        exact ⟨rfl, HB1.out⟩
      · have d1 : (x : Int) < 97 := by omega
        have d2 : ¬ (x : Int) < 48 := by omega
        have d3 : ¬ (57 : Int) < (x : Int) := by omega
        have HO : Hid (Dk.okB x = true) := Lib.hid (by unfold Dk.okB; simp [h.1, h.2])
        clear h
        go_wp2_with fail
        go_roundg (gk - 1)
        case rel => exact ⟨k + 1, by go_num, by have := HK.out; have := HG.out; omega, rfl, Lib.hid (HGO.out HO.out)⟩
        case measure => have := HG.out; omega
      · have d1 : (x : Int) < 97 := by omega
        have d2 : ¬ (x : Int) < 48 := by omega
        have d2b : (57 : Int) < (x : Int) := by omega
        have d3 : ((x : Int) != 45) = true := by rw [bne_iff_ne]; omega
        have d4 : ((x : Int) != 46) = true := by rw [bne_iff_ne]; omega
        have HO : Hid (Dk.okB x = false) := Lib.hid (by unfold Dk.okB; simp; omega)
        clear h
        go_wp2_with fail
        go_ret
        rw [HNO.out HO.out]
        exact ⟨rfl, HB1.out⟩
      · have d1 : ¬ (x : Int) < 97 := by omega
        have d1b : (122 : Int) < (x : Int) := by omega
        have d2 : ¬ (x : Int) < 48 := by omega
        have d2b : (57 : Int) < (x : Int) := by omega
        have d3 : ((x : Int) != 45) = true := by rw [bne_iff_ne]; omega
        have d4 : ((x : Int) != 46) = true := by rw [bne_iff_ne]; omega
        have HO : Hid (Dk.okB x = false) := Lib.hid (by unfold Dk.okB; simp; omega)
        clear h
        go_wp2_with fail
        go_ret
        rw [HNO.out HO.out]
        exact ⟨rfl, HB1.out⟩
    · have hl : ¬ (k : Int) < (s.size : Int) := by omega
      have hall : s.data.toList.all (fun c => Dk.okB c.toNat) = true := all8 fun i hi => HI.out i (by
        rw [Array.length_toList] at hi
        have h1 := HK.out
        have h2 : s.data.size = s.size := rfl
        omega)
      have HN2 : Hid (nm = (decide (1 ≤ s.size) && decide (s.size ≤ 16))) := Lib.hid (by rw [HNM.out]; unfold Dk.named; rw [hall]; simp)
      clear hall hlt
      by_cases c1 : 1 ≤ s.size
      · have d1 : (1 : Int) ≤ (s.size : Int) := by omega
        by_cases c2 : s.size ≤ 16
        · have d2 : (s.size : Int) ≤ 16 := by omega
          have HN3 : Hid (nm = true) := Lib.hid (by rw [HN2.out]; simp [c1, c2])
          clear c1 c2
          go_wp2_with fail
          go_ret
          rw [HN3.out]
          exact ⟨rfl, HB1.out⟩
        · have d2 : ¬ (s.size : Int) ≤ 16 := by omega
          have HN3 : Hid (nm = false) := Lib.hid (by rw [HN2.out]; simp [c2])
          clear c1 c2
          go_wp2_with fail
          go_ret
          rw [HN3.out]
          exact ⟨rfl, HB1.out⟩
      · have d1 : ¬ (1 : Int) ≤ (s.size : Int) := by omega
        have HN3 : Hid (nm = false) := Lib.hid (by rw [HN2.out]; simp [c1])
        clear c1
        go_wp2_with fail
        go_ret
        rw [HN3.out]
        exact ⟨rfl, HB1.out⟩
theorem kLawS : Keyed Try.prog 9 := string_keyed Try.underlying9
theorem zeroS (w : World) : (zeroValue 47).run Try.prog w = .ok (.slice none 0 0) w := by kernel_rfl
theorem ownsMap_at {H : Type} {P : Program} {k : TypeId} {R : Value → Option (DataW H × List MemPlace)} {b n : Nat} {D : DataW H} {w W : World} (h : w.ownsMap P k R b n D) (hW : w.heap[b]? = W.heap[b]?) : W.ownsMap P k R b n D := by
  obtain ⟨es, clock, he, rest⟩ := h
  exact ⟨es, clock, hW ▸ he, rest⟩
theorem held_inj {a b : Value} (h : (DataW.held a : DataW Value) = .held b) : a = b := by injection h
/-- a look-up in the map of files -/
theorem look_file {w : World} {mb : Nat} {D : DataW Value} {F : List ByteArray} {sv : ByteArray → Value} (h : w.ownsMap Try.prog 9 RH mb (Maps.size D) D) (hM : FileIs D F sv) {s : ByteArray} (hs : s.size ≤ maxLen) :
    ∀ W, w.heap[mb]? = W.heap[mb]? → ∃ v, (Instr.lookup 82 (.map (some mb)) (.string s) true).run Try.prog W = .ok (.tuple #[v, .bool (decide (s ∈ F))]) W ∧
      (Instr.lookup 82 (.map (some mb)) (.string s) false).run Try.prog W = .ok v W ∧ v = if s ∈ F then sv s else .slice none 0 0 := fun W hW => by
  have hm : W.ownsMap Try.prog 9 RH mb (Maps.size D) D := by
    exact ownsMap_at h hW
  obtain ⟨v, ps, hrun, hv⟩ := hm.look_ok kLawS Try.underlying82 (zeroS W) (show RH (.slice none 0 0) = some (.held (.slice none 0 0), []) from rfl) (Go.WideMaps.keyOf_string_mk Try.underlying9 hs)
  obtain ⟨v2, ps2, hrun2, hv2⟩ := hm.lookup kLawS Try.underlying82 (zeroS W) (show RH (.slice none 0 0) = some (.held (.slice none 0 0), []) from rfl) (Go.WideMaps.keyOf_string_mk Try.underlying9 hs)
  have hR : ∀ {v : Value} {y : DataW Value} {ps : List MemPlace}, RH v = some (y, ps) → y = .held v := fun h => (Prod.mk.inj (Option.some.inj h)).1.symm
  have hx : ∀ {v : Value} {ps : List MemPlace}, RH v = some (D.atKey (.string s.data.toList) (.held (.slice none 0 0)), ps) → v = if s ∈ F then sv s else .slice none 0 0 := fun {v ps} hv => by
    have h1 := hR hv
    by_cases c : s ∈ F
    · rw [if_pos c]
      have := hM.at_ s c (.held (.slice none 0 0))
      exact held_inj (h1.symm.trans this)
    · rw [if_neg c]
      have h2 := hM.has s
      rw [decide_eq_false c] at h2
      have h3 := Maps.atKey_of_not_has h2 (.held (.slice none 0 0))
      exact held_inj (h1.symm.trans h3)
  refine ⟨v, ?_, ?_, hx hv⟩
  · rw [hrun, show Maps.has D (Lit.string s.data.toList) = decide (s ∈ F) from hM.has s]
  · rw [hrun2, hx hv2, hx hv]
end Go.Proofs.Ytheocdfccdpmbaa
