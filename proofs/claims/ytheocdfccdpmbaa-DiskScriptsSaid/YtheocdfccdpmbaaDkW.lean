/-
  Contracts of the document's disk: names; slices of own rows.
  Conditions: stated lemma by lemma.
-/
import Derived.Test.YtheocdfccdpmbaaDkV
import Derived.Deep.RegionLaw
namespace Go.Proofs.Ytheocdfccdpmbaa
open Go.RowKit Go.Maps
set_option linter.unusedVariables false
set_option linter.unusedSimpArgs false
set_option linter.unusedSectionVars false
set_option maxHeartbeats 8000000

section
variable {α : Type} [Inhabited α] {L : Lay α} {P : Program} {t e : TypeId} {w : World}
theorem wpList_from {ops : Array Oper} {rest : List Oper} {o : Oper} {a : Act} {Q : Exit → Act → World → Prop} (ht : P.underlying t = some (.slice e)) (hel : P.elem t = e) {z : Value} {bytes : Nat} (hinfo : (P.info? e).map (fun i => (i.zero, i.size, i.bytes)) = some (some z, L.k, bytes)) (hgd : o.guard = none) (s lo : Operand) (ho : o.op = .slice t s (some lo) none none)
    (A : Option Addr) (n cap : Nat) (R : List α) (hs : a.eval s = .slice A n cap) (l : Nat) (hlo : a.eval lo = .int .i64 (l : Int)) (hn : n = R.length) (hl : l ≤ n) (hc : n ≤ cap) (hR : RdL L w A R) (hA : ∀ b off sp, A = some ⟨b, off, sp⟩ → sp = none)
    (h : ∀ A', RdL L w A' (R.drop l) → wpList P ops Q rest (a.put o.dst (.slice A' (n - l) (cap - l))) w) : wpList P ops Q (o :: rest) a w :=
  wpList_plain hgd fun K hK => by
    obtain ⟨i0, hi0, hz0, hz1, hz2⟩ := info_parts hinfo
    have hrun : (Instr.sliceAt t (.slice A n cap) (some (.int .i64 (l : Int))) none none).run P w = .ok (.slice (if cap = l then A else A.map (·.add (l * L.k))) (n - l) (cap - l)) w := by
      have hsz : (sizeOf e).run P w = .ok L.k w := by simp [sizeOf, typeInfo, hi0, hz1]
      have hb : (Instr.sliceBounds true n cap (some (.int .i64 (l : Int))) none none).run P w = .ok (l, n, cap) w := by
        simp [Instr.sliceBounds, Instr.sliceBound, asIntOf, hl]
      rw [run_sliceAt_slice w t _ _ _ _ (by rw [hel]; exact ht), run_slice_any w t A n cap (by rw [hel]; exact ht), hb]
      simp only [Result.andThen, hel, hsz, sliced]
    have hrd : RdL L w (if cap = l then A else A.map (·.add (l * L.k))) (R.drop l) := by
      by_cases c : cap = l
      · rw [if_pos c]
        have : R.drop l = [] := List.drop_eq_nil_of_le (by omega)
        rw [this]
        exact RdL.nil _ _
      · rw [if_neg c]
        rcases A with _ | ⟨b, off, sp⟩
        · intro i hi
          obtain ⟨_, _, e, _⟩ := hR 0 (by rw [List.length_drop] at hi; omega)
          cases e
        · have := hA b off sp rfl
          subst this
          have h2 := hR.drop l
          show RdL L w (some ((⟨b, off, none⟩ : Addr).add (l * L.k))) (R.drop l)
          have e : (⟨b, off, none⟩ : Addr).add (l * L.k) = ⟨b, off + l * L.k, none⟩ := by
            unfold Addr.add
            split
            · rename_i h0; rw [h0]; rfl
            · rfl
          rw [e]
          exact h2
    unfold Oper.wp execOp
    simp only [ho, hs, hlo, Option.map_some, Option.map_none, Sem.run_bind, Sem.run_pure, Result.andThen_ok, hrun]
    exact hK _ _ (h _ hrd)
theorem wpList_to {ops : Array Oper} {rest : List Oper} {o : Oper} {a : Act} {Q : Exit → Act → World → Prop} (ht : P.underlying t = some (.slice e)) (hel : P.elem t = e) {z : Value} {bytes : Nat} (hinfo : (P.info? e).map (fun i => (i.zero, i.size, i.bytes)) = some (some z, L.k, bytes)) (hgd : o.guard = none) (s hi : Operand) (ho : o.op = .slice t s none (some hi) none)
    (A : Option Addr) (n cap : Nat) (hs : a.eval s = .slice A n cap) (l : Nat) (hhi : a.eval hi = .int .i64 (l : Int)) (hl : l ≤ cap) (hA : ∀ b off sp, A = some ⟨b, off, sp⟩ → sp = none)
    (h : wpList P ops Q rest (a.put o.dst (.slice A l cap)) w) : wpList P ops Q (o :: rest) a w :=
  wpList_plain hgd fun K hK => by
    obtain ⟨i0, hi0, hz0, hz1, hz2⟩ := info_parts hinfo
    have hrun : (Instr.sliceAt t (.slice A n cap) none (some (.int .i64 (l : Int))) none).run P w = .ok (.slice A l cap) w := by
      have hsz : (sizeOf e).run P w = .ok L.k w := by simp [sizeOf, typeInfo, hi0, hz1]
      have hb : (Instr.sliceBounds true n cap none (some (.int .i64 (l : Int))) none).run P w = .ok (0, l, cap) w := by
        simp [Instr.sliceBounds, Instr.sliceBound, asIntOf, hl]
      rw [run_sliceAt_slice w t _ _ _ _ (by rw [hel]; exact ht), run_slice_any w t A n cap (by rw [hel]; exact ht), hb]
      simp only [Result.andThen, hel, hsz, sliced, Nat.zero_mul, Nat.sub_zero]
      by_cases c : cap = 0
      · rw [if_pos c]
      · rw [if_neg c]
        rcases A with _ | ⟨b, off, sp⟩
        · rfl
        · rfl
    unfold Oper.wp execOp
    simp only [ho, hs, hhi, Option.map_some, Option.map_none, Sem.run_bind, Sem.run_pure, Result.andThen_ok, hrun]
    exact hK _ _ h
end
theorem byte_at (s : ByteArray) (k : Nat) (h : k < s.size) : s.data.toList.getD k 0 = s[k] := by
  have h2 : k < s.data.toList.length := by rw [Array.length_toList]; exact h
  unfold List.getD
  rw [List.getElem?_eq_getElem h2]
  rfl
theorem rnamed_calls (s : ByteArray) (hs : s.size ≤ 4611686018427387904) (w : World) :
    Calls Try.prog 45 #[.string s] w fun e w' => e = .returned (.bool (Dk.named s)) ∧ w = w' := by
  have HS := Lib.hid hs
  obtain ⟨nm, hnm⟩ : ∃ nm, nm = Dk.named s := ⟨_, rfl⟩
  rw [← hnm]
  have HNM := Lib.hid hnm
  clear hnm
  go_enter Try.func45, Try.ntmps45
  go_wp2_with fail
  go_loopg [3, 4] s.size (fun n v3 v4 W => ∃ k : Nat, v3 = .int .i64 k ∧ k + n = s.size ∧ W = w ∧ Hid (∀ j, j < k → Dk.okB (s.data.toList.getD j 0).toNat = true))
  case atStart => exact ⟨0, rfl, by omega, rfl, Lib.hid (fun j hj => by omega)⟩
  case round =>
    obtain ⟨k, rfl, hk, rfl, HI⟩ := hrel
    have HK := Lib.hid hk
    clear hk
    by_cases hlt : k < s.size
    · have hl : (k : Int) < (s.size : Int) := by omega
      have hx256 := (s.data.toList.getD k 0).toNat_lt
      obtain ⟨x, hx⟩ : ∃ x, x = (s.data.toList.getD k 0).toNat := ⟨_, rfl⟩
      have hix : (Instr.index 9 (.string s) (.int .i64 (k : Int))).run Try.prog wr = .ok (.int .u8 (x : Int)) wr := by
        rw [run_index_string wr 9 s .i64 k Try.underlying9, dif_pos ⟨by omega, by omega⟩, hx, byte_at s k hlt]
        rfl
      have hsx : (s[k]).toNat = x := by rw [hx, byte_at s k hlt]
      rw [← hx] at hx256
      have HX := Lib.hid hx
      clear hx
      have hk1 : (k : Int) + 1 ≤ 9223372036854775807 := by have := HS.out; omega
      have HG : Hid (0 < gk) := Lib.hid (by have := HK.out; omega)
      have hcase : ((97 ≤ x ∧ x ≤ 122) ∨ x < 45 ∨ x = 45 ∨ x = 46 ∨ x = 47 ∨ (48 ≤ x ∧ x ≤ 57) ∨ (57 < x ∧ x < 97) ∨ 122 < x) := by omega
      have HGO : Hid (Dk.okB x = true → ∀ j, j < k + 1 → Dk.okB (s.data.toList.getD j 0).toNat = true) := Lib.hid (fun h j hj => by
        rcases Nat.lt_or_ge j k with h1 | h1
        · exact HI.out j h1
        · rw [show j = k from by omega, ← HX.out]; exact h)
      have HNO : Hid (Dk.okB x = false → nm = false) := Lib.hid (fun h => by
        rw [HNM.out]
        unfold Dk.named
        have : s.data.toList.all (fun c => Dk.okB c.toNat) = false := by
          rw [List.all_eq_false]
          exact ⟨s.data.toList.getD k 0, mem8 (by rw [Array.length_toList]; exact hlt), by rw [← HX.out, h]; simp⟩
        rw [this]; simp)
      clear hx256
      rcases hcase with h | h | h | h | h | h | h | h
      · have d1 : (97 : Int) ≤ (x : Int) := by omega
        have d2 : (x : Int) ≤ 122 := by omega
        have HO : Hid (Dk.okB x = true) := Lib.hid (by unfold Dk.okB; simp [h.1, h.2])
        clear h
        go_wp2_with fail
        go_roundg (gk - 1)
        case rel => exact ⟨k + 1, by go_num, by have := HK.out; have := HG.out; omega, rfl, Lib.hid (HGO.out HO.out)⟩
        case measure => have := HG.out; omega
      · have d1 : ¬ (97 : Int) ≤ (x : Int) := by omega
        have d2 : ¬ (48 : Int) ≤ (x : Int) := by omega
        have d3 : ((x : Int) == 45) = false := by rw [beq_eq_false_iff_ne]; omega
        have d4 : ((x : Int) == 46) = false := by rw [beq_eq_false_iff_ne]; omega
        have HO : Hid (Dk.okB x = false) := Lib.hid (by unfold Dk.okB; simp; omega)
        clear h
        go_wp2_with fail
        go_ret
        rw [HNO.out HO.out]
        exact ⟨rfl, rfl⟩
      · subst h
        have HO : Hid (Dk.okB 45 = true) := Lib.hid (by decide)
        go_wp2_with fail
        go_roundg (gk - 1)
        case rel => exact ⟨k + 1, by go_num, by have := HK.out; have := HG.out; omega, rfl, Lib.hid (HGO.out HO.out)⟩
        case measure => have := HG.out; omega
      · subst h
        have HO : Hid (Dk.okB 46 = true) := Lib.hid (by decide)
        go_wp2_with fail
        go_roundg (gk - 1)
        case rel => exact ⟨k + 1, by go_num, by have := HK.out; have := HG.out; omega, rfl, Lib.hid (HGO.out HO.out)⟩
        case measure => have := HG.out; omega
      · subst h
        have HO : Hid (Dk.okB 47 = false) := Lib.hid (by decide)
        go_wp2_with fail
        go_ret
        rw [HNO.out HO.out]
        exact ⟨rfl, rfl⟩
      · have d1 : ¬ (97 : Int) ≤ (x : Int) := by omega
        have d2 : (48 : Int) ≤ (x : Int) := by omega
        have d2b : (x : Int) ≤ 57 := by omega
        have HO : Hid (Dk.okB x = true) := Lib.hid (by unfold Dk.okB; simp [h.1, h.2])
        clear h
        go_wp2_with fail
        go_roundg (gk - 1)
        case rel => exact ⟨k + 1, by go_num, by have := HK.out; have := HG.out; omega, rfl, Lib.hid (HGO.out HO.out)⟩
        case measure => have := HG.out; omega
      · have d1 : ¬ (97 : Int) ≤ (x : Int) := by omega
        have d2 : (48 : Int) ≤ (x : Int) := by omega
        have d2b : ¬ (x : Int) ≤ 57 := by omega
        have d3 : ((x : Int) == 45) = false := by rw [beq_eq_false_iff_ne]; omega
        have d4 : ((x : Int) == 46) = false := by rw [beq_eq_false_iff_ne]; omega
        have HO : Hid (Dk.okB x = false) := Lib.hid (by unfold Dk.okB; simp; omega)
        clear h
        go_wp2_with fail
        go_ret
        rw [HNO.out HO.out]
        exact ⟨rfl, rfl⟩
      · have d1 : (97 : Int) ≤ (x : Int) := by omega
        have d1b : ¬ (x : Int) ≤ 122 := by omega
        have d2 : (48 : Int) ≤ (x : Int) := by omega
        have d2b : ¬ (x : Int) ≤ 57 := by omega
        have d3 : ((x : Int) == 45) = false := by rw [beq_eq_false_iff_ne]; omega
        have d4 : ((x : Int) == 46) = false := by rw [beq_eq_false_iff_ne]; omega
        have HO : Hid (Dk.okB x = false) := Lib.hid (by unfold Dk.okB; simp; omega)
        clear h
        go_wp2_with fail
        go_ret
        rw [HNO.out HO.out]
        exact ⟨rfl, rfl⟩
    · have hl : ¬ (k : Int) < (s.size : Int) := by omega
      have hall : s.data.toList.all (fun c => Dk.okB c.toNat) = true := all8 fun i hi => HI.out i (by
        rw [Array.length_toList] at hi
        have h1 := HK.out
        have h2 : s.data.size = s.size := rfl
        omega)
      have HN2 : Hid (nm = (decide (1 ≤ s.size) && decide (s.size ≤ 16))) := Lib.hid (by rw [HNM.out]; unfold Dk.named; rw [hall]; simp)
      clear hall hlt
      by_cases c1 : 1 ≤ s.size
      · have d1 : (0 : Int) < (s.size : Int) := by omega
        by_cases c2 : s.size ≤ 16
        · have d2 : (s.size : Int) ≤ 16 := by omega
          have HN3 : Hid (nm = true) := Lib.hid (by rw [HN2.out]; simp [c1, c2])
          clear c1 c2
          go_wp2_with fail
          go_ret
          rw [HN3.out]
          exact ⟨rfl, rfl⟩
        · have d2 : ¬ (s.size : Int) ≤ 16 := by omega
          have HN3 : Hid (nm = false) := Lib.hid (by rw [HN2.out]; simp [c2])
          clear c1 c2
          go_wp2_with fail
          go_ret
          rw [HN3.out]
          exact ⟨rfl, rfl⟩
      · have d1 : ¬ (0 : Int) < (s.size : Int) := by omega
        have HN3 : Hid (nm = false) := Lib.hid (by rw [HN2.out]; simp [c1])
        clear c1
        go_wp2_with fail
        go_ret
        rw [HN3.out]
        exact ⟨rfl, rfl⟩
end Go.Proofs.Ytheocdfccdpmbaa
