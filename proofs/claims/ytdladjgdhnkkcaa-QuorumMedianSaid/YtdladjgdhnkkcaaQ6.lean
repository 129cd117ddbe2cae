/-
  Contracts of quorum and its reference: At, Ints, Reached.
  Conditions: the lists can be read.
-/
import Derived.Test.YtdladjgdhnkkcaaQP
namespace Go.Proofs.Ytdladjgdhnkkcaa
open Go.ChangeShapes Go.WideShapes Go.ChangeAt Go.RowKit Go.Deep
set_option linter.unusedVariables false
set_option linter.unusedSimpArgs false

def layIt : Lay (Int × Int) := ⟨2, fun x => [.int .i64 x.1, .int .i64 x.2], fun _ => rfl, by decide, fun x u hu => by simp at hu; rcases hu with rfl | rfl <;> rfl⟩
theorem infoL : (Try.prog.info? 2).map (fun i => (i.zero, i.size, i.bytes)) = some (some (.int .i64 0), 1, 8) := by kernel_rfl
theorem RdL.item {w : World} {A : Option Addr} {m : List (Int × Int)} (h : RdL layIt w A m) (i : Nat) (hi : i < m.length) : ∃ b off, A = some ⟨b, off, none⟩ ∧ b < w.heap.size ∧ w.cell? ⟨b, off + i * 2, none⟩ = some (.int .i64 (m.getD i default).1) ∧ w.cell? ⟨b, off + i * 2 + 1, none⟩ = some (.int .i64 (m.getD i default).2) := by
  obtain ⟨b, off, e, hb, hc⟩ := h i hi
  exact ⟨b, off, e, hb, hc 0 _ rfl, hc 1 _ rfl⟩

set_option maxRecDepth 100000 in
theorem ints_arg {H : Type} {enc : TypeId × Value → H} {w : World} {base b0 : Nat} {held : Bool} {v : Value} {d : DataW H} {p : List MemPlace}
    (hv : Value.okWide Try.prog w .any b0 45 v) (h : DataW.Trod enc Try.prog w base (fun _ => true) held 45 v d p) (hw : (d.weights Try.prog 45).all (· ≤ reachBytes) = true) :
    ∃ A ks cap, v = .slice A (List.length ks) cap ∧ List.length ks ≤ cap ∧ cap ≤ 20000000000000 ∧ RdI w A ks ∧ ∀ k ∈ ks, -9223372036854775808 ≤ k ∧ k ≤ 9223372036854775807 := by
  obtain ⟨A, len, cap, rfl, h1, _, h2, h4⟩ := open_arg_slice (n := 1) (ts := [3]) Try.underlying45 (by kernel_rfl) (by kernel_rfl) (by simp) hv h hw
  have hx : ∀ i, i < cap → ∃ x : Int, (-9223372036854775808 ≤ x ∧ x ≤ 9223372036854775807) ∧ ∃ b off, A = some ⟨b, off, none⟩ ∧ b < w.heap.size ∧ w.cell? ⟨b, off + i * 1, none⟩ = some (.int .i64 x) := fun i hi => by
    obtain ⟨b, off, vs, rfl, hb, _, hc, hl⟩ := h4 i hi
    obtain ⟨k, vs1, rfl, hk, hl⟩ := leaf_int Try.underlying3 hl
    have g0 := hc 0 _ rfl
    exact ⟨k, by simp [Lit.wf, IntKind.min, IntKind.max, IntKind.signed, IntKind.bits] at hk; exact hk, b, off, rfl, hb, g0⟩
  have e0 : ∀ i, i < len → ((List.range len).map fun i => if hi : i < cap then (hx i hi).choose else default).getD i default = if hi : i < cap then (hx i hi).choose else default := fun i hi => by
    simp [List.getD, hi]
  refine ⟨A, (List.range len).map fun i => if hi : i < cap then (hx i hi).choose else default, cap, by simp, by simpa using h1, by rw [show Try.prog.bytesOf 3 = 8 from by kernel_rfl] at h2; unfold reachBytes at h2; omega, fun i hi => ?_, fun k hk => ?_⟩
  · have hi' : i < len := by simpa using hi
    obtain ⟨_, b, off, e, hb, g0⟩ := (hx i (by omega)).choose_spec
    rw [e0 i hi', dif_pos (show i < cap by omega)]
    refine ⟨b, off, e, hb, fun r u hu => ?_⟩
    rcases r with _ | r
    · simp only [layI, List.getElem?_cons_zero, Option.some.injEq] at hu; rw [← hu]; exact g0
    · simp [layI] at hu
  · obtain ⟨i, hi, rfl⟩ := List.mem_map.1 hk
    have hi' : i < len := by simpa using hi
    rw [dif_pos (show i < cap by omega)]
    exact (hx i (by omega)).choose_spec.1
set_option maxRecDepth 100000 in
theorem items_arg {H : Type} {enc : TypeId × Value → H} {w : World} {base b0 : Nat} {held : Bool} {v : Value} {d : DataW H} {p : List MemPlace}
    (hv : Value.okWide Try.prog w .any b0 58 v) (h : DataW.Trod enc Try.prog w base (fun _ => true) held 58 v d p) (hw : (d.weights Try.prog 58).all (· ≤ reachBytes) = true) :
    ∃ A m cap, v = .slice A (List.length m) cap ∧ List.length m ≤ cap ∧ cap ≤ 20000000000000 ∧ RdL layIt w A m ∧ ∀ x ∈ m, -9223372036854775808 ≤ x.2 ∧ x.2 ≤ 9223372036854775807 := by
  obtain ⟨A, len, cap, rfl, h1, _, h2, h4⟩ := open_arg_slice (n := 2) (ts := [3, 2]) Try.underlying58 (by kernel_rfl) (by kernel_rfl) (by simp) hv h hw
  have hx : ∀ i, i < cap → ∃ x : Int × Int, (-9223372036854775808 ≤ x.2 ∧ x.2 ≤ 9223372036854775807) ∧ ∃ b off, A = some ⟨b, off, none⟩ ∧ b < w.heap.size ∧ w.cell? ⟨b, off + i * 2, none⟩ = some (.int .i64 x.1) ∧ w.cell? ⟨b, off + i * 2 + 1, none⟩ = some (.int .i64 x.2) := fun i hi => by
    obtain ⟨b, off, vs, rfl, hb, _, hc, hl⟩ := h4 i hi
    obtain ⟨k, vs1, rfl, _, hl⟩ := leaf_int Try.underlying3 hl
    obtain ⟨n, vs2, rfl, hn, hl⟩ := leaf_int Try.underlying2 hl
    have g0 := hc 0 _ rfl
    have g1 := hc 1 _ rfl
    exact ⟨(k, n), by simp [Lit.wf, IntKind.min, IntKind.max, IntKind.signed, IntKind.bits] at hn; exact hn, b, off, rfl, hb, g0, g1⟩
  have e0 : ∀ i, i < len → ((List.range len).map fun i => if hi : i < cap then (hx i hi).choose else default).getD i default = if hi : i < cap then (hx i hi).choose else default := fun i hi => by
    simp [List.getD, hi]
  refine ⟨A, (List.range len).map fun i => if hi : i < cap then (hx i hi).choose else default, cap, by simp, by simpa using h1, by rw [show Try.prog.bytesOf 92 = 16 from by kernel_rfl] at h2; unfold reachBytes at h2; omega, fun i hi => ?_, fun k hk => ?_⟩
  · have hi' : i < len := by simpa using hi
    obtain ⟨_, b, off, e, hb, g0, g1⟩ := (hx i (by omega)).choose_spec
    rw [e0 i hi', dif_pos (show i < cap by omega)]
    refine ⟨b, off, e, hb, fun r u hu => ?_⟩
    rcases r with _ | _ | r
    · simp only [layIt, List.getElem?_cons_zero, Option.some.injEq] at hu; rw [← hu]; exact g0
    · simp only [layIt, List.getElem?_cons_succ, List.getElem?_cons_zero, Option.some.injEq] at hu; rw [← hu]; exact g1
    · simp [layIt] at hu
  · obtain ⟨i, hi, rfl⟩ := List.mem_map.1 hk
    have hi' : i < len := by simpa using hi
    rw [dif_pos (show i < cap by omega)]
    exact (hx i (by omega)).choose_spec.1

set_option maxHeartbeats 1000000 in
theorem at_calls (A : Option Addr) (cap : Nat) (m : List (Int × Int)) (id : Int) (w : World) (hR : Hid (RdL layIt w A m)) (hlen : m.length ≤ 4611686018427387904) :
    Calls Try.prog 49 #[.slice A m.length cap, .int .i64 id] w fun e w' => e = .returned (.int .i64 (Qm.at_ m id)) ∧ w = w' := by
  obtain ⟨r, hr⟩ : ∃ r, r = Qm.at_ m id := ⟨_, rfl⟩
  rw [← hr]
  have HR := Lib.hid hr
  clear hr
  go_enter Try.func49, Try.ntmps49
  go_wp2_with fail
  go_loopg [5] m.length (fun g v5 W => W = w ∧ ∃ i : Int, v5 = .int .i64 i ∧ Hid (i = (g : Int) - 1) ∧ g ≤ m.length ∧ Hid (r = Qm.at_ (m.take g) id))
  case atStart => exact ⟨rfl, (m.length : Int) - 1, by go_num, Lib.hid rfl, Nat.le_refl _, Lib.hid (by rw [List.take_length]; exact HR.out)⟩
  case round =>
    obtain ⟨rfl, i, rfl, HIi, hgl, HI⟩ := hrel
    rcases gk with _ | g
    · have hi : i < 0 := by have := HIi.out; omega
      have hr : r = 0 := by rw [HI.out]; rfl
      have HRR := Lib.hid hr
      clear hr
      go_wp2_with fail
      go_ret
      rw [HRR.out]
      exact ⟨rfl, rfl⟩
    · have hig : i = (g : Int) := by have := HIi.out; push_cast at this; omega
      subst hig
      have hgl2 : g < m.length := by omega
      have hgl3 : (g : Int) < (m.length : Int) := by omega
      obtain ⟨b, off, rfl, _, c1, c2⟩ := hR.out.item g hgl2
      have hst : m.take (g + 1) = m.take g ++ [m.getD g default] := by rw [List.take_succ_eq_append_getElem hgl2]; simp [List.getD, hgl2]
      generalize m.getD g default = x at *
      obtain ⟨xi, xa⟩ := x
      simp only at c1 c2
      have hI := HI.out
      rw [hst, Qm.at_snoc] at hI
      simp only at hI
      have HII := Lib.hid hI
      clear hst hI HI HIi
      by_cases hx : xi = id
      · have hr : r = xa := by rw [HII.out, if_pos hx]
        subst hx
        have HRR := Lib.hid hr
        clear hr
        go_wp2_with fail
        go_ret
        rw [HRR.out]
        exact ⟨rfl, rfl⟩
      · have hr : r = Qm.at_ (m.take g) id := by rw [HII.out, if_neg hx]
        have hne : (xi == id) = false := by rw [beq_eq_false_iff_ne]; exact hx
        have HRR := Lib.hid hr
        clear hr hx
        go_wp2_with fail
        go_roundg g
        case rel => exact ⟨rfl, (g : Int) - 1, by go_num, Lib.hid rfl, by omega, HRR⟩
        case measure => omega

set_option maxHeartbeats 1000000 in
theorem qints_calls (A B : Option Addr) (cap cap' : Nat) (a b : List Int) (w : World) (hA : Hid (RdI w A a)) (hla : a.length ≤ 9223372036854775807) (hB : Hid (RdI w B b)) (hlb : b.length ≤ 9223372036854775807) :
    Calls Try.prog 45 #[.slice A a.length cap, .slice B b.length cap'] w fun e w' => e = .returned (.bool (decide (a = b))) ∧ Below w.heap.size w w' := by
  obtain ⟨r, hr⟩ : ∃ r, r = decide (a = b) := ⟨_, rfl⟩
  rw [← hr]
  have HR := Lib.hid hr
  clear hr
  by_cases hl : a.length = b.length
  rotate_left
  · have hli : ((a.length : Int) != (b.length : Int)) = true := by rw [bne_iff_ne]; omega
    have hr : r = false := by rw [HR.out, decide_eq_false]; intro e; rw [e] at hl; exact hl rfl
    have HRR := Lib.hid hr
    clear hl hr
    go_enter Try.func45, Try.ntmps45
    go_wp2_with fail
    go_ret
    exact ⟨ret_bool HRR.out.symm, Below.refl _ _⟩
  have hli : ((a.length : Int) != (b.length : Int)) = false := by rw [hl]; simp
  have HL := Lib.hid hl
  clear hl
  go_enter Try.func45, Try.ntmps45
  go_wp2_with fail
  go_loopg [5] a.length (fun g v5 W => Below w.heap.size w W ∧ ∃ k : Nat, v5 = .int .i64 k ∧ Hid (k + g = a.length ∧ a.take k = b.take k))
  case atStart => exact ⟨Below.refl _ _, 0, rfl, Lib.hid ⟨by omega, by simp⟩⟩
  case round =>
    obtain ⟨hb, k, rfl, HI⟩ := hrel
    by_cases hlt : k < a.length
    · have hl1 : (k : Int) < (a.length : Int) := by omega
      have hl2 : (k : Int) < (b.length : Int) := by have := HL.out; omega
      have hltb : k < b.length := by have := HL.out; omega
      have hg : 0 < gk := by have := HI.out.1; omega
      obtain ⟨b1, o1, rfl, h1, c1⟩ := hA.out.int k hlt
      obtain ⟨b2, o2, rfl, h2, c2⟩ := hB.out.int k hltb
      replace c1 := (hb.cell (p := ⟨b1, o1 + k, none⟩) h1).trans c1
      replace c2 := (hb.cell (p := ⟨b2, o2 + k, none⟩) h2).trans c2
      have ha : a.take (k + 1) = a.take k ++ [a.getD k default] := by rw [List.take_succ_eq_append_getElem hlt]; simp [List.getD, hlt]
      have hb' : b.take (k + 1) = b.take k ++ [b.getD k default] := by rw [List.take_succ_eq_append_getElem hltb]; simp [List.getD, hltb]
      generalize a.getD k default = x at *
      generalize b.getD k default = y at *
      have HA1 := Lib.hid ha
      have HB1 := Lib.hid hb'
      clear ha hb'
      by_cases hxy : x = y
      · subst hxy
        go_wp2_with fail
        go_quiet (fail)
        go_wp2_with fail
        go_roundg (gk - 1)
        case rel => exact ⟨bel_drewN hb _, k + 1, by go_num, Lib.hid ⟨by have := HI.out.1; omega, by rw [HA1.out, HB1.out, HI.out.2]⟩⟩
        case measure => omega
      · have hne : (x != y) = true := by rw [bne_iff_ne]; exact hxy
        have hr : r = false := by
          rw [HR.out, decide_eq_false]
          intro e
          have h1 := HA1.out
          rw [e, HB1.out] at h1
          exact hxy (by simpa using (List.append_inj' h1 rfl).2.symm)
        have HRR := Lib.hid hr
        clear hr hxy
        go_wp2_with fail
        go_quiet (fail)
        go_wp2_with fail
        go_ret
        exact ⟨ret_bool HRR.out.symm, bel_drewN hb _⟩
    · have hl1 : ¬ (k : Int) < (a.length : Int) := by omega
      have hr : r = true := by
        have hk : k = a.length := by have := HI.out.1; omega
        have h2 := HI.out.2
        rw [hk, List.take_length, HL.out, List.take_length] at h2
        rw [HR.out, decide_eq_true h2]
      have HRR := Lib.hid hr
      clear hr hlt
      go_wp2_with fail
      go_ret
      exact ⟨ret_bool HRR.out.symm, hb⟩
end Go.Proofs.Ytdladjgdhnkkcaa
