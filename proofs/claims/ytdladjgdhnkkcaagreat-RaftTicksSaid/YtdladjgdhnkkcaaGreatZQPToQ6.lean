
/-
  2 texts in one.
  Conditions: stated lemma by lemma.
-/
import Derived.Test.YtdladjgdhnkkcaaGreatZQ4ToQ5
/-
  Quorum, plain: sorting, the next configuration, what more than half have reached.
  Conditions: stated lemma by lemma.
-/
namespace Go.Proofs.YtdladjgdhnkkcaaGreat
set_option linter.unusedVariables false
set_option linter.unusedSimpArgs false

namespace Qm
/-- a number put into a rising list -/
def ins (x : Int) : List Int → List Int
  | [] => [x]
  | y :: l => if x ≤ y then x :: y :: l else y :: ins x l
/-- in rising order -/
def srt : List Int → List Int
  | [] => []
  | x :: l => ins x (srt l)
theorem ins_perm (x : Int) : ∀ l, (ins x l).Perm (x :: l)
  | [] => List.Perm.refl _
  | y :: l => by
    unfold ins
    split
    · exact List.Perm.refl _
    · exact ((ins_perm x l).cons y).trans (List.Perm.swap x y l)
theorem srt_perm : ∀ l, (srt l).Perm l
  | [] => List.Perm.refl _
  | x :: l => (ins_perm x (srt l)).trans ((srt_perm l).cons x)
theorem ins_rise (x : Int) : ∀ {l : List Int}, l.Pairwise (· ≤ ·) → (ins x l).Pairwise (· ≤ ·)
  | [], _ => by simp [ins]
  | y :: l, h => by
    unfold ins
    rw [List.pairwise_cons] at h
    split
    · rename_i hxy
      refine List.pairwise_cons.2 ⟨fun z hz => ?_, List.pairwise_cons.2 h⟩
      rcases List.mem_cons.1 hz with rfl | hz
      · exact hxy
      · exact Int.le_trans hxy (h.1 z hz)
    · rename_i hxy
      refine List.pairwise_cons.2 ⟨fun z hz => ?_, ins_rise x h.2⟩
      rcases List.mem_cons.1 ((ins_perm x l).subset hz) with rfl | hz
      · omega
      · exact h.1 z hz
theorem srt_rise : ∀ l, (srt l).Pairwise (· ≤ ·)
  | [] => List.Pairwise.nil
  | x :: l => ins_rise x (srt_rise l)
theorem srt_eq {a l : List Int} (hp : a.Perm l) (hr : a.Pairwise (· ≤ ·)) : a = srt l := rise_eq (hp.trans (srt_perm l).symm) hr (srt_rise l)

theorem asc_mono {p q : Int} (h : p ≤ q) : ∀ {l : List Int}, asc q l = true → asc p l = true
  | [], _ => rfl
  | x :: l, h2 => by
    simp only [asc, Bool.and_eq_true, decide_eq_true_eq] at h2 ⊢
    exact ⟨by omega, h2.2⟩
theorem asc_lt {p : Int} : ∀ {l : List Int}, asc p l = true → ∀ x ∈ l, p < x
  | [], _, x, hx => by simp at hx
  | y :: l, h, x, hx => by
    simp only [asc, Bool.and_eq_true, decide_eq_true_eq] at h
    rcases List.mem_cons.1 hx with rfl | hx
    · exact h.1
    · have := asc_lt h.2 x hx; omega
theorem asc_rise {p : Int} : ∀ {l : List Int}, asc p l = true → l.Pairwise (· ≤ ·)
  | [], _ => List.Pairwise.nil
  | y :: l, h => by
    simp only [asc, Bool.and_eq_true, decide_eq_true_eq] at h
    exact List.pairwise_cons.2 ⟨fun x hx => by have := asc_lt h.2 x hx; omega, asc_rise h.2⟩
theorem asc_rest {p : Int} (r : Int) : ∀ {l : List Int}, asc p l = true → asc p (rest r l) = true
  | [], _ => rfl
  | y :: l, h => by
    simp only [asc, Bool.and_eq_true, decide_eq_true_eq] at h
    have ih := asc_rest r h.2
    unfold rest at ih ⊢
    by_cases hy : y = r
    · rw [List.filter_cons_of_neg (by simp [hy])]
      exact asc_mono (by omega) ih
    · rw [List.filter_cons_of_pos (by simp [hy])]
      simp only [asc, Bool.and_eq_true, decide_eq_true_eq]
      exact ⟨h.1, ih⟩

/-- which configuration comes of another -/
def nxt (conf : List Int) (add remove : Int) : Option (List Int) :=
  if chk conf = false ∨ add < 0 ∨ remove < 0 ∨ add ∈ conf ∨ (0 < remove ∧ remove ∉ conf) then none
  else if chk (srt (rest remove (if 0 < add then conf ++ [add] else conf))) then some (srt (rest remove (if 0 < add then conf ++ [add] else conf))) else none

/-- the reference's way: one after the other, the new one in its place -/
def putin (add remove : Int) : Bool → List Int → List Int
  | put, [] => if put then [] else [add]
  | put, x :: l => (if !put && decide (add < x) then [add] else []) ++ ((if x = remove then [] else [x]) ++ putin add remove (put || decide (add < x)) l)
theorem putin_true (add remove : Int) : ∀ l, putin add remove true l = rest remove l
  | [] => rfl
  | x :: l => by
    simp only [putin, Bool.not_true, Bool.false_and, Bool.true_or, putin_true add remove l]
    unfold rest
    by_cases h : x = remove <;> simp [h]
theorem putin_perm {add remove : Int} (hne : add ≠ remove) : ∀ l, (putin add remove false l).Perm (rest remove (l ++ [add]))
  | [] => by simp [putin, rest, hne]
  | x :: l => by
    simp only [putin, Bool.not_false, Bool.true_and, Bool.false_or]
    by_cases h : add < x
    · simp only [decide_eq_true h, if_true, putin_true]
      have e : ((if x = remove then [] else [x]) ++ rest remove l) = rest remove (x :: l) := by
        unfold rest
        by_cases h : x = remove <;> simp [h]
      rw [e]
      have e2 : rest remove (x :: l ++ [add]) = rest remove (x :: l) ++ [add] := by
        unfold rest
        rw [List.filter_append]
        simp [hne]
      rw [e2]
      exact (List.perm_append_comm (l₁ := [add]) (l₂ := rest remove (x :: l)))
    · simp only [decide_eq_false h, Bool.false_eq_true, if_false, List.nil_append]
      have e2 : rest remove (x :: l ++ [add]) = (if x = remove then [] else [x]) ++ rest remove (l ++ [add]) := by
        unfold rest
        by_cases h : x = remove <;> simp [h]
      rw [e2]
      exact List.Perm.append_left _ (putin_perm hne l)
theorem putin_asc {add remove : Int} : ∀ {l : List Int} {p : Int}, asc p l = true → p < add → add ∉ l → asc p (putin add remove false l) = true
  | [], p, _, hp, _ => by simp [putin, asc, hp]
  | x :: l, p, h, hp, hn => by
    have h' := h
    simp only [asc, Bool.and_eq_true, decide_eq_true_eq] at h'
    simp only [putin, Bool.not_false, Bool.true_and, Bool.false_or]
    by_cases ha : add < x
    · simp only [decide_eq_true ha, if_true, putin_true]
      have e : ((if x = remove then [] else [x]) ++ rest remove l) = rest remove (x :: l) := by
        unfold rest
        by_cases h : x = remove <;> simp [h]
      rw [e]
      show (decide (p < add) && asc add (rest remove (x :: l))) = true
      rw [decide_eq_true hp, Bool.true_and]
      exact asc_rest remove (by simp only [asc, Bool.and_eq_true, decide_eq_true_eq]; exact ⟨ha, h'.2⟩)
    · simp only [decide_eq_false ha]
      have hxa : x ≠ add := fun e => hn (by simp [e])
      have ih := putin_asc (remove := remove) h'.2 (show x < add by omega) (fun hm => hn (by simp [hm]))
      by_cases hr : x = remove
      · simp only [hr, if_true]
        rw [hr] at ih h'
        exact asc_mono (by omega) ih
      · simp only [hr, if_false]
        show (decide (p < x) && asc x _) = true
        rw [decide_eq_true h'.1, Bool.true_and]
        exact ih
theorem chk_asc {l : List Int} (h : chk l = true) : asc 0 l = true ∧ 0 < l.length ∧ l.length ≤ 7 := by
  unfold chk at h
  simp only [Bool.and_eq_true, decide_eq_true_eq] at h
  exact ⟨h.2, h.1.1, h.1.2⟩
/-- both ways lead to the same list -/
theorem putin_srt {conf : List Int} {add remove : Int} (hc : chk conf = true) (ha : 0 ≤ add) (hn : add ∉ conf) (hr : 0 < remove → remove ∈ conf) :
    putin add remove (decide (add = 0)) conf = srt (rest remove (if 0 < add then conf ++ [add] else conf)) := by
  obtain ⟨h1, h2, h3⟩ := chk_asc hc
  by_cases h0 : add = 0
  · rw [decide_eq_true h0, if_neg (by omega), putin_true]
    exact srt_eq (List.Perm.refl _) (asc_rise (asc_rest remove h1))
  · rw [decide_eq_false h0, if_pos (by omega)]
    have hne : add ≠ remove := fun e => hn (e ▸ hr (by omega))
    exact srt_eq (putin_perm hne conf) (asc_rise (putin_asc h1 (by omega) hn))

/-- what a node has reached -/
def at_ (m : List (Int × Int)) (id : Int) : Int := m.foldl (fun n x => if x.1 = id then x.2 else n) 0
theorem at_snoc (m : List (Int × Int)) (x : Int × Int) (id : Int) : at_ (m ++ [x]) id = if x.1 = id then x.2 else at_ m id := by simp [at_, List.foldl_append]
/-- what more than half of the nodes have reached -/
def reached (conf : List Int) (m : List (Int × Int)) : Int := if chk conf then (srt (conf.map (at_ m))).getD ((conf.length - 1) / 2) 0 else 0
/-- how many of them are no less -/
def atl (A : List Int) (x : Int) : Nat := (A.filter fun y => decide (x ≤ y)).length
theorem atl_perm {A B : List Int} (h : A.Perm B) (x : Int) : atl A x = atl B x := (h.filter _).length_eq
theorem rise_take {s : List Int} (h : s.Pairwise (· ≤ ·)) (k : Nat) (hk : k < s.length) : (∀ y ∈ s.take (k + 1), y ≤ s.getD k 0) ∧ (∀ y ∈ s.drop k, s.getD k 0 ≤ y) := by
  have hp := List.pairwise_iff_getElem.1 h
  have e : s.getD k 0 = s[k] := by simp [List.getD, hk]
  rw [e]
  constructor
  · intro y hy
    obtain ⟨i, hi, rfl⟩ := List.getElem_of_mem hy
    rw [List.length_take] at hi
    rw [List.getElem_take]
    by_cases hik : i = k
    · subst hik; exact Int.le_refl _
    · exact hp i k (by omega) hk (by omega)
  · intro y hy
    obtain ⟨i, hi, rfl⟩ := List.getElem_of_mem hy
    rw [List.length_drop] at hi
    rw [List.getElem_drop]
    by_cases hik : i = 0
    · subst hik; exact Int.le_refl _
    · exact hp k (k + i) hk (by omega) (by omega)
theorem atl_split (s : List Int) (k : Nat) (x : Int) : atl s x = atl (s.take k) x + atl (s.drop k) x := by
  unfold atl
  rw [← List.length_append, ← List.filter_append, List.take_append_drop]
theorem atl_all {s : List Int} {x : Int} (h : ∀ y ∈ s, x ≤ y) : atl s x = s.length := by
  unfold atl
  rw [List.filter_eq_self.2 (fun y hy => by simpa using h y hy)]
theorem atl_none {s : List Int} {x : Int} (h : ∀ y ∈ s, y < x) : atl s x = 0 := by
  unfold atl
  rw [List.length_eq_zero_iff, List.filter_eq_nil_iff]
  intro y hy
  have := h y hy
  simp
  omega
theorem atl_le (s : List Int) (x : Int) : atl s x ≤ s.length := List.length_filter_le _ _
/-- the middle one of them: more than half are no less, and whatever is greater has not more than half -/
theorem mid_one {A : List Int} (h0 : 0 < A.length) : (srt A).getD ((A.length - 1) / 2) 0 ∈ A ∧ A.length < 2 * atl A ((srt A).getD ((A.length - 1) / 2) 0) ∧ ∀ x, (srt A).getD ((A.length - 1) / 2) 0 < x → ¬ A.length < 2 * atl A x := by
  have hl : (srt A).length = A.length := (srt_perm A).length_eq
  have hk : (A.length - 1) / 2 < (srt A).length := by omega
  obtain ⟨t1, t2⟩ := rise_take (srt_rise A) _ hk
  generalize hM : (srt A).getD ((A.length - 1) / 2) 0 = M at *
  refine ⟨?_, ?_, ?_⟩
  · refine (srt_perm A).subset ?_
    rw [← hM]
    simp only [List.getD, List.getElem?_eq_getElem hk, Option.getD_some]
    exact List.getElem_mem hk
  · rw [← atl_perm (srt_perm A), atl_split _ ((A.length - 1) / 2), atl_all t2, List.length_drop]
    omega
  · intro x hx
    rw [← atl_perm (srt_perm A), atl_split _ ((A.length - 1) / 2 + 1), atl_none (fun y hy => by have := t1 y hy; omega)]
    have := atl_le ((srt A).drop ((A.length - 1) / 2 + 1)) x
    rw [List.length_drop] at this
    omega
end Qm
end Go.Proofs.YtdladjgdhnkkcaaGreat

/-
  Contracts of quorum and its reference: At, Ints, Reached.
  Conditions: the lists can be read.
-/
namespace Go.Proofs.YtdladjgdhnkkcaaGreat
open Go.ChangeShapes Go.WideShapes Go.ChangeAt Go.RowKit Go.Deep
set_option linter.unusedVariables false
set_option linter.unusedSimpArgs false

def layIt : Lay (Int × Int) := ⟨2, fun x => [.int .i64 x.1, .int .i64 x.2], fun _ => rfl, by decide, fun x u hu => by simp at hu; rcases hu with rfl | rfl <;> rfl⟩
theorem infoL : (Tryz.prog.info? 2).map (fun i => (i.zero, i.size, i.bytes)) = some (some (.int .i64 0), 1, 8) := by kernel_rfl
theorem RdL.item {w : World} {A : Option Addr} {m : List (Int × Int)} (h : RdL layIt w A m) (i : Nat) (hi : i < m.length) : ∃ b off, A = some ⟨b, off, none⟩ ∧ b < w.heap.size ∧ w.cell? ⟨b, off + i * 2, none⟩ = some (.int .i64 (m.getD i default).1) ∧ w.cell? ⟨b, off + i * 2 + 1, none⟩ = some (.int .i64 (m.getD i default).2) := by
  obtain ⟨b, off, e, hb, hc⟩ := h i hi
  exact ⟨b, off, e, hb, hc 0 _ rfl, hc 1 _ rfl⟩

set_option maxRecDepth 100000 in
theorem ints_arg {H : Type} {enc : TypeId × Value → H} {w : World} {base b0 : Nat} {held : Bool} {v : Value} {d : DataW H} {p : List MemPlace}
    (hv : Value.okWide Tryz.prog w .any b0 22 v) (h : DataW.Trod enc Tryz.prog w base (fun _ => true) held 22 v d p) (hw : (d.weights Tryz.prog 22).all (· ≤ reachBytes) = true) :
    ∃ A ks cap, v = .slice A (List.length ks) cap ∧ List.length ks ≤ cap ∧ cap ≤ 20000000000000 ∧ RdI w A ks ∧ ∀ k ∈ ks, -9223372036854775808 ≤ k ∧ k ≤ 9223372036854775807 := by
  obtain ⟨A, len, cap, rfl, h1, _, h2, h4⟩ := open_arg_slice (n := 1) (ts := [3]) Tryz.underlying22 (by kernel_rfl) (by kernel_rfl) (by simp) hv h hw
  have hx : ∀ i, i < cap → ∃ x : Int, (-9223372036854775808 ≤ x ∧ x ≤ 9223372036854775807) ∧ ∃ b off, A = some ⟨b, off, none⟩ ∧ b < w.heap.size ∧ w.cell? ⟨b, off + i * 1, none⟩ = some (.int .i64 x) := fun i hi => by
    obtain ⟨b, off, vs, rfl, hb, _, hc, hl⟩ := h4 i hi
    obtain ⟨k, vs1, rfl, hk, hl⟩ := leaf_int Tryz.underlying3 hl
    have g0 := hc 0 _ rfl
    exact ⟨k, by simp [Lit.wf, IntKind.min, IntKind.max, IntKind.signed, IntKind.bits] at hk; exact hk, b, off, rfl, hb, g0⟩
  have e0 : ∀ i, i < len → ((List.range len).map fun i => if hi : i < cap then (hx i hi).choose else default).getD i default = if hi : i < cap then (hx i hi).choose else default := fun i hi => by
    simp [List.getD, hi]
  refine ⟨A, (List.range len).map fun i => if hi : i < cap then (hx i hi).choose else default, cap, by simp, by simpa using h1, by rw [show Tryz.prog.bytesOf 3 = 8 from by kernel_rfl] at h2; unfold reachBytes at h2; omega, fun i hi => ?_, fun k hk => ?_⟩
  · have hi' : i < len := by simpa using hi
    obtain ⟨_, b, off, e, hb, g0⟩ := (hx i (by omega)).choose_spec
    rw [e0 i hi', dif_pos (show i < cap by omega)]
    refine ⟨b, off, e, hb, fun r u hu => ?_⟩
    rcases r with _ | r
    · simp only [layI, List.getElem?_cons_zero, Option.some.injEq] at hu; rw [← hu]; exact g0
    · simp [layI] at hu
  · obtain ⟨i, hi, rfl⟩ := List.mem_map.1 hk
    have hi' : i < len := by simpa using hi
    rw [dif_pos (show i < cap by omega)]
    exact (hx i (by omega)).choose_spec.1
set_option maxRecDepth 100000 in
theorem items_arg {H : Type} {enc : TypeId × Value → H} {w : World} {base b0 : Nat} {held : Bool} {v : Value} {d : DataW H} {p : List MemPlace}
    (hv : Value.okWide Tryz.prog w .any b0 88 v) (h : DataW.Trod enc Tryz.prog w base (fun _ => true) held 88 v d p) (hw : (d.weights Tryz.prog 88).all (· ≤ reachBytes) = true) :
    ∃ A m cap, v = .slice A (List.length m) cap ∧ List.length m ≤ cap ∧ cap ≤ 20000000000000 ∧ RdL layIt w A m ∧ ∀ x ∈ m, -9223372036854775808 ≤ x.2 ∧ x.2 ≤ 9223372036854775807 := by
  obtain ⟨A, len, cap, rfl, h1, _, h2, h4⟩ := open_arg_slice (n := 2) (ts := [3, 2]) Tryz.underlying88 (by kernel_rfl) (by kernel_rfl) (by simp) hv h hw
  have hx : ∀ i, i < cap → ∃ x : Int × Int, (-9223372036854775808 ≤ x.2 ∧ x.2 ≤ 9223372036854775807) ∧ ∃ b off, A = some ⟨b, off, none⟩ ∧ b < w.heap.size ∧ w.cell? ⟨b, off + i * 2, none⟩ = some (.int .i64 x.1) ∧ w.cell? ⟨b, off + i * 2 + 1, none⟩ = some (.int .i64 x.2) := fun i hi => by
    obtain ⟨b, off, vs, rfl, hb, _, hc, hl⟩ := h4 i hi
    obtain ⟨k, vs1, rfl, _, hl⟩ := leaf_int Tryz.underlying3 hl
    obtain ⟨n, vs2, rfl, hn, hl⟩ := leaf_int Tryz.underlying2 hl
    have g0 := hc 0 _ rfl
    have g1 := hc 1 _ rfl
    exact ⟨(k, n), by simp [Lit.wf, IntKind.min, IntKind.max, IntKind.signed, IntKind.bits] at hn; exact hn, b, off, rfl, hb, g0, g1⟩
  have e0 : ∀ i, i < len → ((List.range len).map fun i => if hi : i < cap then (hx i hi).choose else default).getD i default = if hi : i < cap then (hx i hi).choose else default := fun i hi => by
    simp [List.getD, hi]
  refine ⟨A, (List.range len).map fun i => if hi : i < cap then (hx i hi).choose else default, cap, by simp, by simpa using h1, by rw [show Tryz.prog.bytesOf 90 = 16 from by kernel_rfl] at h2; unfold reachBytes at h2; omega, fun i hi => ?_, fun k hk => ?_⟩
  · have hi' : i < len := by simpa using hi
    obtain ⟨_, b, off, e, hb, g0, g1⟩ := (hx i (by omega)).choose_spec
    rw [e0 i hi', dif_pos (show i < cap by omega)]
    refine ⟨b, off, e, hb, fun r u hu => ?_⟩
    rcases r with _ | _ | r
    · simp only [layIt, List.getElem?_cons_zero, Option.some.injEq] at hu; rw [← hu]; exact g0
    · simp only [layIt, List.getElem?_cons_succ, List.getElem?_cons_zero, Option.some.injEq] at hu; rw [← hu]; exact g1
    · simp [layIt] at hu
  · obtain ⟨i, hi, rfl⟩ := List.mem_map.1 hk
    have hi' : i < len := by simpa using hi
    rw [dif_pos (show i < cap by omega)]
    exact (hx i (by omega)).choose_spec.1

set_option maxHeartbeats 1000000 in
theorem at_calls (A : Option Addr) (cap : Nat) (m : List (Int × Int)) (id : Int) (w : World) (hR : Hid (RdL layIt w A m)) (hlen : m.length ≤ 4611686018427387904) :
    Calls Tryz.prog 97 #[.slice A m.length cap, .int .i64 id] w fun e w' => e = .returned (.int .i64 (Qm.at_ m id)) ∧ w = w' := by
  obtain ⟨r, hr⟩ : ∃ r, r = Qm.at_ m id := ⟨_, rfl⟩
  rw [← hr]
  have HR := Lib.hid hr
  clear hr
  go_enter Tryz.func97, Tryz.ntmps97
  go_wp2_with fail
  go_loopg [5] m.length (fun g v5 W => W = w ∧ ∃ i : Int, v5 = .int .i64 i ∧ Hid (i = (g : Int) - 1) ∧ g ≤ m.length ∧ Hid (r = Qm.at_ (m.take g) id))
  case atStart => exact ⟨rfl, (m.length : Int) - 1, by go_num, Lib.hid rfl, Nat.le_refl _, Lib.hid (by rw [List.take_length]; exact HR.out)⟩
  case round =>
    obtain ⟨rfl, i, rfl, HIi, hgl, HI⟩ := hrel
    rcases gk with _ | g
    · have hi : i < 0 := by have := HIi.out; omega
      have hr : r = 0 := by rw [HI.out]; rfl
      have HRR := Lib.hid hr
      clear hr
      go_wp2_with fail
      go_ret
      rw [HRR.out]
      exact ⟨rfl, rfl⟩
    · have hig : i = (g : Int) := by have := HIi.out; push_cast at this; omega
      subst hig
      have hgl2 : g < m.length := by omega
      have hgl3 : (g : Int) < (m.length : Int) := by omega
      obtain ⟨b, off, rfl, _, c1, c2⟩ := hR.out.item g hgl2
      have hst : m.take (g + 1) = m.take g ++ [m.getD g default] := by rw [List.take_succ_eq_append_getElem hgl2]; simp [List.getD, hgl2]
      generalize m.getD g default = x at *
      obtain ⟨xi, xa⟩ := x
      simp only at c1 c2
      have hI := HI.out
      rw [hst, Qm.at_snoc] at hI
      simp only at hI
      have HII := Lib.hid hI
      clear hst hI HI HIi
      by_cases hx : xi = id
      · have hr : r = xa := by rw [HII.out, if_pos hx]
        subst hx
        have HRR := Lib.hid hr
        clear hr
        go_wp2_with fail
        go_ret
        rw [HRR.out]
        exact ⟨rfl, rfl⟩
      · have hr : r = Qm.at_ (m.take g) id := by rw [HII.out, if_neg hx]
        have hne : (xi == id) = false := by rw [beq_eq_false_iff_ne]; exact hx
        have HRR := Lib.hid hr
        clear hr hx
        go_wp2_with fail
        go_roundg g
        case rel => exact ⟨rfl, (g : Int) - 1, by go_num, Lib.hid rfl, by omega, HRR⟩
        case measure => omega

set_option maxHeartbeats 1000000 in
theorem qints_calls (A B : Option Addr) (cap cap' : Nat) (a b : List Int) (w : World) (hA : Hid (RdI w A a)) (hla : a.length ≤ 9223372036854775807) (hB : Hid (RdI w B b)) (hlb : b.length ≤ 9223372036854775807) :
    Calls Tryz.prog 33 #[.slice A a.length cap, .slice B b.length cap'] w fun e w' => e = .returned (.bool (decide (a = b))) ∧ Below w.heap.size w w' := by
  obtain ⟨r, hr⟩ : ∃ r, r = decide (a = b) := ⟨_, rfl⟩
  rw [← hr]
  have HR := Lib.hid hr
  clear hr
  by_cases hl : a.length = b.length
  rotate_left
  · have hli : ((a.length : Int) != (b.length : Int)) = true := by rw [bne_iff_ne]; omega
    have hr : r = false := by rw [HR.out, decide_eq_false]; intro e; rw [e] at hl; exact hl rfl
    have HRR := Lib.hid hr
    clear hl hr
    go_enter Tryz.func33, Tryz.ntmps33
    go_wp2_with fail
    go_ret
    exact ⟨ret_bool HRR.out.symm, Below.refl _ _⟩
  have hli : ((a.length : Int) != (b.length : Int)) = false := by rw [hl]; simp
  have HL := Lib.hid hl
  clear hl
  go_enter Tryz.func33, Tryz.ntmps33
  go_wp2_with fail
  go_loopg [5] a.length (fun g v5 W => Below w.heap.size w W ∧ ∃ k : Nat, v5 = .int .i64 k ∧ Hid (k + g = a.length ∧ a.take k = b.take k))
  case atStart => exact ⟨Below.refl _ _, 0, rfl, Lib.hid ⟨by omega, by simp⟩⟩
  case round =>
    obtain ⟨hb, k, rfl, HI⟩ := hrel
    by_cases hlt : k < a.length
    · have hl1 : (k : Int) < (a.length : Int) := by omega
      have hl2 : (k : Int) < (b.length : Int) := by have := HL.out; omega
      have hltb : k < b.length := by have := HL.out; omega
      have hg : 0 < gk := by have := HI.out.1; omega
      obtain ⟨b1, o1, rfl, h1, c1⟩ := hA.out.int k hlt
      obtain ⟨b2, o2, rfl, h2, c2⟩ := hB.out.int k hltb
      replace c1 := (hb.cell (p := ⟨b1, o1 + k, none⟩) h1).trans c1
      replace c2 := (hb.cell (p := ⟨b2, o2 + k, none⟩) h2).trans c2
      have ha : a.take (k + 1) = a.take k ++ [a.getD k default] := by rw [List.take_succ_eq_append_getElem hlt]; simp [List.getD, hlt]
      have hb' : b.take (k + 1) = b.take k ++ [b.getD k default] := by rw [List.take_succ_eq_append_getElem hltb]; simp [List.getD, hltb]
      generalize a.getD k default = x at *
      generalize b.getD k default = y at *
      have HA1 := Lib.hid ha
      have HB1 := Lib.hid hb'
      clear ha hb'
      by_cases hxy : x = y
      · subst hxy
        go_wp2_with fail
        go_quiet (fail)
        go_wp2_with fail
        go_roundg (gk - 1)
        case rel => exact ⟨bel_drewN hb _, k + 1, by go_num, Lib.hid ⟨by have := HI.out.1; omega, by rw [HA1.out, HB1.out, HI.out.2]⟩⟩
        case measure => omega
      · have hne : (x != y) = true := by rw [bne_iff_ne]; exact hxy
        have hr : r = false := by
          rw [HR.out, decide_eq_false]
          intro e
          have h1 := HA1.out
          rw [e, HB1.out] at h1
          exact hxy (by simpa using (List.append_inj' h1 rfl).2.symm)
        have HRR := Lib.hid hr
        clear hr hxy
        go_wp2_with fail
        go_quiet (fail)
        go_wp2_with fail
        go_ret
        exact ⟨ret_bool HRR.out.symm, bel_drewN hb _⟩
    · have hl1 : ¬ (k : Int) < (a.length : Int) := by omega
      have hr : r = true := by
        have hk : k = a.length := by have := HI.out.1; omega
        have h2 := HI.out.2
        rw [hk, List.take_length, HL.out, List.take_length] at h2
        rw [HR.out, decide_eq_true h2]
      have HRR := Lib.hid hr
      clear hr hlt
      go_wp2_with fail
      go_ret
      exact ⟨ret_bool HRR.out.symm, hb⟩
end Go.Proofs.YtdladjgdhnkkcaaGreat
