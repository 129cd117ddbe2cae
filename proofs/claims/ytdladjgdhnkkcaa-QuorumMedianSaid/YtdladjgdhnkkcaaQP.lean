/-
  Quorum, plain: sorting, the next configuration, what more than half have reached.
  Conditions: stated lemma by lemma.
-/
import Derived.Test.YtdladjgdhnkkcaaQ5
namespace Go.Proofs.Ytdladjgdhnkkcaa
set_option linter.unusedVariables false
set_option linter.unusedSimpArgs false

namespace Qm
/-- a number put into a rising list -/
def ins (x : Int) : List Int → List Int
  | [] => [x]
  | y :: l => if x ≤ y then x :: y :: l else y :: ins x l
/-- in rising order -/
def srt : List Int → List Int
  | [] => []
  | x :: l => ins x (srt l)
theorem ins_perm (x : Int) : ∀ l, (ins x l).Perm (x :: l)
  | [] => List.Perm.refl _
  | y :: l => by
    unfold ins
    split
    · exact List.Perm.refl _
    · exact ((ins_perm x l).cons y).trans (List.Perm.swap x y l)
theorem srt_perm : ∀ l, (srt l).Perm l
  | [] => List.Perm.refl _
  | x :: l => (ins_perm x (srt l)).trans ((srt_perm l).cons x)
theorem ins_rise (x : Int) : ∀ {l : List Int}, l.Pairwise (· ≤ ·) → (ins x l).Pairwise (· ≤ ·)
  | [], _ => by simp [ins]
  | y :: l, h => by
    unfold ins
    rw [List.pairwise_cons] at h
    split
    · rename_i hxy
      refine List.pairwise_cons.2 ⟨fun z hz => ?_, List.pairwise_cons.2 h⟩
      rcases List.mem_cons.1 hz with rfl | hz
      · exact hxy
      · exact Int.le_trans hxy (h.1 z hz)
    · rename_i hxy
      refine List.pairwise_cons.2 ⟨fun z hz => ?_, ins_rise x h.2⟩
      rcases List.mem_cons.1 ((ins_perm x l).subset hz) with rfl | hz
      · omega
      · exact h.1 z hz
theorem srt_rise : ∀ l, (srt l).Pairwise (· ≤ ·)
  | [] => List.Pairwise.nil
  | x :: l => ins_rise x (srt_rise l)
theorem srt_eq {a l : List Int} (hp : a.Perm l) (hr : a.Pairwise (· ≤ ·)) : a = srt l := rise_eq (hp.trans (srt_perm l).symm) hr (srt_rise l)

theorem asc_mono {p q : Int} (h : p ≤ q) : ∀ {l : List Int}, asc q l = true → asc p l = true
  | [], _ => rfl
  | x :: l, h2 => by
    simp only [asc, Bool.and_eq_true, decide_eq_true_eq] at h2 ⊢
    exact ⟨by omega, h2.2⟩
theorem asc_lt {p : Int} : ∀ {l : List Int}, asc p l = true → ∀ x ∈ l, p < x
  | [], _, x, hx => by simp at hx
  | y :: l, h, x, hx => by
    simp only [asc, Bool.and_eq_true, decide_eq_true_eq] at h
    rcases List.mem_cons.1 hx with rfl | hx
    · exact h.1
    · have := asc_lt h.2 x hx; omega
theorem asc_rise {p : Int} : ∀ {l : List Int}, asc p l = true → l.Pairwise (· ≤ ·)
  | [], _ => List.Pairwise.nil
  | y :: l, h => by
    simp only [asc, Bool.and_eq_true, decide_eq_true_eq] at h
    exact List.pairwise_cons.2 ⟨fun x hx => by have := asc_lt h.2 x hx; omega, asc_rise h.2⟩
theorem asc_rest {p : Int} (r : Int) : ∀ {l : List Int}, asc p l = true → asc p (rest r l) = true
  | [], _ => rfl
  | y :: l, h => by
    simp only [asc, Bool.and_eq_true, decide_eq_true_eq] at h
    have ih := asc_rest r h.2
    unfold rest at ih ⊢
    by_cases hy : y = r
    · rw [List.filter_cons_of_neg (by simp [hy])]
      exact asc_mono (by omega) ih
    · rw [List.filter_cons_of_pos (by simp [hy])]
      simp only [asc, Bool.and_eq_true, decide_eq_true_eq]
      exact ⟨h.1, ih⟩

/-- which configuration comes of another -/
def nxt (conf : List Int) (add remove : Int) : Option (List Int) :=
  if chk conf = false ∨ add < 0 ∨ remove < 0 ∨ add ∈ conf ∨ (0 < remove ∧ remove ∉ conf) then none
  else if chk (srt (rest remove (if 0 < add then conf ++ [add] else conf))) then some (srt (rest remove (if 0 < add then conf ++ [add] else conf))) else none

/-- the reference's way: one after the other, the new one in its place -/
def putin (add remove : Int) : Bool → List Int → List Int
  | put, [] => if put then [] else [add]
  | put, x :: l => (if !put && decide (add < x) then [add] else []) ++ ((if x = remove then [] else [x]) ++ putin add remove (put || decide (add < x)) l)
theorem putin_true (add remove : Int) : ∀ l, putin add remove true l = rest remove l
  | [] => rfl
  | x :: l => by
    simp only [putin, Bool.not_true, Bool.false_and, Bool.true_or, putin_true add remove l]
    unfold rest
    by_cases h : x = remove <;> simp [h]
theorem putin_perm {add remove : Int} (hne : add ≠ remove) : ∀ l, (putin add remove false l).Perm (rest remove (l ++ [add]))
  | [] => by simp [putin, rest, hne]
  | x :: l => by
    simp only [putin, Bool.not_false, Bool.true_and, Bool.false_or]
    by_cases h : add < x
    · simp only [decide_eq_true h, if_true, putin_true]
      have e : ((if x = remove then [] else [x]) ++ rest remove l) = rest remove (x :: l) := by
        unfold rest
        by_cases h : x = remove <;> simp [h]
      rw [e]
      have e2 : rest remove (x :: l ++ [add]) = rest remove (x :: l) ++ [add] := by
        unfold rest
        rw [List.filter_append]
        simp [hne]
      rw [e2]
      exact (List.perm_append_comm (l₁ := [add]) (l₂ := rest remove (x :: l)))
    · simp only [decide_eq_false h, Bool.false_eq_true, if_false, List.nil_append]
      have e2 : rest remove (x :: l ++ [add]) = (if x = remove then [] else [x]) ++ rest remove (l ++ [add]) := by
        unfold rest
        by_cases h : x = remove <;> simp [h]
      rw [e2]
      exact List.Perm.append_left _ (putin_perm hne l)
theorem putin_asc {add remove : Int} : ∀ {l : List Int} {p : Int}, asc p l = true → p < add → add ∉ l → asc p (putin add remove false l) = true
  | [], p, _, hp, _ => by simp [putin, asc, hp]
  | x :: l, p, h, hp, hn => by
    have h' := h
    simp only [asc, Bool.and_eq_true, decide_eq_true_eq] at h'
    simp only [putin, Bool.not_false, Bool.true_and, Bool.false_or]
    by_cases ha : add < x
    · simp only [decide_eq_true ha, if_true, putin_true]
      have e : ((if x = remove then [] else [x]) ++ rest remove l) = rest remove (x :: l) := by
        unfold rest
        by_cases h : x = remove <;> simp [h]
      rw [e]
      show (decide (p < add) && asc add (rest remove (x :: l))) = true
      rw [decide_eq_true hp, Bool.true_and]
      exact asc_rest remove (by simp only [asc, Bool.and_eq_true, decide_eq_true_eq]; exact ⟨ha, h'.2⟩)
    · simp only [decide_eq_false ha]
      have hxa : x ≠ add := fun e => hn (by simp [e])
      have ih := putin_asc (remove := remove) h'.2 (show x < add by omega) (fun hm => hn (by simp [hm]))
      by_cases hr : x = remove
      · simp only [hr, if_true]
        rw [hr] at ih h'
        exact asc_mono (by omega) ih
      · simp only [hr, if_false]
        show (decide (p < x) && asc x _) = true
        rw [decide_eq_true h'.1, Bool.true_and]
        exact ih
theorem chk_asc {l : List Int} (h : chk l = true) : asc 0 l = true ∧ 0 < l.length ∧ l.length ≤ 7 := by
  unfold chk at h
  simp only [Bool.and_eq_true, decide_eq_true_eq] at h
  exact ⟨h.2, h.1.1, h.1.2⟩
/-- both ways lead to the same list -/
theorem putin_srt {conf : List Int} {add remove : Int} (hc : chk conf = true) (ha : 0 ≤ add) (hn : add ∉ conf) (hr : 0 < remove → remove ∈ conf) :
    putin add remove (decide (add = 0)) conf = srt (rest remove (if 0 < add then conf ++ [add] else conf)) := by
  obtain ⟨h1, h2, h3⟩ := chk_asc hc
  by_cases h0 : add = 0
  · rw [decide_eq_true h0, if_neg (by omega), putin_true]
    exact srt_eq (List.Perm.refl _) (asc_rise (asc_rest remove h1))
  · rw [decide_eq_false h0, if_pos (by omega)]
    have hne : add ≠ remove := fun e => hn (e ▸ hr (by omega))
    exact srt_eq (putin_perm hne conf) (asc_rise (putin_asc h1 (by omega) hn))

/-- what a node has reached -/
def at_ (m : List (Int × Int)) (id : Int) : Int := m.foldl (fun n x => if x.1 = id then x.2 else n) 0
theorem at_snoc (m : List (Int × Int)) (x : Int × Int) (id : Int) : at_ (m ++ [x]) id = if x.1 = id then x.2 else at_ m id := by simp [at_, List.foldl_append]
/-- what more than half of the nodes have reached -/
def reached (conf : List Int) (m : List (Int × Int)) : Int := if chk conf then (srt (conf.map (at_ m))).getD ((conf.length - 1) / 2) 0 else 0
/-- how many of them are no less -/
def atl (A : List Int) (x : Int) : Nat := (A.filter fun y => decide (x ≤ y)).length
theorem atl_perm {A B : List Int} (h : A.Perm B) (x : Int) : atl A x = atl B x := (h.filter _).length_eq
theorem rise_take {s : List Int} (h : s.Pairwise (· ≤ ·)) (k : Nat) (hk : k < s.length) : (∀ y ∈ s.take (k + 1), y ≤ s.getD k 0) ∧ (∀ y ∈ s.drop k, s.getD k 0 ≤ y) := by
  have hp := List.pairwise_iff_getElem.1 h
  have e : s.getD k 0 = s[k] := by simp [List.getD, hk]
  rw [e]
  constructor
  · intro y hy
    obtain ⟨i, hi, rfl⟩ := List.getElem_of_mem hy
    rw [List.length_take] at hi
    rw [List.getElem_take]
    by_cases hik : i = k
    · subst hik; exact Int.le_refl _
    · exact hp i k (by omega) hk (by omega)
  · intro y hy
    obtain ⟨i, hi, rfl⟩ := List.getElem_of_mem hy
    rw [List.length_drop] at hi
    rw [List.getElem_drop]
    by_cases hik : i = 0
    · subst hik; exact Int.le_refl _
    · exact hp k (k + i) hk (by omega) (by omega)
theorem atl_split (s : List Int) (k : Nat) (x : Int) : atl s x = atl (s.take k) x + atl (s.drop k) x := by
  unfold atl
  rw [← List.length_append, ← List.filter_append, List.take_append_drop]
theorem atl_all {s : List Int} {x : Int} (h : ∀ y ∈ s, x ≤ y) : atl s x = s.length := by
  unfold atl
  rw [List.filter_eq_self.2 (fun y hy => by simpa using h y hy)]
theorem atl_none {s : List Int} {x : Int} (h : ∀ y ∈ s, y < x) : atl s x = 0 := by
  unfold atl
  rw [List.length_eq_zero_iff, List.filter_eq_nil_iff]
  intro y hy
  have := h y hy
  simp
  omega
theorem atl_le (s : List Int) (x : Int) : atl s x ≤ s.length := List.length_filter_le _ _
/-- the middle one of them: more than half are no less, and whatever is greater has not more than half -/
theorem mid_one {A : List Int} (h0 : 0 < A.length) : (srt A).getD ((A.length - 1) / 2) 0 ∈ A ∧ A.length < 2 * atl A ((srt A).getD ((A.length - 1) / 2) 0) ∧ ∀ x, (srt A).getD ((A.length - 1) / 2) 0 < x → ¬ A.length < 2 * atl A x := by
  have hl : (srt A).length = A.length := (srt_perm A).length_eq
  have hk : (A.length - 1) / 2 < (srt A).length := by omega
  obtain ⟨t1, t2⟩ := rise_take (srt_rise A) _ hk
  generalize hM : (srt A).getD ((A.length - 1) / 2) 0 = M at *
  refine ⟨?_, ?_, ?_⟩
  · refine (srt_perm A).subset ?_
    rw [← hM]
    simp only [List.getD, List.getElem?_eq_getElem hk, Option.getD_some]
    exact List.getElem_mem hk
  · rw [← atl_perm (srt_perm A), atl_split _ ((A.length - 1) / 2), atl_all t2, List.length_drop]
    omega
  · intro x hx
    rw [← atl_perm (srt_perm A), atl_split _ ((A.length - 1) / 2 + 1), atl_none (fun y hy => by have := t1 y hy; omega)]
    have := atl_le ((srt A).drop ((A.length - 1) / 2 + 1)) x
    rw [List.length_drop] at this
    omega
end Qm
end Go.Proofs.Ytdladjgdhnkkcaa
