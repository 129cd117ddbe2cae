/-
  What a wheel answers, plain: insertion, cancelling, advancing; the plain laws behind the statements.
  Conditions: stated lemma by lemma.
-/
import Derived.Test.YtheocdfccdpmbaaWhD
namespace Go.Proofs.Ytheocdfccdpmbaa
set_option linter.unusedVariables false
set_option linter.unusedSimpArgs false
namespace Wh
/-- a time that an item may have -/
def okT (now : Int) (i : Itm) : Prop := now < i.at_ ∧ i.at_ ≤ 226157759 ∧ i.at_ - now ≤ 262144
instance (now : Int) (i : Itm) : Decidable (okT now i) := by unfold okT; infer_instance
/-- whether an item is there -/
def hasId (S : List Itm) (id : Int) : Bool := S.any fun x => decide (x.id = id)
/-- what an insertion answers -/
def insE (now : Int) (S : List Itm) (i : Itm) : Int := if okT now i then (if hasId S i.id then 150 else if 4096 ≤ S.length then 3 else 0) else 30
def insS (now : Int) (S : List Itm) (i : Itm) : List Itm := if insE now S i = 0 then ins i S else S
theorem hasId_false {S : List Itm} {id : Int} (h : hasId S id = false) : ∀ x ∈ S, x.id ≠ id := fun x hx e => by
  have := (List.any_eq_false.1 h) x hx
  simp [e] at this
theorem insE_zero {now : Int} {S : List Itm} {i : Itm} (h : insE now S i = 0) : okT now i ∧ hasId S i.id = false ∧ S.length < 4096 := by
  unfold insE at h
  split at h
  · rename_i h1
    split at h
    · cases h
    · rename_i h2
      split at h
      · cases h
      · exact ⟨h1, by simpa using h2, by omega⟩
  · cases h
theorem len_ins (i : Itm) (S : List Itm) : (ins i S).length = S.length + 1 := by rw [(ins_perm i S).length_eq]; rfl
theorem insS_len {now : Int} {S : List Itm} {i : Itm} (h : S.length ≤ 4096) : (insS now S i).length ≤ 4096 := by
  unfold insS
  split
  · rename_i h1
    have := (insE_zero h1).2.2
    rw [len_ins]; omega
  · exact h
theorem del_len {id : Int} {S : List Itm} : (del id S).length ≤ S.length := List.length_filter_le _ _
theorem del_none {id : Int} {S : List Itm} (h : hasId S id = false) : del id S = S := List.filter_eq_self.2 fun x hx => by simpa using hasId_false h x hx
theorem split_len (t : Int) (S : List Itm) : (upto t S).length + (past t S).length = S.length := by
  unfold upto past
  induction S with
  | nil => rfl
  | cons x S ih =>
    by_cases c : x.at_ ≤ t
    · rw [List.filter_cons_of_pos (by simpa using c), List.filter_cons_of_neg (by simp; omega)]
      simp only [List.length_cons]; omega
    · rw [List.filter_cons_of_neg (by simpa using c), List.filter_cons_of_pos (by simp; omega)]
      simp only [List.length_cons]; omega
theorem upto_upto {n s : Int} (h : n ≤ s) : ∀ {S : List Itm}, S.Pairwise before → upto n S ++ upto s (past n S) = upto s S
  | [], _ => rfl
  | x :: S, hS => by
    rw [List.pairwise_cons] at hS
    have ih := upto_upto h hS.2
    unfold upto past at ih ⊢
    by_cases c1 : x.at_ ≤ n
    · rw [List.filter_cons_of_pos (by simpa using c1), List.filter_cons_of_neg (by simp; omega), List.filter_cons_of_pos (by simp; omega), List.cons_append, ih]
    · have e0 : S.filter (fun x => decide (x.at_ ≤ n)) = [] := List.filter_eq_nil_iff.2 fun y hy => by have := hS.1 y hy; unfold before at this; simp; omega
      rw [List.filter_cons_of_neg (by simpa using c1), e0, List.nil_append, List.filter_cons_of_pos (by simp; omega)]
      rw [e0, List.nil_append] at ih
      by_cases c2 : x.at_ ≤ s
      · rw [List.filter_cons_of_pos (by simpa using c2), List.filter_cons_of_pos (by simpa using c2), ih]
      · rw [List.filter_cons_of_neg (by simpa using c2), List.filter_cons_of_neg (by simpa using c2), ih]
theorem past_past {n s : Int} (h : n ≤ s) (S : List Itm) : past s (past n S) = past s S := by
  unfold past
  rw [List.filter_filter]
  exact List.filter_congr fun i hi => by by_cases c : s < i.at_ <;> simp [c]; omega
theorem past_sorted {t : Int} {S : List Itm} (h : S.Pairwise before) : (past t S).Pairwise before := h.filter _
theorem upto_none {now t : Int} {S : List Itm} (h : ∀ i ∈ S, now < i.at_) (ht : t ≤ now) : upto t S = [] := List.filter_eq_nil_iff.2 fun y hy => by have := h y hy; simp; omega
theorem past_all {now t : Int} {S : List Itm} (h : ∀ i ∈ S, now < i.at_) (ht : t ≤ now) : past t S = S := List.filter_eq_self.2 fun y hy => by have := h y hy; simp; omega
/-- many insertions -/
def insAll (now : Int) (S : List Itm) (l : List Itm) : List Itm := l.foldl (insS now) S
theorem insAll_snoc (now : Int) (S : List Itm) (l : List Itm) (i : Itm) : insAll now S (l ++ [i]) = insS now (insAll now S l) i := by simp [insAll]
theorem insS_sorted {now : Int} {S : List Itm} {i : Itm} (h : S.Pairwise before) : (insS now S i).Pairwise before := by
  unfold insS
  split
  · rename_i h1
    exact ins_sorted h (hasId_false (insE_zero h1).2.1)
  · exact h
theorem insAll_sorted {now : Int} : ∀ (l : List Itm) {S : List Itm}, S.Pairwise before → (insAll now S l).Pairwise before
  | [], _, h => h
  | i :: l, S, h => insAll_sorted l (insS_sorted h)
theorem insAll_perm {now : Int} : ∀ (l : List Itm) (S : List Itm), l.Pairwise (fun a b => a.id ≠ b.id) → (∀ x ∈ S, ∀ y ∈ l, x.id ≠ y.id) → S.length + l.length ≤ 4096 → (insAll now S l).Perm (S ++ l.filter fun i => decide (okT now i))
  | [], S, _, _, _ => by simp [insAll]
  | i :: l, S, h1, h2, h3 => by
    rw [List.pairwise_cons] at h1
    simp only [List.length_cons] at h3
    have hn : hasId S i.id = false := List.any_eq_false.2 fun x hx => by simpa using h2 x hx i (List.mem_cons_self ..)
    show (insAll now (insS now S i) l).Perm _
    by_cases c : okT now i
    · have e : insE now S i = 0 := by
        unfold insE
        rw [if_pos c, hn, if_neg (by simp), if_neg (by omega)]
      have e2 : insS now S i = ins i S := by unfold insS; rw [if_pos e]
      rw [e2]
      refine (insAll_perm l (ins i S) h1.2 (fun x hx y hy => ?_) (by rw [len_ins]; omega)).trans ?_
      · rcases List.mem_cons.1 ((ins_perm i S).subset hx) with rfl | hx
        · exact h1.1 y hy
        · exact h2 x hx y (List.mem_cons_of_mem _ hy)
      · rw [List.filter_cons_of_pos (by simpa using c)]
        exact ((ins_perm i S).append_right _).trans (by rw [List.cons_append]; exact List.perm_middle.symm)
    · have e2 : insS now S i = S := by
        unfold insS insE
        rw [if_neg c, if_neg (by decide)]
      rw [e2, List.filter_cons_of_neg (by simpa using c)]
      exact insAll_perm l S h1.2 (fun x hx y hy => h2 x hx y (List.mem_cons_of_mem _ hy)) (by omega)
/-- the order of insertions of different items does not matter -/
theorem insAll_reverse {now : Int} {l : List Itm} (h : l.Pairwise (fun a b => a.id ≠ b.id)) (hl : l.length ≤ 4096) : insAll now [] l.reverse = insAll now [] l := by
  have h1 := insAll_sorted (now := now) l.reverse (S := []) .nil
  have h2 := insAll_sorted (now := now) l (S := []) .nil
  have p1 := insAll_perm (now := now) l.reverse [] (by rw [List.pairwise_reverse]; exact h.imp fun k e => k e.symm) (fun x hx => by cases hx) (by simpa using hl)
  have p2 := insAll_perm (now := now) l [] h (fun x hx => by cases hx) (by simpa using hl)
  refine sorted_eq (h1.imp fun {a b} k k2 => before_irr a (before_trans k k2)) h2 ?_
  rw [List.nil_append] at p1 p2
  exact p1.trans (((List.reverse_perm l).filter _).trans p2.symm)
/-- put in and taken out -/
theorem put_out {now : Int} {i : Itm} (h : insE now [] i = 0) : del i.id (insS now [] i) = [] := by
  unfold insS
  rw [if_pos h]
  unfold ins del
  simp
/-- neighbours of a list in order -/
theorem before_at {S : List Itm} (h : S.Pairwise before) {k : Nat} (hk : k + 1 < S.length) : before (S.getD k default) (S.getD (k + 1) default) := by
  have := List.pairwise_iff_getElem.1 h k (k + 1) (by omega) hk (by omega)
  simpa [List.getD, hk, show k < S.length by omega] using this
end Wh
end Go.Proofs.Ytheocdfccdpmbaa
