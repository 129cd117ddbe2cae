/-
  A wheel's map against its items; several items taken out; what the statements say of lists of items, plain.
  Conditions: stated lemma by lemma.
-/
import Derived.Test.YtheocdfccdpmbaaWhM
namespace Go.Proofs.Ytheocdfccdpmbaa
open Go.RowKit Go.Maps
set_option linter.unusedVariables false
set_option linter.unusedSimpArgs false

abbrev kI (i : Int) : Lit := .int .i64 i
theorem kI_key (i : Int) : WideAt.IsKeyLit (kI i) := trivial
theorem kI_ne {i j : Int} (h : i ≠ j) : kI i ≠ kI j := fun e => h (by injection e)
theorem mapIs_nil : MapIs (.map []) [] := ⟨fun i => rfl, fun x hx => (by cases hx), rfl⟩
namespace MapIs
variable {D : DataW Unit} {S : List Itm}
theorem put (h : MapIs D S) (t : Tidy D) (i : Itm) (hid : ∀ x ∈ S, x.id ≠ i.id) : MapIs (D.put (kI i.id) (.lit (.int .i64 i.at_))) (Wh.ins i S) := by
  have hp := Wh.ins_perm i S
  refine ⟨fun j => ?_, fun x hx z => ?_, ?_⟩
  · rw [hp.any_eq, List.any_cons]
    by_cases c : i.id = j
    · subst c
      rw [has_put_same t.isMap (kI_key _)]
      simp
    · rw [has_put_other (kI_ne (fun e => c e.symm)), h.has j]
      simp [c]
  · rcases List.mem_cons.1 (hp.subset hx) with rfl | hx
    · exact atKey_put_same t.isMap (kI_key _) _ _
    · rw [atKey_put_other (kI_ne (hid x hx))]
      exact h.at_ x hx z
  · rw [size_put t, hp.length_eq, List.length_cons, h.has i.id, h.size]
    have e : (S.any fun x => decide (x.id = i.id)) = false := by
      rw [List.any_eq_false]
      intro x hx
      simpa using hid x hx
    rw [e]
    simp
theorem len_del (id : Int) : ∀ {S : List Itm}, S.Pairwise (fun a b => a.id ≠ b.id) → (Wh.del id S).length + (if (S.any fun x => decide (x.id = id)) then 1 else 0) = S.length
  | [], _ => rfl
  | x :: S, h => by
    rw [List.pairwise_cons] at h
    have ih := len_del id h.2
    unfold Wh.del at ih ⊢
    by_cases c : x.id = id
    · have e : (S.any fun y => decide (y.id = id)) = false := by
        rw [List.any_eq_false]
        intro y hy
        have := h.1 y hy
        rw [c] at this
        simpa using fun e => this e.symm
      rw [List.filter_cons_of_neg (by simp [c]), List.any_cons]
      rw [e] at ih
      simp [c] at ih ⊢
      omega
    · rw [List.filter_cons_of_pos (by simp [c]), List.any_cons]
      simp only [c, decide_false, Bool.false_or, List.length_cons]
      omega
theorem del (h : MapIs D S) (t : Tidy D) (ids : S.Pairwise (fun a b => a.id ≠ b.id)) (id : Int) : MapIs (D.del (kI id)) (Wh.del id S) := by
  refine ⟨fun j => ?_, fun x hx z => ?_, ?_⟩
  · by_cases c : j = id
    · subst c
      rw [has_del_same]
      symm
      rw [List.any_eq_false]
      intro x hx
      simpa [Wh.del] using (List.mem_filter.1 hx).2
    · rw [has_del_other (kI_ne c), h.has j, Bool.eq_iff_iff, List.any_eq_true, List.any_eq_true]
      constructor
      · rintro ⟨x, hx, hj⟩
        have hj' : x.id = j := by simpa using hj
        exact ⟨x, List.mem_filter.2 ⟨hx, by simp [hj', c]⟩, hj⟩
      · rintro ⟨x, hx, hj⟩
        exact ⟨x, (List.mem_filter.1 hx).1, hj⟩
  · obtain ⟨h1, h2⟩ := List.mem_filter.1 hx
    rw [atKey_del_other (kI_ne (by simpa using h2))]
    exact h.at_ x h1 z
  · have h1 := size_del (k := kI id) t
    have h2 := len_del id ids
    rw [h.has id, h.size] at h1
    omega
end MapIs
namespace Wh
/-- several items out -/
def dels (l : List Itm) (S : List Itm) : List Itm := l.foldl (fun S i => del i.id S) S
theorem dels_ids {S : List Itm} (h : S.Pairwise (fun a b => a.id ≠ b.id)) : ∀ l : List Itm, (dels l S).Pairwise (fun a b => a.id ≠ b.id) := fun l => by
  induction l generalizing S with
  | nil => exact h
  | cons i l ih => exact ih (h.filter _)
theorem dels_eq : ∀ (l S : List Itm), dels l S = S.filter fun x => decide (∀ i ∈ l, x.id ≠ i.id)
  | [], S => by
    show S = S.filter _
    exact (List.filter_eq_self.2 fun x _ => by simp).symm
  | i :: l, S => by
    show dels l (del i.id S) = _
    rw [dels_eq l]
    unfold del
    rw [List.filter_filter]
    refine List.filter_congr fun x hx => ?_
    rw [Bool.eq_iff_iff]
    simp only [Bool.and_eq_true, decide_eq_true_eq, List.mem_cons, forall_eq_or_imp]
    exact And.comm
theorem ids_ne : ∀ {S : List Itm}, S.Pairwise (fun a b => a.id ≠ b.id) → ∀ {x y : Itm}, x ∈ S → y ∈ S → x ≠ y → x.id ≠ y.id
  | [], _, x, y, hx, _, _ => by cases hx
  | a :: S, h, x, y, hx, hy, hne => by
    rw [List.pairwise_cons] at h
    rcases List.mem_cons.1 hx with ex | hx2
    · rcases List.mem_cons.1 hy with ey | hy2
      · exact absurd (ex.trans ey.symm) hne
      · rw [ex]; exact h.1 y hy2
    · rcases List.mem_cons.1 hy with ey | hy2
      · rw [ey]; exact fun e => h.1 x hx2 e.symm
      · exact ids_ne h.2 hx2 hy2 hne
theorem dels_past {now : Int} {S l : List Itm} (hid : S.Pairwise (fun a b => a.id ≠ b.id)) (ht : ∀ i ∈ S, now < i.at_) (hl : l.Perm (S.filter fun x => decide (x.at_ = now + 1))) : dels l S = past (now + 1) S := by
  rw [dels_eq]
  unfold past
  refine List.filter_congr fun x hx => ?_
  rw [decide_eq_decide]
  constructor
  · intro h
    have h1 := ht x hx
    have h2 : x.at_ ≠ now + 1 := fun e => h x (hl.symm.subset (List.mem_filter.2 ⟨hx, by simp [e]⟩)) rfl
    omega
  · intro h i hi e
    obtain ⟨h1, h2⟩ := List.mem_filter.1 (hl.subset hi)
    have h3 : i.at_ = now + 1 := by simpa using h2
    have h4 : x = i := by
      rcases Decidable.em (x = i) with e2 | e2
      · exact e2
      · exact absurd e (ids_ne hid hx h1 e2)
    subst h4
    omega
theorem len_past {t : Int} {S : List Itm} : (past t S).length ≤ S.length := List.length_filter_le _ _
theorem upto_len {t : Int} {S : List Itm} : (upto t S).length ≤ S.length := List.length_filter_le _ _
end Wh
end Go.Proofs.Ytheocdfccdpmbaa
