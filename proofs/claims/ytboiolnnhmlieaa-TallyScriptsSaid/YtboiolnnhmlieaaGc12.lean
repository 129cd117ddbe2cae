
/-
  Goroutine 0 beside leavers: slices.Sort of six numbers; the plain law of insertion sort.
  Conditions: stated lemma by lemma.
-/
import Derived.Test.YtboiolnnhmlieaaGc11
import Derived.Test.YtboiolnnhmlieaaGb14
namespace Go.Proofs.Ytboiolnnhmlieaa.Gang
open Go.Conc Go.ConcN Go.RowKit Go.Conc.Lib Go.ConcR.Gen Go.ConcN.Gen
set_option linter.unusedVariables false
set_option linter.unusedSimpArgs false
section
variable {N : Nat} {f : Nat → Int}
theorem swap_sum {j m : Nat} (hj : j < N) (hm : m < N) (hne : j ≠ m) (v : Int) : isum N (fun a => hit v (upd (upd f j (f m)) m (f j) a)) = isum N (fun a => hit v (f a)) := by
  have h1 := isum_upd (upd f j (f m)) (f j) (hit v) hm
  have h2 := isum_upd f (f m) (hit v) hj
  rw [upd_ne _ _ (Ne.symm hne)] at h1
  omega
theorem insAt_sum (v : Int) : ∀ (j : Nat) (f : Nat → Int), j < N → isum N (fun a => hit v (insAt j f a)) = isum N (fun a => hit v (f a))
  | 0, f, _ => rfl
  | j + 1, f, h => by
    unfold insAt
    split
    · rw [insAt_sum v j _ (by omega)]
      exact swap_sum h (by omega) (by omega) v
    · rfl
theorem isort_sum (v : Int) : ∀ (k : Nat), k < N → isum N (fun a => hit v (isort k f a)) = isum N (fun a => hit v (f a))
  | 0, _ => rfl
  | k + 1, h => by
    show isum N (fun a => hit v (insAt (k + 1) (isort k f) a)) = _
    rw [insAt_sum v (k + 1) _ h, isort_sum v k (by omega)]
theorem insAt_above : ∀ (j : Nat) (f : Nat → Int) (a : Nat), j < a → insAt j f a = f a
  | 0, f, a, _ => rfl
  | j + 1, f, a, h => by
    unfold insAt
    split
    · rw [insAt_above j _ a (by omega), upd_ne _ _ (by omega), upd_ne _ _ (by omega)]
    · rfl
/-- rising up to place k -/
def Rise (f : Nat → Int) (k : Nat) : Prop := ∀ i, i < k → f i ≤ f (i + 1)
/-- the greatest among the first is where it was or below -/
theorem insAt_top : ∀ (j : Nat) (f : Nat → Int), Rise f (j - 1) → ∀ i, i ≤ j → insAt j f i ≤ (if f j < f (j - 1) then f (j - 1) else f j)
  | 0, f, _, i, h => by
    obtain rfl : i = 0 := by omega
    show f 0 ≤ _
    split <;> omega
  | j + 1, f, hr, i, h => by
    have hmono : ∀ a b, a ≤ b → b ≤ j → f a ≤ f b := by
      intro a b hab hb
      induction b with
      | zero => obtain rfl : a = 0 := by omega
                exact Int.le_refl _
      | succ b ih =>
        by_cases e : a = b + 1
        · subst e; exact Int.le_refl _
        · have := ih (by omega) (by omega)
          have := hr b (by omega)
          omega
    unfold insAt
    simp only [Nat.add_sub_cancel]
    split
    · next hlt =>
      by_cases hi : i = j + 1
      · subst hi
        rw [insAt_above j _ _ (by omega), upd_ne _ _ (by omega), upd_same]
        exact Int.le_refl _
      · have hr' : Rise (upd (upd f (j + 1) (f j)) j (f (j + 1))) (j - 1) := fun a ha => by
          rw [upd_ne _ _ (by omega), upd_ne _ _ (by omega), upd_ne _ _ (by omega), upd_ne _ _ (by omega)]
          exact hr a (by omega)
        have := insAt_top j _ hr' i (by omega)
        rw [upd_same] at this
        by_cases hj0 : j = 0
        · subst hj0
          simp only [Nat.zero_sub, upd_same] at this
          have e : ¬ f (0 + 1) < f (0 + 1) := by omega
          rw [if_neg e] at this
          omega
        · rw [upd_ne _ _ (by omega), upd_ne _ _ (by omega)] at this
          have := hmono (j - 1) j (by omega) (by omega)
          split at * <;> omega
    · next hlt =>
      by_cases hi : i = j + 1
      · subst hi; exact Int.le_refl _
      · have := hmono i j (by omega) (by omega)
        omega
theorem insAt_rise : ∀ (j : Nat) (f : Nat → Int), Rise f (j - 1) → Rise (insAt j f) j
  | 0, f, _ => fun i hi => by omega
  | j + 1, f, hr => by
    intro i hi
    unfold insAt
    split
    · next hlt =>
      have hr' : Rise (upd (upd f (j + 1) (f j)) j (f (j + 1))) (j - 1) := fun a ha => by
        rw [upd_ne _ _ (by omega), upd_ne _ _ (by omega), upd_ne _ _ (by omega), upd_ne _ _ (by omega)]
        exact hr a (by omega)
      by_cases hij : i = j
      · subst hij
        rw [insAt_above i _ (i + 1) (by omega), upd_ne _ _ (by omega), upd_same]
        have := insAt_top i _ hr' i (Nat.le_refl _)
        rw [upd_same] at this
        by_cases hj0 : i = 0
        · subst hj0
          simp only [Nat.zero_sub, upd_same] at this
          have e : ¬ f (0 + 1) < f (0 + 1) := by omega
          rw [if_neg e] at this
          omega
        · rw [upd_ne _ _ (by omega), upd_ne _ _ (by omega)] at this
          have := hr (i - 1) (by omega)
          rw [show i - 1 + 1 = i by omega] at this
          split at * <;> omega
      · exact insAt_rise j _ hr' i (by omega)
    · next hlt =>
      by_cases hij : i = j
      · subst hij; omega
      · exact hr i (by omega)
theorem isort_rise : ∀ (k : Nat), Rise (isort k f) k
  | 0 => fun i hi => by omega
  | k + 1 => insAt_rise (k + 1) (isort k f) (isort_rise k)
/-- sorted, and each of the numbers from t0 + 1 on once -/
theorem tickRuns {t0 : Int} {g : Nat → Int} (hr : Rise g (N - 1)) (hc : ∀ v, isum N (fun a => hit v (g a)) = if t0 < v ∧ v ≤ t0 + N ∧ v ≠ 0 then 1 else 0) : ∀ i, i < N → g i = t0 + 1 + i := by
  have hge : ∀ i, i < N → t0 < g i ∧ g i ≤ t0 + N ∧ g i ≠ 0 := fun i hi => by
    have h1 := hc (g i)
    have h2 := isum_ge (f := fun a => hit (g i) (g a)) (i := i) (j := N) (fun a _ => by unfold hit; split <;> omega) hi
    have h3 : hit (g i) (g i) = 1 := by simp [hit]
    simp only [h3] at h2
    by_cases e : t0 < g i ∧ g i ≤ t0 + N ∧ g i ≠ 0
    · exact e
    · rw [if_neg e] at h1; omega
  have hne : ∀ i, i + 1 < N → g i < g (i + 1) := fun i hi => by
    have h0 := hr i (by omega)
    by_cases e : g i = g (i + 1)
    · exfalso
      have h1 := hc (g i)
      rw [if_pos (hge i (by omega))] at h1
      have h2 : 2 ≤ isum N (fun a => hit (g i) (g a)) := by
        have e1 := isum_upd g (g i - 1) (hit (g i)) (show i < N by omega)
        have e2 : hit (g i) (g i) = 1 := by simp [hit]
        have e3 : hit (g i) (g i - 1) = 0 := by unfold hit; rw [if_neg (by omega)]
        have h2 := isum_ge (f := fun a => hit (g i) (upd g i (g i - 1) a)) (i := i + 1) (j := N) (fun a _ => by unfold hit; split <;> omega) hi
        have h3 : hit (g i) (upd g i (g i - 1) (i + 1)) = 1 := by rw [upd_ne _ _ (by omega), ← e]; exact e2
        simp only [h3] at h2
        omega
      omega
    · omega
  have lo : ∀ i, i < N → t0 + 1 + i ≤ g i := by
    intro i
    induction i with
    | zero => intro h; have := (hge 0 h).1; omega
    | succ i ih => intro h; have := ih (by omega); have := hne i h; omega
  have hi : ∀ m i, i + m + 1 = N → g i ≤ t0 + 1 + i := by
    intro m
    induction m with
    | zero => intro i h; have := (hge i (by omega)).2.1; omega
    | succ m ih => intro i h; have := ih (i + 1) (by omega); have := hne i (by omega); omega
  intro i h
  have := lo i h
  have := hi (N - 1 - i) i (by omega)
  omega
end
section
variable {X : Cx} {A N cap : Nat} {w : World}
set_option maxRecDepth 100000 in
set_option maxHeartbeats 8000000 in
theorem pdq_con (hA : X.free A) (h12 : N ≤ 12) (f : Nat → Int) (h1 : 1 ≤ N) (l : Int) (h : ArrAt A N f w) : Con Try.prog X 61 #[.slice (some ⟨A, 0, none⟩) N cap, .int .i64 0, .int .i64 (N : Int), .int .i64 l] w (fun X' v w' => X' = X ∧ ArrAt A N (isort (N - 1) f) w' ∧ Aside A w w') := by
  have hC := isort_con (cap := cap) hA (by omega) f h1 h
  have d1 : decide ((N : Int) ≤ 12) = true := decide_eq_true (by omega)
  have d2 : decide (N ≤ 12) = true := decide_eq_true h12
  have hw : IntKind.i64.wrap (N : Int) = (N : Int) := by rw [IntKind.wrap_i64]; omega
  refine ⟨Try.f61, _, Try.func61, nm61, rfl, fun b₀ a₀ ops₀ n₀ rest₀ k₀ cs hK => ?_⟩
  walk_nrmf Try.f61
  clear h h1
  repeat first
    | refine Run.seq ?_
    | refine Run.skip ?_
    | refine Run.regionEnd ?_
    | refine Run.block ?_
    | refine Run.inBlock ?_
    | (refine Run.region ?_; simp only [List.size_toArray, List.length_cons, List.length_nil, Nat.reduceAdd, Nat.zero_add, List.range, List.range.loop])
    | (refine Run.cond rfl ?_; simp only [if_true, if_false, Bool.false_eq_true, ↓reduceIte])
    | (refine Run.unwanted rfl rfl ?_; walk_nrm)
    | (refine Run.op0 rfl rfl (by k_ne) (fun d K hK => by go_simp; exact hK) (fun d => by first | (simp [go_sem, *] <;> fail) | fail) ?_; try w_num)
    | refine Run.ret ?_
    | refine Run.fin ?_
    | refine Run.exit rfl ?_
  refine Run.loop ?_
  repeat first
    | refine Run.seq ?_
    | refine Run.skip ?_
    | refine Run.regionEnd ?_
    | refine Run.block ?_
    | refine Run.inBlock ?_
    | (refine Run.region ?_; simp only [List.size_toArray, List.length_cons, List.length_nil, Nat.reduceAdd, Nat.zero_add, List.range, List.range.loop])
    | (refine Run.cond rfl ?_; simp only [if_true, if_false, Bool.false_eq_true, ↓reduceIte])
    | (refine Run.unwanted rfl rfl ?_; walk_nrm)
    | (refine Run.op0 rfl rfl (by k_ne) (fun d K hK => by go_simp; exact hK) (fun d => by first | (simp [go_sem, *] <;> fail) | fail) ?_; try w_num)
    | refine Run.ret ?_
    | refine Run.fin ?_
    | refine Run.exit rfl ?_
  refine Run.con hC rfl rfl (by k_ne) rfl (by simp only [List.map_toArray, List.map_cons, List.map_nil]; rfl) (fun X' v w' hr => ?_)
  obtain ⟨rfl, h2, s2⟩ := hr
  have hK := hK _ (.tuple #[]) _ ⟨rfl, h2, s2⟩
  clear h2 s2 hC
  walk_nrm
  repeat first
    | refine Run.seq ?_
    | refine Run.skip ?_
    | refine Run.regionEnd ?_
    | refine Run.block ?_
    | refine Run.inBlock ?_
    | (refine Run.region ?_; simp only [List.size_toArray, List.length_cons, List.length_nil, Nat.reduceAdd, Nat.zero_add, List.range, List.range.loop])
    | (refine Run.cond rfl ?_; simp only [if_true, if_false, Bool.false_eq_true, ↓reduceIte])
    | (refine Run.unwanted rfl rfl ?_; walk_nrm)
    | (refine Run.op0 rfl rfl (by k_ne) (fun d K hK => by go_simp; exact hK) (fun d => by first | (simp [go_sem, *] <;> fail) | fail) ?_; try w_num)
    | refine Run.ret ?_
    | refine Run.fin ?_
    | refine Run.exit rfl ?_
  refine Run.leave0 rfl rfl Try.func61 rfl ?_
  exact hK
set_option maxRecDepth 100000 in
set_option maxHeartbeats 8000000 in
theorem sort6_con (hA : X.free A) (f : Nat → Int) (h : ArrAt A 6 f w) : Con Try.prog X 36 #[.slice (some ⟨A, 0, none⟩) 6 cap] w (fun X' v w' => X' = X ∧ ArrAt A 6 (isort 5 f) w' ∧ Aside A w w') := by
  have hC := fun l => pdq_con (cap := cap) (N := 6) hA (by omega) f (by omega) l h
  refine ⟨Try.f36, _, Try.func36, nm36, rfl, fun b₀ a₀ ops₀ n₀ rest₀ k₀ cs hK => ?_⟩
  walk_nrmf Try.f36
  repeat first
    | refine Run.seq ?_
    | refine Run.skip ?_
    | refine Run.regionEnd ?_
    | refine Run.block ?_
    | refine Run.inBlock ?_
    | (refine Run.region ?_; simp only [List.size_toArray, List.length_cons, List.length_nil, Nat.reduceAdd, Nat.zero_add, List.range, List.range.loop])
    | (refine Run.cond rfl ?_; simp only [if_true, if_false, Bool.false_eq_true, ↓reduceIte])
    | (refine Run.unwanted rfl rfl ?_; walk_nrm)
    | (refine Run.op0 rfl rfl (by k_ne) (fun d K hK => by go_simp; exact hK) (fun d => by first | (simp [go_sem, *] <;> fail) | fail) ?_; try w_num)
    | refine Run.ret ?_
    | refine Run.fin ?_
    | refine Run.exit rfl ?_
  refine Run.con len6_con rfl rfl (by k_ne) rfl (by simp only [List.map_toArray, List.map_cons, List.map_nil]; rfl) (fun X' v w' hr => ?_)
  obtain ⟨rfl, rfl, rfl⟩ := hr
  walk_nrm
  repeat first
    | refine Run.seq ?_
    | refine Run.skip ?_
    | refine Run.regionEnd ?_
    | refine Run.block ?_
    | refine Run.inBlock ?_
    | (refine Run.region ?_; simp only [List.size_toArray, List.length_cons, List.length_nil, Nat.reduceAdd, Nat.zero_add, List.range, List.range.loop])
    | (refine Run.cond rfl ?_; simp only [if_true, if_false, Bool.false_eq_true, ↓reduceIte])
    | (refine Run.unwanted rfl rfl ?_; walk_nrm)
    | (refine Run.op0 rfl rfl (by k_ne) (fun d K hK => by go_simp; exact hK) (fun d => by first | (simp [go_sem, *] <;> fail) | fail) ?_; try w_num)
    | refine Run.ret ?_
    | refine Run.fin ?_
    | refine Run.exit rfl ?_
  refine Run.con (hC 3) rfl rfl (by k_ne) rfl (by simp only [List.map_toArray, List.map_cons, List.map_nil]; rfl) (fun X' v w' hr => ?_)
  obtain ⟨rfl, h2, s2⟩ := hr
  have hK := hK _ (.tuple #[]) _ ⟨rfl, h2, s2⟩
  clear h2 s2 hC h
  walk_nrm
  repeat first
    | refine Run.seq ?_
    | refine Run.skip ?_
    | refine Run.regionEnd ?_
    | refine Run.block ?_
    | refine Run.inBlock ?_
    | (refine Run.region ?_; simp only [List.size_toArray, List.length_cons, List.length_nil, Nat.reduceAdd, Nat.zero_add, List.range, List.range.loop])
    | (refine Run.cond rfl ?_; simp only [if_true, if_false, Bool.false_eq_true, ↓reduceIte])
    | (refine Run.unwanted rfl rfl ?_; walk_nrm)
    | (refine Run.op0 rfl rfl (by k_ne) (fun d K hK => by go_simp; exact hK) (fun d => by first | (simp [go_sem, *] <;> fail) | fail) ?_; try w_num)
    | refine Run.ret ?_
    | refine Run.fin ?_
    | refine Run.exit rfl ?_
  refine Run.leave0 rfl rfl Try.func36 rfl ?_
  exact hK
end
end Go.Proofs.Ytboiolnnhmlieaa.Gang
