
/-
  Spread's workers share out the steps: plain facts, and what holds when none is started.
  Conditions: stated lemma by lemma.
-/
import Derived.Test.YtboiolnnhmlieaaGb10
namespace Go.Proofs.Ytboiolnnhmlieaa.Gang
open Go.Conc Go.ConcN
set_option linter.unusedVariables false
set_option linter.unusedSimpArgs false

section
variable {n : Nat} {st : List (Nat × Int)}
theorem every_mem : ∀ {f u : Nat} {s : Nat × Int}, s ∈ every n st f u → s ∈ st := by
  intro f
  induction f with
  | zero => intro u s h; simp [every] at h
  | succ f ih =>
    intro u s h
    unfold every at h
    split at h
    · rcases List.mem_cons.1 h with rfl | h
      · exact List.getElem_mem _
      · exact ih h
    · simp at h
theorem every_has : ∀ {f m u : Nat}, m < f → (h : u + m * n < st.length) → st[u + m * n] ∈ every n st f u := by
  intro f
  induction f with
  | zero => intro m u hm; omega
  | succ f ih =>
    intro m u hm h
    have hu : u < st.length := by
      have : 0 ≤ m * n := Nat.zero_le _
      omega
    unfold every
    rw [dif_pos hu]
    cases m with
    | zero => simp
    | succ m =>
      have e : u + (m + 1) * n = u + n + m * n := by rw [Nat.add_mul]; omega
      have := ih (m := m) (u := u + n) (by omega) (by omega)
      refine List.mem_cons_of_mem _ ?_
      simpa only [e] using this
def valAt (st : List (Nat × Int)) (c u : Nat) : Int := if h : u < st.length then (if (st[u]).1 = c then (st[u]).2 else 0) else 0
theorem every_sum (hn : 1 ≤ n) {f u c : Nat} (hf : st.length ≤ f) : lsum c (every n st f u) = valAt st c u + lsum c (every n st f (u + n)) := by
  by_cases h : u < st.length
  · obtain ⟨g, rfl⟩ : ∃ g, f = g + 1 := ⟨f - 1, by omega⟩
    have e : every n st (g + 1) (u + n) = every n st g (u + n) := every_more hn (f := g) (by omega) 1
    rw [e, show every n st (g + 1) u = st[u] :: every n st g (u + n) by rw [every, dif_pos h]]
    unfold valAt
    rw [dif_pos h]
    rfl
  · rw [every_none (by omega), every_none (by omega)]
    unfold valAt
    rw [dif_neg h]; rfl
theorem isum_shift {f : Nat → Int} : ∀ {m : Nat}, isum m (fun i => f (i + 1)) + f 0 = isum (m + 1) f
  | 0 => by simp [isum]
  | m + 1 => by
    have := isum_shift (f := f) (m := m)
    simp only [isum] at this ⊢
    omega
theorem lsum_drop {c u : Nat} (h : u < st.length) : lsum c (st.drop u) = valAt st c u + lsum c (st.drop (u + 1)) := by
  rw [List.drop_eq_getElem_cons h]
  unfold valAt
  rw [dif_pos h]; rfl
theorem every_total (hn : 1 ≤ n) {F c : Nat} (hF : st.length ≤ F) : ∀ (m u : Nat), st.length ≤ u + m → isum n (fun i => lsum c (every n st F (u + i))) = lsum c (st.drop u) := by
  intro m
  induction m with
  | zero =>
    intro u hu
    rw [List.drop_eq_nil_of_le (by omega)]
    exact isum_zero fun i _ => by rw [every_none (by omega)]; rfl
  | succ m ih =>
    intro u hu
    by_cases h : u < st.length
    · have h1 := ih (u + 1) (by omega)
      obtain ⟨k, rfl⟩ : ∃ k, n = k + 1 := ⟨n - 1, by omega⟩
      have e1 := isum_shift (f := fun i => lsum c (every (k + 1) st F (u + i))) (m := k)
      have e2 : isum (k + 1) (fun i => lsum c (every (k + 1) st F (u + 1 + i))) = isum k (fun i => lsum c (every (k + 1) st F (u + (i + 1)))) + lsum c (every (k + 1) st F (u + (k + 1))) := by
        simp only [isum]
        rw [isum_congr (g := fun i => lsum c (every (k + 1) st F (u + (i + 1)))) (fun i _ => by rw [show u + 1 + i = u + (i + 1) by omega]), show u + 1 + k = u + (k + 1) by omega]
      have e3 := every_sum (n := k + 1) (st := st) hn (f := F) (u := u) (c := c) hF
      rw [lsum_drop h]
      simp only [Nat.add_zero] at e1
      omega
    · rw [List.drop_eq_nil_of_le (by omega)]
      exact isum_zero fun i _ => by rw [every_none (by omega)]; rfl
end
/-- the greatest of a list and a number -/
def lmax (m : Int) : List (Nat × Int) → Int
  | [] => m
  | s :: l => lmax (if m < s.2 then s.2 else m) l
theorem lmax_ge : ∀ {l : List (Nat × Int)} {m : Int}, m ≤ lmax m l
  | [], m => Int.le_refl _
  | s :: l, m => by
    have := lmax_ge (l := l) (m := if m < s.2 then s.2 else m)
    unfold lmax
    by_cases h : m < s.2
    · rw [if_pos h] at this ⊢; omega
    · rw [if_neg h] at this ⊢; exact this
theorem lmax_mem : ∀ {l : List (Nat × Int)} {m : Int}, ∀ s ∈ l, s.2 ≤ lmax m l
  | [], _, s, h => by simp at h
  | t :: l, m, s, h => by
    unfold lmax
    rcases List.mem_cons.1 h with rfl | h
    · have := lmax_ge (l := l) (m := if m < s.2 then s.2 else m)
      split at this
      · rename_i h1; rw [if_pos h1]; exact this
      · rename_i h1; rw [if_neg h1]; omega
    · exact lmax_mem s h
theorem lmax_hit : ∀ {l : List (Nat × Int)} {m : Int}, lmax m l = m ∨ ∃ s ∈ l, s.2 = lmax m l
  | [], _ => .inl rfl
  | t :: l, m => by
    unfold lmax
    rcases lmax_hit (l := l) (m := if m < t.2 then t.2 else m) with h | ⟨s, h1, h2⟩
    · by_cases h1 : m < t.2
      · rw [if_pos h1] at h ⊢
        exact .inr ⟨t, List.mem_cons_self, h.symm⟩
      · rw [if_neg h1] at h ⊢
        exact .inl h
    · exact .inr ⟨s, List.mem_cons_of_mem _ h1, h2⟩

section
variable (n : Nat) (st : List (Nat × Int)) (x : Tal)
def spTop : Int := lmax x.most st
def spK : Nat := (spTop st x - x.most + 1).toNat
def spJob (i : Nat) : List (Nat × Int) := every n st st.length (i - 1)
def spGoal (c : Nat) : Int := w64 (x.cs c + lsum c st)
def spBody : Body Tal Lad := talBody (spK st x) n (spTop st x) (spJob n st) (spGoal st x)
variable {n st x}
theorem isum_from1 {f : Nat → Int} (m : Nat) (h0 : f 0 = 0) : isum (m + 1) f = isum m (fun i => f (i + 1)) := by
  have := isum_shift (f := f) (m := m)
  omega
theorem spStart (hn : 1 ≤ n) (hw : ∀ c, w64 (x.cs c) = x.cs c) {k : Nat} : (spBody n st x).J x ((spBody n st x).cfg (fun _ => .kdS k) 0) := by
  have hcfg : ∀ i, (spBody n st x).cfg (fun _ => .kdS k) 0 i = if 1 ≤ i ∧ i ≤ n then (if spJob n st i = [] then none else some (.add (spJob n st i))) else none := by
    intro i
    unfold Body.cfg
    by_cases h0 : i = 0
    · subst h0; simp
    · rw [if_neg h0, if_neg (by omega)]
      by_cases h1 : i ≤ n
      · rw [if_pos (show i ≤ (spBody n st x).n from h1), if_pos ⟨by omega, h1⟩]
        exact opt_add _
      · rw [if_neg (show ¬ i ≤ (spBody n st x).n from h1), if_neg (by omega)]
  have htop := lmax_ge (l := st) (m := x.most)
  have hfuel : spTop st x - x.most + 1 ≤ (spK st x : Int) := by unfold spK spTop; omega
  show TalJ (spK st x) n (spTop st x) (spGoal st x) x _
  refine ⟨fun i l h => ?_, fun i l h => ?_, fun i s hs => ?_, htop, hfuel, ?_, fun c => ?_, hw⟩
  · rw [hcfg] at h
    split at h
    · next hh => exact hh
    · cases h
  · rw [hcfg] at h
    split at h
    · split at h
      · cases h
      · next hne => obtain rfl := Option.some.inj h; exact hne
    · cases h
  · rw [hcfg] at hs
    split at hs
    · split at hs
      · simp [Lad.list] at hs
      · exact lmax_mem s (every_mem hs)
    · simp [Lad.list] at hs
  · rcases lmax_hit (l := st) (m := x.most) with h | ⟨s, h1, h2⟩
    · exact .inl h.symm
    · obtain ⟨j, hj, rfl⟩ := List.mem_iff_getElem.1 h1
      refine .inr ⟨j % n + 1, st[j], ?_, h2⟩
      have hlt : j % n < n := Nat.mod_lt _ (by omega)
      have hmem : st[j] ∈ spJob n st (j % n + 1) := by
        have e : j % n + j / n * n = j := by have := Nat.mod_add_div j n; rw [Nat.mul_comm] at this; omega
        have hd : j / n ≤ j := Nat.div_le_self _ _
        have := every_has (n := n) (st := st) (f := st.length) (m := j / n) (u := j % n) (by omega) (by omega)
        simpa only [spJob, e, Nat.add_sub_cancel] using this
      rw [hcfg, if_pos ⟨by omega, by omega⟩, if_neg (fun e => by rw [e] at hmem; simp at hmem)]
      exact hmem
  · have e : isum (n + 1) (fun i => Lad.pend c ((spBody n st x).cfg (fun _ => .kdS k) 0 i)) = lsum c st := by
      have h0 : Lad.pend c ((spBody n st x).cfg (fun _ => .kdS k) 0 0) = 0 := by rw [hcfg]; simp [Lad.pend]
      rw [isum_from1 (f := fun i => Lad.pend c ((spBody n st x).cfg (fun _ => .kdS k) 0 i)) n h0]
      have := every_total (n := n) (st := st) hn (F := st.length) (c := c) (Nat.le_refl _) st.length 0 (by omega)
      rw [List.drop_zero] at this
      rw [← this]
      refine isum_congr fun i hi => ?_
      rw [hcfg, if_pos ⟨by omega, by omega⟩, pend_opt]
      simp [spJob]
    show w64 (x.cs c + isum (n + 1) _) = w64 (x.cs c + lsum c st)
    rw [e]
theorem spEnds {y : Tal} (h : (spBody n st x).J y (fun _ => none)) : y.most = spTop st x ∧ ∀ c, y.cs c = spGoal st x c := talEnds h
end
end Go.Proofs.Ytboiolnnhmlieaa.Gang
