
/-
  The worker's drawn region: its order, whatever it is, ends with the call.
  Conditions: none.
-/
import Derived.Test.YtboiolnnhmlieaaGb4
import Derived.Test.YtboiolnnhmlieaaGb6
namespace Go.Proofs.Ytboiolnnhmlieaa.Gang
open Go.Conc Go.ConcN Go.RowKit Go.Conc.Lib Go.ConcR.Gen Go.ConcN.Gen
set_option linter.unusedVariables false
set_option linter.unusedSimpArgs false

noncomputable def b29 : Code := Try.f29.body.getD .skip
noncomputable def ops4 : Array Oper := match b29 with | .seq _ (.seq _ (.block _ (.loop (.seq _ (.seq (.block _ (.region _ o _)) _))))) => o | _ => #[]
def stopA : Array Bool := #[true, true, true, true, true, true, true, true, true, true, true, false]
theorem ops4_size : ops4.size = 12 := by kernel_rfl
theorem ops4_ready : Region.ready .any ops4 stopA = [11] := by kernel_rfl
theorem ops4_done : Region.ready .any ops4 (stopA.setIfInBounds 11 true) = [] := by kernel_rfl
theorem ops4_noSelect : Region.noSelect ops4 = true := by kernel_rfl
theorem ops4_stop : ∀ lst, (lst == stopA) = true → ∀ j ∈ Region.ready .any ops4 lst, j = 11 := by
  intro lst h j hj
  obtain rfl := eq_of_beq h
  rw [ops4_ready] at hj
  simpa using hj
theorem go_nil {md : Region.Mode} {ops : Array Oper} {lst : Array Bool} (h : Region.ready md ops lst = []) : ∀ f t, Region.linearise.go md ops f t lst [] = [] := by
  intro f t
  cases f with
  | zero => simp [Region.linearise.go]
  | succ f =>
    rw [Region.linearise.go]
    change (match (Region.ready md ops lst)[t % (Region.ready md ops lst).length]? with
      | some i => Region.linearise.go md ops f (t / (Region.ready md ops lst).length) (lst.setIfInBounds i true) [i]
      | none => [].reverse) = []
    rw [h]; rfl
theorem go_one {md : Region.Mode} {ops : Array Oper} {lst : Array Bool} {j : Nat} (h : Region.ready md ops lst = [j]) (f t : Nat) : ∃ t', Region.linearise.go md ops (f + 1) t lst [] = j :: Region.linearise.go md ops f t' (lst.setIfInBounds j true) [] := by
  refine ⟨t / 1, ?_⟩
  rw [Region.linearise.go]
  change (match (Region.ready md ops lst)[t % (Region.ready md ops lst).length]? with
    | some i => Region.linearise.go md ops f (t / (Region.ready md ops lst).length) (lst.setIfInBounds i true) [i]
    | none => [].reverse) = _
  rw [h]
  simp only [List.length_singleton, Nat.mod_one, List.getElem?_cons_zero]
  rw [linearise_go_acc, List.reverse_singleton, List.singleton_append]
theorem ops4_end : ∀ f t lst, (lst == stopA) = true → Region.linearise.go .any ops4 (f + 1) t lst [] = [11] := by
  intro f t lst h
  obtain rfl := eq_of_beq h
  obtain ⟨t', e⟩ := go_one ops4_ready f t
  rw [e, go_nil ops4_done]
def need (ops : Array Oper) (j : Nat) : List Nat := ((ops[j]?).map fun o => (o.after.toList.filter (fun e => Region.binds .any e)).map (·.on)).getD []
theorem Clo.need {ops : Array Oper} {lst : Array Bool} (h : Clo .any ops lst) {j : Nat} (hj : lst[j]? = some true) : ∀ x ∈ need ops j, lst[x]? = some true := by
  intro x hx
  unfold Gang.need at hx
  cases ho : ops[j]? with
  | none => rw [ho] at hx; simp at hx
  | some o =>
    rw [ho] at hx
    simp only [Option.map_some, Option.getD_some, List.mem_map, List.mem_filter] at hx
    obtain ⟨e, ⟨h1, h2⟩, rfl⟩ := hx
    exact h j o ho hj e (by simpa using h1) h2
theorem ready_need {ops : Array Oper} {lst : Array Bool} {j : Nat} (hj : j ∈ Region.ready .any ops lst) : ∀ x ∈ need ops j, lst[x]? = some true := by
  intro x hx
  obtain ⟨_, o, ho, hall⟩ := mem_ready.1 hj
  unfold Gang.need at hx
  rw [ho] at hx
  simp only [Option.map_some, Option.getD_some, List.mem_map, List.mem_filter] at hx
  obtain ⟨e, ⟨h1, h2⟩, rfl⟩ := hx
  have := hall e (by simpa using h1) h2
  revert this
  cases h' : lst[e.on]? <;> simp_all
theorem ops4_last : ∀ lst, lst.size = ops4.size → Clo .any ops4 lst → 11 ∈ Region.ready .any ops4 lst → (lst == stopA) = true := by
  intro lst hs hc hr
  rw [ops4_size] at hs
  have hu := (mem_ready.1 hr).1
  have n11 : need ops4 11 = [0, 5, 10] := by kernel_rfl
  have n5 : need ops4 5 = [4] := by kernel_rfl
  have n4 : need ops4 4 = [3] := by kernel_rfl
  have n3 : need ops4 3 = [1, 2] := by kernel_rfl
  have n10 : need ops4 10 = [9] := by kernel_rfl
  have n9 : need ops4 9 = [8] := by kernel_rfl
  have n8 : need ops4 8 = [6, 7] := by kernel_rfl
  have h11 := ready_need hr
  rw [n11] at h11
  have h0 := h11 0 (by simp)
  have h5 := h11 5 (by simp)
  have h10 := h11 10 (by simp)
  have h4 := hc.need h5 4 (by rw [n5]; simp)
  have h3 := hc.need h4 3 (by rw [n4]; simp)
  have h1 := hc.need h3 1 (by rw [n3]; simp)
  have h2 := hc.need h3 2 (by rw [n3]; simp)
  have h9 := hc.need h10 9 (by rw [n10]; simp)
  have h8 := hc.need h9 8 (by rw [n9]; simp)
  have h6 := hc.need h8 6 (by rw [n8]; simp)
  have h7 := hc.need h8 7 (by rw [n8]; simp)
  have e : lst = stopA := by
    apply Array.ext
    · rw [hs]; rfl
    · intro i hi hi'
      rw [hs] at hi
      have g : ∀ x, lst[i]? = some x → lst[i] = x := fun x hx => (Array.getElem?_eq_some_iff.1 hx).2
      have hu' : lst[11]? = some false := by
        cases h' : lst[11]? with
        | none => rw [Array.getElem?_eq_none_iff] at h'; omega
        | some b => simp_all
      have : i = 0 ∨ i = 1 ∨ i = 2 ∨ i = 3 ∨ i = 4 ∨ i = 5 ∨ i = 6 ∨ i = 7 ∨ i = 8 ∨ i = 9 ∨ i = 10 ∨ i = 11 := by omega
      rcases this with rfl | rfl | rfl | rfl | rfl | rfl | rfl | rfl | rfl | rfl | rfl | rfl
      · exact g _ h0
      · exact g _ h1
      · exact g _ h2
      · exact g _ h3
      · exact g _ h4
      · exact g _ h5
      · exact g _ h6
      · exact g _ h7
      · exact g _ h8
      · exact g _ h9
      · exact g _ h10
      · exact g _ hu'
  rw [e]; rfl
end Go.Proofs.Ytboiolnnhmlieaa.Gang
