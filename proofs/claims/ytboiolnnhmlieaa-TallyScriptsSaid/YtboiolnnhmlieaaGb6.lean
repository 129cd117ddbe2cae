
/-
  A member's way through the draw of an order: one bound for all orders.
  Conditions: stated lemma by lemma.
-/
import Derived.Test.YtboiolnnhmlieaaGb5
namespace Go.Proofs.Ytboiolnnhmlieaa.Gang
open Go.Conc Go.ConcN
set_option linter.unusedVariables false
set_option linter.unusedSimpArgs false

theorem sup_lists (s : Nat) : ∀ (m : Nat) (f : List Nat → Nat), ∃ B, ∀ L : List Nat, L.length ≤ m → (∀ x ∈ L, x < s) → f L ≤ B := by
  intro m
  induction m with
  | zero => exact fun f => ⟨f [], fun L hL _ => by obtain rfl := List.eq_nil_of_length_eq_zero (Nat.le_zero.1 hL); exact Nat.le_refl _⟩
  | succ m ih =>
    intro f
    have key : ∀ s', ∃ B, ∀ x, x < s' → ∀ L : List Nat, L.length ≤ m → (∀ y ∈ L, y < s) → f (x :: L) ≤ B := by
      intro s'
      induction s' with
      | zero => exact ⟨0, fun x hx => by omega⟩
      | succ s' ih' =>
        obtain ⟨B, hB⟩ := ih'
        obtain ⟨B', hB'⟩ := ih (fun L => f (s' :: L))
        refine ⟨B + B', fun x hx L h1 h2 => ?_⟩
        by_cases e : x = s'
        · subst e; exact Nat.le_trans (hB' L h1 h2) (Nat.le_add_left _ _)
        · exact Nat.le_trans (hB x (by omega) L h1 h2) (Nat.le_add_right _ _)
    obtain ⟨B, hB⟩ := key s
    refine ⟨f [] + B, fun L h1 h2 => ?_⟩
    cases L with
    | nil => exact Nat.le_add_right _ _
    | cons x L => exact Nat.le_trans (hB x (h2 x List.mem_cons_self) L (by simpa using h1) (fun y hy => h2 y (List.mem_cons_of_mem _ hy))) (Nat.le_add_left _ _)
theorem go_bound {md : Region.Mode} {ops : Array Oper} : ∀ (fuel t : Nat) (lst : Array Bool), (Region.linearise.go md ops fuel t lst []).length ≤ fuel ∧ ∀ x ∈ Region.linearise.go md ops fuel t lst [], x < ops.size := by
  intro fuel
  induction fuel with
  | zero => intro t lst; simp [Region.linearise.go]
  | succ fuel ih =>
    intro t lst
    rw [Region.linearise.go]
    change (match (Region.ready md ops lst)[t % (Region.ready md ops lst).length]? with
      | some i => Region.linearise.go md ops fuel (t / (Region.ready md ops lst).length) (lst.setIfInBounds i true) [i]
      | none => [].reverse).length ≤ fuel + 1 ∧ ∀ x ∈ (match (Region.ready md ops lst)[t % (Region.ready md ops lst).length]? with
      | some i => Region.linearise.go md ops fuel (t / (Region.ready md ops lst).length) (lst.setIfInBounds i true) [i]
      | none => [].reverse), x < ops.size
    cases hi : (Region.ready md ops lst)[t % (Region.ready md ops lst).length]? with
    | none => simp
    | some j =>
      have hj := List.mem_of_getElem? hi
      obtain ⟨_, oj, hoj, _⟩ := mem_ready.1 hj
      have hlt := (Array.getElem?_eq_some_iff.1 hoj).1
      simp only []
      rw [linearise_go_acc, List.reverse_singleton, List.singleton_append]
      obtain ⟨h1, h2⟩ := ih (t / (Region.ready md ops lst).length) (lst.setIfInBounds j true)
      exact ⟨by simpa using h1, fun x hx => (List.mem_cons.1 hx).elim (fun e => e ▸ hlt) (fun hx => h2 x hx)⟩
section
variable {X Lam : Type} {P : Program} {J : Job P X Lam} {i : Nat} {p : Pos Lam} {b : Frame} {a : Act} {k : List Item} {cs : List Frame} {w : World}
/-- THE DRAW -/
theorem C.draw {id : Nat} {ops : Array Oper} (hq : p.quit = false) (hm : P.follows .mixedOrders = true)
    (h : ∀ t, J.C i p (G (b.at a (.inRegion ops (Region.linearise.go .any ops ops.size t (Array.replicate ops.size false) []) :: k)) cs) w) : J.C i p (G (b.at a (.code (.region id ops true) :: k)) cs) w := by
  have hn : ∀ L : List Nat, ∃ n, (∃ m, Goes P (i == 0) (J.rely i) (J.step i p) (Stop (J.put J.W).team i p) m (G (b.at a (.inRegion ops L :: k)) cs) w) → Goes P (i == 0) (J.rely i) (J.step i p) (Stop (J.put J.W).team i p) n (G (b.at a (.inRegion ops L :: k)) cs) w := fun L => by
    by_cases e : ∃ m, Goes P (i == 0) (J.rely i) (J.step i p) (Stop (J.put J.W).team i p) m (G (b.at a (.inRegion ops L :: k)) cs) w
    · obtain ⟨m, hm⟩ := e; exact ⟨m, fun _ => hm⟩
    · exact ⟨0, fun h => absurd h e⟩
  obtain ⟨B, hB⟩ := sup_lists ops.size ops.size (fun L => (hn L).choose)
  refine C.fold ⟨fun _ => ⟨B + 1, Goes.step rfl fun w₁ h₁ => ?_⟩, fun e => by rw [hq] at e; cases e⟩
  rw [stepG_region_draw]
  simp only [Region.schedule, hm, Bool.true_or, if_true]
  obtain ⟨g1, g2⟩ := go_bound (md := .any) (ops := ops) ops.size (w₁.tape w₁.drawn (.order b.fn id)) (Array.replicate ops.size false)
  have hG := (hn _).choose_spec ((C.unf (h (w₁.tape w₁.drawn (.order b.fn id)))).1 hq)
  refine ⟨?_, ?_⟩
  · unfold Job.step
    split
    · exact ⟨⟨.at w₁ _, Nat.le_refl _, fun _ _ => rfl⟩, fun e he => by simp at he⟩
    · exact ⟨⟨.at w₁ _, rfl⟩, by split <;> exact fun e he => by simp at he⟩
  · refine (hG.mono (hB _ g1 g2)).rely (fun a b c => rely_trans (J := J) (i := i) (a := a) (b := b) (c := c)) (rely_trans h₁ ?_)
    unfold Job.rely
    split
    · exact ⟨.at w₁ _, rfl, (fun b _ => rfl), (fun h => h)⟩
    · exact ⟨.at w₁ _, Nat.le_refl _, (fun b _ _ => rfl), (fun h => h)⟩
/-- .. where the job's 'sit' does not speak of this member -/
theorem W.core (hs : ∀ p g w, ¬ J.sit i p g w) {g : Goroutine} (h : J.W i p g w) : J.C i p g w := by
  rcases h with h | h
  · exact h
  · exfalso
    induction h with
    | here h => exact hs _ _ _ (h _ (rely_refl _))
    | step _ _ _ _ ih => exact ih
theorem W.draw {id : Nat} {ops : Array Oper} (hs : ∀ p g w, ¬ J.sit i p g w) (hq : p.quit = false) (hm : P.follows .mixedOrders = true)
    (h : ∀ t, J.W i p (G (b.at a (.inRegion ops (Region.linearise.go .any ops ops.size t (Array.replicate ops.size false) []) :: k)) cs) w) : J.W i p (G (b.at a (.code (.region id ops true) :: k)) cs) w :=
  .inl (C.draw hq hm (fun t => W.core hs (h t)))
end
end Go.Proofs.Ytboiolnnhmlieaa.Gang
