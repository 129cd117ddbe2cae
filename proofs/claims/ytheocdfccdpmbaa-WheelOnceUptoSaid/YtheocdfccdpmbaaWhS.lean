/-
  A wheel that holds items: what its methods leave; two wheels side by side.
  Conditions: stated lemma by lemma.
-/
import Derived.Test.YtheocdfccdpmbaaWhL
import Derived.Test.YtheocdfccdpmbaaSrt
namespace Go.Proofs.Ytheocdfccdpmbaa
open Go.RowKit Go.Maps
set_option linter.unusedVariables false
set_option linter.unusedSimpArgs false
set_option linter.unusedSectionVars false

/-- a wheel that holds S -/
structure WhS (g mb : Nat) (pv : Nat → Value) (now : Int) (S : List Itm) (w : World) : Prop where
  ex : ∃ pl D, Whl g mb now pv pl D w ∧ Wh.Inv now pl S ∧ MapIs D S
  len : S.length ≤ 4096
  t0 : 0 ≤ now
  t1 : now ≤ 226157759
  wf : ∀ x ∈ S, -9223372036854775808 ≤ x.id ∧ x.id ≤ 9223372036854775807
/-- a wheel as it became -/
def WTo (w : World) (g mb : Nat) (pv : Nat → Value) (now : Int) (S : List Itm) (w' : World) : Prop :=
  ∃ pv', WhS g mb pv' now S w' ∧ Turn (WB g mb pv) w w' ∧ ∀ b, WB g mb pv' b → WB g mb pv b ∨ w.heap.size ≤ b
/-- a row of items that the call owns, beside a wheel -/
def Row (bad : Nat → Prop) (base : Nat) (v : Value) (xs : List Itm) (w : World) : Prop := OwnL layW 31 w base v xs ∧ ∀ b, v.ownBlock = some b → ¬ bad b
section
variable {g mb : Nat} {pv : Nat → Value} {now : Int} {S : List Itm} {w w' : World} {B : Nat → Prop}
theorem WhS.turn (h : WhS g mb pv now S w) (t : Turn B w w') (hB : ∀ b, WB g mb pv b → ¬ B b) : WhS g mb pv now S w' := by
  obtain ⟨pl, D, h1, h2, h3⟩ := h.ex
  exact ⟨⟨pl, D, h1.turn t hB, h2, h3⟩, h.len, h.t0, h.t1, h.wf⟩
theorem WhS.bel (h : WhS g mb pv now S w) (hb : Below w.heap.size w w') : WhS g mb pv now S w' := h.turn (B := fun _ => False) (.bel hb) (fun _ _ e => e)
theorem WhS.lt (h : WhS g mb pv now S w) : ∀ b, WB g mb pv b → b < w.heap.size := by
  obtain ⟨pl, D, h1, h2, h3⟩ := h.ex
  exact h1.lt
theorem WhS.sorted (h : WhS g mb pv now S w) : S.Pairwise Wh.before := by
  obtain ⟨pl, D, h1, h2, h3⟩ := h.ex
  exact h2.sorted
theorem WhS.ids (h : WhS g mb pv now S w) : S.Pairwise (fun a b => a.id ≠ b.id) := by
  obtain ⟨pl, D, h1, h2, h3⟩ := h.ex
  exact h2.ids
theorem WhS.times (h : WhS g mb pv now S w) : ∀ i ∈ S, now < i.at_ ∧ i.at_ ≤ 226157759 ∧ i.at_ - now ≤ 262144 := by
  obtain ⟨pl, D, h1, h2, h3⟩ := h.ex
  exact h2.times
theorem WTo.refl (h : WhS g mb pv now S w) : WTo w g mb pv now S w := ⟨pv, h, .refl _ _, fun b hb => .inl hb⟩
theorem WTo.bel (h : WhS g mb pv now S w) (hb : Below w.heap.size w w') : WTo w g mb pv now S w' := ⟨pv, h.bel hb, .bel hb, fun b hb => .inl hb⟩
theorem WTo.step {w1 w2 : World} {pv1 : Nat → Value} {now1 : Int} {S1 : List Itm} (t : Turn (WB g mb pv) w w1) (hc : ∀ b, WB g mb pv1 b → WB g mb pv b ∨ w.heap.size ≤ b) (h : WTo w1 g mb pv1 now1 S1 w2) : WTo w g mb pv now1 S1 w2 := by
  obtain ⟨pv2, h1, h2, h3⟩ := h
  refine ⟨pv2, h1, t.trans h2 hc, fun b hb => ?_⟩
  rcases h3 b hb with e | e
  · exact hc b e
  · exact .inr (Nat.le_trans t.size e)
/-- a wheel behind a call -/
def One (w0 : World) (g mb : Nat) (now : Int) (S : List Itm) (w : World) : Prop := ∃ pv, WhS g mb pv now S w ∧ Below w0.heap.size w0 w ∧ ∀ b, WB g mb pv b → w0.heap.size ≤ b
theorem One.to {w0 : World} (h : One w0 g mb now S w) {now1 : Int} {S1 : List Itm} (k : ∀ pv, WhS g mb pv now S w → WTo w g mb pv now1 S1 w') : One w0 g mb now1 S1 w' := by
  obtain ⟨pv, h1, h2, h3⟩ := h
  obtain ⟨pv', k1, k2, k3⟩ := k pv h1
  refine ⟨pv', k1, k2.below h2 h3 h2.size, fun b hb => ?_⟩
  rcases k3 b hb with e | e
  · exact h3 b e
  · exact Nat.le_trans h2.size e
theorem WB_dis {g2 mb2 : Nat} {pv2 pv' : Nat → Value} {n : Nat} (hd : ∀ b, WB g2 mb2 pv2 b → ¬ WB g mb pv b) (hc : ∀ b, WB g mb pv' b → WB g mb pv b ∨ n ≤ b) (hl : ∀ b, WB g2 mb2 pv2 b → b < n) : ∀ b, WB g2 mb2 pv2 b → ¬ WB g mb pv' b := fun b hb he => by
  rcases hc b he with e | e
  · exact hd b hb e
  · have := hl b hb; omega
/-- two wheels behind a call -/
def Pair (w0 : World) (g mb : Nat) (now : Int) (S : List Itm) (g2 mb2 : Nat) (now2 : Int) (S2 : List Itm) (w : World) : Prop :=
  ∃ pv pv2, WhS g mb pv now S w ∧ WhS g2 mb2 pv2 now2 S2 w ∧ (∀ b, WB g2 mb2 pv2 b → ¬ WB g mb pv b) ∧ Below w0.heap.size w0 w ∧ (∀ b, WB g mb pv b → w0.heap.size ≤ b) ∧ ∀ b, WB g2 mb2 pv2 b → w0.heap.size ≤ b
theorem Pair.symm {w0 : World} {g2 mb2 : Nat} {now2 : Int} {S2 : List Itm} (h : Pair w0 g mb now S g2 mb2 now2 S2 w) : Pair w0 g2 mb2 now2 S2 g mb now S w := by
  obtain ⟨pv, pv2, h1, h2, h3, h4, h5, h6⟩ := h
  exact ⟨pv2, pv, h2, h1, fun b hb e => h3 b e hb, h4, h6, h5⟩
theorem Pair.bel {w0 : World} {g2 mb2 : Nat} {now2 : Int} {S2 : List Itm} (h : Pair w0 g mb now S g2 mb2 now2 S2 w) (hb : Below w.heap.size w w') : Pair w0 g mb now S g2 mb2 now2 S2 w' := by
  obtain ⟨pv, pv2, h1, h2, h3, h4, h5, h6⟩ := h
  exact ⟨pv, pv2, h1.bel hb, h2.bel hb, h3, bel_tr h4 hb, h5, h6⟩
theorem Pair.to {w0 : World} {g2 mb2 : Nat} {now2 : Int} {S2 : List Itm} (h : Pair w0 g mb now S g2 mb2 now2 S2 w) {now1 : Int} {S1 : List Itm} (k : ∀ pv, WhS g mb pv now S w → WTo w g mb pv now1 S1 w') : Pair w0 g mb now1 S1 g2 mb2 now2 S2 w' := by
  obtain ⟨pv, pv2, h1, h2, h3, h4, h5, h6⟩ := h
  obtain ⟨pv', k1, k2, k3⟩ := k pv h1
  refine ⟨pv', pv2, k1, h2.turn k2 h3, WB_dis h3 k3 h2.lt, k2.below h4 h5 h4.size, fun b hb => ?_, h6⟩
  rcases k3 b hb with e | e
  · exact h5 b e
  · exact Nat.le_trans h4.size e
theorem One.bel {w0 : World} (h : One w0 g mb now S w) (hb : Below w.heap.size w w') : One w0 g mb now S w' := by
  obtain ⟨pv, h1, h2, h3⟩ := h
  exact ⟨pv, h1.bel hb, bel_tr h2 hb, h3⟩
end
/-- how a collection goes on -/
theorem collect_step {S out : List Itm} {left : Lit → Bool} (hid : S.Pairwise (fun a b => a.id ≠ b.id)) (h : out.Perm (S.filter fun x => !left (kI x.id))) {y : Itm} (hy : y ∈ S) (hl : left (kI y.id) = true) :
    (out ++ [y]).Perm (S.filter fun x => !(left (kI x.id) && !(kI x.id).sameKey (kI y.id))) := by
  have hk : ∀ x : Itm, (kI x.id).sameKey (kI y.id) = decide (x.id = y.id) := fun x => by
    by_cases c : x.id = y.id
    · rw [c, decide_eq_true rfl]; simp [Lit.sameKey]
    · rw [Maps.sameKey_ne (kI_ne c), decide_eq_false c]
  have e1 : (S.filter fun x => !(left (kI x.id) && !(kI x.id).sameKey (kI y.id))) = S.filter fun x => (!left (kI x.id)) || decide (x.id = y.id) := List.filter_congr fun x _ => by
    rw [hk x]
    cases left (kI x.id) <;> cases decide (x.id = y.id) <;> rfl
  have e2 : (S.filter fun x => decide (x.id = y.id)) = [y] := by
    clear e1 h
    induction S with
    | nil => cases hy
    | cons x S ih =>
      rw [List.pairwise_cons] at hid
      rcases List.mem_cons.1 hy with e | hy2
      · subst e
        rw [List.filter_cons_of_pos (by simp), List.filter_eq_nil_iff.2 (fun z hz => by simpa using fun e => hid.1 z hz e.symm)]
      · rw [List.filter_cons_of_neg (by simpa using hid.1 y hy2)]
        exact ih hid.2 hy2
  rw [e1]
  refine List.Perm.trans ?_ (Wh.filter_two _ _ S fun x hx hh => ?_).symm
  · rw [e2]
    exact h.append_right _
  · simp only [decide_eq_true_eq] at hh
    rw [hh.2, hl] at hh
    simp at hh
end Go.Proofs.Ytheocdfccdpmbaa
