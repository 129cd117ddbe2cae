
/-
  A member's way through a region that draws its order, whose last operation stands alone in every order (a call): the operations ahead of it read and yield, whichever comes up first.
  Conditions: stated lemma by lemma.
-/
import Derived.Test.YtboiolnnhmlieaaGb2
import Derived.Conc.CompanyDraw
namespace Go.Proofs.Ytboiolnnhmlieaa.Gang
open Go.Conc Go.ConcN
set_option linter.unusedVariables false
set_option linter.unusedSimpArgs false

section
variable {X Lam : Type} {P : Program} (J : Job P X Lam) (i : Nat) (p : Pos Lam) (w : World) (ops : Array Oper)
/-- in state a operation o yields v, whatever the others do, and what it lists is let by -/
def Yld (o : Oper) (v : Value) (a : Act) : Prop := ∀ w₁, J.rely i w w₁ → (execOp a.eval o).run P w₁ = .ok (.value v) w₁ ∧ ∀ e ∈ (execOp a.eval o).events P w₁ #[], J.Says i p e
def YldIf (o : Oper) (v : Value) (a : Act) : Prop := (Region.wanted o (yielded ops a.tmps) = true ∧ Yld J i p w o v a) ∨ (Region.wanted o (yielded ops a.tmps) = false ∧ v = undef)
def OpW (j : Nat) (K : Act → Prop) (a : Act) : Prop := ∃ o, ops[j]? = some o ∧ ∃ v, YldIf J i p w ops o v a ∧ K (a.put o.dst v)
variable (md : Region.Mode) (stop : Array Bool → Bool) (last : Nat) (Q : Act → Prop)
def AnyW : Nat → Array Bool → Act → Prop
  | 0, lst, a => stop lst = true ∧ Q a
  | f + 1, lst, a => (stop lst = true ∧ Q a) ∨ (stop lst = false ∧ Region.ready md ops lst ≠ [] ∧ ∀ j ∈ Region.ready md ops lst, j ≠ last → OpW J i p w ops j (AnyW f (lst.setIfInBounds j true)) a)

variable {J i p w ops md stop last Q}
theorem YldIf.of_same {o : Oper} {v : Value} {a a' : Act} (hy : YldIf J i p w ops o v a) (he : execOp a'.eval o = execOp a.eval o)
    (hw : Region.wanted o (yielded ops a'.tmps) = Region.wanted o (yielded ops a.tmps)) : YldIf J i p w ops o v a' := by
  unfold YldIf Yld at *
  rw [he, hw]
  exact hy
theorem OpW_putIf {j : Nat} {oi oj : Oper} {v : Value} (hj : ops[j]? = some oj) (hap : oi.apart ops oj = true)
    (hsi : ∀ cs b, oi.op ≠ .select cs b) (hsj : ∀ cs b, oj.op ≠ .select cs b) {K : Act → Prop} {a : Act}
    (hy : YldIf J i p w ops oi v a) (h : OpW J i p w ops j K (a.put oi.dst v)) : OpW J i p w ops j (fun a' => YldIf J i p w ops oi v a' ∧ K (a'.put oi.dst v)) a := by
  obtain ⟨h1, h2, h3⟩ := Oper.apart_spec hap
  obtain ⟨o, ho, u, hu, hK⟩ := h
  rw [hj] at ho
  obtain rfl := Option.some.inj ho
  refine ⟨oj, hj, u, hu.of_same (execOp_put oj hsj a oi.dst v h1).symm (wanted_put oj a oi.dst v h1).symm, hy.of_same (execOp_put oi hsi a oj.dst u h3) (wanted_put oi a oj.dst u h3), ?_⟩
  rw [← Act.put_comm a v u h2]
  exact hK
theorem anyW_first {i' : Nat} {oi : Oper} {v : Value} (hi : ops[i']? = some oi) (hne : i' ≠ last) (hst : ∀ lst, stop lst = true → ∀ j ∈ Region.ready md ops lst, j = last)
    (hsel : ∀ (j : Nat) (o : Oper) cs b, ops[j]? = some o → o.op ≠ .select cs b) :
    ∀ (fuel : Nat) (lst : Array Bool) (a : Act),
      (∀ j oj, ops[j]? = some oj → j ≠ i' → lst.getD j true = false → (∀ e ∈ oj.after, Region.binds md e = true → e.on ≠ i') → oi.apart ops oj = true) →
      i' ∈ Region.ready md ops lst → YldIf J i p w ops oi v a → AnyW J i p w ops md stop last Q fuel (lst.setIfInBounds i' true) (a.put oi.dst v) → AnyW J i p w ops md stop last Q (fuel + 1) lst a := by
  have hns : ∀ lst, i' ∈ Region.ready md ops lst → stop lst = false := fun lst hr => by
    cases hs : stop lst with
    | false => rfl
    | true => exact absurd (hst lst hs i' hr) hne
  intro fuel
  induction fuel with
  | zero =>
    intro lst a _ hr hy H
    refine .inr ⟨hns lst hr, (fun e => by rw [e] at hr; cases hr), fun j hj hjl => ?_⟩
    by_cases hji : j = i'
    · subst hji; exact ⟨oi, hi, v, hy, H⟩
    · exact absurd (hst _ H.1 j (ready_mono hj hji)) hjl
  | succ fuel ih =>
    intro lst a hfree hr hy H
    refine .inr ⟨hns lst hr, (fun e => by rw [e] at hr; cases hr), fun j hj hjl => ?_⟩
    by_cases hji : j = i'
    · subst hji; exact ⟨oi, hi, v, hy, H⟩
    · rcases H with H | H
      · exact absurd (hst _ H.1 j (ready_mono hj hji)) hjl
      · have h1 := H.2.2 j (ready_mono hj hji) hjl
        obtain ⟨hjun, oj, hoj, hall⟩ := mem_ready.1 hj
        have hnot : ∀ e ∈ oj.after, Region.binds md e = true → e.on ≠ i' := fun e he hb heq => by
          have h1 := hall e he hb
          have h0 := (mem_ready.1 hr).1
          rw [heq] at h1
          rcases Nat.lt_or_ge i' lst.size with h' | h'
          · simp [h'] at h0 h1; rw [h0] at h1; cases h1
          · simp [Array.getElem?_eq_none h'] at h1
        have h2 := OpW_putIf hoj (hfree j oj hoj hji hjun hnot) (fun cs b => hsel i' oi cs b hi) (fun cs b => hsel j oj cs b hoj) hy h1
        have hfree' : ∀ k ok, ops[k]? = some ok → k ≠ i' → (lst.setIfInBounds j true).getD k true = false →
            (∀ e ∈ ok.after, Region.binds md e = true → e.on ≠ i') → oi.apart ops ok = true := fun k ok hk hki hun hno => by
          refine hfree k ok hk hki ?_ hno
          by_cases hjk : j = k
          · subst hjk; exact hjun
          · rw [getD_set_ne true hjk] at hun; exact hun
        obtain ⟨o, ho, u, hu, hyu, hA⟩ := h2
        refine ⟨o, ho, u, hu, ih (lst.setIfInBounds j true) _ hfree' (ready_mono hr (Ne.symm hji)) hyu ?_⟩
        rw [Array.setIfInBounds_comm _ _ hji]
        exact hA
/-- take number i' first -/
theorem anyW_take {i' : Nat} {oi : Oper} {v : Value} {fuel : Nat} {lst : Array Bool} {a : Act} (hst : ∀ lst, stop lst = true → ∀ j ∈ Region.ready md ops lst, j = last) (hi : ops[i']? = some oi) (hne : i' ≠ last)
    (hs : Region.noSelect ops = true) (hf : Region.free md ops lst i' = true) (hr : (Region.ready md ops lst).contains i' = true)
    (hy : YldIf J i p w ops oi v a) (h : AnyW J i p w ops md stop last Q fuel (lst.setIfInBounds i' true) (a.put oi.dst v)) : AnyW J i p w ops md stop last Q (fuel + 1) lst a :=
  anyW_first hi hne hst (Region.noSelect_spec hs) fuel lst a (Region.free_spec hi hf) (by simpa using hr) hy h

/-- a listed operation's conditions are listed -/
def Clo (md : Region.Mode) (ops : Array Oper) (lst : Array Bool) : Prop := ∀ (j : Nat) (o : Oper), ops[j]? = some o → lst[j]? = some true → ∀ e ∈ o.after, Region.binds md e = true → lst[e.on]? = some true
theorem Clo.set {lst : Array Bool} (h : Clo md ops lst) {j : Nat} (hj : j ∈ Region.ready md ops lst) : Clo md ops (lst.setIfInBounds j true) := by
  intro k o hk hl e he hb
  obtain ⟨hjun, oj, hoj, hall⟩ := mem_ready.1 hj
  have up : lst[e.on]? = some true → (lst.setIfInBounds j true)[e.on]? = some true := fun h => by
    have hlt := (Array.getElem?_eq_some_iff.1 h).1
    rw [Array.getElem?_setIfInBounds]
    split
    · next e' => rw [if_pos (by omega)]
    · exact h
  by_cases hkj : j = k
  · subst hkj
    rw [hoj] at hk
    obtain rfl := Option.some.inj hk
    have := hall e he hb
    apply up
    revert this
    cases h' : lst[e.on]? <;> simp_all
  · rw [Array.getElem?_setIfInBounds_ne hkj] at hl
    exact up (h k o hk hl e he hb)

variable {b : Frame} {k : List Item} {cs : List Frame}
/-- it serves every order that the tape can pick -/
theorem anyW_sound (hq : p.quit = false) (hk : b.kind ≠ .early) (hlast : ∀ lst, lst.size = ops.size → Clo md ops lst → last ∈ Region.ready md ops lst → stop lst = true)
    (hend : ∀ f t lst, stop lst = true → Region.linearise.go md ops (f + 1) t lst [] = [last]) (hQ : ∀ a, Q a → J.W i p (G (b.at a (.inRegion ops [last] :: k)) cs) w) :
    ∀ (fuel t : Nat) (lst : Array Bool) (a : Act), lst.size = ops.size → Clo md ops lst → AnyW J i p w ops md stop last Q fuel lst a →
    J.W i p (G (b.at a (.inRegion ops (Region.linearise.go md ops (fuel + 1) t lst []) :: k)) cs) w := by
  intro fuel
  induction fuel with
  | zero => intro t lst a _ _ h; rw [hend 0 t lst h.1]; exact hQ a h.2
  | succ fuel ih =>
    intro t lst a hsz hc h
    rcases h with h | ⟨hs, hne, h₁⟩
    · rw [hend _ t lst h.1]; exact hQ a h.2
    · rw [Region.linearise.go]
      change J.W i p (G (b.at a (.inRegion ops (match (Region.ready md ops lst)[t % (Region.ready md ops lst).length]? with
        | some i => Region.linearise.go md ops (fuel + 1) (t / (Region.ready md ops lst).length) (lst.setIfInBounds i true) [i]
        | none => [].reverse) :: k)) cs) w
      cases hi : (Region.ready md ops lst)[t % (Region.ready md ops lst).length]? with
      | none =>
        have hlen : 0 < (Region.ready md ops lst).length := List.length_pos_iff.2 hne
        have hlt := Nat.mod_lt t hlen
        rw [List.getElem?_eq_none_iff] at hi
        omega
      | some j =>
        have hj := List.mem_of_getElem? hi
        have hjl : j ≠ last := fun e => by rw [hlast lst hsz hc (e ▸ hj)] at hs; cases hs
        obtain ⟨o, ho, v, hy, hA⟩ := h₁ j hj hjl
        simp only []
        rw [linearise_go_acc, List.reverse_singleton, List.singleton_append]
        have hW := ih (t / (Region.ready md ops lst).length) _ _ (by rw [Array.size_setIfInBounds]; exact hsz) (hc.set hj) hA
        rcases hy with ⟨hw, hv⟩ | ⟨hw, rfl⟩
        · exact W.of_goes rfl (fun w₁ h₁ => by rw [stepG_value ho hw hk (hv w₁ h₁).1]; exact ⟨rfl, rfl, step_says (fun e he => (hv w₁ h₁).2 e (mem_listed he))⟩) hq hW
        · exact W.unwanted hq ho hw hW
end
end Go.Proofs.Ytboiolnnhmlieaa.Gang
