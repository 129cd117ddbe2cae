
/-
  A member's way through a region that draws its order, with a call by contract that moves it on, and whose last operation stands alone in every order.
  Conditions: stated lemma by lemma.
-/
import Derived.Test.YtboiolnnhmlieaaGb5
import Derived.Test.YtboiolnnhmlieaaGb6
import Derived.Test.YtboiolnnhmlieaaGc4
namespace Go.Proofs.Ytboiolnnhmlieaa.Gang
open Go.Conc Go.ConcN
set_option linter.unusedVariables false
set_option linter.unusedSimpArgs false

section
variable {X Lam : Type} {P : Program} (J : Job P X Lam) (i : Nat)
/-- A CONTRACT OF A MEMBER's: behind the call it goes on well from wherever R says -/
def ConW (p : Pos Lam) (f : FuncId) (args : Array Value) (w : World) (R : Pos Lam → Value → Prop) : Prop :=
  ∃ fn c, P.funcs[f]? = some fn ∧ (fn.name == "runtime.NumGoroutine") = false ∧ fn.body = some c ∧ ∀ (b₀ : Frame) (a₀ : Act) (ops : Array Oper) (n : Nat) (rest : List Nat) (k : List Item) (cs : List Frame),
    (∀ p' v, R p' v → J.W i p' (G (b₀.at (a₀.put ((ops[n]?).bind (·.dst)) v) (.inRegion ops rest :: k)) cs) w) →
    J.W i p (G ((base f).at { tmps := args ++ Array.replicate (fn.ntmps - args.size) undef, defers := [] } [.code c]) (b₀.at a₀ (.inRegion ops (n :: rest) :: k) :: cs)) w
variable {J i}
theorem ConW.mono {p : Pos Lam} {f : FuncId} {args : Array Value} {w : World} {R R' : Pos Lam → Value → Prop} (h : ConW J i p f args w R) (hR : ∀ p' v, R p' v → R' p' v) : ConW J i p f args w R' := by
  obtain ⟨fn, c, h1, h2, h3, h4⟩ := h
  exact ⟨fn, c, h1, h2, h3, fun b₀ a₀ ops n rest k cs hK => h4 b₀ a₀ ops n rest k cs (fun p' v hr => hK p' v (hR p' v hr))⟩
theorem W.con {p : Pos Lam} {b : Frame} {a : Act} {k : List Item} {cs : List Frame} {w : World} {ops : Array Oper} {n : Nat} {rest : List Nat} {o : Oper} {f : FuncId} {args : Array Operand} {ats : Array TypeId} {vs : Array Value} {R : Pos Lam → Value → Prop}
    (hq : p.quit = false) (hC : ConW J i p f vs w R) (ho : ops[n]? = some o) (hw : Region.wanted o (yielded ops a.tmps) = true) (hk : b.kind ≠ .early) (hop : o.op = .call { callee := .value (.func f), args, argTypes := ats }) (hv : args.map a.eval = vs)
    (h : ∀ p' v, R p' v → J.W i p' (G (b.at (a.put o.dst v) (.inRegion ops rest :: k)) cs) w) :
    J.W i p (G (b.at a (.inRegion ops (n :: rest) :: k)) cs) w := by
  subst hv
  obtain ⟨fn, c, h1, h2, h3, h4⟩ := hC
  refine W.call hq ho hw hk hop h1 h2 h3 (h4 b a ops n rest k cs (fun p' v hr => ?_))
  rw [ho]
  exact h p' v hr
end
section
variable {X Lam : Type} {P : Program} (J : Job P X Lam) (i : Nat) (w : World) (ops : Array Oper)
def OpU (j : Nat) (K : Pos Lam → Act → Prop) (p : Pos Lam) (a : Act) : Prop := ∃ o, ops[j]? = some o ∧
  ((∃ v, YldIf J i p w ops o v a ∧ K p (a.put o.dst v)) ∨
   (Region.wanted o (yielded ops a.tmps) = true ∧ ∃ f args ats vs, o.op = .call { callee := .value (.func f), args, argTypes := ats } ∧ args.map a.eval = vs ∧ ConW J i p f vs w (fun p' v => K p' (a.put o.dst v))))
variable (md : Region.Mode) (stop : Array Bool → Bool) (last : Nat) (S : Pos Lam → Prop) (Q : Pos Lam → Act → Prop)
def AnyU : Nat → Array Bool → Pos Lam → Act → Prop
  | 0, lst, p, a => S p ∧ stop lst = true ∧ Q p a
  | f + 1, lst, p, a => S p ∧ ((stop lst = true ∧ Q p a) ∨ (stop lst = false ∧ Region.ready md ops lst ≠ [] ∧ ∀ j ∈ Region.ready md ops lst, j ≠ last → OpU J i w ops j (AnyU f (lst.setIfInBounds j true)) p a))

variable {J i w ops md stop last S Q}
theorem OpU.mono {j : Nat} {K K' : Pos Lam → Act → Prop} {p : Pos Lam} {a : Act} (h : OpU J i w ops j K p a) (hK : ∀ o v p', ops[j]? = some o → K p' (a.put o.dst v) → K' p' (a.put o.dst v)) : OpU J i w ops j K' p a := by
  obtain ⟨o, ho, h⟩ := h
  refine ⟨o, ho, ?_⟩
  rcases h with ⟨v, h1, h2⟩ | ⟨hw, f, args, ats, vs, h1, h2, h3⟩
  · exact .inl ⟨v, h1, hK o v p ho h2⟩
  · exact .inr ⟨hw, f, args, ats, vs, h1, h2, h3.mono fun p' v h => hK o v p' ho h⟩
theorem OpU_putIf {j : Nat} {oi oj : Oper} {v : Value} (hj : ops[j]? = some oj) (hap : oi.apart ops oj = true) (hs : ∀ cs b, oj.op ≠ .select cs b) (hargs : ∀ f args ats, oj.op = .call { callee := .value (.func f), args, argTypes := ats } → ∀ x ∈ args, ∀ d, oi.dst = some d → x ≠ .tmp d)
    {K : Pos Lam → Act → Prop} {p : Pos Lam} {a : Act} (h : OpU J i w ops j K p (a.put oi.dst v)) : OpU J i w ops j (fun p' a' => K p' (a'.put oi.dst v)) p a := by
  obtain ⟨h1, h2, h3⟩ := Oper.apart_spec hap
  obtain ⟨o, ho, h⟩ := h
  rw [hj] at ho
  obtain rfl := Option.some.inj ho
  refine ⟨oj, hj, ?_⟩
  rcases h with ⟨u, hu, hK⟩ | ⟨hw, f, args, ats, vs, k1, k2, k3⟩
  · refine .inl ⟨u, hu.of_same (execOp_put oj hs a oi.dst v h1).symm (wanted_put oj a oi.dst v h1).symm, ?_⟩
    show K p ((a.put oj.dst u).put oi.dst v)
    rw [← Act.put_comm a v u h2]
    exact hK
  · refine .inr ⟨by rw [← wanted_put oj a oi.dst v h1]; exact hw, f, args, ats, vs, k1, ?_, k3.mono fun p' u h => ?_⟩
    · rw [← k2]
      refine Array.map_congr_left fun x hx => ?_
      cases hd : oi.dst with
      | none => rfl
      | some d =>
        have hne := hargs f args ats k1 x hx d hd
        cases x with
        | tmp t =>
          have : t ≠ d := fun e => hne (by rw [e])
          simp only [Act.eval, Act.put]
          rw [Array.getD_eq_getD_getElem?, Array.getD_eq_getD_getElem?, Array.getElem?_setIfInBounds_ne (fun e => this e.symm)]
        | _ => rfl
    · show K p' ((a.put oj.dst u).put oi.dst v)
      rw [← Act.put_comm a v u h2]
      exact h
theorem AnyU.holds : ∀ {f : Nat} {lst : Array Bool} {p : Pos Lam} {a : Act}, AnyU J i w ops md stop last S Q f lst p a → S p
  | 0, _, _, _, h => h.1
  | _ + 1, _, _, _, h => h.1
theorem anyU_first {i' : Nat} {oi : Oper} {v : Value} (hi : ops[i']? = some oi) (hne : i' ≠ last) (hst : ∀ lst, stop lst = true → ∀ j ∈ Region.ready md ops lst, j = last)
    (hsel : ∀ (j : Nat) (o : Oper) cs b, ops[j]? = some o → o.op ≠ .select cs b)
    (hargs : ∀ (j : Nat) oj f args ats, ops[j]? = some oj → oi.apart ops oj = true → oj.op = .call { callee := .value (.func f), args, argTypes := ats } → ∀ x ∈ args, ∀ d, oi.dst = some d → x ≠ .tmp d) :
    ∀ (fuel : Nat) (lst : Array Bool) (p : Pos Lam) (a : Act),
      (∀ j oj, ops[j]? = some oj → j ≠ i' → lst.getD j true = false → (∀ e ∈ oj.after, Region.binds md e = true → e.on ≠ i') → oi.apart ops oj = true) →
      i' ∈ Region.ready md ops lst → (∀ p', S p' → YldIf J i p' w ops oi v a) → AnyU J i w ops md stop last S Q fuel (lst.setIfInBounds i' true) p (a.put oi.dst v) → AnyU J i w ops md stop last S Q (fuel + 1) lst p a := by
  have hns : ∀ lst, i' ∈ Region.ready md ops lst → stop lst = false := fun lst hr => by
    cases hs : stop lst with
    | false => rfl
    | true => exact absurd (hst lst hs i' hr) hne
  intro fuel
  induction fuel with
  | zero =>
    intro lst p a _ hr hy H
    refine ⟨H.1, .inr ⟨hns lst hr, (fun e => by rw [e] at hr; cases hr), fun j hj hjl => ?_⟩⟩
    by_cases hji : j = i'
    · subst hji; exact ⟨oi, hi, .inl ⟨v, hy p H.1, H⟩⟩
    · exact absurd (hst _ H.2.1 j (ready_mono hj hji)) hjl
  | succ fuel ih =>
    intro lst p a hfree hr hy H
    refine ⟨H.1, .inr ⟨hns lst hr, (fun e => by rw [e] at hr; cases hr), fun j hj hjl => ?_⟩⟩
    by_cases hji : j = i'
    · subst hji; exact ⟨oi, hi, .inl ⟨v, hy p H.1, H⟩⟩
    · rcases H with ⟨HS, H | H⟩
      · exact absurd (hst _ H.1 j (ready_mono hj hji)) hjl
      · have h1 := H.2.2 j (ready_mono hj hji) hjl
        obtain ⟨hjun, oj, hoj, hall⟩ := mem_ready.1 hj
        have hnot : ∀ e ∈ oj.after, Region.binds md e = true → e.on ≠ i' := fun e he hb heq => by
          have h1 := hall e he hb
          have h0 := (mem_ready.1 hr).1
          rw [heq] at h1
          rcases Nat.lt_or_ge i' lst.size with h' | h'
          · simp [h'] at h0 h1; rw [h0] at h1; cases h1
          · simp [Array.getElem?_eq_none h'] at h1
        have hap := hfree j oj hoj hji hjun hnot
        obtain ⟨_, _, hap3⟩ := Oper.apart_spec hap
        have h2 := OpU_putIf hoj hap (fun cs b => hsel j oj cs b hoj) (fun f args ats hop => hargs j oj f args ats hoj hap hop) h1
        refine h2.mono fun o u p' ho hK => ?_
        rw [hoj] at ho
        obtain rfl := Option.some.inj ho
        have hfree' : ∀ k ok, ops[k]? = some ok → k ≠ i' → (lst.setIfInBounds j true).getD k true = false →
            (∀ e ∈ ok.after, Region.binds md e = true → e.on ≠ i') → oi.apart ops ok = true := fun k ok hk hki hun hno => by
          refine hfree k ok hk hki ?_ hno
          by_cases hjk : j = k
          · subst hjk; exact hjun
          · rw [getD_set_ne true hjk] at hun; exact hun
        refine ih (lst.setIfInBounds j true) p' _ hfree' (ready_mono hr (Ne.symm hji)) (fun p2 hs => (hy p2 hs).of_same (execOp_put oi (fun cs b => hsel i' oi cs b hi) a oj.dst u hap3) (wanted_put oi a oj.dst u hap3)) ?_
        rw [Array.setIfInBounds_comm _ _ hji]
        exact hK
/-- take number i' first -/
theorem anyU_take {i' : Nat} {oi : Oper} {v : Value} {fuel : Nat} {lst : Array Bool} {p : Pos Lam} {a : Act} (hst : ∀ lst, stop lst = true → ∀ j ∈ Region.ready md ops lst, j = last) (hi : ops[i']? = some oi) (hne : i' ≠ last)
    (hs : Region.noSelect ops = true) (hf : Region.free md ops lst i' = true) (hr : (Region.ready md ops lst).contains i' = true) (hg : argsFree ops i' = true)
    (hy : ∀ p', S p' → YldIf J i p' w ops oi v a) (h : AnyU J i w ops md stop last S Q fuel (lst.setIfInBounds i' true) p (a.put oi.dst v)) : AnyU J i w ops md stop last S Q (fuel + 1) lst p a :=
  anyU_first hi hne hst (Region.noSelect_spec hs) (argsFree_spec hi hg) fuel lst p a (Region.free_spec hi hf) (by simpa using hr) hy h
/-- only number j is ready, and it is a call -/
theorem anyU_call {j : Nat} {o : Oper} {fuel : Nat} {lst : Array Bool} {p : Pos Lam} {a : Act} {f : FuncId} {args : Array Operand} {ats : Array TypeId} {vs : Array Value} {R : Pos Lam → Value → Prop} (hC : ConW J i p f vs w R) (ho : ops[j]? = some o)
    (hr : Region.ready md ops lst = [j]) (hn : stop lst = false) (hS : S p) (hw : Region.wanted o (yielded ops a.tmps) = true) (hop : o.op = .call { callee := .value (.func f), args, argTypes := ats }) (hv : args.map a.eval = vs)
    (h : ∀ p' v, R p' v → AnyU J i w ops md stop last S Q fuel (lst.setIfInBounds j true) p' (a.put o.dst v)) : AnyU J i w ops md stop last S Q (fuel + 1) lst p a := by
  refine ⟨hS, .inr ⟨hn, by rw [hr]; simp, fun k hk _ => ?_⟩⟩
  rw [hr, List.mem_singleton] at hk
  subst hk
  exact ⟨o, ho, .inr ⟨hw, f, args, ats, vs, hop, hv, hC.mono h⟩⟩
variable {b : Frame} {k : List Item} {cs : List Frame}
/-- it serves every order that the tape can pick -/
theorem anyU_sound (hq : ∀ p, S p → p.quit = false) (hk : b.kind ≠ .early) (hlast : ∀ lst, lst.size = ops.size → Clo md ops lst → last ∈ Region.ready md ops lst → stop lst = true)
    (hend : ∀ f t lst, stop lst = true → Region.linearise.go md ops (f + 1) t lst [] = [last]) (hQ : ∀ p a, S p → Q p a → J.W i p (G (b.at a (.inRegion ops [last] :: k)) cs) w) :
    ∀ (fuel t : Nat) (lst : Array Bool) (p : Pos Lam) (a : Act), lst.size = ops.size → Clo md ops lst → AnyU J i w ops md stop last S Q fuel lst p a →
    J.W i p (G (b.at a (.inRegion ops (Region.linearise.go md ops (fuel + 1) t lst []) :: k)) cs) w := by
  intro fuel
  induction fuel with
  | zero => intro t lst p a _ _ h; rw [hend 0 t lst h.2.1]; exact hQ p a h.1 h.2.2
  | succ fuel ih =>
    intro t lst p a hsz hc h
    rcases h with ⟨hS, h | ⟨hs, hne, h₁⟩⟩
    · rw [hend _ t lst h.1]; exact hQ p a hS h.2
    · rw [Region.linearise.go]
      change J.W i p (G (b.at a (.inRegion ops (match (Region.ready md ops lst)[t % (Region.ready md ops lst).length]? with
        | some i => Region.linearise.go md ops (fuel + 1) (t / (Region.ready md ops lst).length) (lst.setIfInBounds i true) [i]
        | none => [].reverse) :: k)) cs) w
      cases hi : (Region.ready md ops lst)[t % (Region.ready md ops lst).length]? with
      | none =>
        have hlen : 0 < (Region.ready md ops lst).length := List.length_pos_iff.2 hne
        have hlt := Nat.mod_lt t hlen
        rw [List.getElem?_eq_none_iff] at hi
        omega
      | some j =>
        have hj := List.mem_of_getElem? hi
        have hjl : j ≠ last := fun e => by rw [hlast lst hsz hc (e ▸ hj)] at hs; cases hs
        obtain ⟨o, ho, h2⟩ := h₁ j hj hjl
        simp only []
        rw [linearise_go_acc, List.reverse_singleton, List.singleton_append]
        rcases h2 with ⟨v, hy, hA⟩ | ⟨hw, f, args, ats, vs, k1, k2, k3⟩
        · have hW := ih (t / (Region.ready md ops lst).length) _ _ _ (by rw [Array.size_setIfInBounds]; exact hsz) (hc.set hj) hA
          rcases hy with ⟨hw, hv⟩ | ⟨hw, rfl⟩
          · exact W.of_goes rfl (fun w₁ h₁ => by rw [stepG_value ho hw hk (hv w₁ h₁).1]; exact ⟨rfl, rfl, step_says (fun e he => (hv w₁ h₁).2 e (mem_listed he))⟩) (hq p hS) hW
          · exact W.unwanted (hq p hS) ho hw hW
        · exact W.con (hq p hS) k3 ho hw hk k1 k2 (fun p' v hA => ih _ _ _ _ (by rw [Array.size_setIfInBounds]; exact hsz) (hc.set hj) hA)
end
end Go.Proofs.Ytboiolnnhmlieaa.Gang
