
/-
  Goroutine 0 beside leavers: a region that draws its order and stores: what holds of the world hangs on what is listed.
  Conditions: stated lemma by lemma.
-/
import Derived.Test.YtboiolnnhmlieaaGc4
import Derived.Test.YtboiolnnhmlieaaGb5
namespace Go.Proofs.Ytboiolnnhmlieaa.Gang
open Go.Conc Go.ConcN
set_option linter.unusedVariables false
set_option linter.unusedSimpArgs false

section
variable (P : Program) (X : Cx) (ops : Array Oper) (md : Region.Mode) (S : Array Bool → World → Prop) (Q : Act → World → Prop)
/-- it stores: it turns the world and yields nothing -/
def Yds (o : Oper) (a : Act) (w w2 : World) : Prop := ∀ d, (execOp a.eval o).run P (w.at d) = .ok .skip (w2.at d) ∧ ∀ e ∈ (execOp a.eval o).events P (w.at d) #[], EvL X.Sh X.B e
def OpX (j : Nat) (K : Act → World → Prop) (a : Act) (w : World) : Prop := OpV P X ops j K a w ∨ ∃ o, ops[j]? = some o ∧ (∀ cs b, o.op ≠ .select cs b) ∧ Region.wanted o (yielded ops a.tmps) = true ∧ ∃ w2, Yds P X o a w w2 ∧ K (a.put o.dst undef) w2
def AnyS : Nat → Array Bool → Act → World → Prop
  | 0, lst, a, w => S lst w ∧ Region.ready md ops lst = [] ∧ Q a w
  | f + 1, lst, a, w => S lst w ∧ Region.ready md ops lst ≠ [] ∧ ∀ j ∈ Region.ready md ops lst, OpX P X ops j (AnyS f (lst.setIfInBounds j true)) a w
/-- a listing that an order leads to -/
def Gd (lst : Array Bool) : Prop := lst.size = ops.size ∧ Clo md ops lst
def cloB (lst : Array Bool) : Bool := (List.range ops.size).all fun j => !(lst[j]? == some true) || (match ops[j]? with | some o => o.after.all fun e => !Region.binds md e || lst[e.on]? == some true | none => true)
variable {P X ops md S Q}
theorem OpX.mono {j : Nat} {K K' : Act → World → Prop} {a : Act} {w : World} (h : OpX P X ops j K a w) (hK : ∀ o v w', ops[j]? = some o → K (a.put o.dst v) w' → K' (a.put o.dst v) w') : OpX P X ops j K' a w := by
  rcases h with h | ⟨o, ho, hs, hw, w2, h1, h2⟩
  · exact .inl (h.mono hK)
  · exact .inr ⟨o, ho, hs, hw, w2, h1, hK o undef w2 ho h2⟩
theorem OpX_putIf {j : Nat} {oi oj : Oper} {v : Value} (hj : ops[j]? = some oj) (hap : oi.apart ops oj = true) (hargs : ∀ f args ats, oj.op = .call { callee := .value (.func f), args, argTypes := ats } → ∀ x ∈ args, ∀ d, oi.dst = some d → x ≠ .tmp d)
    {K : Act → World → Prop} {a : Act} {w : World} (h : OpX P X ops j K (a.put oi.dst v) w) : OpX P X ops j (fun a' w' => K (a'.put oi.dst v) w') a w := by
  rcases h with h | ⟨o, ho, hs, hw, w2, h1, h2⟩
  · exact .inl (OpV_putIf hj hap hargs h)
  · obtain ⟨g1, g2, g3⟩ := Oper.apart_spec hap
    rw [hj] at ho
    obtain rfl := Option.some.inj ho
    refine .inr ⟨oj, hj, hs, by rw [← wanted_put oj a oi.dst v g1]; exact hw, w2, ?_, ?_⟩
    · unfold Yds at *
      rw [← execOp_put oj hs a oi.dst v g1]
      exact h1
    · show K ((a.put oj.dst undef).put oi.dst v) w2
      rw [← Act.put_comm a v undef g2]
      exact h2
theorem Gd.of {lst : Array Bool} (hs : lst.size = ops.size) (h : cloB ops md lst = true) : Gd ops md lst := by
  refine ⟨hs, fun j o ho hl e he hb => ?_⟩
  unfold cloB at h
  rw [List.all_eq_true] at h
  have hj := h j (List.mem_range.2 (Array.getElem?_eq_some_iff.1 ho).1)
  rw [hl, ho] at hj
  simp only [beq_self_eq_true, Bool.not_true, Bool.false_or, Array.all_eq_true_iff_forall_mem] at hj
  have := hj e he
  rw [hb] at this
  simpa using this
theorem Gd.set {lst : Array Bool} (h : Gd ops md lst) {j : Nat} (hj : j ∈ Region.ready md ops lst) : Gd ops md (lst.setIfInBounds j true) :=
  ⟨by rw [Array.size_setIfInBounds]; exact h.1, h.2.set hj⟩
theorem AnyS.holds : ∀ {f : Nat} {lst : Array Bool} {a : Act} {w : World}, AnyS P X ops md S Q f lst a w → S lst w
  | 0, _, _, _, h => h.1
  | _ + 1, _, _, _, h => h.1
theorem anyS_first {i' : Nat} {oi : Oper} {v : Value} (hi : ops[i']? = some oi) (hsel : ∀ (j : Nat) (o : Oper) cs b, ops[j]? = some o → o.op ≠ .select cs b)
    (hargs : ∀ (j : Nat) oj f args ats, ops[j]? = some oj → oi.apart ops oj = true → oj.op = .call { callee := .value (.func f), args, argTypes := ats } → ∀ x ∈ args, ∀ d, oi.dst = some d → x ≠ .tmp d)
    (hmono : ∀ lst w, S (lst.setIfInBounds i' true) w → S lst w) :
    ∀ (fuel : Nat) (lst : Array Bool) (a : Act) (w : World), Gd ops md lst →
      (∀ j oj, ops[j]? = some oj → j ≠ i' → lst.getD j true = false → (∀ e ∈ oj.after, Region.binds md e = true → e.on ≠ i') → oi.apart ops oj = true) →
      i' ∈ Region.ready md ops lst → (∀ lst' w', Gd ops md lst' → lst'.getD i' true = false → S lst' w' → YdIf P X ops oi v a w') → AnyS P X ops md S Q fuel (lst.setIfInBounds i' true) (a.put oi.dst v) w → AnyS P X ops md S Q (fuel + 1) lst a w := by
  intro fuel
  induction fuel with
  | zero =>
    intro lst a w hg _ hr hy H
    have hS := hmono _ _ H.1
    refine ⟨hS, (fun e => by rw [e] at hr; cases hr), fun j hj => ?_⟩
    by_cases hji : j = i'
    · subst hji; exact .inl ⟨oi, hi, fun cs b => hsel j oi cs b hi, .inl ⟨v, hy lst w hg (mem_ready.1 hr).1 hS, H⟩⟩
    · have := ready_mono hj hji
      rw [H.2.1] at this; cases this
  | succ fuel ih =>
    intro lst a w hg hfree hr hy H
    have hS := hmono _ _ H.1
    refine ⟨hS, (fun e => by rw [e] at hr; cases hr), fun j hj => ?_⟩
    by_cases hji : j = i'
    · subst hji; exact .inl ⟨oi, hi, fun cs b => hsel j oi cs b hi, .inl ⟨v, hy lst w hg (mem_ready.1 hr).1 hS, H⟩⟩
    · have h1 := H.2.2 j (ready_mono hj hji)
      obtain ⟨hjun, oj, hoj, hall⟩ := mem_ready.1 hj
      have hnot : ∀ e ∈ oj.after, Region.binds md e = true → e.on ≠ i' := fun e he hb heq => by
        have h1 := hall e he hb
        have h0 := (mem_ready.1 hr).1
        rw [heq] at h1
        rcases Nat.lt_or_ge i' lst.size with h' | h'
        · simp [h'] at h0 h1; rw [h0] at h1; cases h1
        · simp [Array.getElem?_eq_none h'] at h1
      have hap := hfree j oj hoj hji hjun hnot
      obtain ⟨_, _, hap3⟩ := Oper.apart_spec hap
      have h2 := OpX_putIf hoj hap (fun f args ats hop => hargs j oj f args ats hoj hap hop) h1
      refine h2.mono fun o u w' ho hK => ?_
      rw [hoj] at ho
      obtain rfl := Option.some.inj ho
      have hfree' : ∀ k ok, ops[k]? = some ok → k ≠ i' → (lst.setIfInBounds j true).getD k true = false →
          (∀ e ∈ ok.after, Region.binds md e = true → e.on ≠ i') → oi.apart ops ok = true := fun k ok hk hki hun hno => by
        refine hfree k ok hk hki ?_ hno
        by_cases hjk : j = k
        · subst hjk; exact hjun
        · rw [getD_set_ne true hjk] at hun; exact hun
      refine ih (lst.setIfInBounds j true) _ w' (hg.set hj) hfree' (ready_mono hr (Ne.symm hji)) (fun l2 w2 hg2 hp hs => (hy l2 w2 hg2 hp hs).of_same (execOp_put oi (fun cs b => hsel i' oi cs b hi) a oj.dst u hap3) (wanted_put oi a oj.dst u hap3)) ?_
      rw [Array.setIfInBounds_comm _ _ hji]
      exact hK
/-- take number i' first: it only reads -/
theorem anyS_take {i' : Nat} {oi : Oper} {v : Value} {fuel : Nat} {lst : Array Bool} {a : Act} {w : World} (hi : ops[i']? = some oi)
    (hs : Region.noSelect ops = true) (hf : Region.free md ops lst i' = true) (hr : (Region.ready md ops lst).contains i' = true) (hg : argsFree ops i' = true) (hz : lst.size = ops.size) (hb : cloB ops md lst = true) (hmono : ∀ lst w, S (lst.setIfInBounds i' true) w → S lst w)
    (hy : ∀ lst' w', Gd ops md lst' → lst'.getD i' true = false → S lst' w' → YdIf P X ops oi v a w') (h : AnyS P X ops md S Q fuel (lst.setIfInBounds i' true) (a.put oi.dst v) w) : AnyS P X ops md S Q (fuel + 1) lst a w :=
  anyS_first hi (Region.noSelect_spec hs) (argsFree_spec hi hg) hmono fuel lst a w (Gd.of hz hb) (Region.free_spec hi hf) (by simpa using hr) hy h
/-- only number j is ready, and it is a call -/
theorem anyS_call {j : Nat} {o : Oper} {fuel : Nat} {lst : Array Bool} {a : Act} {w : World} {f : FuncId} {args : Array Operand} {ats : Array TypeId} {vs : Array Value} {R : Cx → Value → World → Prop} (hC : Con P X f vs w R) (ho : ops[j]? = some o) (hs : Region.noSelect ops = true)
    (hr : Region.ready md ops lst = [j]) (hS : S lst w) (hw : Region.wanted o (yielded ops a.tmps) = true) (hop : o.op = .call { callee := .value (.func f), args, argTypes := ats }) (hv : args.map a.eval = vs)
    (h : ∀ X' v w', R X' v w' → X' = X ∧ AnyS P X ops md S Q fuel (lst.setIfInBounds j true) (a.put o.dst v) w') : AnyS P X ops md S Q (fuel + 1) lst a w := by
  refine ⟨hS, by rw [hr]; simp, fun k hk => ?_⟩
  rw [hr, List.mem_singleton] at hk
  subst hk
  exact .inl ⟨o, ho, fun cs b => Region.noSelect_spec hs _ o cs b ho, .inr (.inr ⟨hw, f, args, ats, vs, hop, hv, hC.mono h⟩)⟩
/-- only number j is ready, and it turns the world -/
theorem anyS_turn {j : Nat} {o : Oper} {fuel : Nat} {lst : Array Bool} {a : Act} {w w2 : World} {v : Value} (ho : ops[j]? = some o) (hs : Region.noSelect ops = true)
    (hr : Region.ready md ops lst = [j]) (hS : S lst w) (hw : Region.wanted o (yielded ops a.tmps) = true) (hy : Ydw P X o v a w w2) (h : AnyS P X ops md S Q fuel (lst.setIfInBounds j true) (a.put o.dst v) w2) : AnyS P X ops md S Q (fuel + 1) lst a w := by
  refine ⟨hS, by rw [hr]; simp, fun k hk => ?_⟩
  rw [hr, List.mem_singleton] at hk
  subst hk
  exact .inl ⟨o, ho, fun cs b => Region.noSelect_spec hs _ o cs b ho, .inr (.inl ⟨hw, v, w2, hy, h⟩)⟩
/-- only number j is ready, and it stores -/
theorem anyS_store {j : Nat} {o : Oper} {fuel : Nat} {lst : Array Bool} {a : Act} {w w2 : World} (ho : ops[j]? = some o) (hs : Region.noSelect ops = true)
    (hr : Region.ready md ops lst = [j]) (hS : S lst w) (hw : Region.wanted o (yielded ops a.tmps) = true) (hy : Yds P X o a w w2) (h : AnyS P X ops md S Q fuel (lst.setIfInBounds j true) (a.put o.dst undef) w2) : AnyS P X ops md S Q (fuel + 1) lst a w := by
  refine ⟨hS, by rw [hr]; simp, fun k hk => ?_⟩
  rw [hr, List.mem_singleton] at hk
  subst hk
  exact .inr ⟨o, ho, fun cs b => Region.noSelect_spec hs _ o cs b ho, hw, w2, hy, h⟩
theorem anyS_done {lst : Array Bool} {a : Act} {w : World} (hr : Region.ready md ops lst = []) (hS : S lst w) (h : Q a w) : AnyS P X ops md S Q 0 lst a w := ⟨hS, hr, h⟩
/-- true till number k is listed -/
def Til (k : Nat) (R : World → Prop) (lst : Array Bool) (w : World) : Prop := lst.getD k true = false → R w
theorem Til.mono {k : Nat} {R : World → Prop} {i' : Nat} (h : i' ≠ k) (lst : Array Bool) (w : World) (hs : Til k R (lst.setIfInBounds i' true) w) : Til k R lst w := fun hk => hs (by rw [getD_set_ne true h]; exact hk)
theorem Til.get {k i' : Nat} {R : World → Prop} {lst : Array Bool} {w : World} (hs : Til k R lst w) (hg : Gd ops md lst) (hk : k < ops.size) (hp : lst.getD i' true = false) (he : ((ops[k]?).map fun o => o.after.toList.any fun e => Region.binds md e && e.on == i') = some true) : R w := by
  refine hs ?_
  cases h : lst[k]? with
  | none => rw [Array.getElem?_eq_none_iff, hg.1] at h; omega
  | some b =>
    cases b with
    | false => rw [Array.getD_eq_getD_getElem?, h]; rfl
    | true =>
      exfalso
      cases ho : ops[k]? with
      | none => rw [ho] at he; cases he
      | some o =>
        rw [ho] at he
        simp only [Option.map_some, Option.some.injEq, List.any_eq_true, Bool.and_eq_true, beq_iff_eq] at he
        obtain ⟨e, h1, h2, rfl⟩ := he
        have := hg.2 k o ho h e (by simpa using h1) h2
        rw [Array.getD_eq_getD_getElem?, this] at hp
        cases hp
variable {b : Frame} {k : List Item} {cs : List Frame}
theorem anyS_sound (hk : b.kind ≠ .early) (hQ : ∀ a w, Q a w → Run P X (G (b.at a (.inRegion ops [] :: k)) cs) w) :
    ∀ (fuel t : Nat) (lst : Array Bool) (a : Act) (w : World), AnyS P X ops md S Q fuel lst a w → Run P X (G (b.at a (.inRegion ops (Region.linearise.go md ops fuel t lst []) :: k)) cs) w := by
  intro fuel
  induction fuel with
  | zero => intro t lst a w h; exact hQ a w h.2.2
  | succ fuel ih =>
    intro t lst a w h
    obtain ⟨hS, hne, h₁⟩ := h
    rw [Region.linearise.go]
    change Run P X (G (b.at a (.inRegion ops (match (Region.ready md ops lst)[t % (Region.ready md ops lst).length]? with
      | some i => Region.linearise.go md ops fuel (t / (Region.ready md ops lst).length) (lst.setIfInBounds i true) [i]
      | none => [].reverse) :: k)) cs) w
    cases hi : (Region.ready md ops lst)[t % (Region.ready md ops lst).length]? with
    | none =>
      have hlen : 0 < (Region.ready md ops lst).length := List.length_pos_iff.2 hne
      have hlt := Nat.mod_lt t hlen
      rw [List.getElem?_eq_none_iff] at hi
      omega
    | some j =>
      have hj := List.mem_of_getElem? hi
      simp only []
      rw [linearise_go_acc, List.reverse_singleton, List.singleton_append]
      rcases h₁ j hj with ⟨o, ho, _, h2⟩ | ⟨o, ho, _, hw, w2, hy, hA⟩
      · rcases h2 with ⟨v, hy, hA⟩ | ⟨hw, v, w2, hy, hA⟩ | ⟨hw, f, args, ats, vs, k1, k2, k3⟩
        · have hW := ih (t / (Region.ready md ops lst).length) _ _ _ hA
          rcases hy with ⟨hw, hv⟩ | ⟨hw, rfl⟩
          · refine Run.turn (fun w => w) rfl (fun w₁ h₁ => h₁) (fun w₁ h₁ => ?_) hW
            obtain ⟨d, rfl⟩ := h₁
            exact ⟨_, stepG_value ho hw hk (hv d).1, fun e he => (hv d).2 e (mem_listed he)⟩
          · exact Run.unwanted ho hw hW
        · refine Run.turn (fun w₁ => w2.at w₁.drawn) rfl (fun w₁ h₁ => ⟨w₁.drawn, rfl⟩) (fun w₁ h₁ => ?_) (Run.rely (ih (t / (Region.ready md ops lst).length) _ _ _ hA) ⟨_, rfl⟩)
          obtain ⟨d, rfl⟩ := h₁
          exact ⟨_, stepG_value ho hw hk (hy d).1, fun e he => (hy d).2 _ e he⟩
        · refine Run.con k3 ho hw hk k1 k2 (fun X' v w' h => ?_)
          obtain ⟨rfl, hA⟩ := h
          exact ih _ _ _ _ hA
      · refine Run.turn (fun w₁ => w2.at w₁.drawn) rfl (fun w₁ h₁ => ⟨w₁.drawn, rfl⟩) (fun w₁ h₁ => ?_) (Run.rely (ih (t / (Region.ready md ops lst).length) _ _ _ hA) ⟨_, rfl⟩)
        obtain ⟨d, rfl⟩ := h₁
        exact ⟨_, stepG_none ho hw hk (hy d).1, fun e he => (hy d).2 e (mem_listed he)⟩
/-- THE DRAW -/
theorem Run.drawS {id : Nat} {a : Act} {w : World} (hk : b.kind ≠ .early) (hm : P.follows .mixedOrders = true) (Q : Act → World → Prop) (S : Array Bool → World → Prop) (h : AnyS P X ops .any S Q ops.size (Array.replicate ops.size false) a w)
    (hQ : ∀ a w, Q a w → Run P X (G (b.at a (.inRegion ops [] :: k)) cs) w) : Run P X (G (b.at a (.code (.region id ops true) :: k)) cs) w :=
  Run.step rfl fun w₁ h₁ => by
    rw [stepG_region_draw]
    simp only [Region.schedule, hm, Bool.true_or, if_true]
    refine ⟨_, _, _, rfl, fun e he => by simp at he, Run.rely (anyS_sound hk hQ _ _ _ _ _ h) (atRel_trans _ _ _ h₁ ⟨_, rfl⟩)⟩
end
end Go.Proofs.Ytboiolnnhmlieaa.Gang
