
/-
  Goroutine 0 beside leavers: a region that draws its order, with calls by contract; what only reads may be taken first.
  Conditions: stated lemma by lemma.
-/
import Derived.Test.YtboiolnnhmlieaaGc2
import Derived.Conc.CompanyDraw
namespace Go.Proofs.Ytboiolnnhmlieaa.Gang
open Go.Conc Go.ConcN
set_option linter.unusedVariables false
set_option linter.unusedSimpArgs false

section
variable (P : Program) (X : Cx) (ops : Array Oper) (md : Region.Mode) (S : World → Prop) (Q : Act → World → Prop)
def Yd (o : Oper) (v : Value) (a : Act) (w : World) : Prop := ∀ d, (execOp a.eval o).run P (w.at d) = .ok (.value v) (w.at d) ∧ ∀ e ∈ (execOp a.eval o).events P (w.at d) #[], EvL X.Sh X.B e
def YdIf (o : Oper) (v : Value) (a : Act) (w : World) : Prop := (Region.wanted o (yielded ops a.tmps) = true ∧ Yd P X o v a w) ∨ (Region.wanted o (yielded ops a.tmps) = false ∧ v = undef)
/-- it turns the world -/
def Ydw (o : Oper) (v : Value) (a : Act) (w w2 : World) : Prop := ∀ d, (execOp a.eval o).run P (w.at d) = .ok (.value v) (w2.at d) ∧ ∀ fn, ∀ e ∈ listed P fn a o (w.at d), EvL X.Sh X.B e
def OpV (j : Nat) (K : Act → World → Prop) (a : Act) (w : World) : Prop := ∃ o, ops[j]? = some o ∧ (∀ cs b, o.op ≠ .select cs b) ∧
  ((∃ v, YdIf P X ops o v a w ∧ K (a.put o.dst v) w) ∨
   (Region.wanted o (yielded ops a.tmps) = true ∧ ∃ v w2, Ydw P X o v a w w2 ∧ K (a.put o.dst v) w2) ∨
   (Region.wanted o (yielded ops a.tmps) = true ∧ ∃ f args ats vs, o.op = .call { callee := .value (.func f), args, argTypes := ats } ∧ args.map a.eval = vs ∧ Con P X f vs w (fun X' v w' => X' = X ∧ K (a.put o.dst v) w')))
def AnyR : Nat → Array Bool → Act → World → Prop
  | 0, lst, a, w => S w ∧ Region.ready md ops lst = [] ∧ Q a w
  | f + 1, lst, a, w => S w ∧ Region.ready md ops lst ≠ [] ∧ ∀ j ∈ Region.ready md ops lst, OpV P X ops j (AnyR f (lst.setIfInBounds j true)) a w

variable {P X ops md S Q}
theorem YdIf.of_same {o : Oper} {v : Value} {a a' : Act} {w : World} (hy : YdIf P X ops o v a w) (he : execOp a'.eval o = execOp a.eval o)
    (hw : Region.wanted o (yielded ops a'.tmps) = Region.wanted o (yielded ops a.tmps)) : YdIf P X ops o v a' w := by
  unfold YdIf Yd at *
  rw [he, hw]
  exact hy
theorem OpV.mono {j : Nat} {K K' : Act → World → Prop} {a : Act} {w : World} (h : OpV P X ops j K a w) (hK : ∀ o v w', ops[j]? = some o → K (a.put o.dst v) w' → K' (a.put o.dst v) w') : OpV P X ops j K' a w := by
  obtain ⟨o, ho, hs, h⟩ := h
  refine ⟨o, ho, hs, ?_⟩
  rcases h with ⟨v, h1, h2⟩ | ⟨hw, v, w2, h1, h2⟩ | ⟨hw, f, args, ats, vs, h1, h2, h3⟩
  · exact .inl ⟨v, h1, hK o v w ho h2⟩
  · exact .inr (.inl ⟨hw, v, w2, h1, hK o v w2 ho h2⟩)
  · exact .inr (.inr ⟨hw, f, args, ats, vs, h1, h2, h3.mono fun X' v w' h => ⟨h.1, hK o v w' ho h.2⟩⟩)
theorem eval_args {a a' : Act} {args : Array Operand} {o : Oper} {f : FuncId} {ats : Array TypeId} (hop : o.op = .call { callee := .value (.func f), args, argTypes := ats }) {d : Option Tmp} {v : Value} (ha : a' = a.put d v) (hr : ∀ x ∈ args, a'.eval x = a.eval x) : args.map a'.eval = args.map a.eval := Array.map_congr_left (fun x hx => hr x hx)
theorem OpV_putIf {j : Nat} {oi oj : Oper} {v : Value} (hj : ops[j]? = some oj) (hap : oi.apart ops oj = true) (hargs : ∀ f args ats, oj.op = .call { callee := .value (.func f), args, argTypes := ats } → ∀ x ∈ args, ∀ d, oi.dst = some d → x ≠ .tmp d)
    {K : Act → World → Prop} {a : Act} {w : World} (h : OpV P X ops j K (a.put oi.dst v) w) : OpV P X ops j (fun a' w' => K (a'.put oi.dst v) w') a w := by
  obtain ⟨h1, h2, h3⟩ := Oper.apart_spec hap
  obtain ⟨o, ho, hs, h⟩ := h
  rw [hj] at ho
  obtain rfl := Option.some.inj ho
  refine ⟨oj, hj, hs, ?_⟩
  rcases h with ⟨u, hu, hK⟩ | ⟨hw, u, w2, hu, hK⟩ | ⟨hw, f, args, ats, vs, k1, k2, k3⟩
  · refine .inl ⟨u, hu.of_same (execOp_put oj hs a oi.dst v h1).symm (wanted_put oj a oi.dst v h1).symm, ?_⟩
    show K ((a.put oj.dst u).put oi.dst v) w
    rw [← Act.put_comm a v u h2]
    exact hK
  · refine .inr (.inl ⟨by rw [← wanted_put oj a oi.dst v h1]; exact hw, u, w2, ?_, ?_⟩)
    · unfold Ydw listed at *
      rw [← execOp_put oj hs a oi.dst v h1]
      exact hu
    · show K ((a.put oj.dst u).put oi.dst v) w2
      rw [← Act.put_comm a v u h2]
      exact hK
  · refine .inr (.inr ⟨by rw [← wanted_put oj a oi.dst v h1]; exact hw, f, args, ats, vs, k1, ?_, k3.mono fun X' u w' h => ⟨h.1, ?_⟩⟩)
    · rw [← k2]
      refine Array.map_congr_left fun x hx => ?_
      cases hd : oi.dst with
      | none => rfl
      | some d =>
        have hne := hargs f args ats k1 x hx d hd
        cases x with
        | tmp t =>
          have : t ≠ d := fun e => hne (by rw [e])
          simp only [Act.eval, Act.put]
          rw [Array.getD_eq_getD_getElem?, Array.getD_eq_getD_getElem?, Array.getElem?_setIfInBounds_ne (fun e => this e.symm)]
        | _ => rfl
    · show K ((a.put oj.dst u).put oi.dst v) w'
      rw [← Act.put_comm a v u h2]
      exact h.2
theorem AnyR.holds : ∀ {f : Nat} {lst : Array Bool} {a : Act} {w : World}, AnyR P X ops md S Q f lst a w → S w
  | 0, _, _, _, h => h.1
  | _ + 1, _, _, _, h => h.1
theorem anyR_first {i' : Nat} {oi : Oper} {v : Value} (hi : ops[i']? = some oi) (hsel : ∀ (j : Nat) (o : Oper) cs b, ops[j]? = some o → o.op ≠ .select cs b)
    (hargs : ∀ (j : Nat) oj f args ats, ops[j]? = some oj → oi.apart ops oj = true → oj.op = .call { callee := .value (.func f), args, argTypes := ats } → ∀ x ∈ args, ∀ d, oi.dst = some d → x ≠ .tmp d) :
    ∀ (fuel : Nat) (lst : Array Bool) (a : Act) (w : World),
      (∀ j oj, ops[j]? = some oj → j ≠ i' → lst.getD j true = false → (∀ e ∈ oj.after, Region.binds md e = true → e.on ≠ i') → oi.apart ops oj = true) →
      i' ∈ Region.ready md ops lst → (∀ w', S w' → YdIf P X ops oi v a w') → AnyR P X ops md S Q fuel (lst.setIfInBounds i' true) (a.put oi.dst v) w → AnyR P X ops md S Q (fuel + 1) lst a w := by
  intro fuel
  induction fuel with
  | zero =>
    intro lst a w _ hr hy H
    refine ⟨H.1, (fun e => by rw [e] at hr; cases hr), fun j hj => ?_⟩
    by_cases hji : j = i'
    · subst hji; exact ⟨oi, hi, fun cs b => hsel j oi cs b hi, .inl ⟨v, hy w H.1, H⟩⟩
    · have := ready_mono hj hji
      rw [H.2.1] at this; cases this
  | succ fuel ih =>
    intro lst a w hfree hr hy H
    refine ⟨H.1, (fun e => by rw [e] at hr; cases hr), fun j hj => ?_⟩
    by_cases hji : j = i'
    · subst hji; exact ⟨oi, hi, fun cs b => hsel j oi cs b hi, .inl ⟨v, hy w H.1, H⟩⟩
    · have h1 := H.2.2 j (ready_mono hj hji)
      obtain ⟨hjun, oj, hoj, hall⟩ := mem_ready.1 hj
      have hnot : ∀ e ∈ oj.after, Region.binds md e = true → e.on ≠ i' := fun e he hb heq => by
        have h1 := hall e he hb
        have h0 := (mem_ready.1 hr).1
        rw [heq] at h1
        rcases Nat.lt_or_ge i' lst.size with h' | h'
        · simp [h'] at h0 h1; rw [h0] at h1; cases h1
        · simp [Array.getElem?_eq_none h'] at h1
      have hap := hfree j oj hoj hji hjun hnot
      obtain ⟨_, _, hap3⟩ := Oper.apart_spec hap
      have h2 := OpV_putIf hoj hap (fun f args ats hop => hargs j oj f args ats hoj hap hop) h1
      refine h2.mono fun o u w' ho hK => ?_
      rw [hoj] at ho
      obtain rfl := Option.some.inj ho
      have hfree' : ∀ k ok, ops[k]? = some ok → k ≠ i' → (lst.setIfInBounds j true).getD k true = false →
          (∀ e ∈ ok.after, Region.binds md e = true → e.on ≠ i') → oi.apart ops ok = true := fun k ok hk hki hun hno => by
        refine hfree k ok hk hki ?_ hno
        by_cases hjk : j = k
        · subst hjk; exact hjun
        · rw [getD_set_ne true hjk] at hun; exact hun
      refine ih (lst.setIfInBounds j true) _ w' hfree' (ready_mono hr (Ne.symm hji)) (fun w2 hs => (hy w2 hs).of_same (execOp_put oi (fun cs b => hsel i' oi cs b hi) a oj.dst u hap3) (wanted_put oi a oj.dst u hap3)) ?_
      rw [Array.setIfInBounds_comm _ _ hji]
      exact hK
/-- no operand of a call is written by what lies apart from it -/
def argsFree (ops : Array Oper) (i' : Nat) : Bool :=
  match ops[i']? with
  | some oi => ops.all fun oj => !oi.apart ops oj || match oj.op, oi.dst with
    | .call { callee := .value (.func _), args, .. }, some d => args.all fun x => match x with | .tmp t => t != d | _ => true
    | _, _ => true
  | none => true
theorem argsFree_spec {i' : Nat} {oi : Oper} (hi : ops[i']? = some oi) (h : argsFree ops i' = true) : ∀ (j : Nat) oj f args ats, ops[j]? = some oj → oi.apart ops oj = true → oj.op = .call { callee := .value (.func f), args, argTypes := ats } → ∀ x ∈ args, ∀ d, oi.dst = some d → x ≠ .tmp d := by
  intro j oj f args ats hj hap hop x hx d hd e
  subst e
  unfold argsFree at h
  simp only [hi, Array.all_eq_true_iff_forall_mem] at h
  have h1 := h oj (Array.mem_of_getElem? hj)
  simp only [hap, hop, hd, Bool.not_true, Bool.false_or, Array.all_eq_true_iff_forall_mem] at h1
  have := h1 _ hx
  simp at this
/-- take number i' first: it only reads -/
theorem anyR_take {i' : Nat} {oi : Oper} {v : Value} {fuel : Nat} {lst : Array Bool} {a : Act} {w : World} (hi : ops[i']? = some oi)
    (hs : Region.noSelect ops = true) (hf : Region.free md ops lst i' = true) (hr : (Region.ready md ops lst).contains i' = true) (hg : argsFree ops i' = true)
    (hy : ∀ w', S w' → YdIf P X ops oi v a w') (h : AnyR P X ops md S Q fuel (lst.setIfInBounds i' true) (a.put oi.dst v) w) : AnyR P X ops md S Q (fuel + 1) lst a w :=
  anyR_first hi (Region.noSelect_spec hs) (argsFree_spec hi hg) fuel lst a w (Region.free_spec hi hf) (by simpa using hr) hy h
/-- only number j is ready, and it is a call -/
theorem anyR_call {j : Nat} {o : Oper} {fuel : Nat} {lst : Array Bool} {a : Act} {w : World} {f : FuncId} {args : Array Operand} {ats : Array TypeId} {vs : Array Value} {R : Cx → Value → World → Prop} (hC : Con P X f vs w R) (ho : ops[j]? = some o) (hs : Region.noSelect ops = true)
    (hr : Region.ready md ops lst = [j]) (hS : S w) (hw : Region.wanted o (yielded ops a.tmps) = true) (hop : o.op = .call { callee := .value (.func f), args, argTypes := ats }) (hv : args.map a.eval = vs)
    (h : ∀ X' v w', R X' v w' → X' = X ∧ AnyR P X ops md S Q fuel (lst.setIfInBounds j true) (a.put o.dst v) w') : AnyR P X ops md S Q (fuel + 1) lst a w := by
  refine ⟨hS, by rw [hr]; simp, fun k hk => ?_⟩
  rw [hr, List.mem_singleton] at hk
  subst hk
  exact ⟨o, ho, fun cs b => Region.noSelect_spec hs _ o cs b ho, .inr (.inr ⟨hw, f, args, ats, vs, hop, hv, hC.mono h⟩)⟩
/-- only number j is ready, and it turns the world -/
theorem anyR_turn {j : Nat} {o : Oper} {fuel : Nat} {lst : Array Bool} {a : Act} {w w2 : World} {v : Value} (ho : ops[j]? = some o) (hs : Region.noSelect ops = true)
    (hr : Region.ready md ops lst = [j]) (hS : S w) (hw : Region.wanted o (yielded ops a.tmps) = true) (hy : Ydw P X o v a w w2) (h : AnyR P X ops md S Q fuel (lst.setIfInBounds j true) (a.put o.dst v) w2) : AnyR P X ops md S Q (fuel + 1) lst a w := by
  refine ⟨hS, by rw [hr]; simp, fun k hk => ?_⟩
  rw [hr, List.mem_singleton] at hk
  subst hk
  exact ⟨o, ho, fun cs b => Region.noSelect_spec hs _ o cs b ho, .inr (.inl ⟨hw, v, w2, hy, h⟩)⟩
theorem ydw_of {o : Oper} {v : Value} {a : Act} {w w2 : World} {es : Array Event} (hn : 0 < ops.size) {n : Nat} (ho : ops[n]? = some o) (hw : Region.wanted o (yielded ops a.tmps) = true)
    (hr : ∀ d, (execOp a.eval o).run P (w.at d) = .ok (.value v) (w2.at d)) (h : ∀ (b : Frame) (k : List Item) (cs : List Frame) (d : Nat), b.kind ≠ .early → stepG P true (G (b.at a (.inRegion ops [n] :: k)) cs) (w.at d) = .go (G (b.at (a.put o.dst v) (.inRegion ops [] :: k)) cs) (w2.at d) es) (he : ∀ e ∈ es, EvL X.Sh X.B e) : Ydw P X o v a w w2 := fun d => ⟨hr d, fun fn e hm => by
  have h1 := h (base fn) [] [] d (by simp [base])
  rw [stepG_value ho hw (by simp [base]) (hr d)] at h1
  injection h1 with _ _ h2
  exact he e (h2 ▸ hm)⟩
theorem ydw_store {o : Oper} {a : Act} {w : World} {f : FuncId} {fn : Func} {ats : Array TypeId} {x y : Operand} {n : Nat} (ho : ops[n]? = some o) (hw : Region.wanted o (yielded ops a.tmps) = true) (hop : o.op = .call { callee := .value (.func f), args := #[x, y], argTypes := ats })
    (hf : P.funcs[f]? = some fn) (hname : (fn.name == "runtime.NumGoroutine") = false) (hb : fn.body.isNone = true) (hn : Extern.findNext fn = none)
    (he : Extern.find fn = some Extern.Atomic.storeT) {ad : Addr} {kd : IntKind} {m : Int} (hx : a.eval x = .pointer (some ad)) (hy : a.eval y = .int kd m) {v0 : Value} (hc : w.cell? ad = some v0) (hz : w.frozen? ad = false) (hB : ad.block < X.B) :
    Ydw P X o (.tuple #[]) a w (w.setCell ad (.int kd m)) := by
  have e1 := execOp_call_func (a := a) hop
  refine ydw_of (by have := (Array.getElem?_eq_some_iff.1 ho).1; omega) ho hw (fun d => ?_) (fun b k cs d hk => stepG_store_atomic (w := w.at d) ho hw hk hop hf hname hb hn he hx hy hc hz) (evL_at1 hB)
  have hm : (#[x, y] : Array Operand).map a.eval = #[.pointer (some ad), .int kd m] := by simp [hx, hy]
  rw [e1, hm]
  exact run_call_store (w := w.at d) hf hname hb hn he hc hz
theorem anyR_store {j : Nat} {o : Oper} {fuel : Nat} {lst : Array Bool} {a : Act} {w : World} {f : FuncId} {fn : Func} {ats : Array TypeId} {x y : Operand} (ho : ops[j]? = some o) (hs : Region.noSelect ops = true)
    (hr : Region.ready md ops lst = [j]) (hS : S w) (hw : Region.wanted o (yielded ops a.tmps) = true) (hop : o.op = .call { callee := .value (.func f), args := #[x, y], argTypes := ats })
    (hf : P.funcs[f]? = some fn) (hname : (fn.name == "runtime.NumGoroutine") = false) (hb : fn.body.isNone = true) (hn : Extern.findNext fn = none)
    (he : Extern.find fn = some Extern.Atomic.storeT) {ad : Addr} {kd : IntKind} {m : Int} (hx : a.eval x = .pointer (some ad)) (hy : a.eval y = .int kd m) {v0 : Value} (hc : w.cell? ad = some v0) (hz : w.frozen? ad = false) (hB : ad.block < X.B)
    (h : AnyR P X ops md S Q fuel (lst.setIfInBounds j true) (a.put o.dst (.tuple #[])) (w.setCell ad (.int kd m))) : AnyR P X ops md S Q (fuel + 1) lst a w :=
  anyR_turn ho hs hr hS hw (ydw_store ho hw hop hf hname hb hn he hx hy hc hz hB) h
theorem anyR_done {lst : Array Bool} {a : Act} {w : World} (hr : Region.ready md ops lst = []) (hS : S w) (h : Q a w) : AnyR P X ops md S Q 0 lst a w := ⟨hS, hr, h⟩

variable {b : Frame} {k : List Item} {cs : List Frame}
theorem anyR_sound (hk : b.kind ≠ .early) (hQ : ∀ a w, Q a w → Run P X (G (b.at a (.inRegion ops [] :: k)) cs) w) :
    ∀ (fuel t : Nat) (lst : Array Bool) (a : Act) (w : World), AnyR P X ops md S Q fuel lst a w → Run P X (G (b.at a (.inRegion ops (Region.linearise.go md ops fuel t lst []) :: k)) cs) w := by
  intro fuel
  induction fuel with
  | zero => intro t lst a w h; exact hQ a w h.2.2
  | succ fuel ih =>
    intro t lst a w h
    obtain ⟨hS, hne, h₁⟩ := h
    rw [Region.linearise.go]
    change Run P X (G (b.at a (.inRegion ops (match (Region.ready md ops lst)[t % (Region.ready md ops lst).length]? with
      | some i => Region.linearise.go md ops fuel (t / (Region.ready md ops lst).length) (lst.setIfInBounds i true) [i]
      | none => [].reverse) :: k)) cs) w
    cases hi : (Region.ready md ops lst)[t % (Region.ready md ops lst).length]? with
    | none =>
      have hlen : 0 < (Region.ready md ops lst).length := List.length_pos_iff.2 hne
      have hlt := Nat.mod_lt t hlen
      rw [List.getElem?_eq_none_iff] at hi
      omega
    | some j =>
      have hj := List.mem_of_getElem? hi
      obtain ⟨o, ho, _, h2⟩ := h₁ j hj
      simp only []
      rw [linearise_go_acc, List.reverse_singleton, List.singleton_append]
      rcases h2 with ⟨v, hy, hA⟩ | ⟨hw, v, w2, hy, hA⟩ | ⟨hw, f, args, ats, vs, k1, k2, k3⟩
      · have hW := ih (t / (Region.ready md ops lst).length) _ _ _ hA
        rcases hy with ⟨hw, hv⟩ | ⟨hw, rfl⟩
        · refine Run.turn (fun w => w) rfl (fun w₁ h₁ => h₁) (fun w₁ h₁ => ?_) hW
          obtain ⟨d, rfl⟩ := h₁
          exact ⟨_, stepG_value ho hw hk (hv d).1, fun e he => (hv d).2 e (mem_listed he)⟩
        · exact Run.unwanted ho hw hW
      · refine Run.turn (fun w₁ => w2.at w₁.drawn) rfl (fun w₁ h₁ => ⟨w₁.drawn, rfl⟩) (fun w₁ h₁ => ?_) (Run.rely (ih (t / (Region.ready md ops lst).length) _ _ _ hA) ⟨_, rfl⟩)
        obtain ⟨d, rfl⟩ := h₁
        exact ⟨_, stepG_value ho hw hk (hy d).1, fun e he => (hy d).2 _ e he⟩
      · refine Run.con k3 ho hw hk k1 k2 (fun X' v w' h => ?_)
        obtain ⟨rfl, hA⟩ := h
        exact ih _ _ _ _ hA
/-- THE DRAW -/
theorem Run.draw {id : Nat} {a : Act} {w : World} (hk : b.kind ≠ .early) (hm : P.follows .mixedOrders = true) (Q : Act → World → Prop) (S : World → Prop) (h : AnyR P X ops .any S Q ops.size (Array.replicate ops.size false) a w)
    (hQ : ∀ a w, Q a w → Run P X (G (b.at a (.inRegion ops [] :: k)) cs) w) : Run P X (G (b.at a (.code (.region id ops true) :: k)) cs) w :=
  Run.step rfl fun w₁ h₁ => by
    rw [stepG_region_draw]
    simp only [Region.schedule, hm, Bool.true_or, if_true]
    refine ⟨_, _, _, rfl, fun e he => by simp at he, Run.rely (anyR_sound hk hQ _ _ _ _ _ h) (atRel_trans _ _ _ h₁ ⟨_, rfl⟩)⟩
end
end Go.Proofs.Ytboiolnnhmlieaa.Gang
