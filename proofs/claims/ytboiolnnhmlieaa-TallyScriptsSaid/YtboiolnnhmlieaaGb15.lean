
/-
  A worker of Draw: its ticket, its store, its drawn region.
  Conditions: stated lemma by lemma.
-/
import Derived.Test.YtboiolnnhmlieaaGb13
import Derived.Test.YtboiolnnhmlieaaGb14
import Derived.Test.YtboiolnnhmlieaaGb10
import Derived.Test.YtboiolnnhmlieaaGc3
namespace Go.Proofs.Ytboiolnnhmlieaa.Gang
open Go.Conc Go.ConcN Go.RowKit Go.Conc.Lib Go.ConcR.Gen Go.ConcN.Gen
open Go.ConcR (wgBlock WgAt stA smA rd wr KK)
set_option linter.unusedVariables false
set_option linter.unusedSimpArgs false

theorem nm35 : (Try.f35.name == "runtime.NumGoroutine") = false := by kernel_rfl
/-- the cells of an array of numbers -/
def ArrAt (A N : Nat) (f : Nat → Int) (w : World) : Prop := w.heap[A]? = some (.cells (Array.ofFn (n := N) fun k => Value.int .i64 (f k)) 2)
section
variable {A N : Nat} {f : Nat → Int} {w : World}
theorem ArrAt.cell (h : ArrAt A N f w) {k : Nat} (hk : k < N) : w.cell? ⟨A, k, none⟩ = some (.int .i64 (f k)) := by
  unfold ArrAt at h
  simp [World.cell?, h, hk]
theorem ArrAt.thaw (h : ArrAt A N f w) (k : Nat) : w.frozen? ⟨A, k, none⟩ = false := by
  unfold ArrAt at h
  simp [World.frozen?, h]
theorem ArrAt.set (h : ArrAt A N f w) {k : Nat} (hk : k < N) (v : Int) : ArrAt A N (upd f k v) (w.setCell ⟨A, k, none⟩ (.int .i64 v)) := by
  unfold ArrAt at h ⊢
  rw [setCell_eq_setRow w A k _ 2 (0, 0) _ h, setRow_heap w A _ _ 2 _ h]
  congr 2
  apply Array.ext_getElem?
  intro i
  rw [Array.getElem?_setIfInBounds]
  by_cases e : k = i
  · subst e
    simp [hk, upd]
  · rw [if_neg e]
    have e' : ¬ i = k := fun h => e h.symm
    simp [Array.getElem?_ofFn, upd, e']
end
/-- a job whose workers take tickets of the tally in block T and lay them into block A -/
structure Draws (J : Job Try.prog Dx Dl) (T A n each : Nat) (tl : Tl) : Prop where
  B : J.B = drawBody n each tl.tick
  shb : J.Shb T
  shbA : J.Shb A
  wg : T ≠ J.Wg
  wgA : A ≠ J.Wg
  ta : T ≠ A
  bd : T < J.Bd
  bdA : A < J.Bd
  sx : J.L.Sx (.cell ⟨T, 9, none⟩)
  own : ∀ i j, 1 ≤ i → j < each → J.L.Own i (.cell ⟨A, (i - 1) * each + j, none⟩)
  cx : ∀ x w, J.cx x w ↔ TlAt T { tl with tick := x.tick } w ∧ ArrAt A (n * each) x.arr w
/-- what a worker has of memory -/
structure DKid (J : Job Try.prog Dx Dl) (T A i be bt ba bw : Nat) (sl : Option Addr) (cap n each w0 : Nat) (w : World) : Prop where
  still : ∀ b, b = be ∨ b = bt ∨ b = ba ∨ b = bw → J.Still i b ∧ b < J.Bd ∧ ∀ o, J.L.Rd i (.cell ⟨b, o, none⟩) ∧ ¬ J.L.Sh (.cell ⟨b, o, none⟩)
  ev : w.cell? ⟨be, 0, none⟩ = some (.int .i64 (each : Int))
  tv : w.cell? ⟨bt, 0, none⟩ = some (.pointer (some ⟨T, 0, none⟩))
  av : w.cell? ⟨ba, 0, none⟩ = some (.slice sl (n * each) cap)
  wv : w.cell? ⟨bw, 0, none⟩ = some (.int .i64 (w0 : Int))
  lent : 0 < each → sl = some ⟨A, 0, none⟩
section
variable {J : Job Try.prog Dx Dl} {T A i be bt ba bw : Nat} {sl : Option Addr} {cap n each w0 : Nat} {tl : Tl} {w w₁ : World}
theorem DKid.rely (h : DKid J T A i be bt ba bw sl cap n each w0 w) (r : J.rely i w w₁) : DKid J T A i be bt ba bw sl cap n each w0 w₁ :=
  ⟨h.still, (cell_rely r (h.still be (by simp)).1).trans h.ev, (cell_rely r (h.still bt (by simp)).1).trans h.tv, (cell_rely r (h.still ba (by simp)).1).trans h.av, (cell_rely r (h.still bw (by simp)).1).trans h.wv, h.lent⟩
theorem DKid.says (h : DKid J T A i be bt ba bw sl cap n each w0 w) {p : Pos Dl} (h1 : 1 ≤ i) (hp : past p = false) {b : Nat} (hb : b = be ∨ b = bt ∨ b = ba ∨ b = bw) (o : Nat) : J.Says i p ⟨.cell ⟨b, o, none⟩, false, false⟩ :=
  says_read (s := false) h1 hp ((h.still b hb).2.2 o).1 ((h.still b hb).2.2 o).2 (h.still b hb).2.1
theorem d_enter_quit {t0 : Int} (l : Dl) : ((drawBody n each t0).enter l).quit = false := by unfold Body.enter; split <;> rfl
theorem d_enter_past {t0 : Int} (l : Dl) : past ((drawBody n each t0).enter l) = false := by unfold Body.enter; split <;> rfl
/-- a worker's access of a cell of its own -/
theorem ev_own {X Lam : Type} {P : Program} {J : Job P X Lam} {ad : Addr} {x : Bool} (h1 : 1 ≤ i) (ho : J.L.Own i (.cell ad)) (hb : ad.block < J.Bd) : EvK J.L J.c J.Bd i ⟨.cell ad, x, false⟩ := by
  refine ⟨fun fn pos => ⟨rfl, fun y hy => ?_⟩, by simp, by simp, by simp, hb, fun y hy hk => ?_⟩
  · simp only [MemAct.ofEvent, MemAct.touch?, Option.some.injEq] at hy
    subst hy
    exact .inr (.inr (.inl ⟨i, h1, rfl, ho⟩))
  · simp only [MemAct.ofEvent, MemAct.touch?, Option.some.injEq] at hy
    subst hy
    simp at hk
set_option maxRecDepth 100000 in
set_option maxHeartbeats 4000000 in
/-- THE TICKET -/
theorem tick_conW (F : Draws J T A n each tl) (hi : (i == 0) = false) {j : Nat} : ConW J i (.body (.tick w0 j)) 34 #[.pointer (some ⟨T, 9, none⟩), .int .i64 1] w (fun p' v => ∃ u : Int, p' = .body (.put w0 j u) ∧ v = .int .i64 u) := by
  have q0 : (Pos.body (.tick w0 j) : Pos Dl).quit = false := rfl
  refine ⟨Try.f34, _, Try.func34, nm34, rfl, fun b₀ a₀ ops₀ n₀ rest₀ k₀ cs hK => ?_⟩
  walk_nrmf Try.f34
  repeat first
    | refine W.seq q0 ?_
    | refine W.skip q0 ?_
    | refine W.regionEnd q0 ?_
    | refine W.block q0 ?_
    | refine W.inBlock q0 ?_
    | refine W.exit q0 rfl ?_
    | (refine W.region q0 ?_; simp only [List.size_toArray, List.length_cons, List.length_nil, Nat.reduceAdd, Nat.zero_add, List.range, List.range.loop])
    | (refine W.cond q0 rfl ?_; simp only [if_true, if_false, Bool.false_eq_true, ↓reduceIte])
    | (refine W.unwanted q0 rfl rfl ?_; walk_nrm)
    | (refine W.opk q0 rfl rfl (by k_ne) (fun w₁ h₁ K hK => by go_simp; exact hK) (fun w₁ h₁ => by first | (simp [go_sem, *] <;> fail) | fail) ?_; try w_num)
    | refine W.ret q0 ?_
    | refine W.fin q0 ?_
  refine W.body (T := T) hi F.shb F.wg rfl rfl (fun w₁ h₁ x hx hc => ?_)
  obtain ⟨hc', hca⟩ := (F.cx x w₁).1 hc
  have e : (drawBody n each tl.tick).stp (.tick w0 j) x = (⟨w64 (x.tick + 1), x.arr⟩, .put w0 j (w64 (x.tick + 1))) := rfl
  refine ⟨_, _, _, stepG_add_atomic rfl rfl (by k_ne) rfl Try.func60 nm60 bd60 nx60 .i64 ex60 rfl rfl hc'.cellTick (TalAt.thaw hc' 9), ?_, aside_setCell w₁ ⟨T, 9, none⟩ _, ?_, ?_⟩
  · rw [F.B, e, wrap_w64]
    exact (F.cx _ _).2 ⟨hc'.setTick _, by
      unfold ArrAt
      rw [Below.heap_setCell _ _ _ _ (fun e => F.ta e.symm)]
      exact hca⟩
  · intro e' he
    simp only [List.mem_toArray, List.mem_cons, List.not_mem_nil, or_false] at he
    rcases he with rfl | rfl <;> exact ev_shared F.sx F.bd
  · rw [F.B, e]
    show J.W i (.body (.put w0 j (w64 (x.tick + 1)))) _ w
    have hK := hK _ _ ⟨w64 (x.tick + 1), rfl, rfl⟩
    rw [wrap_w64]
    generalize w64 (x.tick + 1) = u at hK ⊢
    clear e hx hc hc' hca h₁
    have q1 : (Pos.body (.put w0 j u) : Pos Dl).quit = false := rfl
    walk_nrm
    repeat first
      | refine W.seq q1 ?_
      | refine W.skip q1 ?_
      | refine W.regionEnd q1 ?_
      | refine W.block q1 ?_
      | refine W.inBlock q1 ?_
      | refine W.exit q1 rfl ?_
      | (refine W.region q1 ?_; simp only [List.size_toArray, List.length_cons, List.length_nil, Nat.reduceAdd, Nat.zero_add, List.range, List.range.loop])
      | (refine W.cond q1 rfl ?_; simp only [if_true, if_false, Bool.false_eq_true, ↓reduceIte])
      | (refine W.unwanted q1 rfl rfl ?_; walk_nrm)
      | (refine W.opk q1 rfl rfl (by k_ne) (fun w₁ h₁ K hK => by go_simp; exact hK) (fun w₁ h₁ => by first | (simp [go_sem, *] <;> fail) | fail) ?_; try w_num)
      | refine W.ret q1 ?_
      | refine W.fin q1 ?_
    refine W.leave1 q1 rfl rfl Try.func34 rfl ?_
    exact hK
end
noncomputable def b35 : Code := Try.f35.body.getD .skip
noncomputable def ops35 : Array Oper := match b35 with | .seq _ (.seq _ (.block _ (.loop (.seq _ (.seq _ (.seq (.block _ (.seq _ (.region _ o _))) _)))))) => o | _ => #[]
theorem ops35_size : ops35.size = 12 := by kernel_rfl
theorem ops35_ready : Region.ready .any ops35 stopA = [11] := by kernel_rfl
theorem ops35_done : Region.ready .any ops35 (stopA.setIfInBounds 11 true) = [] := by kernel_rfl
theorem ops35_noSelect : Region.noSelect ops35 = true := by kernel_rfl
theorem ops35_stop : ∀ lst, (lst == stopA) = true → ∀ j ∈ Region.ready .any ops35 lst, j = 11 := by
  intro lst h j hj
  obtain rfl := eq_of_beq h
  rw [ops35_ready] at hj
  simpa using hj
theorem ops35_end : ∀ f t lst, (lst == stopA) = true → Region.linearise.go .any ops35 (f + 1) t lst [] = [11] := by
  intro f t lst h
  obtain rfl := eq_of_beq h
  obtain ⟨t', e⟩ := go_one ops35_ready f t
  rw [e, go_nil ops35_done]
theorem ops35_last : ∀ lst, lst.size = ops35.size → Clo .any ops35 lst → 11 ∈ Region.ready .any ops35 lst → (lst == stopA) = true := by
  intro lst hs hc hr
  rw [ops35_size] at hs
  have hu := (mem_ready.1 hr).1
  have n11 : need ops35 11 = [10, 9, 9, 0, 1, 2, 3, 4, 5, 6, 7, 8, 9] := by kernel_rfl
  have h11 := ready_need hr
  rw [n11] at h11
  have h0 := h11 0 (by simp)
  have h1 := h11 1 (by simp)
  have h2 := h11 2 (by simp)
  have h3 := h11 3 (by simp)
  have h4 := h11 4 (by simp)
  have h5 := h11 5 (by simp)
  have h6 := h11 6 (by simp)
  have h7 := h11 7 (by simp)
  have h8 := h11 8 (by simp)
  have h9 := h11 9 (by simp)
  have h10 := h11 10 (by simp)
  have e : lst = stopA := by
    apply Array.ext
    · rw [hs]; rfl
    · intro i hi hi'
      rw [hs] at hi
      have g : ∀ x, lst[i]? = some x → lst[i] = x := fun x hx => (Array.getElem?_eq_some_iff.1 hx).2
      have hu' : lst[11]? = some false := by
        cases h' : lst[11]? with
        | none => rw [Array.getElem?_eq_none_iff] at h'; omega
        | some b => simp_all
      have : i = 0 ∨ i = 1 ∨ i = 2 ∨ i = 3 ∨ i = 4 ∨ i = 5 ∨ i = 6 ∨ i = 7 ∨ i = 8 ∨ i = 9 ∨ i = 10 ∨ i = 11 := by omega
      rcases this with rfl | rfl | rfl | rfl | rfl | rfl | rfl | rfl | rfl | rfl | rfl | rfl
      · exact g _ h0
      · exact g _ h1
      · exact g _ h2
      · exact g _ h3
      · exact g _ h4
      · exact g _ h5
      · exact g _ h6
      · exact g _ h7
      · exact g _ h8
      · exact g _ h9
      · exact g _ h10
      · exact g _ hu'
  rw [e]; rfl
end Go.Proofs.Ytboiolnnhmlieaa.Gang
