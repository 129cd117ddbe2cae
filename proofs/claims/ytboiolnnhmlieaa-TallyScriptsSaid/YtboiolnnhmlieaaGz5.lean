
/-
  Goroutine 0 beside leavers: append of steps to a list of its own. Goroutine 0 beside leavers: append of numbers to a list of its own. Goroutine 0 beside leavers: the reference, Draw.
  Conditions: stated lemma by lemma.
-/
import Derived.Test.YtboiolnnhmlieaaGz1
import Derived.Conc.AppendWalk
import Derived.Deep.DeepAppendWide
import Derived.Test.YtboiolnnhmlieaaGz3
import Derived.Lib.Hide
import Derived.Great.BuildSlice
namespace Go.Proofs.Ytboiolnnhmlieaa.Gang
open Go.Conc Go.ConcN Go.RowKit Go.Conc.Lib Go.ConcR.Gen Go.ConcN.Gen
set_option linter.unusedVariables false
set_option linter.unusedSimpArgs false
section
variable {P : Program} {X : Cx} {b : Frame} {a : Act} {k : List Item} {cs : List Frame} {w : World} {ops : Array Oper} {n : Nat} {rest : List Nat} {o : Oper}
theorem Run.opE {R : Value → World → Prop} (ho : ops[n]? = some o) (hw : Region.wanted o (yielded ops a.tmps) = true) (hk : b.kind ≠ .early)
    (h : ∀ d, ∃ v w', (execOp a.eval o).run P (w.at d) = .ok (.value v) w' ∧ R v w' ∧ ∀ e ∈ (execOp a.eval o).events P (w.at d) #[], EvL X.Sh X.B e)
    (hW : ∀ v w', R v w' → Run P X (G (b.at (a.put o.dst v) (.inRegion ops rest :: k)) cs) w') : Run P X (G (b.at a (.inRegion ops (n :: rest) :: k)) cs) w :=
  Run.step rfl fun w₁ h₁ => by
    obtain ⟨d, rfl⟩ := h₁
    obtain ⟨v, w', h2, h3, h4⟩ := h d
    exact ⟨_, w', _, stepG_value ho hw hk h2, fun e he => h4 e (mem_listed he), hW v w' h3⟩
end
/-- the cells of a list of steps -/
def flat2 (xs : List (Int × Int)) : List Value := xs.flatMap fun x => [.int .i64 x.1, .int .i64 x.2]
theorem flat2_cons (x : Int × Int) (xs : List (Int × Int)) : flat2 (x :: xs) = .int .i64 x.1 :: .int .i64 x.2 :: flat2 xs := by simp [flat2]
theorem flat2_len (xs : List (Int × Int)) : (flat2 xs).length = xs.length * 2 := by
  induction xs with
  | nil => rfl
  | cons x xs ih => rw [flat2_cons, List.length_cons, List.length_cons, ih, List.length_cons]; omega
theorem flat2_app (a b : List (Int × Int)) : flat2 (a ++ b) = flat2 a ++ flat2 b := by simp [flat2]
theorem flat2_one (xs : List (Int × Int)) : ∀ u ∈ flat2 xs, u.oneCell' = true := fun u hu => by
  obtain ⟨x, _, hx⟩ := List.mem_flatMap.1 hu
  simp only [List.mem_cons, List.not_mem_nil, or_false] at hx
  rcases hx with rfl | rfl <;> rfl
theorem flat2_get : ∀ (xs : List (Int × Int)) (j : Nat) (h : j < xs.length), (flat2 xs)[j * 2]? = some (.int .i64 (xs[j]).1) ∧ (flat2 xs)[j * 2 + 1]? = some (.int .i64 (xs[j]).2)
  | x :: xs, 0, h => by rw [flat2_cons]; exact ⟨rfl, rfl⟩
  | x :: xs, j + 1, h => by
    have := flat2_get xs j (by simpa using h)
    rw [flat2_cons, show (j + 1) * 2 = j * 2 + 1 + 1 by omega]
    simpa using this
theorem flat2_split (xs : List (Int × Int)) (j : Nat) (u : Value) (h : (flat2 xs)[j]? = some u) : ∃ i, ∃ hi : i < xs.length, (j = i * 2 ∧ u = .int .i64 (xs[i]).1) ∨ (j = i * 2 + 1 ∧ u = .int .i64 (xs[i]).2) := by
  have hj : j < xs.length * 2 := by rw [← flat2_len]; exact (List.getElem?_eq_some_iff.1 h).1
  have hi : j / 2 < xs.length := by omega
  obtain ⟨h1, h2⟩ := flat2_get xs (j / 2) hi
  refine ⟨j / 2, hi, ?_⟩
  rcases Nat.mod_two_eq_zero_or_one j with hm | hm
  · have e : j = j / 2 * 2 := by omega
    rw [e] at h
    rw [h1] at h
    exact .inl ⟨e, (Option.some.inj h).symm⟩
  · have e : j = j / 2 * 2 + 1 := by omega
    rw [e] at h
    rw [h2] at h
    exact .inr ⟨e, (Option.some.inj h).symm⟩
theorem StepsAt.cells {ar off : Nat} {xs : List (Int × Int)} {w : World} (h : StepsAt (some ⟨ar, off, none⟩) xs w) : ∀ j u, (flat2 xs)[j]? = some u → w.cell? ((⟨ar, off, none⟩ : Addr).add j) = some u := fun j u hu => by
  obtain ⟨i, hi, hc⟩ := flat2_split xs j u hu
  obtain ⟨ar', off', e, _, hx⟩ := h (fun e => by subst e; simp at hi)
  cases e
  obtain ⟨c1, c2⟩ := hx i hi
  rw [Addr.add_lit]
  rcases hc with ⟨rfl, rfl⟩ | ⟨rfl, rfl⟩
  · exact c1
  · rw [← Nat.add_assoc]; exact c2
/-- a list of steps that is the first goroutine's own -/
def Own2 (w : World) (base : Nat) (v : Value) (xs : List (Int × Int)) : Prop := w.ownsRow base 31 2 v xs.length (flat2 xs)
theorem Own2.heap {w w' : World} {base : Nat} {v : Value} {xs : List (Int × Int)} (h : Own2 w base v xs) (hk : ∀ b, v.ownBlock = some b → w'.heap[b]? = w.heap[b]?) : Own2 w' base v xs := by
  rcases h.2 with ⟨rfl, e⟩ | ⟨g, cap, cur, rfl, h1, h2, h3⟩
  · exact ⟨h.1, .inl ⟨rfl, e⟩⟩
  · exact ⟨h.1, .inr ⟨g, cap, cur, rfl, h1, by rw [hk g rfl]; exact h2, h3⟩⟩
theorem Own2.steps {w : World} {base : Nat} {v : Value} {xs : List (Int × Int)} (h : Own2 w base v xs) :
    ∃ A cap, v = .slice A xs.length cap ∧ StepsAt A xs w ∧ ∀ b off, A = some ⟨b, off, none⟩ → base ≤ b ∧ b < w.heap.size ∧ v.ownBlock = some b := by
  rcases h.2 with ⟨rfl, e⟩ | ⟨g, cap, cur, rfl, h1, h2, h3, h4, h5, h6⟩
  · exact ⟨none, 0, by rw [e], fun hx => absurd (List.eq_nil_of_length_eq_zero e) hx, fun b off e => by cases e⟩
  · have hg : g < w.heap.size := by
      rcases Nat.lt_or_ge g w.heap.size with hl | hl
      · exact hl
      · rw [Array.getElem?_eq_none hl] at h2; cases h2
    have hc : ∀ j u, (flat2 xs)[j]? = some u → w.cell? ⟨g, j, none⟩ = some u := fun j u hu => by
      have hj : j < xs.length * 2 := by rw [← flat2_len]; exact (List.getElem?_eq_some_iff.1 hu).1
      have hcur : cur.toList[j]? = some u := by
        have := congrArg (fun l => l[j]?) h6
        rw [List.getElem?_take_of_lt hj, hu] at this
        exact this
      unfold World.cell?
      rw [h2]
      simpa using hcur
    refine ⟨some ⟨g, 0, none⟩, cap, rfl, fun hx => ⟨g, 0, rfl, hg, fun j hj => ?_⟩, fun b off e => by cases e; exact ⟨h1, hg, rfl⟩⟩
    obtain ⟨c1, c2⟩ := flat2_get xs j hj
    rw [Nat.zero_add]
    exact ⟨hc _ _ c1, hc _ _ c2⟩
theorem Own2.none (w : World) (base : Nat) : Own2 w base (.slice none 0 0) [] := World.ownsRow_nil w base 31 2
theorem Own2.lit {w : World} {base : Nat} (hb : base ≤ w.heap.size) : Own2 (w.alloc (.cells #[] 31)) base (.slice (some ⟨w.heap.size, 0, Option.none⟩) 0 0) [] :=
  World.ownsRow_made w #[] 0 hb (by unfold maxLen; omega) (by simp)
theorem info31b : (Try.prog.info? 31) = some Try.t31 := by kernel_rfl
theorem under32 : Try.prog.underlying 32 = some (.slice 31) := Try.underlying32
/-! every cell that an operation lists is a cell of a row -/
def Plainly (es : Array Event) : Prop := ∀ e ∈ es, ∀ ad, e.loc = .cell ad → ad.spot = none
theorem Plainly.push {es : Array Event} (h : Plainly es) {e : Event} (he : ∀ ad, e.loc = .cell ad → ad.spot = none) : Plainly (es.push e) := fun x hx => by
  rcases Array.mem_push.1 hx with hx | rfl
  · exact h x hx
  · exact he
theorem viewLoad_spot {P : Program} {w : World} {at_ k : Addr} {u : TypeId} {b : Bool} {r : Value × List Addr} (h : w.viewLoad P at_ u k b = .ok r) : ∀ ad ∈ r.2, ad.spot = none := by
  unfold World.viewLoad at h
  simp only [bind, Except.bind] at h
  split at h
  · cases h
  · split at h
    · simp only [pure, Except.pure, Except.ok.injEq] at h
      subst h
      intro ad hm
      simp only [List.mem_map] at hm
      obtain ⟨_, _, rfl⟩ := hm
      rfl
    · cases h
theorem viewStore_spot {P : Program} {w : World} {at_ k : Addr} {u : TypeId} {v : Value} {b : Bool} {r : World × List Addr} (h : w.viewStore P at_ u k v b = .ok r) : ∀ ad ∈ r.2, ad.spot = none := by
  unfold World.viewStore at h
  simp only [bind, Except.bind] at h
  repeat' (split at h <;> try cases h)
  all_goals
    intro ad hm
    simp only [List.mem_map] at hm
    obtain ⟨_, _, rfl⟩ := hm
    rfl
theorem cell_spot {w : World} {a : Addr} {v : Value} (h : w.cell? a = some v) : a.spot = none := by
  unfold World.cell? at h
  split at h
  · cases hs : a.spot with
    | none => rfl
    | some _ => rw [hs] at h; cases h
  · cases h
theorem Plainly.app {es : Array Event} (h : Plainly es) {l : List Addr} (hl : ∀ ad ∈ l, ad.spot = none) (f : Addr → Event) (hf : ∀ ad, (f ad).loc = .cell ad) : Plainly (es ++ l.toArray.map f) := fun e he ad hd => by
  rcases Array.mem_append.1 he with he | he
  · exact h e he ad hd
  · simp only [List.map_toArray, List.mem_toArray, List.mem_map] at he
    obtain ⟨x, hx, rfl⟩ := he
    rw [hf] at hd
    cases hd
    exact hl _ hx
theorem plainly {α : Type} {P : Program} (s : Sem α) : ∀ (w : World) (es : Array Event), Plainly es → Plainly (s.runT P w es).2 := by
  induction s with
  | pure a => intro w es h; exact h
  | load m a k ih =>
    intro w es h
    unfold Sem.runT
    split
    · next v hv => exact ih _ _ _ (h.push fun ad he => by cases he; exact cell_spot hv)
    · split
      · next v l hl =>
        unfold World.farLoad at hl
        split at hl
        · split at hl
          · next r hr =>
            cases hl
            exact ih _ _ _ (h.app (viewLoad_spot hr) _ fun _ => rfl)
          · cases hl
        · cases hl
      · exact h
  | store m a v k ih =>
    intro w es h
    have key : Plainly (match w.cell? a with
      | some _ => if w.frozen? a then ((.halt (.unsupported (.unsafePointer "a write to bytes that a string shares")) w : Result _), es) else k.runT P (w.setCell a v) (es.push ⟨.cell a, true, m == Mode.atomic⟩)
      | none => match w.farStore P a v (m == Mode.atomic) with
        | .ok (w, touched) => k.runT P w (es ++ touched.toArray.map (fun x => (⟨.cell x, true, m == Mode.atomic⟩ : Event)))
        | .error h => (.halt h w, es)).2 := by
      split
      · next u hu =>
        split
        · exact h
        · exact ih _ _ (h.push fun ad he => by cases he; exact cell_spot hu)
      · split
        · next w' l hl =>
          unfold World.farStore at hl
          split at hl
          · split at hl
            · next r hr =>
              cases hl
              exact ih _ _ (h.app (viewStore_spot hr) _ fun _ => rfl)
            · cases hl
          · cases hl
        · exact h
    cases v <;> first | exact key | exact h
  | new o k ih => intro w es h; exact ih _ _ _ h
  | shape r k ih => intro w es h; exact ih _ _ _ h
  | freeze a n k ih => intro w es h; exact ih _ _ h
  | frozen a k ih => intro w es h; exact ih _ _ _ h
  | getObj r k ih =>
    intro w es h
    unfold Sem.runT
    split
    · exact h
    · exact ih _ _ _ (h.push fun ad he => by cases he)
    · exact h
  | setObj r o k ih =>
    intro w es h
    unfold Sem.runT
    split
    · exact h
    · exact ih _ _ (h.push fun ad he => by cases he)
    · exact h
  | choose q k ih =>
    intro w es h
    unfold Sem.runT
    split
    · exact ih _ _ _ h
    · exact ih _ _ _ h
  | sys c k ih => intro w es h; exact ih _ _ _ (h.push fun ad he => by cases he)
  | program k ih => intro w es h; exact ih _ _ _ h
  | mark m k ih => intro w es h; exact ih _ _ (h.push fun ad he => by cases he)
  | halt h => intro w es h; exact h
theorem plainly_events {α : Type} {P : Program} (s : Sem α) (w : World) : Plainly (s.events P w #[]) := plainly s w #[] fun e he => by simp at he
theorem evL_own {X : Cx} {e : Event} {ad : Addr} (hl : e.loc = .cell ad) (hf : X.free ad.block) (hsp : ad.spot = none) : EvL X.Sh X.B e := by
  obtain ⟨loc, wr, sy⟩ := e
  obtain rfl : loc = .cell ad := hl
  obtain ⟨bk, off, sp⟩ := ad
  obtain rfl : sp = none := hsp
  refine ⟨fun x hx hs => ?_, by simp, by simp, hf.1⟩
  cases sy <;> simp only [MemAct.ofEvent, MemAct.touch?, Option.some.injEq] at hx <;> subst hx
  · exact absurd hs (hf.2 off)
  · simp
theorem evL_noRoom {X : Cx} {m : Mark} (hm : Neutral m) : EvL X.Sh X.B ⟨.mark m, false, true⟩ := by
  obtain rfl : m = .noRoom := hm
  exact ⟨fun x hx => by simp [MemAct.ofEvent, MemAct.touch?] at hx, by simp, by simp, trivial⟩
section
variable {X : Cx} {b : Frame} {a : Act} {k : List Item} {cs : List Frame} {w : World} {ops : Array Oper} {n : Nat} {rest : List Nat} {o : Oper}
/-- APPEND -/
theorem Run.app2 {base : Nat} {v : Value} {xs ys : List (Int × Int)} {A : Option Addr} {c : Nat} (ho : ops[n]? = some o) (hw : Region.wanted o (yielded ops a.tmps) = true) (hk : b.kind ≠ .early) (s x : Operand)
    (hop : o.op = .call { callee := .builtin .append, args := #[s, x], argTypes := #[32, 32] }) (hs : a.eval s = v) (hx : a.eval x = .slice A ys.length c)
    (hown : Own2 w base v xs) (hst : StepsAt A ys w) (hrd : X.reads A) (hfr : ∀ b, v.ownBlock = some b → X.free b) (hm : xs.length + ys.length ≤ 1048576) (hbase : base ≤ w.heap.size)
    (hW : ∀ v' w', Own2 w' base v' (xs ++ ys) → w.grownBy w' v.ownBlock → Run Try.prog X (G (b.at (a.put o.dst v') (.inRegion ops rest :: k)) cs) w') :
    Run Try.prog X (G (b.at a (.inRegion ops (n :: rest) :: k)) cs) w := by
  refine Run.opE (R := fun v' w' => Own2 w' base v' (xs ++ ys) ∧ w.grownBy w' v.ownBlock) ho hw hk (fun d => ?_) (fun v' w' h => hW v' w' h.1 h.2)
  have hown' : (w.at d).ownsRow base 31 2 v xs.length (flat2 xs) := Own2.heap hown fun _ _ => rfl
  have hnil : ys = [] → ∃ v' w', (execOp a.eval o).run Try.prog (w.at d) = .ok (.value v') w' ∧ (Own2 w' base v' (xs ++ ys) ∧ w.grownBy w' v.ownBlock) ∧ ∀ e ∈ (execOp a.eval o).events Try.prog (w.at d) #[], EvL X.Sh X.B e := fun e1 => by
    subst e1
    have hu := run_underlying (P := Try.prog) (w := w.at d) under32
    have hr : (Builtin.append_ #[32, 32] o.type #[v, .slice A 0 c]).run Try.prog (w.at d) = .ok v (w.at d) ∧ ∀ e ∈ (Builtin.append_ #[32, 32] o.type #[v, .slice A 0 c]).events Try.prog (w.at d) #[], EvL X.Sh X.B e := by
      rcases hown.2 with ⟨rfl, _⟩ | ⟨g, cap, cur, rfl, _, _, hnc, _⟩ <;> cases A <;> refine ⟨?_, fun e he => ?_⟩
      all_goals first
        | (simp [Builtin.append_, run_underlying under32, sizeOf, typeInfo, info31b, Builtin.lenOf, Builtin.firstCells, loadCells, loadCellsFrom, storeCells, *]; done)
        | (simp [Builtin.append_, run_underlying under32, sizeOf, typeInfo, info31b, Builtin.lenOf, Builtin.firstCells, loadCells, loadCellsFrom, storeCells, hnc] at he; done)
        | (simp [Builtin.append_, run_underlying under32, sizeOf, typeInfo, info31b, Builtin.lenOf, Builtin.firstCells, loadCells, loadCellsFrom, storeCells] at he; done)
    refine ⟨v, w.at d, ?_, ⟨by rw [List.append_nil]; exact hown', ⟨rfl, rfl, rfl, Nat.le_refl _, fun _ _ _ => rfl⟩⟩, fun e he => ?_⟩
    · unfold execOp
      simp only [hop, resolve, invoke, builtin, Sem.run_bind, Sem.run_pure, Result.andThen_ok, List.map_toArray, List.map_cons, List.map_nil, hs, hx, List.length_nil, hr.1]
    · rw [events_append_op s x 32 hop hs hx] at he
      exact hr.2 e he
  rcases A with _ | ⟨ar, off, sp⟩
  · have hn : ys = [] := by
      rcases ys with _ | ⟨y, ys⟩
      · rfl
      · obtain ⟨_, _, e, _⟩ := hst (by simp)
        cases e
    exact hnil hn
  · by_cases hsp : sp = Option.none
    · subst hsp
      have hst' : StepsAt (some ⟨ar, off, Option.none⟩) ys (w.at d) := hst.keep (Nat.le_refl _) (fun _ _ _ => rfl)
      obtain ⟨v', w', hr, h1, h2, _⟩ := run_append_own_wide (P := Try.prog) (w := w.at d) base 32 o.type 31 Try.t31 (.agg #[.int .i64 0, .int .i64 0]) 2 16 under32 info31b (by kernel_rfl) (by kernel_rfl) (by kernel_rfl) rfl (by decide) v xs.length (flat2 xs) hown'
        ⟨ar, off, Option.none⟩ ys.length c (flat2 ys) (flat2_len ys) hst'.cells (flat2_one ys) (by unfold maxLen; omega) (by omega) hbase
      have hev := events_append_where (P := Try.prog) (w := w.at d) base 32 o.type 31 Try.t31 (.agg #[.int .i64 0, .int .i64 0]) 2 16 under32 info31b (by kernel_rfl) (by kernel_rfl) (by kernel_rfl) v xs.length (flat2 xs) hown'
        ⟨ar, off, Option.none⟩ ys.length c (flat2 ys) (flat2_len ys) hst'.cells (flat2_one ys) (by unfold maxLen; omega) (by omega)
      refine ⟨v', w', ?_, ⟨?_, ⟨h2.os, h2.tape, h2.output, h2.size, h2.block⟩⟩, fun e he => ?_⟩
      · unfold execOp
        simp only [hop, resolve, invoke, builtin, Sem.run_bind, Sem.run_pure, Result.andThen_ok, List.map_toArray, List.map_cons, List.map_nil, hs, hx, hr]
      · unfold Own2
        rw [List.length_append, flat2_app]
        exact h1
      · rw [events_append_op s x 32 hop hs hx] at he
        rcases hev e he with ⟨ad, hl, hor⟩ | ⟨m, rfl, hm⟩
        · have hf : X.free ad.block := by
            rcases hor with ⟨_, hb⟩ | hb
            · rw [hb]; exact hrd ar off rfl
            · exact hfr _ hb.symm
          exact evL_own hl hf (plainly_events _ _ e he ad hl)
        · exact evL_noRoom hm
    · have hn : ys = [] := by
        rcases ys with _ | ⟨y, ys⟩
        · rfl
        · obtain ⟨_, _, e, _⟩ := hst (by simp)
          cases e
          exact absurd rfl hsp
      exact hnil hn
end
end Go.Proofs.Ytboiolnnhmlieaa.Gang
namespace Go.Proofs.Ytboiolnnhmlieaa.Gang
open Go.Conc Go.ConcN Go.RowKit Go.Conc.Lib Go.ConcR.Gen Go.ConcN.Gen
set_option linter.unusedVariables false
set_option linter.unusedSimpArgs false
def flat1 (xs : List Int) : List Value := xs.map fun x => .int .i64 x
theorem flat1_len (xs : List Int) : (flat1 xs).length = xs.length * 1 := by simp [flat1]
theorem flat1_app (a b : List Int) : flat1 (a ++ b) = flat1 a ++ flat1 b := by simp [flat1]
theorem flat1_one (xs : List Int) : ∀ u ∈ flat1 xs, u.oneCell' = true := fun u hu => by
  obtain ⟨x, _, rfl⟩ := List.mem_map.1 hu
  rfl
theorem flat1_get (xs : List Int) (j : Nat) (h : j < xs.length) : (flat1 xs)[j]? = some (.int .i64 (xs[j])) := by simp [flat1, h]
/-- numbers in memory -/
def NumsAt (sl : Option Addr) (xs : List Int) (w : World) : Prop :=
  xs ≠ [] → ∃ ar off, sl = some ⟨ar, off, none⟩ ∧ ar < w.heap.size ∧ ∀ j (h : j < xs.length), w.cell? ⟨ar, off + j, none⟩ = some (.int .i64 (xs[j]))
theorem NumsAt.keep {sl : Option Addr} {xs : List Int} {w w' : World} (h : NumsAt sl xs w) (hs : w.heap.size ≤ w'.heap.size) (hk : ∀ ar off, sl = some ⟨ar, off, none⟩ → w'.heap[ar]? = w.heap[ar]?) : NumsAt sl xs w' := fun hx => by
  obtain ⟨ar, off, e, h1, h2⟩ := h hx
  exact ⟨ar, off, e, by omega, fun j hj => (cell_heap (hk ar off e)).trans (h2 j hj)⟩
theorem NumsAt.cells {ar off : Nat} {xs : List Int} {w : World} (h : NumsAt (some ⟨ar, off, none⟩) xs w) : ∀ j u, (flat1 xs)[j]? = some u → w.cell? ((⟨ar, off, none⟩ : Addr).add j) = some u := fun j u hu => by
  have hj : j < xs.length := by have := (List.getElem?_eq_some_iff.1 hu).1; rw [flat1_len] at this; omega
  obtain ⟨ar', off', e, _, hx⟩ := h (fun e => by subst e; simp at hj)
  cases e
  rw [flat1_get xs j hj] at hu
  rw [Addr.add_lit, ← hu]
  exact hx j hj
/-- a list of numbers that is the first goroutine's own -/
def Own1 (w : World) (base : Nat) (v : Value) (xs : List Int) : Prop := w.ownsRow base 2 1 v xs.length (flat1 xs)
theorem Own1.heap {w w' : World} {base : Nat} {v : Value} {xs : List Int} (h : Own1 w base v xs) (hk : ∀ b, v.ownBlock = some b → w'.heap[b]? = w.heap[b]?) : Own1 w' base v xs := by
  rcases h.2 with ⟨rfl, e⟩ | ⟨g, cap, cur, rfl, h1, h2, h3⟩
  · exact ⟨h.1, .inl ⟨rfl, e⟩⟩
  · exact ⟨h.1, .inr ⟨g, cap, cur, rfl, h1, by rw [hk g rfl]; exact h2, h3⟩⟩
theorem Own1.nums {w : World} {base : Nat} {v : Value} {xs : List Int} (h : Own1 w base v xs) :
    ∃ A cap, v = .slice A xs.length cap ∧ (0 < xs.length → ∃ g, A = some ⟨g, 0, none⟩ ∧ base ≤ g ∧ g < w.heap.size ∧ ∀ j (h : j < xs.length), w.cell? ⟨g, j, none⟩ = some (.int .i64 (xs[j]))) := by
  rcases h.2 with ⟨rfl, e⟩ | ⟨g, cap, cur, rfl, h1, h2, h3, h4, h5, h6⟩
  · exact ⟨none, 0, by rw [e], fun hx => by omega⟩
  · have hg : g < w.heap.size := by
      rcases Nat.lt_or_ge g w.heap.size with hl | hl
      · exact hl
      · rw [Array.getElem?_eq_none hl] at h2; cases h2
    refine ⟨some ⟨g, 0, none⟩, cap, rfl, fun _ => ⟨g, rfl, h1, hg, fun j hj => ?_⟩⟩
    have hcur : cur.toList[j]? = some (.int .i64 (xs[j])) := by
      have := congrArg (fun l => l[j]?) h6
      rw [List.getElem?_take_of_lt (by omega), flat1_get xs j hj] at this
      exact this
    unfold World.cell?
    rw [h2]
    simpa using hcur
theorem Own1.none (w : World) (base : Nat) : Own1 w base (.slice none 0 0) [] := World.ownsRow_nil w base 2 1
theorem info2b : (Try.prog.info? 2) = some Try.t2 := by kernel_rfl
theorem under41 : Try.prog.underlying 41 = some (.slice 2) := Try.underlying41
section
variable {X : Cx} {b : Frame} {a : Act} {k : List Item} {cs : List Frame} {w : World} {ops : Array Oper} {n : Nat} {rest : List Nat} {o : Oper}
/-- APPEND -/
theorem Run.app1 {base : Nat} {v : Value} {xs ys : List Int} {A : Option Addr} {c : Nat} (ho : ops[n]? = some o) (hw : Region.wanted o (yielded ops a.tmps) = true) (hk : b.kind ≠ .early) (s x : Operand)
    (hop : o.op = .call { callee := .builtin .append, args := #[s, x], argTypes := #[41, 41] }) (hs : a.eval s = v) (hx : a.eval x = .slice A ys.length c)
    (hown : Own1 w base v xs) (hst : NumsAt A ys w) (hrd : X.reads A) (hfr : ∀ b, v.ownBlock = some b → X.free b) (hm : xs.length + ys.length ≤ 1048576) (hbase : base ≤ w.heap.size)
    (hW : ∀ v' w', Own1 w' base v' (xs ++ ys) → w.grownBy w' v.ownBlock → Run Try.prog X (G (b.at (a.put o.dst v') (.inRegion ops rest :: k)) cs) w') :
    Run Try.prog X (G (b.at a (.inRegion ops (n :: rest) :: k)) cs) w := by
  refine Run.opE (R := fun v' w' => Own1 w' base v' (xs ++ ys) ∧ w.grownBy w' v.ownBlock) ho hw hk (fun d => ?_) (fun v' w' h => hW v' w' h.1 h.2)
  have hown' : (w.at d).ownsRow base 2 1 v xs.length (flat1 xs) := Own1.heap hown fun _ _ => rfl
  have hnil : ys = [] → ∃ v' w', (execOp a.eval o).run Try.prog (w.at d) = .ok (.value v') w' ∧ (Own1 w' base v' (xs ++ ys) ∧ w.grownBy w' v.ownBlock) ∧ ∀ e ∈ (execOp a.eval o).events Try.prog (w.at d) #[], EvL X.Sh X.B e := fun e1 => by
    subst e1
    have hu := run_underlying (P := Try.prog) (w := w.at d) under41
    have hr : (Builtin.append_ #[41, 41] o.type #[v, .slice A 0 c]).run Try.prog (w.at d) = .ok v (w.at d) ∧ ∀ e ∈ (Builtin.append_ #[41, 41] o.type #[v, .slice A 0 c]).events Try.prog (w.at d) #[], EvL X.Sh X.B e := by
      rcases hown.2 with ⟨rfl, _⟩ | ⟨g, cap, cur, rfl, _, _, hnc, _⟩ <;> cases A <;> refine ⟨?_, fun e he => ?_⟩
      all_goals first
        | (simp [Builtin.append_, run_underlying under41, sizeOf, typeInfo, info2b, Builtin.lenOf, Builtin.firstCells, loadCells, loadCellsFrom, storeCells, *]; done)
        | (simp [Builtin.append_, run_underlying under41, sizeOf, typeInfo, info2b, Builtin.lenOf, Builtin.firstCells, loadCells, loadCellsFrom, storeCells, hnc] at he; done)
        | (simp [Builtin.append_, run_underlying under41, sizeOf, typeInfo, info2b, Builtin.lenOf, Builtin.firstCells, loadCells, loadCellsFrom, storeCells] at he; done)
    refine ⟨v, w.at d, ?_, ⟨by rw [List.append_nil]; exact hown', ⟨rfl, rfl, rfl, Nat.le_refl _, fun _ _ _ => rfl⟩⟩, fun e he => ?_⟩
    · unfold execOp
      simp only [hop, resolve, invoke, builtin, Sem.run_bind, Sem.run_pure, Result.andThen_ok, List.map_toArray, List.map_cons, List.map_nil, hs, hx, List.length_nil, hr.1]
    · rw [events_append_op s x 41 hop hs hx] at he
      exact hr.2 e he
  rcases A with _ | ⟨ar, off, sp⟩
  · have hn : ys = [] := by
      rcases ys with _ | ⟨y, ys⟩
      · rfl
      · obtain ⟨_, _, e, _⟩ := hst (by simp)
        cases e
    exact hnil hn
  · by_cases hsp : sp = Option.none
    · subst hsp
      have hst' : NumsAt (some ⟨ar, off, Option.none⟩) ys (w.at d) := hst.keep (Nat.le_refl _) (fun _ _ _ => rfl)
      obtain ⟨v', w', hr, h1, h2, _⟩ := run_append_own_wide (P := Try.prog) (w := w.at d) base 41 o.type 2 Try.t2 (.int .i64 0) 1 8 under41 info2b (by kernel_rfl) (by kernel_rfl) (by kernel_rfl) rfl (by decide) v xs.length (flat1 xs) hown'
        ⟨ar, off, Option.none⟩ ys.length c (flat1 ys) (flat1_len ys) hst'.cells (flat1_one ys) (by unfold maxLen; omega) (by omega) hbase
      have hev := events_append_where (P := Try.prog) (w := w.at d) base 41 o.type 2 Try.t2 (.int .i64 0) 1 8 under41 info2b (by kernel_rfl) (by kernel_rfl) (by kernel_rfl) v xs.length (flat1 xs) hown'
        ⟨ar, off, Option.none⟩ ys.length c (flat1 ys) (flat1_len ys) hst'.cells (flat1_one ys) (by unfold maxLen; omega) (by omega)
      refine ⟨v', w', ?_, ⟨?_, ⟨h2.os, h2.tape, h2.output, h2.size, h2.block⟩⟩, fun e he => ?_⟩
      · unfold execOp
        simp only [hop, resolve, invoke, builtin, Sem.run_bind, Sem.run_pure, Result.andThen_ok, List.map_toArray, List.map_cons, List.map_nil, hs, hx, hr]
      · unfold Own1
        rw [List.length_append, flat1_app]
        exact h1
      · rw [events_append_op s x 41 hop hs hx] at he
        rcases hev e he with ⟨ad, hl, hor⟩ | ⟨m, rfl, hm⟩
        · have hf : X.free ad.block := by
            rcases hor with ⟨_, hb⟩ | hb
            · rw [hb]; exact hrd ar off rfl
            · exact hfr _ hb.symm
          exact evL_own hl hf (plainly_events _ _ e he ad hl)
        · exact evL_noRoom hm
    · have hn : ys = [] := by
        rcases ys with _ | ⟨y, ys⟩
        · rfl
        · obtain ⟨_, _, e, _⟩ := hst (by simp)
          cases e
          exact absurd rfl hsp
      exact hnil hn
end
end Go.Proofs.Ytboiolnnhmlieaa.Gang
namespace Go.Proofs.Ytboiolnnhmlieaa.Gang
open Go.Conc Go.ConcN Go.RowKit Go.Conc.Lib Go.ConcR.Gen Go.ConcN.Gen
set_option linter.unusedVariables false
set_option linter.unusedSimpArgs false
noncomputable def loops18 : Code → List Code
  | .seq a b => loops18 a ++ loops18 b
  | .block _ (.loop c) => [c]
  | _ => []
noncomputable def l18 : Code := (loops18 (Try.f18.body.getD .skip)).getD 0 .skip
/-- the next k tickets -/
def tks (t : Int) (k : Nat) : List Int := (List.range k).map fun (i : Nat) => t + 1 + (i : Int)
theorem tks_len (t : Int) (k : Nat) : (tks t k).length = k := by simp [tks]
theorem tks_get (t : Int) (k : Nat) {i : Nat} (h : i < (tks t k).length) : (tks t k)[i] = t + 1 + i := by simp [tks]
theorem tks_succ (t : Int) (k : Nat) : tks t k ++ [t + 1 + (k : Int)] = tks t (k + 1) := by simp [tks, List.range_succ]
theorem mk411 (w : World) (i : Int) : (Instr.buildSlice 41 1 #[(0, .int .i64 i)]).run Try.prog w = .ok (.slice (some ⟨w.heap.size, 0, none⟩) 1 1) (w.alloc (.cells #[.int .i64 i] 2)) :=
  run_buildSlice w 41 2 1 _ _ _ (.int .i64 0) Try.underlying41 info2b (by kernel_rfl) (by decide) (by decide) (by kernel_rfl)
theorem ev411 (w : World) (es : Array Event) (i : Int) : (Instr.buildSlice 41 1 #[(0, .int .i64 i)]).events Try.prog w es = es := by
  unfold Instr.buildSlice
  simp [go_sem]
section
variable {X : Cx} {R : Nat} {x : Tl} {w : World}
set_option maxRecDepth 100000 in
set_option maxHeartbeats 8000000 in
theorem rdraw_loop {n e : Int} {N : Nat} (hNe : n * e = (N : Int)) (hN : N ≤ 16000) (x : Tl) (hx : 0 ≤ x.tick ∧ x.tick ≤ 2305843009213693952) {R lo : Nat} (hRlo : R < lo) {b : Frame} {a : Act} {kk : List Item} {cs : List Frame} {ops : Array Oper} {i : Nat} {rest : List Nat} {K : List Item} : ∀ (m k : Nat), k + m = N → ∀ (X : Cx) (w : World) (v : Value), X.ok w → X.free R → lo ≤ w.heap.size → (∀ b, lo ≤ b → ∀ o, ¬ X.Sh (.cell ⟨b, o, none⟩)) → RefAt R { x with tick := x.tick + k } w → Own1 w lo v (tks x.tick k) →
    (∀ (w' : World) (v : Value) (y3 y4 y5 y10 y11 y12 y13 y14 y15 y16 y17 y18 y19 y20 y21 y22 y23 y24 y25 y26 y27 y28 y29 y30 y31 y32 y33 y34 y35 y36 y37 y38 y39 y40 y41 y42 y43 y44 y45 : Value), RefAt R { x with tick := x.tick + N } w' → Own1 w' lo v (tks x.tick N) → w'.tape = w.tape → w'.os = w.os → w'.output = w.output → w.heap.size ≤ w'.heap.size → (∀ b, b < lo → b ≠ R → w'.heap[b]? = w.heap[b]?) → Run Try.prog (X.up w'.heap.size) (G ((base 18).at ⟨#[.pointer (some ⟨R, 0, none⟩), .int .i64 n, .int .i64 e, y3, y4, y5, .slice none 0 0, .int .i64 0, v, .int .i64 (N : Int), y10, y11, y12, y13, y14, y15, y16, y17, y18, y19, y20, y21, y22, y23, y24, y25, y26, y27, y28, y29, y30, y31, y32, y33, y34, y35, y36, y37, y38, y39, y40, y41, y42, y43, y44, y45], []⟩ K) (b.at a (.inRegion ops (i :: rest) :: kk) :: cs)) w') → ∀ (y3 y4 y5 y10 y11 y12 y13 y14 y15 y16 y17 y18 y19 y20 y21 y22 y23 y24 y25 y26 y27 y28 y29 y30 y31 y32 y33 y34 y35 y36 y37 y38 y39 y40 y41 y42 y43 y44 y45 : Value),
    Run Try.prog X (G ((base 18).at ⟨#[.pointer (some ⟨R, 0, none⟩), .int .i64 n, .int .i64 e, y3, y4, y5, .slice none 0 0, .int .i64 0, v, .int .i64 (k : Int), y10, y11, y12, y13, y14, y15, y16, y17, y18, y19, y20, y21, y22, y23, y24, y25, y26, y27, y28, y29, y30, y31, y32, y33, y34, y35, y36, y37, y38, y39, y40, y41, y42, y43, y44, y45], []⟩ (.code l18 :: .inLoop l18 :: .inBlock 0 :: K)) (b.at a (.inRegion ops (i :: rest) :: kk) :: cs)) w := by
  intro m
  induction m with
  | zero =>
    intro k hk X w v hX hR hlo hnw h hown hK y3 y4 y5 y10 y11 y12 y13 y14 y15 y16 y17 y18 y19 y20 y21 y22 y23 y24 y25 y26 y27 y28 y29 y30 y31 y32 y33 y34 y35 y36 y37 y38 y39 y40 y41 y42 y43 y44 y45
    obtain rfl : k = N := by omega
    have hlt : decide ((k : Int) < (k : Int)) = false := decide_eq_false (by omega)
    have ewN : IntKind.i64.wrap (k : Int) = (k : Int) := by rw [IntKind.wrap_i64]; omega
    replace hK := Lib.hid (fun y3 y4 y5 y10 y11 y12 y13 y14 y15 y16 y17 y18 y19 y20 y21 y22 y23 y24 y25 y26 y27 y28 y29 y30 y31 y32 y33 y34 y35 y36 y37 y38 y39 y40 y41 y42 y43 y44 y45 => hK w v y3 y4 y5 y10 y11 y12 y13 y14 y15 y16 y17 y18 y19 y20 y21 y22 y23 y24 y25 y26 y27 y28 y29 y30 y31 y32 y33 y34 y35 y36 y37 y38 y39 y40 y41 y42 y43 y44 y45 h hown rfl rfl rfl (Nat.le_refl _) (fun _ _ _ => rfl))
    clear hX h hown hnw hk
    simp only [l18, loops18, Try.f18, Option.getD_some, List.nil_append, List.append_nil, List.cons_append, List.getD_cons_zero, List.getD_cons_succ]
    repeat first
      | refine Run.seq ?_
      | refine Run.skip ?_
      | refine Run.regionEnd ?_
      | refine Run.block ?_
      | refine Run.inBlock ?_
      | (refine Run.region ?_; simp only [List.size_toArray, List.length_cons, List.length_nil, Nat.reduceAdd, Nat.zero_add, List.range, List.range.loop])
      | (refine Run.cond rfl ?_; simp only [if_true, if_false, Bool.false_eq_true, ↓reduceIte])
      | (refine Run.unwanted rfl rfl ?_; walk_nrm)
      | (refine Run.op0 rfl rfl (by k_ne) (fun d K hK => by go_simp; exact hK) (fun d => by first | (simp [go_sem, *] <;> fail) | fail) ?_; try w_num)
      | refine Run.ret ?_
      | refine Run.fin ?_
      | refine Run.exit rfl ?_
    exact Run.up _ (hK.out _ _ _ _ _ _ _ _ _ _ _ _ _ _ _ _ _ _ _ _ _ _ _ _ _ _ _ _ _ _ _ _ _ _ _ _ _ _ _)
  | succ m ih =>
    intro k hk X w v hX hR hlo hnw h hown hK y3 y4 y5 y10 y11 y12 y13 y14 y15 y16 y17 y18 y19 y20 y21 y22 y23 y24 y25 y26 y27 y28 y29 y30 y31 y32 y33 y34 y35 y36 y37 y38 y39 y40 y41 y42 y43 y44 y45
    have hkN : k < N := by omega
    have hlt : decide ((k : Int) < (N : Int)) = true := decide_eq_true (by omega)
    have hlt' : decide (k < N) = true := decide_eq_true hkN
    have ewN : IntKind.i64.wrap (N : Int) = (N : Int) := by rw [IntKind.wrap_i64]; omega
    have ew : IntKind.i64.wrap ((k : Int) + 1) = ((k + 1 : Nat) : Int) := by rw [IntKind.wrap_i64]; omega
    obtain ⟨p, hp⟩ : ∃ p, p = x.tick + k := ⟨_, rfl⟩
    obtain ⟨q, hq⟩ : ∃ q, q = p + 1 := ⟨_, rfl⟩
    have ewp : IntKind.i64.wrap (p + 1) = q := by rw [IntKind.wrap_i64]; omega
    rw [← hp] at h
    have ct := h.cTick
    have tt := h.thaw 11
    have h2 := h.setTick q
    have a2 : Go.Conc.Aside R w (w.setCell ⟨R, 11, none⟩ (.int .i64 q)) := aside_setCell w ⟨R, 11, none⟩ (.int .i64 q)
    have ct2 := h2.cTick
    have hq2 : q = x.tick + 1 + (k : Int) := by omega
    have hqk : q = x.tick + ((k + 1 : Nat) : Int) := by omega
    have m1 := mk411
    have e1 := ev411
    replace hp := Lib.hid hp
    replace hq := Lib.hid hq
    replace hq2 := Lib.hid hq2
    replace hqk := Lib.hid hqk
    replace hK := Lib.hid hK
    replace ih := Lib.hid (fun (X' : Cx) (w' : World) (v' : Value) => ih (k + 1) (by omega) X' w' v')
    have hown2 : Own1 (w.setCell ⟨R, 11, none⟩ (.int .i64 q)) lo v (tks x.tick k) := hown.heap fun b hb => a2.block b (by have := (World.ownsRow.lt hown b hb).1; omega)
    clear hown h
    simp only [l18, loops18, Try.f18, Option.getD_some, List.nil_append, List.append_nil, List.cons_append, List.getD_cons_zero, List.getD_cons_succ] at ih ⊢
    repeat first
      | refine Run.seq ?_
      | refine Run.skip ?_
      | refine Run.regionEnd ?_
      | refine Run.block ?_
      | refine Run.inBlock ?_
      | (refine Run.region ?_; simp only [List.size_toArray, List.length_cons, List.length_nil, Nat.reduceAdd, Nat.zero_add, List.range, List.range.loop])
      | (refine Run.cond rfl ?_; simp only [if_true, if_false, Bool.false_eq_true, ↓reduceIte])
      | (refine Run.unwanted rfl rfl ?_; walk_nrm)
      | (refine Run.op0 rfl rfl (by k_ne) (fun d K hK => by go_simp; exact hK) (fun d => by first | (simp [go_sem, *] <;> fail) | fail) ?_; try w_num)
      | refine Run.ret ?_
      | refine Run.fin ?_
      | refine Run.exit rfl ?_
      | ((refine Run.op w rfl rfl (by k_ne) (fun d K hK => by go_simp; exact hK) (fun d e he => by simp [go_sem, *] at he; subst he; exact evL_free hR) ?_; try w_num))
      | ((refine Run.op (w.setCell ⟨R, 11, none⟩ (.int .i64 q)) rfl rfl (by k_ne) (fun d K hK => by go_simp; exact hK) (fun d e he => by simp [go_sem, *] at he; subst he; exact evL_free hR) ?_; try w_num))
    have s2 : (w.setCell ⟨R, 11, none⟩ (.int .i64 q)).heap.size = w.heap.size := a2.size
    generalize w.setCell ⟨R, 11, none⟩ (.int .i64 q) = w2 at h2 a2 ct2 hown2 s2 ⊢
    obtain ⟨M, hMw⟩ : ∃ M, w.heap.size = M := ⟨_, rfl⟩
    rw [hMw] at s2
    have hM := s2
    refine Run.op (w2.alloc (.cells #[.int .i64 q] 2)) rfl rfl (by k_ne) (fun d K hK => by go_simp; exact hK) (fun d e he => by simp [go_sem, *] at he) ?_
    try w_num
    have hbM : (w2.alloc (.cells #[.int .i64 q] 2)).heap[M]? = some (.cells #[.int .i64 q] 2) := by rw [← hM]; exact alloc_newr w2 _
    have hO6 : Off w2.heap.size w2 (w2.alloc (.cells #[.int .i64 q] 2)) := Off.alloc _ w2 _
    have hs6 : (w2.alloc (.cells #[.int .i64 q] 2)).heap.size = M + 1 := by rw [World.size_alloc, hM]
    rw [hM] at hO6
    try simp only [hM]
    generalize w2.alloc (.cells #[.int .i64 q] 2) = w6 at hbM hO6 hs6 ⊢
    refine Run.up w6.heap.size ?_
    have hP6 := Cx.next_up (w' := w6) hX (by omega)
    have hX6 := hP6.ok hX
    have hM6 : (X.up w6.heap.size).free M := ⟨by rw [hP6.B]; omega, hX.new M (by omega)⟩
    have hR6 := hP6.free hX hR
    have hown6 : Own1 w6 lo v (tks x.tick k) := hown2.heap fun b hb => hO6.block b (by have := (World.ownsRow.lt hown2 b hb).2; omega) (by have := (World.ownsRow.lt hown2 b hb).2; omega)
    have h6 : RefAt R { x with tick := q } w6 := h2.block (hO6.block R (by omega) (by omega))
    have hstM : NumsAt (some ⟨M, 0, none⟩) [q] w6 := fun _ => ⟨M, 0, rfl, by omega, fun j hj => by
      obtain rfl : j = 0 := by simpa using hj
      unfold World.cell?
      simp only [hbM]
      rfl⟩
    clear m1 e1 ct tt ct2 hown2 h2 hbM
    repeat first
      | refine Run.seq ?_
      | refine Run.skip ?_
      | refine Run.regionEnd ?_
      | refine Run.block ?_
      | refine Run.inBlock ?_
      | (refine Run.region ?_; simp only [List.size_toArray, List.length_cons, List.length_nil, Nat.reduceAdd, Nat.zero_add, List.range, List.range.loop])
      | (refine Run.cond rfl ?_; simp only [if_true, if_false, Bool.false_eq_true, ↓reduceIte])
      | (refine Run.unwanted rfl rfl ?_; walk_nrm)
      | (refine Run.op0 rfl rfl (by k_ne) (fun d K hK => by go_simp; exact hK) (fun d => by first | (simp [go_sem, *] <;> fail) | fail) ?_; try w_num)
      | refine Run.ret ?_
      | refine Run.fin ?_
      | refine Run.exit rfl ?_
    refine Run.app1 (v := v) (xs := tks x.tick k) (ys := [q]) (c := 1) (base := lo) rfl rfl (by k_ne) _ _ rfl rfl rfl hown6 hstM (fun ar off e => by cases e; exact hM6) (fun b hb => by
      obtain ⟨h1, h2⟩ := World.ownsRow.lt hown6 b hb
      exact ⟨by rw [hP6.B]; omega, hnw b h1⟩) (by rw [tks_len]; simp only [List.length_cons, List.length_nil]; omega) (by omega) (fun v7 w7 hown7 hg7 => ?_)
    rw [hq2.out, tks_succ] at hown7
    have hlo7 : ∀ b, b < lo → w7.heap[b]? = w6.heap[b]? := fun b hb => hg7.block b (by omega) (fun e => by have := (World.ownsRow.lt hown6 b e.symm).1; omega)
    refine Run.up w7.heap.size ?_
    have hP7 := Cx.next_up (w' := w7) hX6 hg7.size
    have hX7 := hP7.ok hX6
    have h7 : RefAt R { x with tick := q } w7 := h6.block (hlo7 R hRlo)
    rw [hqk.out] at h7
    have hup : ∀ w'' : World, w7.heap.size ≤ w''.heap.size → ((X.up w6.heap.size).up w7.heap.size).up w''.heap.size = X.up w''.heap.size := fun w'' h => by
      rw [Cx.up_up _ (by have := hg7.size; omega), Cx.up_up _ (by have := hg7.size; omega)]
    replace ih := Lib.hid (ih.out ((X.up w6.heap.size).up w7.heap.size) w7 v7 hX7 (hP7.free hX6 hR6) (by have := hg7.size; omega) hnw h7 hown7 (fun w'' v'' y3 y4 y5 y10 y11 y12 y13 y14 y15 y16 y17 y18 y19 y20 y21 y22 y23 y24 y25 y26 y27 y28 y29 y30 y31 y32 y33 y34 y35 y36 y37 y38 y39 y40 y41 y42 y43 y44 y45 hr ho t1 t2 t3 t4 t5 => by
      rw [hup w'' t4]
      exact hK.out w'' v'' y3 y4 y5 y10 y11 y12 y13 y14 y15 y16 y17 y18 y19 y20 y21 y22 y23 y24 y25 y26 y27 y28 y29 y30 y31 y32 y33 y34 y35 y36 y37 y38 y39 y40 y41 y42 y43 y44 y45 hr ho (t1.trans (hg7.tape.trans (hO6.tape.trans a2.tape))) (t2.trans (hg7.os.trans (hO6.os.trans a2.os))) (t3.trans (hg7.output.trans (hO6.output.trans a2.output))) (by have := hg7.size; omega) (fun b hb hne => by
        rw [t5 b hb hne, hlo7 b hb, hO6.block b (by omega) (by omega), a2.block b hne])))
    clear hown6 hstM hown7 hX7 hK hup hP6 hP7 h6 h7 hg7 hlo7 hO6 a2 hR6 hM6 hX6 hnw
    walk_nrm
    repeat first
      | refine Run.seq ?_
      | refine Run.skip ?_
      | refine Run.regionEnd ?_
      | refine Run.block ?_
      | refine Run.inBlock ?_
      | (refine Run.region ?_; simp only [List.size_toArray, List.length_cons, List.length_nil, Nat.reduceAdd, Nat.zero_add, List.range, List.range.loop])
      | (refine Run.cond rfl ?_; simp only [if_true, if_false, Bool.false_eq_true, ↓reduceIte])
      | (refine Run.unwanted rfl rfl ?_; walk_nrm)
      | (refine Run.op0 rfl rfl (by k_ne) (fun d K hK => by go_simp; exact hK) (fun d => by first | (simp [go_sem, *] <;> fail) | fail) ?_; try w_num)
      | refine Run.ret ?_
      | refine Run.fin ?_
      | refine Run.exit rfl ?_
    first | rw [ew] | rw [show (k : Int) + 1 = ((k + 1 : Nat) : Int) by omega]
    refine Run.inLoop ?_
    exact ih.out _ _ _ _ _ _ _ _ _ _ _ _ _ _ _ _ _ _ _ _ _ _ _ _ _ _ _ _ _ _ _ _ _ _ _ _ _ _ _
set_option maxRecDepth 100000 in
set_option maxHeartbeats 8000000 in
theorem rdraw_con {n e : Int} (hX : X.ok w) (hR : X.free R) (hRs : R < w.heap.size) (h : RefAt R x w) (hx : 0 ≤ x.tick ∧ x.tick ≤ 2305843009213693952) :
    Con Try.prog X 18 #[.pointer (some ⟨R, 0, none⟩), .int .i64 n, .int .i64 e] w (fun X' v w' => X' = X.up w'.heap.size ∧ Off R w w' ∧
      ((DrawOk n e ∧ ∃ sl c, v = .tuple #[.slice sl (n.toNat * e.toNat) c, .int .i64 0] ∧ RefAt R { x with tick := x.tick + (n.toNat * e.toNat : Nat) } w' ∧ (0 < n.toNat * e.toNat → ∃ g, sl = some ⟨g, 0, none⟩ ∧ w.heap.size ≤ g ∧ g < w'.heap.size ∧ ∀ i, i < n.toNat * e.toNat → w'.cell? ⟨g, i, none⟩ = some (.int .i64 (x.tick + 1 + i)))) ∨
       (¬ DrawOk n e ∧ v = .tuple #[.slice none 0 0, .int .i64 1] ∧ RefAt R x w'))) := by
  refine ⟨Try.f18, _, Try.func18, nm18, rfl, fun b₀ a₀ ops₀ n₀ rest₀ k₀ cs hK => ?_⟩
  walk_nrmf Try.f18
  have hNo := Lib.hid (fun (hno : ¬ DrawOk n e) => hK (X.up w.heap.size) (.tuple #[.slice none 0 0, .int .i64 1]) w ⟨rfl, Off.refl _ _, .inr ⟨hno, rfl, h⟩⟩)
  by_cases d0 : n < 1
  · have hd0 : decide (n < 1) = true := decide_eq_true d0
    replace hNo := Lib.hid (hNo.out (fun hh => by have := hh.1; omega))
    clear hK h hX d0
    repeat first
      | refine Run.seq ?_
      | refine Run.skip ?_
      | refine Run.regionEnd ?_
      | refine Run.block ?_
      | refine Run.inBlock ?_
      | (refine Run.region ?_; simp only [List.size_toArray, List.length_cons, List.length_nil, Nat.reduceAdd, Nat.zero_add, List.range, List.range.loop])
      | (refine Run.cond rfl ?_; simp only [if_true, if_false, Bool.false_eq_true, ↓reduceIte])
      | (refine Run.unwanted rfl rfl ?_; walk_nrm)
      | (refine Run.op0 rfl rfl (by k_ne) (fun d K hK => by go_simp; exact hK) (fun d => by first | (simp [go_sem, *] <;> fail) | fail) ?_; try w_num)
      | refine Run.ret ?_
      | refine Run.fin ?_
      | refine Run.exit rfl ?_
    refine Run.leave2 rfl rfl Try.func18 rfl ?_
    exact Run.up _ hNo.out
  have hd0 : decide (n < 1) = false := decide_eq_false d0
  by_cases d1 : 16 < n
  · have hd1 : decide (16 < n) = true := decide_eq_true d1
    replace hNo := Lib.hid (hNo.out (fun hh => by have := hh.2.1; omega))
    clear hK h hX d0 d1
    repeat first
      | refine Run.seq ?_
      | refine Run.skip ?_
      | refine Run.regionEnd ?_
      | refine Run.block ?_
      | refine Run.inBlock ?_
      | (refine Run.region ?_; simp only [List.size_toArray, List.length_cons, List.length_nil, Nat.reduceAdd, Nat.zero_add, List.range, List.range.loop])
      | (refine Run.cond rfl ?_; simp only [if_true, if_false, Bool.false_eq_true, ↓reduceIte])
      | (refine Run.unwanted rfl rfl ?_; walk_nrm)
      | (refine Run.op0 rfl rfl (by k_ne) (fun d K hK => by go_simp; exact hK) (fun d => by first | (simp [go_sem, *] <;> fail) | fail) ?_; try w_num)
      | refine Run.ret ?_
      | refine Run.fin ?_
      | refine Run.exit rfl ?_
    refine Run.leave2 rfl rfl Try.func18 rfl ?_
    exact Run.up _ hNo.out
  have hd1 : decide (16 < n) = false := decide_eq_false d1
  by_cases d2 : e < 0
  · have hd2 : decide (e < 0) = true := decide_eq_true d2
    replace hNo := Lib.hid (hNo.out (fun hh => by have := hh.2.2.1; omega))
    clear hK h hX d0 d1 d2
    repeat first
      | refine Run.seq ?_
      | refine Run.skip ?_
      | refine Run.regionEnd ?_
      | refine Run.block ?_
      | refine Run.inBlock ?_
      | (refine Run.region ?_; simp only [List.size_toArray, List.length_cons, List.length_nil, Nat.reduceAdd, Nat.zero_add, List.range, List.range.loop])
      | (refine Run.cond rfl ?_; simp only [if_true, if_false, Bool.false_eq_true, ↓reduceIte])
      | (refine Run.unwanted rfl rfl ?_; walk_nrm)
      | (refine Run.op0 rfl rfl (by k_ne) (fun d K hK => by go_simp; exact hK) (fun d => by first | (simp [go_sem, *] <;> fail) | fail) ?_; try w_num)
      | refine Run.ret ?_
      | refine Run.fin ?_
      | refine Run.exit rfl ?_
    refine Run.leave2 rfl rfl Try.func18 rfl ?_
    exact Run.up _ hNo.out
  have hd2 : decide (e < 0) = false := decide_eq_false d2
  by_cases d3 : 1000 < e
  · have hd3 : decide (1000 < e) = true := decide_eq_true d3
    replace hNo := Lib.hid (hNo.out (fun hh => by have := hh.2.2.2; omega))
    clear hK h hX d0 d1 d2 d3
    repeat first
      | refine Run.seq ?_
      | refine Run.skip ?_
      | refine Run.regionEnd ?_
      | refine Run.block ?_
      | refine Run.inBlock ?_
      | (refine Run.region ?_; simp only [List.size_toArray, List.length_cons, List.length_nil, Nat.reduceAdd, Nat.zero_add, List.range, List.range.loop])
      | (refine Run.cond rfl ?_; simp only [if_true, if_false, Bool.false_eq_true, ↓reduceIte])
      | (refine Run.unwanted rfl rfl ?_; walk_nrm)
      | (refine Run.op0 rfl rfl (by k_ne) (fun d K hK => by go_simp; exact hK) (fun d => by first | (simp [go_sem, *] <;> fail) | fail) ?_; try w_num)
      | refine Run.ret ?_
      | refine Run.fin ?_
      | refine Run.exit rfl ?_
    refine Run.leave2 rfl rfl Try.func18 rfl ?_
    exact Run.up _ hNo.out
  have hd3 : decide (1000 < e) = false := decide_eq_false d3
  have hok : DrawOk n e := ⟨by omega, by omega, by omega, by omega⟩
  obtain ⟨N, hN⟩ : ∃ N, n.toNat * e.toNat = N := ⟨_, rfl⟩
  have hNe : n * e = (N : Int) := by
    rw [← hN, Int.natCast_mul]
    congr 1 <;> omega
  have hN16 : N ≤ 16000 := by
    rw [← hN]
    exact Nat.mul_le_mul (show n.toNat ≤ 16 by omega) (show e.toNat ≤ 1000 by omega)
  rw [hN] at hK
  have hLp := Lib.hid (fun (K : List Item) hK => rdraw_loop (n := n) (e := e) hNe hN16 x hx (R := R) (lo := w.heap.size) hRs (b := b₀) (a := a₀) (kk := k₀) (cs := cs) (ops := ops₀) (i := n₀) (rest := rest₀) (K := K) N 0 (by omega) X w (.slice none 0 0) hX hR (Nat.le_refl _) (fun b hb o => hX.new b hb o) (by show RefAt R { x with tick := x.tick + 0 } w; rw [Int.add_zero]; exact h) (Own1.none w _) hK)
  replace hLp := hLp.out
  simp only [l18, loops18, Try.f18, Option.getD_some, List.nil_append, List.append_nil, List.cons_append, List.getD_cons_zero, List.getD_cons_succ] at hLp
  replace hLp := Lib.hid hLp
  replace hK := Lib.hid hK
  clear hNo h hNe
  repeat first
    | refine Run.seq ?_
    | refine Run.skip ?_
    | refine Run.regionEnd ?_
    | refine Run.block ?_
    | refine Run.inBlock ?_
    | (refine Run.region ?_; simp only [List.size_toArray, List.length_cons, List.length_nil, Nat.reduceAdd, Nat.zero_add, List.range, List.range.loop])
    | (refine Run.cond rfl ?_; simp only [if_true, if_false, Bool.false_eq_true, ↓reduceIte])
    | (refine Run.unwanted rfl rfl ?_; walk_nrm)
    | (refine Run.op0 rfl rfl (by k_ne) (fun d K hK => by go_simp; exact hK) (fun d => by first | (simp [go_sem, *] <;> fail) | fail) ?_; try w_num)
    | refine Run.ret ?_
    | refine Run.fin ?_
    | refine Run.exit rfl ?_
  refine Run.loop ?_
  refine hLp.out _ ?_ _ _ _ _ _ _ _ _ _ _ _ _ _ _ _ _ _ _ _ _ _ _ _ _ _ _ _ _ _ _ _ _ _ _ _ _ _ _ _
  clear hLp
  intro w' v y3 y4 y5 y10 y11 y12 y13 y14 y15 y16 y17 y18 y19 y20 y21 y22 y23 y24 y25 y26 y27 y28 y29 y30 y31 y32 y33 y34 y35 y36 y37 y38 y39 y40 y41 y42 y43 y44 y45 hr ho t1 t2 t3 t4 t5
  obtain ⟨A, c, rfl, hA⟩ := ho.nums
  replace hK := Lib.hid (hK.out (X.up w'.heap.size) _ w' ⟨rfl, ⟨t1, t2, t3, t4, fun b hb hne => t5 b hb hne⟩, .inl ⟨hok, A, c, rfl, hr, fun h0 => by
    obtain ⟨g, rfl, h1, h2, h3⟩ := hA (by rw [tks_len]; exact h0)
    exact ⟨g, rfl, h1, h2, fun i hi => by rw [h3 i (by rw [tks_len]; exact hi), tks_get]⟩⟩⟩)
  rw [tks_len]
  clear hr ho hA t1 t2 t3 t4 t5 hX
  repeat first
    | refine Run.seq ?_
    | refine Run.skip ?_
    | refine Run.regionEnd ?_
    | refine Run.block ?_
    | refine Run.inBlock ?_
    | (refine Run.region ?_; simp only [List.size_toArray, List.length_cons, List.length_nil, Nat.reduceAdd, Nat.zero_add, List.range, List.range.loop])
    | (refine Run.cond rfl ?_; simp only [if_true, if_false, Bool.false_eq_true, ↓reduceIte])
    | (refine Run.unwanted rfl rfl ?_; walk_nrm)
    | (refine Run.op0 rfl rfl (by k_ne) (fun d K hK => by go_simp; exact hK) (fun d => by first | (simp [go_sem, *] <;> fail) | fail) ?_; try w_num)
    | refine Run.ret ?_
    | refine Run.fin ?_
    | refine Run.exit rfl ?_
  refine Run.leave2 rfl rfl Try.func18 rfl ?_
  exact hK.out
set_option maxRecDepth 100000 in
set_option maxHeartbeats 8000000 in
theorem longs_zero (s1 s2 : Option Addr) (c1 c2 : Nat) : Con Try.prog X 19 #[.slice s1 0 c1, .slice s2 0 c2] w (fun X' v w' => X' = X ∧ w' = w ∧ v = .bool true) := by
  refine ⟨Try.f19, _, Try.func19, nm19, rfl, fun b₀ a₀ ops₀ n₀ rest₀ k₀ cs hK => ?_⟩
  walk_nrmf Try.f19
  repeat first
    | refine Run.seq ?_
    | refine Run.skip ?_
    | refine Run.regionEnd ?_
    | refine Run.block ?_
    | refine Run.inBlock ?_
    | (refine Run.region ?_; simp only [List.size_toArray, List.length_cons, List.length_nil, Nat.reduceAdd, Nat.zero_add, List.range, List.range.loop])
    | (refine Run.cond rfl ?_; simp only [if_true, if_false, Bool.false_eq_true, ↓reduceIte])
    | (refine Run.unwanted rfl rfl ?_; walk_nrm)
    | (refine Run.op0 rfl rfl (by k_ne) (fun d K hK => by go_simp; exact hK) (fun d => by first | (simp [go_sem, *] <;> fail) | fail) ?_; try w_num)
    | refine Run.ret ?_
    | refine Run.fin ?_
    | refine Run.exit rfl ?_
    | (refine Run.loop ?_)
  refine Run.leave1 rfl rfl Try.func19 rfl ?_
  exact hK _ _ _ ⟨rfl, rfl, rfl⟩
end
end Go.Proofs.Ytboiolnnhmlieaa.Gang
