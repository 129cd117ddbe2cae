
/-
  Goroutine 0 beside leavers: append of steps to a list of its own.
  Conditions: stated lemma by lemma.
-/
import Derived.Test.YtboiolnnhmlieaaGc16
import Derived.Conc.AppendWalk
import Derived.Deep.DeepAppendWide
namespace Go.Proofs.Ytboiolnnhmlieaa.Gang
open Go.Conc Go.ConcN Go.RowKit Go.Conc.Lib Go.ConcR.Gen Go.ConcN.Gen
set_option linter.unusedVariables false
set_option linter.unusedSimpArgs false
section
variable {P : Program} {X : Cx} {b : Frame} {a : Act} {k : List Item} {cs : List Frame} {w : World} {ops : Array Oper} {n : Nat} {rest : List Nat} {o : Oper}
theorem Run.opE {R : Value → World → Prop} (ho : ops[n]? = some o) (hw : Region.wanted o (yielded ops a.tmps) = true) (hk : b.kind ≠ .early)
    (h : ∀ d, ∃ v w', (execOp a.eval o).run P (w.at d) = .ok (.value v) w' ∧ R v w' ∧ ∀ e ∈ (execOp a.eval o).events P (w.at d) #[], EvL X.Sh X.B e)
    (hW : ∀ v w', R v w' → Run P X (G (b.at (a.put o.dst v) (.inRegion ops rest :: k)) cs) w') : Run P X (G (b.at a (.inRegion ops (n :: rest) :: k)) cs) w :=
  Run.step rfl fun w₁ h₁ => by
    obtain ⟨d, rfl⟩ := h₁
    obtain ⟨v, w', h2, h3, h4⟩ := h d
    exact ⟨_, w', _, stepG_value ho hw hk h2, fun e he => h4 e (mem_listed he), hW v w' h3⟩
end
/-- the cells of a list of steps -/
def flat2 (xs : List (Int × Int)) : List Value := xs.flatMap fun x => [.int .i64 x.1, .int .i64 x.2]
theorem flat2_cons (x : Int × Int) (xs : List (Int × Int)) : flat2 (x :: xs) = .int .i64 x.1 :: .int .i64 x.2 :: flat2 xs := by simp [flat2]
theorem flat2_len (xs : List (Int × Int)) : (flat2 xs).length = xs.length * 2 := by
  induction xs with
  | nil => rfl
  | cons x xs ih => rw [flat2_cons, List.length_cons, List.length_cons, ih, List.length_cons]; omega
theorem flat2_app (a b : List (Int × Int)) : flat2 (a ++ b) = flat2 a ++ flat2 b := by simp [flat2]
theorem flat2_one (xs : List (Int × Int)) : ∀ u ∈ flat2 xs, u.oneCell' = true := fun u hu => by
  obtain ⟨x, _, hx⟩ := List.mem_flatMap.1 hu
  simp only [List.mem_cons, List.not_mem_nil, or_false] at hx
  rcases hx with rfl | rfl <;> rfl
theorem flat2_get : ∀ (xs : List (Int × Int)) (j : Nat) (h : j < xs.length), (flat2 xs)[j * 2]? = some (.int .i64 (xs[j]).1) ∧ (flat2 xs)[j * 2 + 1]? = some (.int .i64 (xs[j]).2)
  | x :: xs, 0, h => by rw [flat2_cons]; exact ⟨rfl, rfl⟩
  | x :: xs, j + 1, h => by
    have := flat2_get xs j (by simpa using h)
    rw [flat2_cons, show (j + 1) * 2 = j * 2 + 1 + 1 by omega]
    simpa using this
theorem flat2_split (xs : List (Int × Int)) (j : Nat) (u : Value) (h : (flat2 xs)[j]? = some u) : ∃ i, ∃ hi : i < xs.length, (j = i * 2 ∧ u = .int .i64 (xs[i]).1) ∨ (j = i * 2 + 1 ∧ u = .int .i64 (xs[i]).2) := by
  have hj : j < xs.length * 2 := by rw [← flat2_len]; exact (List.getElem?_eq_some_iff.1 h).1
  have hi : j / 2 < xs.length := by omega
  obtain ⟨h1, h2⟩ := flat2_get xs (j / 2) hi
  refine ⟨j / 2, hi, ?_⟩
  rcases Nat.mod_two_eq_zero_or_one j with hm | hm
  · have e : j = j / 2 * 2 := by omega
    rw [e] at h
    rw [h1] at h
    exact .inl ⟨e, (Option.some.inj h).symm⟩
  · have e : j = j / 2 * 2 + 1 := by omega
    rw [e] at h
    rw [h2] at h
    exact .inr ⟨e, (Option.some.inj h).symm⟩
theorem StepsAt.cells {ar off : Nat} {xs : List (Int × Int)} {w : World} (h : StepsAt (some ⟨ar, off, none⟩) xs w) : ∀ j u, (flat2 xs)[j]? = some u → w.cell? ((⟨ar, off, none⟩ : Addr).add j) = some u := fun j u hu => by
  obtain ⟨i, hi, hc⟩ := flat2_split xs j u hu
  obtain ⟨ar', off', e, _, hx⟩ := h (fun e => by subst e; simp at hi)
  cases e
  obtain ⟨c1, c2⟩ := hx i hi
  rw [Addr.add_lit]
  rcases hc with ⟨rfl, rfl⟩ | ⟨rfl, rfl⟩
  · exact c1
  · rw [← Nat.add_assoc]; exact c2
/-- a list of steps that is the first goroutine's own -/
def Own2 (w : World) (base : Nat) (v : Value) (xs : List (Int × Int)) : Prop := w.ownsRow base 31 2 v xs.length (flat2 xs)
theorem Own2.heap {w w' : World} {base : Nat} {v : Value} {xs : List (Int × Int)} (h : Own2 w base v xs) (hk : ∀ b, v.ownBlock = some b → w'.heap[b]? = w.heap[b]?) : Own2 w' base v xs := by
  rcases h.2 with ⟨rfl, e⟩ | ⟨g, cap, cur, rfl, h1, h2, h3⟩
  · exact ⟨h.1, .inl ⟨rfl, e⟩⟩
  · exact ⟨h.1, .inr ⟨g, cap, cur, rfl, h1, by rw [hk g rfl]; exact h2, h3⟩⟩
theorem Own2.steps {w : World} {base : Nat} {v : Value} {xs : List (Int × Int)} (h : Own2 w base v xs) :
    ∃ A cap, v = .slice A xs.length cap ∧ StepsAt A xs w ∧ ∀ b off, A = some ⟨b, off, none⟩ → base ≤ b ∧ b < w.heap.size ∧ v.ownBlock = some b := by
  rcases h.2 with ⟨rfl, e⟩ | ⟨g, cap, cur, rfl, h1, h2, h3, h4, h5, h6⟩
  · exact ⟨none, 0, by rw [e], fun hx => absurd (List.eq_nil_of_length_eq_zero e) hx, fun b off e => by cases e⟩
  · have hg : g < w.heap.size := by
      rcases Nat.lt_or_ge g w.heap.size with hl | hl
      · exact hl
      · rw [Array.getElem?_eq_none hl] at h2; cases h2
    have hc : ∀ j u, (flat2 xs)[j]? = some u → w.cell? ⟨g, j, none⟩ = some u := fun j u hu => by
      have hj : j < xs.length * 2 := by rw [← flat2_len]; exact (List.getElem?_eq_some_iff.1 hu).1
      have hcur : cur.toList[j]? = some u := by
        have := congrArg (fun l => l[j]?) h6
        rw [List.getElem?_take_of_lt hj, hu] at this
        exact this
      unfold World.cell?
      rw [h2]
      simpa using hcur
    refine ⟨some ⟨g, 0, none⟩, cap, rfl, fun hx => ⟨g, 0, rfl, hg, fun j hj => ?_⟩, fun b off e => by cases e; exact ⟨h1, hg, rfl⟩⟩
    obtain ⟨c1, c2⟩ := flat2_get xs j hj
    rw [Nat.zero_add]
    exact ⟨hc _ _ c1, hc _ _ c2⟩
theorem Own2.none (w : World) (base : Nat) : Own2 w base (.slice none 0 0) [] := World.ownsRow_nil w base 31 2
theorem Own2.lit {w : World} {base : Nat} (hb : base ≤ w.heap.size) : Own2 (w.alloc (.cells #[] 31)) base (.slice (some ⟨w.heap.size, 0, Option.none⟩) 0 0) [] :=
  World.ownsRow_made w #[] 0 hb (by unfold maxLen; omega) (by simp)
theorem info31b : (Try.prog.info? 31) = some Try.t31 := by kernel_rfl
theorem under32 : Try.prog.underlying 32 = some (.slice 31) := Try.underlying32
/-! every cell that an operation lists is a cell of a row -/
def Plainly (es : Array Event) : Prop := ∀ e ∈ es, ∀ ad, e.loc = .cell ad → ad.spot = none
theorem Plainly.push {es : Array Event} (h : Plainly es) {e : Event} (he : ∀ ad, e.loc = .cell ad → ad.spot = none) : Plainly (es.push e) := fun x hx => by
  rcases Array.mem_push.1 hx with hx | rfl
  · exact h x hx
  · exact he
theorem viewLoad_spot {P : Program} {w : World} {at_ k : Addr} {u : TypeId} {b : Bool} {r : Value × List Addr} (h : w.viewLoad P at_ u k b = .ok r) : ∀ ad ∈ r.2, ad.spot = none := by
  unfold World.viewLoad at h
  simp only [bind, Except.bind] at h
  split at h
  · cases h
  · split at h
    · simp only [pure, Except.pure, Except.ok.injEq] at h
      subst h
      intro ad hm
      simp only [List.mem_map] at hm
      obtain ⟨_, _, rfl⟩ := hm
      rfl
    · cases h
theorem viewStore_spot {P : Program} {w : World} {at_ k : Addr} {u : TypeId} {v : Value} {b : Bool} {r : World × List Addr} (h : w.viewStore P at_ u k v b = .ok r) : ∀ ad ∈ r.2, ad.spot = none := by
  unfold World.viewStore at h
  simp only [bind, Except.bind] at h
  repeat' (split at h <;> try cases h)
  all_goals
    intro ad hm
    simp only [List.mem_map] at hm
    obtain ⟨_, _, rfl⟩ := hm
    rfl
theorem cell_spot {w : World} {a : Addr} {v : Value} (h : w.cell? a = some v) : a.spot = none := by
  unfold World.cell? at h
  split at h
  · cases hs : a.spot with
    | none => rfl
    | some _ => rw [hs] at h; cases h
  · cases h
theorem Plainly.app {es : Array Event} (h : Plainly es) {l : List Addr} (hl : ∀ ad ∈ l, ad.spot = none) (f : Addr → Event) (hf : ∀ ad, (f ad).loc = .cell ad) : Plainly (es ++ l.toArray.map f) := fun e he ad hd => by
  rcases Array.mem_append.1 he with he | he
  · exact h e he ad hd
  · simp only [List.map_toArray, List.mem_toArray, List.mem_map] at he
    obtain ⟨x, hx, rfl⟩ := he
    rw [hf] at hd
    cases hd
    exact hl _ hx
theorem plainly {α : Type} {P : Program} (s : Sem α) : ∀ (w : World) (es : Array Event), Plainly es → Plainly (s.runT P w es).2 := by
  induction s with
  | pure a => intro w es h; exact h
  | load m a k ih =>
    intro w es h
    unfold Sem.runT
    split
    · next v hv => exact ih _ _ _ (h.push fun ad he => by cases he; exact cell_spot hv)
    · split
      · next v l hl =>
        unfold World.farLoad at hl
        split at hl
        · split at hl
          · next r hr =>
            cases hl
            exact ih _ _ _ (h.app (viewLoad_spot hr) _ fun _ => rfl)
          · cases hl
        · cases hl
      · exact h
  | store m a v k ih =>
    intro w es h
    have key : Plainly (match w.cell? a with
      | some _ => if w.frozen? a then ((.halt (.unsupported (.unsafePointer "a write to bytes that a string shares")) w : Result _), es) else k.runT P (w.setCell a v) (es.push ⟨.cell a, true, m == Mode.atomic⟩)
      | none => match w.farStore P a v (m == Mode.atomic) with
        | .ok (w, touched) => k.runT P w (es ++ touched.toArray.map (fun x => (⟨.cell x, true, m == Mode.atomic⟩ : Event)))
        | .error h => (.halt h w, es)).2 := by
      split
      · next u hu =>
        split
        · exact h
        · exact ih _ _ (h.push fun ad he => by cases he; exact cell_spot hu)
      · split
        · next w' l hl =>
          unfold World.farStore at hl
          split at hl
          · split at hl
            · next r hr =>
              cases hl
              exact ih _ _ (h.app (viewStore_spot hr) _ fun _ => rfl)
            · cases hl
          · cases hl
        · exact h
    cases v <;> first | exact key | exact h
  | new o k ih => intro w es h; exact ih _ _ _ h
  | shape r k ih => intro w es h; exact ih _ _ _ h
  | freeze a n k ih => intro w es h; exact ih _ _ h
  | frozen a k ih => intro w es h; exact ih _ _ _ h
  | getObj r k ih =>
    intro w es h
    unfold Sem.runT
    split
    · exact h
    · exact ih _ _ _ (h.push fun ad he => by cases he)
    · exact h
  | setObj r o k ih =>
    intro w es h
    unfold Sem.runT
    split
    · exact h
    · exact ih _ _ (h.push fun ad he => by cases he)
    · exact h
  | choose q k ih =>
    intro w es h
    unfold Sem.runT
    split
    · exact ih _ _ _ h
    · exact ih _ _ _ h
  | sys c k ih => intro w es h; exact ih _ _ _ (h.push fun ad he => by cases he)
  | program k ih => intro w es h; exact ih _ _ _ h
  | mark m k ih => intro w es h; exact ih _ _ (h.push fun ad he => by cases he)
  | halt h => intro w es h; exact h
theorem plainly_events {α : Type} {P : Program} (s : Sem α) (w : World) : Plainly (s.events P w #[]) := plainly s w #[] fun e he => by simp at he
theorem evL_own {X : Cx} {e : Event} {ad : Addr} (hl : e.loc = .cell ad) (hf : X.free ad.block) (hsp : ad.spot = none) : EvL X.Sh X.B e := by
  obtain ⟨loc, wr, sy⟩ := e
  obtain rfl : loc = .cell ad := hl
  obtain ⟨bk, off, sp⟩ := ad
  obtain rfl : sp = none := hsp
  refine ⟨fun x hx hs => ?_, by simp, by simp, hf.1⟩
  cases sy <;> simp only [MemAct.ofEvent, MemAct.touch?, Option.some.injEq] at hx <;> subst hx
  · exact absurd hs (hf.2 off)
  · simp
theorem evL_noRoom {X : Cx} {m : Mark} (hm : Neutral m) : EvL X.Sh X.B ⟨.mark m, false, true⟩ := by
  obtain rfl : m = .noRoom := hm
  exact ⟨fun x hx => by simp [MemAct.ofEvent, MemAct.touch?] at hx, by simp, by simp, trivial⟩
section
variable {X : Cx} {b : Frame} {a : Act} {k : List Item} {cs : List Frame} {w : World} {ops : Array Oper} {n : Nat} {rest : List Nat} {o : Oper}
/-- APPEND -/
theorem Run.app2 {base : Nat} {v : Value} {xs ys : List (Int × Int)} {A : Option Addr} {c : Nat} (ho : ops[n]? = some o) (hw : Region.wanted o (yielded ops a.tmps) = true) (hk : b.kind ≠ .early) (s x : Operand)
    (hop : o.op = .call { callee := .builtin .append, args := #[s, x], argTypes := #[32, 32] }) (hs : a.eval s = v) (hx : a.eval x = .slice A ys.length c)
    (hown : Own2 w base v xs) (hst : StepsAt A ys w) (hrd : X.reads A) (hfr : ∀ b, v.ownBlock = some b → X.free b) (hm : xs.length + ys.length ≤ 1048576) (hbase : base ≤ w.heap.size)
    (hW : ∀ v' w', Own2 w' base v' (xs ++ ys) → w.grownBy w' v.ownBlock → Run Try.prog X (G (b.at (a.put o.dst v') (.inRegion ops rest :: k)) cs) w') :
    Run Try.prog X (G (b.at a (.inRegion ops (n :: rest) :: k)) cs) w := by
  refine Run.opE (R := fun v' w' => Own2 w' base v' (xs ++ ys) ∧ w.grownBy w' v.ownBlock) ho hw hk (fun d => ?_) (fun v' w' h => hW v' w' h.1 h.2)
  have hown' : (w.at d).ownsRow base 31 2 v xs.length (flat2 xs) := Own2.heap hown fun _ _ => rfl
  have hnil : ys = [] → ∃ v' w', (execOp a.eval o).run Try.prog (w.at d) = .ok (.value v') w' ∧ (Own2 w' base v' (xs ++ ys) ∧ w.grownBy w' v.ownBlock) ∧ ∀ e ∈ (execOp a.eval o).events Try.prog (w.at d) #[], EvL X.Sh X.B e := fun e1 => by
    subst e1
    have hu := run_underlying (P := Try.prog) (w := w.at d) under32
    have hr : (Builtin.append_ #[32, 32] o.type #[v, .slice A 0 c]).run Try.prog (w.at d) = .ok v (w.at d) ∧ ∀ e ∈ (Builtin.append_ #[32, 32] o.type #[v, .slice A 0 c]).events Try.prog (w.at d) #[], EvL X.Sh X.B e := by
      rcases hown.2 with ⟨rfl, _⟩ | ⟨g, cap, cur, rfl, _, _, hnc, _⟩ <;> cases A <;> refine ⟨?_, fun e he => ?_⟩
      all_goals first
        | (simp [Builtin.append_, run_underlying under32, sizeOf, typeInfo, info31b, Builtin.lenOf, Builtin.firstCells, loadCells, loadCellsFrom, storeCells, *]; done)
        | (simp [Builtin.append_, run_underlying under32, sizeOf, typeInfo, info31b, Builtin.lenOf, Builtin.firstCells, loadCells, loadCellsFrom, storeCells, hnc] at he; done)
        | (simp [Builtin.append_, run_underlying under32, sizeOf, typeInfo, info31b, Builtin.lenOf, Builtin.firstCells, loadCells, loadCellsFrom, storeCells] at he; done)
    refine ⟨v, w.at d, ?_, ⟨by rw [List.append_nil]; exact hown', ⟨rfl, rfl, rfl, Nat.le_refl _, fun _ _ _ => rfl⟩⟩, fun e he => ?_⟩
    · unfold execOp
      simp only [hop, resolve, invoke, builtin, Sem.run_bind, Sem.run_pure, Result.andThen_ok, List.map_toArray, List.map_cons, List.map_nil, hs, hx, List.length_nil, hr.1]
    · rw [events_append_op s x 32 hop hs hx] at he
      exact hr.2 e he
  rcases A with _ | ⟨ar, off, sp⟩
  · have hn : ys = [] := by
      rcases ys with _ | ⟨y, ys⟩
      · rfl
      · obtain ⟨_, _, e, _⟩ := hst (by simp)
        cases e
    exact hnil hn
  · by_cases hsp : sp = Option.none
    · subst hsp
      have hst' : StepsAt (some ⟨ar, off, Option.none⟩) ys (w.at d) := hst.keep (Nat.le_refl _) (fun _ _ _ => rfl)
      obtain ⟨v', w', hr, h1, h2, _⟩ := run_append_own_wide (P := Try.prog) (w := w.at d) base 32 o.type 31 Try.t31 (.agg #[.int .i64 0, .int .i64 0]) 2 16 under32 info31b (by kernel_rfl) (by kernel_rfl) (by kernel_rfl) rfl (by decide) v xs.length (flat2 xs) hown'
        ⟨ar, off, Option.none⟩ ys.length c (flat2 ys) (flat2_len ys) hst'.cells (flat2_one ys) (by unfold maxLen; omega) (by omega) hbase
      have hev := events_append_where (P := Try.prog) (w := w.at d) base 32 o.type 31 Try.t31 (.agg #[.int .i64 0, .int .i64 0]) 2 16 under32 info31b (by kernel_rfl) (by kernel_rfl) (by kernel_rfl) v xs.length (flat2 xs) hown'
        ⟨ar, off, Option.none⟩ ys.length c (flat2 ys) (flat2_len ys) hst'.cells (flat2_one ys) (by unfold maxLen; omega) (by omega)
      refine ⟨v', w', ?_, ⟨?_, ⟨h2.os, h2.tape, h2.output, h2.size, h2.block⟩⟩, fun e he => ?_⟩
      · unfold execOp
        simp only [hop, resolve, invoke, builtin, Sem.run_bind, Sem.run_pure, Result.andThen_ok, List.map_toArray, List.map_cons, List.map_nil, hs, hx, hr]
      · unfold Own2
        rw [List.length_append, flat2_app]
        exact h1
      · rw [events_append_op s x 32 hop hs hx] at he
        rcases hev e he with ⟨ad, hl, hor⟩ | ⟨m, rfl, hm⟩
        · have hf : X.free ad.block := by
            rcases hor with ⟨_, hb⟩ | hb
            · rw [hb]; exact hrd ar off rfl
            · exact hfr _ hb.symm
          exact evL_own hl hf (plainly_events _ _ e he ad hl)
        · exact evL_noRoom hm
    · have hn : ys = [] := by
        rcases ys with _ | ⟨y, ys⟩
        · rfl
        · obtain ⟨_, _, e, _⟩ := hst (by simp)
          cases e
          exact absurd rfl hsp
      exact hnil hn
end
end Go.Proofs.Ytboiolnnhmlieaa.Gang
