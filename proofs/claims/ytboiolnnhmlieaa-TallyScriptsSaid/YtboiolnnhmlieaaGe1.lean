
/-
  A machine that draws numbers: if it comes to a stop on every tape, all its ways together are a tree. Tame operations: they touch rows of numbers alone, draw nothing unless they fail, and do the same whatever the tape. Kinds of slots: an operation on slots of the right kinds is tame, and what it yields is of the right kind. Every operation that the kinds admit is tame; code and frames of right kinds. The steps of a call whose functions have slots of the right kinds: each goes on, or draws an order, or dies. Goroutine 0 beside leavers: a region that draws its order, with calls behind which the context is another (a call that starts workers).
  Conditions: stated lemma by lemma.
-/
import Derived.Test.YtboiolnnhmlieaaGc6
import Derived.Test.YtboiolnnhmlieaaGc4
namespace Go.Proofs.Ytboiolnnhmlieaa.Brd
/-- what a state does: it stops, goes on without a draw, draws a number, or dies -/
inductive Kind (S : Type) where
  | stop
  | still (s : S)
  | draw (f : Nat → S)
  | dead
/-- all ways come to a stop where R holds -/
inductive Tree {S : Type} (kind : S → Kind S) (R : S → Prop) : S → Prop
  | stop (s : S) (h : kind s = .stop) (r : R s) : Tree kind R s
  | still (s s' : S) (h : kind s = .still s') (t : Tree kind R s') : Tree kind R s
  | draw (s : S) (f : Nat → S) (h : kind s = .draw f) (t : ∀ n, Tree kind R (f n)) : Tree kind R s
section
variable {S : Type} (kind : S → Kind S)
/-- n steps on the tape t, the first number at place d -/
def runs (t : Nat → Nat) : Nat → S → Nat → Option (S × Nat)
  | 0, s, d => some (s, d)
  | n + 1, s, d => match kind s with
    | .still s' => runs t n s' d
    | .draw f => runs t n (f (t d)) (d + 1)
    | _ => none
variable {kind}
theorem runs_add (t : Nat → Nat) : ∀ (n m : Nat) (s : S) (d : Nat), runs kind t (n + m) s d = (runs kind t n s d).bind fun p => runs kind t m p.1 p.2
  | 0, m, s, d => by simp [runs]
  | n + 1, m, s, d => by
    rw [Nat.add_right_comm, runs, runs]
    cases kind s with
    | still s' => exact runs_add t n m s' d
    | draw f => exact runs_add t n m (f (t d)) (d + 1)
    | _ => rfl
/-- BAR -/
theorem tree_of_runs {R : S → Prop} {s0 : S} (h : ∀ t : Nat → Nat, ∃ n s d, runs kind t n s0 0 = some (s, d) ∧ kind s = .stop ∧ R s) : Tree kind R s0 := by
  classical
  apply Classical.byContradiction
  intro hno
  -- the bad way
  have pick : ∀ s, ∃ s' : S, ∃ a : Nat, ¬ Tree kind R s → (match kind s with | .still s1 => s' = s1 ∧ ¬ Tree kind R s1 | .draw f => s' = f a ∧ ¬ Tree kind R (f a) | _ => True) := by
    intro s
    by_cases ht : Tree kind R s
    · exact ⟨s, 0, fun h => absurd ht h⟩
    · cases hk : kind s with
      | stop => exact ⟨s, 0, fun _ => trivial⟩
      | dead => exact ⟨s, 0, fun _ => trivial⟩
      | still s1 => exact ⟨s1, 0, fun _ => ⟨rfl, fun h => ht (.still s s1 hk h)⟩⟩
      | draw f =>
        have : ∃ n, ¬ Tree kind R (f n) := Classical.byContradiction fun hn => ht (.draw s f hk fun n => Classical.byContradiction fun h => hn ⟨n, h⟩)
        obtain ⟨n, hn⟩ := this
        exact ⟨f n, n, fun _ => ⟨rfl, hn⟩⟩
  let nx : S → S := fun s => (pick s).choose
  let an : S → Nat := fun s => (pick s).choose_spec.choose
  have hpick : ∀ s, ¬ Tree kind R s → (match kind s with | .still s1 => nx s = s1 ∧ ¬ Tree kind R s1 | .draw f => nx s = f (an s) ∧ ¬ Tree kind R (f (an s)) | _ => True) := fun s => (pick s).choose_spec.choose_spec
  let way : Nat → S := fun k => Nat.rec s0 (fun _ s => nx s) k
  have way0 : way 0 = s0 := rfl
  have wayS : ∀ k, way (k + 1) = nx (way k) := fun _ => rfl
  let isD : S → Bool := fun s => match kind s with | .draw _ => true | _ => false
  let cnt : Nat → Nat := fun k => Nat.rec 0 (fun i c => c + if isD (way i) then 1 else 0) k
  have cnt0 : cnt 0 = 0 := rfl
  have cntS : ∀ k, cnt (k + 1) = cnt k + if isD (way k) then 1 else 0 := fun _ => rfl
  have mono : ∀ i j, i ≤ j → cnt i ≤ cnt j := by
    intro i j hij
    induction j with
    | zero => obtain rfl : i = 0 := by omega
              exact Nat.le_refl _
    | succ j ih =>
      by_cases e : i = j + 1
      · subst e; exact Nat.le_refl _
      · have := ih (by omega)
        rw [cntS]
        omega
  have inj : ∀ i j, isD (way i) = true → isD (way j) = true → cnt i = cnt j → i = j := by
    intro i j hi hj e
    rcases Nat.lt_trichotomy i j with h | h | h
    · have := mono (i + 1) j h
      rw [cntS, hi] at this
      simp only [if_true] at this
      omega
    · exact h
    · have := mono (j + 1) i h
      rw [cntS, hj] at this
      simp only [if_true] at this
      omega
  let tp : Nat → Nat := fun j => if h : ∃ k, isD (way k) = true ∧ cnt k = j then an (way h.choose) else 0
  have htp : ∀ k, isD (way k) = true → tp (cnt k) = an (way k) := by
    intro k hk
    have h : ∃ k', isD (way k') = true ∧ cnt k' = cnt k := ⟨k, hk, rfl⟩
    show (if h : ∃ k', isD (way k') = true ∧ cnt k' = cnt k then an (way h.choose) else 0) = _
    rw [dif_pos h]
    have := inj _ _ h.choose_spec.1 hk h.choose_spec.2
    rw [this]
  obtain ⟨n, s, d, hrun, hstop, hR⟩ := h tp
  -- the run follows the bad way
  have follow : ∀ k, k ≤ n → (∃ p, runs kind tp k s0 0 = some p) → runs kind tp k s0 0 = some (way k, cnt k) ∧ ¬ Tree kind R (way k) := by
    intro k
    induction k with
    | zero => intro _ _; exact ⟨rfl, hno⟩
    | succ k ih =>
      intro hk hp
      have hpk : ∃ p, runs kind tp k s0 0 = some p := by
        obtain ⟨p, hp⟩ := hp
        rw [runs_add] at hp
        cases hr : runs kind tp k s0 0 with
        | none => rw [hr] at hp; cases hp
        | some q => exact ⟨q, rfl⟩
      obtain ⟨h1, h2⟩ := ih (by omega) hpk
      obtain ⟨p, hp⟩ := hp
      rw [runs_add, h1] at hp ⊢
      simp only [Option.bind_some] at hp ⊢
      have hq := hpick (way k) h2
      rw [wayS, cntS]
      cases hkd : kind (way k) with
      | stop => simp [runs, hkd] at hp
      | dead => simp [runs, hkd] at hp
      | still s1 =>
        rw [hkd] at hq
        simp only [] at hq
        have hd : isD (way k) = false := by show (match kind (way k) with | .draw _ => true | _ => false) = false; rw [hkd]
        rw [hd, hq.1]
        simp only [runs, hkd, Bool.false_eq_true, if_false, Nat.add_zero]
        exact ⟨trivial, hq.2⟩
      | draw f =>
        rw [hkd] at hq
        simp only [] at hq
        have hd : isD (way k) = true := by show (match kind (way k) with | .draw _ => true | _ => false) = true; rw [hkd]
        rw [hd, hq.1]
        simp only [runs, hkd, if_true]
        rw [htp k hd]
        exact ⟨rfl, hq.2⟩
  obtain ⟨h1, h2⟩ := follow n (Nat.le_refl _) ⟨_, hrun⟩
  rw [hrun] at h1
  injection h1 with h1
  injection h1 with h1 _
  subst h1
  exact h2 (.stop _ hstop hR)
end
end Go.Proofs.Ytboiolnnhmlieaa.Brd
namespace Go.Proofs.Ytboiolnnhmlieaa.Brd
open Go.Conc Go.ConcN Go.Proofs.Ytboiolnnhmlieaa.Gang
set_option linter.unusedVariables false
set_option linter.unusedSimpArgs false
def IntV (v : Value) : Prop := ∃ k n, v = .int k n
/-- an end that is no answer -/
def Halts (h : Halt) : Prop := (∃ v, h = .panic v) ∨ (∃ s, h = .stuck s) ∨ (∃ u, h = .unsupported u ∧ ∀ g, u ≠ .initOrder g)
section
variable (P : Program) (A n0 : Nat)
/-- the blocks that may be touched -/
def Own (b : Nat) : Prop := b = A ∨ n0 ≤ b
def Dead {α : Type} : Sem α → Prop
  | .halt h => Halts h
  | .program k => Dead (k P)
  | _ => False
def Tame {α : Type} (K : α → Prop) : Sem α → Prop
  | .pure a => K a
  | .load m a k => m = .plain ∧ Own A n0 a.block ∧ ∀ v, IntV v → Tame K (k v)
  | .store m a v k => (m = .plain ∧ Own A n0 a.block ∧ IntV v ∧ Tame K k) ∨ ∃ vs, v = .tuple vs
  | .new o k => (∃ cs e, o = .cells cs e ∧ ∀ v ∈ cs, IntV v) ∧ ∀ r, n0 ≤ r → Tame K (k r)
  | .program k => Tame K (k P)
  | .choose q k => ∀ n, Dead P (k n)
  | .halt h => Halts h
  | _ => False
/-- the blocks that may be touched are rows of numbers -/
structure IntsH (h : Array Obj) : Prop where
  low : n0 ≤ h.size
  row : ∀ b, Own A n0 b → b < h.size → ∃ cs e, h[b]? = some (.cells cs e) ∧ ∀ v ∈ cs, IntV v
structure GrowsH (h h' : Array Obj) : Prop where
  size : h.size ≤ h'.size
  out : ∀ b, ¬ Own A n0 b → h'[b]? = h[b]?
def SafeE (n : Nat) (evs : Array Event) : Prop := ∀ e ∈ evs, ∃ b o wr, e = ⟨.cell ⟨b, o, none⟩, wr, false⟩ ∧ Own A n0 b ∧ b < n
variable {P A n0}
theorem GrowsH.refl (h : Array Obj) : GrowsH A n0 h h := ⟨Nat.le_refl _, fun _ _ => rfl⟩
theorem GrowsH.trans {a b c : Array Obj} (h : GrowsH A n0 a b) (k : GrowsH A n0 b c) : GrowsH A n0 a c := ⟨Nat.le_trans h.size k.size, fun x hx => (k.out x hx).trans (h.out x hx)⟩
theorem SafeE.mono {n m : Nat} {evs : Array Event} (h : SafeE A n0 n evs) (hnm : n ≤ m) : SafeE A n0 m evs := fun e he => by
  obtain ⟨b, o, wr, h1, h2, h3⟩ := h e he
  exact ⟨b, o, wr, h1, h2, by omega⟩
/-- the two outcomes of a tame operation -/
def Outcome2 {α : Type} (P : Program) (A n0 : Nat) (K : α → Prop) (s : Sem α) (h : Array Obj) : Prop :=
  (∃ a h' evs, K a ∧ IntsH A n0 h' ∧ GrowsH A n0 h h' ∧ SafeE A n0 h'.size evs ∧ ∀ (w : World) es, w.heap = h → s.runT P w es = (.ok a { w with heap := h' }, es ++ evs)) ∨
  (∀ (w : World) es, w.heap = h → ∃ hl w' es', Halts hl ∧ s.runT P w es = (.halt hl w', es'))
theorem dead_halts {α : Type} (s : Sem α) : Dead P s → ∀ (w : World) es, ∃ hl w' es', Halts hl ∧ s.runT P w es = (.halt hl w', es') := by
  induction s with
  | halt h => intro hd w es; exact ⟨h, w, es, hd, rfl⟩
  | program k ih => intro hd w es; exact ih P hd w es
  | _ => intro hd; exact hd.elim
theorem cell_of {w : World} {a : Addr} {cs : Array Value} {e : TypeId} (hb : w.heap[a.block]? = some (.cells cs e)) : w.cell? a = if a.spot.isSome then none else cs[a.off]? := by
  unfold World.cell?
  rw [hb]
theorem stuck_none {α : Type} {w : World} {m : Mode} {a : Addr} {k : Value → Sem α} {es : Array Event} (hc : w.cell? a = none) (hv : ∀ x u, w.heap[a.block]? ≠ some (.view x u)) (hp : ∀ c e, w.heap[a.block]? ≠ some (.pending c e)) :
    ∃ hl w' es', Halts hl ∧ (Sem.load m a k).runT P w es = (.halt hl w', es') := by
  unfold Sem.runT
  rw [hc]
  simp only [World.farLoad, World.noCell]
  cases hh : w.heap[a.block]? with
  | none => exact ⟨_, _, _, .inr (.inl ⟨_, rfl⟩), rfl⟩
  | some o =>
    cases o with
    | view x u => exact absurd hh (hv x u)
    | pending c e => exact absurd hh (hp c e)
    | _ => exact ⟨_, _, _, .inr (.inl ⟨_, rfl⟩), rfl⟩
theorem stuck_store {α : Type} {w : World} {m : Mode} {a : Addr} {n : Int} {kd : IntKind} {k : Sem α} {es : Array Event} (hc : w.cell? a = none) (hv : ∀ x u, w.heap[a.block]? ≠ some (.view x u)) (hp : ∀ c e, w.heap[a.block]? ≠ some (.pending c e)) :
    ∃ hl w' es', Halts hl ∧ (Sem.store m a (.int kd n) k).runT P w es = (.halt hl w', es') := by
  unfold Sem.runT
  rw [hc]
  simp only [World.farStore, World.noCell]
  cases hh : w.heap[a.block]? with
  | none => exact ⟨_, _, _, .inr (.inl ⟨_, rfl⟩), rfl⟩
  | some o =>
    cases o with
    | view x u => exact absurd hh (hv x u)
    | pending c e => exact absurd hh (hp c e)
    | _ => exact ⟨_, _, _, .inr (.inl ⟨_, rfl⟩), rfl⟩
theorem cell_none_of_none {w : World} {a : Addr} (hb : w.heap[a.block]? = none) : w.cell? a = none := by
  unfold World.cell?
  rw [hb]
theorem run_tame {α : Type} {K : α → Prop} (s : Sem α) : Tame P A n0 K s → ∀ (h : Array Obj), IntsH A n0 h → Outcome2 P A n0 K s h := by
  induction s with
  | pure a => intro ht h hi; exact .inl ⟨a, h, #[], ht, hi, .refl h, fun e he => by simp at he, fun w es hw => by subst hw; simp [Sem.runT]⟩
  | load m a k ih =>
    intro ht h hi
    obtain ⟨rfl, ho, hk⟩ := ht
    by_cases hlt : a.block < h.size
    · obtain ⟨cs, e, hb, hint⟩ := hi.row _ ho hlt
      by_cases hsp : a.spot.isSome = true
      · exact .inr fun w es hw => stuck_none (by rw [cell_of (hw ▸ hb), if_pos hsp]) (by rw [hw, hb]; simp) (by rw [hw, hb]; simp)
      · cases hc : cs[a.off]? with
        | none => exact .inr fun w es hw => stuck_none (by rw [cell_of (hw ▸ hb), if_neg hsp, hc]) (by rw [hw, hb]; simp) (by rw [hw, hb]; simp)
        | some v =>
          have hv := hint v (Array.mem_of_getElem? hc)
          have hcell : ∀ w : World, w.heap = h → w.cell? a = some v := fun w hw => by rw [cell_of (hw ▸ hb), if_neg hsp, hc]
          have hrun : ∀ (w : World) es, w.heap = h → (Sem.load .plain a k).runT P w es = (k v).runT P w (es.push ⟨.cell a, false, false⟩) := fun w es hw => by
            rw [Sem.runT, hcell w hw]
            rfl
          rcases ih v (hk v hv) h hi with ⟨x, h', evs, k1, k2, k3, k4, k5⟩ | hh
          · refine .inl ⟨x, h', #[⟨.cell a, false, false⟩] ++ evs, k1, k2, k3, fun e he => ?_, fun w es hw => ?_⟩
            · rcases Array.mem_append.1 he with he | he
              · rw [Array.mem_singleton] at he
                subst he
                obtain ⟨b, o, sp⟩ := a
                obtain rfl : sp = none := by cases sp <;> simp_all
                exact ⟨b, o, false, rfl, ho, Nat.lt_of_lt_of_le hlt k3.size⟩
              · exact k4 e he
            · rw [hrun w es hw, k5 w _ hw, ← Array.append_assoc]
              rfl
          · exact .inr fun w es hw => by rw [hrun w es hw]; exact hh w _ hw
    · have hb : h[a.block]? = none := Array.getElem?_eq_none (by omega)
      exact .inr fun w es hw => stuck_none (cell_none_of_none (hw ▸ hb)) (by rw [hw, hb]; simp) (by rw [hw, hb]; simp)
  | store m a v k ih =>
    intro ht h hi
    rcases ht with ⟨rfl, ho, ⟨kd, n, rfl⟩, hk⟩ | ⟨vs, rfl⟩
    rotate_left
    · exact .inr fun w es hw => ⟨_, w, es, .inr (.inl ⟨_, rfl⟩), rfl⟩
    by_cases hlt : a.block < h.size
    · obtain ⟨cs, e, hb, hint⟩ := hi.row _ ho hlt
      by_cases hsp : a.spot.isSome = true
      · exact .inr fun w es hw => stuck_store (by rw [cell_of (hw ▸ hb), if_pos hsp]) (by rw [hw, hb]; simp) (by rw [hw, hb]; simp)
      · cases hc : cs[a.off]? with
        | none => exact .inr fun w es hw => stuck_store (by rw [cell_of (hw ▸ hb), if_neg hsp, hc]) (by rw [hw, hb]; simp) (by rw [hw, hb]; simp)
        | some u =>
          have hcell : ∀ w : World, w.heap = h → w.cell? a = some u := fun w hw => by rw [cell_of (hw ▸ hb), if_neg hsp, hc]
          have hfz : ∀ w : World, w.heap = h → w.frozen? a = false := fun w hw => by
            unfold World.frozen?
            rw [hw, hb]
            simp
          let h1 : Array Obj := h.modify a.block fun | .cells c elem frozen => .cells (if a.spot.isSome then c else c.setIfInBounds a.off (.int kd n)) elem frozen | o => o
          have hset : ∀ w : World, w.heap = h → w.setCell a (.int kd n) = { w with heap := h1 } := fun w hw => by
            subst hw
            rfl
          have hrun : ∀ (w : World) es, w.heap = h → (Sem.store .plain a (.int kd n) k).runT P w es = k.runT P { w with heap := h1 } (es.push ⟨.cell a, true, false⟩) := fun w es hw => by
            rw [Sem.runT, hcell w hw]
            · simp only [hfz w hw, Bool.false_eq_true, if_false, hset w hw]
              rfl
            · intro _ e; cases e
            · intro _ e; cases e
          have hsz : h1.size = h.size := Array.size_modify
          have hget : ∀ b, h1[b]? = if b = a.block then some (.cells (cs.setIfInBounds a.off (.int kd n)) e) else h[b]? := fun b => by
            show (h.modify a.block _)[b]? = _
            rw [Array.getElem?_modify]
            by_cases hba : b = a.block
            · subst hba
              rw [if_pos rfl, if_pos rfl, hb]
              simp [hsp]
            · rw [if_neg (fun e => hba e.symm), if_neg hba]
          have hi1 : IntsH A n0 h1 := ⟨by rw [hsz]; exact hi.low, fun b hob hbl => by
            rw [hget]
            by_cases hba : b = a.block
            · rw [if_pos hba]
              refine ⟨_, _, rfl, fun v hv => ?_⟩
              rw [Array.mem_iff_getElem?] at hv
              obtain ⟨i, hv⟩ := hv
              rw [Array.getElem?_setIfInBounds] at hv
              split at hv
              · split at hv
                · injection hv with hv
                  subst hv
                  exact ⟨kd, n, rfl⟩
                · cases hv
              · exact hint v (Array.mem_of_getElem? hv)
            · rw [if_neg hba]
              exact hi.row b hob (by rw [← hsz]; exact hbl)⟩
          have hg1 : GrowsH A n0 h h1 := ⟨by rw [hsz]; exact Nat.le_refl _, fun b hnb => by
            rw [hget, if_neg]
            rintro rfl
            exact hnb ho⟩
          rcases ih hk h1 hi1 with ⟨x, h', evs, k1, k2, k3, k4, k5⟩ | hh
          · refine .inl ⟨x, h', #[⟨.cell a, true, false⟩] ++ evs, k1, k2, hg1.trans k3, fun e he => ?_, fun w es hw => ?_⟩
            · rcases Array.mem_append.1 he with he | he
              · rw [Array.mem_singleton] at he
                subst he
                obtain ⟨b, o, sp⟩ := a
                obtain rfl : sp = none := by cases sp <;> simp_all
                exact ⟨b, o, true, rfl, ho, Nat.lt_of_lt_of_le hlt (by rw [← hsz]; exact k3.size)⟩
              · exact k4 e he
            · rw [hrun w es hw, k5 _ _ rfl, ← Array.append_assoc]
              rfl
          · exact .inr fun w es hw => by rw [hrun w es hw]; exact hh _ _ rfl
    · have hb : h[a.block]? = none := Array.getElem?_eq_none (by omega)
      exact .inr fun w es hw => stuck_store (cell_none_of_none (hw ▸ hb)) (by rw [hw, hb]; simp) (by rw [hw, hb]; simp)
  | new o k ih =>
    intro ht h hi
    obtain ⟨⟨cs, e, rfl, hint⟩, hk⟩ := ht
    have hi1 : IntsH A n0 (h.push (.cells cs e)) := ⟨by rw [Array.size_push]; have := hi.low; omega, fun b hob hbl => by
      rw [Array.size_push] at hbl
      by_cases hbs : b = h.size
      · subst hbs
        exact ⟨cs, e, by simp, hint⟩
      · obtain ⟨cs', e', h1, h2⟩ := hi.row b hob (by omega)
        exact ⟨cs', e', by rw [Array.getElem?_push, if_neg hbs]; exact h1, h2⟩⟩
    have hg1 : GrowsH A n0 h (h.push (.cells cs e)) := ⟨by rw [Array.size_push]; omega, fun b hnb => by
      rw [Array.getElem?_push, if_neg]
      rintro rfl
      exact hnb (.inr hi.low)⟩
    have hrun : ∀ (w : World) es, w.heap = h → (Sem.new (.cells cs e) k).runT P w es = (k h.size).runT P { w with heap := h.push (.cells cs e) } es := fun w es hw => by
      subst hw
      rfl
    rcases ih h.size (hk _ hi.low) _ hi1 with ⟨x, h', evs, k1, k2, k3, k4, k5⟩ | hh
    · exact .inl ⟨x, h', evs, k1, k2, hg1.trans k3, k4, fun w es hw => by rw [hrun w es hw, k5 _ _ rfl]⟩
    · exact .inr fun w es hw => by rw [hrun w es hw]; exact hh _ _ rfl
  | program k ih => intro ht h hi; exact ih P ht h hi
  | choose q k ih =>
    intro ht h hi
    refine .inr fun w es hw => ?_
    rw [Sem.runT]
    split
    · exact dead_halts _ (ht _) _ _
    · exact dead_halts _ (ht _) _ _
  | halt hl => intro ht h hi; exact .inr fun w es hw => ⟨hl, w, es, ht, rfl⟩
  | _ => intro ht; exact ht.elim
theorem Tame.mono {α : Type} {K K' : α → Prop} (hK : ∀ a, K a → K' a) (s : Sem α) : Tame P A n0 K s → Tame P A n0 K' s := by
  induction s with
  | pure a => exact hK a
  | load m a k ih => exact fun h => ⟨h.1, h.2.1, fun v hv => ih v (h.2.2 v hv)⟩
  | store m a v k ih => exact fun h => h.imp (fun h => ⟨h.1, h.2.1, h.2.2.1, ih h.2.2.2⟩) id
  | new o k ih => exact fun h => ⟨h.1, fun r hr => ih r (h.2 r hr)⟩
  | program k ih => exact fun h => ih P h
  | choose q k ih => exact id
  | halt h => exact id
  | _ => exact False.elim
theorem Dead.bind {α β : Type} (f : α → Sem β) (s : Sem α) : Dead P s → Dead P (s.bind f) := by
  induction s with
  | halt h => exact id
  | program k ih => exact fun h => ih P h
  | _ => exact False.elim
theorem Tame.bind {α β : Type} {K : α → Prop} {K' : β → Prop} (f : α → Sem β) (hf : ∀ a, K a → Tame P A n0 K' (f a)) (s : Sem α) : Tame P A n0 K s → Tame P A n0 K' (s.bind f) := by
  induction s with
  | pure a => exact hf a
  | load m a k ih => exact fun h => ⟨h.1, h.2.1, fun v hv => ih v (h.2.2 v hv)⟩
  | store m a v k ih => exact fun h => h.imp (fun h => ⟨h.1, h.2.1, h.2.2.1, ih h.2.2.2⟩) id
  | new o k ih => exact fun h => ⟨h.1, fun r hr => ih r (h.2 r hr)⟩
  | program k ih => exact fun h => ih P h
  | choose q k ih => exact fun h n => Dead.bind f _ (h n)
  | halt h => exact id
  | _ => exact False.elim
end
end Go.Proofs.Ytboiolnnhmlieaa.Brd
namespace Go.Proofs.Ytboiolnnhmlieaa.Brd
open Go.Conc Go.ConcN Go.Proofs.Ytboiolnnhmlieaa.Gang
set_option linter.unusedVariables false
set_option linter.unusedSimpArgs false
inductive Kd where
  | int | bool | ptr | slice | any
  | tup (l : List Bool)
def Kd.same : Kd → Kd → Bool
  | .int, .int | .bool, .bool | .ptr, .ptr | .slice, .slice => true
  | .tup a, .tup b => a == b
  | _, _ => false
theorem Kd.same_eq {a b : Kd} (h : a.same b = true) : a = b := by
  cases a <;> cases b <;> simp_all [Kd.same]
/-- a value of this kind may go where that kind is wanted -/
def Kd.sub (a b : Kd) : Bool := (match b with | .any => true | _ => false) || a.same b
section
variable (A n0 : Nat)
def BoolV (v : Value) : Prop := ∃ b, v = .bool b
def Fit : Kd → Value → Prop
  | .int, v => v = undef ∨ IntV v
  | .bool, v => v = undef ∨ BoolV v
  | .ptr, v => v = undef ∨ v = .pointer none ∨ ∃ a, v = .pointer (some a) ∧ Own A n0 a.block
  | .slice, v => v = undef ∨ (∃ l c, v = .slice none l c) ∨ ∃ a l c, v = .slice (some a) l c ∧ Own A n0 a.block
  | .any, _ => True
  | .tup l, v => ∃ vs, v = .tuple vs ∧ ∀ (i : Nat) (w : Value), vs[i]? = some w → match l[i]? with | some true => w = undef ∨ IntV w | some false => w = undef ∨ BoolV w | none => True
variable {A n0}
theorem Fit.undef (k : Kd) : Fit A n0 k undef := by
  cases k
  · exact .inl rfl
  · exact .inl rfl
  · exact .inl rfl
  · exact .inl rfl
  · trivial
  · exact ⟨#[], rfl, fun i w h => by simp at h⟩
theorem Fit.sub {a b : Kd} {v : Value} (h : Fit A n0 a v) (hs : a.sub b = true) : Fit A n0 b v := by
  unfold Kd.sub at hs
  rw [Bool.or_eq_true] at hs
  rcases hs with h1 | h1
  · cases b <;> first | trivial | cases h1
  · rw [← Kd.same_eq h1]; exact h
end
/-- what is known of a function -/
structure FT where
  params : List Kd
  kinds : Array Kd
  res : Kd
section
variable (P : Program) (Γ : FuncId → Option FT) (ft : FT)
def kd (x : Operand) : Kd := match x with
  | .tmp t => ft.kinds.getD t .any
  | .const (.int _ _) => .int
  | .const (.bool _) => .bool
  | _ => .any
def isIntT (t : TypeId) : Bool := match P.underlying t with | some (.int _) => true | _ => false
def isCmp (op : BinOp) : Bool := match op with | .eql | .neq | .lss | .leq | .gtr | .geq => true | _ => false
def dkd (o : Oper) : Kd := match o.dst with | some d => ft.kinds.getD d .any | none => .any
def isIntB (v : Value) : Bool := match v with | .int _ _ => true | _ => false
def zeroInts (e : TypeId) : Bool := match (P.info? e).bind (·.zero) with | some z => z.cells.all isIntB | none => false
def oneCellT (t : TypeId) : Bool := match P.info? t with | some i => i.size == 1 | none => false
def sliceT (t : TypeId) : Bool := match P.underlying t with | some (.slice e) => (P.info? e).isSome | _ => false
def stringT (t : TypeId) : Bool := match P.underlying t with | some .string => true | _ => false
def argsOk : List Kd → List Kd → Bool
  | [], [] => true
  | a :: xs, b :: bs => a.sub b && argsOk xs bs
  | _, _ => false
def opOk (o : Oper) : Bool := match o.op with
  | .move x | .assign x => (kd ft x).sub (dkd ft o)
  | .pick _ a b => (kd ft a).sub (dkd ft o) && (kd ft b).sub (dkd ft o)
  | .alloc e => zeroInts P e && Kd.ptr.sub (dkd ft o)
  | .load t a => isIntT P t && (kd ft a).same .ptr && Kd.int.sub (dkd ft o)
  | .store t a x => isIntT P t && oneCellT P t && (kd ft a).same .ptr && (kd ft x).same .int
  | .nilCheck x => (kd ft x).same .ptr && Kd.ptr.sub (dkd ft o)
  | .binOp op t x y _ => (kd ft x).same .int && (kd ft y).same .int && (if isCmp op then isIntT P t && Kd.bool.sub (dkd ft o) else Kd.int.sub (dkd ft o))
  | .unOp .not _ x => (kd ft x).same .bool && Kd.bool.sub (dkd ft o)
  | .convert s d x => isIntT P s && isIntT P d && (kd ft x).same .int && Kd.int.sub (dkd ft o)
  | .indexAddr t x ix => sliceT P t && (kd ft x).same .slice && (kd ft ix).same .int && Kd.ptr.sub (dkd ft o)
  | .index t (.const (.string _)) ix => stringT P t && (kd ft ix).same .int && Kd.int.sub (dkd ft o)
  | .extract x i => (match kd ft x with | .tup l => (match l[i]? with | some true => Kd.int.sub (dkd ft o) | some false => Kd.bool.sub (dkd ft o) | none => false) | _ => false)
  | .call { callee := .value (.func f), args, .. } => (match Γ f with | some ft' => argsOk (args.toList.map (kd ft)) ft'.params && ft'.res.sub (dkd ft o) | none => false)
  | .call { callee := .builtin .len, args, argTypes } => (match args.toList, argTypes.toList with | [x], [t] => sliceT P t && (kd ft x).same .slice && Kd.int.sub (dkd ft o) | _, _ => false)
  | _ => false
end
section
variable {P : Program} {Γ : FuncId → Option FT} {ft : FT} {A n0 : Nat}
def TmpsOk (A n0 : Nat) (ft : FT) (tmps : Array Value) : Prop := ∀ t, Fit A n0 (ft.kinds.getD t .any) (tmps.getD t undef)
theorem TmpsOk.eval {a : Act} (h : TmpsOk A n0 ft a.tmps) (x : Operand) : Fit A n0 (kd ft x) (a.eval x) := by
  cases x with
  | tmp t => exact h t
  | const v =>
    cases v <;> first | trivial | exact .inr ⟨_, _, rfl⟩ | exact .inr ⟨_, rfl⟩
  | global g => trivial
  | func f => trivial
theorem TmpsOk.put {a : Act} (h : TmpsOk A n0 ft a.tmps) {o : Oper} {v : Value} (hv : Fit A n0 (dkd ft o) v) : TmpsOk A n0 ft (a.put o.dst v).tmps := by
  intro t
  unfold dkd at hv
  cases hd : o.dst with
  | none => exact h t
  | some d =>
    rw [hd] at hv
    have e1 : (a.put (some d) v).tmps.getD t undef = if d = t then (if t < a.tmps.size then v else undef) else a.tmps.getD t undef := by
      simp only [Act.put, Array.getD_eq_getD_getElem?, Array.getElem?_setIfInBounds]
      by_cases e : d = t
      · subst e
        rw [if_pos rfl, if_pos rfl]
        split <;> rfl
      · rw [if_neg e, if_neg e]
    rw [e1]
    by_cases e : d = t
    · subst e
      rw [if_pos rfl]
      split
      · exact hv
      · exact Fit.undef _
    · rw [if_neg e]
      exact h t
/-- what an operation may lead to -/
def NextOk (A n0 : Nat) (P : Program) (Γ : FuncId → Option FT) (dk : Kd) : Next → Prop
  | .value v => Fit A n0 dk v
  | .skip => True
  | .enter f args => ∃ ft', Γ f = some ft' ∧ ft'.res.sub dk = true ∧ args.size = ft'.params.length ∧ ∀ i, Fit A n0 (ft'.params[i]?.getD .any) (args.getD i undef)
  | _ => False
theorem tame_v {dk : Kd} {s : Sem Value} (h : Tame P A n0 (Fit A n0 dk) s) : Tame P A n0 (NextOk A n0 P Γ dk) (do pure (.value (← s))) := Tame.bind _ (fun a ha => ha) s h
theorem tame_u {dk : Kd} {s : Sem Unit} (h : Tame P A n0 (fun _ => True) s) : Tame P A n0 (NextOk A n0 P Γ dk) (do s; pure .skip) := by
  refine Tame.bind (K := fun _ => True) _ ?_ s h
  intro a ha
  exact (trivial : NextOk A n0 P Γ dk .skip)
theorem isIntT_spec {t : TypeId} (h : isIntT P t = true) : ∃ k, P.underlying t = some (.int k) := by
  unfold isIntT at h
  split at h
  · exact ⟨_, by assumption⟩
  · cases h
theorem sliceT_spec {t : TypeId} (h : sliceT P t = true) : ∃ e i, P.underlying t = some (.slice e) ∧ P.info? e = some i := by
  unfold sliceT at h
  split at h
  · exact ⟨_, _, by assumption, (Option.eq_some_of_isSome h)⟩
  · cases h
theorem stringT_spec {t : TypeId} (h : stringT P t = true) : P.underlying t = some .string := by
  unfold stringT at h
  split at h
  · assumption
  · cases h
theorem dead_panic (v : Value) {α : Type} : Dead P (goPanic v : Sem α) := .inl ⟨v, rfl⟩
theorem halts_panic (v : Value) : Halts (.panic v) := .inl ⟨v, rfl⟩
theorem halts_stuck (s : String) : Halts (.stuck s) := .inr (.inl ⟨s, rfl⟩)
theorem halts_unsup (u : Unsupported) (h : ∀ g, u ≠ .initOrder g) : Halts (.unsupported u) := .inr (.inr ⟨u, rfl, h⟩)
theorem tame_nilDeref {α : Type} {K : α → Prop} : Tame P A n0 K (runtimePanic .nilDeref) := halts_panic _
theorem dead_bounds {α : Type} (x y : Int) (s : Bool) (c : BoundsCode) : Dead P (runtimePanic (.bounds x y s c) : Sem α) := halts_panic _
theorem tame_bounds {α : Type} {K : α → Prop} (k : IntKind) (x y : Int) (c : BoundsCode) : Tame P A n0 K (boundsPanic k x y c) := by
  unfold boundsPanic
  by_cases h : (k != .u64 && decide (0 ≤ x) && decide (x ≤ 31)) = true
  · simp only [h, if_true]
    exact fun n => dead_bounds _ _ _ _
  · simp only [h]
    exact halts_panic _
theorem tame_error {α : Type} {K : α → Prop} (m : String) : Tame P A n0 K (runtimePanic (.error m)) := halts_panic _
theorem tame_binOp {op : BinOp} {t : TypeId} {x y : Operand} {a b : Value} (ha : a = undef ∨ IntV a) (hb : b = undef ∨ IntV b) (ht : isCmp op = true → ∃ k, P.underlying t = some (.int k)) :
    Tame P A n0 (Fit A n0 (if isCmp op then .bool else .int)) (do eqGuard op t x y a b; binOp op t a b) := by
  have hguard : eqGuard op t x y a b = pure () := by
    unfold eqGuard
    rcases ha with rfl | ⟨k, n, rfl⟩ <;> rcases hb with rfl | ⟨k', n', rfl⟩ <;> cases op <;> rfl
  rw [hguard]
  show Tame P A n0 _ (binOp op t a b)
  have heq : ∀ c d : Value, (c = undef ∨ IntV c) → (d = undef ∨ IntV d) → (c = undef ∨ d = undef) → (∃ k, P.underlying t = some (.int k)) → ∀ (K : Bool → Prop), Tame P A n0 K (Op.equal t c d) := by
    intro c d hc hd hu ⟨k, hk⟩ K
    unfold Op.equal Op.maxDepth
    rw [show (10000 : Nat) = 9999 + 1 from rfl, Op.equalIn]
    show Tame P A n0 K (Sem.bind (underlying t) _)
    refine Tame.bind (K := fun d => d = .int k) _ (fun x hx => ?_) _ ?_
    · subst hx
      rcases hc with rfl | ⟨k1, n1, rfl⟩ <;> rcases hd with rfl | ⟨k2, n2, rfl⟩
      · exact halts_stuck _
      · exact halts_stuck _
      · exact halts_stuck _
      · rcases hu with h | h <;> cases h
    · show Tame P A n0 _ (match P.underlying t with | some d => pure d | none => stuck _)
      rw [hk]
      rfl
  rcases ha with rfl | ⟨k, n, rfl⟩ <;> rcases hb with rfl | ⟨k', n', rfl⟩
  · cases op <;> first
      | exact halts_stuck _
      | (refine Tame.bind (K := fun _ => True) _ ?_ _ (heq _ _ (.inl rfl) (.inl rfl) (.inl rfl) (ht rfl) (fun _ => True)); intro r _; exact (.inr ⟨_, rfl⟩ : Fit A n0 .bool (.bool _)))
  · cases op <;> first
      | exact halts_stuck _
      | (refine Tame.bind (K := fun _ => True) _ ?_ _ (heq _ _ (.inl rfl) (.inr ⟨_, _, rfl⟩) (.inl rfl) (ht rfl) (fun _ => True)); intro r _; exact (.inr ⟨_, rfl⟩ : Fit A n0 .bool (.bool _)))
  · cases op <;> first
      | exact halts_stuck _
      | (refine Tame.bind (K := fun _ => True) _ ?_ _ (heq _ _ (.inr ⟨_, _, rfl⟩) (.inl rfl) (.inr rfl) (ht rfl) (fun _ => True)); intro r _; exact (.inr ⟨_, rfl⟩ : Fit A n0 .bool (.bool _)))
  · by_cases hkk : k = k'
    · subst hkk
      cases op <;> simp only [binOp, isCmp, if_true, ne_eq, not_true_eq_false, if_false, Bool.false_eq_true] <;> first
        | exact .inr ⟨_, _, rfl⟩
        | exact .inr ⟨_, rfl⟩
        | (unfold Op.intDiv; split; (exact tame_error _); exact .inr ⟨_, _, rfl⟩)
        | (unfold Op.shift; split; (exact tame_error _); exact .inr ⟨_, _, rfl⟩)
    · cases op <;> simp only [binOp, isCmp, if_true, ne_eq, hkk, not_false_eq_true, if_false, Bool.false_eq_true] <;> first
        | exact halts_stuck _
        | (unfold Op.shift; split; (exact tame_error _); exact .inr ⟨_, _, rfl⟩)
end
end Go.Proofs.Ytboiolnnhmlieaa.Brd
namespace Go.Proofs.Ytboiolnnhmlieaa.Brd
open Go.Conc Go.ConcN Go.Proofs.Ytboiolnnhmlieaa.Gang
set_option linter.unusedVariables false
set_option linter.unusedSimpArgs false
section
variable {P : Program} {Γ : FuncId → Option FT} {ft : FT} {A n0 : Nat}
theorem tame_under {t : TypeId} {d : TypeDesc} (h : P.underlying t = some d) {K : TypeDesc → Prop} (hK : K d) : Tame P A n0 K (underlying t) := by
  show Tame P A n0 _ (match P.underlying t with | some d => pure d | none => stuck _)
  rw [h]
  exact hK
theorem tame_info {t : TypeId} {i : TypeInfo} (h : P.info? t = some i) {K : TypeInfo → Prop} (hK : K i) : Tame P A n0 K (typeInfo t) := by
  show Tame P A n0 _ (match P.info? t with | some i => pure i | none => stuck _)
  rw [h]
  exact hK
theorem tame_isAgg {t : TypeId} {k : IntKind} (h : P.underlying t = some (.int k)) {K : Bool → Prop} (hK : K false) : Tame P A n0 K (isAgg t) := by
  unfold isAgg
  refine Tame.bind (K := fun d => d = .int k) _ ?_ _ (tame_under h rfl)
  intro d hd
  subst hd
  exact hK
theorem tame_load {t : TypeId} {v : Value} (ht : isIntT P t = true) (hv : Fit A n0 .ptr v) : Tame P A n0 (Fit A n0 .int) (Instr.loadAt t v) := by
  obtain ⟨k, hk⟩ := isIntT_spec ht
  rcases hv with rfl | rfl | ⟨a, rfl, ha⟩
  · exact halts_stuck _
  · exact halts_stuck _
  · show Tame P A n0 _ (loadVar t a)
    unfold loadVar
    refine Tame.bind (K := fun d => d = false) _ ?_ _ (tame_isAgg hk rfl)
    intro d hd
    subst hd
    exact ⟨rfl, ha, fun v hv => .inr hv⟩
theorem tame_store {t : TypeId} {p v : Value} (h1 : oneCellT P t = true) (hp : Fit A n0 .ptr p) (hv : Fit A n0 .int v) : Tame P A n0 (fun _ => True) (Instr.storeAt t p v) := by
  unfold oneCellT at h1
  cases hi : P.info? t with
  | none => rw [hi] at h1; cases h1
  | some i =>
  rw [hi] at h1
  have hs : i.size = 1 := by simpa using h1
  rcases hp with rfl | rfl | ⟨a, rfl, ha⟩
  · exact halts_stuck _
  · exact halts_stuck _
  · show Tame P A n0 _ (storeVar t a v)
    unfold storeVar sizeOf
    refine Tame.bind (K := fun n => n = 1) _ ?_ _ (Tame.bind (K := fun x => x = i) _ (fun x hx => by subst hx; exact hs) _ (tame_info hi rfl))
    intro n hn
    subst hn
    rcases hv with rfl | ⟨k, m, rfl⟩
    · dsimp only
      rw [if_neg (by simp [undef, Value.cells])]
      exact .inr ⟨_, rfl⟩
    · dsimp only
      rw [if_neg (by simp [Value.cells])]
      exact .inl ⟨rfl, by rw [show (a.add 0) = a from by unfold Addr.add; simp]; exact ha, ⟨k, m, rfl⟩, trivial⟩
theorem tame_alloc {e : TypeId} (h : zeroInts P e = true) : Tame P A n0 (Fit A n0 .ptr) (Instr.alloc e true (.tuple #[])) := by
  unfold zeroInts at h
  cases hi : P.info? e with
  | none => rw [hi] at h; cases h
  | some i =>
  rw [hi, Option.bind_some] at h
  cases hz : i.zero with
  | none => rw [hz] at h; cases h
  | some z =>
  rw [hz] at h
  simp only [Array.all_eq_true_iff_forall_mem] at h
  unfold Instr.alloc zeroValue
  refine Tame.bind (K := fun v => v = z) _ ?_ _ (Tame.bind (K := fun x => x = i) _ (fun x hx => by subst hx; show Tame P A n0 _ (match x.zero with | some v => pure v | none => unsupported _); rw [hz]; rfl) _ (tame_info hi rfl))
  intro v hv
  subst hv
  refine ⟨⟨_, _, rfl, fun x hx => ?_⟩, fun r hr => .inr (.inr ⟨_, rfl, .inr hr⟩)⟩
  have := h x hx
  unfold isIntB at this
  split at this
  · exact ⟨_, _, rfl⟩
  · cases this
theorem tame_nilCheck {v : Value} {dk : Kd} (hd : Kd.ptr.sub dk = true) (h : Fit A n0 .ptr v) {o : Oper} {ρ : Operand → Value} {x : Operand} (hx : ρ x = v) (ho : o.op = .nilCheck x) : Tame P A n0 (NextOk A n0 P Γ dk) (execOp ρ o) := by
  unfold execOp
  rw [ho]
  simp only [hx]
  rcases h with rfl | rfl | ⟨a, rfl, ha⟩
  · exact Fit.sub (a := .ptr) (.inl rfl) hd
  · exact tame_nilDeref
  · exact Fit.sub (a := .ptr) (.inr (.inr ⟨a, rfl, ha⟩)) hd
theorem tame_convert {s d : TypeId} {v : Value} (hs : isIntT P s = true) (hd : isIntT P d = true) (hv : Fit A n0 .int v) : Tame P A n0 (Fit A n0 .int) (convert s d v) := by
  obtain ⟨k1, h1⟩ := isIntT_spec hs
  obtain ⟨k2, h2⟩ := isIntT_spec hd
  unfold convert
  refine Tame.bind (K := fun x => x = .int k1) _ ?_ _ (tame_under h1 rfl)
  intro x hx
  subst hx
  refine Tame.bind (K := fun x => x = .int k2) _ ?_ _ (tame_under h2 rfl)
  intro y hy
  subst hy
  rcases hv with rfl | ⟨k, m, rfl⟩
  · exact halts_unsup _ (fun g h => by cases h)
  · exact .inr ⟨_, _, rfl⟩
theorem tame_indexAddr {t : TypeId} {v i : Value} (ht : sliceT P t = true) (hv : Fit A n0 .slice v) (hi : Fit A n0 .int i) : Tame P A n0 (Fit A n0 .ptr) (Instr.indexAt t v i) := by
  obtain ⟨e, inf, he, hinf⟩ := sliceT_spec ht
  unfold Instr.indexAt
  rcases hi with rfl | ⟨k, n, rfl⟩
  · exact halts_stuck _
  show Tame P A n0 _ (Sem.bind (underlying t) _)
  refine Tame.bind (K := fun x => x = .slice e) _ ?_ _ (tame_under he rfl)
  intro x hx
  subst hx
  rcases hv with rfl | ⟨l, c, rfl⟩ | ⟨a, l, c, rfl, ha⟩
  · exact halts_stuck _
  · show Tame P A n0 _ (Sem.bind (underlying t) _)
    refine Tame.bind (K := fun x => x = .slice e) _ ?_ _ (tame_under he rfl)
    intro x hx
    subst hx
    exact tame_bounds _ _ _ _
  · show Tame P A n0 _ (Sem.bind (underlying t) _)
    refine Tame.bind (K := fun x => x = .slice e) _ ?_ _ (tame_under he rfl)
    intro x hx
    subst hx
    show Tame P A n0 _ (if 0 ≤ n ∧ n < (l : Int) then _ else _)
    by_cases hb : 0 ≤ n ∧ n < (l : Int)
    · rw [if_pos hb]
      unfold sizeOf
      refine Tame.bind (K := fun _ => True) _ ?_ _ (by
        refine Tame.bind (K := fun x => x = inf) _ ?_ _ (tame_info hinf rfl)
        intro x hx
        exact (trivial : (fun _ : Nat => True) _))
      intro m _
      refine .inr (.inr ⟨_, rfl, ?_⟩)
      rw [addBlock]
      exact ha
    · rw [if_neg hb]
      simp only [Bool.and_false, Bool.false_eq_true, if_false]
      exact tame_bounds _ _ _ _
theorem tame_index {t : TypeId} {s : ByteArray} {i : Value} (ht : stringT P t = true) (hi : Fit A n0 .int i) : Tame P A n0 (Fit A n0 .int) (Instr.index t (.string s) i) := by
  have he := stringT_spec ht
  unfold Instr.index
  rcases hi with rfl | ⟨k, n, rfl⟩
  · exact halts_stuck _
  show Tame P A n0 _ (Sem.bind (underlying t) _)
  refine Tame.bind (K := fun x => x = .string) _ ?_ _ (tame_under he rfl)
  intro x hx
  subst hx
  show Tame P A n0 _ (match (if 0 ≤ n then s[n.toNat]? else none) with | some b => pure _ | none => boundsPanic _ _ _ _)
  cases (if 0 ≤ n then s[n.toNat]? else none) with
  | none => exact tame_bounds _ _ _ _
  | some b => exact .inr ⟨_, _, rfl⟩
theorem tame_not {t : TypeId} {v : Value} (hv : Fit A n0 .bool v) : Tame P A n0 (Fit A n0 .bool) (Op.unary .not v) := by
  rcases hv with rfl | ⟨b, rfl⟩
  · exact halts_stuck _
  · exact .inr ⟨_, rfl⟩
theorem tame_len {t ty : TypeId} {v : Value} (ht : sliceT P t = true) (hv : Fit A n0 .slice v) : Tame P A n0 (Fit A n0 .int) (Builtin.len_ #[t] ty #[v]) := by
  obtain ⟨e, inf, he, hinf⟩ := sliceT_spec ht
  unfold Builtin.len_
  show Tame P A n0 _ (Sem.bind (underlying t) _)
  refine Tame.bind (K := fun x => x = .slice e) _ ?_ _ (tame_under he rfl)
  intro x hx
  subst hx
  rcases hv with rfl | ⟨l, c, rfl⟩ | ⟨a, l, c, rfl, ha⟩
  · exact halts_stuck _
  · exact .inr ⟨_, _, rfl⟩
  · exact .inr ⟨_, _, rfl⟩
def FT.ok (ft : FT) : Prop := ∀ i, (h : i < ft.params.length) → ft.kinds.getD i .any = ft.params[i]
def codeOk (P : Program) (Γ : FuncId → Option FT) (ft : FT) : Code → Bool
  | .skip | .ret | .exit _ => true
  | .seq a b | .cond _ a b => codeOk P Γ ft a && codeOk P Γ ft b
  | .block _ c | .loop c => codeOk P Γ ft c
  | .region _ ops _ => ops.all (opOk P Γ ft)
  | _ => false
theorem same_fit {k k' : Kd} {v : Value} (h : k.same k' = true) (hv : Fit A n0 k v) : Fit A n0 k' v := by rw [← Kd.same_eq h]; exact hv
theorem args_fit : ∀ (xs : List Operand) (ps : List Kd) (a : Act), TmpsOk A n0 ft a.tmps → argsOk (xs.map (kd ft)) ps = true → xs.length = ps.length ∧ ∀ i : Nat, Fit A n0 (ps[i]?.getD .any) ((xs.map a.eval)[i]?.getD undef)
  | [], [], a, _, _ => ⟨rfl, fun i => by simp; trivial⟩
  | [], p :: ps, a, _, h => by cases h
  | x :: xs, [], a, _, h => by cases h
  | x :: xs, p :: ps, a, ht, h => by
    simp only [List.map_cons, argsOk, Bool.and_eq_true] at h
    obtain ⟨h1, h2⟩ := args_fit xs ps a ht h.2
    refine ⟨by simp [h1], fun i => ?_⟩
    cases i with
    | zero => exact (ht.eval x).sub h.1
    | succ i => simpa using h2 i
/-- the functions are as said -/
def GamOk (P : Program) (Γ : FuncId → Option FT) : Prop := ∀ f ft, Γ f = some ft → ∃ fn c, P.funcs[f]? = some fn ∧ (fn.name == "runtime.NumGoroutine") = false ∧ fn.body = some c ∧ codeOk P Γ ft c = true ∧ ft.ok ∧
  ((fn.results = #[]) ∨ (∃ t, fn.results = #[.tmp t] ∧ (ft.kinds.getD t .any).sub ft.res = true) ∨ ∃ t u l, fn.results = #[.tmp t, .tmp u] ∧ ft.res = .tup l ∧
    (∀ v w : Value, Fit A n0 (ft.kinds.getD t .any) v → Fit A n0 (ft.kinds.getD u .any) w → Fit A n0 (.tup l) (.tuple #[v, w])))
set_option maxHeartbeats 1000000 in
theorem tame_op (hΓ : GamOk (A := A) (n0 := n0) P Γ) {o : Oper} {a : Act} (h : TmpsOk A n0 ft a.tmps) (ho : opOk P Γ ft o = true) : Tame P A n0 (NextOk A n0 P Γ (dkd ft o)) (execOp a.eval o) := by
  unfold opOk at ho
  split at ho
  · next x hx => unfold execOp; rw [hx]; exact (h.eval x).sub ho
  · next x hx => unfold execOp; rw [hx]; exact (h.eval x).sub ho
  · next c x y hx =>
    rw [Bool.and_eq_true] at ho
    unfold execOp
    rw [hx]
    show Tame P A n0 _ (Sem.bind (asBool (a.eval c)) _)
    refine Tame.bind (K := fun _ => True) _ ?_ _ ?_
    · intro b _
      show Fit A n0 _ (if b = true then a.eval x else a.eval y)
      split
      · exact (h.eval x).sub ho.1
      · exact (h.eval y).sub ho.2
    · unfold asBool
      split
      · exact (trivial : (fun _ : Bool => True) _)
      · exact halts_stuck _
  · next e hx =>
    rw [Bool.and_eq_true] at ho
    unfold execOp
    rw [hx]
    exact tame_v (Tame.mono (fun v hv => hv.sub ho.2) _ (tame_alloc ho.1))
  · next t x hx =>
    simp only [Bool.and_eq_true] at ho
    unfold execOp
    rw [hx]
    exact tame_v (Tame.mono (fun v hv => hv.sub ho.2) _ (tame_load ho.1.1 (same_fit ho.1.2 (h.eval x))))
  · next t x y hx =>
    simp only [Bool.and_eq_true] at ho
    unfold execOp
    rw [hx]
    exact tame_u (tame_store ho.1.1.2 (same_fit ho.1.2 (h.eval x)) (same_fit ho.2 (h.eval y)))
  · next x hx =>
    rw [Bool.and_eq_true] at ho
    exact tame_nilCheck ho.2 (same_fit ho.1 (h.eval x)) rfl hx
  · next op t x y _ hx =>
    simp only [Bool.and_eq_true] at ho
    unfold execOp
    rw [hx]
    refine tame_v (Tame.mono (fun v hv => ?_) _ (tame_binOp (same_fit ho.1.1 (h.eval x)) (same_fit ho.1.2 (h.eval y)) (fun hc => ?_)))
    · have h2 := ho.2
      by_cases hc : isCmp op = true
      · rw [if_pos hc] at hv h2
        rw [Bool.and_eq_true] at h2
        exact hv.sub h2.2
      · rw [if_neg hc] at hv h2
        exact hv.sub h2
    · have h2 := ho.2
      rw [if_pos hc, Bool.and_eq_true] at h2
      exact isIntT_spec h2.1
  · next t x hx =>
    rw [Bool.and_eq_true] at ho
    unfold execOp
    rw [hx]
    exact tame_v (Tame.mono (fun v hv => hv.sub ho.2) _ (tame_not (t := t) (same_fit ho.1 (h.eval x))))
  · next s d x hx =>
    simp only [Bool.and_eq_true] at ho
    unfold execOp
    rw [hx]
    exact tame_v (Tame.mono (fun v hv => hv.sub ho.2) _ (tame_convert ho.1.1.1 ho.1.1.2 (same_fit ho.1.2 (h.eval x))))
  · next t x ix hx =>
    simp only [Bool.and_eq_true] at ho
    unfold execOp
    rw [hx]
    exact tame_v (Tame.mono (fun v hv => hv.sub ho.2) _ (tame_indexAddr ho.1.1.1 (same_fit ho.1.1.2 (h.eval x)) (same_fit ho.1.2 (h.eval ix))))
  · next t s ix hx =>
    simp only [Bool.and_eq_true] at ho
    unfold execOp
    rw [hx]
    exact tame_v (Tame.mono (fun v hv => hv.sub ho.2) _ (tame_index ho.1.1 (same_fit ho.1.2 (h.eval ix))))
  · next x i hx =>
    unfold execOp
    rw [hx]
    have hv := h.eval x
    split at ho
    · next l hl =>
      rw [hl] at hv
      obtain ⟨vs, hvs, hf⟩ := hv
      refine tame_v ?_
      rw [hvs]
      unfold Instr.extract
      dsimp only
      cases hi : vs[i]? with
      | none => exact halts_stuck _
      | some w =>
        have hw := hf i w hi
        split at ho
        · next hb => rw [hb] at hw; exact Fit.sub (a := .int) hw ho
        · next hb => rw [hb] at hw; exact Fit.sub (a := .bool) hw ho
        · cases ho
    · cases ho
  · next f args ats hx =>
    split at ho
    · next ft' hf =>
      rw [Bool.and_eq_true] at ho
      obtain ⟨fn, c, h1, h2, h3, _⟩ := hΓ f ft' hf
      obtain ⟨hl, hfit⟩ := args_fit args.toList ft'.params a h ho.1
      unfold execOp
      rw [hx]
      show Tame P A n0 _ (match P.funcs[f]? with | none => stuck _ | some fn => _)
      rw [h1]
      dsimp only
      rw [if_neg (by rw [h2]; simp), if_neg (by rw [h3]; simp)]
      refine ⟨ft', hf, ho.2, by simpa using hl, fun i => ?_⟩
      have := hfit i
      simpa [Array.getD_eq_getD_getElem?] using this
    · cases ho
  · next args ats hx =>
    split at ho
    · next x t h1 h2 =>
      obtain rfl : args = #[x] := by cases args; simp_all
      obtain rfl : ats = #[t] := by cases ats; simp_all
      simp only [Bool.and_eq_true] at ho
      unfold execOp
      rw [hx]
      show Tame P A n0 (NextOk A n0 P Γ (dkd ft o)) (do pure (.value (← Builtin.len_ #[t] o.type ((#[x] : Array Operand).map a.eval))))
      rw [show (#[x] : Array Operand).map a.eval = #[a.eval x] from by simp]
      exact tame_v (Tame.mono (fun v hv => hv.sub ho.2) _ (tame_len ho.1.1 (same_fit ho.1.2 (h.eval x))))
    · cases ho
  · cases ho
end
end Go.Proofs.Ytboiolnnhmlieaa.Brd
namespace Go.Proofs.Ytboiolnnhmlieaa.Brd
open Go.Conc Go.ConcN Go.Proofs.Ytboiolnnhmlieaa.Gang
set_option linter.unusedVariables false
set_option linter.unusedSimpArgs false
structure Fr where
  f : FuncId
  tmps : Array Value
  todo : List Item
  ret : Bool
def Fr.frame (x : Fr) : Frame := if x.ret then { (base x.f).at ⟨x.tmps, []⟩ x.todo with mode := .returning } else (base x.f).at ⟨x.tmps, []⟩ x.todo
structure St where
  h : Array Obj
  top : Fr
  rest : List Fr
def St.g (s : St) (cs : List Frame) : Goroutine := G s.top.frame (s.rest.map Fr.frame ++ cs)
def St.stop (s : St) : Bool := s.rest.isEmpty && s.top.ret
section
variable (P : Program) (Γ : FuncId → Option FT) (A n0 : Nat)
def itemOk (ft : FT) : Item → Bool
  | .code c | .inLoop c => codeOk P Γ ft c
  | .inBlock _ => true
  | .inRegion ops _ => ops.all (opOk P Γ ft)
  | _ => false
structure FrOk (x : Fr) (ft : FT) : Prop where
  gam : Γ x.f = some ft
  tmps : TmpsOk A n0 ft x.tmps
  items : ∀ it ∈ x.todo, itemOk P Γ ft it = true
def CallersOk : FT → List Fr → Prop
  | ft, [] => True
  | ft, y :: ys => y.ret = false ∧ ∃ ft', FrOk P Γ A n0 y ft' ∧ (∃ ops n rest k o, y.todo = .inRegion ops (n :: rest) :: k ∧ ops[n]? = some o ∧ ft.res.sub (dkd ft' o) = true) ∧ CallersOk ft' ys
structure Inv (s : St) : Prop where
  ints : IntsH A n0 s.h
  ok : ∃ ft, FrOk P Γ A n0 s.top ft ∧ CallersOk P Γ A n0 ft s.rest
def Still (s s' : St) : Prop := Inv P Γ A n0 s' ∧ GrowsH A n0 s.h s'.h ∧ ∀ (w : World) cs, w.heap = s.h → ∃ es, SafeE A n0 s'.h.size es ∧ stepG P true (s.g cs) w = .go (s'.g cs) { w with heap := s'.h } es
def Draws (s : St) (f : Nat → St) : Prop := ∃ q, ∀ n, Inv P Γ A n0 (f n) ∧ (f n).h = s.h ∧ ∀ (w : World) cs, w.heap = s.h → w.tape w.drawn q = n → stepG P true (s.g cs) w = .go ((f n).g cs) { w with drawn := w.drawn + 1 } #[]
def Dies (s : St) : Prop := s.top.ret = false ∧ ∀ (w : World) cs, w.heap = s.h → (∃ o w' es, stepG P true (s.g cs) w = .ended o w' es) ∨ (∃ chain w' es, stepG P true (s.g cs) w = .go (G { s.top.frame with mode := .panicking chain } (s.rest.map Fr.frame ++ cs)) w' es)
variable {P Γ A n0}
theorem same_heap (w : World) {h : Array Obj} (hw : w.heap = h) : { w with heap := h } = w := by subst hw; rfl
/-- a step that turns the frame alone -/
theorem Still.of {s : St} {ft : FT} {x : Fr} (hi : IntsH A n0 s.h) (hx : FrOk P Γ A n0 x ft) (hc : CallersOk P Γ A n0 ft s.rest) (hs : ∀ (w : World) cs, stepG P true (s.g cs) w = .go (G x.frame (s.rest.map Fr.frame ++ cs)) w #[]) : Still P Γ A n0 s ⟨s.h, x, s.rest⟩ :=
  ⟨⟨hi, ft, hx, hc⟩, .refl _, fun w cs hw => ⟨#[], fun e he => by simp at he, by rw [same_heap w hw]; exact hs w cs⟩⟩
theorem exitTo_mem : ∀ {id : Nat} {k k' : List Item}, exitTo id k = some k' → ∀ it ∈ k', it ∈ k
  | id, [], k', h => by simp [exitTo] at h
  | id, it :: k, k', h => by
    intro x hx
    cases it with
    | inBlock id' =>
      simp only [exitTo] at h
      split at h
      · injection h with h
        subst h
        exact List.mem_cons_of_mem _ hx
      · exact List.mem_cons_of_mem _ (exitTo_mem h x hx)
    | _ => exact List.mem_cons_of_mem _ (exitTo_mem (by simpa [exitTo] using h) x hx)
theorem run_of_runT {α : Type} {s : Sem α} {w : World} {r : Result α} {es : Array Event} (h : s.runT P w #[] = (r, es)) : s.run P w = r ∧ s.events P w #[] = es := by
  refine ⟨?_, ?_⟩
  · rw [← Sem.runT_fst (es := #[]), h]
  · unfold Sem.events
    rw [h]
theorem enter_ok {ft : FT} {args : Array Value} {m : Nat} (hft : ft.ok) (hsz : args.size = ft.params.length) (h : ∀ i : Nat, Fit A n0 (ft.params[i]?.getD .any) (args.getD i undef)) : TmpsOk A n0 ft (args ++ Array.replicate m undef) := by
  intro t
  by_cases ht : t < args.size
  · have h1 := hft t (by omega)
    have h2 := h t
    rw [List.getElem?_eq_getElem (show t < ft.params.length by omega), Option.getD_some] at h2
    rw [h1]
    rw [Array.getD_eq_getD_getElem?] at h2 ⊢
    rw [Array.getElem?_append_left ht]
    exact h2
  · rw [show (args ++ Array.replicate m undef).getD t undef = undef from by
      rw [Array.getD_eq_getD_getElem?, Array.getElem?_append_right (by omega), Array.getElem?_replicate]
      split <;> rfl]
    exact Fit.undef _
theorem stepG_cond_no {main : Bool} {b : Frame} {a : Act} {c : Operand} {x y : Code} {k : List Item} {cs : List Frame} {w : World} (h : ∀ t, a.eval c ≠ .bool t) : ∃ o w' es, stepG P main (G (b.at a (.code (.cond c x y) :: k)) cs) w = .ended o w' es := by
  have h' : (b.at a (.code (.cond c x y) :: k)).eval c = a.eval c := Frame.eval_at ..
  simp only [Frame.at] at h'
  cases hv : a.eval c <;> first | exact absurd hv (h _) | simp [G, stepG, stepG.exec, Frame.at, h', hv]
set_option maxHeartbeats 2000000 in
theorem progress (hΓ : GamOk (A := A) (n0 := n0) P Γ) {s : St} (hs : Inv P Γ A n0 s) : s.stop = true ∨ (∃ s', Still P Γ A n0 s s') ∨ (∃ f, Draws P Γ A n0 s f) ∨ Dies P s := by
  obtain ⟨h, ⟨f, tmps, todo, ret⟩, rest⟩ := s
  obtain ⟨hints, ft, hok, hcs⟩ := hs
  have hgam : Γ f = some ft := hok.gam
  have htmps : TmpsOk A n0 ft tmps := hok.tmps
  have hitems : ∀ it ∈ todo, itemOk P Γ ft it = true := hok.items
  obtain ⟨fn, c, hf, hname, hb, hcode, hftok, hres⟩ := hΓ f ft hgam
  cases ret with
  | true =>
    cases rest with
    | nil => exact .inl rfl
    | cons y ys =>
      refine .inr (.inl ?_)
      obtain ⟨hyr, ft', hyok, ⟨ops, n, rs, k, o, htodo, ho, hsub⟩, hcs'⟩ := hcs
      obtain ⟨yf, ytmps, ytodo, yret⟩ := y
      obtain rfl : yret = false := hyr
      obtain rfl : ytodo = .inRegion ops (n :: rs) :: k := htodo
      -- the value that is handed back
      have hv : ∃ v, Fit A n0 ft.res v ∧ ∀ w, (results fn tmps).run P w = .ok v w ∧ (results fn tmps).events P w #[] = #[] := by
        rcases hres with hr | ⟨t, hr, hk⟩ | ⟨t, u, l, hr, hk, hl⟩
        · exact ⟨.tuple #[], Fit.undef _, fun w => ⟨results_none hr _ P w, events_results_none hr _ _⟩⟩
        · exact ⟨tmps.getD t undef, (htmps t).sub hk, fun w => ⟨results_tmp hr _ P w, events_results_tmp hr _ _⟩⟩
        · exact ⟨.tuple #[tmps.getD t undef, tmps.getD u undef], by rw [hk]; exact hl _ _ (htmps t) (htmps u), fun w => ⟨results_tmp2 hr _ P w, events_results_tmp2 hr _ _⟩⟩
      obtain ⟨v, hfit, hrun⟩ := hv
      have hput : TmpsOk A n0 ft' (({ tmps := ytmps, defers := [] } : Act).put o.dst v).tmps := TmpsOk.put (a := ⟨ytmps, []⟩) hyok.tmps (hfit.sub hsub)
      refine ⟨⟨h, ⟨yf, (({ tmps := ytmps, defers := [] } : Act).put o.dst v).tmps, .inRegion ops rs :: k, false⟩, ys⟩, ⟨hints, ft', ⟨hyok.gam, hput, fun it hit => ?_⟩, hcs'⟩, .refl _, fun w cs hw => ⟨#[], fun e he => by simp at he, ?_⟩⟩
      · rcases List.mem_cons.1 hit with rfl | hit
        · have := hyok.items (.inRegion ops (n :: rs)) (List.mem_cons_self ..)
          exact this
        · exact hyok.items _ (List.mem_cons_of_mem _ hit)
      · rw [same_heap w hw]
        have := stepG_leave (P := P) (main := true) (b := base f) (a := ⟨tmps, []⟩) (todo := todo) (c := (base yf).at ⟨ytmps, []⟩ (.inRegion ops (n :: rs) :: k)) (cs := ys.map Fr.frame ++ cs) (w := w) rfl rfl hf (hrun w).1 (hrun w).2
        rw [Frame.finish_at, ho] at this
        have hd : ∀ d, (({ tmps := ytmps, defers := [] } : Act).put d v) = { tmps := (({ tmps := ytmps, defers := [] } : Act).put d v).tmps, defers := [] } := fun d => by cases d <;> rfl
        rw [show ((some o).bind fun x => x.dst) = o.dst from rfl, hd] at this
        exact this
  | false =>
    have fr_ok : ∀ {tm td}, TmpsOk A n0 ft tm → (∀ it ∈ td, itemOk P Γ ft it = true) → FrOk P Γ A n0 ⟨f, tm, td, false⟩ ft := fun h1 h2 => ⟨hgam, h1, h2⟩
    have fr_okr : ∀ {tm td}, TmpsOk A n0 ft tm → (∀ it ∈ td, itemOk P Γ ft it = true) → FrOk P Γ A n0 ⟨f, tm, td, true⟩ ft := fun h1 h2 => ⟨hgam, h1, h2⟩
    have still : ∀ (x : Fr), FrOk P Γ A n0 x ft → (∀ (w : World) cs, stepG P true (G ((base f).at ⟨tmps, []⟩ todo) cs) w = .go (G x.frame cs) w #[]) → ∃ s', Still P Γ A n0 ⟨h, ⟨f, tmps, todo, false⟩, rest⟩ s' := fun x hx hst =>
      ⟨_, Still.of (s := ⟨h, ⟨f, tmps, todo, false⟩, rest⟩) hints hx hcs (fun w cs => hst w _)⟩
    cases todo with
    | nil => exact .inr (.inl (still ⟨f, tmps, [], true⟩ (fr_okr htmps hitems) (fun w cs => stepG_end)))
    | cons it k =>
      have hit := hitems it (List.mem_cons_self ..)
      have hk : ∀ it ∈ k, itemOk P Γ ft it = true := fun it h => hitems it (List.mem_cons_of_mem _ h)
      have hk1 : ∀ x, itemOk P Γ ft x = true → ∀ it ∈ x :: k, itemOk P Γ ft it = true := fun x hx it h => by
        rcases List.mem_cons.1 h with rfl | h
        · exact hx
        · exact hk it h
      have hk2 : ∀ x y, itemOk P Γ ft x = true → itemOk P Γ ft y = true → ∀ it ∈ x :: y :: k, itemOk P Γ ft it = true := fun x y hx hy it h => by
        rcases List.mem_cons.1 h with rfl | h
        · exact hx
        · exact hk1 y hy it h
      cases it with
      | inBlock id => exact .inr (.inl (still ⟨f, tmps, k, false⟩ (fr_ok htmps hk) (fun w cs => stepG_inBlock)))
      | inLoop c => exact .inr (.inl (still ⟨f, tmps, .code c :: .inLoop c :: k, false⟩ (fr_ok htmps (hk2 _ _ hit hit)) (fun w cs => stepG_inLoop)))
      | code c =>
        have hc : codeOk P Γ ft c = true := hit
        cases c with
        | skip => exact .inr (.inl (still ⟨f, tmps, k, false⟩ (fr_ok htmps hk) (fun w cs => stepG_skip)))
        | ret => exact .inr (.inl (still ⟨f, tmps, .code .ret :: k, true⟩ (fr_okr htmps hitems) (fun w cs => stepG_ret')))
        | seq x y =>
          simp only [codeOk, Bool.and_eq_true] at hc
          exact .inr (.inl (still ⟨f, tmps, .code x :: .code y :: k, false⟩ (fr_ok htmps (hk2 _ _ hc.1 hc.2)) (fun w cs => stepG_seq)))
        | block id x => exact .inr (.inl (still ⟨f, tmps, .code x :: .inBlock id :: k, false⟩ (fr_ok htmps (hk2 _ _ hc rfl)) (fun w cs => stepG_block)))
        | loop x => exact .inr (.inl (still ⟨f, tmps, .code x :: .inLoop x :: k, false⟩ (fr_ok htmps (hk2 _ _ hc hc)) (fun w cs => stepG_loop)))
        | cond x y z =>
          simp only [codeOk, Bool.and_eq_true] at hc
          by_cases hbo : ∃ t, (⟨tmps, []⟩ : Act).eval x = .bool t
          · obtain ⟨t, ht⟩ := hbo
            exact .inr (.inl (still ⟨f, tmps, .code (if t then y else z) :: k, false⟩ (fr_ok htmps (hk1 _ (by cases t; exact hc.2; exact hc.1))) (fun w cs => stepG_cond ht)))
          · refine .inr (.inr (.inr ⟨rfl, fun w cs hw => .inl ?_⟩))
            exact stepG_cond_no (b := base f) (a := ⟨tmps, []⟩) (fun t ht => hbo ⟨t, ht⟩)
        | exit id =>
          cases he : exitTo id k with
          | some k' => exact .inr (.inl (still ⟨f, tmps, k', false⟩ (fr_ok htmps (fun it h => hk it (exitTo_mem he it h))) (fun w cs => stepG_exit he)))
          | none =>
            refine .inr (.inr (.inr ⟨rfl, fun w cs hw => .inl ?_⟩))
            simp [St.g, Fr.frame, G, stepG, stepG.exec, Frame.at, he, base]
        | region id ops dr =>
          have hcr : itemOk P Γ ft (.inRegion ops []) = true := hc
          cases dr with
          | false => exact .inr (.inl (still ⟨f, tmps, .inRegion ops (List.range ops.size) :: k, false⟩ (fr_ok htmps (hk1 _ hc)) (fun w cs => stepG_region)))
          | true =>
            refine .inr (.inr (.inl ⟨fun n => ⟨h, ⟨f, tmps, .inRegion ops (Region.schedule (P.follows .mixedOrders) ops n) :: k, false⟩, rest⟩, .order f id, fun n => ⟨⟨hints, ft, fr_ok htmps (hk1 _ hc), hcs⟩, rfl, fun w cs hw hn => ?_⟩⟩))
            subst hn
            exact stepG_region_draw
        | _ => cases hc
      | inRegion ops l =>
        have hops : ops.all (opOk P Γ ft) = true := hit
        cases l with
        | nil => exact .inr (.inl (still ⟨f, tmps, k, false⟩ (fr_ok htmps hk) (fun w cs => stepG_region_end)))
        | cons n l =>
          cases ho : ops[n]? with
          | none =>
            refine .inr (.inl ?_)
            refine still ⟨f, tmps, .inRegion ops l :: k, false⟩ (fr_ok htmps (hk1 _ hops)) (fun w cs => ?_)
            simp [Fr.frame, G, stepG, stepG.exec, Frame.at, ho, Frame.finish]
          | some o =>
            have hop : opOk P Γ ft o = true := by
              rw [Array.all_eq_true_iff_forall_mem] at hops
              exact hops o (Array.mem_of_getElem? ho)
            have hd : ∀ v, (({ tmps := tmps, defers := [] } : Act).put o.dst v) = { tmps := (({ tmps := tmps, defers := [] } : Act).put o.dst v).tmps, defers := [] } := fun v => by cases o.dst <;> rfl
            cases hw : Region.wanted o (yielded ops tmps) with
            | false =>
              refine .inr (.inl (still ⟨f, (({ tmps := tmps, defers := [] } : Act).put o.dst undef).tmps, .inRegion ops l :: k, false⟩ (fr_ok (TmpsOk.put (a := ⟨tmps, []⟩) htmps (Fit.undef _)) (hk1 _ hops)) (fun w cs => ?_)))
              have := stepG_unwanted (P := P) (main := true) (b := base f) (a := ⟨tmps, []⟩) (k := k) (cs := cs) (w := w) (rest := l) ho hw
              rw [hd] at this
              exact this
            | true =>
              have ht := tame_op (a := ⟨tmps, []⟩) hΓ htmps hop
              rcases run_tame _ ht h hints with ⟨nx, h', evs, hnx, hi', hg', hse, hrun⟩ | hdead
              · cases nx with
                | value v =>
                  refine .inr (.inl ⟨⟨h', ⟨f, (({ tmps := tmps, defers := [] } : Act).put o.dst v).tmps, .inRegion ops l :: k, false⟩, rest⟩, ⟨hi', ft, fr_ok (TmpsOk.put (a := ⟨tmps, []⟩) htmps hnx) (hk1 _ hops), hcs⟩, hg', fun w cs hwh => ?_⟩)
                  obtain ⟨h1, h2⟩ := run_of_runT (hrun w #[] hwh)
                  have := stepG_value (P := P) (main := true) (b := base f) (a := ⟨tmps, []⟩) (k := k) (cs := rest.map Fr.frame ++ cs) (w := w) (rest := l) ho hw (by simp [base]) h1
                  rw [hd] at this
                  refine ⟨_, fun e he => ?_, this⟩
                  have := mem_listed he
                  rw [h2, Array.empty_append] at this
                  exact hse e this
                | skip =>
                  refine .inr (.inl ⟨⟨h', ⟨f, (({ tmps := tmps, defers := [] } : Act).put o.dst undef).tmps, .inRegion ops l :: k, false⟩, rest⟩, ⟨hi', ft, fr_ok (TmpsOk.put (a := ⟨tmps, []⟩) htmps (Fit.undef _)) (hk1 _ hops), hcs⟩, hg', fun w cs hwh => ?_⟩)
                  obtain ⟨h1, h2⟩ := run_of_runT (hrun w #[] hwh)
                  have := stepG_none (P := P) (main := true) (b := base f) (a := ⟨tmps, []⟩) (k := k) (cs := rest.map Fr.frame ++ cs) (w := w) (rest := l) ho hw (by simp [base]) h1
                  rw [hd] at this
                  refine ⟨_, fun e he => ?_, this⟩
                  have := mem_listed he
                  rw [h2, Array.empty_append] at this
                  exact hse e this
                | enter f2 args =>
                  obtain ⟨ft2, hg2, hsub2, hsz2, hargs⟩ := hnx
                  obtain ⟨fn2, c2, hf2, hname2, hb2, hcode2, hftok2, hres2⟩ := hΓ f2 ft2 hg2
                  have htm2 : TmpsOk A n0 ft2 (args ++ Array.replicate (fn2.ntmps - args.size) undef) := enter_ok hftok2 hsz2 hargs
                  refine .inr (.inl ⟨⟨h', ⟨f2, args ++ Array.replicate (fn2.ntmps - args.size) undef, [.code c2], false⟩, ⟨f, tmps, .inRegion ops (n :: l) :: k, false⟩ :: rest⟩, ⟨hi', ft2, ⟨hg2, htm2, fun it hit => ?_⟩, rfl, ft, fr_ok htmps hitems, ⟨ops, n, l, k, o, rfl, ho, hsub2⟩, hcs⟩, hg', fun w cs hwh => ?_⟩)
                  · rw [List.mem_singleton] at hit
                    subst hit
                    exact hcode2
                  · obtain ⟨h1, h2⟩ := run_of_runT (hrun w #[] hwh)
                    have := stepG_enter (P := P) (main := true) (b := base f) (a := ⟨tmps, []⟩) (k := k) (cs := rest.map Fr.frame ++ cs) (w := w) (rest := l) ho hw (by simp [base]) h1
                    rw [enter_at _ hf2 hb2] at this
                    refine ⟨_, fun e he => ?_, this⟩
                    have := mem_listed he
                    rw [h2, Array.empty_append] at this
                    exact hse e this
                | _ => exact hnx.elim
              · refine .inr (.inr (.inr ⟨rfl, fun w cs hwh => ?_⟩))
                obtain ⟨hl, w', es', hh, hr⟩ := hdead w #[] hwh
                replace hr := (run_of_runT hr).1
                have hst := stepG_oper (P := P) (main := true) (b := base f) (a := ⟨tmps, []⟩) (k := k) (cs := rest.map Fr.frame ++ cs) (w := w) (rest := l) ho hw
                rcases hh with ⟨v, rfl⟩ | ⟨m, rfl⟩ | ⟨u, rfl, hu⟩
                · refine .inr ⟨[{ v, recovered := false }], w', ?_⟩
                  simp only [St.g, Fr.frame]
                  simp only [Bool.false_eq_true, if_false]
                  rw [hst]
                  simp [stepG.apply, hr, G, Frame.at, GStep.after, Frame.raise]
                · refine .inl ?_
                  simp only [St.g, Fr.frame]
                  simp only [Bool.false_eq_true, if_false]
                  rw [hst]
                  simp [stepG.apply, hr, G, Frame.at, GStep.after]
                · refine .inl ?_
                  simp only [St.g, Fr.frame]
                  simp only [Bool.false_eq_true, if_false]
                  rw [hst]
                  cases u with
                  | initOrder g => exact absurd rfl (hu g)
                  | _ => simp [stepG.apply, hr, G, Frame.at, GStep.after]
      | _ => cases hit
end
end Go.Proofs.Ytboiolnnhmlieaa.Brd
namespace Go.Proofs.Ytboiolnnhmlieaa.Gang
open Go.Conc Go.ConcN
set_option linter.unusedVariables false
set_option linter.unusedSimpArgs false
section
variable (P : Program) (ops : Array Oper) (md : Region.Mode) (S : Cx → World → Prop) (Q : Act → Cx → World → Prop)
def OpC (j : Nat) (K : Act → Cx → World → Prop) (a : Act) (X : Cx) (w : World) : Prop := ∃ o, ops[j]? = some o ∧ (∀ cs b, o.op ≠ .select cs b) ∧
  ((∃ v, YdIf P X ops o v a w ∧ K (a.put o.dst v) X w) ∨
   (Region.wanted o (yielded ops a.tmps) = true ∧ ∃ f args ats vs, o.op = .call { callee := .value (.func f), args, argTypes := ats } ∧ args.map a.eval = vs ∧ Con P X f vs w (fun X' v w' => K (a.put o.dst v) X' w')))
def AnyX : Nat → Array Bool → Act → Cx → World → Prop
  | 0, lst, a, X, w => S X w ∧ Region.ready md ops lst = [] ∧ Q a X w
  | f + 1, lst, a, X, w => S X w ∧ Region.ready md ops lst ≠ [] ∧ ∀ j ∈ Region.ready md ops lst, OpC P ops j (AnyX f (lst.setIfInBounds j true)) a X w
variable {P ops md S Q}
theorem OpC.mono {j : Nat} {K K' : Act → Cx → World → Prop} {a : Act} {X : Cx} {w : World} (h : OpC P ops j K a X w) (hK : ∀ o v X' w', ops[j]? = some o → K (a.put o.dst v) X' w' → K' (a.put o.dst v) X' w') : OpC P ops j K' a X w := by
  obtain ⟨o, ho, hs, h⟩ := h
  refine ⟨o, ho, hs, ?_⟩
  rcases h with ⟨v, h1, h2⟩ | ⟨hw, f, args, ats, vs, h1, h2, h3⟩
  · exact .inl ⟨v, h1, hK o v X w ho h2⟩
  · exact .inr ⟨hw, f, args, ats, vs, h1, h2, h3.mono fun X' v w' h => hK o v X' w' ho h⟩
theorem OpC_putIf {j : Nat} {oi oj : Oper} {v : Value} (hj : ops[j]? = some oj) (hap : oi.apart ops oj = true) (hargs : ∀ f args ats, oj.op = .call { callee := .value (.func f), args, argTypes := ats } → ∀ x ∈ args, ∀ d, oi.dst = some d → x ≠ .tmp d)
    {K : Act → Cx → World → Prop} {a : Act} {X : Cx} {w : World} (h : OpC P ops j K (a.put oi.dst v) X w) : OpC P ops j (fun a' X' w' => K (a'.put oi.dst v) X' w') a X w := by
  obtain ⟨h1, h2, h3⟩ := Oper.apart_spec hap
  obtain ⟨o, ho, hs, h⟩ := h
  rw [hj] at ho
  obtain rfl := Option.some.inj ho
  refine ⟨oj, hj, hs, ?_⟩
  rcases h with ⟨u, hu, hK⟩ | ⟨hw, f, args, ats, vs, k1, k2, k3⟩
  · refine .inl ⟨u, hu.of_same (execOp_put oj hs a oi.dst v h1).symm (wanted_put oj a oi.dst v h1).symm, ?_⟩
    show K ((a.put oj.dst u).put oi.dst v) X w
    rw [← Act.put_comm a v u h2]
    exact hK
  · refine .inr ⟨by rw [← wanted_put oj a oi.dst v h1]; exact hw, f, args, ats, vs, k1, ?_, k3.mono fun X' u w' h => ?_⟩
    · rw [← k2]
      refine Array.map_congr_left fun x hx => ?_
      cases hd : oi.dst with
      | none => rfl
      | some d =>
        have hne := hargs f args ats k1 x hx d hd
        cases x with
        | tmp t =>
          have : t ≠ d := fun e => hne (by rw [e])
          simp only [Act.eval, Act.put]
          rw [Array.getD_eq_getD_getElem?, Array.getD_eq_getD_getElem?, Array.getElem?_setIfInBounds_ne (fun e => this e.symm)]
        | _ => rfl
    · show K ((a.put oj.dst u).put oi.dst v) X' w'
      rw [← Act.put_comm a v u h2]
      exact h
theorem AnyX.holds : ∀ {f : Nat} {lst : Array Bool} {a : Act} {X : Cx} {w : World}, AnyX P ops md S Q f lst a X w → S X w
  | 0, _, _, _, _, h => h.1
  | _ + 1, _, _, _, _, h => h.1
theorem anyX_first {i' : Nat} {oi : Oper} {v : Value} (hi : ops[i']? = some oi) (hsel : ∀ (j : Nat) (o : Oper) cs b, ops[j]? = some o → o.op ≠ .select cs b)
    (hargs : ∀ (j : Nat) oj f args ats, ops[j]? = some oj → oi.apart ops oj = true → oj.op = .call { callee := .value (.func f), args, argTypes := ats } → ∀ x ∈ args, ∀ d, oi.dst = some d → x ≠ .tmp d) :
    ∀ (fuel : Nat) (lst : Array Bool) (a : Act) (X : Cx) (w : World),
      (∀ j oj, ops[j]? = some oj → j ≠ i' → lst.getD j true = false → (∀ e ∈ oj.after, Region.binds md e = true → e.on ≠ i') → oi.apart ops oj = true) →
      i' ∈ Region.ready md ops lst → (∀ X' w', S X' w' → YdIf P X' ops oi v a w') → AnyX P ops md S Q fuel (lst.setIfInBounds i' true) (a.put oi.dst v) X w → AnyX P ops md S Q (fuel + 1) lst a X w := by
  intro fuel
  induction fuel with
  | zero =>
    intro lst a X w _ hr hy H
    refine ⟨H.1, (fun e => by rw [e] at hr; cases hr), fun j hj => ?_⟩
    by_cases hji : j = i'
    · subst hji; exact ⟨oi, hi, fun cs b => hsel j oi cs b hi, .inl ⟨v, hy X w H.1, H⟩⟩
    · have := ready_mono hj hji
      rw [H.2.1] at this; cases this
  | succ fuel ih =>
    intro lst a X w hfree hr hy H
    refine ⟨H.1, (fun e => by rw [e] at hr; cases hr), fun j hj => ?_⟩
    by_cases hji : j = i'
    · subst hji; exact ⟨oi, hi, fun cs b => hsel j oi cs b hi, .inl ⟨v, hy X w H.1, H⟩⟩
    · have h1 := H.2.2 j (ready_mono hj hji)
      obtain ⟨hjun, oj, hoj, hall⟩ := mem_ready.1 hj
      have hnot : ∀ e ∈ oj.after, Region.binds md e = true → e.on ≠ i' := fun e he hb heq => by
        have h1 := hall e he hb
        have h0 := (mem_ready.1 hr).1
        rw [heq] at h1
        rcases Nat.lt_or_ge i' lst.size with h' | h'
        · simp [h'] at h0 h1; rw [h0] at h1; cases h1
        · simp [Array.getElem?_eq_none h'] at h1
      have hap := hfree j oj hoj hji hjun hnot
      obtain ⟨_, _, hap3⟩ := Oper.apart_spec hap
      have h2 := OpC_putIf hoj hap (fun f args ats hop => hargs j oj f args ats hoj hap hop) h1
      refine h2.mono fun o u X' w' ho hK => ?_
      rw [hoj] at ho
      obtain rfl := Option.some.inj ho
      have hfree' : ∀ k ok, ops[k]? = some ok → k ≠ i' → (lst.setIfInBounds j true).getD k true = false →
          (∀ e ∈ ok.after, Region.binds md e = true → e.on ≠ i') → oi.apart ops ok = true := fun k ok hk hki hun hno => by
        refine hfree k ok hk hki ?_ hno
        by_cases hjk : j = k
        · subst hjk; exact hjun
        · rw [getD_set_ne true hjk] at hun; exact hun
      refine ih (lst.setIfInBounds j true) _ X' w' hfree' (ready_mono hr (Ne.symm hji)) (fun X2 w2 hs => (hy X2 w2 hs).of_same (execOp_put oi (fun cs b => hsel i' oi cs b hi) a oj.dst u hap3) (wanted_put oi a oj.dst u hap3)) ?_
      rw [Array.setIfInBounds_comm _ _ hji]
      exact hK
/-- take number i' first: it only reads -/
theorem anyX_take {i' : Nat} {oi : Oper} {v : Value} {fuel : Nat} {lst : Array Bool} {a : Act} {X : Cx} {w : World} (hi : ops[i']? = some oi)
    (hs : Region.noSelect ops = true) (hf : Region.free md ops lst i' = true) (hr : (Region.ready md ops lst).contains i' = true) (hg : argsFree ops i' = true)
    (hy : ∀ X' w', S X' w' → YdIf P X' ops oi v a w') (h : AnyX P ops md S Q fuel (lst.setIfInBounds i' true) (a.put oi.dst v) X w) : AnyX P ops md S Q (fuel + 1) lst a X w :=
  anyX_first hi (Region.noSelect_spec hs) (argsFree_spec hi hg) fuel lst a X w (Region.free_spec hi hf) (by simpa using hr) hy h
/-- only number j is ready, and it is a call -/
theorem anyX_call {j : Nat} {o : Oper} {fuel : Nat} {lst : Array Bool} {a : Act} {X : Cx} {w : World} {f : FuncId} {args : Array Operand} {ats : Array TypeId} {vs : Array Value} {R : Cx → Value → World → Prop} (hC : Con P X f vs w R) (ho : ops[j]? = some o) (hs : Region.noSelect ops = true)
    (hr : Region.ready md ops lst = [j]) (hS : S X w) (hw : Region.wanted o (yielded ops a.tmps) = true) (hop : o.op = .call { callee := .value (.func f), args, argTypes := ats }) (hv : args.map a.eval = vs)
    (h : ∀ X' v w', R X' v w' → AnyX P ops md S Q fuel (lst.setIfInBounds j true) (a.put o.dst v) X' w') : AnyX P ops md S Q (fuel + 1) lst a X w := by
  refine ⟨hS, by rw [hr]; simp, fun k hk => ?_⟩
  rw [hr, List.mem_singleton] at hk
  subst hk
  exact ⟨o, ho, fun cs b => Region.noSelect_spec hs _ o cs b ho, .inr ⟨hw, f, args, ats, vs, hop, hv, hC.mono h⟩⟩
/-- two calls are ready, i and j -/
theorem anyX_two {i j : Nat} {oi oj : Oper} {fuel : Nat} {lst : Array Bool} {a : Act} {X : Cx} {w : World} {fi fj : FuncId} {argsi argsj : Array Operand} {atsi atsj : Array TypeId} {vsi vsj : Array Value} {Ri Rj : Cx → Value → World → Prop} (hs : Region.noSelect ops = true)
    (hr : Region.ready md ops lst = [i, j]) (hS : S X w)
    (hi : ops[i]? = some oi) (hwi : Region.wanted oi (yielded ops a.tmps) = true) (hopi : oi.op = .call { callee := .value (.func fi), args := argsi, argTypes := atsi }) (hvi : argsi.map a.eval = vsi) (hCi : Con P X fi vsi w Ri)
    (hj : ops[j]? = some oj) (hwj : Region.wanted oj (yielded ops a.tmps) = true) (hopj : oj.op = .call { callee := .value (.func fj), args := argsj, argTypes := atsj }) (hvj : argsj.map a.eval = vsj) (hCj : Con P X fj vsj w Rj)
    (h1 : ∀ X' v w', Ri X' v w' → AnyX P ops md S Q fuel (lst.setIfInBounds i true) (a.put oi.dst v) X' w')
    (h2 : ∀ X' v w', Rj X' v w' → AnyX P ops md S Q fuel (lst.setIfInBounds j true) (a.put oj.dst v) X' w') : AnyX P ops md S Q (fuel + 1) lst a X w := by
  refine ⟨hS, by rw [hr]; simp, fun k hk => ?_⟩
  rw [hr] at hk
  simp only [List.mem_cons, List.not_mem_nil, or_false] at hk
  rcases hk with rfl | rfl
  · exact ⟨oi, hi, fun cs b => Region.noSelect_spec hs _ oi cs b hi, .inr ⟨hwi, fi, argsi, atsi, vsi, hopi, hvi, hCi.mono h1⟩⟩
  · exact ⟨oj, hj, fun cs b => Region.noSelect_spec hs _ oj cs b hj, .inr ⟨hwj, fj, argsj, atsj, vsj, hopj, hvj, hCj.mono h2⟩⟩
theorem anyX_done {lst : Array Bool} {a : Act} {X : Cx} {w : World} (hr : Region.ready md ops lst = []) (hS : S X w) (h : Q a X w) : AnyX P ops md S Q 0 lst a X w := ⟨hS, hr, h⟩
variable {b : Frame} {k : List Item} {cs : List Frame}
theorem anyX_sound (hk : b.kind ≠ .early) (hQ : ∀ a X w, Q a X w → Run P X (G (b.at a (.inRegion ops [] :: k)) cs) w) :
    ∀ (fuel t : Nat) (lst : Array Bool) (a : Act) (X : Cx) (w : World), AnyX P ops md S Q fuel lst a X w → Run P X (G (b.at a (.inRegion ops (Region.linearise.go md ops fuel t lst []) :: k)) cs) w := by
  intro fuel
  induction fuel with
  | zero => intro t lst a X w h; exact hQ a X w h.2.2
  | succ fuel ih =>
    intro t lst a X w h
    obtain ⟨hS, hne, h₁⟩ := h
    rw [Region.linearise.go]
    change Run P X (G (b.at a (.inRegion ops (match (Region.ready md ops lst)[t % (Region.ready md ops lst).length]? with
      | some i => Region.linearise.go md ops fuel (t / (Region.ready md ops lst).length) (lst.setIfInBounds i true) [i]
      | none => [].reverse) :: k)) cs) w
    cases hi : (Region.ready md ops lst)[t % (Region.ready md ops lst).length]? with
    | none =>
      have hlen : 0 < (Region.ready md ops lst).length := List.length_pos_iff.2 hne
      have hlt := Nat.mod_lt t hlen
      rw [List.getElem?_eq_none_iff] at hi
      omega
    | some j =>
      have hj := List.mem_of_getElem? hi
      obtain ⟨o, ho, _, h2⟩ := h₁ j hj
      simp only []
      rw [linearise_go_acc, List.reverse_singleton, List.singleton_append]
      rcases h2 with ⟨v, hy, hA⟩ | ⟨hw, f, args, ats, vs, k1, k2, k3⟩
      · have hW := ih (t / (Region.ready md ops lst).length) _ _ _ _ hA
        rcases hy with ⟨hw, hv⟩ | ⟨hw, rfl⟩
        · refine Run.turn (fun w => w) rfl (fun w₁ h₁ => h₁) (fun w₁ h₁ => ?_) hW
          obtain ⟨d, rfl⟩ := h₁
          exact ⟨_, stepG_value ho hw hk (hv d).1, fun e he => (hv d).2 e (mem_listed he)⟩
        · exact Run.unwanted ho hw hW
      · refine Run.con k3 ho hw hk k1 k2 (fun X' v w' h => ?_)
        exact ih _ _ _ _ _ h
/-- THE DRAW -/
theorem Run.drawX {X : Cx} {id : Nat} {a : Act} {w : World} (hk : b.kind ≠ .early) (hm : P.follows .mixedOrders = true) (Q : Act → Cx → World → Prop) (S : Cx → World → Prop) (h : AnyX P ops .any S Q ops.size (Array.replicate ops.size false) a X w)
    (hQ : ∀ a X w, Q a X w → Run P X (G (b.at a (.inRegion ops [] :: k)) cs) w) : Run P X (G (b.at a (.code (.region id ops true) :: k)) cs) w :=
  Run.step rfl fun w₁ h₁ => by
    rw [stepG_region_draw]
    simp only [Region.schedule, hm, Bool.true_or, if_true]
    refine ⟨_, _, _, rfl, fun e he => by simp at he, Run.rely (anyX_sound hk hQ _ _ _ _ _ _ h) (atRel_trans _ _ _ h₁ ⟨_, rfl⟩)⟩
end
end Go.Proofs.Ytboiolnnhmlieaa.Gang
