
/-
  The workers of Draw, with no program: each takes tickets and lays them into its own cells; whatever the order, every ticket lies in one cell.
  Conditions: stated lemma by lemma.
-/
import Derived.Test.YtboiolnnhmlieaaGb1
namespace Go.Proofs.Ytboiolnnhmlieaa.Gang
open Go.Conc Go.ConcN
set_option linter.unusedVariables false
set_option linter.unusedSimpArgs false

/-- what is shared: the next ticket, and the cells -/
structure Dx where
  tick : Int
  arr : Nat → Int
/-- a worker's place: at its next ticket; at the store -/
inductive Dl where
  | tick (w j : Nat)
  | put (w j : Nat) (v : Int)
def Dl.w : Dl → Nat
  | .tick w _ | .put w _ _ => w
def Dl.j : Dl → Nat
  | .tick _ j | .put _ j _ => j
section
variable (n each : Nat) (t0 : Int)
def Dl.fin : Dl → Bool
  | .tick _ j => decide (each ≤ j)
  | _ => false
def Dl.stp : Dl → Dx → Dx × Dl
  | .tick w j, x => (⟨w64 (x.tick + 1), x.arr⟩, .put w j (w64 (x.tick + 1)))
  | .put w j v, x => (⟨x.tick, upd x.arr (w * each + j) v⟩, .tick w (j + 1))
def Dl.rem : Option Dl → Int
  | some (.tick _ j) => (each : Int) - j
  | some (.put _ j _) => (each : Int) - j - 1
  | none => 0
def Dl.unf : Option Dl → Int
  | some (.tick _ j) | some (.put _ j _) => (each : Int) - j
  | none => 0
def Dl.puts (v : Int) : Option Dl → Int
  | some (.put _ _ u) => if u = v then 1 else 0
  | _ => 0
def Dl.cost : Option Dl → Nat
  | some (.tick _ j) => 2 * (each - j)
  | some (.put _ j _) => 2 * (each - j) - 1
  | none => 0
def hit (v u : Int) : Int := if u = v then 1 else 0
structure DrJ (x : Dx) (f : Nat → Option Dl) : Prop where
  range : ∀ i l, f i = some l → 1 ≤ i ∧ i ≤ n ∧ l.w + 1 = i ∧ l.j < each
  free : ∀ i l, f i = some l → ∀ j, l.j ≤ j → j < each → x.arr (l.w * each + j) = 0
  putv : ∀ i w j v, f i = some (.put w j v) → t0 < v ∧ v ≤ x.tick
  tick : x.tick = t0 + (n * each : Nat) - isum (n + 1) (fun i => Dl.rem each (f i))
  cnt : ∀ v, isum (n * each) (fun a => hit v (x.arr a)) + isum (n + 1) (fun i => Dl.puts v (f i)) = if v = 0 then isum (n + 1) (fun i => Dl.unf each (f i)) else if t0 < v ∧ v ≤ x.tick then 1 else 0
def drawBody : Body Dx Dl where
  n := n
  ini i := .tick (i - 1) 0
  fin := Dl.fin each
  stp := Dl.stp each
  J := DrJ n each t0
  cost _ f := sumTo (n + 1) fun i => Dl.cost each (f i)
variable {n each t0}
theorem isum_le {f g : Nat → Int} : ∀ {j : Nat}, (∀ i, i < j → f i ≤ g i) → isum j f ≤ isum j g
  | 0, _ => by simp [isum]
  | j + 1, h => by
    have := isum_le (j := j) (fun i hi => h i (by omega))
    have := h j (by omega)
    simp only [isum]; omega
theorem isum_ge {f : Nat → Int} {i : Nat} : ∀ {j : Nat}, (∀ i, i < j → 0 ≤ f i) → i < j → f i ≤ isum j f
  | 0, _, h => by omega
  | j + 1, h0, h => by
    simp only [isum]
    by_cases e : i = j
    · subst e
      have : 0 ≤ isum i f := by
        have := isum_le (f := fun _ => 0) (g := f) (j := i) (fun k hk => h0 k (by omega))
        rwa [isum_zero (fun _ _ => rfl)] at this
      omega
    · have := isum_ge (j := j) (fun k hk => h0 k (by omega)) (show i < j by omega)
      have := h0 j (by omega)
      omega
theorem cell_ne {w w' j j' : Nat} (h : j < each) (h' : j' < each) (hw : w ≠ w') : w * each + j ≠ w' * each + j' := by
  intro e
  rcases Nat.lt_or_gt_of_ne hw with h1 | h1
  · have := Nat.mul_le_mul_right each h1
    rw [Nat.succ_mul] at this
    omega
  · have := Nat.mul_le_mul_right each h1
    rw [Nat.succ_mul] at this
    omega
theorem cell_lt {w j : Nat} (h : j < each) (hw : w < n) : w * each + j < n * each := by
  have := Nat.mul_le_mul_right each hw
  rw [Nat.succ_mul] at this
  omega
theorem opt_tick (w j : Nat) : (drawBody n each t0).opt (.tick w j) = if each ≤ j then none else some (.tick w j) := by
  show (if Dl.fin each (Dl.tick w j) = true then none else some (Dl.tick w j)) = _
  simp only [Dl.fin, decide_eq_true_eq]
theorem opt_put (w j : Nat) (v : Int) : (drawBody n each t0).opt (.put w j v) = some (.put w j v) := rfl
theorem rem_put (w j : Nat) (v : Int) : Dl.rem each (some (.put w j v)) = (each : Int) - j - 1 := rfl
theorem rem_tick (w j : Nat) : Dl.rem each (some (.tick w j)) = (each : Int) - j := rfl
theorem unf_put (w j : Nat) (v : Int) : Dl.unf each (some (.put w j v)) = (each : Int) - j := rfl
theorem unf_tick (w j : Nat) : Dl.unf each (some (.tick w j)) = (each : Int) - j := rfl
theorem puts_put (w j : Nat) (u v : Int) : Dl.puts v (some (.put w j u)) = if u = v then 1 else 0 := rfl
theorem puts_tick (w j : Nat) (v : Int) : Dl.puts v (some (.tick w j)) = 0 := rfl
theorem w64_id {v : Int} (h0 : 0 ≤ v) (h1 : v ≤ 4611686018427387904) : w64 v = v := by unfold w64; omega
theorem rem_opt {j : Nat} (w : Nat) (h : j ≤ each) : Dl.rem each (if each ≤ j then none else some (.tick w j)) = (each : Int) - j := by
  split
  · simp only [Dl.rem]; omega
  · rfl
theorem unf_opt {j : Nat} (w : Nat) (h : j ≤ each) : Dl.unf each (if each ≤ j then none else some (.tick w j)) = (each : Int) - j := by
  split
  · simp only [Dl.unf]; omega
  · rfl
theorem puts_opt {j : Nat} (w : Nat) (v : Int) : Dl.puts v (if each ≤ j then none else some (.tick w j)) = 0 := by split <;> rfl
theorem cost_opt' {j : Nat} (w : Nat) : Dl.cost each (if each ≤ j then none else some (.tick w j)) = 2 * (each - j) := by
  split
  · simp only [Dl.cost]; omega
  · rfl
theorem drawFine (hn : 1 ≤ n) (h0 : 0 ≤ t0) (h1 : t0 + (n * each : Nat) ≤ 4611686018427387904) : (drawBody n each t0).Fine where
  one := hn
  keeps x f i l hJ hi := by
    have hJ : DrJ n each t0 x f := hJ
    obtain ⟨r1, r2, r3, r4⟩ := hJ.range i l hi
    have hcost : ∀ o, Dl.cost each o < Dl.cost each (f i) → sumTo (n + 1) (fun k => Dl.cost each (upd f i o k)) < sumTo (n + 1) (fun k => Dl.cost each (f k)) := fun o ho => by
      have := sumTo_upd f o (fun a => Dl.cost each a) (show i < n + 1 by omega)
      omega
    have hrem : ∀ k, 0 ≤ Dl.rem each (f k) := fun k => by
      cases hk : f k with
      | none => simp [Dl.rem]
      | some l' =>
        have := (hJ.range k l' hk).2.2.2
        cases l' <;> simp only [Dl.rem, Dl.j] at this ⊢ <;> omega
    have hR : ∀ o, isum (n + 1) (fun k => Dl.rem each (upd f i o k)) = isum (n + 1) (fun k => Dl.rem each (f k)) + Dl.rem each o - Dl.rem each (f i) := fun o => isum_upd f o (fun a => Dl.rem each a) (by omega)
    have hU : ∀ o, isum (n + 1) (fun k => Dl.unf each (upd f i o k)) = isum (n + 1) (fun k => Dl.unf each (f k)) + Dl.unf each o - Dl.unf each (f i) := fun o => isum_upd f o (fun a => Dl.unf each a) (by omega)
    have hP : ∀ v o, isum (n + 1) (fun k => Dl.puts v (upd f i o k)) = isum (n + 1) (fun k => Dl.puts v (f k)) + Dl.puts v o - Dl.puts v (f i) := fun v o => isum_upd f o (fun a => Dl.puts v a) (by omega)
    have htk := hJ.tick
    cases l with
    | tick w j =>
      have r3 : w + 1 = i := r3
      have r4 : j < each := r4
      have hge : Dl.rem each (f i) ≤ isum (n + 1) (fun k => Dl.rem each (f k)) := isum_ge (f := fun k => Dl.rem each (f k)) (fun k _ => hrem k) (by omega)
      have hri : Dl.rem each (f i) = (each : Int) - j := by rw [hi]; rfl
      have hx0 : t0 ≤ x.tick := by
        have : isum (n + 1) (fun k => Dl.rem each (f k)) ≤ (n * each : Nat) := by
          have hle : ∀ k, k < n + 1 → Dl.rem each (f k) ≤ (if k = 0 then 0 else (each : Int)) := fun k hk => by
            cases hf : f k with
            | none => simp only [Dl.rem]; split <;> omega
            | some l' =>
              have hr := hJ.range k l' hf
              rw [if_neg (by omega)]
              cases l' <;> simp only [Dl.rem] <;> omega
          have h2 := isum_le hle
          have h3 : ∀ m, isum (m + 1) (fun k => if k = 0 then 0 else (each : Int)) = (m * each : Nat) := by
            intro m
            induction m with
            | zero => simp [isum]
            | succ m ih => rw [isum, ih, if_neg (by omega), Nat.succ_mul]; omega
          rw [h3] at h2
          exact h2
        omega
      have hv : w64 (x.tick + 1) = x.tick + 1 := w64_id (by omega) (by omega)
      have e : (drawBody n each t0).stp (.tick w j) x = (⟨x.tick + 1, x.arr⟩, .put w j (x.tick + 1)) := by
        show Dl.stp each (.tick w j) x = _
        simp only [Dl.stp, hv]
      rw [e, opt_put]
      refine ⟨⟨fun k l' hk => ?_, fun k l' hk => ?_, fun k w' j' v hk => ?_, ?_, fun v => ?_⟩, hcost _ ?_⟩
      · by_cases ek : k = i
        · subst ek; rw [upd_same] at hk; obtain rfl := Option.some.inj hk; exact ⟨r1, r2, r3, r4⟩
        · rw [upd_ne _ _ ek] at hk; exact hJ.range k l' hk
      · by_cases ek : k = i
        · subst ek; rw [upd_same] at hk; obtain rfl := Option.some.inj hk; exact fun j' => hJ.free k (.tick w j) hi j'
        · rw [upd_ne _ _ ek] at hk; exact hJ.free k l' hk
      · show t0 < v ∧ v ≤ x.tick + 1
        by_cases ek : k = i
        · subst ek; rw [upd_same] at hk; cases hk; omega
        · rw [upd_ne _ _ ek] at hk; have := hJ.putv k w' j' v hk; omega
      · show x.tick + 1 = _
        rw [hR, hri, rem_put]
        omega
      · have h2 := hJ.cnt v
        rw [hP, hU, hi, puts_put, puts_tick, unf_put, unf_tick]
        show isum (n * each) (fun a => hit v (x.arr a)) + _ = (if v = 0 then _ else if t0 < v ∧ v ≤ x.tick + 1 then 1 else 0)
        by_cases v0 : v = 0
        · rw [if_pos v0] at h2 ⊢
          rw [if_neg (by omega)]
          omega
        · rw [if_neg v0] at h2 ⊢
          by_cases ev : x.tick + 1 = v
          · rw [if_pos ev, if_pos (by omega)]
            rw [if_neg (by omega)] at h2
            omega
          · rw [if_neg ev]
            by_cases hh : t0 < v ∧ v ≤ x.tick
            · rw [if_pos hh] at h2
              rw [if_pos (by omega)]
              omega
            · rw [if_neg hh] at h2
              rw [if_neg (by omega)]
              omega
      · rw [hi]
        simp only [Dl.cost]
        omega
    | put w j u =>
      have r3 : w + 1 = i := r3
      have r4 : j < each := r4
      have hfree : x.arr (w * each + j) = 0 := hJ.free i _ hi j (Nat.le_refl _) r4
      have hu := hJ.putv i w j u hi
      have hA : ∀ v, isum (n * each) (fun a => hit v (upd x.arr (w * each + j) u a)) = isum (n * each) (fun a => hit v (x.arr a)) + hit v u - hit v 0 := fun v => by
        have := isum_upd x.arr u (hit v) (cell_lt (n := n) r4 (show w < n by omega))
        rw [hfree] at this
        exact this
      have e : (drawBody n each t0).stp (.put w j u) x = (⟨x.tick, upd x.arr (w * each + j) u⟩, .tick w (j + 1)) := rfl
      rw [e, opt_tick]
      refine ⟨⟨fun k l' hk => ?_, fun k l' hk => ?_, fun k w' j' v hk => ?_, ?_, fun v => ?_⟩, hcost _ ?_⟩
      · by_cases ek : k = i
        · subst ek; rw [upd_same] at hk
          split at hk
          · cases hk
          · obtain rfl := Option.some.inj hk; exact ⟨r1, r2, r3, by show j + 1 < each; omega⟩
        · rw [upd_ne _ _ ek] at hk; exact hJ.range k l' hk
      · intro j' g1 g2
        by_cases ek : k = i
        · subst ek; rw [upd_same] at hk
          split at hk
          · cases hk
          · obtain rfl := Option.some.inj hk
            have g1 : j + 1 ≤ j' := g1
            show upd x.arr (w * each + j) u (w * each + j') = 0
            rw [upd_ne _ _ (by omega)]
            exact hJ.free k _ hi j' (by show j ≤ j'; omega) g2
        · rw [upd_ne _ _ ek] at hk
          have hr := hJ.range k l' hk
          show upd x.arr (w * each + j) u (l'.w * each + j') = 0
          rw [upd_ne _ _ (cell_ne g2 r4 (by omega))]
          exact hJ.free k l' hk j' g1 g2
      · show t0 < v ∧ v ≤ x.tick
        by_cases ek : k = i
        · subst ek; rw [upd_same] at hk
          split at hk <;> cases hk
        · rw [upd_ne _ _ ek] at hk; exact hJ.putv k w' j' v hk
      · show x.tick = _
        rw [hR, rem_opt w (by omega), hi, rem_put]
        omega
      · have h2 := hJ.cnt v
        rw [hP, hU, puts_opt, unf_opt w (by omega), hi, puts_put, unf_put]
        show isum (n * each) (fun a => hit v (upd x.arr (w * each + j) u a)) + _ = (if v = 0 then _ else if t0 < v ∧ v ≤ x.tick then 1 else 0)
        rw [hA]
        rw [show hit v u = if u = v then 1 else 0 from rfl, show hit v 0 = if (0 : Int) = v then 1 else 0 from rfl]
        by_cases v0 : v = 0
        · subst v0
          rw [if_pos rfl] at h2 ⊢
          rw [if_neg (show ¬ u = 0 by omega), if_pos rfl]
          omega
        · rw [if_neg v0] at h2 ⊢
          rw [if_neg (show ¬ (0 : Int) = v by omega)]
          omega
      · rw [hi, cost_opt']
        simp only [Dl.cost]
        omega
theorem drawEnds {x : Dx} (h : DrJ n each t0 x (fun _ => none)) : x.tick = t0 + (n * each : Nat) ∧ ∀ v, isum (n * each) (fun a => hit v (x.arr a)) = if t0 < v ∧ v ≤ x.tick ∧ v ≠ 0 then 1 else 0 := by
  have e1 : isum (n + 1) (fun i => Dl.rem each ((fun _ => none : Nat → Option Dl) i)) = 0 := isum_zero (fun i _ => rfl)
  have e2 : isum (n + 1) (fun i => Dl.unf each ((fun _ => none : Nat → Option Dl) i)) = 0 := isum_zero (fun i _ => rfl)
  refine ⟨by have := h.tick; rw [e1] at this; omega, fun v => ?_⟩
  have e3 : isum (n + 1) (fun i => Dl.puts v ((fun _ => none : Nat → Option Dl) i)) = 0 := isum_zero (fun i _ => rfl)
  have h2 := h.cnt v
  rw [e3, e2] at h2
  by_cases v0 : v = 0
  · rw [if_pos v0] at h2
    rw [if_neg (by omega)]
    omega
  · rw [if_neg v0] at h2
    rw [Int.add_zero] at h2
    rw [h2]
    by_cases hh : t0 < v ∧ v ≤ x.tick
    · rw [if_pos hh, if_pos ⟨hh.1, hh.2, v0⟩]
    · rw [if_neg hh, if_neg (fun h => hh ⟨h.1, h.2.1⟩)]
theorem isum_from1' {f : Nat → Int} : ∀ (m : Nat), f 0 = 0 → (∀ i, 1 ≤ i → i < m + 1 → f i = (each : Int)) → isum (m + 1) f = (m * each : Nat)
  | 0, h0, _ => by simp [isum, h0]
  | m + 1, h0, h => by
    rw [isum, isum_from1' m h0 (fun i h1 h2 => h i h1 (by omega)), h (m + 1) (by omega) (by omega), Nat.succ_mul]
    omega
theorem drawStart (h0 : 0 ≤ t0) {k : Nat} : (drawBody n each t0).J ⟨t0, fun _ => 0⟩ ((drawBody n each t0).cfg (fun _ => .kdS k) 0) := by
  have hcfg : ∀ i, (drawBody n each t0).cfg (fun _ => .kdS k) 0 i = if 1 ≤ i ∧ i ≤ n then (if each ≤ 0 then none else some (.tick (i - 1) 0)) else none := by
    intro i
    unfold Body.cfg
    by_cases h0 : i = 0
    · subst h0; simp
    · rw [if_neg h0, if_neg (by omega)]
      by_cases h1 : i ≤ n
      · rw [if_pos (show i ≤ (drawBody n each t0).n from h1), if_pos ⟨by omega, h1⟩]
        exact opt_tick _ _
      · rw [if_neg (show ¬ i ≤ (drawBody n each t0).n from h1), if_neg (by omega)]
  have hsome : ∀ i l, (drawBody n each t0).cfg (fun _ => .kdS k) 0 i = some l → 1 ≤ i ∧ i ≤ n ∧ 0 < each ∧ l = .tick (i - 1) 0 := fun i l h => by
    rw [hcfg] at h
    split at h
    · next hh =>
      split at h
      · cases h
      · exact ⟨hh.1, hh.2, by omega, (Option.some.inj h).symm⟩
    · cases h
  have hrem : isum (n + 1) (fun i => Dl.rem each ((drawBody n each t0).cfg (fun _ => .kdS k) 0 i)) = (n * each : Nat) := isum_from1' n (by simp only [hcfg]; rfl) (fun i h1 h2 => by
    simp only [hcfg]
    rw [if_pos (by omega), rem_opt _ (by omega)]; omega)
  have hunf : isum (n + 1) (fun i => Dl.unf each ((drawBody n each t0).cfg (fun _ => .kdS k) 0 i)) = (n * each : Nat) := isum_from1' n (by simp only [hcfg]; rfl) (fun i h1 h2 => by
    simp only [hcfg]
    rw [if_pos (by omega), unf_opt _ (by omega)]; omega)
  have hput : ∀ v, isum (n + 1) (fun i => Dl.puts v ((drawBody n each t0).cfg (fun _ => .kdS k) 0 i)) = 0 := fun v => isum_zero (fun i _ => by
    simp only [hcfg]
    split
    · exact puts_opt _ _
    · rfl)
  show DrJ n each t0 _ _
  refine ⟨fun i l h => ?_, fun i l h j _ _ => rfl, fun i w j v h => ?_, ?_, fun v => ?_⟩
  · obtain ⟨h1, h2, h3, rfl⟩ := hsome i l h
    exact ⟨h1, h2, by show i - 1 + 1 = i; omega, h3⟩
  · obtain ⟨_, _, _, h4⟩ := hsome i _ h
    cases h4
  · show t0 = _
    rw [hrem]; omega
  · rw [hput, hunf]
    show isum (n * each) (fun _ => hit v 0) + 0 = _
    by_cases v0 : v = 0
    · subst v0
      rw [if_pos rfl]
      have : ∀ m, isum m (fun _ => hit 0 0) = (m : Int) := by
        intro m
        induction m with
        | zero => rfl
        | succ m ih => rw [isum, ih]; simp [hit]
      rw [this]; omega
    · rw [if_neg v0, if_neg (show ¬ (t0 < v ∧ v ≤ t0) by omega)]
      rw [isum_zero (fun _ _ => by unfold hit; rw [if_neg (fun e => v0 e.symm)])]; rfl
end
end Go.Proofs.Ytboiolnnhmlieaa.Gang
