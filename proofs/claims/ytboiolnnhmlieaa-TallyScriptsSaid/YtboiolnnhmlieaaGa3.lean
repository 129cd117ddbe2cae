
/-
  The plan of a WaitGroup: one adds and starts n workers, each works and says Done, the first waits for all. No program.
  Conditions: stated lemma by lemma.
-/
import Derived.Test.YtboiolnnhmlieaaGa2
namespace Go.Proofs.Ytboiolnnhmlieaa.Gang
open Go.Conc Go.ConcN
set_option linter.unusedVariables false

/-- what the workers do to what they share, action by action; 'cost' falls with each -/
structure Body (X Lam : Type) where
  n : Nat
  ini : Nat → Lam
  fin : Lam → Bool
  stp : Lam → X → X × Lam
  J : X → (Nat → Option Lam) → Prop
  cost : X → (Nat → Option Lam) → Nat

inductive Pos (Lam : Type) where
  | body (l : Lam) | rel | k1 | d1 | d2 | d3 | d4 | gone
  | kdS (k : Nat) | a1 (k : Nat) | keS (k : Nat) | goS (k : Nat)
  | kd | w1 | w2 (u : Nat) | w3 | w4 | ke | acq | ret

structure St (X : Type) where
  v : Nat
  wt : Nat
  sm : Nat
  x : X

section
variable {X Lam : Type}
def Body.enter (B : Body X Lam) (l : Lam) : Pos Lam := if B.fin l then .rel else .body l
def Pos.lam : Pos Lam → Option Lam
  | .body l => some l
  | _ => none
def Body.opt (B : Body X Lam) (l : Lam) : Option Lam := if B.fin l then none else some l
theorem Body.lam_enter (B : Body X Lam) (l : Lam) : (B.enter l).lam = B.opt l := by
  unfold Body.enter Body.opt
  split <;> rfl
def Pos.quit : Pos Lam → Bool
  | .gone => true
  | _ => false
/-- how deaf -/
def Pos.deaf : Pos Lam → Nat
  | .d1 | .d2 | .d3 | .d4 | .gone | .a1 _ | .keS _ | .w1 | .w2 _ | .w3 | .w4 | .ke => 1
  | _ => 0
def Pos.kid : Pos Lam → Nat
  | .goS k => k + 1
  | _ => 0
def Pos.wakes : Pos Lam → Bool
  | .d4 => true
  | _ => false
def Body.next (B : Body X Lam) (p : Pos Lam) (s : St X) : Eff (St X) (Pos Lam) :=
  match p with
  | .body l => .act { s with x := (B.stp l s.x).1 } (B.enter (B.stp l s.x).2)
  | .rel => .act s .k1
  | .k1 => .act s .d1
  | .d1 => .act { s with v := s.v - 1 } (if s.v = 1 ∧ s.wt = 1 then .d2 else .gone)
  | .d2 => .act s .d3
  | .d3 => .act { s with wt := 0 } .d4
  | .d4 => .act { s with sm := 1 } .gone
  | .gone => .fin
  | .kdS k => .act s (.a1 k)
  | .a1 k => .act { s with v := s.v + 1 } (.keS k)
  | .keS k => .act s (.goS k)
  | .goS k => .spawn s (if k + 1 < B.n then .kdS (k + 1) else .kd) (B.enter (B.ini (k + 1)))
  | .kd => .act s .w1
  | .w1 => .act s (if s.v = 0 then .ke else .w2 s.v)
  | .w2 u => if s.v = u then .act { s with wt := 1 } .w3 else .act s .w1
  | .w3 => if s.sm = 0 then .block else .act { s with sm := 0 } .w4
  | .w4 => .act s .ke
  | .ke => .act s .acq
  | .acq => .act s .ret
  | .ret => .fin

def cnt : Pos Lam → Nat
  | .body _ | .rel | .k1 | .d1 => 1
  | _ => 0
def pend : Pos Lam → Nat
  | .keS _ | .goS _ => 1
  | _ => 0
def work : Pos Lam → Prop
  | .body _ | .rel | .k1 | .d1 | .gone => True
  | _ => False
def isOpen : Pos Lam → Prop
  | .kdS _ | .a1 _ | .keS _ | .goS _ | .kd | .w1 | .w2 _ => True
  | _ => False
def isFin : Pos Lam → Prop
  | .w4 | .ke | .acq | .ret => True
  | _ => False
def stg : Pos Lam → Nat
  | .body _ | .rel => 7 | .k1 => 6 | .d1 => 5 | .d2 => 4 | .d3 => 3 | .d4 => 2 | .gone => 1
  | _ => 0
def phi (n v : Nat) : Pos Lam → Nat
  | .kdS k => 2 * n + 8 + 4 * (n - k)
  | .a1 k => 2 * n + 7 + 4 * (n - k)
  | .keS k => 2 * n + 6 + 4 * (n - k)
  | .goS k => 2 * n + 5 + 4 * (n - k)
  | .kd => 2 * n + 8
  | .w1 => 2 * v + 7
  | .w2 u => 2 * u + 6
  | .w3 => 5 | .w4 => 4 | .ke => 3 | .acq => 2 | .ret => 1
  | _ => 0
/-- where the first stands tells how many are started -/
def started (n j : Nat) : Pos Lam → Prop
  | .kdS k | .a1 k | .keS k | .goS k => k = j ∧ j < n
  | .w2 u => j = n ∧ u ≤ n
  | .kd | .w1 | .w3 | .w4 | .ke | .acq | .ret => j = n
  | _ => False
/-- who works at what -/
def Body.cfg (B : Body X Lam) (ps : Nat → Pos Lam) (j : Nat) : Nat → Option Lam := fun i => if i = 0 then none else if i ≤ j then (ps i).lam else if i ≤ B.n then B.opt (B.ini i) else none
def tot (j : Nat) (ps : Nat → Pos Lam) : Nat := sumTo (j + 1) fun i => cnt (ps i)

inductive Mode (s : St X) (ps : Nat → Pos Lam) (j : Nat) : Prop
  | opn : isOpen (ps 0) → s.wt = 0 → s.sm = 0 → (∀ i, 1 ≤ i → i ≤ j → work (ps i)) → (∀ u, ps 0 = .w2 u → s.v ≤ u ∧ 1 ≤ u) → Mode s ps j
  | reg : ps 0 = .w3 → s.wt = 1 → s.sm = 0 → 1 ≤ s.v → (∀ i, 1 ≤ i → i ≤ j → work (ps i)) → Mode s ps j
  | last (L : Nat) : ps 0 = .w3 → 1 ≤ L → L ≤ j → ((ps L = .d2 ∧ s.wt = 1) ∨ (ps L = .d3 ∧ s.wt = 1) ∨ (ps L = .d4 ∧ s.wt = 0)) → s.sm = 0 → s.v = 0 → (∀ i, 1 ≤ i → i ≤ j → i ≠ L → ps i = .gone) → Mode s ps j
  | sema : ps 0 = .w3 → s.wt = 0 → s.sm = 1 → s.v = 0 → (∀ i, 1 ≤ i → i ≤ j → ps i = .gone) → Mode s ps j
  | fin : isFin (ps 0) → s.wt = 0 → s.sm = 0 → s.v = 0 → (∀ i, 1 ≤ i → i ≤ j → ps i = .gone) → Mode s ps j

structure Plan (B : Body X Lam) (s : St X) (ps : Nat → Pos Lam) (j : Nat) : Prop where
  st : started B.n j (ps 0)
  c : s.v = tot j ps + pend (ps 0)
  J : B.J s.x (B.cfg ps j)
  md : Mode s ps j

def Body.meas (B : Body X Lam) (s : St X) (ps : Nat → Pos Lam) (j : Nat) : Nat := B.cost s.x (B.cfg ps j) + phi B.n s.v (ps 0) + (sumTo (j + 1) fun i => stg (ps i)) + 7 * (B.n - j)

/-- what each body's action keeps -/
structure Body.Fine (B : Body X Lam) : Prop where
  one : 1 ≤ B.n
  keeps : ∀ x f i l, B.J x f → f i = some l → B.J (B.stp l x).1 (upd f i (B.opt (B.stp l x).2)) ∧ B.cost (B.stp l x).1 (upd f i (B.opt (B.stp l x).2)) < B.cost x f

variable {B : Body X Lam} {s : St X} {ps : Nat → Pos Lam} {j : Nat}
theorem started_le {p : Pos Lam} {n j : Nat} (h : started n j p) : j ≤ n := by
  cases p <;> simp only [started] at h <;> omega
theorem cfg_main (p : Pos Lam) : B.cfg (upd ps 0 p) j = B.cfg ps j := by
  funext i
  unfold Body.cfg
  by_cases h : i = 0
  · simp [h]
  · simp [h, upd_ne _ _ h]
theorem cfg_kid {i : Nat} (h1 : i ≠ 0) (h2 : i ≤ j) (p : Pos Lam) : B.cfg (upd ps i p) j = upd (B.cfg ps j) i p.lam := by
  funext k
  by_cases h : k = i
  · subst h
    unfold Body.cfg
    simp [h1, h2, upd_same]
  · rw [upd_ne _ _ h]
    unfold Body.cfg
    rw [upd_ne _ _ h]
theorem cfg_same {i : Nat} (h1 : i ≠ 0) (h2 : i ≤ j) (p : Pos Lam) (h : p.lam = (ps i).lam) : B.cfg (upd ps i p) j = B.cfg ps j := by
  rw [cfg_kid h1 h2, h]
  funext k
  by_cases h : k = i
  · subst h
    rw [upd_same]
    unfold Body.cfg
    simp [h1, h2]
  · rw [upd_ne _ _ h]
theorem cfg_born (hj : j < B.n) (p : Pos Lam) : B.cfg (upd (upd ps 0 p) (j + 1) (B.enter (B.ini (j + 1)))) (j + 1) = B.cfg ps j := by
  funext k
  unfold Body.cfg
  by_cases h0 : k = 0
  · simp [h0]
  · by_cases h1 : k = j + 1
    · subst h1
      rw [if_neg h0, if_neg h0, if_pos (Nat.le_refl _), if_neg (by omega), if_pos (by omega), upd_same, B.lam_enter]
    · rw [if_neg h0, if_neg h0, upd_ne _ _ h1, upd_ne _ _ h0]
      by_cases h2 : k ≤ j
      · rw [if_pos h2, if_pos (by omega)]
      · rw [if_neg h2, if_neg (by omega)]
theorem sum_upd (φ : Pos Lam → Nat) {i : Nat} (hi : i ≤ j) (p : Pos Lam) : (sumTo (j + 1) fun k => φ (upd ps i p k)) + φ (ps i) = (sumTo (j + 1) fun k => φ (ps k)) + φ p := sumTo_upd ps p φ (by omega)
theorem sum_born (φ : Pos Lam → Nat) (p pq : Pos Lam) : (sumTo (j + 1 + 1) fun k => φ (upd (upd ps 0 p) (j + 1) pq k)) + φ (ps 0) = (sumTo (j + 1) fun k => φ (ps k)) + φ p + φ pq := by
  have e : (sumTo (j + 1 + 1) fun k => φ (upd (upd ps 0 p) (j + 1) pq k)) = (sumTo (j + 1) fun k => φ (upd (upd ps 0 p) (j + 1) pq k)) + φ (upd (upd ps 0 p) (j + 1) pq (j + 1)) := rfl
  rw [e, upd_same, sumTo_upd_out (upd ps 0 p) pq φ (Nat.le_refl _)]
  have := sum_upd (ps := ps) (j := j) φ (i := 0) (Nat.zero_le _) p
  omega
theorem le_tot {i : Nat} (hi : i ≤ j) : cnt (ps i) ≤ tot j ps := le_sumTo (f := fun i => cnt (ps i)) (i := i) (j := j + 1) (by omega)
theorem tot_gone (h0 : cnt (ps 0) = 0) (h : ∀ i, 1 ≤ i → i ≤ j → ps i = .gone) : tot j ps = 0 := by
  have : tot j ps ≤ 0 * (j + 1) := sumTo_le fun i hi => by
    rcases Nat.eq_zero_or_pos i with rfl | hp
    · omega
    · rw [h i hp (by omega)]; exact Nat.le_refl _
  omega
theorem main_cnt {n j : Nat} {p : Pos Lam} (h : started n j p) : cnt p = 0 ∧ stg p = 0 ∧ p.quit = false := by
  cases p <;> simp_all [started, cnt, stg, Pos.quit]
theorem pend_le {n j : Nat} {p : Pos Lam} (h : started n j p) : j + pend p ≤ n := by
  cases p <;> simp only [started] at h <;> simp only [pend] <;> omega
theorem tot_le (h : started B.n j (ps 0)) : tot j ps ≤ j := by
  have h0 := (main_cnt h).1
  have key : ∀ k, sumTo (k + 1) (fun i => cnt (ps i)) ≤ k := by
    intro k
    induction k with
    | zero => show 0 + cnt (ps 0) ≤ 0; omega
    | succ k ih =>
      show sumTo (k + 1) (fun i => cnt (ps i)) + cnt (ps (k + 1)) ≤ k + 1
      have : cnt (ps (k + 1)) ≤ 1 := by cases ps (k + 1) <;> simp [cnt]
      omega
  exact key j
end
end Go.Proofs.Ytboiolnnhmlieaa.Gang
