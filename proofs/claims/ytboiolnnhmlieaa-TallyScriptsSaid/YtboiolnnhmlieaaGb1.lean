
/-
  The workers of Spread, with no program: each adds its steps to the cells and raises the most; what is reached does not hang on the order.
  Conditions: stated lemma by lemma.
-/
import Derived.Test.YtboiolnnhmlieaaGa3
namespace Go.Proofs.Ytboiolnnhmlieaa.Gang
open Go.Conc Go.ConcN
set_option linter.unusedVariables false
set_option linter.unusedSimpArgs false

def isum : Nat → (Nat → Int) → Int
  | 0, _ => 0
  | j + 1, f => isum j f + f j
theorem isum_congr {f g : Nat → Int} : ∀ {j : Nat}, (∀ i, i < j → f i = g i) → isum j f = isum j g
  | 0, _ => rfl
  | j + 1, h => by simp only [isum]; rw [isum_congr (fun i hi => h i (by omega)), h j (by omega)]
theorem isum_upd {α : Type} (f : Nat → α) (x : α) (φ : α → Int) {i : Nat} : ∀ {j : Nat}, i < j → isum j (fun a => φ (upd f i x a)) = isum j (fun a => φ (f a)) + φ x - φ (f i)
  | 0, h => by omega
  | j + 1, h => by
    simp only [isum]
    by_cases e : i = j
    · subst e
      rw [isum_congr (g := fun a => φ (f a)) (fun a ha => by rw [upd_ne _ _ (by omega)]), upd_same]; omega
    · rw [isum_upd f x φ (by omega), upd_ne _ _ (by omega)]; omega
theorem isum_zero {f : Nat → Int} {j : Nat} (h : ∀ i, i < j → f i = 0) : isum j f = 0 := by
  induction j with
  | zero => rfl
  | succ j ih => simp only [isum]; rw [ih (fun i hi => h i (by omega)), h j (by omega)]; rfl

/-- what is shared: the cells' values, and the most -/
structure Tal where
  cs : Nat → Int
  most : Int
/-- a worker's place: at its next step's add; at the load of the most; at the CompareAndSwap -/
inductive Lad where
  | add (l : List (Nat × Int))
  | load (l : List (Nat × Int)) (k : Nat)
  | cas (l : List (Nat × Int)) (m : Int) (k : Nat)

section
def w64 (x : Int) : Int := (x + 9223372036854775808) % 18446744073709551616 - 9223372036854775808
theorem w64_add (a b : Int) : w64 (w64 a + b) = w64 (a + b) := by unfold w64; omega
theorem w64_w64 (a : Int) : w64 (w64 a) = w64 a := by unfold w64; omega
variable (K n : Nat) (top : Int) (job : Nat → List (Nat × Int)) (goal : Nat → Int)
def Lad.fin : Lad → Bool
  | .add [] => true
  | _ => false
def Lad.stp (l : Lad) (x : Tal) : Tal × Lad :=
  match l with
  | .add ((c, d) :: l) => (⟨fun a => if a = c then w64 (x.cs c + d) else x.cs a, x.most⟩, .load ((c, d) :: l) K)
  | .load ((c, d) :: l) k => if d ≤ x.most then (x, .add l) else (x, .cas ((c, d) :: l) x.most k)
  | .cas ((c, d) :: l) m k => if x.most = m then (⟨x.cs, d⟩, .add l) else (x, .load ((c, d) :: l) (k - 1))
  | l => (x, l)
/-- what is still to be added to cell c -/
def lsum (c : Nat) : List (Nat × Int) → Int
  | [] => 0
  | s :: l => (if s.1 = c then s.2 else 0) + lsum c l
def Lad.pend (c : Nat) : Option Lad → Int
  | some (.add l) => lsum c l
  | some (.load (_ :: l) _) => lsum c l
  | some (.cas (_ :: l) _ _) => lsum c l
  | _ => 0
/-- what may still raise the most -/
def Lad.list : Option Lad → List (Nat × Int)
  | some (.add l) | some (.load l _) | some (.cas l _ _) => l
  | none => []
def Lad.cost : Option Lad → Nat
  | some (.add l) => l.length * (2 * K + 4)
  | some (.load l k) => (l.length - 1) * (2 * K + 4) + 2 * k + 2
  | some (.cas l _ k) => (l.length - 1) * (2 * K + 4) + 2 * k + 1
  | none => 0
/-- its fuel is enough -/
def Lad.good (x : Tal) : Lad → Prop
  | .add l => l ≠ []
  | .load l k => l ≠ [] ∧ k ≤ K ∧ top - x.most + 1 ≤ k
  | .cas l m k => (∃ c d l', l = (c, d) :: l' ∧ m < d) ∧ k ≤ K ∧ m ≤ x.most ∧ top - m + 1 ≤ k
structure TalJ (x : Tal) (f : Nat → Option Lad) : Prop where
  range : ∀ i l, f i = some l → 1 ≤ i ∧ i ≤ n
  good : ∀ i l, f i = some l → l.good K top x
  le : ∀ i, ∀ s ∈ Lad.list (f i), s.2 ≤ top
  most : x.most ≤ top
  fuel : top - x.most + 1 ≤ K
  hits : x.most = top ∨ ∃ i, ∃ s ∈ Lad.list (f i), s.2 = top
  sum : ∀ c, w64 (x.cs c + isum (n + 1) (fun i => Lad.pend c (f i))) = goal c
  wrap : ∀ c, w64 (x.cs c) = x.cs c
def talBody : Body Tal Lad where
  n := n
  ini i := .add (job i)
  fin := Lad.fin
  stp := Lad.stp K
  J := TalJ K n top goal
  cost _ f := sumTo (n + 1) fun i => Lad.cost K (f i)

variable {K n top job goal}
theorem opt_add (l : List (Nat × Int)) : (talBody K n top job goal).opt (.add l) = if l = [] then none else some (.add l) := by
  cases l <;> rfl
theorem opt_load (l : List (Nat × Int)) (k : Nat) : (talBody K n top job goal).opt (.load l k) = some (.load l k) := rfl
theorem opt_cas (l : List (Nat × Int)) (m : Int) (k : Nat) : (talBody K n top job goal).opt (.cas l m k) = some (.cas l m k) := rfl
theorem pend_opt (c : Nat) (l : List (Nat × Int)) : Lad.pend c (if l = [] then none else some (.add l)) = lsum c l := by cases l <;> rfl
theorem list_opt (l : List (Nat × Int)) : Lad.list (if l = [] then none else some (.add l)) = l := by cases l <;> rfl
theorem cost_opt (l : List (Nat × Int)) : Lad.cost K (if l = [] then none else some (.add l)) = l.length * (2 * K + 4) := by cases l <;> simp [Lad.cost]
theorem good_up {x x' : Tal} (h : x.most ≤ x'.most) : ∀ {l : Lad}, l.good K top x → l.good K top x'
  | .add _, h' => h'
  | .load _ _, h' => ⟨h'.1, h'.2.1, by have := h'.2.2; omega⟩
  | .cas _ _ _, h' => ⟨h'.1, h'.2.1, by have := h'.2.2.1; omega, h'.2.2.2⟩

/-- one worker's move: the rest stand -/
theorem TalJ.move {x x' : Tal} {f : Nat → Option Lad} {i : Nat} {l : Lad} {o : Option Lad} (h : TalJ K n top goal x f) (hi : f i = some l)
    (hg : ∀ l', o = some l' → l'.good K top x') (hl : ∀ s ∈ Lad.list o, s ∈ Lad.list (f i)) (hm : x.most ≤ x'.most) (hm' : x'.most ≤ top)
    (hh' : ∀ s ∈ Lad.list (f i), s.2 = top → x'.most = top ∨ s ∈ Lad.list o)
    (hs : ∀ c, w64 (x'.cs c + Lad.pend c o) = w64 (x.cs c + Lad.pend c (f i))) (hw : ∀ c, w64 (x'.cs c) = x'.cs c) : TalJ K n top goal x' (upd f i o) := by
  have hr := h.range i l hi
  refine ⟨fun k l' hk => ?_, fun k l' hk => ?_, fun k s hk => ?_, hm', by have := h.fuel; omega, ?_, fun c => ?_, hw⟩
  · by_cases e : k = i
    · subst e; exact hr
    · rw [upd_ne _ _ e] at hk; exact h.range k l' hk
  · by_cases e : k = i
    · subst e; rw [upd_same] at hk; exact hg l' hk
    · rw [upd_ne _ _ e] at hk; exact good_up hm (h.good k l' hk)
  · by_cases e : k = i
    · subst e; rw [upd_same] at hk; exact h.le k s (hl s hk)
    · rw [upd_ne _ _ e] at hk; exact h.le k s hk
  · rcases h.hits with h1 | ⟨k, s, h1, h2⟩
    · exact .inl (by omega)
    · by_cases e : k = i
      · subst e
        rcases hh' s h1 h2 with h3 | h3
        · exact .inl h3
        · exact .inr ⟨k, s, by rw [upd_same]; exact h3, h2⟩
      · exact .inr ⟨k, s, by rw [upd_ne _ _ e]; exact h1, h2⟩
  · have e := isum_upd f o (fun a => Lad.pend c a) (show i < n + 1 by omega)
    have e1 := h.sum c
    have e2 := hs c
    rw [show (fun k => Lad.pend c (upd f i o k)) = (fun a => (fun a => Lad.pend c a) (upd f i o a)) from rfl, e, ← e1]
    generalize isum (n + 1) (fun a => Lad.pend c (f a)) = S at *
    generalize Lad.pend c o = a at *
    generalize Lad.pend c (f i) = b at *
    have e3 : x'.cs c + (S + a - b) = (x'.cs c + a) + (S - b) := by omega
    have e4 : x.cs c + S = (x.cs c + b) + (S - b) := by omega
    rw [e3, e4, ← w64_add (x'.cs c + a), e2, w64_add]

theorem talFine (hn : 1 ≤ n) : (talBody K n top job goal).Fine where
  one := hn
  keeps x f i l hJ hi := by
    have hJ : TalJ K n top goal x f := hJ
    have hr := hJ.range i l hi
    have hg := hJ.good i l hi
    have hcost : ∀ o, Lad.cost K o < Lad.cost K (f i) → sumTo (n + 1) (fun k => Lad.cost K (upd f i o k)) < sumTo (n + 1) (fun k => Lad.cost K (f k)) := fun o ho => by
      have := sumTo_upd f o (fun a => Lad.cost K a) (show i < n + 1 by omega)
      omega
    cases l with
    | add l =>
      match l, hg with
      | (c, d) :: l, _ =>
        have e : (talBody K n top job goal).stp (.add ((c, d) :: l)) x = (⟨fun a => if a = c then w64 (x.cs c + d) else x.cs a, x.most⟩, .load ((c, d) :: l) K) := rfl
        rw [e, opt_load]
        refine ⟨hJ.move hi (fun l' e => ?_) (fun s hs => by rw [hi]; exact hs) (Int.le_refl _) hJ.most (fun s hs _ => .inr (by rw [hi] at hs; exact hs)) (fun a => ?_) (fun a => ?_), hcost _ ?_⟩
        · obtain rfl := Option.some.inj e
          exact ⟨by simp, Nat.le_refl _, hJ.fuel⟩
        · rw [hi]
          show w64 ((if a = c then w64 (x.cs c + d) else x.cs a) + lsum a l) = w64 (x.cs a + ((if c = a then d else 0) + lsum a l))
          by_cases e : a = c
          · subst e
            rw [if_pos rfl, if_pos rfl, w64_add]
            congr 1; omega
          · rw [if_neg e, if_neg (fun h => e h.symm)]
            congr 1; omega
        · show w64 (if a = c then w64 (x.cs c + d) else x.cs a) = (if a = c then w64 (x.cs c + d) else x.cs a)
          split
          · exact w64_w64 _
          · exact hJ.wrap a
        · rw [hi]
          simp only [Lad.cost, List.length_cons, Nat.add_sub_cancel]
          have := Nat.add_mul l.length 1 (2 * K + 4)
          omega
    | load l k =>
      match l, hg with
      | (c, d) :: l, hg =>
        have hg : (c, d) :: l ≠ [] ∧ k ≤ K ∧ top - x.most + 1 ≤ k := hg
        have hk : 1 ≤ k := by have := hJ.most; have := hg.2.2; omega
        by_cases e : d ≤ x.most
        · have e' : (talBody K n top job goal).stp (.load ((c, d) :: l) k) x = (x, .add l) := by simp [talBody, Lad.stp, e]
          rw [e', opt_add]
          refine ⟨hJ.move (x' := x) hi (fun l' e => ?_) (fun s hs => by rw [list_opt] at hs; rw [hi]; exact List.mem_cons_of_mem _ hs) (Int.le_refl _) hJ.most (fun s hs ht => ?_) (fun a => by rw [pend_opt, hi]; rfl) hJ.wrap, hcost _ ?_⟩
          · split at e
            · cases e
            · next hl => obtain rfl := Option.some.inj e; exact hl
          · rw [hi] at hs
            rw [list_opt]
            rcases List.mem_cons.1 hs with rfl | hs
            · have := hJ.most
              simp only at ht
              exact .inl (by omega)
            · exact .inr hs
          · rw [cost_opt, hi]
            simp only [Lad.cost, List.length_cons, Nat.add_sub_cancel]
            omega
        · have e' : (talBody K n top job goal).stp (.load ((c, d) :: l) k) x = (x, .cas ((c, d) :: l) x.most k) := by simp [talBody, Lad.stp, e]
          rw [e', opt_cas]
          refine ⟨hJ.move (x' := x) hi (fun l' e2 => ?_) (fun s hs => by rw [hi]; exact hs) (Int.le_refl _) hJ.most (fun s hs _ => .inr (by rw [hi] at hs; exact hs)) (fun a => by rw [hi]; rfl) hJ.wrap, hcost _ ?_⟩
          · obtain rfl := Option.some.inj e2
            exact ⟨⟨c, d, l, rfl, by omega⟩, hg.2.1, Int.le_refl _, hg.2.2⟩
          · rw [hi]
            simp only [Lad.cost]
            omega
    | cas l m k =>
      match l, hg with
      | (c, d) :: l, hg =>
        obtain ⟨⟨c', d', l', e0, hmd⟩, hkK, hmx, hgt⟩ : (∃ c' d' l', (c, d) :: l = (c', d') :: l' ∧ m < d') ∧ k ≤ K ∧ m ≤ x.most ∧ top - m + 1 ≤ k := hg
        injection e0 with e1 e2
        injection e1 with e3 e4
        subst e3; subst e4; subst e2
        have htop := hJ.most
        have hk : 1 ≤ k := by omega
        have hd : d ≤ top := hJ.le i (c, d) (by rw [hi]; exact List.mem_cons_self)
        by_cases e : x.most = m
        · have e' : (talBody K n top job goal).stp (.cas ((c, d) :: l) m k) x = (⟨x.cs, d⟩, .add l) := by simp [talBody, Lad.stp, e]
          rw [e', opt_add]
          refine ⟨hJ.move hi (fun l' e => ?_) (fun s hs => by rw [list_opt] at hs; rw [hi]; exact List.mem_cons_of_mem _ hs) (by simp only; omega) hd (fun s hs ht => ?_) (fun a => by rw [pend_opt, hi]; rfl) hJ.wrap, hcost _ ?_⟩
          · split at e
            · cases e
            · next hl => obtain rfl := Option.some.inj e; exact hl
          · rw [hi] at hs
            rw [list_opt]
            rcases List.mem_cons.1 hs with rfl | hs
            · exact .inl ht
            · exact .inr hs
          · rw [cost_opt, hi]
            simp only [Lad.cost, List.length_cons, Nat.add_sub_cancel]
            omega
        · have e' : (talBody K n top job goal).stp (.cas ((c, d) :: l) m k) x = (x, .load ((c, d) :: l) (k - 1)) := by simp [talBody, Lad.stp, e]
          rw [e', opt_load]
          refine ⟨hJ.move (x' := x) hi (fun l' e2 => ?_) (fun s hs => by rw [hi]; exact hs) (Int.le_refl _) hJ.most (fun s hs _ => .inr (by rw [hi] at hs; exact hs)) (fun a => by rw [hi]; rfl) hJ.wrap, hcost _ ?_⟩
          · obtain rfl := Option.some.inj e2
            exact ⟨by simp, by omega, by omega⟩
          · rw [hi]
            simp only [Lad.cost]
            omega
theorem talEnds {x : Tal} (h : TalJ K n top goal x (fun _ => none)) : x.most = top ∧ ∀ c, x.cs c = goal c := by
  refine ⟨h.hits.elim id (fun ⟨i, s, h1, _⟩ => by cases h1), fun c => ?_⟩
  have e : isum (n + 1) (fun _ => Lad.pend c none) = 0 := isum_zero (fun i _ => rfl)
  have h2 : w64 (x.cs c + isum (n + 1) (fun _ => Lad.pend c none)) = goal c := h.sum c
  rw [e, Int.add_zero, h.wrap c] at h2
  exact h2
end
end Go.Proofs.Ytboiolnnhmlieaa.Gang
