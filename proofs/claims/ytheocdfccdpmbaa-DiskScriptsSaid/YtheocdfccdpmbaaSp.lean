/-
  Things in memory side by side, each with blocks of its own: what one's turn leaves of the others.
  Conditions: stated lemma by lemma.
-/
import Derived.Test.YtheocdfccdpmbaaWhM
namespace Go.Proofs.Ytheocdfccdpmbaa
open Go.RowKit Go.Maps
set_option linter.unusedVariables false
set_option linter.unusedSimpArgs false
set_option linter.unusedSectionVars false

/-- a thing in memory: what is so in a world, with blocks of its own -/
structure Thing where
  P : (Nat → Prop) → World → Prop
  turn : ∀ {F : Nat → Prop} {w w' : World} {B : Nat → Prop}, P F w → Turn B w w' → (∀ b, F b → ¬ B b) → P F w'
  lt : ∀ {F : Nat → Prop} {w : World}, P F w → ∀ b, F b → b < w.heap.size
/-- all of these, apart -/
def All : List Thing → (Nat → Prop) → World → Prop
  | [], F, _ => ∀ b, ¬ F b
  | r :: l, F, W => ∃ A B, r.P A W ∧ All l B W ∧ (∀ b, A b → ¬ B b) ∧ ∀ b, F b ↔ A b ∨ B b
namespace All
variable {w w' : World} {B : Nat → Prop}
theorem turn : ∀ {l : List Thing} {F : Nat → Prop}, All l F w → Turn B w w' → (∀ b, F b → ¬ B b) → All l F w'
  | [], F, h, _, _ => h
  | r :: l, F, ⟨A, C, h1, h2, h3, h4⟩, t, hB => ⟨A, C, r.turn h1 t (fun b e => hB b ((h4 b).2 (.inl e))), turn h2 t (fun b e => hB b ((h4 b).2 (.inr e))), h3, h4⟩
theorem lt : ∀ {l : List Thing} {F : Nat → Prop}, All l F w → ∀ b, F b → b < w.heap.size
  | [], F, h, b, e => absurd e (h b)
  | r :: l, F, ⟨A, C, h1, h2, h3, h4⟩, b, e => ((h4 b).1 e).elim (r.lt h1 b) (lt h2 b)
theorem perm {l l' : List Thing} (hp : l.Perm l') : ∀ {F : Nat → Prop}, All l F w → All l' F w := by
  induction hp with
  | nil => exact fun h => h
  | cons x _ ih => exact fun ⟨A, C, h1, h2, h3, h4⟩ => ⟨A, C, h1, ih h2, h3, h4⟩
  | swap x y l =>
    rintro F ⟨A, C, h1, ⟨A2, C2, k1, k2, k3, k4⟩, h3, h4⟩
    refine ⟨A2, fun b => A b ∨ C2 b, k1, ⟨A, C2, h1, k2, fun b e e2 => h3 b e ((k4 b).2 (.inr e2)), fun b => Iff.rfl⟩, fun b e e2 => ?_, fun b => ?_⟩
    · rcases e2 with e2 | e2
      · exact h3 b e2 ((k4 b).2 (.inl e))
      · exact k3 b e e2
    · rw [h4 b, k4 b]
      constructor
      · rintro (e | e | e)
        · exact .inr (.inl e)
        · exact .inl e
        · exact .inr (.inr e)
      · rintro (e | e | e)
        · exact .inr (.inl e)
        · exact .inl e
        · exact .inr (.inr e)
  | trans _ _ ih1 ih2 => exact fun h => ih2 (ih1 h)
theorem app : ∀ {l k : List Thing} {F : Nat → Prop}, All (l ++ k) F w ↔ ∃ A C, All l A w ∧ All k C w ∧ (∀ b, A b → ¬ C b) ∧ ∀ b, F b ↔ A b ∨ C b
  | [], k, F => by
    constructor
    · exact fun h => ⟨fun _ => False, F, fun b e => e, h, fun b e => e.elim, fun b => by simp⟩
    · rintro ⟨A, C, h1, h2, h3, h4⟩
      have e : F = C := by
        funext b
        have := h4 b
        have := h1 b
        apply propext
        simp_all
      rw [e]; exact h2
  | r :: l, k, F => by
    constructor
    · rintro ⟨A, C, h1, h2, h3, h4⟩
      obtain ⟨A2, C2, k1, k2, k3, k4⟩ := (app (l := l) (k := k)).1 h2
      refine ⟨fun b => A b ∨ A2 b, C2, ⟨A, A2, h1, k1, fun b e e2 => h3 b e ((k4 b).2 (.inl e2)), fun b => Iff.rfl⟩, k2, fun b e e2 => ?_, fun b => ?_⟩
      · rcases e with e | e
        · exact h3 b e ((k4 b).2 (.inr e2))
        · exact k3 b e e2
      · rw [h4 b, k4 b]; exact or_assoc.symm
    · rintro ⟨A, C, ⟨A2, C2, k1, k2, k3, k4⟩, h2, h3, h4⟩
      refine ⟨A2, fun b => C2 b ∨ C b, k1, (app (l := l) (k := k)).2 ⟨C2, C, k2, h2, fun b e e2 => h3 b ((k4 b).2 (.inr e)) e2, fun b => Iff.rfl⟩, fun b e e2 => ?_, fun b => ?_⟩
      · rcases e2 with e2 | e2
        · exact k3 b e e2
        · exact h3 b ((k4 b).2 (.inl e)) e2
      · rw [h4 b, k4 b]; exact or_assoc
theorem get : ∀ {l : List Thing} {F : Nat → Prop} {r : Thing}, All l F w → r ∈ l → ∃ A, r.P A w ∧ ∀ b, A b → F b
  | [], _, _, _, hr => by cases hr
  | s :: l, F, r, ⟨A, C, h1, h2, h3, h4⟩, hr => by
    rcases List.mem_cons.1 hr with rfl | hr
    · exact ⟨A, h1, fun b e => (h4 b).2 (.inl e)⟩
    · obtain ⟨D, k1, k2⟩ := get h2 hr
      exact ⟨D, k1, fun b e => (h4 b).2 (.inr (k2 b e))⟩
end All
/-- several things as one -/
def star (l : List Thing) : Thing := ⟨All l, fun h t hB => All.turn h t hB, fun h => All.lt h⟩
/-- one of several -/
def some_ {α : Type} (p : α → Prop) (r : α → Thing) : Thing := ⟨fun F w => ∃ a, p a ∧ (r a).P F w, fun ⟨a, ha, h⟩ t hB => ⟨a, ha, (r a).turn h t hB⟩, fun ⟨a, ha, h⟩ => (r a).lt h⟩
/-- things behind a call -/
structure Sp (w0 : World) (l : List Thing) (W : World) : Prop where
  bel : Below w0.heap.size w0 W
  ex : ∃ F, All l F W ∧ ∀ b, F b → w0.heap.size ≤ b
namespace Sp
variable {w0 W W' : World} {l l' : List Thing} {r r' : Thing}
theorem nil (w : World) : Sp w [] w := ⟨Below.refl _ _, fun _ => False, fun b e => e, fun b e => e.elim⟩
theorem perm (h : Sp w0 l W) (hp : l.Perm l') : Sp w0 l' W := ⟨h.bel, by obtain ⟨F, h1, h2⟩ := h.ex; exact ⟨F, h1.perm hp, h2⟩⟩
theorem keep (h : Sp w0 l W) (hb : Below W.heap.size W W') : Sp w0 l W' := ⟨bel_tr h.bel hb, by obtain ⟨F, h1, h2⟩ := h.ex; exact ⟨F, h1.turn (B := fun _ => False) (.bel hb) (fun _ _ e => e), h2⟩⟩
theorem get (h : Sp w0 l W) (hr : r ∈ l) : ∃ A, r.P A W ∧ ∀ b, A b → w0.heap.size ≤ b := by
  obtain ⟨F, h1, h2⟩ := h.ex
  obtain ⟨A, k1, k2⟩ := h1.get hr
  exact ⟨A, k1, fun b e => h2 b (k2 b e)⟩
theorem size (h : Sp w0 l W) : w0.heap.size ≤ W.heap.size := h.bel.size
theorem tail (h : Sp w0 (r :: l) W) : Sp w0 l W := ⟨h.bel, by obtain ⟨F, ⟨A, C, h1, h2, h3, h4⟩, h5⟩ := h.ex; exact ⟨C, h2, fun b e => h5 b ((h4 b).2 (.inr e))⟩⟩
theorem head (h : Sp w0 (r :: l) W) : Sp w0 [r] W := ⟨h.bel, by obtain ⟨F, ⟨A, C, h1, h2, h3, h4⟩, h5⟩ := h.ex; exact ⟨A, ⟨A, fun _ => False, h1, fun b e => e, fun b _ e => e, fun b => by simp⟩, fun b e => h5 b ((h4 b).2 (.inl e))⟩⟩
/-- what a thing's turn leaves -/
def To (r : Thing) (A : Nat → Prop) (w w' : World) (r' : Thing) : Prop := ∃ A', r'.P A' w' ∧ Turn A w w' ∧ ∀ b, A' b → A b ∨ w.heap.size ≤ b
theorem to (h : Sp w0 (r :: l) W) (k : ∀ A, r.P A W → To r A W W' r') : Sp w0 (r' :: l) W' := by
  obtain ⟨F, ⟨A, C, h1, h2, h3, h4⟩, h5⟩ := h.ex
  obtain ⟨A', k1, k2, k3⟩ := k A h1
  refine ⟨k2.below h.bel (fun b e => h5 b ((h4 b).2 (.inl e))) h.bel.size, fun b => A' b ∨ C b, ⟨A', C, k1, h2.turn k2 (fun b e e2 => h3 b e2 e), fun b e e2 => ?_, fun b => Iff.rfl⟩, fun b e => ?_⟩
  · rcases k3 b e with e3 | e3
    · exact h3 b e3 e2
    · have := h2.lt b e2; omega
  · rcases e with e | e
    · rcases k3 b e with e3 | e3
      · exact h5 b ((h4 b).2 (.inl e3))
      · exact Nat.le_trans h.bel.size e3
    · exact h5 b ((h4 b).2 (.inr e))
theorem new (h : Sp w0 l W) (hb : Below W.heap.size W W') {A : Nat → Prop} (hr : r.P A W') (hA : ∀ b, A b → W.heap.size ≤ b) : Sp w0 (r :: l) W' := by
  obtain ⟨F, h1, h2⟩ := h.ex
  refine ⟨bel_tr h.bel hb, fun b => A b ∨ F b, ⟨A, F, hr, h1.turn (B := fun _ => False) (.bel hb) (fun _ _ e => e), fun b e e2 => ?_, fun b => Iff.rfl⟩, fun b e => ?_⟩
  · have := hA b e; have := h1.lt b e2; omega
  · rcases e with e | e
    · exact Nat.le_trans h.bel.size (hA b e)
    · exact h2 b e
/-- things that a callee left, from its own world on -/
theorem join (h : Sp w0 l W) (k : Sp W l' W') : Sp w0 (l' ++ l) W' := by
  obtain ⟨F, h1, h2⟩ := h.ex
  obtain ⟨G, k1, k2⟩ := k.ex
  refine ⟨bel_tr h.bel k.bel, fun b => G b ∨ F b, All.app.2 ⟨G, F, k1, h1.turn (B := fun _ => False) (.bel k.bel) (fun _ _ e => e), fun b e e2 => ?_, fun b => Iff.rfl⟩, fun b e => ?_⟩
  · have := k2 b e; have := h1.lt b e2; omega
  · rcases e with e | e
    · exact Nat.le_trans h.bel.size (k2 b e)
    · exact h2 b e
theorem open_ {α : Type} {p : α → Prop} {t : α → Thing} (h : Sp w0 (some_ p t :: l) W) : ∃ a, p a ∧ Sp w0 (t a :: l) W := by
  obtain ⟨F, ⟨A, C, ⟨a, ha, h1⟩, h2, h3, h4⟩, h5⟩ := h.ex
  exact ⟨a, ha, h.bel, F, ⟨A, C, h1, h2, h3, h4⟩, h5⟩
theorem close {α : Type} {p : α → Prop} {t : α → Thing} {a : α} (ha : p a) (h : Sp w0 (t a :: l) W) : Sp w0 (some_ p t :: l) W := by
  obtain ⟨F, ⟨A, C, h1, h2, h3, h4⟩, h5⟩ := h.ex
  exact ⟨h.bel, F, ⟨A, C, ⟨a, ha, h1⟩, h2, h3, h4⟩, h5⟩
theorem star_iff : Sp w0 (star l' :: l) W ↔ Sp w0 (l' ++ l) W := by
  constructor
  · rintro ⟨h1, F, ⟨A, C, k1, k2, k3, k4⟩, h3⟩
    exact ⟨h1, F, All.app.2 ⟨A, C, k1, k2, k3, k4⟩, h3⟩
  · rintro ⟨h1, F, h2, h3⟩
    obtain ⟨A, C, k1, k2, k3, k4⟩ := All.app.1 h2
    exact ⟨h1, F, ⟨A, C, k1, k2, k3, k4⟩, h3⟩
end Sp
section
variable {w0 W W' : World} {l : List Thing} {g : Nat} {t e : TypeId} {cs : Array Value}
/-- a block of cells -/
def blkT (g : Nat) (t : TypeId) (cs : Array Value) : Thing := ⟨fun F w => Blk w g t cs ∧ ∀ b, F b ↔ b = g, fun ⟨h, hF⟩ t hB => ⟨h.turn t (hB g ((hF g).2 rfl)), hF⟩, fun ⟨h, hF⟩ b e => by rw [(hF b).1 e]; exact h.lt⟩
theorem Sp.blk (h : Sp w0 l W) (hr : blkT g t cs ∈ l) : Blk W g t cs := by obtain ⟨A, k, _⟩ := h.get hr; exact k.1
theorem Sp.blk_lo (h : Sp w0 l W) (hr : blkT g t cs ∈ l) : w0.heap.size ≤ g := by obtain ⟨A, k, k2⟩ := h.get hr; exact k2 g ((k.2 g).2 rfl)
theorem Sp.alloc (h : Sp w0 l W) (cs : Array Value) (t : TypeId) : Sp w0 (blkT W.heap.size t cs :: l) (W.alloc (.cells cs t)) :=
  h.new (bel_new (Below.refl _ _) _) (A := fun b => b = W.heap.size) ⟨Blk.new W t cs, fun b => Iff.rfl⟩ (fun b e => by omega)
theorem Sp.set (h : Sp w0 (blkT g t cs :: l) W) (i : Nat) (u : Value) : Sp w0 (blkT g t (cs.setIfInBounds i u) :: l) (W.setCell ⟨g, i, none⟩ u) :=
  h.to fun A hA => ⟨A, ⟨hA.1.set i u, hA.2⟩, (Turn.set W ⟨g, i, none⟩ u).mono (fun b _ e => (hA.2 b).2 e), fun b e => .inl e⟩
variable {α : Type} [Inhabited α] {L : Lay α} {v v' : Value} {xs ys : List α}
/-- a row that is the call's own -/
def ownT (L : Lay α) (e : TypeId) (v : Value) (xs : List α) : Thing := ⟨fun F w => OwnL L e w 0 v xs ∧ ∀ b, F b ↔ v.ownBlock = some b, fun ⟨h, hF⟩ t hB => ⟨h.turn t (fun b e => hB b ((hF b).2 e)), hF⟩, fun ⟨h, hF⟩ b e => h.lt2 b ((hF b).1 e)⟩
theorem OwnL.low {w : World} {b b' : Nat} (h : OwnL L e w b' v xs) (hb : b ≤ b') : OwnL L e w b v xs := by
  refine ⟨h.1, ?_⟩
  rcases h.2 with hn | ⟨g, cap, cur, rfl, hg, rest⟩
  · exact .inl hn
  · exact .inr ⟨g, cap, cur, rfl, Nat.le_trans hb hg, rest⟩
theorem OwnL.high {w : World} {b b' : Nat} (h : OwnL L e w b' v xs) (hb : ∀ k, v.ownBlock = some k → b ≤ k) : OwnL L e w b v xs := by
  refine ⟨h.1, ?_⟩
  rcases h.2 with hn | ⟨g, cap, cur, rfl, hg, rest⟩
  · exact .inl hn
  · exact .inr ⟨g, cap, cur, rfl, hb g rfl, rest⟩
theorem OwnL.lo {w : World} {b' : Nat} (h : OwnL L e w b' v xs) : ∀ k, v.ownBlock = some k → b' ≤ k := fun k hk => (World.ownsRow.lt h k hk).1
theorem Sp.own (h : Sp w0 l W) (hr : ownT L e v xs ∈ l) : OwnL L e W w0.heap.size v xs := by
  obtain ⟨A, k, k2⟩ := h.get hr
  exact k.1.high fun b hb => k2 b ((k.2 b).2 hb)
theorem Sp.rd {A : Option Addr} {n c : Nat} (h : Sp w0 l W) (hr : ownT L e (.slice A n c) xs ∈ l) : RdL L W A xs := by
  obtain ⟨A', cap', e, -, -, hrd, -⟩ := (h.own hr).form
  injection e with e _ _
  rw [e]; exact hrd
theorem Sp.row (h : Sp w0 l W) (hb : Below W.heap.size W W') (ho : OwnL L e W' W.heap.size v xs) : Sp w0 (ownT L e v xs :: l) W' :=
  h.new hb (A := fun b => v.ownBlock = some b) ⟨ho.low (Nat.zero_le _), fun b => Iff.rfl⟩ (fun b e => ho.lo b e)
theorem Sp.row0 (h : Sp w0 l W) : Sp w0 (ownT L e (.slice none 0 0) ([] : List α) :: l) W :=
  h.new (Below.refl _ _) (A := fun _ => False) ⟨OwnL.nil _ _, fun b => by simp [Value.ownBlock]⟩ (fun b e => e.elim)
theorem Sp.app {b0 : Nat} (h : Sp w0 (ownT L e v xs :: l) W) (ho : OwnL L e W' b0 v' ys) (hg : W.grownBy W' v.ownBlock) (h3 : v'.ownBlock = v.ownBlock ∨ v'.ownBlock = some W.heap.size) : Sp w0 (ownT L e v' ys :: l) W' :=
  h.to fun A hA => ⟨fun b => v'.ownBlock = some b, ⟨ho.low (Nat.zero_le _), fun b => Iff.rfl⟩, (Turn.grown hg).mono (fun b _ e => (hA.2 b).2 e), fun b e => by
    rcases h3 with h3 | h3
    · rw [h3] at e; exact .inl ((hA.2 b).2 e)
    · rw [h3] at e; injection e with e; exact .inr (by omega)⟩
/-- a row turns in its own block -/
theorem Sp.turnRow {b0 : Nat} (h : Sp w0 (ownT L e v xs :: l) W) (ho : OwnL L e W' b0 v' ys) (hg : Turn (fun b => v.ownBlock = some b) W W') (h3 : v'.ownBlock = v.ownBlock ∨ v'.ownBlock = none) : Sp w0 (ownT L e v' ys :: l) W' :=
  h.to fun A hA => ⟨fun b => v'.ownBlock = some b, ⟨ho.low (Nat.zero_le _), fun b => Iff.rfl⟩, hg.mono (fun b _ e => (hA.2 b).2 e), fun b e => by
    rcases h3 with h3 | h3
    · rw [h3] at e; exact .inl ((hA.2 b).2 e)
    · rw [h3] at e; cases e⟩
variable {H : Type} {P : Program} {k : TypeId} {R : Value → Option (DataW H × List MemPlace)} {mb n : Nat} {D D' : DataW H}
/-- a map -/
def mapT (P : Program) (k : TypeId) (R : Value → Option (DataW H × List MemPlace)) (mb : Nat) (D : DataW H) : Thing := ⟨fun F w => w.ownsMap P k R mb (Maps.size D) D ∧ ∀ b, F b ↔ b = mb, fun ⟨h, hF⟩ t hB => ⟨ownsMap_turn h t (hB mb ((hF mb).2 rfl)), hF⟩, fun ⟨h, hF⟩ b e => by rw [(hF b).1 e]; exact h.lt⟩
theorem Sp.map (h : Sp w0 l W) (hr : mapT P k R mb D ∈ l) : W.ownsMap P k R mb (Maps.size D) D := by obtain ⟨A, k, _⟩ := h.get hr; exact k.1
theorem Sp.setMap (h : Sp w0 (mapT P k R mb D :: l) W) (hg : W.grownBy W' (some mb)) (hm : W'.ownsMap P k R mb n D') : Sp w0 (mapT P k R mb D' :: l) W' :=
  h.to fun A hA => ⟨A, ⟨ownsMap_tight hm, hA.2⟩, (Turn.grown hg).mono (fun b _ e => (hA.2 b).2 (by injection e with e; exact e.symm)), fun b e => .inl e⟩
end
end Go.Proofs.Ytheocdfccdpmbaa
