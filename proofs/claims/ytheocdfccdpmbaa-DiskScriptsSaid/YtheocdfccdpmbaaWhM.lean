/-
  A timing wheel in memory: its places' slices, its map; what changes of one part leave of the others.
  Conditions: stated lemma by lemma.
-/
import Derived.Test.YtheocdfccdpmbaaWhP
import Derived.Test.YtheocdfccdpmbaaRow2
import Derived.Test.YtheocdfccdpmbaaBig
import Derived.Maps.OwnSet
namespace Go.Proofs.Ytheocdfccdpmbaa
open Go.RowKit Go.Maps
set_option linter.unusedVariables false
set_option linter.unusedSimpArgs false
set_option linter.unusedSectionVars false

/-- blocks outside B are as they were -/
structure Turn (B : Nat → Prop) (w w' : World) : Prop where
  os : w'.os = w.os
  tape : w'.tape = w.tape
  output : w'.output = w.output
  size : w.heap.size ≤ w'.heap.size
  block : ∀ b, b < w.heap.size → ¬ B b → w'.heap[b]? = w.heap[b]?
section
variable {B B' : Nat → Prop} {w w' w'' : World}
theorem Turn.refl (B : Nat → Prop) (w : World) : Turn B w w := ⟨rfl, rfl, rfl, Nat.le_refl _, fun _ _ _ => rfl⟩
theorem Turn.trans (h : Turn B w w') (k : Turn B' w' w'') (hB : ∀ b, B' b → B b ∨ w.heap.size ≤ b) : Turn B w w'' :=
  ⟨k.os.trans h.os, k.tape.trans h.tape, k.output.trans h.output, Nat.le_trans h.size k.size, fun b hb hn => (k.block b (Nat.lt_of_lt_of_le hb h.size) (fun e => by rcases hB b e with e | e; exact hn e; omega)).trans (h.block b hb hn)⟩
theorem Turn.mono (h : Turn B w w') (hB : ∀ b, b < w.heap.size → B b → B' b) : Turn B' w w' := { h with block := fun b hb hn => h.block b hb (fun e => hn (hB b hb e)) }
theorem Turn.bel (h : Below w.heap.size w w') : Turn B w w' := ⟨h.os, h.tape, h.output, h.size, fun b hb _ => h.block b hb⟩
theorem Turn.grown {o : Option Nat} (h : w.grownBy w' o) : Turn (fun b => o = some b) w w' := ⟨h.os, h.tape, h.output, h.size, fun b hb hn => h.block b hb (fun e => hn e.symm)⟩
theorem Turn.set (w : World) (p : Addr) (u : Value) : Turn (fun b => b = p.block) w (w.setCell p u) := ⟨rfl, rfl, rfl, by simp, fun b _ hn => Below.heap_setCell w p u b hn⟩
theorem Turn.below {base : Nat} {w0 : World} (h : Turn B w w') (hb : Below base w0 w) (hB : ∀ b, B b → base ≤ b) (hbw : base ≤ w.heap.size) : Below base w0 w' :=
  hb.trans ⟨h.os, h.tape, h.output, h.size, fun b hb => h.block b (by omega) (fun e => by have := hB b e; omega)⟩
theorem Blk.turn {g : Nat} {t : TypeId} {cs : Array Value} (h : Blk w g t cs) (k : Turn B w w') (hg : ¬ B g) : Blk w' g t cs := (k.block g h.lt hg).trans h
variable {α : Type} [Inhabited α] {L : Lay α} {e : TypeId} {base : Nat} {v : Value} {xs : List α} {A : Option Addr}
theorem OwnL.turn (h : OwnL L e w base v xs) (k : Turn B w w') (hv : ∀ b, v.ownBlock = some b → ¬ B b) : OwnL L e w' base v xs := by
  refine ⟨h.1, ?_⟩
  rcases h.2 with hn | ⟨g, cap, cur, rfl, hb, hgg, rest⟩
  · exact .inl hn
  · exact .inr ⟨g, cap, cur, rfl, hb, (k.block g (Array.getElem?_eq_some_iff.1 hgg).1 (hv g rfl)).trans hgg, rest⟩
theorem OwnL.lt2 (h : OwnL L e w base v xs) : ∀ b, v.ownBlock = some b → b < w.heap.size := fun b hb => (World.ownsRow.lt h b hb).2
theorem RdL.turn (h : RdL L w A xs) (k : Turn B w w') (hA : ∀ b off, A = some ⟨b, off, none⟩ → ¬ B b) : RdL L w' A xs := fun i hi => by
  obtain ⟨b, off, e, hlt, h1⟩ := h i hi
  exact ⟨b, off, e, Nat.lt_of_lt_of_le hlt k.size, fun r u hu => (World.cell?_of_block (a := ⟨b, off + i * L.k + r, none⟩) (k.block b hlt (hA b off e))).trans (h1 r u hu)⟩
end
section
variable {H : Type} {P : Program} {k : TypeId} {R : Value → Option (DataW H × List MemPlace)} {b n : Nat} {D : DataW H} {w w' : World} {B : Nat → Prop}
theorem ownsMap_turn (h : w.ownsMap P k R b n D) (t : Turn B w w') (hb : ¬ B b) : w'.ownsMap P k R b n D := by
  have hlt := h.lt
  obtain ⟨es, clock, he, F, hs, hD⟩ := h
  exact ⟨es, clock, (t.block b hlt hb).trans he, F, hs, hD⟩
theorem ownsMap_tight (h : w.ownsMap P k R b n D) : w.ownsMap P k R b (Maps.size D) D := by
  obtain ⟨es, clock, he, F, hs, rfl⟩ := h
  exact ⟨es, clock, he, F, by rw [Maps.size_eq, length_sorted]; simp, rfl⟩
end

/-- an item in memory -/
def layW : Lay Itm := ⟨2, fun x => [.int .i64 x.id, .int .i64 x.at_], fun _ => rfl, by decide, fun x u hu => by simp at hu; rcases hu with rfl | rfl <;> rfl⟩
abbrev itmV (i : Itm) : Value := .agg #[.int .i64 i.id, .int .i64 i.at_]
/-- the map of a wheel that holds S -/
structure MapIs (D : DataW Unit) (S : List Itm) : Prop where
  has : ∀ i, Maps.has D (.int .i64 i) = S.any fun x => decide (x.id = i)
  at_ : ∀ x ∈ S, ∀ z, D.atKey (.int .i64 x.id) z = .lit (.int .i64 x.at_)
  size : Maps.size D = S.length
/-- a wheel: its block g, its map's block mb, its places' slices pv with what they hold -/
structure Whl (g mb : Nat) (now : Int) (pv : Nat → Value) (pl : Nat → List Itm) (D : DataW Unit) (w : World) : Prop where
  cells : ∃ cs, Blk w g 77 cs ∧ cs.size = 258 ∧ cs[0]? = some (.int .i64 now) ∧ (∀ j, j < 256 → cs[j + 1]? = some (pv j)) ∧ cs[257]? = some (.map (some mb))
  places : ∀ j, j < 256 → OwnL layW 31 w 0 (pv j) (pl j)
  apart : ∀ i j, i < 256 → j < 256 → i ≠ j → Apart (pv i) (pv j)
  far : ∀ j, j < 256 → ∀ b, (pv j).ownBlock = some b → b ≠ g ∧ b ≠ mb
  map : w.ownsMap Try.prog 3 (plainElem Try.prog 2) mb (Maps.size D) D
  ne : g ≠ mb
/-- a wheel's blocks -/
def WB (g mb : Nat) (pv : Nat → Value) (b : Nat) : Prop := b = g ∨ b = mb ∨ ∃ j, j < 256 ∧ (pv j).ownBlock = some b
/-- a place takes another slice -/
def updV (pv : Nat → Value) (p : Nat) (v : Value) : Nat → Value := fun j => if j = p then v else pv j
section
variable {g mb : Nat} {now : Int} {pv : Nat → Value} {pl : Nat → List Itm} {D : DataW Unit} {w w' : World} {B : Nat → Prop}
theorem Whl.g_lt (h : Whl g mb now pv pl D w) : g < w.heap.size := by obtain ⟨cs, hb, _⟩ := h.cells; exact hb.lt
theorem Whl.lt (h : Whl g mb now pv pl D w) : ∀ b, WB g mb pv b → b < w.heap.size := fun b hb => by
  rcases hb with rfl | rfl | ⟨j, hj, e⟩
  · exact h.g_lt
  · exact h.map.lt
  · exact (h.places j hj).lt2 b e
/-- what leaves its blocks alone leaves the wheel alone -/
theorem Whl.turn (h : Whl g mb now pv pl D w) (t : Turn B w w') (hB : ∀ b, WB g mb pv b → ¬ B b) : Whl g mb now pv pl D w' := by
  obtain ⟨cs, hb, rest⟩ := h.cells
  exact ⟨⟨cs, hb.turn t (hB g (.inl rfl)), rest⟩, fun j hj => (h.places j hj).turn t (fun b e => hB b (.inr (.inr ⟨j, hj, e⟩))), h.apart, h.far, ownsMap_turn h.map t (hB mb (.inr (.inl rfl))), h.ne⟩
theorem Whl.bel (h : Whl g mb now pv pl D w) (hb : Below w.heap.size w w') : Whl g mb now pv pl D w' := h.turn (B := fun _ => False) (.bel hb) (fun _ _ e => e)
theorem Whl.c0 (h : Whl g mb now pv pl D w) : w.cell? ⟨g, 0, none⟩ = some (.int .i64 now) ∧ w.frozen? ⟨g, 0, none⟩ = false := by
  obtain ⟨cs, hb, _, h0, _⟩ := h.cells
  exact ⟨(hb.cells 0).trans h0, hb.free 0⟩
theorem Whl.cp (h : Whl g mb now pv pl D w) (j : Nat) (hj : j < 256) : w.cell? ⟨g, j + 1, none⟩ = some (pv j) ∧ w.frozen? ⟨g, j + 1, none⟩ = false := by
  obtain ⟨cs, hb, _, _, h1, _⟩ := h.cells
  exact ⟨(hb.cells (j + 1)).trans (h1 j hj), hb.free _⟩
theorem Whl.cm (h : Whl g mb now pv pl D w) : w.cell? ⟨g, 257, none⟩ = some (.map (some mb)) ∧ w.frozen? ⟨g, 257, none⟩ = false := by
  obtain ⟨cs, hb, _, _, _, h2⟩ := h.cells
  exact ⟨(hb.cells 257).trans h2, hb.free _⟩
/-- now moves on -/
theorem Whl.set0 (h : Whl g mb now pv pl D w) (n : Int) : Whl g mb n pv pl D (w.setCell ⟨g, 0, none⟩ (.int .i64 n)) := by
  obtain ⟨cs, hb, hs, h0, h1, h2⟩ := h.cells
  have t := Turn.set w ⟨g, 0, none⟩ (.int .i64 n)
  refine ⟨⟨cs.setIfInBounds 0 (.int .i64 n), hb.set 0 _, by simp [hs], by simp [hs], fun j hj => ?_, ?_⟩, fun j hj => (h.places j hj).turn t (fun b e => (h.far j hj b e).1), h.apart, h.far, ownsMap_turn h.map t (fun e => h.ne e.symm), h.ne⟩
  · rw [Array.getElem?_setIfInBounds_ne (by omega)]; exact h1 j hj
  · rw [Array.getElem?_setIfInBounds_ne (by omega)]; exact h2
/-- a place takes another slice: one that lies in the old one's block or in a new one -/
theorem Whl.setp (h : Whl g mb now pv pl D w) {j : Nat} (hj : j < 256) {v : Value} {l : List Itm} (t : Turn (fun b => (pv j).ownBlock = some b) w w') (ho : OwnL layW 31 w' 0 v l)
    (hv : ∀ b, v.ownBlock = some b → (pv j).ownBlock = some b ∨ w.heap.size ≤ b) : Whl g mb now (updV pv j v) (Wh.upd pl j l) D (w'.setCell ⟨g, j + 1, none⟩ v) := by
  have hg := h.g_lt
  have hm := h.map.lt
  obtain ⟨cs, hb, hs, h0, h1, h2⟩ := h.cells
  have hb' : Blk w' g 77 cs := hb.turn t (fun e => (h.far j hj g e).1 rfl)
  have t2 := Turn.set w' ⟨g, j + 1, none⟩ v
  have hvf : ∀ b, v.ownBlock = some b → b ≠ g ∧ b ≠ mb := fun b e => by
    rcases hv b e with e | e
    · exact h.far j hj b e
    · omega
  refine ⟨⟨cs.setIfInBounds (j + 1) v, hb'.set _ _, by simp [hs], ?_, fun i hi => ?_, ?_⟩, fun i hi => ?_, fun a b ha hb hab => ?_, fun i hi b e => ?_, ?_, h.ne⟩
  · rw [Array.getElem?_setIfInBounds_ne (by omega)]; exact h0
  · unfold updV
    by_cases c : i = j
    · subst c
      rw [if_pos rfl, Array.getElem?_setIfInBounds_self_of_lt (by omega)]
    · rw [if_neg c, Array.getElem?_setIfInBounds_ne (by omega)]; exact h1 i hi
  · rw [Array.getElem?_setIfInBounds_ne (by omega)]; exact h2
  · unfold updV Wh.upd
    by_cases c : i = j
    · subst c
      rw [if_pos rfl, if_pos rfl]
      exact ho.turn t2 (fun b e => (hvf b e).1)
    · rw [if_neg c, if_neg c]
      exact ((h.places i hi).turn t (fun b e e2 => h.apart i j hi hj c b e e2)).turn t2 (fun b e => (h.far i hi b e).1)
  · intro x hx hy
    unfold updV at hx hy
    have key : ∀ i, i < 256 → i ≠ j → ∀ x, (pv i).ownBlock = some x → v.ownBlock = some x → False := fun i hi hij x e1 e2 => by
      rcases hv x e2 with e | e
      · exact h.apart i j hi hj hij x e1 e
      · have := (h.places i hi).lt2 x e1; omega
    by_cases c : a = j
    · by_cases c2 : b = j
      · omega
      · rw [if_pos c] at hx; rw [if_neg c2] at hy
        exact key b hb c2 x hy hx
    · by_cases c2 : b = j
      · rw [if_neg c] at hx; rw [if_pos c2] at hy
        exact key a ha c x hx hy
      · rw [if_neg c] at hx; rw [if_neg c2] at hy
        exact h.apart a b ha hb hab x hx hy
  · unfold updV at e
    by_cases c : i = j
    · rw [if_pos c] at e; exact hvf b e
    · rw [if_neg c] at e; exact h.far i hi b e
  · exact ownsMap_turn (ownsMap_turn h.map t (fun e => (h.far j hj mb e).2 rfl)) t2 (fun e => h.ne e.symm)
/-- .. and the wheel's blocks then -/
theorem WB_upd {j : Nat} {v : Value} {n : Nat} (hj : j < 256) (hv : ∀ b, v.ownBlock = some b → (pv j).ownBlock = some b ∨ n ≤ b) : ∀ b, WB g mb (updV pv j v) b → WB g mb pv b ∨ n ≤ b := fun b hb => by
  rcases hb with e | e | ⟨i, hi, e⟩
  · exact .inl (.inl e)
  · exact .inl (.inr (.inl e))
  · unfold updV at e
    by_cases c : i = j
    · rw [if_pos c] at e
      rcases hv b e with e | e
      · exact .inl (.inr (.inr ⟨j, hj, e⟩))
      · exact .inr e
    · rw [if_neg c] at e
      exact .inl (.inr (.inr ⟨i, hi, e⟩))
/-- the map turns -/
theorem Whl.setm (h : Whl g mb now pv pl D w) {D' : DataW Unit} {n : Nat} (hg : w.grownBy w' (some mb)) (hm : w'.ownsMap Try.prog 3 (plainElem Try.prog 2) mb n D') : Whl g mb now pv pl D' w' := by
  obtain ⟨cs, hb, rest⟩ := h.cells
  have t := Turn.grown hg
  exact ⟨⟨cs, hb.turn t (fun e => h.ne (by injection e with e; exact e.symm)), rest⟩, fun j hj => (h.places j hj).turn t (fun b e e2 => (h.far j hj b e).2 (by injection e2 with e2; exact e2.symm)), h.apart, h.far, ownsMap_tight hm, h.ne⟩
end
end Go.Proofs.Ytheocdfccdpmbaa
