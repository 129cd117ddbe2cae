/-
  Two slices that the call owns, each in its own block: append to one leaves the other as it was.
  Conditions: stated lemma by lemma.
-/
import Derived.Test.YtheocdfccdpmbaaRow
import Derived.Maps.AppendAt
namespace Go.Proofs.Ytheocdfccdpmbaa
open Go.RowKit
set_option linter.unusedVariables false
set_option linter.unusedSimpArgs false

section
variable {α : Type} [Inhabited α] {L : Lay α}
theorem run_appAt {P : Program} {e : TypeId} (w : World) (t ty : TypeId) (z : Value) (bytes : Nat) (ht : P.underlying t = some (.slice e)) (hinfo : (P.info? e).map (fun i => (i.zero, i.size, i.bytes)) = some (some z, L.k, bytes)) (hz : z.cells.size = L.k)
    (base : Nat) (v : Value) (xs : List α) (hown : OwnL L e w base v xs) (A : Addr) (c : Nat) (ys : List α) (hr : RdL L w (some A) ys)
    (hm : xs.length + ys.length ≤ maxLen) (hb : (xs.length + ys.length) * bytes ≤ 140737488355328) (hbase : base ≤ w.heap.size) :
    ∃ v' w', (Builtin.append_ #[t, t] ty #[v, .slice (some A) ys.length c]).run P w = .ok v' w' ∧ OwnL L e w' base v' (xs ++ ys) ∧ w.grownBy w' v.ownBlock ∧ (v'.ownBlock = v.ownBlock ∨ v'.ownBlock = some w.heap.size) := by
  obtain ⟨i0, hi0, hz0, hz1, hz2⟩ := info_parts hinfo
  obtain ⟨b, off, spot⟩ := A
  obtain ⟨v', w', hrun, h2, h3, _, h5⟩ := run_append_own_at (P := P) w base t ty e i0 z L.k bytes ht hi0 hz0 hz1 hz2 hz L.pos v xs.length (L.flat xs) hown ⟨b, off, spot⟩ ys.length c (L.flat ys) (L.flat_len ys) hr.cells
    (L.flat_one ys) hm hb hbase
  refine ⟨v', w', hrun, ?_, h3, h5⟩
  unfold OwnL
  rw [List.length_append, L.flat_app]
  exact h2
theorem wpList_appAt {P : Program} {e : TypeId} {ops : Array Oper} {rest : List Oper} {o : Oper} {a : Act} {Q : Exit → Act → World → Prop} {w : World} (t : TypeId) (z : Value) (bytes : Nat) (ht : P.underlying t = some (.slice e))
    (hinfo : (P.info? e).map (fun i => (i.zero, i.size, i.bytes)) = some (some z, L.k, bytes)) (hz : z.cells.size = L.k) (hgd : o.guard = none) (s x : Operand)
    (ho : o.op = .call { callee := .builtin .append, args := #[s, x], argTypes := #[t, t] })
    (base : Nat) (v : Value) (xs : List α) (hs : a.eval s = v) (hown : OwnL L e w base v xs) (A : Addr) (n c : Nat) (ys : List α) (hx : a.eval x = .slice (some A) n c) (hn : n = ys.length) (hr : RdL L w (some A) ys)
    (hm : xs.length + ys.length ≤ maxLen) (hb : (xs.length + ys.length) * bytes ≤ 140737488355328) (hbase : base ≤ w.heap.size)
    (h : ∀ v' w', OwnL L e w' base v' (xs ++ ys) → w.grownBy w' v.ownBlock → (v'.ownBlock = v.ownBlock ∨ v'.ownBlock = some w.heap.size) → wpList P ops Q rest (a.put o.dst v') w') : wpList P ops Q (o :: rest) a w :=
  wpList_plain hgd fun K hK => by
    subst hn
    obtain ⟨v', w', hrun, h2, h3, h4⟩ := run_appAt w t o.type z bytes ht hinfo hz base v xs hown A c ys hr hm hb hbase
    unfold Oper.wp execOp
    simp only [ho, resolve, invoke, builtin, Sem.run_bind, Sem.run_pure, Result.andThen_ok, List.map_toArray, List.map_cons, List.map_nil, hs, hx, hrun]
    exact hK _ _ (h v' w' h2 h3 h4)

end

def Apart (u v : Value) : Prop := ∀ b, u.ownBlock = some b → v.ownBlock ≠ some b
theorem Apart.symm {u v : Value} (h : Apart u v) : Apart v u := fun b hb hu => h b hu hb
theorem Apart.ne {u v : Value} (h : Apart u v) : v.ownBlock = none ∨ v.ownBlock ≠ u.ownBlock := by
  rcases hv : v.ownBlock with _ | b
  · exact .inl rfl
  · right
    intro e
    exact h b e.symm hv
section
variable {α : Type} {L : Lay α}
/-- two rows, apart -/
def Two (L : Lay α) (e : TypeId) (w : World) (base : Nat) (u v : Value) (xs ys : List α) : Prop := OwnL L e w base u xs ∧ OwnL L e w base v ys ∧ Apart u v
theorem Two.kept [Inhabited α] {e : TypeId} {w w' : World} {base : Nat} {u v : Value} {xs ys : List α} (h : Two L e w base u v xs ys) (hb : Below w.heap.size w w') : Two L e w' base u v xs ys := ⟨h.1.kept hb, h.2.1.kept hb, h.2.2⟩
theorem Two.symm {e : TypeId} {w : World} {base : Nat} {u v : Value} {xs ys : List α} (h : Two L e w base u v xs ys) : Two L e w base v u ys xs := ⟨h.2.1, h.1, h.2.2.symm⟩
theorem Two.left {e : TypeId} {w w' : World} {base : Nat} {u u' v : Value} {xs xs' ys : List α} (h : Two L e w base u v xs ys) (h1 : OwnL L e w' base u' xs') (h2 : w.grownBy w' u.ownBlock) (h3 : u'.ownBlock = u.ownBlock ∨ u'.ownBlock = some w.heap.size) : Two L e w' base u' v xs' ys := by
  refine ⟨h1, World.ownsRow.kept h.2.1 h2 h.2.2.ne, fun b hb hv => ?_⟩
  rcases h3 with h3 | h3
  · exact h.2.2 b (h3 ▸ hb) hv
  · have := (World.ownsRow.lt h.2.1 b hv).2
    rw [h3] at hb
    injection hb with hb
    omega
theorem Two.right {e : TypeId} {w w' : World} {base : Nat} {u v' v : Value} {xs ys' ys : List α} (h : Two L e w base u v xs ys) (h1 : OwnL L e w' base v' ys') (h2 : w.grownBy w' v.ownBlock) (h3 : v'.ownBlock = v.ownBlock ∨ v'.ownBlock = some w.heap.size) : Two L e w' base u v' xs ys' :=
  (h.symm.left h1 h2 h3).symm
end
end Go.Proofs.Ytheocdfccdpmbaa
