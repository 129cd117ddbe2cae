
/-
  2 texts in one.
  Conditions: stated lemma by lemma.
-/
import Derived.Test.YtdladjgdhnkkcaaGreatZFrameToOpen
import Derived.Test.YtdladjgdhnkkcaaGreatZKitToTrP
import Derived.Maps.AppendAt
import Derived.Laws.OwnMore
import Derived.RegionTactic
import Derived.OwnWalk
import Derived.Deep.DeepAppendWide
/-
  Rows of elements of k cells each, whatever the element: such as can be read, such as a call owns; append onto these.
  Conditions: stated lemma by lemma.
-/
namespace Go.Proofs.YtdladjgdhnkkcaaGreat
open Go.RowKit
set_option linter.unusedVariables false
set_option linter.unusedSectionVars false

/-- how an element lies in memory -/
structure Lay (α : Type) where
  k : Nat
  cells : α → List Value
  len : ∀ x, (cells x).length = k
  pos : 0 < k
  one : ∀ x, ∀ u ∈ cells x, u.oneCell' = true

section
variable {α : Type} [Inhabited α] (L : Lay α)
def Lay.flat (xs : List α) : List Value := xs.flatMap L.cells
theorem Lay.flat_len (xs : List α) : (L.flat xs).length = xs.length * L.k := by
  induction xs with
  | nil => simp [Lay.flat]
  | cons x xs ih => simp only [Lay.flat, List.flatMap_cons, List.length_append, List.length_cons, L.len] at ih ⊢; rw [ih, Nat.add_mul]; omega
theorem Lay.flat_app (a b : List α) : L.flat (a ++ b) = L.flat a ++ L.flat b := by simp [Lay.flat]
theorem Lay.flat_get (xs : List α) (i r : Nat) (hi : i < xs.length) (hr : r < L.k) : (L.flat xs)[i * L.k + r]? = (L.cells (xs.getD i default))[r]? := by
  induction xs generalizing i with
  | nil => simp at hi
  | cons x xs ih =>
    have h1 : L.flat (x :: xs) = L.cells x ++ L.flat xs := by simp [Lay.flat]
    rw [h1]
    cases i with
    | zero => rw [Nat.zero_mul, Nat.zero_add, List.getElem?_append_left (by rw [L.len]; exact hr)]; simp
    | succ i =>
      rw [List.getElem?_append_right (by rw [L.len, Nat.add_mul]; omega), L.len, show (i + 1) * L.k + r - L.k = i * L.k + r from by rw [Nat.add_mul]; omega, ih i (by simpa using hi)]
      simp
theorem Lay.flat_split (xs : List α) (j : Nat) (u : Value) (h : (L.flat xs)[j]? = some u) : ∃ i r, i < xs.length ∧ r < L.k ∧ j = i * L.k + r ∧ (L.cells (xs.getD i default))[r]? = some u := by
  have hj : j < xs.length * L.k := by rw [← L.flat_len]; exact (List.getElem?_eq_some_iff.1 h).1
  have hi : j / L.k < xs.length := by rw [Nat.div_lt_iff_lt_mul L.pos]; exact hj
  have hr : j % L.k < L.k := Nat.mod_lt _ L.pos
  have hjj : j = j / L.k * L.k + j % L.k := by rw [Nat.mul_comm]; exact (Nat.div_add_mod j L.k).symm
  refine ⟨j / L.k, j % L.k, hi, hr, hjj, ?_⟩
  rw [← L.flat_get xs _ _ hi hr, ← hjj]
  exact h
theorem Lay.flat_one (xs : List α) : ∀ u ∈ L.flat xs, u.oneCell' = true := fun u hu => by
  obtain ⟨x, _, hx⟩ := List.mem_flatMap.1 hu
  exact L.one x u hx

/-- elements that can be read -/
def RdL (w : World) (A : Option Addr) (xs : List α) : Prop :=
  ∀ i, i < xs.length → ∃ b off, A = some ⟨b, off, none⟩ ∧ b < w.heap.size ∧ ∀ r u, (L.cells (xs.getD i default))[r]? = some u → w.cell? ⟨b, off + i * L.k + r, none⟩ = some u
/-- the value v owns the elements xs, of the type e, in a block from base on -/
def OwnL (e : TypeId) (w : World) (base : Nat) (v : Value) (xs : List α) : Prop := w.ownsRow base e L.k v xs.length (L.flat xs)
end

section
variable {α : Type} [Inhabited α] {L : Lay α} {w w' w0 : World} {A : Option Addr} {xs ys : List α} {e : TypeId} {base : Nat} {v : Value}
theorem RdL.bel (h : RdL L w A xs) (hb : Below w.heap.size w w') : RdL L w' A xs := fun i hi => by
  obtain ⟨b, off, e, hlt, h1⟩ := h i hi
  exact ⟨b, off, e, Nat.lt_of_lt_of_le hlt hb.size, fun r u hu => (hb.cell (p := ⟨b, off + i * L.k + r, none⟩) hlt).trans (h1 r u hu)⟩
theorem RdL.nil (w : World) (A : Option Addr) : RdL L w A [] := fun i hi => absurd hi (Nat.not_lt_zero _)
theorem RdL.take (h : RdL L w A xs) (k : Nat) : RdL L w A (xs.take k) := fun i hi => by
  have hi' : i < xs.length ∧ i < k := by rw [List.length_take] at hi; omega
  obtain ⟨b, off, e, hlt, h1⟩ := h i hi'.1
  have e1 : (xs.take k).getD i default = xs.getD i default := by simp [List.getD, hi'.2]
  exact ⟨b, off, e, hlt, by rw [e1]; exact h1⟩
theorem RdL.drop {b off : Nat} (h : RdL L w (some ⟨b, off, none⟩) xs) (k : Nat) : RdL L w (some ⟨b, off + k * L.k, none⟩) (xs.drop k) := fun i hi => by
  have hi' : k + i < xs.length := by rw [List.length_drop] at hi; omega
  obtain ⟨b', off', e, hlt, h1⟩ := h (k + i) hi'
  injection e with e
  injection e with e1 e2 _
  subst e1; subst e2
  have e1 : (xs.drop k).getD i default = xs.getD (k + i) default := by simp [List.getD]
  refine ⟨b, off + k * L.k, rfl, hlt, fun r u hu => ?_⟩
  rw [e1] at hu
  rw [show off + k * L.k + i * L.k + r = off + (k + i) * L.k + r from by rw [Nat.add_mul]; omega]
  exact h1 r u hu
theorem RdL.ex (h : RdL L w A xs) (h0 : 0 < xs.length) : ∃ b off, A = some ⟨b, off, none⟩ ∧ b < w.heap.size := by
  obtain ⟨b, off, e, hb, _⟩ := h 0 h0
  exact ⟨b, off, e, hb⟩
theorem RdL.cells {b off : Nat} {spot : Option Nat} (h : RdL L w (some ⟨b, off, spot⟩) xs) : ∀ j u, (L.flat xs)[j]? = some u → w.cell? ((⟨b, off, spot⟩ : Addr).add j) = some u := fun j u hu => by
  obtain ⟨i, r, hi, hr, rfl, hc⟩ := L.flat_split xs j u hu
  obtain ⟨b', off', e, hlt, h1⟩ := h i hi
  injection e with e
  injection e with e1 e2 e3
  subst e1; subst e2; subst e3
  rw [addr_add, ← Nat.add_assoc]
  exact h1 r u hc
theorem RdL.far (h : RdL L w A xs) {p : Addr} {u : Value} (hg : ∀ b off, A = some ⟨b, off, none⟩ → b ≠ p.block) : RdL L (w.setCell p u) A xs := fun i hi => by
  obtain ⟨b, off, e, hlt, h1⟩ := h i hi
  refine ⟨b, off, e, by simpa using hlt, fun r v hv => ?_⟩
  have := World.cell?_of_block (w := w) (w' := w.setCell p u) (a := ⟨b, off + i * L.k + r, none⟩) (Below.heap_setCell w p u b (hg b off e))
  rw [this]
  exact h1 r v hv

theorem OwnL.kept (h : OwnL L e w base v xs) (hb : Below w.heap.size w w') : OwnL L e w' base v xs := by
  rcases h.2 with ⟨rfl, e⟩ | ⟨g, cap, cur, rfl, h1, h2, h3⟩
  · exact ⟨h.1, .inl ⟨rfl, e⟩⟩
  · refine ⟨h.1, .inr ⟨g, cap, cur, rfl, h1, ?_, h3⟩⟩
    rw [hb.block g ?_]
    · exact h2
    · rcases Nat.lt_or_ge g w.heap.size with hl | hl
      · exact hl
      · rw [Array.getElem?_eq_none hl] at h2; cases h2
theorem OwnL.form (h : OwnL L e w base v xs) :
    ∃ A cap, v = .slice A xs.length cap ∧ xs.length ≤ cap ∧ cap ≤ maxLen ∧ RdL L w A xs ∧ (∀ b off sp, A = some ⟨b, off, sp⟩ → base ≤ b ∧ off = 0 ∧ sp = none) := by
  obtain ⟨hl, hv⟩ := h
  rcases hv with ⟨rfl, e⟩ | ⟨g, cap, cur, rfl, h1, h2, h3, h4, h5, h6⟩
  · refine ⟨none, 0, by rw [e], by omega, by simp [maxLen], fun i hi => absurd hi (by omega), fun b off sp e => by cases e⟩
  · refine ⟨_, cap, rfl, h3, h4, fun i hi => ⟨g, 0, rfl, ?_, fun r u hu => ?_⟩, fun b off sp e => by injection e with e; injection e with e1 e2 e3; exact ⟨by omega, e2.symm, e3.symm⟩⟩
    · rcases Nat.lt_or_ge g w.heap.size with hl | hl
      · exact hl
      · rw [Array.getElem?_eq_none hl] at h2; cases h2
    · have hr : r < L.k := by rw [← L.len (xs.getD i default)]; exact (List.getElem?_eq_some_iff.1 hu).1
      have hij : i * L.k + r < xs.length * L.k := by
        have : (i + 1) * L.k ≤ xs.length * L.k := Nat.mul_le_mul_right _ hi
        rw [Nat.add_mul] at this
        omega
      have hcur : cur.toList[i * L.k + r]? = some u := by
        have := congrArg (fun l => l[i * L.k + r]?) h6
        rw [List.getElem?_take_of_lt hij, L.flat_get xs i r hi hr, hu] at this
        exact this
      rw [Nat.zero_add, cell_of_row w g (i * L.k + r) cur _ _ h2]
      simpa using hcur
theorem OwnL.nil (w : World) (base : Nat) : OwnL L e w base (.slice none 0 0) [] := World.ownsRow_nil w base _ L.k
theorem OwnL.lit (w : World) (base : Nat) (hb : base ≤ w.heap.size) (xs : List α) (hm : xs.length ≤ maxLen) (cs : Array Value) (hc : cs = (L.flat xs).toArray) :
    OwnL L e (w.alloc (.cells cs e)) base (.slice (some ⟨w.heap.size, 0, none⟩) xs.length xs.length) xs := by
  subst hc
  have := World.ownsRow_lit (e := e) (size := L.k) w (L.flat xs).toArray xs.length hb hm (by simp [L.flat_len])
  simpa [OwnL] using this
theorem OwnL.grown (h : OwnL L e w base v xs) (hb : Below base w0 w) (hbw : base ≤ w.heap.size) (hg : w.grownBy w' v.ownBlock) : Below base w0 w' :=
  hb.grown hg hbw (fun k hk => (h.lt k hk).1)

theorem run_appL {P : Program} (w : World) (t ty : TypeId) (z : Value) (bytes : Nat) (ht : P.underlying t = some (.slice e)) (hinfo : (P.info? e).map (fun i => (i.zero, i.size, i.bytes)) = some (some z, L.k, bytes)) (hz : z.cells.size = L.k)
    (base : Nat) (v : Value) (xs : List α) (hown : OwnL L e w base v xs) (A : Option Addr) (c : Nat) (ys : List α) (hr : RdL L w A ys)
    (hm : xs.length + ys.length ≤ maxLen) (hb : ((xs.length + ys.length) + (xs.length + ys.length) / 4 + 192) * bytes ≤ 281474976710656) (hbase : base ≤ w.heap.size) :
    ∃ v' w', (Builtin.append_ #[t, t] ty #[v, .slice A ys.length c]).run P w = .ok v' w' ∧ OwnL L e w' base v' (xs ++ ys) ∧ w.grownBy w' v.ownBlock := by
  obtain ⟨i0, hi0, hz0, hz1, hz2⟩ := info_parts hinfo
  rcases A with _ | ⟨b, off, spot⟩
  · have hn : ys = [] := by
      rcases Nat.eq_zero_or_pos ys.length with h0 | h0
      · exact List.eq_nil_of_length_eq_zero h0
      · obtain ⟨_, _, e, _⟩ := hr 0 h0
        cases e
    subst hn
    have hu := run_underlying ht
    refine ⟨v, w, ?_, by simpa using hown, World.grownBy.refl w _⟩
    obtain ⟨_, hv⟩ := hown
    rcases hv with ⟨rfl, _⟩ | ⟨g, cap, cur, rfl, _, _, hnc, _⟩
    · simp [Builtin.append_, hu, sizeOf, typeInfo, hi0, Builtin.lenOf, Builtin.firstCells]
    · simp [Builtin.append_, hu, sizeOf, typeInfo, hi0, Builtin.lenOf, Builtin.firstCells, hnc, storeCells]
  · obtain ⟨v', w', hrun, h2, h3, _⟩ := run_append_own_wide (P := P) w base t ty e i0 z L.k bytes ht hi0 hz0 hz1 hz2 hz L.pos v xs.length (L.flat xs) hown ⟨b, off, spot⟩ ys.length c (L.flat ys) (L.flat_len ys) hr.cells
      (L.flat_one ys) hm hb hbase
    refine ⟨v', w', hrun, ?_, h3⟩
    unfold OwnL
    rw [List.length_append, L.flat_app]
    exact h2

theorem wpList_appL {P : Program} {ops : Array Oper} {rest : List Oper} {o : Oper} {a : Act} {Q : Exit → Act → World → Prop} {w : World} (t : TypeId) (z : Value) (bytes : Nat) (ht : P.underlying t = some (.slice e))
    (hinfo : (P.info? e).map (fun i => (i.zero, i.size, i.bytes)) = some (some z, L.k, bytes)) (hz : z.cells.size = L.k) (hgd : o.guard = none) (s x : Operand)
    (ho : o.op = .call { callee := .builtin .append, args := #[s, x], argTypes := #[t, t] })
    (base : Nat) (v : Value) (xs : List α) (hs : a.eval s = v) (hown : OwnL L e w base v xs) (A : Option Addr) (n c : Nat) (ys : List α) (hx : a.eval x = .slice A n c) (hn : n = ys.length) (hr : RdL L w A ys)
    (hm : xs.length + ys.length ≤ maxLen) (hb : ((xs.length + ys.length) + (xs.length + ys.length) / 4 + 192) * bytes ≤ 281474976710656) (hbase : base ≤ w.heap.size)
    (h : ∀ v' w', OwnL L e w' base v' (xs ++ ys) → w.grownBy w' v.ownBlock → wpList P ops Q rest (a.put o.dst v') w') : wpList P ops Q (o :: rest) a w :=
  wpList_plain hgd fun K hK => by
    subst hn
    obtain ⟨v', w', hrun, h2, h3⟩ := run_appL w t o.type z bytes ht hinfo hz base v xs hown A c ys hr hm hb hbase
    unfold Oper.wp execOp
    simp only [ho, resolve, invoke, builtin, Sem.run_bind, Sem.run_pure, Result.andThen_ok, List.map_toArray, List.map_cons, List.map_nil, hs, hx, hrun]
    exact hK _ _ (h v' w' h2 h3)

theorem step_appL {P : Program} {ops : Array Oper} {o : Oper} {a : Act} {K : Act → World → Prop} {Q : Exit → Act → World → Prop} {E : Prop} {w : World} (t : TypeId) (z : Value) (bytes : Nat) (ht : P.underlying t = some (.slice e))
    (hinfo : (P.info? e).map (fun i => (i.zero, i.size, i.bytes)) = some (some z, L.k, bytes)) (hz : z.cells.size = L.k) (hgd : o.guard = none) (s x : Operand)
    (ho : o.op = .call { callee := .builtin .append, args := #[s, x], argTypes := #[t, t] })
    (base : Nat) (v : Value) (xs : List α) (hs : a.eval s = v) (hown : OwnL L e w base v xs) (A : Option Addr) (n c : Nat) (ys : List α) (hx : a.eval x = .slice A n c) (hn : n = ys.length) (hr : RdL L w A ys)
    (hm : xs.length + ys.length ≤ maxLen) (hb : ((xs.length + ys.length) + (xs.length + ys.length) / 4 + 192) * bytes ≤ 281474976710656) (hbase : base ≤ w.heap.size)
    (h : ∀ v' w', OwnL L e w' base v' (xs ++ ys) → w.grownBy w' v.ownBlock → K (a.put o.dst v') w') :
    if Region.wanted o (yielded ops a.tmps) = true then Oper.wp P o a w K Q else E := by
  have hw : Region.wanted o (yielded ops a.tmps) = true := by simp [Region.wanted, hgd]
  rw [if_pos hw]
  subst hn
  obtain ⟨v', w', hrun, h2, h3⟩ := run_appL w t o.type z bytes ht hinfo hz base v xs hown A c ys hr hm hb hbase
  unfold Oper.wp execOp
  simp only [ho, resolve, invoke, builtin, Sem.run_bind, Sem.run_pure, Result.andThen_ok, List.map_toArray, List.map_cons, List.map_nil, hs, hx, hrun]
  exact h v' w' h2 h3
end

/-- numbers of one kind -/
def layI (k : IntKind) : Lay Int := ⟨1, fun x => [.int k x], fun _ => rfl, by decide, fun x u hu => by simp at hu; subst hu; rfl⟩
end Go.Proofs.YtdladjgdhnkkcaaGreat

/-
  Two slices that the call owns, each in its own block: append to one leaves the other as it was.
  Conditions: stated lemma by lemma.
-/
namespace Go.Proofs.YtdladjgdhnkkcaaGreat
open Go.RowKit
set_option linter.unusedVariables false
set_option linter.unusedSimpArgs false

section
variable {α : Type} [Inhabited α] {L : Lay α}
theorem run_appAt {P : Program} {e : TypeId} (w : World) (t ty : TypeId) (z : Value) (bytes : Nat) (ht : P.underlying t = some (.slice e)) (hinfo : (P.info? e).map (fun i => (i.zero, i.size, i.bytes)) = some (some z, L.k, bytes)) (hz : z.cells.size = L.k)
    (base : Nat) (v : Value) (xs : List α) (hown : OwnL L e w base v xs) (A : Addr) (c : Nat) (ys : List α) (hr : RdL L w (some A) ys)
    (hm : xs.length + ys.length ≤ maxLen) (hb : (xs.length + ys.length) * bytes ≤ 140737488355328) (hbase : base ≤ w.heap.size) :
    ∃ v' w', (Builtin.append_ #[t, t] ty #[v, .slice (some A) ys.length c]).run P w = .ok v' w' ∧ OwnL L e w' base v' (xs ++ ys) ∧ w.grownBy w' v.ownBlock ∧ (v'.ownBlock = v.ownBlock ∨ v'.ownBlock = some w.heap.size) := by
  obtain ⟨i0, hi0, hz0, hz1, hz2⟩ := info_parts hinfo
  obtain ⟨b, off, spot⟩ := A
  obtain ⟨v', w', hrun, h2, h3, _, h5⟩ := run_append_own_at (P := P) w base t ty e i0 z L.k bytes ht hi0 hz0 hz1 hz2 hz L.pos v xs.length (L.flat xs) hown ⟨b, off, spot⟩ ys.length c (L.flat ys) (L.flat_len ys) hr.cells
    (L.flat_one ys) hm hb hbase
  refine ⟨v', w', hrun, ?_, h3, h5⟩
  unfold OwnL
  rw [List.length_append, L.flat_app]
  exact h2
theorem wpList_appAt {P : Program} {e : TypeId} {ops : Array Oper} {rest : List Oper} {o : Oper} {a : Act} {Q : Exit → Act → World → Prop} {w : World} (t : TypeId) (z : Value) (bytes : Nat) (ht : P.underlying t = some (.slice e))
    (hinfo : (P.info? e).map (fun i => (i.zero, i.size, i.bytes)) = some (some z, L.k, bytes)) (hz : z.cells.size = L.k) (hgd : o.guard = none) (s x : Operand)
    (ho : o.op = .call { callee := .builtin .append, args := #[s, x], argTypes := #[t, t] })
    (base : Nat) (v : Value) (xs : List α) (hs : a.eval s = v) (hown : OwnL L e w base v xs) (A : Addr) (n c : Nat) (ys : List α) (hx : a.eval x = .slice (some A) n c) (hn : n = ys.length) (hr : RdL L w (some A) ys)
    (hm : xs.length + ys.length ≤ maxLen) (hb : (xs.length + ys.length) * bytes ≤ 140737488355328) (hbase : base ≤ w.heap.size)
    (h : ∀ v' w', OwnL L e w' base v' (xs ++ ys) → w.grownBy w' v.ownBlock → (v'.ownBlock = v.ownBlock ∨ v'.ownBlock = some w.heap.size) → wpList P ops Q rest (a.put o.dst v') w') : wpList P ops Q (o :: rest) a w :=
  wpList_plain hgd fun K hK => by
    subst hn
    obtain ⟨v', w', hrun, h2, h3, h4⟩ := run_appAt w t o.type z bytes ht hinfo hz base v xs hown A c ys hr hm hb hbase
    unfold Oper.wp execOp
    simp only [ho, resolve, invoke, builtin, Sem.run_bind, Sem.run_pure, Result.andThen_ok, List.map_toArray, List.map_cons, List.map_nil, hs, hx, hrun]
    exact hK _ _ (h v' w' h2 h3 h4)

end

def Apart (u v : Value) : Prop := ∀ b, u.ownBlock = some b → v.ownBlock ≠ some b
theorem Apart.symm {u v : Value} (h : Apart u v) : Apart v u := fun b hb hu => h b hu hb
theorem Apart.ne {u v : Value} (h : Apart u v) : v.ownBlock = none ∨ v.ownBlock ≠ u.ownBlock := by
  rcases hv : v.ownBlock with _ | b
  · exact .inl rfl
  · right
    intro e
    exact h b e.symm hv
section
variable {α : Type} {L : Lay α}
/-- two rows, apart -/
def Two (L : Lay α) (e : TypeId) (w : World) (base : Nat) (u v : Value) (xs ys : List α) : Prop := OwnL L e w base u xs ∧ OwnL L e w base v ys ∧ Apart u v
theorem Two.kept [Inhabited α] {e : TypeId} {w w' : World} {base : Nat} {u v : Value} {xs ys : List α} (h : Two L e w base u v xs ys) (hb : Below w.heap.size w w') : Two L e w' base u v xs ys := ⟨h.1.kept hb, h.2.1.kept hb, h.2.2⟩
theorem Two.symm {e : TypeId} {w : World} {base : Nat} {u v : Value} {xs ys : List α} (h : Two L e w base u v xs ys) : Two L e w base v u ys xs := ⟨h.2.1, h.1, h.2.2.symm⟩
theorem Two.left {e : TypeId} {w w' : World} {base : Nat} {u u' v : Value} {xs xs' ys : List α} (h : Two L e w base u v xs ys) (h1 : OwnL L e w' base u' xs') (h2 : w.grownBy w' u.ownBlock) (h3 : u'.ownBlock = u.ownBlock ∨ u'.ownBlock = some w.heap.size) : Two L e w' base u' v xs' ys := by
  refine ⟨h1, World.ownsRow.kept h.2.1 h2 h.2.2.ne, fun b hb hv => ?_⟩
  rcases h3 with h3 | h3
  · exact h.2.2 b (h3 ▸ hb) hv
  · have := (World.ownsRow.lt h.2.1 b hv).2
    rw [h3] at hb
    injection hb with hb
    omega
theorem Two.right {e : TypeId} {w w' : World} {base : Nat} {u v' v : Value} {xs ys' ys : List α} (h : Two L e w base u v xs ys) (h1 : OwnL L e w' base v' ys') (h2 : w.grownBy w' v.ownBlock) (h3 : v'.ownBlock = v.ownBlock ∨ v'.ownBlock = some w.heap.size) : Two L e w' base u v' xs ys' :=
  (h.symm.left h1 h2 h3).symm
end
end Go.Proofs.YtdladjgdhnkkcaaGreat
