
/-
  Entries of a log in memory: such as can be read, such as a call owns; append onto these.
  No condition.
-/
import Derived.Test.YtdladjgdhnkkcaaGreatZKitToTrD
import Derived.Test.YtdladjgdhnkkcaaGreatZFrameToOpen
import Derived.Maps.AppendAt
import Derived.Laws.OwnMore
import Derived.RegionTactic
import Derived.OwnWalk
namespace Go.Proofs.YtdladjgdhnkkcaaGreat
open Go.RowKit
set_option linter.unusedVariables false

/-- entries that can be read -/
def RdE (w : World) (A : Option Addr) (es : List En) : Prop :=
  ∀ i, i < es.length → ∃ b off, A = some ⟨b, off, none⟩ ∧ b < w.heap.size ∧
    w.cell? ⟨b, off + i * 2, none⟩ = some (.int .i64 (es.getD i default).1) ∧ w.cell? ⟨b, off + i * 2 + 1, none⟩ = some (.string (es.getD i default).2)
theorem RdE.bel {w w' : World} {A : Option Addr} {es : List En} (h : RdE w A es) (hb : Below w.heap.size w w') : RdE w' A es := fun i hi => by
  obtain ⟨b, off, e, hlt, h1, h2⟩ := h i hi
  exact ⟨b, off, e, Nat.lt_of_lt_of_le hlt hb.size, (hb.cell (p := ⟨b, off + i * 2, none⟩) hlt).trans h1, (hb.cell (p := ⟨b, off + i * 2 + 1, none⟩) hlt).trans h2⟩
theorem RdE.nil (w : World) (A : Option Addr) : RdE w A [] := fun i hi => absurd hi (Nat.not_lt_zero _)
/-- a part of them -/
theorem RdE.part {w : World} {A : Option Addr} {es : List En} (h : RdE w A es) (l k m : Nat) (hk : k ≤ es.length) (hm : k ≤ m) :
    RdE w (if m = l then A else A.map (·.add (l * 2))) ((es.take k).drop l) := fun i hi => by
  have hi' : l + i < k := by simp at hi; omega
  obtain ⟨b, off, e, hlt, h1, h2⟩ := h (l + i) (by omega)
  have e1 : ((es.take k).drop l).getD i default = es.getD (l + i) default := by
    simp only [List.getD, List.getElem?_drop, List.getElem?_take]
    rw [if_pos hi']
  rw [if_neg (by omega), e, e1]
  refine ⟨b, off + l * 2, by simp [addr_add], hlt, ?_, ?_⟩
  · rw [show off + l * 2 + i * 2 = off + (l + i) * 2 from by omega]; exact h1
  · rw [show off + l * 2 + i * 2 + 1 = off + (l + i) * 2 + 1 from by omega]; exact h2
theorem RdE.drop {w : World} {A : Option Addr} {es : List En} (h : RdE w A es) (l m : Nat) (hm : es.length ≤ m) :
    RdE w (if m = l then A else A.map (·.add (l * 2))) (es.drop l) := by
  have := h.part l es.length m (Nat.le_refl _) hm
  rwa [List.take_length] at this

def cellsE (es : List En) : List Value := es.flatMap fun e => [.int .i64 e.1, .string e.2]
theorem cellsE_len (es : List En) : (cellsE es).length = es.length * 2 := by
  induction es with
  | nil => rfl
  | cons e es ih => simp only [cellsE, List.flatMap_cons, List.length_append, List.length_cons, List.length_nil] at ih ⊢; omega
theorem cellsE_app (a b : List En) : cellsE (a ++ b) = cellsE a ++ cellsE b := by simp [cellsE]
theorem cellsE_take (es : List En) (k : Nat) : (cellsE es).take (k * 2) = cellsE (es.take k) := by
  induction es generalizing k with
  | nil => simp [cellsE]
  | cons e es ih =>
    cases k with
    | zero => simp [cellsE]
    | succ k =>
      have h1 : cellsE (e :: es) = .int .i64 e.1 :: .string e.2 :: cellsE es := rfl
      have h2 : cellsE ((e :: es).take (k + 1)) = .int .i64 e.1 :: .string e.2 :: cellsE (es.take k) := rfl
      rw [h1, h2, show (k + 1) * 2 = k * 2 + 1 + 1 from by omega, List.take_succ_cons, List.take_succ_cons, ih]
theorem cellsE_get (es : List En) (i : Nat) (hi : i < es.length) : (cellsE es)[i * 2]? = some (.int .i64 (es.getD i default).1) ∧ (cellsE es)[i * 2 + 1]? = some (.string (es.getD i default).2) := by
  induction es generalizing i with
  | nil => simp at hi
  | cons e es ih =>
    have h1 : cellsE (e :: es) = .int .i64 e.1 :: .string e.2 :: cellsE es := rfl
    rw [h1]
    cases i with
    | zero => simp
    | succ i =>
      have := ih i (by simpa using hi)
      rw [show (i + 1) * 2 = i * 2 + 1 + 1 from by omega]
      simpa using this
theorem cellsE_split (es : List En) (j : Nat) (u : Value) (h : (cellsE es)[j]? = some u) : ∃ i, i < es.length ∧ ((j = i * 2 ∧ u = .int .i64 (es.getD i default).1) ∨ (j = i * 2 + 1 ∧ u = .string (es.getD i default).2)) := by
  have hj : j < es.length * 2 := by rw [← cellsE_len]; exact (List.getElem?_eq_some_iff.1 h).1
  refine ⟨j / 2, by omega, ?_⟩
  obtain ⟨h1, h2⟩ := cellsE_get es (j / 2) (by omega)
  rcases Nat.mod_two_eq_zero_or_one j with h0 | h0
  · left
    have e : j / 2 * 2 = j := by omega
    rw [e, h] at h1
    exact ⟨e.symm, Option.some.inj h1⟩
  · right
    have e : j / 2 * 2 + 1 = j := by omega
    rw [e, h] at h2
    exact ⟨e.symm, Option.some.inj h2⟩
theorem RdE.cells {w : World} {b off : Nat} {spot : Option Nat} {es : List En} (h : RdE w (some ⟨b, off, spot⟩) es) : ∀ j u, (cellsE es)[j]? = some u → w.cell? ((⟨b, off, spot⟩ : Addr).add j) = some u := fun j u hu => by
  obtain ⟨i, hi, hj⟩ := cellsE_split es j u hu
  obtain ⟨b', off', e, hlt, h1, h2⟩ := h i hi
  injection e with e
  injection e with e1 e2 e3
  subst e1; subst e2; subst e3
  rw [addr_add]
  rcases hj with ⟨rfl, rfl⟩ | ⟨rfl, rfl⟩
  · exact h1
  · rw [← Nat.add_assoc]; exact h2

/-- the value v owns the entries es, in a block from base on -/
def OwnE (w : World) (base : Nat) (v : Value) (es : List En) : Prop := w.ownsRow base 68 2 v es.length (cellsE es)
theorem OwnE.kept {w w' : World} {base : Nat} {v : Value} {es : List En} (h : OwnE w base v es) (hb : Below w.heap.size w w') : OwnE w' base v es := by
  rcases h.2 with ⟨rfl, e⟩ | ⟨g, cap, cur, rfl, h1, h2, h3⟩
  · exact ⟨h.1, .inl ⟨rfl, e⟩⟩
  · refine ⟨h.1, .inr ⟨g, cap, cur, rfl, h1, ?_, h3⟩⟩
    rw [hb.block g ?_]
    · exact h2
    · rcases Nat.lt_or_ge g w.heap.size with hl | hl
      · exact hl
      · rw [Array.getElem?_eq_none hl] at h2; cases h2
theorem OwnE.form {w : World} {base : Nat} {v : Value} {es : List En} (h : OwnE w base v es) :
    ∃ A cap, v = .slice A es.length cap ∧ es.length ≤ cap ∧ RdE w A es ∧ (∀ b off sp, A = some ⟨b, off, sp⟩ → base ≤ b ∧ off = 0 ∧ sp = none) := by
  obtain ⟨hl, hv⟩ := h
  rcases hv with ⟨rfl, e⟩ | ⟨g, cap, cur, rfl, h1, h2, h3, h4, h5, h6⟩
  · refine ⟨none, 0, by rw [e], by omega, fun i hi => absurd hi (by omega), fun b off sp e => by cases e⟩
  · refine ⟨_, cap, rfl, h3, fun i hi => ⟨g, 0, rfl, ?_, ?_, ?_⟩, fun b off sp e => by injection e with e; injection e with e1 e2 e3; exact ⟨by omega, e2.symm, e3.symm⟩⟩
    · rcases Nat.lt_or_ge g w.heap.size with hl | hl
      · exact hl
      · rw [Array.getElem?_eq_none hl] at h2; cases h2
    all_goals
      obtain ⟨c1, c2⟩ := cellsE_get es i hi
      have hcur : ∀ j, j < es.length * 2 → cur.toList[j]? = (cellsE es)[j]? := fun j hj => by
        have := congrArg (fun l => l[j]?) h6
        rw [List.getElem?_take_of_lt (by omega)] at this
        exact this
    · rw [cell_of_row w g (0 + i * 2) cur _ _ h2, Nat.zero_add]
      have := hcur (i * 2) (by omega)
      rw [c1] at this
      simpa using this
    · rw [cell_of_row w g (0 + i * 2 + 1) cur _ _ h2, Nat.zero_add]
      have := hcur (i * 2 + 1) (by omega)
      rw [c2] at this
      simpa using this
/-- nil owns nothing -/
theorem OwnE.nil (w : World) (base : Nat) : OwnE w base (.slice none 0 0) [] := World.ownsRow_nil w base _ 2
/-- a literal -/
theorem OwnE.lit (w : World) (base : Nat) (hb : base ≤ w.heap.size) (es : List En) (hm : es.length ≤ maxLen) (cs : Array Value) (hc : cs = (cellsE es).toArray) :
    OwnE (w.alloc (.cells cs 68)) base (.slice (some ⟨w.heap.size, 0, none⟩) es.length es.length) es := by
  subst hc
  have := World.ownsRow_lit (e := 68) (size := 2) w (cellsE es).toArray es.length hb hm (by simp [cellsE_len])
  simpa [OwnE] using this

theorem infoE : (Tryz.prog.info? 68).map (fun i => (i.zero, i.size, i.bytes)) = some (some (.agg #[.int .i64 0, .string ByteArray.empty]), 2, 24) := by kernel_rfl

theorem run_appE (w : World) (ty : TypeId) (base : Nat) (v : Value) (xs : List En) (hown : OwnE w base v xs) (A : Option Addr) (c : Nat) (ys : List En) (hr : RdE w A ys)
    (hb : xs.length + ys.length ≤ 2 ^ 40) (hbase : base ≤ w.heap.size) :
    ∃ v' w', (Builtin.append_ #[23, 23] ty #[v, .slice A ys.length c]).run Tryz.prog w = .ok v' w' ∧ OwnE w' base v' (xs ++ ys) ∧ w.grownBy w' v.ownBlock ∧
      (v'.ownBlock = v.ownBlock ∨ v'.ownBlock = some w.heap.size) := by
  obtain ⟨i0, hi0, hz0, hz1, hz2⟩ := info_parts infoE
  rcases A with _ | ⟨b, off, spot⟩
  · have hn : ys = [] := by
      rcases Nat.eq_zero_or_pos ys.length with h0 | h0
      · exact List.eq_nil_of_length_eq_zero h0
      · obtain ⟨_, _, e, _⟩ := hr 0 h0
        cases e
    subst hn
    have hu := run_underlying Tryz.underlying23
    refine ⟨v, w, ?_, by simpa using hown, World.grownBy.refl w _, .inl rfl⟩
    obtain ⟨_, hv⟩ := hown
    rcases hv with ⟨rfl, _⟩ | ⟨g, cap, cur, rfl, _, _, hnc, _⟩
    · simp [Builtin.append_, hu, sizeOf, typeInfo, hi0, Builtin.lenOf, Builtin.firstCells]
    · simp [Builtin.append_, hu, sizeOf, typeInfo, hi0, Builtin.lenOf, Builtin.firstCells, hnc, storeCells]
  · obtain ⟨v', w', hrun, h2, h3, _, h5⟩ := run_append_own_at (P := Tryz.prog) w base 23 ty 68 i0 (.agg #[.int .i64 0, .string ByteArray.empty]) 2 24 Tryz.underlying23 hi0 hz0 hz1 hz2 rfl (by omega) v xs.length (cellsE xs) hown ⟨b, off, spot⟩ ys.length c (cellsE ys) (cellsE_len ys) hr.cells
      (fun u hu => by obtain ⟨x, _, hx⟩ := List.mem_flatMap.1 hu; simp at hx; rcases hx with rfl | rfl <;> rfl) (by unfold maxLen; omega) (by omega) hbase
    refine ⟨v', w', hrun, ?_, h3, h5⟩
    unfold OwnE
    rw [List.length_append, cellsE_app]
    exact h2

theorem wpList_appE {ops : Array Oper} {rest : List Oper} {o : Oper} {a : Act} {Q : Exit → Act → World → Prop} {w : World} (hgd : o.guard = none) (s x : Operand)
    (ho : o.op = .call { callee := .builtin .append, args := #[s, x], argTypes := #[23, 23] })
    (base : Nat) (v : Value) (xs : List En) (hs : a.eval s = v) (hown : OwnE w base v xs) (A : Option Addr) (n c : Nat) (ys : List En) (hx : a.eval x = .slice A n c) (hn : n = ys.length) (hr : RdE w A ys)
    (hb : xs.length + ys.length ≤ 2 ^ 40) (hbase : base ≤ w.heap.size)
    (h : ∀ v' w', OwnE w' base v' (xs ++ ys) → w.grownBy w' v.ownBlock → (v'.ownBlock = v.ownBlock ∨ v'.ownBlock = some w.heap.size) → wpList Tryz.prog ops Q rest (a.put o.dst v') w') : wpList Tryz.prog ops Q (o :: rest) a w :=
  wpList_plain hgd fun K hK => by
    subst hn
    obtain ⟨v', w', hrun, h2, h3, h4⟩ := run_appE w o.type base v xs hown A c ys hr hb hbase
    unfold Oper.wp execOp
    simp only [ho, resolve, invoke, builtin, Sem.run_bind, Sem.run_pure, Result.andThen_ok, List.map_toArray, List.map_cons, List.map_nil, hs, hx, hrun]
    exact hK _ _ (h v' w' h2 h3 h4)
/-- what append leaves: nothing below base has changed -/
theorem OwnE.grown {w0 w w' : World} {base : Nat} {v : Value} {xs : List En} (h : OwnE w base v xs) (hb : Below base w0 w) (hbw : base ≤ w.heap.size) (hg : w.grownBy w' v.ownBlock) : Below base w0 w' :=
  hb.grown hg hbw (fun k hk => (h.lt k hk).1)
theorem OwnE.low {w : World} {b b' : Nat} {v : Value} {es : List En} (h : OwnE w b' v es) (hb : b ≤ b') : OwnE w b v es := by
  obtain ⟨hl, hv⟩ := h
  refine ⟨hl, ?_⟩
  rcases hv with hn | ⟨g, cap, cur, rfl, hg, rest⟩
  · exact .inl hn
  · exact .inr ⟨g, cap, cur, rfl, Nat.le_trans hb hg, rest⟩
theorem OwnE.set {w : World} {base g i : Nat} {u v : Value} {es : List En} (h : OwnE w base v es) (hg : g < base) : OwnE (w.setCell ⟨g, i, none⟩ u) base v es := by
  obtain ⟨hl, hv⟩ := h
  refine ⟨hl, ?_⟩
  rcases hv with hn | ⟨k, cap, cur, rfl, hk, hh, rest⟩
  · exact .inl hn
  · exact .inr ⟨k, cap, cur, rfl, hk, (Below.heap_setCell w ⟨g, i, none⟩ u k (by show k ≠ g; omega)).trans hh, rest⟩
theorem OwnE.rd {w : World} {base n c : Nat} {A : Option Addr} {es : List En} (h : OwnE w base (.slice A n c) es) : es.length ≤ c ∧ RdE w A es ∧ ∀ b off sp, A = some ⟨b, off, sp⟩ → base ≤ b := by
  obtain ⟨A', c', e, h1, h2, h3⟩ := h.form
  injection e with e1 _ e3
  subst e1; subst e3
  exact ⟨h1, h2, fun b off sp e => (h3 b off sp e).1⟩
end Go.Proofs.YtdladjgdhnkkcaaGreat
