/-
  Rows of bytes of the call's own: append onto one, whatever the bytes that are appended; a row read as bytes.
  Conditions: not more than 2^40 bytes.
-/
import Derived.Test.YtkmhjfileiabeaaCrcA
import Derived.Maps.AppendAt
import Derived.Laws.OwnMore
import Derived.RegionTactic
import Derived.OwnWalk
namespace Go.Proofs.Ytkmhjfileiabeaa
open Go.RowKit
set_option linter.unusedVariables false

def cell8 (x : Nat) : Value := .int .u8 x
/-- the value v owns the row of the bytes xs, in a block from base on -/
def Own8 (w : World) (base : Nat) (v : Value) (xs : List Nat) : Prop :=
  w.ownsRow base 5 1 v xs.length (xs.map cell8) ∧ ∀ x ∈ xs, x < 256

theorem Own8.kept {w w' : World} {base : Nat} {v : Value} {xs : List Nat} (h : Own8 w base v xs) (hb : Below w.heap.size w w') : Own8 w' base v xs := by
  refine ⟨?_, h.2⟩
  rcases h.1.2 with ⟨rfl, e⟩ | ⟨g, cap, cur, rfl, h1, h2, h3⟩
  · exact ⟨h.1.1, .inl ⟨rfl, e⟩⟩
  · refine ⟨h.1.1, .inr ⟨g, cap, cur, rfl, h1, ?_, h3⟩⟩
    rw [hb.block g ?_]
    · exact h2
    · rcases Nat.lt_or_ge g w.heap.size with hl | hl
      · exact hl
      · rw [Array.getElem?_eq_none hl] at h2; cases h2

theorem Own8.form {w : World} {base : Nat} {v : Value} {xs : List Nat} (h : Own8 w base v xs) :
    ∃ A cap, v = .slice A xs.length cap ∧ xs.length ≤ cap ∧ Rd8 w A xs ∧ ∀ g, g < base → Off A g := by
  obtain ⟨⟨hl, hv⟩, hx⟩ := h
  rcases hv with ⟨rfl, e⟩ | ⟨g, cap, cur, rfl, h1, h2, h3, h4, h5, h6⟩
  · refine ⟨none, 0, by rw [e], by omega, fun i hi => absurd hi (by omega), fun g _ b off e => by cases e⟩
  · refine ⟨_, cap, rfl, h3, fun i hi => ⟨g, 0, rfl, ?_, ?_, ?_⟩, fun g' hg b off e => by injection e with e; injection e; omega⟩
    · rcases Nat.lt_or_ge g w.heap.size with hl | hl
      · exact hl
      · rw [Array.getElem?_eq_none hl] at h2; cases h2
    · simp only [List.getD, List.getElem?_eq_getElem hi, Option.getD_some]
      exact hx _ (List.getElem_mem hi)
    · have hcur : cur.toList[i]? = some (cell8 (xs.getD i 0)) := by
        have := congrArg (fun l => l[i]?) h6
        rw [List.getElem?_take_of_lt (by omega)] at this
        rw [this]
        simp [List.getD, hi, cell8]
      rw [cell_of_row w g (0 + i) cur _ _ h2, Nat.zero_add]
      simpa [cell8] using hcur

/-- an empty row, made by []byte{} -/
theorem Own8.lit (w : World) (base : Nat) (hb : base ≤ w.heap.size) (xs : List Nat) (hx : ∀ x ∈ xs, x < 256) (hm : xs.length ≤ maxLen) (cs : Array Value) (hc : cs = (xs.map cell8).toArray) :
    Own8 (w.alloc (.cells cs 5)) base (.slice (some ⟨w.heap.size, 0, none⟩) xs.length xs.length) xs := by
  subst hc
  have := World.ownsRow_lit (e := 5) (size := 1) w (xs.map cell8).toArray xs.length hb hm (by simp)
  exact ⟨by simpa using this, hx⟩

theorem info8 : (Try.prog.info? 5).map (fun i => (i.zero, i.size, i.bytes)) = some (some (.int .u8 0), 1, 1) := by kernel_rfl

/-- nil appended: nothing happens -/
theorem run_app8_nil (w : World) (ty : TypeId) (base : Nat) (v : Value) (xs : List Nat) (hown : Own8 w base v xs) (c : Nat) :
    (Builtin.append_ #[22, 22] ty #[v, .slice none 0 c]).run Try.prog w = .ok v w := by
  obtain ⟨i0, hi0, hz0, hz1, hz2⟩ := info_parts info8
  have hu := run_underlying Try.underlying22
  obtain ⟨⟨_, hv⟩, _⟩ := hown
  rcases hv with ⟨rfl, _⟩ | ⟨g, cap, cur, rfl, _, _, hnc, _⟩
  · simp [Builtin.append_, hu, sizeOf, typeInfo, hi0, Builtin.lenOf, Builtin.firstCells]
  · simp [Builtin.append_, hu, sizeOf, typeInfo, hi0, Builtin.lenOf, Builtin.firstCells, hnc, storeCells]

theorem run_app8 (w : World) (ty : TypeId) (base : Nat) (v : Value) (xs : List Nat) (hown : Own8 w base v xs) (A : Option Addr) (c : Nat) (ys : List Nat) (hr : Rd8 w A ys)
    (hb : xs.length + ys.length ≤ 2 ^ 40) (hbase : base ≤ w.heap.size) :
    ∃ v' w', (Builtin.append_ #[22, 22] ty #[v, .slice A ys.length c]).run Try.prog w = .ok v' w' ∧ Own8 w' base v' (xs ++ ys) ∧ w.grownBy w' v.ownBlock ∧
      (v'.ownBlock = v.ownBlock ∨ v'.ownBlock = some w.heap.size) := by
  obtain ⟨i0, hi0, hz0, hz1, hz2⟩ := info_parts info8
  have hy : ∀ x ∈ ys, x < 256 := fun x hx => by
    obtain ⟨i, hi, e⟩ := List.getElem_of_mem hx
    obtain ⟨_, _, _, _, h, _⟩ := hr i hi
    simpa [List.getD, hi, e] using h
  have hxy : ∀ x ∈ xs ++ ys, x < 256 := fun x hx => by
    rcases List.mem_append.1 hx with h | h
    · exact hown.2 x h
    · exact hy x h
  rcases A with _ | ⟨b, off, spot⟩
  · have hn : ys = [] := by
      rcases Nat.eq_zero_or_pos ys.length with h0 | h0
      · exact List.eq_nil_of_length_eq_zero h0
      · obtain ⟨_, _, e, _⟩ := hr 0 h0
        cases e
    subst hn
    exact ⟨v, w, run_app8_nil w ty base v xs hown c, by simpa using hown, World.grownBy.refl w _, .inl rfl⟩
  · have hc : ∀ (j : Nat) u, (ys.map cell8)[j]? = some u → w.cell? ((⟨b, off, spot⟩ : Addr).add j) = some u := fun j u hu => by
      have hj : j < ys.length := by
        have := (List.getElem?_eq_some_iff.1 hu).1
        simpa using this
      obtain ⟨b', off', e, _, _, hcell⟩ := hr j hj
      injection e with e
      injection e with e1 e2 e3
      subst e1; subst e2; subst e3
      rw [addr_add, hcell, ← hu]
      simp [hj, List.getD, cell8]
    obtain ⟨v', w', hrun, h2, h3, _, h5⟩ := run_append_own_at (P := Try.prog) w base 22 ty 5 i0 (.int .u8 0) 1 1 Try.underlying22 hi0 hz0 hz1 hz2 rfl (by omega) v xs.length (xs.map cell8) hown.1 ⟨b, off, spot⟩ ys.length c (ys.map cell8) (by simp) hc
      (fun u hu => by obtain ⟨x, _, rfl⟩ := List.mem_map.1 hu; rfl) (by unfold maxLen; omega) (by omega) hbase
    exact ⟨v', w', hrun, ⟨by rw [List.length_append, List.map_append]; exact h2, hxy⟩, h3, h5⟩

theorem wpList_app8 {ops : Array Oper} {rest : List Oper} {o : Oper} {a : Act} {Q : Exit → Act → World → Prop} {w : World} (hgd : o.guard = none) (s x : Operand)
    (ho : o.op = .call { callee := .builtin .append, args := #[s, x], argTypes := #[22, 22] })
    (base : Nat) (v : Value) (xs : List Nat) (hs : a.eval s = v) (hown : Own8 w base v xs) (A : Option Addr) (c : Nat) (ys : List Nat) (hx : a.eval x = .slice A ys.length c) (hr : Rd8 w A ys)
    (hb : xs.length + ys.length ≤ 2 ^ 40) (hbase : base ≤ w.heap.size)
    (h : ∀ v' w', Own8 w' base v' (xs ++ ys) → w.grownBy w' v.ownBlock → (v'.ownBlock = v.ownBlock ∨ v'.ownBlock = some w.heap.size) → wpList Try.prog ops Q rest (a.put o.dst v') w') : wpList Try.prog ops Q (o :: rest) a w :=
  wpList_plain hgd fun K hK => by
    obtain ⟨v', w', hrun, h2, h3, h4⟩ := run_app8 w o.type base v xs hown A c ys hr hb hbase
    unfold Oper.wp execOp
    simp only [ho, resolve, invoke, builtin, Sem.run_bind, Sem.run_pure, Result.andThen_ok, List.map_toArray, List.map_cons, List.map_nil, hs, hx, hrun]
    exact hK _ _ (h v' w' h2 h3 h4)

/-- what append leaves: nothing below base has changed -/
theorem Own8.grown {w0 w w' : World} {base : Nat} {v : Value} {xs : List Nat} (h : Own8 w base v xs) (hb : Below base w0 w) (hbw : base ≤ w.heap.size) (hg : w.grownBy w' v.ownBlock) : Below base w0 w' :=
  hb.grown hg hbw (fun k hk => (h.1.lt k hk).1)
end Go.Proofs.Ytkmhjfileiabeaa
