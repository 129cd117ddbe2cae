
/-
  4 texts in one.
  Conditions: stated lemma by lemma.
-/
import Derived.Test.YtdladjgdhnkkcaaGreatZKitToTrP
import Derived.Test.YtdladjgdhnkkcaaGreatZFrameToOpen
import Derived.Maps.AppendAt
import Derived.Laws.OwnMore
import Derived.RegionTactic
import Derived.OwnWalk
/-
  Entries of a log in memory: such as can be read, such as a call owns; append onto these.
  No condition.
-/
namespace Go.Proofs.YtdladjgdhnkkcaaGreat
open Go.RowKit
set_option linter.unusedVariables false

/-- entries that can be read -/
def RdE (w : World) (A : Option Addr) (es : List En) : Prop :=
  ∀ i, i < es.length → ∃ b off, A = some ⟨b, off, none⟩ ∧ b < w.heap.size ∧
    w.cell? ⟨b, off + i * 2, none⟩ = some (.int .i64 (es.getD i default).1) ∧ w.cell? ⟨b, off + i * 2 + 1, none⟩ = some (.string (es.getD i default).2)
theorem RdE.bel {w w' : World} {A : Option Addr} {es : List En} (h : RdE w A es) (hb : Below w.heap.size w w') : RdE w' A es := fun i hi => by
  obtain ⟨b, off, e, hlt, h1, h2⟩ := h i hi
  exact ⟨b, off, e, Nat.lt_of_lt_of_le hlt hb.size, (hb.cell (p := ⟨b, off + i * 2, none⟩) hlt).trans h1, (hb.cell (p := ⟨b, off + i * 2 + 1, none⟩) hlt).trans h2⟩
theorem RdE.nil (w : World) (A : Option Addr) : RdE w A [] := fun i hi => absurd hi (Nat.not_lt_zero _)
/-- a part of them -/
theorem RdE.part {w : World} {A : Option Addr} {es : List En} (h : RdE w A es) (l k m : Nat) (hk : k ≤ es.length) (hm : k ≤ m) :
    RdE w (if m = l then A else A.map (·.add (l * 2))) ((es.take k).drop l) := fun i hi => by
  have hi' : l + i < k := by simp at hi; omega
  obtain ⟨b, off, e, hlt, h1, h2⟩ := h (l + i) (by omega)
  have e1 : ((es.take k).drop l).getD i default = es.getD (l + i) default := by
    simp only [List.getD, List.getElem?_drop, List.getElem?_take]
    rw [if_pos hi']
  rw [if_neg (by omega), e, e1]
  refine ⟨b, off + l * 2, by simp [addr_add], hlt, ?_, ?_⟩
  · rw [show off + l * 2 + i * 2 = off + (l + i) * 2 from by omega]; exact h1
  · rw [show off + l * 2 + i * 2 + 1 = off + (l + i) * 2 + 1 from by omega]; exact h2
theorem RdE.drop {w : World} {A : Option Addr} {es : List En} (h : RdE w A es) (l m : Nat) (hm : es.length ≤ m) :
    RdE w (if m = l then A else A.map (·.add (l * 2))) (es.drop l) := by
  have := h.part l es.length m (Nat.le_refl _) hm
  rwa [List.take_length] at this

def cellsE (es : List En) : List Value := es.flatMap fun e => [.int .i64 e.1, .string e.2]
theorem cellsE_len (es : List En) : (cellsE es).length = es.length * 2 := by
  induction es with
  | nil => rfl
  | cons e es ih => simp only [cellsE, List.flatMap_cons, List.length_append, List.length_cons, List.length_nil] at ih ⊢; omega
theorem cellsE_app (a b : List En) : cellsE (a ++ b) = cellsE a ++ cellsE b := by simp [cellsE]
theorem cellsE_take (es : List En) (k : Nat) : (cellsE es).take (k * 2) = cellsE (es.take k) := by
  induction es generalizing k with
  | nil => simp [cellsE]
  | cons e es ih =>
    cases k with
    | zero => simp [cellsE]
    | succ k =>
      have h1 : cellsE (e :: es) = .int .i64 e.1 :: .string e.2 :: cellsE es := rfl
      have h2 : cellsE ((e :: es).take (k + 1)) = .int .i64 e.1 :: .string e.2 :: cellsE (es.take k) := rfl
      rw [h1, h2, show (k + 1) * 2 = k * 2 + 1 + 1 from by omega, List.take_succ_cons, List.take_succ_cons, ih]
theorem cellsE_get (es : List En) (i : Nat) (hi : i < es.length) : (cellsE es)[i * 2]? = some (.int .i64 (es.getD i default).1) ∧ (cellsE es)[i * 2 + 1]? = some (.string (es.getD i default).2) := by
  induction es generalizing i with
  | nil => simp at hi
  | cons e es ih =>
    have h1 : cellsE (e :: es) = .int .i64 e.1 :: .string e.2 :: cellsE es := rfl
    rw [h1]
    cases i with
    | zero => simp
    | succ i =>
      have := ih i (by simpa using hi)
      rw [show (i + 1) * 2 = i * 2 + 1 + 1 from by omega]
      simpa using this
theorem cellsE_split (es : List En) (j : Nat) (u : Value) (h : (cellsE es)[j]? = some u) : ∃ i, i < es.length ∧ ((j = i * 2 ∧ u = .int .i64 (es.getD i default).1) ∨ (j = i * 2 + 1 ∧ u = .string (es.getD i default).2)) := by
  have hj : j < es.length * 2 := by rw [← cellsE_len]; exact (List.getElem?_eq_some_iff.1 h).1
  refine ⟨j / 2, by omega, ?_⟩
  obtain ⟨h1, h2⟩ := cellsE_get es (j / 2) (by omega)
  rcases Nat.mod_two_eq_zero_or_one j with h0 | h0
  · left
    have e : j / 2 * 2 = j := by omega
    rw [e, h] at h1
    exact ⟨e.symm, Option.some.inj h1⟩
  · right
    have e : j / 2 * 2 + 1 = j := by omega
    rw [e, h] at h2
    exact ⟨e.symm, Option.some.inj h2⟩
theorem RdE.cells {w : World} {b off : Nat} {spot : Option Nat} {es : List En} (h : RdE w (some ⟨b, off, spot⟩) es) : ∀ j u, (cellsE es)[j]? = some u → w.cell? ((⟨b, off, spot⟩ : Addr).add j) = some u := fun j u hu => by
  obtain ⟨i, hi, hj⟩ := cellsE_split es j u hu
  obtain ⟨b', off', e, hlt, h1, h2⟩ := h i hi
  injection e with e
  injection e with e1 e2 e3
  subst e1; subst e2; subst e3
  rw [addr_add]
  rcases hj with ⟨rfl, rfl⟩ | ⟨rfl, rfl⟩
  · exact h1
  · rw [← Nat.add_assoc]; exact h2

/-- the value v owns the entries es, in a block from base on -/
def OwnE (w : World) (base : Nat) (v : Value) (es : List En) : Prop := w.ownsRow base 68 2 v es.length (cellsE es)
theorem OwnE.kept {w w' : World} {base : Nat} {v : Value} {es : List En} (h : OwnE w base v es) (hb : Below w.heap.size w w') : OwnE w' base v es := by
  rcases h.2 with ⟨rfl, e⟩ | ⟨g, cap, cur, rfl, h1, h2, h3⟩
  · exact ⟨h.1, .inl ⟨rfl, e⟩⟩
  · refine ⟨h.1, .inr ⟨g, cap, cur, rfl, h1, ?_, h3⟩⟩
    rw [hb.block g ?_]
    · exact h2
    · rcases Nat.lt_or_ge g w.heap.size with hl | hl
      · exact hl
      · rw [Array.getElem?_eq_none hl] at h2; cases h2
theorem OwnE.form {w : World} {base : Nat} {v : Value} {es : List En} (h : OwnE w base v es) :
    ∃ A cap, v = .slice A es.length cap ∧ es.length ≤ cap ∧ RdE w A es ∧ (∀ b off sp, A = some ⟨b, off, sp⟩ → base ≤ b ∧ off = 0 ∧ sp = none) := by
  obtain ⟨hl, hv⟩ := h
  rcases hv with ⟨rfl, e⟩ | ⟨g, cap, cur, rfl, h1, h2, h3, h4, h5, h6⟩
  · refine ⟨none, 0, by rw [e], by omega, fun i hi => absurd hi (by omega), fun b off sp e => by cases e⟩
  · refine ⟨_, cap, rfl, h3, fun i hi => ⟨g, 0, rfl, ?_, ?_, ?_⟩, fun b off sp e => by injection e with e; injection e with e1 e2 e3; exact ⟨by omega, e2.symm, e3.symm⟩⟩
    · rcases Nat.lt_or_ge g w.heap.size with hl | hl
      · exact hl
      · rw [Array.getElem?_eq_none hl] at h2; cases h2
    all_goals
      obtain ⟨c1, c2⟩ := cellsE_get es i hi
      have hcur : ∀ j, j < es.length * 2 → cur.toList[j]? = (cellsE es)[j]? := fun j hj => by
        have := congrArg (fun l => l[j]?) h6
        rw [List.getElem?_take_of_lt (by omega)] at this
        exact this
    · rw [cell_of_row w g (0 + i * 2) cur _ _ h2, Nat.zero_add]
      have := hcur (i * 2) (by omega)
      rw [c1] at this
      simpa using this
    · rw [cell_of_row w g (0 + i * 2 + 1) cur _ _ h2, Nat.zero_add]
      have := hcur (i * 2 + 1) (by omega)
      rw [c2] at this
      simpa using this
/-- nil owns nothing -/
theorem OwnE.nil (w : World) (base : Nat) : OwnE w base (.slice none 0 0) [] := World.ownsRow_nil w base _ 2
/-- a literal -/
theorem OwnE.lit (w : World) (base : Nat) (hb : base ≤ w.heap.size) (es : List En) (hm : es.length ≤ maxLen) (cs : Array Value) (hc : cs = (cellsE es).toArray) :
    OwnE (w.alloc (.cells cs 68)) base (.slice (some ⟨w.heap.size, 0, none⟩) es.length es.length) es := by
  subst hc
  have := World.ownsRow_lit (e := 68) (size := 2) w (cellsE es).toArray es.length hb hm (by simp [cellsE_len])
  simpa [OwnE] using this

theorem infoE : (Tryz.prog.info? 68).map (fun i => (i.zero, i.size, i.bytes)) = some (some (.agg #[.int .i64 0, .string ByteArray.empty]), 2, 24) := by kernel_rfl

theorem run_appE (w : World) (ty : TypeId) (base : Nat) (v : Value) (xs : List En) (hown : OwnE w base v xs) (A : Option Addr) (c : Nat) (ys : List En) (hr : RdE w A ys)
    (hb : xs.length + ys.length ≤ 2 ^ 40) (hbase : base ≤ w.heap.size) :
    ∃ v' w', (Builtin.append_ #[23, 23] ty #[v, .slice A ys.length c]).run Tryz.prog w = .ok v' w' ∧ OwnE w' base v' (xs ++ ys) ∧ w.grownBy w' v.ownBlock ∧
      (v'.ownBlock = v.ownBlock ∨ v'.ownBlock = some w.heap.size) := by
  obtain ⟨i0, hi0, hz0, hz1, hz2⟩ := info_parts infoE
  rcases A with _ | ⟨b, off, spot⟩
  · have hn : ys = [] := by
      rcases Nat.eq_zero_or_pos ys.length with h0 | h0
      · exact List.eq_nil_of_length_eq_zero h0
      · obtain ⟨_, _, e, _⟩ := hr 0 h0
        cases e
    subst hn
    have hu := run_underlying Tryz.underlying23
    refine ⟨v, w, ?_, by simpa using hown, World.grownBy.refl w _, .inl rfl⟩
    obtain ⟨_, hv⟩ := hown
    rcases hv with ⟨rfl, _⟩ | ⟨g, cap, cur, rfl, _, _, hnc, _⟩
    · simp [Builtin.append_, hu, sizeOf, typeInfo, hi0, Builtin.lenOf, Builtin.firstCells]
    · simp [Builtin.append_, hu, sizeOf, typeInfo, hi0, Builtin.lenOf, Builtin.firstCells, hnc, storeCells]
  · obtain ⟨v', w', hrun, h2, h3, _, h5⟩ := run_append_own_at (P := Tryz.prog) w base 23 ty 68 i0 (.agg #[.int .i64 0, .string ByteArray.empty]) 2 24 Tryz.underlying23 hi0 hz0 hz1 hz2 rfl (by omega) v xs.length (cellsE xs) hown ⟨b, off, spot⟩ ys.length c (cellsE ys) (cellsE_len ys) hr.cells
      (fun u hu => by obtain ⟨x, _, hx⟩ := List.mem_flatMap.1 hu; simp at hx; rcases hx with rfl | rfl <;> rfl) (by unfold maxLen; omega) (by omega) hbase
    refine ⟨v', w', hrun, ?_, h3, h5⟩
    unfold OwnE
    rw [List.length_append, cellsE_app]
    exact h2

theorem wpList_appE {ops : Array Oper} {rest : List Oper} {o : Oper} {a : Act} {Q : Exit → Act → World → Prop} {w : World} (hgd : o.guard = none) (s x : Operand)
    (ho : o.op = .call { callee := .builtin .append, args := #[s, x], argTypes := #[23, 23] })
    (base : Nat) (v : Value) (xs : List En) (hs : a.eval s = v) (hown : OwnE w base v xs) (A : Option Addr) (n c : Nat) (ys : List En) (hx : a.eval x = .slice A n c) (hn : n = ys.length) (hr : RdE w A ys)
    (hb : xs.length + ys.length ≤ 2 ^ 40) (hbase : base ≤ w.heap.size)
    (h : ∀ v' w', OwnE w' base v' (xs ++ ys) → w.grownBy w' v.ownBlock → (v'.ownBlock = v.ownBlock ∨ v'.ownBlock = some w.heap.size) → wpList Tryz.prog ops Q rest (a.put o.dst v') w') : wpList Tryz.prog ops Q (o :: rest) a w :=
  wpList_plain hgd fun K hK => by
    subst hn
    obtain ⟨v', w', hrun, h2, h3, h4⟩ := run_appE w o.type base v xs hown A c ys hr hb hbase
    unfold Oper.wp execOp
    simp only [ho, resolve, invoke, builtin, Sem.run_bind, Sem.run_pure, Result.andThen_ok, List.map_toArray, List.map_cons, List.map_nil, hs, hx, hrun]
    exact hK _ _ (h v' w' h2 h3 h4)
/-- what append leaves: nothing below base has changed -/
theorem OwnE.grown {w0 w w' : World} {base : Nat} {v : Value} {xs : List En} (h : OwnE w base v xs) (hb : Below base w0 w) (hbw : base ≤ w.heap.size) (hg : w.grownBy w' v.ownBlock) : Below base w0 w' :=
  hb.grown hg hbw (fun k hk => (h.lt k hk).1)
theorem OwnE.low {w : World} {b b' : Nat} {v : Value} {es : List En} (h : OwnE w b' v es) (hb : b ≤ b') : OwnE w b v es := by
  obtain ⟨hl, hv⟩ := h
  refine ⟨hl, ?_⟩
  rcases hv with hn | ⟨g, cap, cur, rfl, hg, rest⟩
  · exact .inl hn
  · exact .inr ⟨g, cap, cur, rfl, Nat.le_trans hb hg, rest⟩
theorem OwnE.set {w : World} {base g i : Nat} {u v : Value} {es : List En} (h : OwnE w base v es) (hg : g < base) : OwnE (w.setCell ⟨g, i, none⟩ u) base v es := by
  obtain ⟨hl, hv⟩ := h
  refine ⟨hl, ?_⟩
  rcases hv with hn | ⟨k, cap, cur, rfl, hk, hh, rest⟩
  · exact .inl hn
  · exact .inr ⟨k, cap, cur, rfl, hk, (Below.heap_setCell w ⟨g, i, none⟩ u k (by show k ≠ g; omega)).trans hh, rest⟩
theorem OwnE.rd {w : World} {base n c : Nat} {A : Option Addr} {es : List En} (h : OwnE w base (.slice A n c) es) : es.length ≤ c ∧ RdE w A es ∧ ∀ b off sp, A = some ⟨b, off, sp⟩ → base ≤ b := by
  obtain ⟨A', c', e, h1, h2, h3⟩ := h.form
  injection e with e1 _ e3
  subst e1; subst e3
  exact ⟨h1, h2, fun b off sp e => (h3 b off sp e).1⟩
end Go.Proofs.YtdladjgdhnkkcaaGreat

/-
  Arguments of the laws on logs: entries, a log.
  No condition.
-/
namespace Go.Proofs.YtdladjgdhnkkcaaGreat
open Go.ChangeShapes Go.WideShapes Go.ChangeAt Go.RowKit Go.Deep
set_option linter.unusedVariables false

theorem of_elems {w : World} {A : Option Addr} {len cap : Nat} {H : Type} {enc : TypeId × Value → H} {base : Nat} {held : Bool} (hlc : len ≤ cap)
    (h4 : ∀ i, i < cap → ∃ b off vs, A = some ⟨b, off, none⟩ ∧ b < w.heap.size ∧ vs.length = [2, 9].length ∧ (∀ j v, vs[j]? = some v → w.cell? ⟨b, off + i * [2, 9].length + j, none⟩ = some v) ∧ Leaf enc Tryz.prog w base (fun _ => true) held [2, 9] vs) :
    ∃ es : List En, es.length = len ∧ RdE w A es := by
  have hx : ∀ i, i < cap → ∃ x : En, ∃ b off, A = some ⟨b, off, none⟩ ∧ b < w.heap.size ∧ w.cell? ⟨b, off + i * 2, none⟩ = some (.int .i64 x.1) ∧ w.cell? ⟨b, off + i * 2 + 1, none⟩ = some (.string x.2) := fun i hi => by
    obtain ⟨b, off, vs, rfl, hb, _, hc, hl⟩ := h4 i hi
    obtain ⟨n, vs', rfl, _, hl⟩ := leaf_int Tryz.underlying2 hl
    obtain ⟨s, vs'', rfl, _, _, hl⟩ := leaf_string Tryz.underlying9 hl
    have h0 := hc 0 _ rfl
    have h1 := hc 1 _ rfl
    exact ⟨(n, s), b, off, rfl, hb, h0, h1⟩
  refine ⟨(List.range len).map fun i => if hi : i < cap then (hx i hi).choose else default, by simp, fun i hi => ?_⟩
  have hi' : i < len := by simpa using hi
  obtain ⟨b, off, e, hb, h1, h2⟩ := (hx i (by omega)).choose_spec
  have e0 : ((List.range len).map fun i => if hi : i < cap then (hx i hi).choose else default).getD i default = (hx i (by omega)).choose := by
    simp [List.getD, hi', show i < cap from by omega]
  rw [e0]
  exact ⟨b, off, e, hb, h1, h2⟩

/-- a log -/
abbrev trV (b bt : Int) (A : Option Addr) (n cap : Nat) : Value := .agg #[.int .i64 b, .int .i64 bt, .slice A n cap]

end Go.Proofs.YtdladjgdhnkkcaaGreat

/-
  Contracts of the package trail: follow, last, Check.
  Conditions: the entries can be read.
-/
namespace Go.Proofs.YtdladjgdhnkkcaaGreat
open Go.RowKit
set_option linter.unusedVariables false
set_option linter.unusedSimpArgs false

theorem fol_step {es : List En} {k : Nat} {t : Int} (h : k < es.length) : Tr.fol t (es.drop k) = (Tr.ok t (es.getD k default) && Tr.fol (es.getD k default).1 (es.drop (k + 1))) := by
  rw [List.drop_eq_getElem_cons h, Tr.fol]
  simp [List.getD, h]

set_option maxHeartbeats 1000000 in
theorem follow_calls (t : Int) (A : Option Addr) (cap : Nat) (es : List En) (w : World) (hR : RdE w A es) (hlen : es.length ≤ 9223372036854775807) :
    Calls Tryz.prog 81 #[.int .i64 t, .slice A es.length cap] w fun e w' => e = .returned (.bool (Tr.fol t es)) ∧ Below w.heap.size w w' := by
  obtain ⟨r, hr⟩ : ∃ r, r = Tr.fol t es := ⟨_, rfl⟩
  rw [← hr]
  have HR := Lib.hid hR
  have HF := Lib.hid hr
  clear hr hR
  go_enter Tryz.func81, Tryz.ntmps81
  go_wp2_with fail
  go_loopg [0, 6, 9] es.length (fun g v0 v6 v9 w' => ∃ (k : Nat) (t' : Int), k + g = es.length ∧ v9 = .int .i64 k ∧ v0 = .int .i64 t' ∧ Below w.heap.size w w' ∧ Hid (r = Tr.fol t' (es.drop k)))
  case atStart => exact ⟨0, t, by omega, rfl, rfl, Below.refl _ _, Lib.hid HF.out⟩
  case round =>
    obtain ⟨k, t', hk, rfl, rfl, hb, HI⟩ := hrel
    by_cases hlt : k < es.length
    · have hg : 0 < gk := by omega
      have hl : (k : Int) < (es.length : Int) := by omega
      have HK := Lib.hid hk
      clear hk
      obtain ⟨b, off, rfl, hbl, hc1, hc2⟩ := HR.out k hlt
      have hw1 := (hb.cell (p := ⟨b, off + k * 2, none⟩) hbl).trans hc1
      have hw2 := (hb.cell (p := ⟨b, off + k * 2 + 1, none⟩) hbl).trans hc2
      have hst := fol_step (t := t') hlt
      generalize es.getD k default = c at *
      obtain ⟨ct, cs⟩ := c
      have HS := Lib.hid hst
      clear hst hc1 hc2
      simp only at hw1 hw2
      by_cases hok : Tr.ok t' (ct, cs) = true
      · have hok' : t' ≤ ct ∧ 1 ≤ ct ∧ ct ≤ 1099511627776 ∧ cs.size ≤ 4096 := by simpa [Tr.ok] using hok
        have HO := Lib.hid hok
        obtain ⟨o1, o2, o3, o4⟩ := hok'
        have o5 : (cs.size : Int) ≤ 4096 := by omega
        have o6 : ¬ ct < max t' 1 := by omega
        clear hok
        go_wp2_with fail
        all_goals first
          | omega
          | (go_roundg (gk - 1)
             case rel => exact ⟨k + 1, ct, by have := HK.out; omega, by go_num, rfl, bel_new hb _, Lib.hid (by rw [HI.out, HS.out, HO.out, Bool.true_and])⟩
             case measure => omega)
      · have hrf : r = false := by
          rw [HI.out, HS.out]
          simp [hok]
        have hok' : ¬ (t' ≤ ct ∧ 1 ≤ ct ∧ ct ≤ 1099511627776 ∧ (cs.size : Int) ≤ 4096) := by
          intro h; apply hok; simp [Tr.ok]; omega
        have HN := Lib.hid hok'
        have HF2 := Lib.hid hrf
        clear hok hok' hrf
        go_wp2_with fail
        all_goals first
          | (exfalso; have := HN.out; omega)
          | (go_ret
             exact ⟨ret_bool HF2.out.symm, bel_new hb _⟩)
    · have hke : k = es.length := by omega
      subst hke
      have hrt : r = true := by rw [HI.out, List.drop_length]; rfl
      have HT := Lib.hid hrt
      clear hk hlt hrt
      go_wp2_with fail
      go_ret
      exact ⟨ret_bool HT.out.symm, hb⟩

theorem last_calls (b bt : Int) (A : Option Addr) (n cap : Nat) (w : World) (h0 : -9223372036854775808 ≤ b + n) (h1 : b + n ≤ 9223372036854775807) :
    Calls Tryz.prog 80 #[trV b bt A n cap] w fun e w' => e = .returned (.int .i64 (b + n)) ∧ Below w.heap.size w w' := by
  go_enter Tryz.func80, Tryz.ntmps80
  go_wp2_with fail
  go_ret
  exact ⟨rfl, (Below.refl _ _).alloc (Nat.le_refl _) _⟩

set_option maxRecDepth 20000 in
set_option maxHeartbeats 1000000 in
theorem check_calls (b bt : Int) (A : Option Addr) (cap : Nat) (es : List En) (w : World) (hR : RdE w A es) (hlen : es.length ≤ 9223372036854775807) :
    Calls Tryz.prog 44 #[trV b bt A es.length cap] w fun e w' => e = .returned (.bool (Tr.chk b bt es)) ∧ Below w.heap.size w w' := by
  obtain ⟨r, hr⟩ : ∃ r, r = Tr.chk b bt es := ⟨_, rfl⟩
  rw [← hr]
  have HR := Lib.hid hR
  have HF := Lib.hid hr
  clear hr hR
  by_cases hp : 0 ≤ b ∧ b ≤ 1099511627776 ∧ 0 ≤ bt ∧ bt ≤ 1099511627776 ∧ (0 < b ∨ bt = 0) ∧ (es.length : Int) ≤ 4096
  · have HP := Lib.hid hp
    have fol : r = (decide (b + es.length ≤ 1099511627776) && Tr.fol bt es) := by
      rw [HF.out]
      unfold Tr.chk Tr.rim
      congr 1
      rw [Bool.eq_iff_iff]
      simp only [decide_eq_true_eq]
      omega
    have HF2 := Lib.hid fol
    obtain ⟨p1, p2, p3, p4, p5, p6⟩ := hp
    clear fol HF
    have hor : (decide (0 < b) || (bt == 0)) = true := by simp; exact p5
    have hfc := Lib.hid (fun W hb => follow_calls bt A cap es W (HR.out.bel hb) hlen)
    have hs0 : -9223372036854775808 ≤ b + es.length := by omega
    have hs1 : b + es.length ≤ 9223372036854775807 := by omega
    by_cases hb0 : 0 < b
    rotate_left
    · obtain rfl : bt = 0 := by omega
      clear p5 hor
      go_enter Tryz.func44, Tryz.ntmps44
      go_wp2_with fail
      refine (last_calls b 0 A es.length cap _ hs0 hs1).mono ?_
      rintro e w1 ⟨rfl, hb1⟩
      have hw1 := Lib.hid (bel_al (Below.refl _ _) hb1)
      have hB := Lib.hid ((Blk.new w 25 #[.int .i64 b, .int .i64 0, .slice A es.length cap]).bel hb1)
      have hc1 := hB.out.cells 1
      have hc2 := hB.out.cells 2
      simp at hc1 hc2
      clear hb1
      by_cases hl : b + es.length ≤ 1099511627776
      · go_wp2_with fail
        refine (hfc.out _ hw1.out).mono ?_
        rintro e w2 ⟨rfl, hb2⟩
        have HL := Lib.hid hl
        go_wp2_with fail
        all_goals
          go_ret
          refine ⟨ret_bool ?_, bel_tr hw1.out hb2⟩
          rw [HF2.out, dec_t HL.out, Bool.true_and]
          first | done | assumption | (symm; assumption)
      · have HL := Lib.hid hl
        go_wp2_with fail
        all_goals go_ret
        all_goals exact ⟨ret_bool (by rw [HF2.out, dec_f (by have := HL.out; omega)]; rfl), hw1.out⟩
    all_goals
      clear p5 hor
      go_enter Tryz.func44, Tryz.ntmps44
      go_wp2_with fail
      refine (last_calls b bt A es.length cap _ hs0 hs1).mono ?_
      rintro e w1 ⟨rfl, hb1⟩
      have hw1 := Lib.hid (bel_al (Below.refl _ _) hb1)
      have hB := Lib.hid ((Blk.new w 25 #[.int .i64 b, .int .i64 bt, .slice A es.length cap]).bel hb1)
      have hc1 := hB.out.cells 1
      have hc2 := hB.out.cells 2
      simp at hc1 hc2
      clear hb1
      by_cases hl : b + es.length ≤ 1099511627776
      · go_wp2_with fail
        refine (hfc.out _ hw1.out).mono ?_
        rintro e w2 ⟨rfl, hb2⟩
        have HL := Lib.hid hl
        go_wp2_with fail
        all_goals
          go_ret
          refine ⟨ret_bool ?_, bel_tr hw1.out hb2⟩
          rw [HF2.out, dec_t HL.out, Bool.true_and]
          first | done | assumption | (symm; assumption)
      · have HL := Lib.hid hl
        go_wp2_with fail
        all_goals go_ret
        all_goals exact ⟨ret_bool (by rw [HF2.out, dec_f (by have := HL.out; omega)]; rfl), hw1.out⟩
  · have hrf : r = false := by
      rw [HF.out]
      unfold Tr.chk Tr.rim
      rw [dec_f (by omega)]; rfl
    have HF2 := Lib.hid hrf
    clear HF hrf
    have hbt : (bt == 0) = decide (bt = 0) := by rw [Bool.eq_iff_iff]; simp
    by_cases hb1 : bt = 0
    all_goals
      simp only [hb1, decide_true, decide_false] at hbt
      have HP := Lib.hid hp
      have HB := Lib.hid hb1
      clear hp hb1
      go_enter Tryz.func44, Tryz.ntmps44
      go_wp2_with fail
      all_goals first
        | (exfalso; have := HP.out; have := HB.out; omega)
        | (go_ret
           exact ⟨ret_bool HF2.out.symm, (Below.refl _ _).alloc (Nat.le_refl _) _⟩)
end Go.Proofs.YtdladjgdhnkkcaaGreat

/-
  Contracts of the package trail: term, Last, Term, Newer.
  Conditions: the entries can be read.
-/
namespace Go.Proofs.YtdladjgdhnkkcaaGreat
open Go.RowKit
set_option linter.unusedVariables false
set_option linter.unusedSimpArgs false

set_option maxHeartbeats 1000000 in
theorem term_calls (b bt n : Int) (A : Option Addr) (cap : Nat) (es : List En) (w : World) (hR : RdE w A es) (hb : 0 ≤ b ∧ b ≤ 1099511627776) (hn : b ≤ n ∧ n ≤ b + es.length) (hlen : es.length ≤ 4096) :
    Calls Tryz.prog 82 #[trV b bt A es.length cap, .int .i64 n] w fun e w' => e = .returned (.int .i64 (Tr.trm b bt es n)) ∧ Below w.heap.size w w' := by
  obtain ⟨r, hr⟩ : ∃ r, r = Tr.trm b bt es n := ⟨_, rfl⟩
  rw [← hr]
  unfold Tr.trm at hr
  by_cases hnb : n = b
  · rw [if_pos hnb] at hr
    subst hnb
    subst hr
    go_enter Tryz.func82, Tryz.ntmps82
    go_wp2_with fail
    go_ret
    exact ⟨rfl, (Below.refl _ _).alloc (Nat.le_refl _) _⟩
  · rw [if_neg hnb] at hr
    have hi : (n - b - 1).toNat < es.length := by omega
    obtain ⟨bl, off, rfl, hbl, hc1, _⟩ := hR _ hi
    rw [← hr] at hc1
    have k0 : (n == b) = false := by simpa using hnb
    have k1 : 0 ≤ n - b - 1 := by omega
    have k2 : n - b - 1 < (es.length : Int) := by omega
    have k3 : n - b ≤ 9223372036854775807 := by omega
    have k4 : (⟨bl, off, none⟩ : Addr).block ≠ w.heap.size := by show bl ≠ _; omega
    have hc : w.cell? ⟨bl, off + ((n - b).toNat - 1) * 2, none⟩ = some (.int .i64 r) := by
      rw [show (n - b).toNat - 1 = (n - b - 1).toNat from by omega]; exact hc1
    clear hc1 hn hi hnb hr hR hb
    go_enter Tryz.func82, Tryz.ntmps82
    go_wp2_with fail
    go_ret
    exact ⟨rfl, (Below.refl _ _).alloc (Nat.le_refl _) _⟩

/-- a log's own block: what a box of it holds, whatever comes behind -/
theorem box_bel {w W : World} {t : TypeId} {cs : Array Value} (hb : Below (w.alloc (.cells cs t)).heap.size (w.alloc (.cells cs t)) W) : Below w.heap.size w W ∧ Blk W w.heap.size t cs :=
  ⟨bel_al (Below.refl _ _) hb, (Blk.new w t cs).bel hb⟩

theorem since_below {w : World} {g : Nat} {t : TypeId} {cs : Array Value} (x : InS (Since1 w g t cs)) : Below w.heap.size w x.val := x.ok.1

set_option maxRecDepth 20000 in
set_option maxHeartbeats 1000000 in
theorem last2_calls (b bt : Int) (A : Option Addr) (cap : Nat) (es : List En) (w : World) (hR : RdE w A es) (hlen : es.length ≤ 9223372036854775807) :
    Calls Tryz.prog 45 #[trV b bt A es.length cap] w fun e w' => e = .returned (.tuple #[.int .i64 (Tr.lastN b bt es), .int .i64 (Tr.lastT b bt es)]) ∧ Below w.heap.size w w' := by
  have hck := Lib.hid (fun W hb => check_calls b bt A cap es W (hR.bel hb) hlen)
  have HR := Lib.hid hR
  obtain ⟨x, hx⟩ : ∃ x, x = Tr.lastN b bt es := ⟨_, rfl⟩
  obtain ⟨y, hy⟩ : ∃ y, y = Tr.lastT b bt es := ⟨_, rfl⟩
  rw [← hx, ← hy]
  unfold Tr.lastN at hx
  unfold Tr.lastT at hy
  by_cases hc : Tr.chk b bt es = true
  · rw [if_pos hc] at hx hy
    subst hx
    subst hy
    have hr := Tr.chk_rim hc
    rw [hc] at hck
    clear hc hR
    have hl := Lib.hid (fun W => last_calls b bt A es.length cap W (by omega) (by omega))
    have ht := Lib.hid (fun W hb => term_calls b bt (b + es.length) A cap es W (HR.out.bel hb) (by omega) (by omega) (by omega))
    clear hr
    generalize Tr.trm b bt es (b + es.length) = r at *
    have hS0 : ∀ W, Below (w.alloc (.cells #[.int .i64 b, .int .i64 bt, .slice A es.length cap] 25)).heap.size (w.alloc (.cells #[.int .i64 b, .int .i64 bt, .slice A es.length cap] 25)) W → Since1 w w.heap.size 25 #[.int .i64 b, .int .i64 bt, .slice A es.length cap] W.drew :=
      fun W h => ⟨bel_drew (box_bel h).1, (box_bel h).2.drewN 1⟩
    go_enter Tryz.func45, Tryz.ntmps45
    go_wp2_with fail
    refine (hck.out _ ((Below.refl _ _).alloc (Nat.le_refl _) _)).mono ?_
    rintro e w1 ⟨rfl, hb1⟩
    have hs1 := hS0 _ hb1
    have hc : ∀ (x : InS (Since1 w w.heap.size 25 #[.int .i64 b, .int .i64 bt, .slice A es.length cap])) i, x.val.cell? ⟨w.heap.size, i, none⟩ = (#[.int .i64 b, .int .i64 bt, .slice A es.length cap] : Array Value)[i]? := fun x => x.ok.2.cells
    have hne : Nonempty (InS (Since1 w w.heap.size 25 #[.int .i64 b, .int .i64 bt, .slice A es.length cap])) := ⟨⟨_, hs1⟩⟩
    clear hb1 hS0 hck
    go_wp2_with fail
    refine wp_region_in (Since1 w w.heap.size 25 #[.int .i64 b, .int .i64 bt, .slice A es.length cap]) (by kernel_rfl) (by kernel_rfl) hs1 ?_
    repeat (go_big_quiet_step ((first
      | (go_at_call 80; exact calls_in_bel Since1.keep (hl.out _))
      | (go_at_call 82; exact calls_in_bel Since1.keep (ht.out _ (since_below _))))))
    refine wpQuiet_nil ?_
    intro W hW
    have hs := in_ok hW
    clear hW hc hne
    go_wp2_with fail
    go_ret2
    exact ⟨rfl, hs.1⟩
  · rw [if_neg hc] at hx hy
    subst hx
    subst hy
    simp only [Bool.not_eq_true] at hc
    rw [hc] at hck
    go_enter Tryz.func45, Tryz.ntmps45
    go_wp2_with fail
    refine (hck.out _ ((Below.refl _ _).alloc (Nat.le_refl _) _)).mono ?_
    rintro e w1 ⟨rfl, hb1⟩
    go_wp2_with fail
    go_ret2
    exact ⟨rfl, (box_bel hb1).1⟩

set_option maxRecDepth 20000 in
set_option maxHeartbeats 1000000 in
theorem term2_calls (b bt n : Int) (A : Option Addr) (cap : Nat) (es : List En) (w : World) (hR : RdE w A es) (hlen : es.length ≤ 9223372036854775807) :
    Calls Tryz.prog 66 #[trV b bt A es.length cap, .int .i64 n] w fun e w' => e = .returned (.tuple #[.int .i64 (if Tr.has b bt es n then Tr.trm b bt es n else 0), .bool (Tr.has b bt es n)]) ∧ Below w.heap.size w w' := by
  have hck := Lib.hid (fun W hb => check_calls b bt A cap es W (hR.bel hb) hlen)
  have HR := Lib.hid hR
  obtain ⟨x, hx⟩ : ∃ x, x = (if Tr.has b bt es n then Tr.trm b bt es n else 0) := ⟨_, rfl⟩
  obtain ⟨y, hy⟩ : ∃ y, y = Tr.has b bt es n := ⟨_, rfl⟩
  rw [← hx, ← hy]
  rw [← hy] at hx
  unfold Tr.has at hy
  by_cases hc : Tr.chk b bt es = true
  · have hr := Tr.chk_rim hc
    rw [hc] at hck hy
    rw [Bool.true_and] at hy
    clear hc hR
    have hl := Lib.hid (fun W => last_calls b bt A es.length cap W (by omega) (by omega))
    by_cases hn : b ≤ n ∧ n ≤ b + es.length
    · rw [dec_t hn] at hy
      subst hy
      rw [if_pos rfl] at hx
      have ht := Lib.hid (fun W hb => term_calls b bt n A cap es W (HR.out.bel hb) (by omega) hn (by omega))
      rw [← hx] at ht
      have n1 : ¬ n < b := by omega
      have n2 : ¬ b + (es.length : Int) < n := by omega
      clear hr hn hx
      go_enter Tryz.func66, Tryz.ntmps66
      go_wp2_with fail
      refine (hck.out _ ((Below.refl _ _).alloc (Nat.le_refl _) _)).mono ?_
      rintro e w1 ⟨rfl, hb1⟩
      obtain ⟨hw1, hB1⟩ := box_bel hb1
      have hc1 := hB1.cells
      clear hb1
      go_wp2_with fail
      refine (hl.out _).mono ?_
      rintro e w2 ⟨rfl, hb2⟩
      have hw2 := bel_tr hw1 hb2
      have hc2 := (hB1.bel hb2).cells
      clear hc1 hB1 hw1 hb2
      go_wp2_with fail
      refine (ht.out _ hw2).mono ?_
      rintro e w3 ⟨rfl, hb3⟩
      have hw3 := bel_tr hw2 hb3
      clear hc2 hw2 hb3
      go_wp2_with fail
      go_ret2
      exact ⟨rfl, hw3⟩
    · rw [dec_f hn] at hy
      subst hy
      rw [if_neg (by simp)] at hx
      subst hx
      clear hr
      by_cases n1 : n < b
      · clear hn
        go_enter Tryz.func66, Tryz.ntmps66
        go_wp2_with fail
        refine (hck.out _ ((Below.refl _ _).alloc (Nat.le_refl _) _)).mono ?_
        rintro e w1 ⟨rfl, hb1⟩
        obtain ⟨hw1, hB1⟩ := box_bel hb1
        have hc1 := hB1.cells
        clear hb1
        go_wp2_with fail
        go_ret2
        exact ⟨rfl, hw1⟩
      · have n2 : b + (es.length : Int) < n := by omega
        clear hn
        go_enter Tryz.func66, Tryz.ntmps66
        go_wp2_with fail
        refine (hck.out _ ((Below.refl _ _).alloc (Nat.le_refl _) _)).mono ?_
        rintro e w1 ⟨rfl, hb1⟩
        obtain ⟨hw1, hB1⟩ := box_bel hb1
        have hc1 := hB1.cells
        clear hb1
        go_wp2_with fail
        refine (hl.out _).mono ?_
        rintro e w2 ⟨rfl, hb2⟩
        have hw2 := bel_tr hw1 hb2
        clear hc1 hB1 hw1 hb2
        go_wp2_with fail
        go_ret2
        exact ⟨rfl, hw2⟩
  · simp only [Bool.not_eq_true] at hc
    rw [hc] at hck hy
    rw [Bool.false_and] at hy
    subst hy
    rw [if_neg (by simp)] at hx
    subst hx
    go_enter Tryz.func66, Tryz.ntmps66
    go_wp2_with fail
    refine (hck.out _ ((Below.refl _ _).alloc (Nat.le_refl _) _)).mono ?_
    rintro e w1 ⟨rfl, hb1⟩
    go_wp2_with fail
    go_ret2
    exact ⟨rfl, (box_bel hb1).1⟩

set_option maxRecDepth 20000 in
set_option maxHeartbeats 1000000 in
theorem newer_calls (b bt n t : Int) (A : Option Addr) (cap : Nat) (es : List En) (w : World) (hR : RdE w A es) (hlen : es.length ≤ 9223372036854775807) :
    Calls Tryz.prog 57 #[trV b bt A es.length cap, .int .i64 n, .int .i64 t] w fun e w' => e = .returned (.bool (Tr.newer b bt es n t)) ∧ Below w.heap.size w w' := by
  have hck := Lib.hid (fun W hb => check_calls b bt A cap es W (hR.bel hb) hlen)
  have hl := Lib.hid (fun W hb => last2_calls b bt A cap es W (hR.bel hb) hlen)
  obtain ⟨r, hr⟩ : ∃ r, r = Tr.newer b bt es n t := ⟨_, rfl⟩
  rw [← hr]
  unfold Tr.newer at hr
  by_cases hc : Tr.chk b bt es = true
  · rw [hc] at hck hr
    rw [Bool.true_and] at hr
    clear hc hR
    generalize Tr.lastN b bt es = x at *
    generalize Tr.lastT b bt es = y at *
    have HF := Lib.hid hr
    clear hr
    go_enter Tryz.func57, Tryz.ntmps57
    go_wp2_with fail
    refine (hck.out _ ((Below.refl _ _).alloc (Nat.le_refl _) _)).mono ?_
    rintro e w1 ⟨rfl, hb1⟩
    obtain ⟨hw1, hB1⟩ := box_bel hb1
    have hc1 := hB1.cells
    clear hb1
    go_wp2_with fail
    refine (hl.out _ hw1).mono ?_
    rintro e w2 ⟨rfl, hb2⟩
    have hw2 := bel_tr hw1 hb2
    clear hc1 hB1 hw1 hb2
    have hty : (t == y) = decide (t = y) := by rw [Bool.eq_iff_iff]; simp
    by_cases h1 : y < t
    · have HH := Lib.hid h1
      go_wp2_with fail
      go_ret
      exact ⟨ret_bool (by rw [HF.out, dec_t HH.out]; rfl), hw2⟩
    · have HH := Lib.hid h1
      by_cases h2 : t = y
      · subst h2
        go_wp2_with fail
        all_goals
          go_ret
          exact ⟨ret_bool (by rw [HF.out]; simp), hw2⟩
      · rw [dec_f h2] at hty
        have H2 := Lib.hid h2
        clear h2
        go_wp2_with fail
        go_ret
        exact ⟨ret_bool (by rw [HF.out, dec_f H2.out]; simp), hw2⟩
  · simp only [Bool.not_eq_true] at hc
    rw [hc] at hck hr
    rw [Bool.false_and] at hr
    subst hr
    clear hl hR
    go_enter Tryz.func57, Tryz.ntmps57
    go_wp2_with fail
    refine (hck.out _ ((Below.refl _ _).alloc (Nat.le_refl _) _)).mono ?_
    rintro e w1 ⟨rfl, hb1⟩
    go_wp2_with fail
    go_ret
    exact ⟨rfl, (box_bel hb1).1⟩
end Go.Proofs.YtdladjgdhnkkcaaGreat
