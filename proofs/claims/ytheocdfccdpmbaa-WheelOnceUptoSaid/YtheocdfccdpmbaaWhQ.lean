/-
  The reference of a timing wheel: a list in order; slices of a row; Before.
  Conditions: stated lemma by lemma.
-/
import Derived.Test.YtheocdfccdpmbaaWhO
import Derived.BigQuiet
import Derived.Deep.Cut
namespace Go.Proofs.Ytheocdfccdpmbaa
open Go.RowKit Go.Maps
set_option linter.unusedVariables false
set_option linter.unusedSimpArgs false
set_option linter.unusedSectionVars false
set_option maxHeartbeats 4000000
namespace Wh
/-- so many stand ahead of i -/
def ahead (i : Itm) (R : List Itm) : Nat := (R.filter fun x => decide (before x i)).length
theorem ahead_split (i : Itm) : ∀ {R : List Itm}, R.Pairwise before → R.filter (fun x => decide (before x i)) = R.take (ahead i R) ∧ R.filter (fun x => !decide (before x i)) = R.drop (ahead i R)
  | [], _ => ⟨rfl, rfl⟩
  | x :: R, h => by
    rw [List.pairwise_cons] at h
    have ih := ahead_split i h.2
    unfold ahead at ih ⊢
    by_cases c : before x i
    · rw [List.filter_cons_of_pos (by simpa using c), List.filter_cons_of_neg (by simpa using c)]
      simp only [List.length_cons, List.take_succ_cons, List.drop_succ_cons]
      exact ⟨by rw [← ih.1], ih.2⟩
    · have e0 : R.filter (fun x => decide (before x i)) = [] := List.filter_eq_nil_iff.2 fun y hy => by
        have := h.1 y hy
        simpa using fun h2 => c (before_trans this h2)
      rw [List.filter_cons_of_neg (by simpa using c), List.filter_cons_of_pos (by simpa using c), e0]
      refine ⟨rfl, ?_⟩
      rw [ih.2, e0]
      rfl
theorem ins_split {i : Itm} {R : List Itm} (h : R.Pairwise before) : ins i R = R.take (ahead i R) ++ i :: R.drop (ahead i R) := by
  unfold ins
  rw [(ahead_split i h).1, (ahead_split i h).2]
theorem ahead_le (i : Itm) (R : List Itm) : ahead i R ≤ R.length := List.length_filter_le _ _
theorem ahead_step {i : Itm} {R : List Itm} (h : R.Pairwise before) {k : Nat} (hk : k < R.length) : ahead i (R.take (k + 1)) = if before (R.getD k default) i then k + 1 else ahead i (R.take k) := by
  have hs : R.take (k + 1) = R.take k ++ [R.getD k default] := by
    rw [List.take_add_one]
    simp [List.getD, hk]
  unfold ahead
  rw [hs, List.filter_append, List.length_append]
  by_cases c : before (R.getD k default) i
  · rw [if_pos c]
    have e1 : (R.take k).filter (fun x => decide (before x i)) = R.take k := List.filter_eq_self.2 fun x hx => by
      have hp : (R.take (k + 1)).Pairwise before := h.sublist (List.take_sublist _ _)
      rw [hs, List.pairwise_append] at hp
      simpa using before_trans (hp.2.2 x hx _ (List.mem_singleton.2 rfl)) c
    rw [e1, List.length_take, List.filter_cons_of_pos (by simpa using c)]
    simp
    omega
  · rw [if_neg c, List.filter_cons_of_neg (by simpa using c)]
    simp
/-- the first of an id -/
theorem del_at {R : List Itm} (h : R.Pairwise (fun a b => a.id ≠ b.id)) {k : Nat} (hk : k < R.length) : del (R.getD k default).id R = R.take k ++ R.drop (k + 1) := by
  have hs : R = R.take k ++ R.getD k default :: R.drop (k + 1) := by
    have e : R.getD k default = R[k] := by simp [List.getD, hk]
    rw [e, ← List.drop_eq_getElem_cons hk, List.take_append_drop]
  generalize R.getD k default = x at *
  generalize R.take k = a at *
  generalize R.drop (k + 1) = b at *
  subst hs
  rw [List.pairwise_append, List.pairwise_cons] at h
  unfold del
  rw [List.filter_append, List.filter_cons_of_neg (by simp), List.filter_eq_self.2 (fun y hy => by simpa using h.2.2 y hy x (List.mem_cons_self ..)), List.filter_eq_self.2 (fun y hy => by simpa using fun e => h.2.1.1 y hy e.symm)]
theorem upto_take {t : Int} : ∀ {R : List Itm}, R.Pairwise before → upto t R = R.take (upto t R).length ∧ past t R = R.drop (upto t R).length
  | [], _ => ⟨rfl, rfl⟩
  | x :: R, h => by
    rw [List.pairwise_cons] at h
    have ih := upto_take (t := t) h.2
    unfold upto past at ih ⊢
    by_cases c : x.at_ ≤ t
    · rw [List.filter_cons_of_pos (by simpa using c), List.filter_cons_of_neg (by simp; omega)]
      simp only [List.length_cons, List.take_succ_cons, List.drop_succ_cons]
      exact ⟨by rw [← ih.1], ih.2⟩
    · have e0 : R.filter (fun x => decide (x.at_ ≤ t)) = [] := List.filter_eq_nil_iff.2 fun y hy => by
        have := h.1 y hy
        unfold before at this
        simp; omega
      rw [List.filter_cons_of_neg (by simpa using c), List.filter_cons_of_pos (by simp; omega), e0]
      refine ⟨rfl, ?_⟩
      rw [ih.2, e0]
      rfl
end Wh
section
variable {α : Type} [Inhabited α] {L : Lay α} {P : Program} {t e : TypeId} {w : World}
theorem wpList_from {ops : Array Oper} {rest : List Oper} {o : Oper} {a : Act} {Q : Exit → Act → World → Prop} (ht : P.underlying t = some (.slice e)) (hel : P.elem t = e) {z : Value} {bytes : Nat} (hinfo : (P.info? e).map (fun i => (i.zero, i.size, i.bytes)) = some (some z, L.k, bytes)) (hgd : o.guard = none) (s lo : Operand) (ho : o.op = .slice t s (some lo) none none)
    (A : Option Addr) (n cap : Nat) (R : List α) (hs : a.eval s = .slice A n cap) (l : Nat) (hlo : a.eval lo = .int .i64 (l : Int)) (hn : n = R.length) (hl : l ≤ n) (hc : n ≤ cap) (hR : RdL L w A R) (hA : ∀ b off sp, A = some ⟨b, off, sp⟩ → sp = none)
    (h : ∀ A', RdL L w A' (R.drop l) → wpList P ops Q rest (a.put o.dst (.slice A' (n - l) (cap - l))) w) : wpList P ops Q (o :: rest) a w :=
  wpList_plain hgd fun K hK => by
    obtain ⟨i0, hi0, hz0, hz1, hz2⟩ := info_parts hinfo
    have hrun : (Instr.sliceAt t (.slice A n cap) (some (.int .i64 (l : Int))) none none).run P w = .ok (.slice (if cap = l then A else A.map (·.add (l * L.k))) (n - l) (cap - l)) w := by
      have hsz : (sizeOf e).run P w = .ok L.k w := by simp [sizeOf, typeInfo, hi0, hz1]
      have hb : (Instr.sliceBounds true n cap (some (.int .i64 (l : Int))) none none).run P w = .ok (l, n, cap) w := by
        simp [Instr.sliceBounds, Instr.sliceBound, asIntOf, hl]
      rw [run_sliceAt_slice w t _ _ _ _ (by rw [hel]; exact ht), run_slice_any w t A n cap (by rw [hel]; exact ht), hb]
      simp only [Result.andThen, hel, hsz, sliced]
    have hrd : RdL L w (if cap = l then A else A.map (·.add (l * L.k))) (R.drop l) := by
      by_cases c : cap = l
      · rw [if_pos c]
        have : R.drop l = [] := List.drop_eq_nil_of_le (by omega)
        rw [this]
        exact RdL.nil _ _
      · rw [if_neg c]
        rcases A with _ | ⟨b, off, sp⟩
        · intro i hi
          obtain ⟨_, _, e, _⟩ := hR 0 (by rw [List.length_drop] at hi; omega)
          cases e
        · have := hA b off sp rfl
          subst this
          have h2 := hR.drop l
          show RdL L w (some ((⟨b, off, none⟩ : Addr).add (l * L.k))) (R.drop l)
          have e : (⟨b, off, none⟩ : Addr).add (l * L.k) = ⟨b, off + l * L.k, none⟩ := by
            unfold Addr.add
            split
            · rename_i h0; rw [h0]; rfl
            · rfl
          rw [e]
          exact h2
    unfold Oper.wp execOp
    simp only [ho, hs, hlo, Option.map_some, Option.map_none, Sem.run_bind, Sem.run_pure, Result.andThen_ok, hrun]
    exact hK _ _ (h _ hrd)
theorem wpList_to {ops : Array Oper} {rest : List Oper} {o : Oper} {a : Act} {Q : Exit → Act → World → Prop} (ht : P.underlying t = some (.slice e)) (hel : P.elem t = e) {z : Value} {bytes : Nat} (hinfo : (P.info? e).map (fun i => (i.zero, i.size, i.bytes)) = some (some z, L.k, bytes)) (hgd : o.guard = none) (s hi : Operand) (ho : o.op = .slice t s none (some hi) none)
    (A : Option Addr) (n cap : Nat) (hs : a.eval s = .slice A n cap) (l : Nat) (hhi : a.eval hi = .int .i64 (l : Int)) (hl : l ≤ cap) (hA : ∀ b off sp, A = some ⟨b, off, sp⟩ → sp = none)
    (h : wpList P ops Q rest (a.put o.dst (.slice A l cap)) w) : wpList P ops Q (o :: rest) a w :=
  wpList_plain hgd fun K hK => by
    obtain ⟨i0, hi0, hz0, hz1, hz2⟩ := info_parts hinfo
    have hrun : (Instr.sliceAt t (.slice A n cap) none (some (.int .i64 (l : Int))) none).run P w = .ok (.slice A l cap) w := by
      have hsz : (sizeOf e).run P w = .ok L.k w := by simp [sizeOf, typeInfo, hi0, hz1]
      have hb : (Instr.sliceBounds true n cap none (some (.int .i64 (l : Int))) none).run P w = .ok (0, l, cap) w := by
        simp [Instr.sliceBounds, Instr.sliceBound, asIntOf, hl]
      rw [run_sliceAt_slice w t _ _ _ _ (by rw [hel]; exact ht), run_slice_any w t A n cap (by rw [hel]; exact ht), hb]
      simp only [Result.andThen, hel, hsz, sliced, Nat.zero_mul, Nat.sub_zero]
      by_cases c : cap = 0
      · rw [if_pos c]
      · rw [if_neg c]
        rcases A with _ | ⟨b, off, sp⟩
        · rfl
        · rfl
    unfold Oper.wp execOp
    simp only [ho, hs, hhi, Option.map_some, Option.map_none, Sem.run_bind, Sem.run_pure, Result.andThen_ok, hrun]
    exact hK _ _ h
theorem step_to {ops : Array Oper} {o : Oper} {a : Act} {K : Act → World → Prop} {Q : Exit → Act → World → Prop} {E : Prop} (ht : P.underlying t = some (.slice e)) (hel : P.elem t = e) {z : Value} {bytes : Nat} (hinfo : (P.info? e).map (fun i => (i.zero, i.size, i.bytes)) = some (some z, L.k, bytes)) (hgd : o.guard = none) (s hi : Operand) (ho : o.op = .slice t s none (some hi) none)
    (A : Option Addr) (n cap : Nat) (hs : a.eval s = .slice A n cap) (l : Nat) (hhi : a.eval hi = .int .i64 (l : Int)) (hl : l ≤ cap) (hA : ∀ b off sp, A = some ⟨b, off, sp⟩ → sp = none)
    (h : K (a.put o.dst (.slice A l cap)) w) : if Region.wanted o (yielded ops a.tmps) = true then Oper.wp P o a w K Q else E := by
    have hw : Region.wanted o (yielded ops a.tmps) = true := by simp [Region.wanted, hgd]
    rw [if_pos hw]
    obtain ⟨i0, hi0, hz0, hz1, hz2⟩ := info_parts hinfo
    have hrun : (Instr.sliceAt t (.slice A n cap) none (some (.int .i64 (l : Int))) none).run P w = .ok (.slice A l cap) w := by
      have hsz : (sizeOf e).run P w = .ok L.k w := by simp [sizeOf, typeInfo, hi0, hz1]
      have hb : (Instr.sliceBounds true n cap none (some (.int .i64 (l : Int))) none).run P w = .ok (0, l, cap) w := by
        simp [Instr.sliceBounds, Instr.sliceBound, asIntOf, hl]
      rw [run_sliceAt_slice w t _ _ _ _ (by rw [hel]; exact ht), run_slice_any w t A n cap (by rw [hel]; exact ht), hb]
      simp only [Result.andThen, hel, hsz, sliced, Nat.zero_mul, Nat.sub_zero]
      by_cases c : cap = 0
      · rw [if_pos c]
      · rw [if_neg c]
        rcases A with _ | ⟨b, off, sp⟩
        · rfl
        · rfl
    unfold Oper.wp execOp
    simp only [ho, hs, hhi, Option.map_some, Option.map_none, Sem.run_bind, Sem.run_pure, Result.andThen_ok, hrun]
    exact h
end
theorem before_calls (x y : Itm) (w : World) :
    Calls Try.prog 39 #[itmV x, itmV y] w fun e w' => e = .returned (.bool (decide (Wh.before x y))) ∧ Below w.heap.size w w' := by
  obtain ⟨a, b⟩ := x
  obtain ⟨c, d⟩ := y
  have HB := Lib.hid (bel_new (bel_new (Below.refl w.heap.size w) (.cells #[.int .i64 a, .int .i64 b] 31)) (.cells #[.int .i64 c, .int .i64 d] 31))
  obtain ⟨r, hr⟩ : ∃ r, r = decide (Wh.before ⟨a, b⟩ ⟨c, d⟩) := ⟨_, rfl⟩
  rw [← hr]
  have HR := Lib.hid hr
  clear hr
  by_cases c1 : b < d
  · have hrt : r = true := by rw [HR.out]; exact decide_eq_true (.inl c1)
    subst hrt
    go_enter Try.func39, Try.ntmps39
    go_wp2_with fail
    go_ret
    exact ⟨rfl, HB.out⟩
  · by_cases c2 : b = d
    · subst c2
      have hrd : r = decide (a < c) := by
        rw [HR.out]
        unfold Wh.before
        simp
      subst hrd
      clear HR
      go_enter Try.func39, Try.ntmps39
      go_wp2_with fail
      go_ret
      exact ⟨by simp, HB.out⟩
    · have hrf : r = false := by rw [HR.out]; exact decide_eq_false (by unfold Wh.before; simp only; omega)
      subst hrf
      have hb : (b == d) = false := by simpa using c2
      clear HR c2
      go_enter Try.func39, Try.ntmps39
      go_wp2_with fail
      go_ret
      exact ⟨rfl, HB.out⟩
end Go.Proofs.Ytheocdfccdpmbaa
