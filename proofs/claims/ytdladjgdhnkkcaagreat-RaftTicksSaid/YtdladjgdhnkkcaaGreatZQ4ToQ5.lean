
/-
  2 texts in one.
  Conditions: stated lemma by lemma.
-/
import Derived.Test.YtdladjgdhnkkcaaGreatZQ2ToQ3
import Derived.Lib.SliceRun
/-
  slices.DeleteFunc at the closure of quorum.Next, on a row of the call's own; slices.Clone of numbers.
  Conditions: the row is the call's own, the closure's variable lies elsewhere.
-/
namespace Go.Proofs.YtdladjgdhnkkcaaGreat
open Go.RowKit
set_option linter.unusedVariables false
set_option linter.unusedSimpArgs false

theorem infoI : (Tryz.prog.info? 3).map (fun i => (i.zero, i.size, i.bytes)) = some (some (.int .i64 0), 1, 8) := by kernel_rfl

theorem OwnL.zeros {k : IntKind} {e : TypeId} {base g n cap : Nat} {w0 : World} : ∀ (m o : Nat) (w : World) (l : List Int), OwnL (layI k) e w base (.slice (some ⟨g, 0, none⟩) n cap) l → w0.grownBy w (some g) →
    ∃ l', OwnL (layI k) e (w.setCells g o (List.replicate m (.int k 0))) base (.slice (some ⟨g, 0, none⟩) n cap) l' ∧ l'.length = l.length ∧ l'.take o = l.take o ∧ w0.grownBy (w.setCells g o (List.replicate m (.int k 0))) (some g)
  | 0, o, w, l, h, hg => ⟨l, h, rfl, rfl, hg⟩
  | m + 1, o, w, l, h, hg => by
    obtain ⟨l', h1, h2, h3, h4⟩ := OwnL.zeros m (o + 1) _ _ (h.put o 0) (grown_set hg o (.int k 0))
    refine ⟨l', h1, by rw [h2, List.length_set], ?_, h4⟩
    have := congrArg (List.take o) h3
    rw [List.take_take, List.take_take, Nat.min_eq_left (by omega)] at this
    rw [this, List.take_set_of_le (by omega)]
theorem OwnL.cut {k : IntKind} {e : TypeId} {w : World} {base g n cap : Nat} {l : List Int} (h : OwnL (layI k) e w base (.slice (some ⟨g, 0, none⟩) n cap) l) (i : Nat) (hi : i ≤ l.length) :
    OwnL (layI k) e w base (.slice (some ⟨g, 0, none⟩) i cap) (l.take i) := by
  rcases h.2 with ⟨e, _⟩ | ⟨g', cap', cur, e, h1, h2, h3, h4, h5, h6⟩
  · cases e
  · injection e with e1 e2 e3
    injection e1 with e1
    injection e1 with e1 _ _
    subst e1; subst e2; subst e3
    have hl : (l.take i).length = i := by rw [List.length_take]; omega
    refine ⟨by rw [Lay.flat_len], .inr ⟨g, cap, cur, by rw [hl], h1, h2, by omega, h4, h5, ?_⟩⟩
    have := congrArg (List.take (i * 1)) h6
    rw [List.take_take, Nat.min_eq_left (by show i * 1 ≤ l.length * 1; omega)] at this
    rw [hl]
    show cur.toList.take (i * 1) = _
    rw [this, flatI, flatI, List.map_take]
    simp

theorem wpList_clear {P : Program} {ops : Array Oper} {rest : List Oper} {o : Oper} {a : Act} {Q : Exit → Act → World → Prop} {w : World} (t e : TypeId) (z : Value) (ht : P.underlying t = some (.slice e)) (hv : ∀ w, (zeroValue e).run P w = .ok z w)
    (hz : z.cells = #[z]) (h1 : z.oneCell' = true) (hgd : o.guard = none) (s : Operand) (ho : o.op = .call { callee := .builtin .clear, args := #[s], argTypes := #[t] })
    (b off n c : Nat) (hn : 0 < n) (hs : a.eval s = .slice (some ⟨b, off, none⟩) n c) (hc : ∀ j, j < n → (w.cell? ⟨b, off + j, none⟩).isSome = true) (hf : ∀ j, j < n → w.frozen? ⟨b, off + j, none⟩ = false)
    (h : wpList P ops Q rest (a.put o.dst (.tuple #[])) (w.setCells b off (List.replicate n z))) : wpList P ops Q (o :: rest) a w :=
  wpList_plain hgd fun K hK => by
    have hrun := Lib.run_clear_slice (P := P) w t e o.type z ht hv hz h1 b off n c hn hc hf
    unfold Oper.wp execOp
    simp only [ho, resolve, invoke, builtin, Sem.run_bind, Sem.run_pure, Result.andThen_ok, List.map_toArray, List.map_cons, List.map_nil, hs, hrun]
    exact hK _ _ h

theorem cloneI_calls (A : Option Addr) (cap : Nat) (l : List Int) (w : World) (hR : Hid (RdI w A l)) (h0 : 0 < l.length) (hlen : l.length ≤ 12) :
    Calls Tryz.prog 55 #[.slice A l.length cap] w fun e w' => (∃ g c, e = .returned (.slice (some ⟨g, 0, none⟩) l.length c) ∧ w.heap.size ≤ g ∧ g < w'.heap.size ∧ l.length ≤ c ∧ c ≤ maxLen ∧ OwnL (layI .i64) 3 w' w.heap.size (.slice (some ⟨g, 0, none⟩) l.length c) l) ∧ Below w.heap.size w w' := by
  have q22 : ∀ (w : World) (a : Option Addr) (n c n' c' : Nat), (binOp .eql 22 (.slice a n c) (.slice none n' c')).run Tryz.prog w = .ok (.bool a.isNone) w := fun w a n c n' c' => Lib.run_eql_slice_nil w _ _ a n c n' c' Tryz.underlying22
  obtain ⟨b, off, rfl, _⟩ := hR.out.ex h0
  have hbn := Lib.hid (bel_new (Below.refl w.heap.size w) (.cells #[] 3))
  have HLIT := Lib.hid (OwnL.lit (L := layI .i64) (e := 3) w w.heap.size (Nat.le_refl _) [] (by simp) #[] rfl)
  go_enter Tryz.func55, Tryz.ntmps55
  go_wp2_with (first
    | (at_builtin
       refine wpList_appL 22 _ 8 Tryz.underlying22 infoI rfl rfl (.tmp 5) (.tmp 6) rfl w.heap.size _ [] rfl HLIT.out (some ⟨b, off, none⟩) l.length cap l rfl rfl (hR.out.bel hbn.out) (by simp [maxLen]; omega) (by simp; omega) (by simp) ?_
       intro v1 w1 ho1 hg1
       have hb1 := Lib.hid (OwnL.grown HLIT.out hbn.out (by simp) hg1)
       rw [List.nil_append] at ho1
       clear hg1))
  go_ret
  obtain ⟨g, c, rfl, h1, h2, h3, h4⟩ := ho1.block h0
  exact ⟨⟨g, c, rfl, h1, h2, h3, h4, ho1⟩, hb1.out⟩

end Go.Proofs.YtdladjgdhnkkcaaGreat

/-
  slices.DeleteFunc at the closure of quorum.Next, on a row of the call's own.
  Conditions: the row is the call's own, the closure's variable lies elsewhere.
-/
namespace Go.Proofs.YtdladjgdhnkkcaaGreat
open Go.RowKit
set_option linter.unusedVariables false
set_option linter.unusedSimpArgs false

namespace Qm
/-- all but r -/
def rest (r : Int) (l : List Int) : List Int := l.filter fun x => !(x == r)
theorem rest_none {r : Int} {l : List Int} (h : r ∉ l) : rest r l = l := by
  unfold rest
  rw [List.filter_eq_self]
  intro x hx
  have : x ≠ r := fun e => h (e ▸ hx)
  simpa using this
theorem rest_step (r : Int) (l : List Int) (k : Nat) (h : k < l.length) : rest r (l.take (k + 1)) = rest r (l.take k) ++ (if l.getD k default = r then [] else [l.getD k default]) := by
  unfold rest
  rw [List.take_succ_eq_append_getElem h, List.filter_append]
  simp only [List.getD, List.getElem?_eq_getElem h, Option.getD_some]
  by_cases hm : l[k] = r <;> simp [hm]
theorem rest_len (r : Int) (l : List Int) : (rest r l).length ≤ l.length := List.length_filter_le _ _
end Qm

end Go.Proofs.YtdladjgdhnkkcaaGreat
