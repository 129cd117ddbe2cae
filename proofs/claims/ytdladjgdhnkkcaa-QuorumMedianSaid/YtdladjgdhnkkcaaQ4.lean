/-
  slices.DeleteFunc at the closure of quorum.Next, on a row of the call's own; slices.Clone of numbers.
  Conditions: the row is the call's own, the closure's variable lies elsewhere.
-/
import Derived.Test.YtdladjgdhnkkcaaQ3
import Derived.Lib.SliceRun
namespace Go.Proofs.Ytdladjgdhnkkcaa
open Go.RowKit
set_option linter.unusedVariables false
set_option linter.unusedSimpArgs false

theorem infoI : (Try.prog.info? 3).map (fun i => (i.zero, i.size, i.bytes)) = some (some (.int .i64 0), 1, 8) := by kernel_rfl

theorem OwnL.zeros {k : IntKind} {e : TypeId} {base g n cap : Nat} {w0 : World} : ∀ (m o : Nat) (w : World) (l : List Int), OwnL (layI k) e w base (.slice (some ⟨g, 0, none⟩) n cap) l → w0.grownBy w (some g) →
    ∃ l', OwnL (layI k) e (w.setCells g o (List.replicate m (.int k 0))) base (.slice (some ⟨g, 0, none⟩) n cap) l' ∧ l'.length = l.length ∧ l'.take o = l.take o ∧ w0.grownBy (w.setCells g o (List.replicate m (.int k 0))) (some g)
  | 0, o, w, l, h, hg => ⟨l, h, rfl, rfl, hg⟩
  | m + 1, o, w, l, h, hg => by
    obtain ⟨l', h1, h2, h3, h4⟩ := OwnL.zeros m (o + 1) _ _ (h.put o 0) (grown_set hg o (.int k 0))
    refine ⟨l', h1, by rw [h2, List.length_set], ?_, h4⟩
    have := congrArg (List.take o) h3
    rw [List.take_take, List.take_take, Nat.min_eq_left (by omega)] at this
    rw [this, List.take_set_of_le (by omega)]
theorem OwnL.cut {k : IntKind} {e : TypeId} {w : World} {base g n cap : Nat} {l : List Int} (h : OwnL (layI k) e w base (.slice (some ⟨g, 0, none⟩) n cap) l) (i : Nat) (hi : i ≤ l.length) :
    OwnL (layI k) e w base (.slice (some ⟨g, 0, none⟩) i cap) (l.take i) := by
  rcases h.2 with ⟨e, _⟩ | ⟨g', cap', cur, e, h1, h2, h3, h4, h5, h6⟩
  · cases e
  · injection e with e1 e2 e3
    injection e1 with e1
    injection e1 with e1 _ _
    subst e1; subst e2; subst e3
    have hl : (l.take i).length = i := by rw [List.length_take]; omega
    refine ⟨by rw [Lay.flat_len], .inr ⟨g, cap, cur, by rw [hl], h1, h2, by omega, h4, h5, ?_⟩⟩
    have := congrArg (List.take (i * 1)) h6
    rw [List.take_take, Nat.min_eq_left (by show i * 1 ≤ l.length * 1; omega)] at this
    rw [hl]
    show cur.toList.take (i * 1) = _
    rw [this, flatI, flatI, List.map_take]
    simp

theorem wpList_clear {P : Program} {ops : Array Oper} {rest : List Oper} {o : Oper} {a : Act} {Q : Exit → Act → World → Prop} {w : World} (t e : TypeId) (z : Value) (ht : P.underlying t = some (.slice e)) (hv : ∀ w, (zeroValue e).run P w = .ok z w)
    (hz : z.cells = #[z]) (h1 : z.oneCell' = true) (hgd : o.guard = none) (s : Operand) (ho : o.op = .call { callee := .builtin .clear, args := #[s], argTypes := #[t] })
    (b off n c : Nat) (hn : 0 < n) (hs : a.eval s = .slice (some ⟨b, off, none⟩) n c) (hc : ∀ j, j < n → (w.cell? ⟨b, off + j, none⟩).isSome = true) (hf : ∀ j, j < n → w.frozen? ⟨b, off + j, none⟩ = false)
    (h : wpList P ops Q rest (a.put o.dst (.tuple #[])) (w.setCells b off (List.replicate n z))) : wpList P ops Q (o :: rest) a w :=
  wpList_plain hgd fun K hK => by
    have hrun := Lib.run_clear_slice (P := P) w t e o.type z ht hv hz h1 b off n c hn hc hf
    unfold Oper.wp execOp
    simp only [ho, resolve, invoke, builtin, Sem.run_bind, Sem.run_pure, Result.andThen_ok, List.map_toArray, List.map_cons, List.map_nil, hs, hrun]
    exact hK _ _ h

theorem clos_calls (n r : Int) (bx : Nat) (w : World) (h : w.cell? ⟨bx, 0, none⟩ = some (.int .i64 r)) :
    Calls Try.prog 76 #[.int .i64 n, .pointer (some ⟨bx, 0, none⟩)] w fun e w' => e = .returned (.bool (n == r)) ∧ w = w' := by
  go_enter Try.func76, Try.ntmps76
  go_wp2_with fail
  go_ret
  exact ⟨rfl, rfl⟩

theorem cloneI_calls (A : Option Addr) (cap : Nat) (l : List Int) (w : World) (hR : Hid (RdI w A l)) (h0 : 0 < l.length) (hlen : l.length ≤ 12) :
    Calls Try.prog 74 #[.slice A l.length cap] w fun e w' => (∃ g c, e = .returned (.slice (some ⟨g, 0, none⟩) l.length c) ∧ w.heap.size ≤ g ∧ g < w'.heap.size ∧ l.length ≤ c ∧ c ≤ maxLen ∧ OwnL (layI .i64) 3 w' w.heap.size (.slice (some ⟨g, 0, none⟩) l.length c) l) ∧ Below w.heap.size w w' := by
  have q22 : ∀ (w : World) (a : Option Addr) (n c n' c' : Nat), (binOp .eql 45 (.slice a n c) (.slice none n' c')).run Try.prog w = .ok (.bool a.isNone) w := fun w a n c n' c' => Lib.run_eql_slice_nil w _ _ a n c n' c' Try.underlying45
  obtain ⟨b, off, rfl, _⟩ := hR.out.ex h0
  have hbn := Lib.hid (bel_new (Below.refl w.heap.size w) (.cells #[] 3))
  have HLIT := Lib.hid (OwnL.lit (L := layI .i64) (e := 3) w w.heap.size (Nat.le_refl _) [] (by simp) #[] rfl)
  go_enter Try.func74, Try.ntmps74
  go_wp2_with (first
    | (at_builtin
       refine wpList_appL 45 _ 8 Try.underlying45 infoI rfl rfl (.tmp 5) (.tmp 6) rfl w.heap.size _ [] rfl HLIT.out (some ⟨b, off, none⟩) l.length cap l rfl rfl (hR.out.bel hbn.out) (by simp [maxLen]; omega) (by simp; omega) (by simp) ?_
       intro v1 w1 ho1 hg1
       have hb1 := Lib.hid (OwnL.grown HLIT.out hbn.out (by simp) hg1)
       rw [List.nil_append] at ho1
       clear hg1))
  go_ret
  obtain ⟨g, c, rfl, h1, h2, h3, h4⟩ := ho1.block h0
  exact ⟨⟨g, c, rfl, h1, h2, h3, h4, ho1⟩, hb1.out⟩

set_option maxHeartbeats 1000000 in
theorem idxf_calls (A : Option Addr) (cap : Nat) (l : List Int) (bx : Nat) (r : Int) (w : World) (hR : Hid (RdI w A l)) (hlen : l.length ≤ 9223372036854775807) (hb : Hid (w.cell? ⟨bx, 0, none⟩ = some (.int .i64 r))) :
    Calls Try.prog 96 #[.slice A l.length cap, .func (.func 76) #[] #[.pointer (some ⟨bx, 0, none⟩)]] w fun e w' =>
      (∃ i : Int, e = .returned (.int .i64 i) ∧ Hid ((i = -1 ∧ r ∉ l) ∨ ∃ k : Nat, i = k ∧ k < l.length ∧ r ∉ l.take k ∧ l.getD k default = r)) ∧ w = w' := by
  go_enter Try.func96, Try.ntmps96
  go_wp2_with fail
  go_loopg [5, 8] l.length (fun g v5 v8 W => W = w ∧ ∃ k : Nat, v8 = .int .i64 k ∧ Hid (k + g = l.length ∧ r ∉ l.take k))
  case atStart => exact ⟨rfl, 0, rfl, Lib.hid ⟨by omega, by simp⟩⟩
  case round =>
    obtain ⟨rfl, k, rfl, HI⟩ := hrel
    by_cases hlt : k < l.length
    · have hl : (k : Int) < (l.length : Int) := by omega
      have hg : 0 < gk := by have := HI.out.1; omega
      obtain ⟨b, off, rfl, _, hc⟩ := hR.out.int k hlt
      have hst : l.take (k + 1) = l.take k ++ [l.getD k default] := by rw [List.take_succ_eq_append_getElem hlt]; simp [List.getD, hlt]
      obtain ⟨x, hx⟩ : ∃ x, x = l.getD k default := ⟨_, rfl⟩
      rw [← hx] at hc hst
      have HST := Lib.hid hst
      have HX := Lib.hid hx
      clear hst hx
      go_wp2_with fail
      refine (clos_calls x r bx wr hb.out).mono ?_
      rintro e w' ⟨rfl, rfl⟩
      by_cases hxr : x = r
      · rw [show (x == r) = true from by simpa using hxr]
        have HXR := Lib.hid hxr
        clear hxr
        go_wp2_with fail
        go_ret
        exact ⟨⟨_, rfl, Lib.hid (.inr ⟨k, rfl, hlt, HI.out.2, HX.out.symm.trans HXR.out⟩)⟩, rfl⟩
      · rw [show (x == r) = false from by simpa using hxr]
        have HXR := Lib.hid hxr
        clear hxr
        go_wp2_with fail
        go_roundg (gk - 1)
        case rel => exact ⟨rfl, k + 1, by go_num, Lib.hid ⟨by have := HI.out.1; omega, by rw [HST.out]; exact fun h => (List.mem_append.1 h).elim HI.out.2 (fun h => HXR.out (List.mem_singleton.1 h).symm)⟩⟩
        case measure => omega
    · have hl : ¬ (k : Int) < (l.length : Int) := by omega
      have hn : r ∉ l := by
        have := HI.out.2
        rwa [show k = l.length from by have := HI.out.1; omega, List.take_length] at this
      have HN := Lib.hid hn
      clear hlt hn
      go_wp2_with fail
      go_ret
      exact ⟨⟨_, rfl, Lib.hid (.inl ⟨rfl, HN.out⟩)⟩, rfl⟩
end Go.Proofs.Ytdladjgdhnkkcaa
