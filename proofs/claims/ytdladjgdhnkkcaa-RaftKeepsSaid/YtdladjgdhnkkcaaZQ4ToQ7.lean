
/-
  5 texts in one.
  Conditions: stated lemma by lemma.
-/
import Derived.Test.YtdladjgdhnkkcaaZQ3
import Derived.Lib.SliceRun
/-
  slices.DeleteFunc at the closure of quorum.Next, on a row of the call's own; slices.Clone of numbers.
  Conditions: the row is the call's own, the closure's variable lies elsewhere.
-/
namespace Go.Proofs.Ytdladjgdhnkkcaa
open Go.RowKit
set_option linter.unusedVariables false
set_option linter.unusedSimpArgs false

theorem infoI : (Try.prog.info? 3).map (fun i => (i.zero, i.size, i.bytes)) = some (some (.int .i64 0), 1, 8) := by kernel_rfl

theorem OwnL.zeros {k : IntKind} {e : TypeId} {base g n cap : Nat} {w0 : World} : ∀ (m o : Nat) (w : World) (l : List Int), OwnL (layI k) e w base (.slice (some ⟨g, 0, none⟩) n cap) l → w0.grownBy w (some g) →
    ∃ l', OwnL (layI k) e (w.setCells g o (List.replicate m (.int k 0))) base (.slice (some ⟨g, 0, none⟩) n cap) l' ∧ l'.length = l.length ∧ l'.take o = l.take o ∧ w0.grownBy (w.setCells g o (List.replicate m (.int k 0))) (some g)
  | 0, o, w, l, h, hg => ⟨l, h, rfl, rfl, hg⟩
  | m + 1, o, w, l, h, hg => by
    obtain ⟨l', h1, h2, h3, h4⟩ := OwnL.zeros m (o + 1) _ _ (h.put o 0) (grown_set hg o (.int k 0))
    refine ⟨l', h1, by rw [h2, List.length_set], ?_, h4⟩
    have := congrArg (List.take o) h3
    rw [List.take_take, List.take_take, Nat.min_eq_left (by omega)] at this
    rw [this, List.take_set_of_le (by omega)]
theorem OwnL.cut {k : IntKind} {e : TypeId} {w : World} {base g n cap : Nat} {l : List Int} (h : OwnL (layI k) e w base (.slice (some ⟨g, 0, none⟩) n cap) l) (i : Nat) (hi : i ≤ l.length) :
    OwnL (layI k) e w base (.slice (some ⟨g, 0, none⟩) i cap) (l.take i) := by
  rcases h.2 with ⟨e, _⟩ | ⟨g', cap', cur, e, h1, h2, h3, h4, h5, h6⟩
  · cases e
  · injection e with e1 e2 e3
    injection e1 with e1
    injection e1 with e1 _ _
    subst e1; subst e2; subst e3
    have hl : (l.take i).length = i := by rw [List.length_take]; omega
    refine ⟨by rw [Lay.flat_len], .inr ⟨g, cap, cur, by rw [hl], h1, h2, by omega, h4, h5, ?_⟩⟩
    have := congrArg (List.take (i * 1)) h6
    rw [List.take_take, Nat.min_eq_left (by show i * 1 ≤ l.length * 1; omega)] at this
    rw [hl]
    show cur.toList.take (i * 1) = _
    rw [this, flatI, flatI, List.map_take]
    simp

theorem wpList_clear {P : Program} {ops : Array Oper} {rest : List Oper} {o : Oper} {a : Act} {Q : Exit → Act → World → Prop} {w : World} (t e : TypeId) (z : Value) (ht : P.underlying t = some (.slice e)) (hv : ∀ w, (zeroValue e).run P w = .ok z w)
    (hz : z.cells = #[z]) (h1 : z.oneCell' = true) (hgd : o.guard = none) (s : Operand) (ho : o.op = .call { callee := .builtin .clear, args := #[s], argTypes := #[t] })
    (b off n c : Nat) (hn : 0 < n) (hs : a.eval s = .slice (some ⟨b, off, none⟩) n c) (hc : ∀ j, j < n → (w.cell? ⟨b, off + j, none⟩).isSome = true) (hf : ∀ j, j < n → w.frozen? ⟨b, off + j, none⟩ = false)
    (h : wpList P ops Q rest (a.put o.dst (.tuple #[])) (w.setCells b off (List.replicate n z))) : wpList P ops Q (o :: rest) a w :=
  wpList_plain hgd fun K hK => by
    have hrun := Lib.run_clear_slice (P := P) w t e o.type z ht hv hz h1 b off n c hn hc hf
    unfold Oper.wp execOp
    simp only [ho, resolve, invoke, builtin, Sem.run_bind, Sem.run_pure, Result.andThen_ok, List.map_toArray, List.map_cons, List.map_nil, hs, hrun]
    exact hK _ _ h

theorem clos_calls (n r : Int) (bx : Nat) (w : World) (h : w.cell? ⟨bx, 0, none⟩ = some (.int .i64 r)) :
    Calls Try.prog 76 #[.int .i64 n, .pointer (some ⟨bx, 0, none⟩)] w fun e w' => e = .returned (.bool (n == r)) ∧ w = w' := by
  go_enter Try.func76, Try.ntmps76
  go_wp2_with fail
  go_ret
  exact ⟨rfl, rfl⟩

theorem cloneI_calls (A : Option Addr) (cap : Nat) (l : List Int) (w : World) (hR : Hid (RdI w A l)) (h0 : 0 < l.length) (hlen : l.length ≤ 12) :
    Calls Try.prog 74 #[.slice A l.length cap] w fun e w' => (∃ g c, e = .returned (.slice (some ⟨g, 0, none⟩) l.length c) ∧ w.heap.size ≤ g ∧ g < w'.heap.size ∧ l.length ≤ c ∧ c ≤ maxLen ∧ OwnL (layI .i64) 3 w' w.heap.size (.slice (some ⟨g, 0, none⟩) l.length c) l) ∧ Below w.heap.size w w' := by
  have q22 : ∀ (w : World) (a : Option Addr) (n c n' c' : Nat), (binOp .eql 45 (.slice a n c) (.slice none n' c')).run Try.prog w = .ok (.bool a.isNone) w := fun w a n c n' c' => Lib.run_eql_slice_nil w _ _ a n c n' c' Try.underlying45
  obtain ⟨b, off, rfl, _⟩ := hR.out.ex h0
  have hbn := Lib.hid (bel_new (Below.refl w.heap.size w) (.cells #[] 3))
  have HLIT := Lib.hid (OwnL.lit (L := layI .i64) (e := 3) w w.heap.size (Nat.le_refl _) [] (by simp) #[] rfl)
  go_enter Try.func74, Try.ntmps74
  go_wp2_with (first
    | (at_builtin
       refine wpList_appL 45 _ 8 Try.underlying45 infoI rfl rfl (.tmp 5) (.tmp 6) rfl w.heap.size _ [] rfl HLIT.out (some ⟨b, off, none⟩) l.length cap l rfl rfl (hR.out.bel hbn.out) (by simp [maxLen]; omega) (by simp; omega) (by simp) ?_
       intro v1 w1 ho1 hg1
       have hb1 := Lib.hid (OwnL.grown HLIT.out hbn.out (by simp) hg1)
       rw [List.nil_append] at ho1
       clear hg1))
  go_ret
  obtain ⟨g, c, rfl, h1, h2, h3, h4⟩ := ho1.block h0
  exact ⟨⟨g, c, rfl, h1, h2, h3, h4, ho1⟩, hb1.out⟩

set_option maxHeartbeats 1000000 in
theorem idxf_calls (A : Option Addr) (cap : Nat) (l : List Int) (bx : Nat) (r : Int) (w : World) (hR : Hid (RdI w A l)) (hlen : l.length ≤ 9223372036854775807) (hb : Hid (w.cell? ⟨bx, 0, none⟩ = some (.int .i64 r))) :
    Calls Try.prog 96 #[.slice A l.length cap, .func (.func 76) #[] #[.pointer (some ⟨bx, 0, none⟩)]] w fun e w' =>
      (∃ i : Int, e = .returned (.int .i64 i) ∧ Hid ((i = -1 ∧ r ∉ l) ∨ ∃ k : Nat, i = k ∧ k < l.length ∧ r ∉ l.take k ∧ l.getD k default = r)) ∧ w = w' := by
  go_enter Try.func96, Try.ntmps96
  go_wp2_with fail
  go_loopg [5, 8] l.length (fun g v5 v8 W => W = w ∧ ∃ k : Nat, v8 = .int .i64 k ∧ Hid (k + g = l.length ∧ r ∉ l.take k))
  case atStart => exact ⟨rfl, 0, rfl, Lib.hid ⟨by omega, by simp⟩⟩
  case round =>
    obtain ⟨rfl, k, rfl, HI⟩ := hrel
    by_cases hlt : k < l.length
    · have hl : (k : Int) < (l.length : Int) := by omega
      have hg : 0 < gk := by have := HI.out.1; omega
      obtain ⟨b, off, rfl, _, hc⟩ := hR.out.int k hlt
      have hst : l.take (k + 1) = l.take k ++ [l.getD k default] := by rw [List.take_succ_eq_append_getElem hlt]; simp [List.getD, hlt]
      obtain ⟨x, hx⟩ : ∃ x, x = l.getD k default := ⟨_, rfl⟩
      rw [← hx] at hc hst
      have HST := Lib.hid hst
      have HX := Lib.hid hx
      clear hst hx
      go_wp2_with fail
      refine (clos_calls x r bx wr hb.out).mono ?_
      rintro e w' ⟨rfl, rfl⟩
      by_cases hxr : x = r
      · rw [show (x == r) = true from by simpa using hxr]
        have HXR := Lib.hid hxr
        clear hxr
        go_wp2_with fail
        go_ret
        exact ⟨⟨_, rfl, Lib.hid (.inr ⟨k, rfl, hlt, HI.out.2, HX.out.symm.trans HXR.out⟩)⟩, rfl⟩
      · rw [show (x == r) = false from by simpa using hxr]
        have HXR := Lib.hid hxr
        clear hxr
        go_wp2_with fail
        go_roundg (gk - 1)
        case rel => exact ⟨rfl, k + 1, by go_num, Lib.hid ⟨by have := HI.out.1; omega, by rw [HST.out]; exact fun h => (List.mem_append.1 h).elim HI.out.2 (fun h => HXR.out (List.mem_singleton.1 h).symm)⟩⟩
        case measure => omega
    · have hl : ¬ (k : Int) < (l.length : Int) := by omega
      have hn : r ∉ l := by
        have := HI.out.2
        rwa [show k = l.length from by have := HI.out.1; omega, List.take_length] at this
      have HN := Lib.hid hn
      clear hlt hn
      go_wp2_with fail
      go_ret
      exact ⟨⟨_, rfl, Lib.hid (.inl ⟨rfl, HN.out⟩)⟩, rfl⟩
end Go.Proofs.Ytdladjgdhnkkcaa

/-
  slices.DeleteFunc at the closure of quorum.Next, on a row of the call's own.
  Conditions: the row is the call's own, the closure's variable lies elsewhere.
-/
namespace Go.Proofs.Ytdladjgdhnkkcaa
open Go.RowKit
set_option linter.unusedVariables false
set_option linter.unusedSimpArgs false

namespace Qm
/-- all but r -/
def rest (r : Int) (l : List Int) : List Int := l.filter fun x => !(x == r)
theorem rest_none {r : Int} {l : List Int} (h : r ∉ l) : rest r l = l := by
  unfold rest
  rw [List.filter_eq_self]
  intro x hx
  have : x ≠ r := fun e => h (e ▸ hx)
  simpa using this
theorem rest_step (r : Int) (l : List Int) (k : Nat) (h : k < l.length) : rest r (l.take (k + 1)) = rest r (l.take k) ++ (if l.getD k default = r then [] else [l.getD k default]) := by
  unfold rest
  rw [List.take_succ_eq_append_getElem h, List.filter_append]
  simp only [List.getD, List.getElem?_eq_getElem h, Option.getD_some]
  by_cases hm : l[k] = r <;> simp [hm]
theorem rest_len (r : Int) (l : List Int) : (rest r l).length ≤ l.length := List.length_filter_le _ _
end Qm

set_option maxRecDepth 20000 in
set_option maxHeartbeats 4000000 in
theorem delf_calls (base g cap : Nat) (l : List Int) (bx : Nat) (r : Int) (w : World) (hO : Hid (OwnL (layI .i64) 3 w base (.slice (some ⟨g, 0, none⟩) l.length cap) l)) (hcl : l.length ≤ cap) (hcap : cap ≤ 9223372036854775807) (hb : Hid (w.cell? ⟨bx, 0, none⟩ = some (.int .i64 r))) (hbx : bx < w.heap.size) (hne : bx ≠ g) :
    Calls Try.prog 75 #[.slice (some ⟨g, 0, none⟩) l.length cap, .func (.func 76) #[] #[.pointer (some ⟨bx, 0, none⟩)]] w fun e w' =>
      e = .returned (.slice (some ⟨g, 0, none⟩) (Qm.rest r l).length cap) ∧ OwnL (layI .i64) 3 w' base (.slice (some ⟨g, 0, none⟩) (Qm.rest r l).length cap) (Qm.rest r l) ∧ w.grownBy w' (some g) := by
  have hR : RdI w (some ⟨g, 0, none⟩) l := by
    obtain ⟨A', c', e, _, _, h, _⟩ := hO.out.form
    injection e with e
    subst e
    exact h
  have hx := idxf_calls (some ⟨g, 0, none⟩) cap l bx r w (Lib.hid hR) (by omega) hb
  have HX := Lib.hid hx
  clear hx hR
  obtain ⟨m, hm⟩ : ∃ m, m = Qm.rest r l := ⟨_, rfl⟩
  rw [← hm]
  have HM := Lib.hid hm
  clear hm
  go_enter Try.func75, Try.ntmps75
  go_wp2_with fail
  refine HX.out.mono ?_
  rintro e w' ⟨⟨i, rfl, hi⟩, rfl⟩
  rcases hi.out with ⟨rfl, hn⟩ | ⟨k, rfl, hkl, hkn, hkr⟩
  · have hml : m = l := by rw [HM.out, Qm.rest_none hn]
    have HML := Lib.hid hml
    clear hn hi hml
    go_wp2_with fail
    go_ret
    rw [HML.out]
    exact ⟨rfl, hO.out, World.grownBy.refl w _⟩
  · have HKN := Lib.hid hkn
    have HKR := Lib.hid hkr
    have hki : ((k : Int) == -1) = false := by rw [beq_eq_false_iff_ne]; omega
    have hkl2 : (k : Int) < (l.length : Int) := by omega
    have HKL := Lib.hid hkl
    clear hkn hkr hi
    go_wp2_with fail
    go_loopg [5, 6, 7] l.length (fun n v5 v6 v7 W => ∃ i j : Nat, v5 = .int .i64 i ∧ v6 = .int .i64 j ∧ i < j ∧ j + n = l.length + k + 1 ∧ j ≤ l.length ∧
      Hid (∃ L, L.length = l.length ∧ L.take i = Qm.rest r (l.take j) ∧ L.drop j = l.drop j ∧ OwnL (layI .i64) 3 W base (.slice (some ⟨g, 0, none⟩) l.length cap) L ∧ w.grownBy W (some g)))
    case atStart =>
      refine ⟨k, k + 1, rfl, by go_num, by omega, by omega, by have := HKL.out; omega, Lib.hid ⟨l, rfl, ?_, rfl, hO.out, World.grownBy.refl w _⟩⟩
      rw [Qm.rest_step r l k HKL.out, if_pos HKR.out, Qm.rest_none HKN.out, List.append_nil]
    case round =>
      obtain ⟨i, j, rfl, rfl, hij, hjn, hjl, HI⟩ := hrel
      obtain ⟨L, h1, h2, h3, h4, h5⟩ := HI.out
      have HN := Lib.hid hjn
      have HL1 := Lib.hid h1
      have HL2 := Lib.hid h2
      have HL3 := Lib.hid h3
      have HO4 := Lib.hid h4
      have HG5 := Lib.hid h5
      have hbw : wr.cell? ⟨bx, 0, none⟩ = some (.int .i64 r) := (World.cell?_of_block (w := w) (a := ⟨bx, 0, none⟩) (h5.block bx hbx (by intro e; injection e with e; exact hne e))).trans hb.out
      have HBW := Lib.hid hbw
      clear h1 h2 h3 h4 h5 HI hjn hbw
      by_cases hlt : j < l.length
      · have hl : (j : Int) < (l.length : Int) := by omega
        have hii : (i : Int) < (l.length : Int) := by omega
        have hg : 0 < gk := by have := HN.out; have := HKL.out; omega
        have c1 := HO4.out.at_ j (by have := HL1.out; omega)
        have c2 := (HO4.out.at_ i (by have := HL1.out; omega)).2
        obtain ⟨y, hy⟩ : ∃ y, y = L.getD i 0 := ⟨_, rfl⟩
        have c3 := (HO4.out.at_ i (by have := HL1.out; omega)).1
        rw [← hy] at c3
        obtain ⟨x, hx⟩ : ∃ x, x = L.getD j 0 := ⟨_, rfl⟩
        rw [← hx] at c1
        have hxl : x = l.getD j default := by
          have e1 := Qm.drop_at L j (by have := HL1.out; omega)
          have e2 := Qm.drop_at l j hlt
          rw [HL3.out, e2] at e1
          injection e1 with e1 _
          rw [hx]; exact e1.symm
        have HXL := Lib.hid hxl
        obtain ⟨c1, _⟩ := c1
        have hst := Qm.rest_step r l j hlt
        rw [← hxl] at hst
        have HST := Lib.hid hst
        have HD : Hid (L.drop (j + 1) = l.drop (j + 1)) := Lib.hid (by rw [← List.drop_drop, HL3.out, List.drop_drop])
        clear hx hxl hst hy
        go_wp2_with fail
        refine (clos_calls x r bx wr HBW.out).mono ?_
        rintro e w' ⟨rfl, rfl⟩
        by_cases hxr : x = r
        · rw [show (x == r) = true from by simpa using hxr]
          have HXR := Lib.hid hxr
          clear hxr
          go_wp2_with fail
          go_roundg (gk - 1)
          case rel => exact ⟨i, j + 1, rfl, by go_num, by omega, by have := HN.out; omega, by omega, Lib.hid ⟨L, HL1.out, by rw [HST.out, if_pos HXR.out, List.append_nil]; exact HL2.out, HD.out, HO4.out, HG5.out⟩⟩
          case measure => omega
        · rw [show (x == r) = false from by simpa using hxr]
          have HXR := Lib.hid hxr
          have HOP := Lib.hid (HO4.out.put i x)
          have HGP := Lib.hid (grown_set HG5.out i (.int .i64 x))
          have HT : Hid ((L.set i x).take (i + 1) = Qm.rest r (l.take (j + 1))) := Lib.hid (by
            have hi' : i < (L.set i x).length := by rw [List.length_set]; have := HL1.out; omega
            rw [List.take_succ_eq_append_getElem hi', List.take_set_of_le (Nat.le_refl _), HL2.out, HST.out, if_neg hxr]
            simp)
          have HD2 : Hid ((L.set i x).drop (j + 1) = l.drop (j + 1)) := Lib.hid (by rw [List.drop_set_of_lt (by omega)]; exact HD.out)
          clear hxr
          go_wp2_with fail
          go_roundg (gk - 1)
          case rel => exact ⟨i + 1, j + 1, by go_num, by go_num, by omega, by have := HN.out; omega, by omega, Lib.hid ⟨L.set i x, by rw [List.length_set]; exact HL1.out, HT.out, HD2.out, HOP.out, HGP.out⟩⟩
          case measure => omega
      · have hl : ¬ (j : Int) < (l.length : Int) := by omega
        have hje : j = l.length := by omega
        have hmt : L.take i = m := by rw [HL2.out, hje, List.take_length, ← HM.out]
        have hml : m.length = i := by rw [← hmt, List.length_take]; have := HL1.out; omega
        have HMT := Lib.hid hmt
        have HML := Lib.hid hml
        have hic : (i : Int) ≤ (cap : Int) := by omega
        have hil : (i : Int) ≤ (l.length : Int) := by omega
        have hicn : ¬ i = cap := by omega
        have hpos : 0 < l.length - i := by omega
        have hcs : ∀ q, q < l.length - i → (wr.cell? ⟨g, i + q, none⟩).isSome = true ∧ wr.frozen? ⟨g, i + q, none⟩ = false := fun q hq => by
          obtain ⟨a1, a2⟩ := HO4.out.at_ (i + q) (by have := HL1.out; omega)
          exact ⟨by rw [a1]; rfl, a2⟩
        have HCS := Lib.hid hcs
        clear hlt hje hmt hml hcs
        have hclr := Lib.run_clear_slice (P := Try.prog) wr 45 3 0 (.int .i64 0) Try.underlying45 (fun w => by kernel_rfl) rfl rfl g i (l.length - i) (cap - i) hpos (fun q hq => (HCS.out q hq).1) (fun q hq => (HCS.out q hq).2)
        go_wp2_with fail
        go_ret
        obtain ⟨l', z1, z2, z3, z4⟩ := OwnL.zeros (l.length - i) i wr L HO4.out HG5.out
        have hlL := HL1.out
        have z5 := z1.cut i (by rw [z2]; omega)
        rw [z3, HMT.out] at z5
        rw [HML.out]
        exact ⟨rfl, z5, z4⟩
end Go.Proofs.Ytdladjgdhnkkcaa

/-
  Quorum, plain: sorting, the next configuration, what more than half have reached.
  Conditions: stated lemma by lemma.
-/
namespace Go.Proofs.Ytdladjgdhnkkcaa
set_option linter.unusedVariables false
set_option linter.unusedSimpArgs false

namespace Qm
/-- a number put into a rising list -/
def ins (x : Int) : List Int → List Int
  | [] => [x]
  | y :: l => if x ≤ y then x :: y :: l else y :: ins x l
/-- in rising order -/
def srt : List Int → List Int
  | [] => []
  | x :: l => ins x (srt l)
theorem ins_perm (x : Int) : ∀ l, (ins x l).Perm (x :: l)
  | [] => List.Perm.refl _
  | y :: l => by
    unfold ins
    split
    · exact List.Perm.refl _
    · exact ((ins_perm x l).cons y).trans (List.Perm.swap x y l)
theorem srt_perm : ∀ l, (srt l).Perm l
  | [] => List.Perm.refl _
  | x :: l => (ins_perm x (srt l)).trans ((srt_perm l).cons x)
theorem ins_rise (x : Int) : ∀ {l : List Int}, l.Pairwise (· ≤ ·) → (ins x l).Pairwise (· ≤ ·)
  | [], _ => by simp [ins]
  | y :: l, h => by
    unfold ins
    rw [List.pairwise_cons] at h
    split
    · rename_i hxy
      refine List.pairwise_cons.2 ⟨fun z hz => ?_, List.pairwise_cons.2 h⟩
      rcases List.mem_cons.1 hz with rfl | hz
      · exact hxy
      · exact Int.le_trans hxy (h.1 z hz)
    · rename_i hxy
      refine List.pairwise_cons.2 ⟨fun z hz => ?_, ins_rise x h.2⟩
      rcases List.mem_cons.1 ((ins_perm x l).subset hz) with rfl | hz
      · omega
      · exact h.1 z hz
theorem srt_rise : ∀ l, (srt l).Pairwise (· ≤ ·)
  | [] => List.Pairwise.nil
  | x :: l => ins_rise x (srt_rise l)
theorem srt_eq {a l : List Int} (hp : a.Perm l) (hr : a.Pairwise (· ≤ ·)) : a = srt l := rise_eq (hp.trans (srt_perm l).symm) hr (srt_rise l)

theorem asc_mono {p q : Int} (h : p ≤ q) : ∀ {l : List Int}, asc q l = true → asc p l = true
  | [], _ => rfl
  | x :: l, h2 => by
    simp only [asc, Bool.and_eq_true, decide_eq_true_eq] at h2 ⊢
    exact ⟨by omega, h2.2⟩
theorem asc_lt {p : Int} : ∀ {l : List Int}, asc p l = true → ∀ x ∈ l, p < x
  | [], _, x, hx => by simp at hx
  | y :: l, h, x, hx => by
    simp only [asc, Bool.and_eq_true, decide_eq_true_eq] at h
    rcases List.mem_cons.1 hx with rfl | hx
    · exact h.1
    · have := asc_lt h.2 x hx; omega
theorem asc_rise {p : Int} : ∀ {l : List Int}, asc p l = true → l.Pairwise (· ≤ ·)
  | [], _ => List.Pairwise.nil
  | y :: l, h => by
    simp only [asc, Bool.and_eq_true, decide_eq_true_eq] at h
    exact List.pairwise_cons.2 ⟨fun x hx => by have := asc_lt h.2 x hx; omega, asc_rise h.2⟩
theorem asc_rest {p : Int} (r : Int) : ∀ {l : List Int}, asc p l = true → asc p (rest r l) = true
  | [], _ => rfl
  | y :: l, h => by
    simp only [asc, Bool.and_eq_true, decide_eq_true_eq] at h
    have ih := asc_rest r h.2
    unfold rest at ih ⊢
    by_cases hy : y = r
    · rw [List.filter_cons_of_neg (by simp [hy])]
      exact asc_mono (by omega) ih
    · rw [List.filter_cons_of_pos (by simp [hy])]
      simp only [asc, Bool.and_eq_true, decide_eq_true_eq]
      exact ⟨h.1, ih⟩

/-- which configuration comes of another -/
def nxt (conf : List Int) (add remove : Int) : Option (List Int) :=
  if chk conf = false ∨ add < 0 ∨ remove < 0 ∨ add ∈ conf ∨ (0 < remove ∧ remove ∉ conf) then none
  else if chk (srt (rest remove (if 0 < add then conf ++ [add] else conf))) then some (srt (rest remove (if 0 < add then conf ++ [add] else conf))) else none

/-- the reference's way: one after the other, the new one in its place -/
def putin (add remove : Int) : Bool → List Int → List Int
  | put, [] => if put then [] else [add]
  | put, x :: l => (if !put && decide (add < x) then [add] else []) ++ ((if x = remove then [] else [x]) ++ putin add remove (put || decide (add < x)) l)
theorem putin_true (add remove : Int) : ∀ l, putin add remove true l = rest remove l
  | [] => rfl
  | x :: l => by
    simp only [putin, Bool.not_true, Bool.false_and, Bool.true_or, putin_true add remove l]
    unfold rest
    by_cases h : x = remove <;> simp [h]
theorem putin_perm {add remove : Int} (hne : add ≠ remove) : ∀ l, (putin add remove false l).Perm (rest remove (l ++ [add]))
  | [] => by simp [putin, rest, hne]
  | x :: l => by
    simp only [putin, Bool.not_false, Bool.true_and, Bool.false_or]
    by_cases h : add < x
    · simp only [decide_eq_true h, if_true, putin_true]
      have e : ((if x = remove then [] else [x]) ++ rest remove l) = rest remove (x :: l) := by
        unfold rest
        by_cases h : x = remove <;> simp [h]
      rw [e]
      have e2 : rest remove (x :: l ++ [add]) = rest remove (x :: l) ++ [add] := by
        unfold rest
        rw [List.filter_append]
        simp [hne]
      rw [e2]
      exact (List.perm_append_comm (l₁ := [add]) (l₂ := rest remove (x :: l)))
    · simp only [decide_eq_false h, Bool.false_eq_true, if_false, List.nil_append]
      have e2 : rest remove (x :: l ++ [add]) = (if x = remove then [] else [x]) ++ rest remove (l ++ [add]) := by
        unfold rest
        by_cases h : x = remove <;> simp [h]
      rw [e2]
      exact List.Perm.append_left _ (putin_perm hne l)
theorem putin_asc {add remove : Int} : ∀ {l : List Int} {p : Int}, asc p l = true → p < add → add ∉ l → asc p (putin add remove false l) = true
  | [], p, _, hp, _ => by simp [putin, asc, hp]
  | x :: l, p, h, hp, hn => by
    have h' := h
    simp only [asc, Bool.and_eq_true, decide_eq_true_eq] at h'
    simp only [putin, Bool.not_false, Bool.true_and, Bool.false_or]
    by_cases ha : add < x
    · simp only [decide_eq_true ha, if_true, putin_true]
      have e : ((if x = remove then [] else [x]) ++ rest remove l) = rest remove (x :: l) := by
        unfold rest
        by_cases h : x = remove <;> simp [h]
      rw [e]
      show (decide (p < add) && asc add (rest remove (x :: l))) = true
      rw [decide_eq_true hp, Bool.true_and]
      exact asc_rest remove (by simp only [asc, Bool.and_eq_true, decide_eq_true_eq]; exact ⟨ha, h'.2⟩)
    · simp only [decide_eq_false ha]
      have hxa : x ≠ add := fun e => hn (by simp [e])
      have ih := putin_asc (remove := remove) h'.2 (show x < add by omega) (fun hm => hn (by simp [hm]))
      by_cases hr : x = remove
      · simp only [hr, if_true]
        rw [hr] at ih h'
        exact asc_mono (by omega) ih
      · simp only [hr, if_false]
        show (decide (p < x) && asc x _) = true
        rw [decide_eq_true h'.1, Bool.true_and]
        exact ih
theorem chk_asc {l : List Int} (h : chk l = true) : asc 0 l = true ∧ 0 < l.length ∧ l.length ≤ 7 := by
  unfold chk at h
  simp only [Bool.and_eq_true, decide_eq_true_eq] at h
  exact ⟨h.2, h.1.1, h.1.2⟩
/-- both ways lead to the same list -/
theorem putin_srt {conf : List Int} {add remove : Int} (hc : chk conf = true) (ha : 0 ≤ add) (hn : add ∉ conf) (hr : 0 < remove → remove ∈ conf) :
    putin add remove (decide (add = 0)) conf = srt (rest remove (if 0 < add then conf ++ [add] else conf)) := by
  obtain ⟨h1, h2, h3⟩ := chk_asc hc
  by_cases h0 : add = 0
  · rw [decide_eq_true h0, if_neg (by omega), putin_true]
    exact srt_eq (List.Perm.refl _) (asc_rise (asc_rest remove h1))
  · rw [decide_eq_false h0, if_pos (by omega)]
    have hne : add ≠ remove := fun e => hn (e ▸ hr (by omega))
    exact srt_eq (putin_perm hne conf) (asc_rise (putin_asc h1 (by omega) hn))

/-- what a node has reached -/
def at_ (m : List (Int × Int)) (id : Int) : Int := m.foldl (fun n x => if x.1 = id then x.2 else n) 0
theorem at_snoc (m : List (Int × Int)) (x : Int × Int) (id : Int) : at_ (m ++ [x]) id = if x.1 = id then x.2 else at_ m id := by simp [at_, List.foldl_append]
/-- what more than half of the nodes have reached -/
def reached (conf : List Int) (m : List (Int × Int)) : Int := if chk conf then (srt (conf.map (at_ m))).getD ((conf.length - 1) / 2) 0 else 0
/-- how many of them are no less -/
def atl (A : List Int) (x : Int) : Nat := (A.filter fun y => decide (x ≤ y)).length
theorem atl_perm {A B : List Int} (h : A.Perm B) (x : Int) : atl A x = atl B x := (h.filter _).length_eq
theorem rise_take {s : List Int} (h : s.Pairwise (· ≤ ·)) (k : Nat) (hk : k < s.length) : (∀ y ∈ s.take (k + 1), y ≤ s.getD k 0) ∧ (∀ y ∈ s.drop k, s.getD k 0 ≤ y) := by
  have hp := List.pairwise_iff_getElem.1 h
  have e : s.getD k 0 = s[k] := by simp [List.getD, hk]
  rw [e]
  constructor
  · intro y hy
    obtain ⟨i, hi, rfl⟩ := List.getElem_of_mem hy
    rw [List.length_take] at hi
    rw [List.getElem_take]
    by_cases hik : i = k
    · subst hik; exact Int.le_refl _
    · exact hp i k (by omega) hk (by omega)
  · intro y hy
    obtain ⟨i, hi, rfl⟩ := List.getElem_of_mem hy
    rw [List.length_drop] at hi
    rw [List.getElem_drop]
    by_cases hik : i = 0
    · subst hik; exact Int.le_refl _
    · exact hp k (k + i) hk (by omega) (by omega)
theorem atl_split (s : List Int) (k : Nat) (x : Int) : atl s x = atl (s.take k) x + atl (s.drop k) x := by
  unfold atl
  rw [← List.length_append, ← List.filter_append, List.take_append_drop]
theorem atl_all {s : List Int} {x : Int} (h : ∀ y ∈ s, x ≤ y) : atl s x = s.length := by
  unfold atl
  rw [List.filter_eq_self.2 (fun y hy => by simpa using h y hy)]
theorem atl_none {s : List Int} {x : Int} (h : ∀ y ∈ s, y < x) : atl s x = 0 := by
  unfold atl
  rw [List.length_eq_zero_iff, List.filter_eq_nil_iff]
  intro y hy
  have := h y hy
  simp
  omega
theorem atl_le (s : List Int) (x : Int) : atl s x ≤ s.length := List.length_filter_le _ _
/-- the middle one of them: more than half are no less, and whatever is greater has not more than half -/
theorem mid_one {A : List Int} (h0 : 0 < A.length) : (srt A).getD ((A.length - 1) / 2) 0 ∈ A ∧ A.length < 2 * atl A ((srt A).getD ((A.length - 1) / 2) 0) ∧ ∀ x, (srt A).getD ((A.length - 1) / 2) 0 < x → ¬ A.length < 2 * atl A x := by
  have hl : (srt A).length = A.length := (srt_perm A).length_eq
  have hk : (A.length - 1) / 2 < (srt A).length := by omega
  obtain ⟨t1, t2⟩ := rise_take (srt_rise A) _ hk
  generalize hM : (srt A).getD ((A.length - 1) / 2) 0 = M at *
  refine ⟨?_, ?_, ?_⟩
  · refine (srt_perm A).subset ?_
    rw [← hM]
    simp only [List.getD, List.getElem?_eq_getElem hk, Option.getD_some]
    exact List.getElem_mem hk
  · rw [← atl_perm (srt_perm A), atl_split _ ((A.length - 1) / 2), atl_all t2, List.length_drop]
    omega
  · intro x hx
    rw [← atl_perm (srt_perm A), atl_split _ ((A.length - 1) / 2 + 1), atl_none (fun y hy => by have := t1 y hy; omega)]
    have := atl_le ((srt A).drop ((A.length - 1) / 2 + 1)) x
    rw [List.length_drop] at this
    omega
end Qm
end Go.Proofs.Ytdladjgdhnkkcaa

/-
  Contracts of quorum and its reference: At, Ints, Reached.
  Conditions: the lists can be read.
-/
namespace Go.Proofs.Ytdladjgdhnkkcaa
open Go.ChangeShapes Go.WideShapes Go.ChangeAt Go.RowKit Go.Deep
set_option linter.unusedVariables false
set_option linter.unusedSimpArgs false

def layIt : Lay (Int × Int) := ⟨2, fun x => [.int .i64 x.1, .int .i64 x.2], fun _ => rfl, by decide, fun x u hu => by simp at hu; rcases hu with rfl | rfl <;> rfl⟩
theorem infoL : (Try.prog.info? 2).map (fun i => (i.zero, i.size, i.bytes)) = some (some (.int .i64 0), 1, 8) := by kernel_rfl
theorem RdL.item {w : World} {A : Option Addr} {m : List (Int × Int)} (h : RdL layIt w A m) (i : Nat) (hi : i < m.length) : ∃ b off, A = some ⟨b, off, none⟩ ∧ b < w.heap.size ∧ w.cell? ⟨b, off + i * 2, none⟩ = some (.int .i64 (m.getD i default).1) ∧ w.cell? ⟨b, off + i * 2 + 1, none⟩ = some (.int .i64 (m.getD i default).2) := by
  obtain ⟨b, off, e, hb, hc⟩ := h i hi
  exact ⟨b, off, e, hb, hc 0 _ rfl, hc 1 _ rfl⟩

set_option maxRecDepth 100000 in
theorem ints_arg {H : Type} {enc : TypeId × Value → H} {w : World} {base b0 : Nat} {held : Bool} {v : Value} {d : DataW H} {p : List MemPlace}
    (hv : Value.okWide Try.prog w .any b0 45 v) (h : DataW.Trod enc Try.prog w base (fun _ => true) held 45 v d p) (hw : (d.weights Try.prog 45).all (· ≤ reachBytes) = true) :
    ∃ A ks cap, v = .slice A (List.length ks) cap ∧ List.length ks ≤ cap ∧ cap ≤ 20000000000000 ∧ RdI w A ks ∧ ∀ k ∈ ks, -9223372036854775808 ≤ k ∧ k ≤ 9223372036854775807 := by
  obtain ⟨A, len, cap, rfl, h1, _, h2, h4⟩ := open_arg_slice (n := 1) (ts := [3]) Try.underlying45 (by kernel_rfl) (by kernel_rfl) (by simp) hv h hw
  have hx : ∀ i, i < cap → ∃ x : Int, (-9223372036854775808 ≤ x ∧ x ≤ 9223372036854775807) ∧ ∃ b off, A = some ⟨b, off, none⟩ ∧ b < w.heap.size ∧ w.cell? ⟨b, off + i * 1, none⟩ = some (.int .i64 x) := fun i hi => by
    obtain ⟨b, off, vs, rfl, hb, _, hc, hl⟩ := h4 i hi
    obtain ⟨k, vs1, rfl, hk, hl⟩ := leaf_int Try.underlying3 hl
    have g0 := hc 0 _ rfl
    exact ⟨k, by simp [Lit.wf, IntKind.min, IntKind.max, IntKind.signed, IntKind.bits] at hk; exact hk, b, off, rfl, hb, g0⟩
  have e0 : ∀ i, i < len → ((List.range len).map fun i => if hi : i < cap then (hx i hi).choose else default).getD i default = if hi : i < cap then (hx i hi).choose else default := fun i hi => by
    simp [List.getD, hi]
  refine ⟨A, (List.range len).map fun i => if hi : i < cap then (hx i hi).choose else default, cap, by simp, by simpa using h1, by rw [show Try.prog.bytesOf 3 = 8 from by kernel_rfl] at h2; unfold reachBytes at h2; omega, fun i hi => ?_, fun k hk => ?_⟩
  · have hi' : i < len := by simpa using hi
    obtain ⟨_, b, off, e, hb, g0⟩ := (hx i (by omega)).choose_spec
    rw [e0 i hi', dif_pos (show i < cap by omega)]
    refine ⟨b, off, e, hb, fun r u hu => ?_⟩
    rcases r with _ | r
    · simp only [layI, List.getElem?_cons_zero, Option.some.injEq] at hu; rw [← hu]; exact g0
    · simp [layI] at hu
  · obtain ⟨i, hi, rfl⟩ := List.mem_map.1 hk
    have hi' : i < len := by simpa using hi
    rw [dif_pos (show i < cap by omega)]
    exact (hx i (by omega)).choose_spec.1
set_option maxRecDepth 100000 in
theorem items_arg {H : Type} {enc : TypeId × Value → H} {w : World} {base b0 : Nat} {held : Bool} {v : Value} {d : DataW H} {p : List MemPlace}
    (hv : Value.okWide Try.prog w .any b0 58 v) (h : DataW.Trod enc Try.prog w base (fun _ => true) held 58 v d p) (hw : (d.weights Try.prog 58).all (· ≤ reachBytes) = true) :
    ∃ A m cap, v = .slice A (List.length m) cap ∧ List.length m ≤ cap ∧ cap ≤ 20000000000000 ∧ RdL layIt w A m ∧ ∀ x ∈ m, -9223372036854775808 ≤ x.2 ∧ x.2 ≤ 9223372036854775807 := by
  obtain ⟨A, len, cap, rfl, h1, _, h2, h4⟩ := open_arg_slice (n := 2) (ts := [3, 2]) Try.underlying58 (by kernel_rfl) (by kernel_rfl) (by simp) hv h hw
  have hx : ∀ i, i < cap → ∃ x : Int × Int, (-9223372036854775808 ≤ x.2 ∧ x.2 ≤ 9223372036854775807) ∧ ∃ b off, A = some ⟨b, off, none⟩ ∧ b < w.heap.size ∧ w.cell? ⟨b, off + i * 2, none⟩ = some (.int .i64 x.1) ∧ w.cell? ⟨b, off + i * 2 + 1, none⟩ = some (.int .i64 x.2) := fun i hi => by
    obtain ⟨b, off, vs, rfl, hb, _, hc, hl⟩ := h4 i hi
    obtain ⟨k, vs1, rfl, _, hl⟩ := leaf_int Try.underlying3 hl
    obtain ⟨n, vs2, rfl, hn, hl⟩ := leaf_int Try.underlying2 hl
    have g0 := hc 0 _ rfl
    have g1 := hc 1 _ rfl
    exact ⟨(k, n), by simp [Lit.wf, IntKind.min, IntKind.max, IntKind.signed, IntKind.bits] at hn; exact hn, b, off, rfl, hb, g0, g1⟩
  have e0 : ∀ i, i < len → ((List.range len).map fun i => if hi : i < cap then (hx i hi).choose else default).getD i default = if hi : i < cap then (hx i hi).choose else default := fun i hi => by
    simp [List.getD, hi]
  refine ⟨A, (List.range len).map fun i => if hi : i < cap then (hx i hi).choose else default, cap, by simp, by simpa using h1, by rw [show Try.prog.bytesOf 92 = 16 from by kernel_rfl] at h2; unfold reachBytes at h2; omega, fun i hi => ?_, fun k hk => ?_⟩
  · have hi' : i < len := by simpa using hi
    obtain ⟨_, b, off, e, hb, g0, g1⟩ := (hx i (by omega)).choose_spec
    rw [e0 i hi', dif_pos (show i < cap by omega)]
    refine ⟨b, off, e, hb, fun r u hu => ?_⟩
    rcases r with _ | _ | r
    · simp only [layIt, List.getElem?_cons_zero, Option.some.injEq] at hu; rw [← hu]; exact g0
    · simp only [layIt, List.getElem?_cons_succ, List.getElem?_cons_zero, Option.some.injEq] at hu; rw [← hu]; exact g1
    · simp [layIt] at hu
  · obtain ⟨i, hi, rfl⟩ := List.mem_map.1 hk
    have hi' : i < len := by simpa using hi
    rw [dif_pos (show i < cap by omega)]
    exact (hx i (by omega)).choose_spec.1

set_option maxHeartbeats 1000000 in
theorem at_calls (A : Option Addr) (cap : Nat) (m : List (Int × Int)) (id : Int) (w : World) (hR : Hid (RdL layIt w A m)) (hlen : m.length ≤ 4611686018427387904) :
    Calls Try.prog 49 #[.slice A m.length cap, .int .i64 id] w fun e w' => e = .returned (.int .i64 (Qm.at_ m id)) ∧ w = w' := by
  obtain ⟨r, hr⟩ : ∃ r, r = Qm.at_ m id := ⟨_, rfl⟩
  rw [← hr]
  have HR := Lib.hid hr
  clear hr
  go_enter Try.func49, Try.ntmps49
  go_wp2_with fail
  go_loopg [5] m.length (fun g v5 W => W = w ∧ ∃ i : Int, v5 = .int .i64 i ∧ Hid (i = (g : Int) - 1) ∧ g ≤ m.length ∧ Hid (r = Qm.at_ (m.take g) id))
  case atStart => exact ⟨rfl, (m.length : Int) - 1, by go_num, Lib.hid rfl, Nat.le_refl _, Lib.hid (by rw [List.take_length]; exact HR.out)⟩
  case round =>
    obtain ⟨rfl, i, rfl, HIi, hgl, HI⟩ := hrel
    rcases gk with _ | g
    · have hi : i < 0 := by have := HIi.out; omega
      have hr : r = 0 := by rw [HI.out]; rfl
      have HRR := Lib.hid hr
      clear hr
      go_wp2_with fail
      go_ret
      rw [HRR.out]
      exact ⟨rfl, rfl⟩
    · have hig : i = (g : Int) := by have := HIi.out; push_cast at this; omega
      subst hig
      have hgl2 : g < m.length := by omega
      have hgl3 : (g : Int) < (m.length : Int) := by omega
      obtain ⟨b, off, rfl, _, c1, c2⟩ := hR.out.item g hgl2
      have hst : m.take (g + 1) = m.take g ++ [m.getD g default] := by rw [List.take_succ_eq_append_getElem hgl2]; simp [List.getD, hgl2]
      generalize m.getD g default = x at *
      obtain ⟨xi, xa⟩ := x
      simp only at c1 c2
      have hI := HI.out
      rw [hst, Qm.at_snoc] at hI
      simp only at hI
      have HII := Lib.hid hI
      clear hst hI HI HIi
      by_cases hx : xi = id
      · have hr : r = xa := by rw [HII.out, if_pos hx]
        subst hx
        have HRR := Lib.hid hr
        clear hr
        go_wp2_with fail
        go_ret
        rw [HRR.out]
        exact ⟨rfl, rfl⟩
      · have hr : r = Qm.at_ (m.take g) id := by rw [HII.out, if_neg hx]
        have hne : (xi == id) = false := by rw [beq_eq_false_iff_ne]; exact hx
        have HRR := Lib.hid hr
        clear hr hx
        go_wp2_with fail
        go_roundg g
        case rel => exact ⟨rfl, (g : Int) - 1, by go_num, Lib.hid rfl, by omega, HRR⟩
        case measure => omega

set_option maxHeartbeats 1000000 in
theorem qints_calls (A B : Option Addr) (cap cap' : Nat) (a b : List Int) (w : World) (hA : Hid (RdI w A a)) (hla : a.length ≤ 9223372036854775807) (hB : Hid (RdI w B b)) (hlb : b.length ≤ 9223372036854775807) :
    Calls Try.prog 45 #[.slice A a.length cap, .slice B b.length cap'] w fun e w' => e = .returned (.bool (decide (a = b))) ∧ Below w.heap.size w w' := by
  obtain ⟨r, hr⟩ : ∃ r, r = decide (a = b) := ⟨_, rfl⟩
  rw [← hr]
  have HR := Lib.hid hr
  clear hr
  by_cases hl : a.length = b.length
  rotate_left
  · have hli : ((a.length : Int) != (b.length : Int)) = true := by rw [bne_iff_ne]; omega
    have hr : r = false := by rw [HR.out, decide_eq_false]; intro e; rw [e] at hl; exact hl rfl
    have HRR := Lib.hid hr
    clear hl hr
    go_enter Try.func45, Try.ntmps45
    go_wp2_with fail
    go_ret
    exact ⟨ret_bool HRR.out.symm, Below.refl _ _⟩
  have hli : ((a.length : Int) != (b.length : Int)) = false := by rw [hl]; simp
  have HL := Lib.hid hl
  clear hl
  go_enter Try.func45, Try.ntmps45
  go_wp2_with fail
  go_loopg [5] a.length (fun g v5 W => Below w.heap.size w W ∧ ∃ k : Nat, v5 = .int .i64 k ∧ Hid (k + g = a.length ∧ a.take k = b.take k))
  case atStart => exact ⟨Below.refl _ _, 0, rfl, Lib.hid ⟨by omega, by simp⟩⟩
  case round =>
    obtain ⟨hb, k, rfl, HI⟩ := hrel
    by_cases hlt : k < a.length
    · have hl1 : (k : Int) < (a.length : Int) := by omega
      have hl2 : (k : Int) < (b.length : Int) := by have := HL.out; omega
      have hltb : k < b.length := by have := HL.out; omega
      have hg : 0 < gk := by have := HI.out.1; omega
      obtain ⟨b1, o1, rfl, h1, c1⟩ := hA.out.int k hlt
      obtain ⟨b2, o2, rfl, h2, c2⟩ := hB.out.int k hltb
      replace c1 := (hb.cell (p := ⟨b1, o1 + k, none⟩) h1).trans c1
      replace c2 := (hb.cell (p := ⟨b2, o2 + k, none⟩) h2).trans c2
      have ha : a.take (k + 1) = a.take k ++ [a.getD k default] := by rw [List.take_succ_eq_append_getElem hlt]; simp [List.getD, hlt]
      have hb' : b.take (k + 1) = b.take k ++ [b.getD k default] := by rw [List.take_succ_eq_append_getElem hltb]; simp [List.getD, hltb]
      generalize a.getD k default = x at *
      generalize b.getD k default = y at *
      have HA1 := Lib.hid ha
      have HB1 := Lib.hid hb'
      clear ha hb'
      by_cases hxy : x = y
      · subst hxy
        go_wp2_with fail
        go_quiet (fail)
        go_wp2_with fail
        go_roundg (gk - 1)
        case rel => exact ⟨bel_drewN hb _, k + 1, by go_num, Lib.hid ⟨by have := HI.out.1; omega, by rw [HA1.out, HB1.out, HI.out.2]⟩⟩
        case measure => omega
      · have hne : (x != y) = true := by rw [bne_iff_ne]; exact hxy
        have hr : r = false := by
          rw [HR.out, decide_eq_false]
          intro e
          have h1 := HA1.out
          rw [e, HB1.out] at h1
          exact hxy (by simpa using (List.append_inj' h1 rfl).2.symm)
        have HRR := Lib.hid hr
        clear hr hxy
        go_wp2_with fail
        go_quiet (fail)
        go_wp2_with fail
        go_ret
        exact ⟨ret_bool HRR.out.symm, bel_drewN hb _⟩
    · have hl1 : ¬ (k : Int) < (a.length : Int) := by omega
      have hr : r = true := by
        have hk : k = a.length := by have := HI.out.1; omega
        have h2 := HI.out.2
        rw [hk, List.take_length, HL.out, List.take_length] at h2
        rw [HR.out, decide_eq_true h2]
      have HRR := Lib.hid hr
      clear hr hlt
      go_wp2_with fail
      go_ret
      exact ⟨ret_bool HRR.out.symm, hb⟩
end Go.Proofs.Ytdladjgdhnkkcaa

/-
  Contracts of quorum.Reached and of the reference's.
  Conditions: the lists can be read.
-/
namespace Go.Proofs.Ytdladjgdhnkkcaa
open Go.RowKit
set_option linter.unusedVariables false
set_option linter.unusedSimpArgs false

namespace Qm
theorem map_take_step (f : Int → Int) (l : List Int) (k : Nat) (h : k < l.length) : (l.take (k + 1)).map f = (l.take k).map f ++ [f (l.getD k default)] := by
  rw [List.take_succ_eq_append_getElem h, List.map_append]; simp [List.getD, h]
theorem atl_step (f : Int → Int) (l : List Int) (k : Nat) (x : Int) (h : k < l.length) : atl ((l.take (k + 1)).map f) x = atl ((l.take k).map f) x + (if x ≤ f (l.getD k default) then 1 else 0) := by
  rw [map_take_step f l k h]
  unfold atl
  rw [List.filter_append, List.length_append]
  generalize f (l.getD k default) = z
  by_cases hx : x ≤ z <;> simp [hx]
/-- the greatest so far of those that more than half have reached -/
def Best (A : List Int) (k : Nat) (found : Bool) (best : Int) : Prop :=
  (found = false → best = 0 ∧ ∀ x ∈ A.take k, ¬ A.length < 2 * atl A x) ∧ (found = true → best ∈ A ∧ A.length < 2 * atl A best ∧ ∀ x ∈ A.take k, A.length < 2 * atl A x → x ≤ best)
theorem best_end {A : List Int} {found : Bool} {best : Int} (h0 : 0 < A.length) (h : Best A A.length found best) : best = (srt A).getD ((A.length - 1) / 2) 0 := by
  obtain ⟨m1, m2, m3⟩ := mid_one h0
  rw [Best, List.take_length] at h
  cases found with
  | false => exact absurd m2 ((h.1 rfl).2 _ m1)
  | true =>
    obtain ⟨b1, b2, b3⟩ := h.2 rfl
    have h1 := b3 _ m1 m2
    have h2 : ¬ (srt A).getD ((A.length - 1) / 2) 0 < best := fun hlt => m3 best hlt b2
    omega
theorem best_take {A : List Int} {k : Nat} {found : Bool} {best : Int} (h : Best A k found best) (hk : k < A.length) (hm : A.length < 2 * atl A (A.getD k 0)) (hg : found = false ∨ best < A.getD k 0) : Best A (k + 1) true (A.getD k 0) := by
  refine ⟨fun e => (nomatch e), fun _ => ⟨by simp only [List.getD, List.getElem?_eq_getElem hk, Option.getD_some]; exact List.getElem_mem hk, hm, fun x hx hxm => ?_⟩⟩
  rw [List.take_succ_eq_append_getElem hk] at hx
  rcases List.mem_append.1 hx with hx | hx
  · cases found with
    | false => exact absurd hxm ((h.1 rfl).2 x hx)
    | true =>
      have := (h.2 rfl).2.2 x hx hxm
      rcases hg with hg | hg
      · cases hg
      · omega
  · have : x = A[k] := by simpa using hx
    rw [this]
    simp [List.getD, hk]
theorem best_skip {A : List Int} {k : Nat} {found : Bool} {best : Int} (h : Best A k found best) (hk : k < A.length) (hm : ¬ A.length < 2 * atl A (A.getD k 0) ∨ (found = true ∧ A.getD k 0 ≤ best)) : Best A (k + 1) found best := by
  have hlast : ∀ x ∈ A.take (k + 1), x ∈ A.take k ∨ x = A.getD k 0 := fun x hx => by
    rw [List.take_succ_eq_append_getElem hk] at hx
    rcases List.mem_append.1 hx with hx | hx
    · exact .inl hx
    · right
      simp only [List.getD, List.getElem?_eq_getElem hk, Option.getD_some]
      simpa using hx
  refine ⟨fun e => ⟨(h.1 e).1, fun x hx => ?_⟩, fun e => ⟨(h.2 e).1, (h.2 e).2.1, fun x hx hxm => ?_⟩⟩
  · rcases hlast x hx with hx | rfl
    · exact (h.1 e).2 x hx
    · rcases hm with hm | ⟨hf, _⟩
      · exact hm
      · rw [e] at hf; cases hf
  · rcases hlast x hx with hx | rfl
    · exact (h.2 e).2.2 x hx hxm
    · rcases hm with hm | ⟨_, hm⟩
      · exact absurd hxm hm
      · exact hm
end Qm

theorem rdI_oneL (w : World) (x : Int) : RdL (layI .i64) (w.alloc (.cells #[.int .i64 x] 2)) (some ⟨w.heap.size, 0, none⟩) [x] := by
  obtain ⟨A, cap, e, _, _, h, _⟩ := (OwnL.lit (L := layI .i64) (e := 2) w w.heap.size (Nat.le_refl _) [x] (by simp [maxLen]) #[.int .i64 x] rfl).form
  injection e with e
  subst e
  exact h

set_option maxRecDepth 20000 in
set_option maxHeartbeats 4000000 in
theorem reached_calls (A B : Option Addr) (cap cap' : Nat) (l : List Int) (m : List (Int × Int)) (w : World) (hR : Hid (RdI w A l)) (hlen : l.length ≤ cap) (hcap : cap ≤ 9223372036854775807) (hM : Hid (RdL layIt w B m)) (hml : m.length ≤ 4611686018427387904) :
    Calls Try.prog 43 #[.slice A l.length cap, .slice B m.length cap'] w fun e w' => e = .returned (.int .i64 (Qm.reached l m)) ∧ Below w.heap.size w w' := by
  obtain ⟨r, hr⟩ : ∃ r, r = Qm.reached l m := ⟨_, rfl⟩
  rw [← hr]
  have HR := Lib.hid hr
  clear hr
  go_enter Try.func43, Try.ntmps43
  go_wp2_with fail
  refine (qcheck_calls A cap l w hR hlen hcap).mono ?_
  rintro e w' ⟨rfl, rfl⟩
  by_cases hq : Qm.chk l = true
  rotate_left
  · have hq' : Qm.chk l = false := by simpa using hq
    have hr : r = 0 := by rw [HR.out]; unfold Qm.reached; rw [hq']; rfl
    have HRR := Lib.hid hr
    rw [hq']
    clear hq hq' hr
    go_wp2_with fail
    go_ret
    rw [HRR.out]
    exact ⟨rfl, Below.refl _ _⟩
  obtain ⟨_, hl0, hl7⟩ := Qm.chk_asc hq
  have hr2 : r = (Qm.srt (l.map (Qm.at_ m))).getD ((l.length - 1) / 2) 0 := by rw [HR.out]; unfold Qm.reached; rw [if_pos hq]
  have HR2 := Lib.hid hr2
  rw [hq]
  clear hq hr2
  go_wp2_with fail
  go_loopg [5, 7, 8, 10, 16, 22] l.length (fun g v5 v7 v8 v10 v16 v22 W => Below w.heap.size w W ∧ ∃ k : Nat, v16 = .int .i64 k ∧ Hid (k + g = l.length ∧ OwnL (layI .i64) 2 W w.heap.size v5 ((l.take k).map (Qm.at_ m))))
  case atStart => exact ⟨Below.refl _ _, 0, rfl, Lib.hid ⟨by omega, OwnL.nil _ _⟩⟩
  case round =>
    obtain ⟨hb, k, rfl, HI⟩ := hrel
    by_cases hlt : k < l.length
    · have hl : (k : Int) < (l.length : Int) := by omega
      have hg : 0 < gk := by have := HI.out.1; omega
      obtain ⟨hkg, hown⟩ := HI.out
      have HKG := Lib.hid hkg
      have HOW := Lib.hid hown
      obtain ⟨b, off, rfl, h1, c1⟩ := hR.out.int k hlt
      replace c1 := (hb.cell (p := ⟨b, off + k, none⟩) h1).trans c1
      have hst := Qm.map_take_step (Qm.at_ m) l k hlt
      generalize l.getD k default = c at *
      have HST := Lib.hid hst
      have hkl2 : ((l.take k).map (Qm.at_ m)).length = k := by rw [List.length_map, List.length_take]; omega
      have HKL2 := Lib.hid hkl2
      clear hkg hown hst HI hkl2
      generalize gk = gk0 at *
      go_wp2_with fail
      go_loopg [8, 10, 22] m.length (fun g v8 v10 v22 W => Below w.heap.size w W ∧ Below wr.heap.size wr W ∧ ∃ j : Nat, v22 = .int .i64 j ∧ ∃ n : Int, v8 = .int .i64 n ∧ Hid (j + g = m.length ∧ n = Qm.at_ (m.take j) c))
      case atStart => exact ⟨hb, Below.refl _ _, 0, rfl, 0, rfl, Lib.hid ⟨by omega, by simp [Qm.at_]⟩⟩
      case round =>
        obtain ⟨hb, hb2, j, rfl, n, rfl, HJ⟩ := hrel
        by_cases hjt : j < m.length
        · have hj : (j : Int) < (m.length : Int) := by omega
          have hg2 : 0 < gk := by have := HJ.out.1; omega
          obtain ⟨b2, o2, rfl, h2, p1, p2⟩ := hM.out.item j hjt
          replace p1 := (hb.cell (p := ⟨b2, o2 + j * 2, none⟩) h2).trans p1
          replace p2 := (hb.cell (p := ⟨b2, o2 + j * 2 + 1, none⟩) h2).trans p2
          have hst : m.take (j + 1) = m.take j ++ [m.getD j default] := by rw [List.take_succ_eq_append_getElem hjt]; simp [List.getD, hjt]
          generalize m.getD j default = x at *
          obtain ⟨xi, xa⟩ := x
          simp only at p1 p2
          have HS2 : Hid (Qm.at_ (m.take (j + 1)) c = if xi = c then xa else n) := Lib.hid (by rw [hst, Qm.at_snoc, HJ.out.2])
          clear hst
          by_cases hxc : xi = c
          · have hs : Qm.at_ (m.take (j + 1)) c = xa := by rw [HS2.out, if_pos hxc]
            have HS := Lib.hid hs
            subst hxc
            clear hs
            go_wp2_with fail
            go_roundg (gk - 1)
            case rel => exact ⟨bel_new hb _, bel_new hb2 _, j + 1, by go_num, xa, rfl, Lib.hid ⟨by have := HJ.out.1; omega, HS.out.symm⟩⟩
            case measure => omega
          · have hs : Qm.at_ (m.take (j + 1)) c = n := by rw [HS2.out, if_neg hxc]
            have HS := Lib.hid hs
            have hne : (xi == c) = false := by rw [beq_eq_false_iff_ne]; exact hxc
            clear hs hxc
            go_wp2_with fail
            go_roundg (gk - 1)
            case rel => exact ⟨bel_new hb _, bel_new hb2 _, j + 1, by go_num, n, rfl, Lib.hid ⟨by have := HJ.out.1; omega, HS.out.symm⟩⟩
            case measure => omega
        · have hj : ¬ (j : Int) < (m.length : Int) := by omega
          have hn : n = Qm.at_ m c := by rw [HJ.out.2, show j = m.length from by have := HJ.out.1; omega, List.take_length]
          have HN := Lib.hid hn
          have HOW2 := Lib.hid (HOW.out.kept hb2)
          have HONE := Lib.hid (rdI_oneL wr n)
          clear hjt hn
          go_wp2_with (first
            | (at_builtin
               go_loud (refine wpList_appL 46 _ 8 Try.underlying46 infoL rfl rfl (.tmp 33) (.tmp 35) rfl w.heap.size _ _ rfl (HOW2.out.kept (bel_new (Below.refl _ _) _)) (some ⟨wr.heap.size, 0, none⟩) 1 1 [n] rfl rfl HONE.out (by rw [HKL2.out]; simp [maxLen]; omega) (by rw [HKL2.out]; simp; omega) (bel_new hb _).size ?_)
               intro v5 w5 ho5 hg5
               have hb5 := Lib.hid (OwnL.grown (w0 := w) (HOW2.out.kept (bel_new (Below.refl _ _) _)) (bel_new hb _) (bel_new hb _).size hg5)))
          go_roundg (gk0 - 1)
          case rel => exact ⟨hb5.out, k + 1, by go_num, Lib.hid ⟨by have := HKG.out; omega, by rw [HST.out, ← HN.out]; exact ho5⟩⟩
          case measure => omega
    · have hl : ¬ (k : Int) < (l.length : Int) := by omega
      obtain ⟨hkg, hown⟩ := HI.out
      have hke : k = l.length := by omega
      rw [hke, List.take_length] at hown
      have hml2 : (l.map (Qm.at_ m)).length = l.length := List.length_map _
      have HOW := Lib.hid hown
      clear hkg hown HI hke hlt
      go_wp2_with fail
      refine (sortL_calls w.heap.size _ _ wr HOW (by rw [hml2]; omega)).mono ?_
      rintro e w' ⟨rfl, ys, y1, y2, y3, y4⟩
      have hys := Qm.srt_eq y1 y2
      have hyl : ys.length = l.length := y1.length_eq.trans hml2
      have hbS := Lib.hid (OwnL.grown (w0 := w) HOW.out hb hb.size y4)
      obtain ⟨g, c, rfl, _, _, hc1, hc2⟩ := y3.block (by omega)
      have hmid : (l.length - 1) / 2 < ys.length := by omega
      obtain ⟨q1, _⟩ := y3.at_ ((l.length - 1) / 2) hmid
      have hr3 : r = ys.getD ((l.length - 1) / 2) 0 := by rw [HR2.out, hys]
      rw [← hr3] at q1
      have e1 : (((l.length : Int) - 1) / 2) = (((l.length - 1) / 2 : Nat) : Int) := by omega
      have e2 : ((l.length : Int) - 1).tdiv 2 = (((l.length - 1) / 2 : Nat) : Int) := by rw [Int.tdiv_eq_ediv_of_nonneg (by omega)]; omega
      have e3 : (((l.length - 1) / 2 : Nat) : Int) < (l.length : Int) := by omega
      have hl1 : (1 : Int) ≤ (l.length : Int) := by omega
      rw [hyl] at *
      generalize (l.length - 1) / 2 = mid at *
      clear y1 y2 y3 y4 hys hmid hr3
      go_wp2_with fail
      go_ret
      exact ⟨rfl, hbS.out⟩

set_option maxRecDepth 20000 in
set_option maxHeartbeats 4000000 in
theorem rreached_calls (A B : Option Addr) (cap cap' : Nat) (l : List Int) (m : List (Int × Int)) (w : World) (hR : Hid (RdI w A l)) (hlen : l.length ≤ 9223372036854775807) (hM : Hid (RdL layIt w B m)) (hml : m.length ≤ 4611686018427387904) :
    Calls Try.prog 44 #[.slice A l.length cap, .slice B m.length cap'] w fun e w' => e = .returned (.int .i64 (Qm.reached l m)) ∧ w = w' := by
  obtain ⟨r, hr⟩ : ∃ r, r = Qm.reached l m := ⟨_, rfl⟩
  rw [← hr]
  have HR := Lib.hid hr
  clear hr
  go_enter Try.func44, Try.ntmps44
  go_wp2_with fail
  refine (qrcheck_calls A cap l w hR hlen).mono ?_
  rintro e w' ⟨rfl, rfl⟩
  by_cases hq : Qm.chk l = true
  rotate_left
  · have hq' : Qm.chk l = false := by simpa using hq
    have hr : r = 0 := by rw [HR.out]; unfold Qm.reached; rw [hq']; rfl
    have HRR := Lib.hid hr
    rw [hq']
    clear hq hq' hr
    go_wp2_with fail
    go_ret
    rw [HRR.out]
    exact ⟨rfl, rfl⟩
  obtain ⟨_, hl0, hl7⟩ := Qm.chk_asc hq
  obtain ⟨F, hF⟩ : ∃ F, F = Qm.at_ m := ⟨_, rfl⟩
  have hr2 : r = (Qm.srt (l.map F)).getD ((l.length - 1) / 2) 0 := by rw [HR.out]; unfold Qm.reached; rw [if_pos hq, hF]
  have HR2 := Lib.hid hr2
  have hat := Lib.hid (fun id => at_calls B cap' m id w hM hml)
  rw [← hF] at hat
  have hml2 : (l.map F).length = l.length := List.length_map _
  have HML := Lib.hid hml2
  have hget : ∀ k, k < l.length → (l.map F).getD k 0 = F (l.getD k default) := fun k hk => by simp [List.getD, hk]
  have HGET := Lib.hid hget
  rw [hq]
  clear hq hr2 hF hml2 hget
  go_wp2_with fail
  go_loopg [5, 6, 7, 8, 9, 10] l.length (fun g v5 v6 v7 v8 v9 v10 W => W = w ∧ ∃ (k : Nat) (best : Int) (found : Bool), v7 = .int .i64 k ∧ v5 = .int .i64 best ∧ v6 = .bool found ∧ Hid (k + g = l.length ∧ Qm.Best (l.map F) k found best))
  case atStart => exact ⟨rfl, 0, 0, false, rfl, rfl, rfl, Lib.hid ⟨by omega, fun _ => ⟨rfl, by simp⟩, fun e => (nomatch e)⟩⟩
  case round =>
    obtain ⟨rfl, k, best, found, rfl, rfl, rfl, HI⟩ := hrel
    by_cases hlt : k < l.length
    · have hl : (k : Int) < (l.length : Int) := by omega
      have hg : 0 < gk := by have := HI.out.1; omega
      obtain ⟨b, off, rfl, h1, c1⟩ := hR.out.int k hlt
      obtain ⟨n, hn⟩ : ∃ n, n = F (l.getD k default) := ⟨_, rfl⟩
      have hgk := HGET.out k hlt
      rw [← hn] at hgk
      have HN := Lib.hid hn
      have HGK := Lib.hid hgk
      obtain ⟨x, hx⟩ : ∃ x, x = l.getD k default := ⟨_, rfl⟩
      rw [← hx] at c1 hn
      have hatx := hat.out x
      rw [← hn] at hatx
      have HATX := Lib.hid hatx
      clear hx hn hgk hatx
      generalize gk = gk0 at *
      go_wp2_with fail
      refine HATX.out.mono ?_
      rintro e w' ⟨rfl, rfl⟩
      go_wp2_with fail
      go_loopg [9, 10] l.length (fun g v9 v10 W => W = wr ∧ ∃ (j c : Nat), v10 = .int .i64 j ∧ v9 = .int .i64 c ∧ c ≤ j ∧ Hid (j + g = l.length ∧ c = Qm.atl ((l.take j).map F) n))
      case atStart => exact ⟨rfl, 0, 0, rfl, rfl, Nat.le_refl _, Lib.hid ⟨by omega, by simp [Qm.atl]⟩⟩
      case round =>
        obtain ⟨rfl, j, c, rfl, rfl, hcj, HJ⟩ := hrel
        by_cases hjt : j < l.length
        · have hj : (j : Int) < (l.length : Int) := by omega
          have hg2 : 0 < gk := by have := HJ.out.1; omega
          obtain ⟨b2, o2, e2, _, p1⟩ := hR.out.int j hjt
          injection e2 with e2
          injection e2 with e3 e4 _
          subst e3; subst e4
          have hst := Qm.atl_step F l j n hjt
          rw [← HJ.out.2] at hst
          obtain ⟨y, hy⟩ : ∃ y, y = l.getD j default := ⟨_, rfl⟩
          rw [← hy] at p1 hst
          have haty := hat.out y
          obtain ⟨z, hz⟩ : ∃ z, z = F y := ⟨_, rfl⟩
          rw [← hz] at hst haty
          have HST := Lib.hid hst
          have HATY := Lib.hid haty
          clear hst haty hy hz
          go_wp2_with fail
          refine HATY.out.mono ?_
          rintro e w' ⟨rfl, rfl⟩
          by_cases hnz : n ≤ z
          · have hs := HST.out
            rw [if_pos hnz] at hs
            have HS := Lib.hid hs
            clear hs
            go_wp2_with fail
            go_roundg (gk - 1)
            case rel => exact ⟨rfl, j + 1, c + 1, by go_num, by go_num, by omega, Lib.hid ⟨by have := HJ.out.1; omega, HS.out.symm⟩⟩
            case measure => omega
          · have hs := HST.out
            rw [if_neg hnz, Nat.add_zero] at hs
            have HS := Lib.hid hs
            clear hs
            go_wp2_with fail
            go_roundg (gk - 1)
            case rel => exact ⟨rfl, j + 1, c, by go_num, rfl, by omega, Lib.hid ⟨by have := HJ.out.1; omega, HS.out.symm⟩⟩
            case measure => omega
        · have hj : ¬ (j : Int) < (l.length : Int) := by omega
          have hc : c = Qm.atl (l.map F) n := by rw [HJ.out.2, show j = l.length from by have := HJ.out.1; omega, List.take_length]
          have hjl : j = l.length := by have := HJ.out.1; omega
          have hc7 : c ≤ 7 := by omega
          have HC := Lib.hid hc
          have HTK := Lib.hid (fun a b => Qm.best_take HI.out.2 (by rw [HML.out]; exact hlt) a b)
          have HSK := Lib.hid (fun a => Qm.best_skip HI.out.2 (by rw [HML.out]; exact hlt) a)
          rw [HGK.out] at HTK HSK
          rw [← HC.out, HML.out] at HTK HSK
          clear hjt hc hjl hcj
          by_cases hmaj : l.length < 2 * c
          · have hmi : (l.length : Int) < 2 * (c : Int) := by omega
            cases found with
            | false =>
              have HB := Lib.hid (HTK.out hmaj (.inl rfl))
              clear hmaj
              go_wp2_with fail
              go_roundg (gk0 - 1)
              case rel => exact ⟨rfl, k + 1, n, true, by go_num, rfl, rfl, Lib.hid ⟨by have := HI.out.1; omega, HB.out⟩⟩
              case measure => omega
            | true =>
              by_cases hbn : best < n
              · have HB := Lib.hid (HTK.out hmaj (.inr hbn))
                clear hmaj
                go_wp2_with fail
                go_roundg (gk0 - 1)
                case rel => exact ⟨rfl, k + 1, n, true, by go_num, rfl, rfl, Lib.hid ⟨by have := HI.out.1; omega, HB.out⟩⟩
                case measure => omega
              · have HB := Lib.hid (HSK.out (.inr ⟨rfl, by omega⟩))
                clear hmaj
                go_wp2_with fail
                go_roundg (gk0 - 1)
                case rel => exact ⟨rfl, k + 1, best, true, by go_num, rfl, rfl, Lib.hid ⟨by have := HI.out.1; omega, HB.out⟩⟩
                case measure => omega
          · have hmi : ¬ (l.length : Int) < 2 * (c : Int) := by omega
            have HB := Lib.hid (HSK.out (.inl hmaj))
            clear hmaj
            go_wp2_with fail
            go_roundg (gk0 - 1)
            case rel => exact ⟨rfl, k + 1, best, found, by go_num, rfl, rfl, Lib.hid ⟨by have := HI.out.1; omega, HB.out⟩⟩
            case measure => omega
    · have hl : ¬ (k : Int) < (l.length : Int) := by omega
      have hB := HI.out.2
      rw [show k = (l.map F).length from by rw [HML.out]; have := HI.out.1; omega] at hB
      have hbe := Qm.best_end (by rw [HML.out]; exact hl0) hB
      rw [HML.out, ← HR2.out] at hbe
      have HBE := Lib.hid hbe
      clear hlt hB hbe
      go_wp2_with fail
      go_ret
      rw [HBE.out]
      exact ⟨rfl, rfl⟩
end Go.Proofs.Ytdladjgdhnkkcaa
