
/-
  TallySpread: the row.
  Conditions: none.
-/
import Derived.Test.YtboiolnnhmlieaaGc23
import Derived.Test.YtboiolnnhmlieaaKfo
import Derived.Conc.HoldsTime
namespace Go.Proofs.Ytboiolnnhmlieaa.Gang
open Go.Proofs.Ytboiolnnhmlieaa Go.Proofs.Ytboiolnnhmlieaa.Gang
open Go.Conc Go.ConcM Go.ConcN Go.ChangeShapes Go.WideShapes Go.ChangeAt Go.RowKit Go.Deep
set_option linter.unusedVariables false
set_option maxRecDepth 100000 in
theorem steps_arg {H : Type} {enc : TypeId × Value → H} {w : World} {base b0 : Nat} {held : Bool} {v : Value} {d : DataW H} {p : List MemPlace}
    (hv : Value.okWide Try.prog w .any b0 32 v) (h : DataW.Trod enc Try.prog w base (fun _ => true) held 32 v d p) (hw : (d.weights Try.prog 32).all (· ≤ reachBytes) = true) :
    ∃ sl xs cap, v = .slice sl (List.length xs) cap ∧ List.length xs ≤ 4611686018427387904 ∧ StepsAt sl xs w ∧ ∀ ar off, sl = some ⟨ar, off, none⟩ → ar < w.heap.size := by
  obtain ⟨A, len, cap, rfl, h1, _, h2, h4⟩ := open_arg_slice (n := 2) (ts := [3, 2]) Try.underlying32 (by kernel_rfl) (by kernel_rfl) (by simp) hv h hw
  have hx : ∀ i, i < cap → ∃ x : Int × Int, ∃ b off, A = some ⟨b, off, none⟩ ∧ b < w.heap.size ∧ w.cell? ⟨b, off + i * 2, none⟩ = some (.int .i64 x.1) ∧ w.cell? ⟨b, off + i * 2 + 1, none⟩ = some (.int .i64 x.2) := fun i hi => by
    obtain ⟨b, off, vs, rfl, hb, _, hc, hl⟩ := h4 i hi
    obtain ⟨k, vs1, rfl, _, hl⟩ := leaf_int Try.underlying3 hl
    obtain ⟨n, vs2, rfl, hn, hl⟩ := leaf_int Try.underlying2 hl
    have g0 := hc 0 _ rfl
    have g1 := hc 1 _ rfl
    exact ⟨(k, n), b, off, rfl, hb, g0, g1⟩
  refine ⟨A, (List.range len).map fun i => if hi : i < cap then (hx i hi).choose else default, cap, by simp, by rw [show Try.prog.bytesOf 31 = 16 from by kernel_rfl] at h2; unfold reachBytes at h2; simp; omega, fun hne => ?_, fun ar off e => ?_⟩
  · have hlen : 0 < len := by
      rcases Nat.eq_zero_or_pos len with e | e
      · subst e; simp at hne
      · exact e
    obtain ⟨b, off, e, hb, _⟩ := (hx 0 (by omega)).choose_spec
    refine ⟨b, off, e, hb, fun i hi => ?_⟩
    have hi' : i < len := by simpa using hi
    obtain ⟨b', off', e', hb', g0, g1⟩ := (hx i (by omega)).choose_spec
    rw [e] at e'
    cases e'
    simp only [List.getElem_map, List.getElem_range]
    rw [dif_pos (show i < cap by omega)]
    exact ⟨g0, g1⟩
  · subst e
    unfold Value.okWide at hv
    rw [Try.underlying32] at hv
    unfold Cell.okWide Cell.ok at hv
    rw [Try.underlying32] at hv
    obtain ⟨_, _, _, _, row, cells, hs, _⟩ := hv
    unfold World.shape? at hs
    cases hh : w.heap[ar]? with
    | none => rw [hh] at hs; cases hs
    | some o => exact (Array.getElem?_eq_some_iff.1 hh).1
set_option maxRecDepth 100000 in
theorem step_arg {H : Type} {enc : TypeId × Value → H} {w : World} {base b0 : Nat} {held : Bool} {v : Value} {d : DataW H} {p : List MemPlace}
    (hv : Value.okWide Try.prog w .any b0 31 v) (h : DataW.Trod enc Try.prog w base (fun _ => true) held 31 v d p) (hw : (d.weights Try.prog 31).all (· ≤ reachBytes) = true) :
    ∃ i n : Int, v = .agg #[.int .i64 i, .int .i64 n] := by
  obtain ⟨vs, rfl, hl⟩ := open_arg (n := 3) (ts := [3, 2]) Try.underlying31 (by kernel_rfl) hv h hw
  obtain ⟨i, vs, rfl, hi, hl⟩ := leaf_int Try.underlying3 hl
  obtain ⟨n, vs, rfl, hn, hl⟩ := leaf_int Try.underlying2 hl
  have := leaf_nil hl
  subst this
  exact ⟨i, n, rfl⟩
end Go.Proofs.Ytboiolnnhmlieaa.Gang
namespace Go.Proofs.Ytboiolnnhmlieaa.lawTallySpread
open Go.Proofs.Ytboiolnnhmlieaa Go.Proofs.Ytboiolnnhmlieaa.Gang
open Go.Conc Go.ConcM Go.ConcN Go.ChangeShapes Go.WideShapes Go.ChangeAt Go.RowKit Go.Deep
set_option linter.unusedVariables false
set_option maxRecDepth 100000 in
theorem entered (sl : Option Addr) (l cap : Nat) (n : Int) : Frame.enter Try.prog 4 #[.slice sl l cap, .int .i64 n] .normal = (base 4).at ⟨#[.slice sl l cap, .int .i64 n, undef, undef, undef, undef, undef, undef, undef, undef, undef, undef, undef, undef, undef, undef, undef, undef, undef, undef, undef, undef, undef, undef, undef, undef, undef, undef, undef, undef, undef, undef, undef, undef, undef, undef, undef, undef, undef, undef, undef, undef, undef, undef, undef, undef, undef, undef, undef, undef, undef, undef, undef, undef, undef, undef, undef, undef, undef, undef, undef, undef, undef, undef, undef, undef, undef, undef, undef, undef, undef, undef, undef, undef, undef, undef, undef, undef, undef, undef, undef, undef, undef, undef, undef, undef, undef, undef, undef, undef, undef, undef, undef, undef, undef, undef, undef, undef, undef, undef, undef, undef], []⟩ [.code (Try.f4.body.getD .skip)] := by
  simp [Frame.enter, Frame.at, base, Try.func4, Try.f4]
set_option maxRecDepth 100000 in
set_option maxHeartbeats 4000000 in
theorem lifted (os : Os) (started : os.Started) (H : Type) (enc : TypeId × Value → H) (F : Stop.Interp) :
    ReturnsInLeavingWide Rows.tallySpreadRow.assume Try.checked os 4 .any (Rows.tallySpreadSpec.pre6 enc Try.prog Try.f4 Rows.tallySpreadRow.domain false) ((OpenSpec.ofChange Rows.tallySpreadSpec).postWith enc Try.prog Try.f4 F (outsideKept [.timePasses]) false true false) := by
  refine returnsInLeavingWide_of_change_time (C := Try.checked) own started Try.func4
    (ChangeSpec.witness6c (enc := enc) (C := Try.checked) ⟨#[], #[.slice none 0 0, .int .i64 0], []⟩ 8 (by kernel_rfl) (by kernel_rfl) (by kernel_rfl) (by kernel_rfl)) ?_
  intro W base args ds gs before hval0 hW _ hwt _
  have hval : ∀ (j : Nat) t v, Try.f4.params[j]? = some t → args[j]? = some v → Value.okWide Try.prog W .any base t v := hval0
  have hW' := hW
  have hlt := hW.lt
  obtain ⟨p, q, hA0, hV, rfl, _, _⟩ := hW
  have hA : DataW.TrodAll enc Try.prog W 0 (fun _ => true) true Try.f4.params.toList args.toList ds p := hA0
  obtain ⟨rfl, rfl⟩ := trodVars_none hV
  have hwt' : (DataW.weightsEach Try.prog Try.f4.params.toList ds).all (· ≤ reachBytes) = true := by
    have e2 : Rows.tallySpreadSpec.plain.varTypes Try.checked.prog = [] := rfl
    rw [e2, List.append_nil, List.append_nil] at hwt
    exact hwt
  have hA1 := hA
  rw [Try.params4] at hA hval hwt'
  obtain ⟨v0, vs0, d0, ds0, p0, q0, hargs, rfl, rfl, h0, r0⟩ := trodAll_cons hA
  obtain ⟨v1, vs1, d1, ds1, p1, q1, rfl, rfl, rfl, h1, r1⟩ := trodAll_cons r0
  obtain ⟨rfl, rfl, rfl⟩ := trodAll_nil r1
  obtain rfl : args = #[v0, v1] := by cases args; simp_all
  obtain ⟨sl, xs, cap, rfl, hlen, hst, hsl⟩ := steps_arg (hval 0 32 v0 rfl rfl) h0 (weightsEach_at (i := 0) hwt' rfl rfl)
  obtain ⟨n, rfl, rfl, rfl, wn⟩ := open_int Try.underlying3 (hval 1 3 v1 rfl rfl) h1
  have hR := tspread_run (Post := fun v W' => Rows.tallySpreadSpec.post enc Try.prog Try.f4 false true false false W #[.slice sl xs.length cap, .int .i64 n] v { W' with os := W.os } ∧ OsLater W.os W'.os) (W := W) (fun w' hk => ?_) xs (cap := cap) (n := n) hlen hst hsl
  · have hR2 : Run Try.prog (top (fun v W' => Rows.tallySpreadSpec.post enc Try.prog Try.f4 false true false false W #[.slice sl xs.length cap, .int .i64 n] v { W' with os := W.os } ∧ OsLater W.os W'.os) W) (G (Frame.enter Try.prog 4 #[.slice sl xs.length cap, .int .i64 n] .normal) []) W := by
      rw [entered]
      exact hR
    exact Run.start hR2
  · have hbel : Below W.heap.size W { w' with os := W.os } := ⟨rfl, hk.tape, hk.output, hk.size, fun k h => hk.block k h (by omega)⟩
    refine ⟨⟨_, _, _, [], _, [], hW', trodAll_mk1 (shut_bool Try.underlying4 true), trodAll_bel laidOut hbel _ _ _ _ (fun t ht => ?_) hA1 (fun x hx => hlt x (by simpa using hx)), rfl, hbel.frame _, fun h => by cases h⟩, by rw [hk.os]; exact OsLater.refl W.os⟩
    have := List.all_eq_true.1 (show Try.f4.params.toList.all (fun t => Try.prog.readableRec t && decide (t < Try.prog.types.size)) = true from by kernel_rfl) t ht
    simpa using this
theorem over : Rows.tallySpreadRow.holds Try.pinned (OpenSpec.ofChange Rows.tallySpreadSpec) :=
  OpenClaim.holds_of_wide_leaving_time 4 Try.f4 rfl rfl rfl rfl rfl rfl rfl ⟨rfl, rfl, rfl, rfl, rfl⟩ rfl rfl rfl rfl rfl (by kernel_rfl) Try.func4 (by kernel_rfl)
    (of_decide_eq_true (by kernel_rfl)) (by unfold Func.isWrapper; first | (rw [if_pos (by decide +kernel)]; kernel_rfl) | (rw [if_neg (by decide +kernel)]; exact ⟨rfl, rfl⟩))
    (fun os started H enc _ F => lifted os started H enc F)
/-- the statement -/
theorem proved : Rows.TallySpreadSaid := over
end Go.Proofs.Ytboiolnnhmlieaa.lawTallySpread
