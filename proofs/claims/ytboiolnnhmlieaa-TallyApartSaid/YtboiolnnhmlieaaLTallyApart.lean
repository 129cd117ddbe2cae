
/-
  TallyApart: the row.
  Conditions: none.
-/
import Derived.Test.YtboiolnnhmlieaaGc20
import Derived.Test.YtboiolnnhmlieaaGs1
namespace Go.Proofs.Ytboiolnnhmlieaa.lawTallyApart
open Go.Proofs.Ytboiolnnhmlieaa Go.Proofs.Ytboiolnnhmlieaa.Gang
open Go.Conc Go.ConcM Go.ConcN Go.ChangeShapes Go.WideShapes Go.ChangeAt Go.RowKit Go.Deep
set_option linter.unusedVariables false
set_option maxRecDepth 100000 in
theorem entered (sl : Option Addr) (l cap : Nat) (bi bn : Int) (n : Int) : Frame.enter Try.prog 6 #[.slice sl l cap, .agg #[.int .i64 bi, .int .i64 bn], .int .i64 n] .normal = (base 6).at ⟨#[.slice sl l cap, .agg #[.int .i64 bi, .int .i64 bn], .int .i64 n, undef, undef, undef, undef, undef, undef, undef, undef, undef, undef, undef, undef, undef, undef, undef, undef, undef, undef, undef, undef, undef, undef, undef, undef, undef, undef, undef, undef, undef, undef, undef, undef, undef, undef, undef, undef, undef, undef, undef, undef, undef, undef, undef, undef, undef, undef, undef, undef, undef, undef, undef, undef, undef, undef, undef, undef, undef, undef, undef, undef, undef, undef, undef], []⟩ [.code (Try.f6.body.getD .skip)] := by
  simp [Frame.enter, Frame.at, base, Try.func6, Try.f6]
set_option maxRecDepth 100000 in
set_option maxHeartbeats 4000000 in
theorem lifted (os : Os) (started : os.Started) (H : Type) (enc : TypeId × Value → H) (F : Stop.Interp) :
    ReturnsInLeavingWide Rows.tallyApartRow.assume Try.checked os 6 .any (Rows.tallyApartSpec.pre6 enc Try.prog Try.f6 Rows.tallyApartRow.domain false) ((OpenSpec.ofChange Rows.tallyApartSpec).postWith enc Try.prog Try.f6 F (outsideKept [.timePasses]) false true false) := by
  refine returnsInLeavingWide_of_change_time (C := Try.checked) own started Try.func6
    (ChangeSpec.witness6c (enc := enc) (C := Try.checked) ⟨#[], #[.slice none 0 0, .agg #[.int .i64 0, .int .i64 0], .int .i64 0], []⟩ 8 (by kernel_rfl) (by kernel_rfl) (by kernel_rfl) (by kernel_rfl)) ?_
  intro W base args ds gs before hval0 hW _ hwt _
  have hval : ∀ (j : Nat) t v, Try.f6.params[j]? = some t → args[j]? = some v → Value.okWide Try.prog W .any base t v := hval0
  have hW' := hW
  have hlt := hW.lt
  obtain ⟨p, q, hA0, hV, rfl, _, _⟩ := hW
  have hA : DataW.TrodAll enc Try.prog W 0 (fun _ => true) true Try.f6.params.toList args.toList ds p := hA0
  obtain ⟨rfl, rfl⟩ := trodVars_none hV
  have hwt' : (DataW.weightsEach Try.prog Try.f6.params.toList ds).all (· ≤ reachBytes) = true := by
    have e2 : Rows.tallyApartSpec.plain.varTypes Try.checked.prog = [] := rfl
    rw [e2, List.append_nil, List.append_nil] at hwt
    exact hwt
  have hA1 := hA
  rw [Try.params6] at hA hval hwt'
  obtain ⟨v0, vs0, d0, ds0, p0, q0, hargs, rfl, rfl, h0, r0⟩ := trodAll_cons hA
  obtain ⟨v1, vs1, d1, ds1, p1, q1, rfl, rfl, rfl, h1, r1⟩ := trodAll_cons r0
  obtain ⟨v2, vs2, d2, ds2, p2, q2, rfl, rfl, rfl, h2, r2⟩ := trodAll_cons r1
  obtain ⟨rfl, rfl, rfl⟩ := trodAll_nil r2
  obtain rfl : args = #[v0, v1, v2] := by cases args; simp_all
  obtain ⟨sl, xs, cap, rfl, hlen, hst, hsl⟩ := steps_arg (hval 0 32 v0 rfl rfl) h0 (weightsEach_at (i := 0) hwt' rfl rfl)
  obtain ⟨bi, bn, rfl⟩ := step_arg (hval 1 31 v1 rfl rfl) h1 (weightsEach_at (i := 1) hwt' rfl rfl)
  obtain ⟨n, rfl, rfl, rfl, wn⟩ := open_int Try.underlying3 (hval 2 3 v2 rfl rfl) h2
  have hR := apart_run (Post := fun v W' => Rows.tallyApartSpec.post enc Try.prog Try.f6 false true false false W #[.slice sl xs.length cap, .agg #[.int .i64 bi, .int .i64 bn], .int .i64 n] v { W' with os := W.os } ∧ OsLater W.os W'.os) (W := W) (fun w' hk => ?_) xs (cap := cap) (n := n) (bi := bi) (bn := bn) hlen hst hsl
  · have hR2 : Run Try.prog (top (fun v W' => Rows.tallyApartSpec.post enc Try.prog Try.f6 false true false false W #[.slice sl xs.length cap, .agg #[.int .i64 bi, .int .i64 bn], .int .i64 n] v { W' with os := W.os } ∧ OsLater W.os W'.os) W) (G (Frame.enter Try.prog 6 #[.slice sl xs.length cap, .agg #[.int .i64 bi, .int .i64 bn], .int .i64 n] .normal) []) W := by
      rw [entered]
      exact hR
    exact Run.start hR2
  · have hbel : Below W.heap.size W { w' with os := W.os } := ⟨rfl, hk.tape, hk.output, hk.size, fun k h => hk.block k h (by omega)⟩
    refine ⟨⟨_, _, _, [], _, [], hW', trodAll_mk1 (shut_bool Try.underlying4 true), trodAll_bel laidOut hbel _ _ _ _ (fun t ht => ?_) hA1 (fun x hx => hlt x (by simpa using hx)), rfl, hbel.frame _, fun h => by cases h⟩, by rw [hk.os]; exact OsLater.refl W.os⟩
    have := List.all_eq_true.1 (show Try.f6.params.toList.all (fun t => Try.prog.readableRec t && decide (t < Try.prog.types.size)) = true from by kernel_rfl) t ht
    simpa using this
theorem over : Rows.tallyApartRow.holds Try.pinned (OpenSpec.ofChange Rows.tallyApartSpec) :=
  OpenClaim.holds_of_wide_leaving_time 6 Try.f6 rfl rfl rfl rfl rfl rfl rfl ⟨rfl, rfl, rfl, rfl, rfl⟩ rfl rfl rfl rfl rfl (by kernel_rfl) Try.func6 (by kernel_rfl)
    (of_decide_eq_true (by kernel_rfl)) (by unfold Func.isWrapper; first | (rw [if_pos (by decide +kernel)]; kernel_rfl) | (rw [if_neg (by decide +kernel)]; exact ⟨rfl, rfl⟩))
    (fun os started H enc _ F => lifted os started H enc F)
/-- the statement -/
theorem proved : Rows.TallyApartSaid := over
end Go.Proofs.Ytboiolnnhmlieaa.lawTallyApart
