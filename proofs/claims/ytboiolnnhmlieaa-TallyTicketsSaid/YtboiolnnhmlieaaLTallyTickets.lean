
/-
  TallyTickets: the row.
  Conditions: none.
-/
import Derived.Test.YtboiolnnhmlieaaGe4
import Derived.Conc.HoldsTime
namespace Go.Proofs.Ytboiolnnhmlieaa.lawTallyTickets
open Go.Proofs.Ytboiolnnhmlieaa Go.Proofs.Ytboiolnnhmlieaa.Gang
open Go.Conc Go.ConcM Go.ConcN Go.ChangeShapes Go.WideShapes Go.ChangeAt Go.RowKit Go.Deep
set_option linter.unusedVariables false
set_option maxRecDepth 100000 in
theorem entered (sl : Option Addr) (l cap : Nat) : Frame.enter Try.prog 5 #[.slice sl l cap] .normal = (base 5).at ⟨#[.slice sl l cap, undef, undef, undef, undef, undef, undef, undef, undef, undef, undef, undef, undef, undef, undef, undef, undef, undef, undef, undef, undef, undef, undef, undef, undef, undef, undef, undef, undef, undef, undef, undef, undef, undef, undef, undef, undef, undef, undef, undef, undef, undef, undef, undef, undef, undef, undef, undef, undef, undef, undef, undef, undef, undef, undef, undef, undef, undef, undef, undef, undef, undef, undef, undef, undef, undef, undef, undef, undef, undef, undef, undef, undef, undef, undef, undef, undef, undef, undef, undef, undef, undef], []⟩ [.code (Try.f5.body.getD .skip)] := by
  simp [Frame.enter, Frame.at, base, Try.func5, Try.f5]
set_option maxRecDepth 100000 in
set_option maxHeartbeats 4000000 in
theorem lifted (os : Os) (started : os.Started) (H : Type) (enc : TypeId × Value → H) (F : Stop.Interp) :
    ReturnsInLeavingWide Rows.tallyTicketsRow.assume Try.checked os 5 .any (Rows.tallyTicketsSpec.pre6 enc Try.prog Try.f5 Rows.tallyTicketsRow.domain false) ((OpenSpec.ofChange Rows.tallyTicketsSpec).postWith enc Try.prog Try.f5 F (outsideKept [.timePasses]) false true false) := by
  refine returnsInLeavingWide_of_change_time (C := Try.checked) own started Try.func5
    (ChangeSpec.witness6c (enc := enc) (C := Try.checked) ⟨#[], #[.slice none 0 0], []⟩ 8 (by kernel_rfl) (by kernel_rfl) (by kernel_rfl) (by kernel_rfl)) ?_
  intro W base args ds gs before hval0 hW _ hwt _
  have hval : ∀ (j : Nat) t v, Try.f5.params[j]? = some t → args[j]? = some v → Value.okWide Try.prog W .any base t v := hval0
  have hW' := hW
  have hlt := hW.lt
  obtain ⟨p, q, hA0, hV, rfl, _, _⟩ := hW
  have hA : DataW.TrodAll enc Try.prog W 0 (fun _ => true) true Try.f5.params.toList args.toList ds p := hA0
  obtain ⟨rfl, rfl⟩ := trodVars_none hV
  have hwt' : (DataW.weightsEach Try.prog Try.f5.params.toList ds).all (· ≤ reachBytes) = true := by
    have e2 : Rows.tallyTicketsSpec.plain.varTypes Try.checked.prog = [] := rfl
    rw [e2, List.append_nil, List.append_nil] at hwt
    exact hwt
  have hA1 := hA
  rw [Try.params5] at hA hval hwt'
  obtain ⟨v0, vs0, d0, ds0, p0, q0, hargs, rfl, rfl, h0, r0⟩ := trodAll_cons hA
  obtain ⟨rfl, rfl, rfl⟩ := trodAll_nil r0
  obtain rfl : args = #[v0] := by cases args; simp_all
  obtain ⟨sl, ds, cap, rfl, hlen, hst, hsl, hin⟩ := dos_arg (hval 0 22 v0 rfl rfl) h0 (weightsEach_at (i := 0) hwt' rfl rfl)
  have hR := tickets_run (Post := fun v W' => Rows.tallyTicketsSpec.post enc Try.prog Try.f5 false true false false W #[.slice sl ds.length cap] v { W' with os := W.os } ∧ OsLater W.os W'.os) (W := W) (fun w' hk => ?_) ds (cap := cap) hlen hst hsl
  · have hR2 : Run Try.prog (top (fun v W' => Rows.tallyTicketsSpec.post enc Try.prog Try.f5 false true false false W #[.slice sl ds.length cap] v { W' with os := W.os } ∧ OsLater W.os W'.os) W) (G (Frame.enter Try.prog 5 #[.slice sl ds.length cap] .normal) []) W := by
      rw [entered]
      exact hR
    exact Run.start hR2
  · have hbel : Below W.heap.size W { w' with os := W.os } := ⟨rfl, hk.tape, hk.output, hk.size, fun k h => hk.block k h (by omega)⟩
    refine ⟨⟨_, _, _, [], _, [], hW', trodAll_mk1 (shut_bool Try.underlying4 true), trodAll_bel laidOut hbel _ _ _ _ (fun t ht => ?_) hA1 (fun x hx => hlt x (by simpa using hx)), rfl, hbel.frame _, fun h => by cases h⟩, by rw [hk.os]; exact OsLater.refl W.os⟩
    have := List.all_eq_true.1 (show Try.f5.params.toList.all (fun t => Try.prog.readableRec t && decide (t < Try.prog.types.size)) = true from by kernel_rfl) t ht
    simpa using this
theorem over : Rows.tallyTicketsRow.holds Try.pinned (OpenSpec.ofChange Rows.tallyTicketsSpec) :=
  OpenClaim.holds_of_wide_leaving_time 5 Try.f5 rfl rfl rfl rfl rfl rfl rfl ⟨rfl, rfl, rfl, rfl, rfl⟩ rfl rfl rfl rfl rfl (by kernel_rfl) Try.func5 (by kernel_rfl)
    (of_decide_eq_true (by kernel_rfl)) (by unfold Func.isWrapper; first | (rw [if_pos (by decide +kernel)]; kernel_rfl) | (rw [if_neg (by decide +kernel)]; exact ⟨rfl, rfl⟩))
    (fun os started H enc _ F => lifted os started H enc F)
/-- the statement -/
theorem proved : Rows.TallyTicketsSaid := over
end Go.Proofs.Ytboiolnnhmlieaa.lawTallyTickets
