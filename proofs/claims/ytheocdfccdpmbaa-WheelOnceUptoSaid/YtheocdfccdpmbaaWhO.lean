/-
  Contract: Cancel beside another wheel and rows; one item as an argument.
  Conditions: the wheel holds S.
-/
import Derived.Test.YtheocdfccdpmbaaWhN
namespace Go.Proofs.Ytheocdfccdpmbaa
open Go.ChangeShapes Go.WideShapes Go.ChangeAt Go.RowKit Go.Deep Go.Maps
set_option linter.unusedVariables false
set_option linter.unusedSimpArgs false
theorem cancel_st {w0 W : World} {d : Wd} {o : Option Wd} {rows : List (Value × List Itm)} (H : Hid (Stt w0 d o rows W)) (id : Int) (h0 : -9223372036854775808 ≤ id) (h1 : id ≤ 9223372036854775807) :
    Calls Try.prog 36 #[.pointer (some ⟨d.g, 0, none⟩), .int .i64 id] W fun e w' => e = .returned (.bool (Wh.hasId d.S id)) ∧ Stt w0 ⟨d.g, d.mb, d.now, Wh.del id d.S⟩ o rows w' := by
  obtain ⟨pv, pv2, h⟩ := H.out
  refine (cancel_calls (Lib.hid h.wh) id h0 h1).mono ?_
  rintro e w' ⟨rfl, hw⟩
  exact ⟨rfl, Stt.to1 h hw⟩
set_option maxRecDepth 100000 in
/-- one item as an argument -/
theorem item_arg {H : Type} {enc : TypeId × Value → H} {w : World} {base b0 : Nat} {held : Bool} {v : Value} {d : DataW H} {p : List MemPlace}
    (hv : Value.okWide Try.prog w .any b0 31 v) (h : DataW.Trod enc Try.prog w base (fun _ => true) held 31 v d p) (hw : (d.weights Try.prog 31).all (· ≤ reachBytes) = true) :
    ∃ x, v = itmV x ∧ B64 x.id ∧ B64 x.at_ := by
  obtain ⟨vs, rfl, hl⟩ := open_arg (n := 3) (ts := [3, 2]) Try.underlying31 (by kernel_rfl) hv h hw
  obtain ⟨k, vs, rfl, hk, hl⟩ := leaf_int Try.underlying3 hl
  obtain ⟨n, vs, rfl, hn, hl⟩ := leaf_int Try.underlying2 hl
  obtain rfl := leaf_nil hl
  have hk2 : B64 k := by simp [Lit.wf, IntKind.min, IntKind.max, IntKind.signed, IntKind.bits] at hk; exact hk
  have hn2 : B64 n := by simp [Lit.wf, IntKind.min, IntKind.max, IntKind.signed, IntKind.bits] at hn; exact hn
  exact ⟨⟨k, n⟩, rfl, hk2, hn2⟩
theorem insS_no {now : Int} {S : List Itm} {x : Itm} (h : Wh.insE now S x ≠ 0) : Wh.insS now S x = S := by unfold Wh.insS; rw [if_neg h]
theorem hasId_ins {now : Int} {x : Itm} (h : Wh.insE now [] x = 0) : Wh.hasId (Wh.insS now [] x) x.id = true := by
  unfold Wh.insS
  rw [if_pos h]
  simp [Wh.hasId, Wh.ins]
end Go.Proofs.Ytheocdfccdpmbaa
