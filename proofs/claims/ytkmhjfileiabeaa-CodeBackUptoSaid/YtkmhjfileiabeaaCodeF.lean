/-
  Fields in memory: such as can be read; fields as an argument; what they are written as.
  No condition.
-/
import Derived.Test.YtkmhjfileiabeaaStr2
namespace Go.Proofs.Ytkmhjfileiabeaa
open Go.ChangeShapes Go.WideShapes Go.ChangeAt Go.RowKit Go.Deep
set_option linter.unusedVariables false
set_option linter.unusedSimpArgs false

/-- a field: its kind, its number, its text -/
abbrev Fi := Int × Int × ByteArray
/-- fields that can be read -/
def RdF (w : World) (A : Option Addr) (fs : List Fi) : Prop :=
  ∀ i, i < fs.length → ∃ b off, A = some ⟨b, off, none⟩ ∧ b < w.heap.size ∧ w.cell? ⟨b, off + i * 3, none⟩ = some (.int .i64 (fs.getD i default).1) ∧
    w.cell? ⟨b, off + i * 3 + 1, none⟩ = some (.int .i64 (fs.getD i default).2.1) ∧ w.cell? ⟨b, off + i * 3 + 2, none⟩ = some (.string (fs.getD i default).2.2)
theorem RdF.bel {w w' : World} {A : Option Addr} {fs : List Fi} (h : RdF w A fs) (hb : Below w.heap.size w w') : RdF w' A fs := fun i hi => by
  obtain ⟨b, off, e, hlt, h1, h2, h3⟩ := h i hi
  exact ⟨b, off, e, Nat.lt_of_lt_of_le hlt hb.size, (hb.cell (p := ⟨b, off + i * 3, none⟩) hlt).trans h1, (hb.cell (p := ⟨b, off + i * 3 + 1, none⟩) hlt).trans h2, (hb.cell (p := ⟨b, off + i * 3 + 2, none⟩) hlt).trans h3⟩
theorem RdF.nil (w : World) (A : Option Addr) : RdF w A [] := fun i hi => absurd hi (Nat.not_lt_zero _)

set_option maxRecDepth 100000 in
/-- fields as an argument; their numbers are those of 64 bits, their texts within the reach -/
theorem fields_arg {H : Type} {enc : TypeId × Value → H} {w : World} {base b0 : Nat} {held : Bool} {v : Value} {d : DataW H} {p : List MemPlace}
    (hv : Value.okWide Try.prog w .any b0 37 v) (h : DataW.Trod enc Try.prog w base (fun _ => true) held 37 v d p) (hw : (d.weights Try.prog 37).all (· ≤ reachBytes) = true) :
    ∃ A fs cap, v = .slice A (List.length fs) cap ∧ List.length fs ≤ cap ∧ cap ≤ 5000000000000 ∧ RdF w A fs ∧ ∀ f ∈ fs, -9223372036854775808 ≤ f.2.1 ∧ f.2.1 ≤ 9223372036854775807 := by
  obtain ⟨A, len, cap, rfl, h1, _, h2, h4⟩ := open_arg_slice (n := 2) (ts := [3, 2, 9]) Try.underlying37 (by kernel_rfl) (by kernel_rfl) (by simp) hv h hw
  have hx : ∀ i, i < cap → ∃ x : Fi, (-9223372036854775808 ≤ x.2.1 ∧ x.2.1 ≤ 9223372036854775807) ∧ ∃ b off, A = some ⟨b, off, none⟩ ∧ b < w.heap.size ∧ w.cell? ⟨b, off + i * 3, none⟩ = some (.int .i64 x.1) ∧ w.cell? ⟨b, off + i * 3 + 1, none⟩ = some (.int .i64 x.2.1) ∧ w.cell? ⟨b, off + i * 3 + 2, none⟩ = some (.string x.2.2) := fun i hi => by
    obtain ⟨b, off, vs, rfl, hb, _, hc, hl⟩ := h4 i hi
    obtain ⟨k, vs1, rfl, _, hl⟩ := leaf_int Try.underlying3 hl
    obtain ⟨n, vs2, rfl, hn, hl⟩ := leaf_int Try.underlying2 hl
    obtain ⟨s, vs3, rfl, _, _, hl⟩ := leaf_string Try.underlying9 hl
    have g0 := hc 0 _ rfl
    have g1 := hc 1 _ rfl
    have g2 := hc 2 _ rfl
    exact ⟨(k, n, s), by simp [Lit.wf, IntKind.min, IntKind.max, IntKind.signed, IntKind.bits] at hn; exact hn, b, off, rfl, hb, g0, g1, g2⟩
  have e0 : ∀ i, i < len → ((List.range len).map fun i => if hi : i < cap then (hx i hi).choose else default).getD i default = if hi : i < cap then (hx i hi).choose else default := fun i hi => by
    simp [List.getD, hi]
  refine ⟨A, (List.range len).map fun i => if hi : i < cap then (hx i hi).choose else default, cap, by simp, by simpa using h1, by rw [show Try.prog.bytesOf 48 = 32 from by kernel_rfl] at h2; unfold reachBytes at h2; omega, fun i hi => ?_, fun f hf => ?_⟩
  · have hi' : i < len := by simpa using hi
    obtain ⟨_, b, off, e, hb, g0, g1, g2⟩ := (hx i (by omega)).choose_spec
    rw [e0 i hi', dif_pos (show i < cap by omega)]
    exact ⟨b, off, e, hb, g0, g1, g2⟩
  · obtain ⟨i, hi, rfl⟩ := List.mem_map.1 hf
    have hi' : i < len := by simpa using hi
    rw [dif_pos (show i < cap by omega)]
    exact (hx i (by omega)).choose_spec.1

namespace Code
/-- a number as an unsigned one: its sign last -/
def zz (n : Int) : Nat := if n < 0 then (2 * (-(n + 1)) + 1).toNat else (2 * n).toNat
/-- a field's bytes -/
def enc1 (f : Fi) : Option (List Nat) :=
  if f.1 = 1 ∧ 0 ≤ f.2.1 then some (vb f.2.1.toNat)
  else if f.1 = 2 then some (vb (zz f.2.1))
  else if f.1 = 3 ∧ f.2.2.size ≤ 65536 then some (vb f.2.2.size ++ sb f.2.2)
  else none
/-- fields' bytes -/
def enc : List Fi → Option (List Nat)
  | [] => some []
  | f :: fs => match enc1 f, enc fs with
    | some a, some b => some (a ++ b)
    | _, _ => none
end Code
end Go.Proofs.Ytkmhjfileiabeaa
