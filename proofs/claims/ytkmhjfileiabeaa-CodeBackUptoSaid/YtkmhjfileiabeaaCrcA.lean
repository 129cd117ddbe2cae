/-
  The law's 'awake' of layer 2 returns true.
  No condition.
-/
import Derived.Test.YtkmhjfileiabeaaCrc2
import Derived.Lib.SlBytesConst
import Derived.Test.YtkmhjfileiabeaaOpen
namespace Go.Proofs.Ytkmhjfileiabeaa
open Go.RowKit
set_option linter.unusedVariables false

/-- a new row of bytes can be read -/
theorem rd8_new (w : World) (t : TypeId) (fr : Nat × Nat) (xs : List Nat) (hx : ∀ x ∈ xs, x < 256) (cs : Array Value) (hc : cs = (xs.map fun (x : Nat) => Value.int .u8 x).toArray) : Rd8 (w.alloc (.cells cs t fr)) (some ⟨w.heap.size, 0, none⟩) xs := fun i hi => by
  refine ⟨w.heap.size, 0, rfl, (by show _ < (w.heap.push _).size; simp), ?_, ?_⟩
  · simp only [List.getD, List.getElem?_eq_getElem hi, Option.getD_some]
    exact hx _ (List.getElem_mem hi)
  · rw [World.cell?_alloc_mark, hc]
    simp [List.getD, hi]

theorem crc_check : Crc.more 0 [49, 50, 51, 52, 53, 54, 55, 56, 57] = 3421780262 := by decide +kernel

set_option maxRecDepth 20000 in
theorem crc_awake (w : World) : Calls Try.prog 14 #[] w fun e w' => e = .returned (.bool true) ∧ Below w.heap.size w w' := by
  go_enter Try.func14, Try.ntmps14
  go_wp2_with fail
  refine (new_calls _).mono ?_
  rintro e w1 ⟨rfl, rfl⟩
  have hT := new_tab w
  have hbw : Below w.heap.size w (w.alloc (.cells tabNew 67)) := (Below.refl _ _).alloc (Nat.le_refl _) _
  generalize hw1 : w.alloc (.cells tabNew 67) = w1 at *
  clear hw1
  have hlt := hT.lt
  have kc := fun (w : World) (C : Array Value) (n c : Nat) => Lib.run_convert_bytes_const (P := Try.prog) w 22 5 C n c Try.underlying22 Try.underlying5
  have hS := Lib.hid (sum_calls w.heap.size (some ⟨w1.heap.size, 0, none⟩) 9 [49, 50, 51, 52, 53, 54, 55, 56, 57]
    (w1.alloc (.cells #[.int .u8 49, .int .u8 50, .int .u8 51, .int .u8 52, .int .u8 53, .int .u8 54, .int .u8 55, .int .u8 56, .int .u8 57] 5 (9, 10)))
    (hT.bel ((Below.refl _ _).alloc (Nat.le_refl _) _)) (rd8_new w1 _ _ [49, 50, 51, 52, 53, 54, 55, 56, 57] (by decide) _ rfl)
    (fun _ b off e => by injection e with e; injection e with e; omega) (by decide))
  rw [crc_check] at hS
  go_wp2_with fail
  refine hS.out.mono ?_
  rintro e w2 ⟨rfl, hO, hT2⟩
  go_wp2_with fail
  go_ret
  exact ⟨rfl, hO.bel (bel_new hbw _) (Nat.le_refl _)⟩

open Go.ChangeShapes Go.WideShapes Go.ChangeAt Go.Deep
/-- a row of bytes as an argument -/
theorem bytes_arg {H : Type} {enc : TypeId × Value → H} {w : World} {base b0 : Nat} {held : Bool} {v : Value} {d : DataW H} {p : List MemPlace}
    (hv : Value.okWide Try.prog w .any b0 22 v) (h : DataW.Trod enc Try.prog w base (fun _ => true) held 22 v d p) (hw : (d.weights Try.prog 22).all (· ≤ reachBytes) = true) :
    ∃ A xs cap, v = .slice A (List.length xs) cap ∧ List.length xs ≤ cap ∧ cap ≤ 2 ^ 47 ∧ Rd8 w A xs := by
  obtain ⟨A, len, cap, rfl, h1, _, h2, h4⟩ := open_arg_slice (n := 1) (ts := [5]) Try.underlying22 (by kernel_rfl) (by kernel_rfl) (by simp) hv h hw
  have hx : ∀ i, i < cap → ∃ x : Nat, x < 256 ∧ ∃ b off, A = some ⟨b, off, none⟩ ∧ b < w.heap.size ∧ w.cell? ⟨b, off + i, none⟩ = some (.int .u8 (x : Nat)) := fun i hi => by
    obtain ⟨b, off, vs, rfl, hb, _, hc, hl⟩ := h4 i hi
    obtain ⟨n, vs', rfl, hn, _⟩ := leaf_int Try.underlying5 hl
    have hr : 0 ≤ n ∧ n ≤ 255 := by have := hn; simp [Lit.wf, IntKind.min, IntKind.max, IntKind.signed, IntKind.bits] at this; omega
    obtain ⟨x, rfl⟩ := Int.eq_ofNat_of_zero_le hr.1
    have hc0 := hc 0 _ rfl
    simp only [List.length_cons, List.length_nil, Nat.zero_add, Nat.mul_one, Nat.add_zero] at hc0
    exact ⟨x, by omega, b, off, rfl, hb, hc0⟩
  refine ⟨A, (List.range len).map fun i => if hi : i < cap then (hx i hi).choose else 0, cap, by simp, by simpa using h1, by rw [show Try.prog.bytesOf 5 = 1 from by kernel_rfl] at h2; unfold reachBytes at h2; omega, fun i hi => ?_⟩
  have hi' : i < len := by simpa using hi
  obtain ⟨b1, b, off, e, hb, hc⟩ := (hx i (by omega)).choose_spec
  have e0 : ((List.range len).map fun i => if hi : i < cap then (hx i hi).choose else 0).getD i 0 = (hx i (by omega)).choose := by
    simp [List.getD, hi', show i < cap from by omega]
  rw [e0]
  exact ⟨b, off, e, hb, b1, hc⟩
end Go.Proofs.Ytkmhjfileiabeaa
