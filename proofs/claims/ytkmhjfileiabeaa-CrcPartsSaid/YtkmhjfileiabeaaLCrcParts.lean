/-
  The statement CrcParts: a sum goes on from the first part over the second.
  No condition.
-/
import Derived.Test.YtkmhjfileiabeaaApp
namespace Go.Proofs.Ytkmhjfileiabeaa.lawCrcParts
open Go.ChangeShapes Go.WideShapes Go.ChangeAt Go.RowKit
set_option linter.unusedVariables false

theorem more_lt (s : Nat) (xs : List Nat) (hs : s < 2 ^ 32) (hx : ∀ x ∈ xs, x < 256) : Crc.more s xs < 2 ^ 32 := not_u32' _ (Crc.run_lt xs (not_u32' s hs) hx)
theorem more_app (s : Nat) (xs ys : List Nat) : Crc.more s (xs ++ ys) = Crc.more (Crc.more s xs) ys := by
  unfold Crc.more
  rw [Crc.run_append, Nat.xor_assoc, Nat.xor_self, Nat.xor_zero]
theorem rd8_lt {w : World} {A : Option Addr} {xs : List Nat} (h : Rd8 w A xs) : ∀ x ∈ xs, x < 256 := fun x hx => by
  obtain ⟨i, hi, e⟩ := List.getElem_of_mem hx
  obtain ⟨_, _, _, _, h, _⟩ := h i hi
  simpa [List.getD, hi, e] using h

theorem walk (A : Option Addr) (cap : Nat) (xs : List Nat) (C : Option Addr) (cap' : Nat) (ys : List Nat) (w : World) (hR : Rd8 w A xs) (hS : Rd8 w C ys) (hlen : Hid (xs.length ≤ 2 ^ 47)) (hlen' : Hid (ys.length ≤ 2 ^ 47)) :
    Calls Try.prog 4 #[.slice A xs.length cap, .slice C ys.length cap'] w fun e w' => e = .returned (.bool true) ∧ Below w.heap.size w w' := by
  have HR := Lib.hid hR
  have HS := Lib.hid hS
  clear hR hS
  have k1 : ((xs.length : Int) + (ys.length : Int)) ≤ 9223372036854775807 := by have := hlen.out; have := hlen'.out; omega
  by_cases hnat : 1048576 < xs.length + ys.length
  · have hbig : (1048576 : Int) < (xs.length : Int) + (ys.length : Int) := by omega
    clear hnat
    go_enter Try.func4, Try.ntmps4
    go_wp2_with fail
    refine (crc_awake _).mono ?_
    rintro e w1 ⟨rfl, hb1⟩
    go_wp2_with fail
    go_ret
    exact ⟨rfl, hb1⟩
  · have hN := Lib.hid (Nat.le_of_not_lt hnat)
    have hbig : ¬ (1048576 : Int) < (xs.length : Int) + (ys.length : Int) := by omega
    clear hnat
    obtain ⟨zs, hz⟩ : ∃ zs, zs = xs ++ ys := ⟨_, rfl⟩
    have HZ := Lib.hid hz
    clear hz
    go_enter Try.func4, Try.ntmps4
    go_wp2_with fail
    refine (crc_awake _).mono ?_
    rintro e w1 ⟨rfl, hb1⟩
    go_wp2_with fail
    refine (new_calls _).mono ?_
    rintro e w2 ⟨rfl, rfl⟩
    have hT := new_tab w1
    have hb2 : Below w.heap.size w (w1.alloc (.cells tabNew 67)) := bel_new hb1 _
    generalize w1.alloc (.cells tabNew 67) = w2 at *
    have hsz := hb1.size
    have hlt := hT.lt
    generalize w1.heap.size = g at *
    have HT := Lib.hid hT
    have HB := Lib.hid hb2
    clear hT hb2 hb1
    go_wp2_with (first
      | (at_builtin
         refine wpList_app8 rfl (.tmp 16) (.tmp 17) rfl w2.heap.size _ [] rfl (Own8.lit w2 w2.heap.size (Nat.le_refl _) [] (by simp) (by simp [maxLen]) #[] rfl) A cap xs rfl (HR.out.bel (bel_new HB.out _)) (by have := hN.out; simp; omega) (by simp) ?_
         intro v1 w3 ho1 hg1 _
         have hb3 := Lib.hid (Own8.grown (w0 := w2) (Own8.lit w2 w2.heap.size (Nat.le_refl _) [] (by simp) (by simp [maxLen]) #[] rfl) ((Below.refl _ _).alloc (Nat.le_refl _) _) (by simp) hg1))
      | (at_builtin
         refine wpList_app8 rfl (.tmp 19) (.tmp 20) rfl w2.heap.size v1 xs rfl ho1 C cap' ys rfl (HS.out.bel (bel_tr HB.out hb3.out)) (by have := hN.out; omega) hb3.out.size ?_
         intro v2 w4 ho2 hg2 _
         have hb4 := Lib.hid (Own8.grown ho1 hb3.out hb3.out.size hg2)
         rw [← HZ.out] at ho2
         obtain ⟨A2, c2, rfl, _, hR2, hF2⟩ := ho2.form
         clear hg1 hg2))
    have HR2 := Lib.hid hR2
    have HF2 := Lib.hid hF2
    clear ho1 ho2 hR2 hF2
    refine (sum_calls g A2 c2 zs w4 (HT.out.bel hb4.out) HR2.out (fun _ => HF2.out g hlt) (by have := hN.out; rw [HZ.out, List.length_append]; omega)).mono ?_
    rintro e w5 ⟨rfl, hO5, hT5⟩
    have HO5 := Lib.hid (hO5.bel (bel_tr HB.out hb4.out) hsz)
    have HT5 := Lib.hid hT5
    clear hO5 hT5
    go_wp2_with fail
    refine (sum_calls g A cap xs w5 HT5.out.at_ (HR.out.bel HO5.out) (HR.out.off hsz) (by have := hN.out; omega)).mono ?_
    rintro e w6 ⟨rfl, hO6, hT6⟩
    have HO6 := Lib.hid (hO6.bel HO5.out hsz)
    have HT6 := Lib.hid hT6
    clear hO6 hT6
    go_wp2_with fail
    refine (more_calls g (Crc.more 0 xs) C cap' ys w6 (Lib.hid (more_lt 0 xs (by decide) (rd8_lt HR.out))) HT6.out.at_ (HS.out.bel HO6.out) (HS.out.off hsz) (by have := hN.out; omega)).mono ?_
    rintro e w7 ⟨rfl, hO7, hT7⟩
    have HO7 := Lib.hid (hO7.bel HO6.out hsz)
    clear hO7 hT7
    rw [← more_app, ← HZ.out]
    go_wp2_with fail
    go_ret
    exact ⟨rfl, HO7.out⟩

set_option maxRecDepth 100000 in
theorem walks {H : Type} (enc : TypeId × Value → H) : Walks enc Try.prog 4 Try.f4 := by
  intro W base args ds ps hval hA hwt
  rw [Try.params4] at hA hval hwt
  obtain ⟨v0, vs0, d0, ds0, p0, q0, hargs, rfl, rfl, h0, r0⟩ := trodAll_cons hA
  obtain ⟨v1, vs1, d1, ds1, p1, q1, rfl, rfl, rfl, h1, r1⟩ := trodAll_cons r0
  obtain ⟨rfl, rfl, rfl⟩ := trodAll_nil r1
  obtain rfl : args = #[v0, v1] := by cases args; simp_all
  obtain ⟨A, xs, cap, rfl, c1, c2, hR⟩ := bytes_arg (hval 0 22 v0 rfl rfl) h0 (weightsEach_at (i := 0) hwt rfl rfl)
  obtain ⟨A', xs', cap', rfl, c1', c2', hR'⟩ := bytes_arg (hval 1 22 v1 rfl rfl) h1 (weightsEach_at (i := 1) hwt rfl rfl)
  exact walk A cap xs A' cap' xs' W hR hR' (Lib.hid (by omega)) (Lib.hid (by omega))

set_option maxRecDepth 100000 in
theorem lifted (os : Os) (started : os.Started) (H : Type) (enc : TypeId × Value → H) :
    ReturnsInHanded {} Try.checked os 4 .any (Rows.crcPartsSpec.pre6 enc Try.prog Try.f4 Rows.crcPartsRow.domain false) (Rows.crcPartsSpec.post enc Try.prog Try.f4 false true false false) :=
  frame_lifted (C := Try.checked) own started (by kernel_rfl) Try.func4
    (ChangeSpec.witness6 (enc := enc) (C := Try.checked) false ⟨#[], #[.slice none 0 0, .slice none 0 0], []⟩ 8 (by kernel_rfl) (by kernel_rfl) (by kernel_rfl) (by kernel_rfl)) laidOut (by kernel_rfl) rfl (by rfl) Try.underlying4
    (fun ds h => match ds, h with | [d0, d1], _ => ⟨rfl, rfl, rfl⟩) (walks enc)

theorem over : Rows.crcPartsRow.holds Try.pinned (OpenSpec.ofChange Rows.crcPartsSpec) :=
  OpenClaim.holds_of_wide 4 Try.f4 rfl rfl rfl rfl rfl rfl rfl ⟨rfl, rfl, rfl, rfl, rfl⟩ rfl rfl rfl rfl rfl (by kernel_rfl) Try.func4 (by kernel_rfl)
    (of_decide_eq_true (by kernel_rfl)) (by unfold Func.isWrapper; first | (rw [if_pos (by decide +kernel)]; kernel_rfl) | (rw [if_neg (by decide +kernel)]; exact ⟨rfl, rfl⟩))
    (fun os started H enc _ => lifted os started H enc)

/-- the statement -/
theorem proved : Rows.CrcPartsSaid := over
end Go.Proofs.Ytkmhjfileiabeaa.lawCrcParts
