/-
  The statement CrcResidue: behind any bytes their own sum makes the one sum.
  No condition.
-/
import Derived.Test.YtkmhjfileiabeaaApp
namespace Go.Proofs.Ytkmhjfileiabeaa.lawCrcResidue
open Go.ChangeShapes Go.WideShapes Go.ChangeAt Go.RowKit
set_option linter.unusedVariables false

theorem more_lt (s : Nat) (xs : List Nat) (hs : s < 2 ^ 32) (hx : ∀ x ∈ xs, x < 256) : Crc.more s xs < 2 ^ 32 := not_u32' _ (Crc.run_lt xs (not_u32' s hs) hx)
theorem rd8_lt {w : World} {A : Option Addr} {xs : List Nat} (h : Rd8 w A xs) : ∀ x ∈ xs, x < 256 := fun x hx => by
  obtain ⟨i, hi, e⟩ := List.getElem_of_mem hx
  obtain ⟨_, _, _, _, h, _⟩ := h i hi
  simpa [List.getD, hi, e] using h
def four (s : Nat) : List Nat := [s % 256, s / 256 % 256, s / 65536 % 256, s / 16777216 % 256]
theorem join8 (x m : Nat) (h : x < 256) : x ^^^ m * 2 ^ 8 = x + m * 256 := by
  have hd : (x ^^^ m * 2 ^ 8) / 2 ^ 8 = m := by
    rw [Nat.xor_div_two_pow, Nat.mul_div_cancel _ (by decide), Nat.div_eq_of_lt (by omega), Nat.zero_xor]
  have hm : (x ^^^ m * 2 ^ 8) % 2 ^ 8 = x := by
    rw [Nat.xor_mod_two_pow, Nat.mul_mod_left, Nat.mod_eq_of_lt (by omega), Nat.xor_zero]
  omega
theorem num_four (s : Nat) (h : s < 2 ^ 32) : Crc.num (four s) = s := by
  unfold four
  simp only [Crc.num]
  rw [join8 _ _ (by omega), join8 _ _ (by omega), join8 _ _ (by omega), join8 _ _ (by omega)]
  omega
theorem top_const : Crc.stps 32 Crc.top ^^^ Crc.top = 558161692 := by decide +kernel
theorem residue (xs : List Nat) (hx : ∀ x ∈ xs, x < 256) (s : Nat) (hs : s = Crc.more 0 xs) : Crc.more 0 (xs ++ four s) = 558161692 := by
  have hl := more_lt 0 xs (by decide) hx
  rw [← hs] at hl
  unfold Crc.more at hs ⊢
  rw [Crc.run_append, Crc.run_eq (four s), num_four s hl, hs]
  rw [show Crc.run (0 ^^^ Crc.top) xs ^^^ (Crc.run (0 ^^^ Crc.top) xs ^^^ Crc.top) = Crc.top from by rw [← Nat.xor_assoc, Nat.xor_self, Nat.zero_xor]]
  exact top_const

set_option maxRecDepth 20000 in
theorem walk (A : Option Addr) (cap : Nat) (xs : List Nat) (w : World) (hR : Rd8 w A xs) (hlen : Hid (xs.length ≤ 2 ^ 47)) :
    Calls Try.prog 6 #[.slice A xs.length cap] w fun e w' => e = .returned (.bool true) ∧ Below w.heap.size w w' := by
  have HR := Lib.hid hR
  clear hR
  by_cases hnat : 1048576 < xs.length
  · have hbig : (1048576 : Int) < (xs.length : Int) := by omega
    clear hnat
    go_enter Try.func6, Try.ntmps6
    go_wp2_with fail
    refine (crc_awake _).mono ?_
    rintro e w1 ⟨rfl, hb1⟩
    go_wp2_with fail
    go_ret
    exact ⟨rfl, hb1⟩
  · have hN := Lib.hid (Nat.le_of_not_lt hnat)
    have hbig : ¬ (1048576 : Int) < (xs.length : Int) := by omega
    clear hnat
    obtain ⟨s, hs⟩ : ∃ s, s = Crc.more 0 xs := ⟨_, rfl⟩
    have HX := Lib.hid hs
    have HL := Lib.hid (show s < 2 ^ 32 from hs ▸ more_lt 0 xs (by decide) (rd8_lt HR.out))
    clear hs
    obtain ⟨zs, hz⟩ : ∃ zs, zs = xs ++ four s := ⟨_, rfl⟩
    have HZ := Lib.hid hz
    clear hz
    obtain ⟨ys, hy⟩ : ∃ ys, ys = four s := ⟨_, rfl⟩
    have HY := Lib.hid hy
    clear hy
    go_enter Try.func6, Try.ntmps6
    go_wp2_with fail
    refine (crc_awake _).mono ?_
    rintro e w1 ⟨rfl, hb1⟩
    go_wp2_with fail
    refine (new_calls _).mono ?_
    rintro e w2 ⟨rfl, rfl⟩
    have hT := new_tab w1
    have hb2 : Below w.heap.size w (w1.alloc (.cells tabNew 67)) := bel_new hb1 _
    generalize w1.alloc (.cells tabNew 67) = w2 at *
    have hsz := hb1.size
    have hlt := hT.lt
    generalize w1.heap.size = g at *
    have HT := Lib.hid hT
    have HB := Lib.hid hb2
    clear hT hb2 hb1
    go_wp2_with fail
    refine (sum_calls g A cap xs w2 HT.out (HR.out.bel HB.out) (HR.out.off hsz) (by have := hN.out; omega)).mono ?_
    rintro e w3 ⟨rfl, hO3, hT3⟩
    have HO3 := Lib.hid (hO3.bel HB.out hsz)
    have HT3 := Lib.hid hT3
    have hlt3 := hT3.at_.lt
    clear hO3 hT3 HT HB hlt
    rw [← HX.out]
    go_wp2_with (first
      | (at_builtin
         refine wpList_app8 rfl (.tmp 15) (.tmp 16) rfl w3.heap.size _ [] rfl (Own8.lit w3 w3.heap.size (Nat.le_refl _) [] (by simp) (by simp [maxLen]) #[] rfl) A cap xs rfl (HR.out.bel (bel_new HO3.out _)) (by have := hN.out; simp; omega) (by simp) ?_
         intro v1 w4 ho1 hg1 _
         have hb4 := Lib.hid (Own8.grown (w0 := w3) (Own8.lit w3 w3.heap.size (Nat.le_refl _) [] (by simp) (by simp [maxLen]) #[] rfl) ((Below.refl _ _).alloc (Nat.le_refl _) _) (by simp) hg1))
      | (at_builtin
         refine wpList_app8 rfl (.tmp 18) (.tmp 30) rfl w3.heap.size v1 xs rfl (ho1.kept ((Below.refl _ _).alloc (Nat.le_refl _) _)) (some ⟨w4.heap.size, 0, none⟩) 4 (four s) rfl
           (rd8_new w4 _ _ (four s) (by intro x hx; simp only [four, List.mem_cons, List.not_mem_nil, or_false] at hx; omega) _ (by simp [four])) (by have := hN.out; simp [four]; omega) (by have := hb4.out.size; simp; omega) ?_
         intro v2 w5 ho2 hg2 _
         have hb5 := Lib.hid (Own8.grown (w0 := w3) (ho1.kept ((Below.refl _ _).alloc (Nat.le_refl _) _)) (hb4.out.alloc hb4.out.size _) (by have := hb4.out.size; simp; omega) hg2)
         rw [← HZ.out] at ho2
         obtain ⟨A2, c2, rfl, _, hR2, hF2⟩ := ho2.form
         clear hg1 hg2))
    have HR2 := Lib.hid hR2
    have HF2 := Lib.hid hF2
    clear ho1 ho2 hR2 hF2
    refine (sum_calls g A2 c2 zs w5 (HT3.out.at_.bel hb5.out) HR2.out (fun _ => HF2.out g hlt3) (by have := hN.out; rw [HZ.out, List.length_append]; simp [four]; omega)).mono ?_
    rintro e w6 ⟨rfl, hO6, hT6⟩
    have HO6 := Lib.hid (hO6.bel (bel_tr HO3.out hb5.out) hsz)
    clear hO6 hT6
    rw [HZ.out, residue xs (rd8_lt HR.out) s HX.out]
    go_wp2_with fail
    go_ret
    exact ⟨rfl, HO6.out⟩

set_option maxRecDepth 100000 in
theorem walks {H : Type} (enc : TypeId × Value → H) : Walks enc Try.prog 6 Try.f6 := by
  intro W base args ds ps hval hA hwt
  rw [Try.params6] at hA hval hwt
  obtain ⟨v0, vs0, d0, ds0, p0, q0, hargs, rfl, rfl, h0, r0⟩ := trodAll_cons hA
  obtain ⟨rfl, rfl, rfl⟩ := trodAll_nil r0
  obtain rfl : args = #[v0] := by cases args; simp_all
  obtain ⟨A, xs, cap, rfl, c1, c2, hR⟩ := bytes_arg (hval 0 22 v0 rfl rfl) h0 (weightsEach_at (i := 0) hwt rfl rfl)
  exact walk A cap xs W hR (Lib.hid (by omega))

set_option maxRecDepth 100000 in
theorem lifted (os : Os) (started : os.Started) (H : Type) (enc : TypeId × Value → H) :
    ReturnsInHanded {} Try.checked os 6 .any (Rows.crcResidueSpec.pre6 enc Try.prog Try.f6 Rows.crcResidueRow.domain false) (Rows.crcResidueSpec.post enc Try.prog Try.f6 false true false false) :=
  frame_lifted (C := Try.checked) own started (by kernel_rfl) Try.func6
    (ChangeSpec.witness6 (enc := enc) (C := Try.checked) false ⟨#[], #[.slice none 0 0], []⟩ 8 (by kernel_rfl) (by kernel_rfl) (by kernel_rfl) (by kernel_rfl)) laidOut (by kernel_rfl) rfl (by rfl) Try.underlying4
    (fun ds h => match ds, h with | [d0], _ => ⟨rfl, rfl, rfl⟩) (walks enc)

theorem over : Rows.crcResidueRow.holds Try.pinned (OpenSpec.ofChange Rows.crcResidueSpec) :=
  OpenClaim.holds_of_wide 6 Try.f6 rfl rfl rfl rfl rfl rfl rfl ⟨rfl, rfl, rfl, rfl, rfl⟩ rfl rfl rfl rfl rfl (by kernel_rfl) Try.func6 (by kernel_rfl)
    (of_decide_eq_true (by kernel_rfl)) (by unfold Func.isWrapper; first | (rw [if_pos (by decide +kernel)]; kernel_rfl) | (rw [if_neg (by decide +kernel)]; exact ⟨rfl, rfl⟩))
    (fun os started H enc _ => lifted os started H enc)

/-- the statement -/
theorem proved : Rows.CrcResidueSaid := over
end Go.Proofs.Ytkmhjfileiabeaa.lawCrcResidue
