/-
  The law's 'awake' of layer 3; how long fields' bytes are.
  No condition.
-/
import Derived.Test.YtkmhjfileiabeaaCodeN
import Derived.Lib.SlBytesConst
namespace Go.Proofs.Ytkmhjfileiabeaa
open Go.RowKit
set_option linter.unusedVariables false
set_option linter.unusedSimpArgs false

theorem rdL_new {α : Type} [Inhabited α] {L : Lay α} (w : World) (e : TypeId) (xs : List α) (hm : xs.length ≤ maxLen) (cs : Array Value) (hc : cs = (L.flat xs).toArray) : RdL L (w.alloc (.cells cs e)) (some ⟨w.heap.size, 0, none⟩) xs := by
  obtain ⟨A, cap, e, _, _, h, _⟩ := (OwnL.lit (e := e) w w.heap.size (Nat.le_refl _) xs hm cs hc).form
  injection e with e
  subst e
  exact h

namespace Code
/-- numbers of 64 bits -/
def ok (fs : List Fi) : Prop := ∀ f ∈ fs, -9223372036854775808 ≤ f.2.1 ∧ f.2.1 ≤ 9223372036854775807
theorem enc1_len {f : Fi} {x : List Nat} (h : enc1 f = some x) (h0 : -9223372036854775808 ≤ f.2.1) (h1 : f.2.1 ≤ 9223372036854775807) : x.length ≤ 65546 := by
  unfold enc1 at h
  split at h
  · injection h with h
    rw [← h]
    have := vb_len 9 f.2.1.toNat (by omega)
    omega
  · split at h
    · injection h with h
      rw [← h]
      have := vb_len 9 (zz f.2.1) (by unfold zz; split <;> omega)
      omega
    · split at h
      · rename_i h3
        injection h with h
        rw [← h, List.length_append, sb_len]
        have := vb_len 9 f.2.2.size (by omega)
        omega
      · cases h
theorem enc_len : ∀ {fs : List Fi} {x : List Nat}, enc fs = some x → ok fs → x.length ≤ fs.length * 65546
  | [], x, h, _ => by
    simp only [enc, Option.some.injEq] at h
    subst h
    simp
  | f :: fs, x, h, hn => by
    simp only [enc] at h
    rcases h1 : enc1 f with _ | a
    · rw [h1] at h; simp at h
    · rcases h2 : enc fs with _ | b
      · rw [h1, h2] at h; simp at h
      · rw [h1, h2] at h
        simp only [Option.some.injEq] at h
        subst h
        have := enc1_len h1 (hn f (by simp)).1 (hn f (by simp)).2
        have := enc_len h2 (fun g hg => hn g (by simp [hg]))
        rw [List.length_append, List.length_cons, Nat.add_mul]
        omega
theorem ok_take {fs : List Fi} (h : ok fs) (k : Nat) : ok (fs.take k) := fun f hf => h f (List.mem_of_mem_take hf)
theorem small {fs : List Fi} (h : ok fs) (hl : fs.length ≤ 1048576) : ∀ k x, k ≤ fs.length → enc (fs.take k) = some x → x.length ≤ 2 ^ 38 := fun k x hk hx => by
  have := enc_len hx (ok_take h k)
  rw [List.length_take] at this
  have : min k fs.length * 65546 ≤ 1048576 * 65546 := Nat.mul_le_mul_right _ (by omega)
  omega
end Code

def awF : List Fi := [(1, 300, ⟨#[]⟩), (2, -1, ⟨#[]⟩), (3, 0, ⟨#[97, 98]⟩)]
theorem encW : Code.enc awF = some [172, 2, 1, 2, 97, 98] := by
  have h1 : Code.vb 300 = [172, 2] := by rw [Code.vb_big (by decide), Code.vb_small (by decide)]
  have h2 : Code.vb 1 = [1] := Code.vb_small (by decide)
  have h3 : Code.vb 2 = [2] := Code.vb_small (by decide)
  have e1 : Code.enc1 (1, 300, ⟨#[]⟩) = some [172, 2] := by unfold Code.enc1; rw [if_pos (by decide)]; exact congrArg some h1
  have e2 : Code.enc1 (2, -1, ⟨#[]⟩) = some [1] := by unfold Code.enc1; rw [if_neg (by decide), if_pos rfl]; exact congrArg some h2
  have e3 : Code.enc1 (3, 0, ⟨#[97, 98]⟩) = some [2, 97, 98] := by
    unfold Code.enc1; rw [if_neg (by decide), if_neg (by decide), if_pos (by decide)]
    show some (Code.vb 2 ++ [97, 98]) = _
    rw [h3]; rfl
  simp only [awF, Code.enc, e1, e2, e3]
  rfl
theorem decW : Code.dec [1] [172, 2] = ([(1, 300, bs [])], 0) := by rfl
theorem unfW : Code.unf [] = ([], 0, 20) := by rfl
theorem okW : Code.ok awF := fun f hf => by simp [awF] at hf; rcases hf with rfl | rfl | rfl <;> simp

set_option maxRecDepth 20000 in
set_option maxHeartbeats 4000000 in
theorem code_awake (w : World) : Calls Try.prog 20 #[] w fun e w' => e = .returned (.bool true) ∧ Below w.heap.size w w' := by
  have he := Lib.hid (fun (A : Option Addr) (W : World) (hR : RdF W A awF) => encode_calls A 3 awF W hR (by decide) okW (Code.small okW (by decide)))
  have hd := Lib.hid (fun (K A : Option Addr) (W : World) (hK : RdL (layI .i64) W K [1]) (hR : Rd8 W A [172, 2]) => decode_calls K 1 [1] A 2 [172, 2] W (Lib.hid hK) (by decide) (Lib.hid hR) (by decide) (by decide) (Lib.hid (by decide)))
  have hu := Lib.hid (fun (W : World) => unframe_calls none 0 [] W (Lib.hid (fun i hi => absurd hi (Nat.not_lt_zero _))) (by decide) (by decide))
  rw [encW] at he
  rw [decW] at hd
  rw [unfW] at hu
  have hR1 := rdL_new (L := layF) w 48 awF (by decide) #[.int .i64 1, .int .i64 300, .string ⟨#[]⟩, .int .i64 2, .int .i64 (-1), .string ⟨#[]⟩, .int .i64 3, .int .i64 0, .string ⟨#[97, 98]⟩] rfl
  have HR1 := Lib.hid hR1.toF
  clear hR1
  go_enter Try.func20, Try.ntmps20
  go_wp2_with fail
  refine (he.out _ _ HR1.out).mono ?_
  rintro e w1 ⟨⟨v1, rfl, u1, rfl, ho1⟩, hb1⟩
  have hbA := Lib.hid (bel_al (Below.refl _ w) hb1)
  obtain ⟨A1, c1, rfl, _, hA1, _⟩ := ho1.form
  have HA1 := Lib.hid hA1
  have hK := rdL_new (L := layI .i64) w1 3 [1] (by decide) #[.int .i64 1] rfl
  have hX := rd8_new (w1.alloc (.cells #[.int .i64 1] 3)) 5 (0, 0) [172, 2] (by decide) #[.int .u8 172, .int .u8 2] rfl
  rw [show (w1.alloc (.cells #[.int .i64 1] 3)).heap.size = w1.heap.size + 1 from by simp] at hX
  have HK := Lib.hid (hK.bel (bel_new (Below.refl _ _) (.cells #[.int .u8 172, .int .u8 2] 5)))
  have HX := Lib.hid hX
  clear ho1 hA1 hb1 hK hX
  go_wp2_with fail
  refine (hd.out _ _ _ HK.out HX.out).mono ?_
  rintro e w2 ⟨⟨v2, rfl, ho2⟩, hb2⟩
  have hbB := Lib.hid (bel_al (bel_new hbA.out _) hb2)
  have HA2 := Lib.hid ((HA1.out.bel (bel_new (bel_new (Below.refl _ _) _) _)).bel hb2)
  obtain ⟨A2, c2, rfl, _, _, hA2, _⟩ := ho2.form
  obtain ⟨b, off, rfl, hbl, hc⟩ := hA2 0 (by simp)
  have d1 := hc 1 _ rfl
  have HBL := Lib.hid hbl
  have HD1 := Lib.hid d1
  clear ho2 hb2 hA2 hc d1 hbl
  go_wp2_with fail
  refine (hu.out w2).mono ?_
  rintro e w3 ⟨⟨v3, rfl, ho3⟩, hb3⟩
  have hbC := Lib.hid (bel_tr hbB.out hb3)
  have d1 := (hb3.cell (p := ⟨b, off + 0 * layF.k + 1, none⟩) HBL.out).trans HD1.out
  rw [show off + 0 * layF.k + 1 = off + 1 from by simp] at d1
  have hcv := conv8 (HA2.out.bel hb3) c1
  rw [show bs [172, 2, 1, 2, 97, 98] = ⟨#[172, 2, 1, 2, 97, 98]⟩ from rfl] at hcv
  clear ho3 hb3
  simp only [List.length_cons, List.length_nil, Nat.zero_add, Nat.reduceAdd] at hcv
  go_wp2_with fail
  go_ret
  exact ⟨rfl, hbC.out⟩
end Go.Proofs.Ytkmhjfileiabeaa
