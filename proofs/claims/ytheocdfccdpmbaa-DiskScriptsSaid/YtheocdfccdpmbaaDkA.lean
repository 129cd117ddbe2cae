/-
  The law's 'awake' of layer 9 returns true.
  No condition.
-/
import Derived.Test.YtheocdfccdpmbaaDk9
import Derived.Lib.SlBytesConst
namespace Go.Proofs.Ytheocdfccdpmbaa
open Go.RowKit Go.Maps
set_option linter.unusedVariables false
set_option linter.unusedSimpArgs false
set_option maxHeartbeats 8000000

/-- a new row of bytes can be read -/
theorem rdB_new (w : World) (t : TypeId) (fr : Nat × Nat) (xs : List UInt8) (cs : Array Value) (hc : cs = (xs.map fun x => Value.int .u8 x.toNat).toArray) : RdL layB (w.alloc (.cells cs t fr)) (some ⟨w.heap.size, 0, none⟩) xs := fun i hi => by
  refine ⟨w.heap.size, 0, rfl, (by show _ < (w.heap.push _).size; simp), fun r u hu => ?_⟩
  have hr : r = 0 := by
    have := (List.getElem?_eq_some_iff.1 hu).1
    simp [layB] at this
    omega
  subst hr
  have hk : layB.k = 1 := rfl
  rw [World.cell?_alloc_mark, hc, hk]
  simp only [layB, List.getElem?_cons_zero, Option.some.injEq] at hu
  rw [← hu]
  simp [List.getD, hi]
abbrev nA : ByteArray := ⟨#[97]⟩
abbrev nB : ByteArray := ⟨#[98]⟩
abbrev nBig : ByteArray := ⟨#[65]⟩
abbrev nC : ByteArray := ⟨#[99]⟩
namespace DkG
def a1 : DkG := new.app nA [111, 110, 101]
def a2 : DkG := a1.sync nA
def a3 : DkG := a2.app nA [116, 119, 111]
def a4 : DkG := a3.app nB [116, 104, 114, 101, 101]
def a5 : DkG := a4.crash 1 2
theorem e1 : new.appE nA 3 = 0 := by kernel_rfl
theorem e2 : Dk.thereE a1.F nA = 0 := by kernel_rfl
theorem u4 : a4.uns = 2 := by kernel_rfl
theorem r5a : a5.read nA = [111, 110, 101, 116, 119, 111] := by kernel_rfl
theorem r5b : a5.read nB = [116, 104] := by kernel_rfl
theorem t5a : Dk.thereE a5.F nA = 0 := by kernel_rfl
theorem u5 : a5.uns = 0 := by kernel_rfl
theorem e5 : a5.appE nBig 0 = 1 := by kernel_rfl
theorem n5 : a5.app nBig [] = a5 := app_no (by rw [show ([] : List UInt8).length = 0 from rfl, e5]; decide)
theorem t5c : Dk.thereE a5.F nC = 80 := by kernel_rfl
end DkG
set_option maxRecDepth 20000 in
theorem disk_awake (w : World) : Calls Try.prog 20 #[] w fun e w' => e = .returned (.bool true) ∧ Below w.heap.size w w' := by
  have kc := fun (w : World) (C : Array Value) (n c : Nat) => Lib.run_convert_bytes_const (P := Try.prog) w 47 5 C n c Try.underlying47 Try.underlying5
  go_enter Try.func20, Try.ntmps20
  go_wp2_with fail
  refine (new_g (Lib.hid (Sp.nil w))).mono ?_
  rintro e w1 ⟨g, rfl, h1⟩
  have H1 := Lib.hid h1
  clear h1
  go_wp2_with fail
  have H1b := Lib.hid (H1.out.keep (Below.alloc (Below.refl _ _) (Nat.le_refl _) (.cells #[.int .u8 111, .int .u8 110, .int .u8 101] 5 (3, 4))))
  refine (append_g H1b nA (by decide) _ 3 [111, 110, 101] (Lib.hid (rdB_new w1 _ _ _ _ rfl)) (by simp) (by decide +kernel)).mono ?_
  rintro e w2 ⟨he, h2⟩
  obtain rfl : e = .returned (.int .i64 0) := he.trans (ret_int DkG.e1)
  clear he
  have H2 : Hid (Sp w (dkT g DkG.a1 :: []) w2) := Lib.hid h2
  clear h2 H1 H1b
  go_wp2_with fail
  refine (sync_g H2 nA (by decide) (by decide +kernel)).mono ?_
  rintro e w3 ⟨he, h3⟩
  obtain rfl : e = .returned (.int .i64 0) := he.trans (ret_int DkG.e2)
  clear he
  have H3 : Hid (Sp w (dkT g DkG.a2 :: []) w3) := Lib.hid h3
  clear h3 H2
  go_wp2_with fail
  have H3b := Lib.hid (H3.out.keep (Below.alloc (Below.refl _ _) (Nat.le_refl _) (.cells #[.int .u8 116, .int .u8 119, .int .u8 111] 5 (3, 4))))
  refine (append_g H3b nA (by decide) _ 3 [116, 119, 111] (Lib.hid (rdB_new w3 _ _ _ _ rfl)) (by simp) (by decide +kernel)).mono ?_
  rintro e w4 ⟨rfl, h4⟩
  have H4 : Hid (Sp w (dkT g DkG.a3 :: []) w4) := Lib.hid h4
  clear h4 H3 H3b
  go_wp2_with fail
  have H4b := Lib.hid (H4.out.keep (Below.alloc (Below.refl _ _) (Nat.le_refl _) (.cells #[.int .u8 116, .int .u8 104, .int .u8 114, .int .u8 101, .int .u8 101] 5 (5, 6))))
  refine (append_g H4b nB (by decide) _ 5 [116, 104, 114, 101, 101] (Lib.hid (rdB_new w4 _ _ _ _ rfl)) (by simp) (by decide +kernel)).mono ?_
  rintro e w5 ⟨rfl, h5⟩
  have H5 : Hid (Sp w (dkT g DkG.a4 :: []) w5) := Lib.hid h5
  clear h5 H4 H4b
  go_wp2_with fail
  refine (waiting_g H5).mono ?_
  rintro e w6 ⟨he, rfl⟩
  obtain rfl : e = .returned (.int .i64 2) := he.trans (ret_int (by rw [DkG.u4]; rfl))
  clear he
  go_wp2_with fail
  refine (crash_g H5 (by rw [DkG.u4]; omega) 1 2).mono ?_
  rintro e w7 ⟨rfl, h7⟩
  have H7 : Hid (Sp w (dkT g DkG.a5 :: []) w7) := Lib.hid h7
  clear h7 H5
  go_wp2_with fail
  refine (read_g H7 nA (by decide)).mono ?_
  rintro e w8 ⟨A8, c8, he, o8, b8⟩
  rw [DkG.r5a] at he o8
  obtain rfl : e = .returned (.tuple #[.slice A8 6 c8, .int .i64 0]) := he.trans (by rw [DkG.t5a]; rfl)
  clear he
  have H8 := Lib.hid (H7.out.row b8 o8)
  clear o8 b8 H7
  go_wp2_with fail
  refine (read_g (Lib.hid (H8.out.perm (List.Perm.swap ..))) nB (by decide)).mono ?_
  rintro e w9 ⟨A9, c9, he, o9, b9⟩
  rw [DkG.r5b] at he o9
  obtain ⟨t9, he⟩ : ∃ t9, e = .returned (.tuple #[.slice A9 2 c9, .int .i64 t9]) := ⟨_, he⟩
  subst he
  have H9 := Lib.hid ((H8.out.perm (List.Perm.swap ..)).row b9 o9)
  clear o9 b9 H8
  have v8 := convB (H9.out.rd (e := 5) (A := A8) (n := 6) (c := c8) (xs := [111, 110, 101, 116, 119, 111]) (by simp)) c8
  have v9 := convB (H9.out.rd (e := 5) (A := A9) (n := 2) (c := c9) (xs := [116, 104]) (by simp)) c9
  have q8 : (Dk.mkB [111, 110, 101, 116, 119, 111]) = (⟨#[111, 110, 101, 116, 119, 111]⟩ : ByteArray) := rfl
  have q9 : (Dk.mkB [116, 104]) = (⟨#[116, 104]⟩ : ByteArray) := rfl
  rw [q8] at v8
  simp only [List.length_cons, List.length_nil, Nat.zero_add, Nat.reduceAdd] at v8 v9
  rw [q9] at v9
  go_wp2_with fail
  refine (waiting_g (Lib.hid (H9.out.perm (List.Perm.swap ..)))).mono ?_
  rintro e w10 ⟨he, rfl⟩
  obtain rfl : e = .returned (.int .i64 0) := he.trans (ret_int (by rw [DkG.u5]; rfl))
  clear he
  go_wp2_with fail
  refine (append_g (Lib.hid (H9.out.perm (List.Perm.swap ..))) nBig (by decide) none 0 [] (Lib.hid (RdL.nil _ _)) (by simp) (by rw [DkG.u5]; omega)).mono ?_
  rintro e w11 ⟨he, h11⟩
  obtain rfl : e = .returned (.int .i64 1) := he.trans (ret_int DkG.e5)
  clear he
  rw [DkG.n5] at h11
  have H11 := Lib.hid h11
  clear h11 v8 v9 H9
  go_wp2_with fail
  refine (sync_g H11 nC (by decide) (by rw [DkG.u5]; omega)).mono ?_
  rintro e w12 ⟨he, h12⟩
  obtain rfl : e = .returned (.int .i64 80) := he.trans (ret_int DkG.t5c)
  clear he
  have H12 := Lib.hid h12.bel
  clear h12 H11
  go_wp2_with fail
  go_ret
  exact ⟨rfl, H12.out⟩
end Go.Proofs.Ytheocdfccdpmbaa
