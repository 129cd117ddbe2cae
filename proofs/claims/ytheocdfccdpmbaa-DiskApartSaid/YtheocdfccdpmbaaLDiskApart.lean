/-
  DiskApart: lists and disks have nothing in common.
  No condition.
-/
import Derived.Test.YtheocdfccdpmbaaDkB
import Derived.BigQuiet
import Derived.Deep.Cut
import Derived.Deep.RegionHeld3
import Derived.Deep.DeepCutAuto
namespace Go.Proofs.Ytheocdfccdpmbaa.lawDiskApart
open Go.ChangeShapes Go.WideShapes Go.ChangeAt Go.RowKit Go.Deep Go.Maps
set_option linter.unusedVariables false
set_option linter.unusedSimpArgs false
set_option maxHeartbeats 8000000

theorem perm3q {α : Type} (a b c : α) (l : List α) : (a :: b :: c :: l).Perm (c :: a :: b :: l) := ((List.Perm.swap c b l).cons a).trans (List.Perm.swap ..)
theorem perm4q {α : Type} (a b c d : α) (l : List α) : (a :: b :: c :: d :: l).Perm (d :: a :: b :: c :: l) := ((perm3q b c d l).cons a).trans (List.Perm.swap ..)
theorem layB_flat : ∀ xs : List UInt8, layB.flat xs = xs.map fun x => Value.int .u8 x.toNat
  | [] => rfl
  | x :: xs => by
    have ih := layB_flat xs
    unfold Lay.flat at ih ⊢
    rw [List.flatMap_cons, ih]
    rfl
theorem own_len {α : Type} [Inhabited α] {L : Lay α} {e : TypeId} {w : World} {base g n cap : Nat} {xs : List α} (h : OwnL L e w base (.slice (some ⟨g, 0, none⟩) n cap) xs) : n = xs.length := by
  rcases h.2 with ⟨e, _⟩ | ⟨g', cap', cur, e, _⟩
  · cases e
  · injection e
/-- a byte in a row is written -/
theorem putB {w : World} {base g n cap : Nat} {xs : List UInt8} (h : OwnL layB 5 w base (.slice (some ⟨g, 0, none⟩) n cap) xs) (i : Nat) (s : UInt8) (v : Int) (hv : v = s.toNat) :
    OwnL layB 5 (w.setCell ⟨g, i, none⟩ (.int .u8 v)) base (.slice (some ⟨g, 0, none⟩) n cap) (xs.set i s) ∧ w.grownBy (w.setCell ⟨g, i, none⟩ (.int .u8 v)) (some g) := by
  have hn := own_len h
  subst hn
  subst hv
  have h1 := World.ownsRow.stored h i (.int .u8 (s.toNat : Int))
  refine ⟨?_, h1.2⟩
  unfold OwnL
  rw [layB_flat, List.map_set, ← layB_flat, List.length_set]
  exact h1.1
theorem freeB {w : World} {base g n cap : Nat} {xs : List UInt8} (h : OwnL layB 5 w base (.slice (some ⟨g, 0, none⟩) n cap) xs) (i : Nat) : w.frozen? ⟨g, i, none⟩ = false := by
  have hn := own_len h
  subst hn
  exact World.ownsRow.frozenAt h i
theorem byteB {w : World} {base g n cap : Nat} {xs : List UInt8} (h : OwnL layB 5 w base (.slice (some ⟨g, 0, none⟩) n cap) xs) {i : Nat} (hi : i < xs.length) : ∃ v, w.cell? ⟨g, i, none⟩ = some v := by
  have hn := own_len h
  subst hn
  have hk : layB.k = 1 := rfl
  have := World.ownsRow.cellAt h i (by rw [hk]; omega)
  rw [this, layB_flat]
  exact ⟨_, by rw [List.getElem?_map, List.getElem?_eq_getElem hi]; rfl⟩
/-- a row that is not nil, if it holds something -/
theorem some_of {α : Type} [Inhabited α] {L : Lay α} {e : TypeId} {w : World} {base n c : Nat} {A : Option Addr} {xs : List α} (h : OwnL L e w base (.slice A n c) xs) (h0 : 0 < xs.length) : ∃ g, A = some ⟨g, 0, none⟩ := by
  rcases h.2 with ⟨e, h0'⟩ | ⟨g9, cap9, cur9, e, -⟩
  · omega
  · obtain ⟨q1, -, -⟩ := Value.slice.inj e
    exact ⟨g9, q1⟩

set_option maxRecDepth 100000 in
theorem walk (A : Option Addr) (cap : Nat) (xs : List DoG) (w : World) (hR : Hid (RdL layDo w A xs)) (hG : Hid (∀ i, i < xs.length → (xs.getD i default).Ok w)) (hlx : xs.length ≤ 20000000000000) :
    Calls Try.prog 7 #[.slice A xs.length cap] w fun e w' => e = .returned (.bool true) ∧ Below w.heap.size w w' := by
  have HLX := Lib.hid hlx
  clear hlx
  go_enter Try.func7, Try.ntmps7
  go_wp2_with fail
  refine (disk_awake w).mono ?_
  rintro e w0 ⟨rfl, hb0⟩
  have HB0 := Lib.hid (Sp.keep (Sp.nil w) hb0)
  clear hb0
  go_wp2_with fail
  refine (new_g HB0).mono ?_
  rintro e w1 ⟨ga, rfl, h1⟩
  have H1 := Lib.hid h1
  clear h1 HB0
  go_wp2_with fail
  refine (new_g H1).mono ?_
  rintro e w2 ⟨gb, rfl, h2⟩
  have H2 : Hid (Sp w (dkT ga DkG.new :: [dkT gb DkG.new]) w2) := Lib.hid (h2.perm (List.Perm.swap ..))
  clear h2 H1
  go_wp2_with fail
  go_loopg [5, 6, 7, 8, 9, 10, 11, 12, 13, 14, 15, 16] (min xs.length 200) (fun n v5 v6 v7 v8 v9 v10 v11 v12 v13 v14 v15 v16 W => ∃ (k : Nat) (S : DkG), v5 = .int .i64 k ∧ n + k = min xs.length 200 ∧ Hid (Sp w (dkT ga S :: [dkT gb S]) W) ∧ Hid (S.uns ≤ k))
  case atStart => exact ⟨0, DkG.new, rfl, rfl, H2, Lib.hid (by decide +kernel)⟩
  case round =>
    clear H2
    obtain ⟨k, S, rfl, hnk, HS, HU⟩ := hrel
    by_cases hlt : k < xs.length ∧ k < 200
    · have hk1 : (k : Int) < (xs.length : Int) := by omega
      have hk2 : (k : Int) < 200 := by omega
      obtain ⟨gn, rfl⟩ : ∃ gn, gk = gn + 1 := ⟨gk - 1, by omega⟩
      have hk3 : (k : Int) + 1 ≤ 9223372036854775807 := by omega
      obtain ⟨b, off, hAe, -, e0, e1, e2, e3, e4⟩ := (hR.out.bel HS.out.bel).dg k hlt.1
      have HOK : Hid (∀ W, Below w.heap.size w W → (xs.getD k default).Ok W) := Lib.hid (fun W hW => (hG.out k hlt.1).bel hW)
      obtain ⟨⟨kd, nm, A2, c2, b2, kp2, tn2⟩, hd⟩ : ∃ d, d = xs.getD k default := ⟨_, rfl⟩
      rw [← hd] at e0 e1 e2 e3 e4 HOK
      have HAE := Lib.hid hAe
      have HN := Lib.hid hnk
      have HL2 := Lib.hid hlt
      have HNL : Hid (nm.size ≤ maxLen) := Lib.hid ((HOK.out w (Below.refl _ _)).nm2)
      have HBL : Hid (b2.length ≤ 140737488355328) := Lib.hid ((HOK.out w (Below.refl _ _)).bl)
      simp only at e0 e1 e2 e3 e4
      have HBX := Lib.hid (HS.out.alloc #[.int .i64 kd, .string nm, .slice A2 b2.length c2, .int .i64 kp2, .int .i64 tn2] 49)
      have HUU : Hid (S.uns ≤ 900000) := Lib.hid (by have := HU.out; have := HL2.out; omega)
      have HU2 : Hid ((S.does ⟨kd, nm, A2, c2, b2, kp2, tn2⟩).uns ≤ k + 1) := Lib.hid (by have := DkG.uns_does S ⟨kd, nm, A2, c2, b2, kp2, tn2⟩; have := HU.out; omega)
      clear hd hAe hnk hlt HS
      rw [HAE.out]
      go_upto_region 9 with (fail)
      rw [← HAE.out]
      generalize wr.heap.size = gz at *
      generalize wr.alloc (.cells #[.int .i64 kd, .string nm, .slice A2 b2.length c2, .int .i64 kp2, .int .i64 tn2] 49) = w2 at *
      have z2 : ∀ i, w2.cell? ⟨gz, i, none⟩ = (#[.int .i64 kd, .string nm, .slice A2 b2.length c2, .int .i64 kp2, .int .i64 tn2] : Array Value)[i]? := (Sp.blk HBX.out (List.mem_cons_self ..)).cells
      have HB3 := Lib.hid (HBX.out.keep (bel_new (Below.refl w2.heap.size w2) (.cells #[] 5)))
      have HO3 := Lib.hid (OwnL.lit (e := 5) w2 w2.heap.size (Nat.le_refl _) ([] : List UInt8) (L := layB) (by simp [maxLen]) #[] rfl)
      have HR3 : Hid (RdL layB (w2.alloc (.cells #[] 5)) A2 b2) := Lib.hid ((HOK.out _ HB3.out.bel).rd)
      have HBB := Lib.hid (bel_new (Below.refl w2.heap.size w2) (.cells #[] 5))
      have HA1 : Hid (([] : List UInt8).length + b2.length ≤ maxLen) := Lib.hid (by have := HBL.out; simp only [List.length_nil]; unfold maxLen; omega)
      have HA2 : Hid (((([] : List UInt8).length + b2.length) + (([] : List UInt8).length + b2.length) / 4 + 192) * 1 ≤ 281474976710656) := Lib.hid (by have := HBL.out; simp only [List.length_nil]; omega)
      have zA : ∀ i, (w2.alloc (.cells #[] 5)).cell? ⟨gz, i, none⟩ = (#[.int .i64 kd, .string nm, .slice A2 b2.length c2, .int .i64 kp2, .int .i64 tn2] : Array Value)[i]? := (Sp.blk HB3.out (List.mem_cons_self ..)).cells
      clear e0 e1 e2 e3 e4
      go_upto_region 10 with (at_builtin; refine wpList_appL (L := layB) 47 _ 1 Try.underlying47 infoB rfl rfl (.tmp 35) (.tmp 37) rfl w2.heap.size _ [] rfl HO3.out _ b2.length c2 b2 rfl rfl HR3.out HA1.out HA2.out HBB.out.size ?_; intro v3 w3 ho3 hg3; have HB4 := Lib.hid (HO3.out.grown HBB.out HBB.out.size hg3); obtain ⟨A3, c3, rfl⟩ := ho3.formN (n := b2.length) (by simp); have HO4 := Lib.hid (ho3); clear ho3 hg3)
      have H4 : Hid (Sp w (ownT layB 5 (.slice A3 b2.length c3) b2 :: blkT gz 49 #[.int .i64 kd, .string nm, .slice A2 b2.length c2, .int .i64 kp2, .int .i64 tn2] :: dkT ga S :: [dkT gb S]) w3) := Lib.hid (by
        have h := HO4.out
        rw [List.nil_append] at h
        exact HBX.out.row HB4.out h)
      have z3 : ∀ i, w3.cell? ⟨gz, i, none⟩ = (#[.int .i64 kd, .string nm, .slice A2 b2.length c2, .int .i64 kp2, .int .i64 tn2] : Array Value)[i]? := (Sp.blk H4.out (t := 49) (by simp)).cells
      clear z2 zA HB3 HO3 HR3 HBB HB4 HO4 HBX
      go_upto_region 11 with (fail)
      have H5 := Lib.hid (H4.out.alloc #[.int .i64 kd, .string nm, .slice A2 b2.length c2, .int .i64 kp2, .int .i64 tn2] 49)
      generalize w3.heap.size = g8 at *
      generalize w3.alloc (.cells #[.int .i64 kd, .string nm, .slice A2 b2.length c2, .int .i64 kp2, .int .i64 tn2] 49) = w4 at *
      have z4 : ∀ i, w4.cell? ⟨g8, i, none⟩ = (#[.int .i64 kd, .string nm, .slice A2 b2.length c2, .int .i64 kp2, .int .i64 tn2] : Array Value)[i]? := (Sp.blk H5.out (List.mem_cons_self ..)).cells
      have f4 : ∀ i, w4.frozen? ⟨g8, i, none⟩ = false := (Sp.blk H5.out (List.mem_cons_self ..)).free
      have H6 : Hid (Sp w (blkT g8 49 #[.int .i64 kd, .string nm, .slice A3 b2.length c3, .int .i64 kp2, .int .i64 tn2] :: ownT layB 5 (.slice A3 b2.length c3) b2 :: blkT gz 49 #[.int .i64 kd, .string nm, .slice A2 b2.length c2, .int .i64 kp2, .int .i64 tn2] :: dkT ga S :: [dkT gb S]) (w4.setCell ⟨g8, 2, none⟩ (.slice A3 b2.length c3))) := Lib.hid (H5.out.set 2 (.slice A3 b2.length c3))
      clear z3 H4
      go_upto_region 12 with (fail)
      clear z4 f4 H5
      generalize w4.setCell ⟨g8, 2, none⟩ (.slice A3 b2.length c3) = w5 at *
      have z5 : ∀ i, w5.cell? ⟨gz, i, none⟩ = (#[.int .i64 kd, .string nm, .slice A2 b2.length c2, .int .i64 kp2, .int .i64 tn2] : Array Value)[i]? := (Sp.blk H6.out (g := gz) (t := 49) (by simp)).cells
      have y5 : ∀ i, w5.cell? ⟨g8, i, none⟩ = (#[.int .i64 kd, .string nm, .slice A3 b2.length c3, .int .i64 kp2, .int .i64 tn2] : Array Value)[i]? := (Sp.blk H6.out (g := g8) (t := 49) (List.mem_cons_self ..)).cells
      obtain ⟨x, hx⟩ : ∃ x, x = S.doE ⟨kd, nm, A2, c2, b2, kp2, tn2⟩ := ⟨_, rfl⟩
      have HX := Lib.hid hx
      have hxx : (x != x) = false := by simp
      have HP6 : Hid (Sp w (dkT ga S :: dkT gb S :: blkT gz 49 #[.int .i64 kd, .string nm, .slice A2 b2.length c2, .int .i64 kp2, .int .i64 tn2] :: blkT g8 49 #[.int .i64 kd, .string nm, .slice A3 b2.length c3, .int .i64 kp2, .int .i64 tn2] :: [ownT layB 5 (.slice A3 b2.length c3) b2]) w5.drew) := Lib.hid ((H6.out.keep (bel_drew (Below.refl _ _))).perm (by
        have p1 : ∀ (a b c d e : Thing), [a, b, c, d, e].Perm [d, e, c, a, b] := fun a b c d e => by
          have h1 : [a, b, c, d, e].Perm ([d, e] ++ [a, b, c]) := List.perm_append_comm (l₁ := [a, b, c]) (l₂ := [d, e])
          exact h1.trans (((perm3q a b c []).cons e).cons d)
        exact p1 _ _ _ _ _))
      have HCE : Hid (∀ W, Sp w (dkT ga (S.does ⟨kd, nm, A2, c2, b2, kp2, tn2⟩) :: dkT gb S :: blkT gz 49 #[.int .i64 kd, .string nm, .slice A2 b2.length c2, .int .i64 kp2, .int .i64 tn2] :: blkT g8 49 #[.int .i64 kd, .string nm, .slice A3 b2.length c3, .int .i64 kp2, .int .i64 tn2] :: [ownT layB 5 (.slice A3 b2.length c3) b2]) W → (∀ i, W.cell? ⟨gz, i, none⟩ = (#[.int .i64 kd, .string nm, .slice A2 b2.length c2, .int .i64 kp2, .int .i64 tn2] : Array Value)[i]?)) := Lib.hid (fun W h => (Sp.blk h (g := gz) (t := 49) (by simp)).cells)
      have HOM : Hid (DoG.Ok w5.drew ⟨kd, nm, A3, c3, b2, kp2, tn2⟩) := Lib.hid ⟨HP6.out.rd (e := 5) (n := b2.length) (c := c3) (by simp), HBL.out, by
        obtain ⟨A', c', e, h1, -, -, -⟩ := (HP6.out.own (L := layB) (e := 5) (v := .slice A3 b2.length c3) (xs := b2) (by simp)).form
        obtain ⟨-, -, q3⟩ := Value.slice.inj e
        show b2.length ≤ c3
        rw [q3]; exact h1, (HOK.out w (Below.refl _ _)).nl⟩
      clear hx H6
      go_region_held3 (fun W => (W.cell? ⟨gz, 0, none⟩ = some (.int .i64 kd) ∧ W.cell? ⟨gz, 1, none⟩ = some (.string nm) ∧ W.cell? ⟨gz, 2, none⟩ = some (.slice A2 b2.length c2) ∧ W.cell? ⟨gz, 3, none⟩ = some (.int .i64 kp2) ∧ W.cell? ⟨gz, 4, none⟩ = some (.int .i64 tn2)) ∧ (W.cell? ⟨g8, 0, none⟩ = some (.int .i64 kd) ∧ W.cell? ⟨g8, 1, none⟩ = some (.string nm) ∧ W.cell? ⟨g8, 2, none⟩ = some (.slice A3 b2.length c3) ∧ W.cell? ⟨g8, 3, none⟩ = some (.int .i64 kp2) ∧ W.cell? ⟨g8, 4, none⟩ = some (.int .i64 tn2))) (go_keep) (first
        | (go_at_call 26; refine (does_g (Lib.hid (HJ.out.perm (List.Perm.swap ..))) ⟨kd, nm, A2, c2, b2, kp2, tn2⟩ (Lib.hid (HOK.out _ HJ.out.bel)) HUU.out).mono ?_; rintro e w7 ⟨rfl, h7⟩; have HJ2 := Lib.hid h7; rw [← HX.out]; have z7 : ∀ i, w7.cell? ⟨gz, i, none⟩ = (#[.int .i64 kd, .string nm, .slice A2 b2.length c2, .int .i64 kp2, .int .i64 tn2] : Array Value)[i]? := (Sp.blk h7 (g := gz) (t := 49) (by simp)).cells; have y7 : ∀ i, w7.cell? ⟨g8, i, none⟩ = (#[.int .i64 kd, .string nm, .slice A3 b2.length c3, .int .i64 kp2, .int .i64 tn2] : Array Value)[i]? := (Sp.blk h7 (g := g8) (t := 49) (by simp)).cells; clear h7)
        | (go_at_call 26; refine (does_g HP6 ⟨kd, nm, A3, c3, b2, kp2, tn2⟩ HOM HUU.out).mono ?_; rintro e w6 ⟨he, h6⟩; obtain rfl : e = .returned (.int .i64 x) := he.trans (ret_int HX.out.symm); clear he; have HJ : Hid (Sp w (dkT ga (S.does ⟨kd, nm, A2, c2, b2, kp2, tn2⟩) :: dkT gb S :: blkT gz 49 #[.int .i64 kd, .string nm, .slice A2 b2.length c2, .int .i64 kp2, .int .i64 tn2] :: blkT g8 49 #[.int .i64 kd, .string nm, .slice A3 b2.length c3, .int .i64 kp2, .int .i64 tn2] :: [ownT layB 5 (.slice A3 b2.length c3) b2]) w6) := Lib.hid h6; have z6 : ∀ i, w6.cell? ⟨gz, i, none⟩ = (#[.int .i64 kd, .string nm, .slice A2 b2.length c2, .int .i64 kp2, .int .i64 tn2] : Array Value)[i]? := (Sp.blk h6 (g := gz) (t := 49) (by simp)).cells; have y6 : ∀ i, w6.cell? ⟨g8, i, none⟩ = (#[.int .i64 kd, .string nm, .slice A3 b2.length c3, .int .i64 kp2, .int .i64 tn2] : Array Value)[i]? := (Sp.blk h6 (g := g8) (t := 49) (by simp)).cells; clear h6))
      go_wp2_with fail
      have HS8 : Hid (Sp w (ownT layB 5 (.slice A3 b2.length c3) b2 :: blkT gz 49 #[.int .i64 kd, .string nm, .slice A2 b2.length c2, .int .i64 kp2, .int .i64 tn2] :: dkT ga (S.does ⟨kd, nm, A2, c2, b2, kp2, tn2⟩) :: [dkT gb (S.does ⟨kd, nm, A2, c2, b2, kp2, tn2⟩)]) w7) := Lib.hid (by
        have h2 := HJ2.out.perm (List.reverse_perm _).symm
        have h3 : Sp w (ownT layB 5 (.slice A3 b2.length c3) b2 :: blkT g8 49 #[.int .i64 kd, .string nm, .slice A3 b2.length c3, .int .i64 kp2, .int .i64 tn2] :: blkT gz 49 #[.int .i64 kd, .string nm, .slice A2 b2.length c2, .int .i64 kp2, .int .i64 tn2] :: dkT ga (S.does ⟨kd, nm, A2, c2, b2, kp2, tn2⟩) :: [dkT gb (S.does ⟨kd, nm, A2, c2, b2, kp2, tn2⟩)]) w7 := h2
        exact (h3.perm (List.Perm.swap ..)).tail)
      clear HJ HJ2 z7 y7 HP6 HCE HOM z6 y6 z5 y5 HX hxx HOK
      generalize S.does ⟨kd, nm, A2, c2, b2, kp2, tn2⟩ = S2 at *
      have HL0 : Hid (∃ ys : List UInt8, ys.length = b2.length ∧ Sp w (ownT layB 5 (.slice A3 b2.length c3) ys :: blkT gz 49 #[.int .i64 kd, .string nm, .slice A2 b2.length c2, .int .i64 kp2, .int .i64 tn2] :: dkT ga S2 :: [dkT gb S2]) w7) := Lib.hid ⟨b2, rfl, HS8.out⟩
      have HLB : Hid (b2.length ≤ 140737488355328) := HBL
      clear HS8
      go_wp2_with fail
      go_loopg [9] b2.length (fun n v9 W => ∃ m : Nat, v9 = .int .i64 m ∧ n + m = b2.length ∧ Hid (∃ ys : List UInt8, ys.length = b2.length ∧ Sp w (ownT layB 5 (.slice A3 b2.length c3) ys :: blkT gz 49 #[.int .i64 kd, .string nm, .slice A2 b2.length c2, .int .i64 kp2, .int .i64 tn2] :: dkT ga S2 :: [dkT gb S2]) W))
      case atStart => exact ⟨0, rfl, rfl, HL0⟩
      case round =>
        clear HL0
        obtain ⟨m, rfl, hnm, HS⟩ := hrel
        by_cases hml : m < b2.length
        · have hmi : (m : Int) < (b2.length : Int) := by omega
          have hg : 0 < gk := by omega
          have hm1 : (m : Int) + 1 ≤ 9223372036854775807 := by have := HLB.out; omega
          have hwm : IntKind.i64.wrap (m : Int) = (m : Int) := IntWalk.i64_in _ (by omega)
          have HNM := Lib.hid hnm
          obtain ⟨g3, hA3⟩ : ∃ g3, A3 = some ⟨g3, 0, none⟩ := by
            obtain ⟨ys, hy, hs⟩ := HS.out
            exact some_of (hs.own (List.mem_cons_self ..)) (by omega)
          have HA := Lib.hid hA3
          have HS2 : Hid (∃ ys : List UInt8, ys.length = b2.length ∧ Sp w (ownT layB 5 (.slice (some ⟨g3, 0, none⟩) b2.length c3) ys :: blkT gz 49 #[.int .i64 kd, .string nm, .slice A2 b2.length c2, .int .i64 kp2, .int .i64 tn2] :: dkT ga S2 :: [dkT gb S2]) wr) := Lib.hid (by rw [← hA3]; exact HS.out)
          have f3 : wr.frozen? ⟨g3, m, none⟩ = false := by
            obtain ⟨ys, hy, hs⟩ := HS2.out
            exact freeB (hs.own (List.mem_cons_self ..)) m
          obtain ⟨v3, e3⟩ : ∃ v, wr.cell? ⟨g3, m, none⟩ = some v := by
            obtain ⟨ys, hy, hs⟩ := HS2.out
            exact byteB (hs.own (List.mem_cons_self ..)) (by omega)
          have HS3 : Hid (∃ ys : List UInt8, ys.length = b2.length ∧ Sp w (ownT layB 5 (.slice A3 b2.length c3) ys :: blkT gz 49 #[.int .i64 kd, .string nm, .slice A2 b2.length c2, .int .i64 kp2, .int .i64 tn2] :: dkT ga S2 :: [dkT gb S2]) (wr.setCell ⟨g3, m, none⟩ (.int .u8 33))) := Lib.hid (by
            obtain ⟨ys, hy, hs⟩ := HS2.out
            have hp := putB (hs.own (List.mem_cons_self ..)) m 33 33 (by decide)
            rw [hA3]
            exact ⟨ys.set m 33, by rw [List.length_set]; exact hy, hs.app hp.1 hp.2 (.inl rfl)⟩)
          clear hnm hml hA3 HS HS2
          rw [HA.out]
          go_wp2_with fail
          rw [← HA.out]
          go_roundg (gk - 1)
          case rel => exact ⟨m + 1, by go_num, by have := HNM.out; omega, HS3⟩
          case measure => omega
        · have hmi : ¬ (m : Int) < (b2.length : Int) := by omega
          clear hnm hml
          obtain ⟨ys, hyl, hys⟩ := HS.out
          have H9 : Hid (Sp w (dkT ga S2 :: blkT gz 49 #[.int .i64 kd, .string nm, .slice A2 b2.length c2, .int .i64 kp2, .int .i64 tn2] :: [dkT gb S2]) wr) := Lib.hid (hys.tail.perm (List.Perm.swap ..))
          have z9 : ∀ i, wr.cell? ⟨gz, i, none⟩ = (#[.int .i64 kd, .string nm, .slice A2 b2.length c2, .int .i64 kp2, .int .i64 tn2] : Array Value)[i]? := (Sp.blk H9.out (g := gz) (t := 49) (by simp)).cells
          clear hyl hys HS
          go_wp2_with fail
          refine (read_g H9 nm HNL.out).mono ?_
          rintro e w10 ⟨A10, c10, he, o10, b10⟩
          obtain ⟨te, hte⟩ : ∃ te, te = Dk.thereE S2.F nm := ⟨_, rfl⟩
          obtain ⟨ln, hln⟩ : ∃ ln, ln = (S2.read nm).length := ⟨_, rfl⟩
          have HTE := Lib.hid hte
          have HLN2 := Lib.hid hln
          rw [← hln, ← hte] at he
          rw [← hln] at o10
          subst he
          have HLB : Hid (ln ≤ 140737488355327) := Lib.hid (by rw [hln]; exact Nat.le_trans (S2.ok.content_le nm) (by decide))
          have HL0 : Hid (∃ ys : List UInt8, ys.length = ln ∧ Sp w (ownT layB 5 (.slice A10 ln c10) ys :: dkT ga S2 :: blkT gz 49 #[.int .i64 kd, .string nm, .slice A2 b2.length c2, .int .i64 kp2, .int .i64 tn2] :: [dkT gb S2]) w10) := Lib.hid ⟨_, hln.symm, H9.out.row b10 o10⟩
          clear o10 b10 z9 H9 hte hln
          go_wp2_with fail
          go_loopg [12] ln (fun n v12 W => ∃ m : Nat, v12 = .int .i64 m ∧ n + m = ln ∧ Hid (∃ ys : List UInt8, ys.length = ln ∧ Sp w (ownT layB 5 (.slice A10 ln c10) ys :: dkT ga S2 :: blkT gz 49 #[.int .i64 kd, .string nm, .slice A2 b2.length c2, .int .i64 kp2, .int .i64 tn2] :: [dkT gb S2]) W))
          case atStart => exact ⟨0, rfl, rfl, HL0⟩
          case round =>
            clear HL0
            obtain ⟨m, rfl, hnm, HS⟩ := hrel
            by_cases hml : m < ln
            · have hmi : (m : Int) < (ln : Int) := by omega
              have hg : 0 < gk := by omega
              have hm1 : (m : Int) + 1 ≤ 9223372036854775807 := by have := HLB.out; omega
              have hwm : IntKind.i64.wrap (m : Int) = (m : Int) := IntWalk.i64_in _ (by omega)
              have HNM := Lib.hid hnm
              obtain ⟨g3, hA3⟩ : ∃ g3, A10 = some ⟨g3, 0, none⟩ := by
                obtain ⟨ys, hy, hs⟩ := HS.out
                exact some_of (hs.own (List.mem_cons_self ..)) (by omega)
              have HA := Lib.hid hA3
              have HS2 : Hid (∃ ys : List UInt8, ys.length = ln ∧ Sp w (ownT layB 5 (.slice (some ⟨g3, 0, none⟩) ln c10) ys :: dkT ga S2 :: blkT gz 49 #[.int .i64 kd, .string nm, .slice A2 b2.length c2, .int .i64 kp2, .int .i64 tn2] :: [dkT gb S2]) wr) := Lib.hid (by rw [← hA3]; exact HS.out)
              have f3 : wr.frozen? ⟨g3, m, none⟩ = false := by
                obtain ⟨ys, hy, hs⟩ := HS2.out
                exact freeB (hs.own (List.mem_cons_self ..)) m
              obtain ⟨v3, e3⟩ : ∃ v, wr.cell? ⟨g3, m, none⟩ = some v := by
                obtain ⟨ys, hy, hs⟩ := HS2.out
                exact byteB (hs.own (List.mem_cons_self ..)) (by omega)
              have HS3 : Hid (∃ ys : List UInt8, ys.length = ln ∧ Sp w (ownT layB 5 (.slice A10 ln c10) ys :: dkT ga S2 :: blkT gz 49 #[.int .i64 kd, .string nm, .slice A2 b2.length c2, .int .i64 kp2, .int .i64 tn2] :: [dkT gb S2]) (wr.setCell ⟨g3, m, none⟩ (.int .u8 63))) := Lib.hid (by
                obtain ⟨ys, hy, hs⟩ := HS2.out
                have hp := putB (hs.own (List.mem_cons_self ..)) m 63 63 (by decide)
                rw [hA3]
                exact ⟨ys.set m 63, by rw [List.length_set]; exact hy, hs.app hp.1 hp.2 (.inl rfl)⟩)
              clear hnm hml hA3 HS HS2
              rw [HA.out]
              go_wp2_with fail
              rw [← HA.out]
              go_roundg (gk - 1)
              case rel => exact ⟨m + 1, by go_num, by have := HNM.out; omega, HS3⟩
              case measure => omega
            · have hmi : ¬ (m : Int) < (ln : Int) := by omega
              clear hnm hml
              obtain ⟨ys, hyl, hys⟩ := HS.out
              have HYL := Lib.hid hyl
              have H13 := Lib.hid (hys.keep (bel_new (Below.refl wr.heap.size wr) (.cells #[.int .u8 63] 5)))
              have HRD := Lib.hid (rdL_lit (L := layB) wr 5 [63] (by simp [maxLen]) #[.int .u8 63] rfl)
              clear hyl hys HS
              go_upto_region 24 with (at_builtin; refine wpList_appO8 (L := layB) 47 _ 1 Try.underlying47 infoB rfl rfl (.tmp 74) (.tmp 75) rfl w.heap.size (.slice A10 ln c10) ys rfl (H13.out.own (List.mem_cons_self ..)) (some ⟨wr.heap.size, 0, none⟩) 1 1 [63] rfl rfl HRD.out (by have := HYL.out; have := HLB.out; simp only [List.length_singleton, maxLen]; omega) (by have := HYL.out; have := HLB.out; simp only [List.length_singleton]; omega) H13.out.size ?_; intro v14 w14 ho14 hg14 h314; obtain ⟨A14, c14, rfl⟩ := ho14.formN (n := ln + 1) (by rw [List.length_append, HYL.out]; rfl); have H14 := Lib.hid (H13.out.app ho14 hg14 h314); clear ho14 hg14 h314)
              have z14 : ∀ i, w14.cell? ⟨gz, i, none⟩ = (#[.int .i64 kd, .string nm, .slice A2 b2.length c2, .int .i64 kp2, .int .i64 tn2] : Array Value)[i]? := (Sp.blk H14.out (g := gz) (t := 49) (by simp)).cells
              have H14b : Hid (Sp w (dkT ga S2 :: blkT gz 49 #[.int .i64 kd, .string nm, .slice A2 b2.length c2, .int .i64 kp2, .int .i64 tn2] :: [dkT gb S2]) w14) := Lib.hid H14.out.tail
              clear H13 HRD H14
              go_wp2_with fail
              refine (read_g H14b nm HNL.out).mono ?_
              rintro e w15 ⟨A15, c15, he, o15, b15⟩
              rw [← HLN2.out, ← HTE.out] at he
              subst he
              have H15 : Hid (Sp w (dkT gb S2 :: ownT layB 5 (.slice A15 (S2.read nm).length c15) (S2.read nm) :: dkT ga S2 :: [blkT gz 49 #[.int .i64 kd, .string nm, .slice A2 b2.length c2, .int .i64 kp2, .int .i64 tn2]]) w15) := Lib.hid ((H14b.out.row b15 o15).perm (perm4q _ _ _ _ []))
              have z15 : ∀ i, w15.cell? ⟨gz, i, none⟩ = (#[.int .i64 kd, .string nm, .slice A2 b2.length c2, .int .i64 kp2, .int .i64 tn2] : Array Value)[i]? := (Sp.blk H15.out (g := gz) (t := 49) (by simp)).cells
              clear o15 b15 H14b z14
              go_wp2_with fail
              refine (read_g H15 nm HNL.out).mono ?_
              rintro e w16 ⟨A16, c16, he, o16, b16⟩
              rw [← HLN2.out, ← HTE.out] at he
              subst he
              have H16 := Lib.hid (H15.out.row b16 o16)
              have vy := convO o16
              have vx := convO (H16.out.own (L := layB) (e := 5) (v := .slice A15 (S2.read nm).length c15) (xs := S2.read nm) (by simp))
              rw [← HLN2.out] at vx vy
              have hss : ((Dk.mkB (S2.read nm)).toList != (Dk.mkB (S2.read nm)).toList) = false := by simp
              have htt : (te != te) = false := by simp
              have hln1 : (ln : Int) + 1 ≤ 9223372036854775807 := by have := HLB.out; omega
              have H17 : Hid (Sp w (dkT ga S2 :: [dkT gb S2]) w16) := Lib.hid (by
                have h := H16.out.tail
                have h2 := h.perm (List.reverse_perm _).symm
                have h3 : Sp w (blkT gz 49 #[.int .i64 kd, .string nm, .slice A2 b2.length c2, .int .i64 kp2, .int .i64 tn2] :: dkT ga S2 :: ownT layB 5 (.slice A15 (S2.read nm).length c15) (S2.read nm) :: [dkT gb S2]) w16 := h2
                have h4 := h3.tail.perm (List.Perm.swap ..)
                exact h4.tail)
              clear o16 b16 H15 z15 H16
              go_wp2_with fail
              go_roundg gn
              case rel => exact ⟨k + 1, S2, by go_num, by have := HN.out; omega, H17, HU2⟩
              case measure => omega
    · have htest : (xs.length ≤ k) ∨ (k < xs.length ∧ 200 ≤ k) := by omega
      clear hlt hnk HU
      go_upto_region 6 with (fail)
      go_cut [28] (fun s W => s = .bool false ∧ W = wr)
      case first =>
        rcases htest with h | ⟨h, h2⟩
        · have hk1 : ¬ (k : Int) < (xs.length : Int) := by omega
          go_wp2_with fail
          go_meet
          exact ⟨rfl, rfl⟩
        · have hk1 : (k : Int) < (xs.length : Int) := by omega
          have hk2 : ¬ (k : Int) < 200 := by omega
          go_wp2_with fail
          go_meet
          exact ⟨rfl, rfl⟩
      case rest =>
        obtain ⟨rfl, rfl⟩ := hcut
        clear htest
        have HLN : Hid ((Dk.srt S.F).length ≤ 64) := Lib.hid srt_le
        go_wp2_with fail
        refine (names_g HS).mono ?_
        rintro e w5 ⟨Al, cl, rfl, o5, b5⟩
        have H5 : Hid (Sp w (dkT gb S :: ownT layN 9 (.slice Al (Dk.srt S.F).length cl) (Dk.srt S.F) :: [dkT ga S]) w5) := Lib.hid ((HS.out.row b5 o5).perm (perm3q _ _ _ []))
        clear o5 b5 HS
        go_wp2_with fail
        refine (names_g H5).mono ?_
        rintro e w6 ⟨A6, c6, rfl, o6, b6⟩
        have H6 := Lib.hid (H5.out.row b6 o6)
        clear o6 b6 H5
        generalize Dk.srt S.F = nl at *
        go_wp2_with fail
        refine (texts_calls Al A6 cl c6 nl nl w6 (Lib.hid (H6.out.rd (e := 9) (n := nl.length) (c := cl) (by simp))) (Lib.hid (H6.out.rd (e := 9) (n := nl.length) (c := c6) (by simp))) (by have := HLN.out; omega) (by have := HLN.out; omega)).mono ?_
        rintro e w7 ⟨he, b7⟩
        rw [decide_eq_true rfl] at he
        subst he
        have H7 := Lib.hid (H6.out.keep b7).bel
        clear b7 H6
        go_wp2_with fail
        go_ret
        exact ⟨rfl, H7.out⟩

set_option maxRecDepth 100000 in
theorem walks {H : Type} (enc : TypeId × Value → H) : Walks enc Try.prog 7 Try.f7 := by
  intro W base args ds ps hval hA hwt
  rw [Try.params7] at hA hval hwt
  obtain ⟨v0, vs0, d0, ds0, p0, q0, hargs, rfl, rfl, h0, r0⟩ := trodAll_cons hA
  obtain ⟨rfl, rfl, rfl⟩ := trodAll_nil r0
  obtain rfl : args = #[v0] := by cases args; simp_all
  obtain ⟨A, xs, cap, rfl, a1, b1, c1, g1⟩ := script_arg (hval 0 39 v0 rfl rfl) h0 (weightsEach_at (i := 0) hwt rfl rfl)
  exact walk A cap xs W (Lib.hid c1) (Lib.hid g1) (by omega)

set_option maxRecDepth 100000 in
theorem lifted (os : Os) (started : os.Started) (H : Type) (enc : TypeId × Value → H) :
    ReturnsInHanded {} Try.checked os 7 .any (Rows.diskApartSpec.pre6 enc Try.prog Try.f7 Rows.diskApartRow.domain false) (Rows.diskApartSpec.post enc Try.prog Try.f7 false true false false) :=
  frame_lifted (C := Try.checked) own started (by kernel_rfl) Try.func7
    (ChangeSpec.witness6 (enc := enc) (C := Try.checked) false ⟨#[], #[.slice none 0 0], []⟩ 8 (by kernel_rfl) (by kernel_rfl) (by kernel_rfl) (by kernel_rfl)) laidOut (by kernel_rfl) rfl (by rfl) Try.underlying4
    (fun ds h => match ds, h with | [d0], _ => ⟨rfl, rfl, rfl⟩) (walks enc)

theorem over : Rows.diskApartRow.holds Try.pinned (OpenSpec.ofChange Rows.diskApartSpec) :=
  OpenClaim.holds_of_wide 7 Try.f7 rfl rfl rfl rfl rfl rfl rfl ⟨rfl, rfl, rfl, rfl, rfl⟩ rfl rfl rfl rfl rfl (by kernel_rfl) Try.func7 (by kernel_rfl)
    (of_decide_eq_true (by kernel_rfl)) (by unfold Func.isWrapper; first | (rw [if_pos (by decide +kernel)]; kernel_rfl) | (rw [if_neg (by decide +kernel)]; exact ⟨rfl, rfl⟩))
    (fun os started H enc _ => lifted os started H enc)

/-- the statement -/
theorem proved : Rows.DiskApartSaid := over
end Go.Proofs.Ytheocdfccdpmbaa.lawDiskApart
