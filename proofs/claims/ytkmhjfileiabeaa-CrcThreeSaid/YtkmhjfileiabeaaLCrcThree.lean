/-
  The statement CrcThree: the sums of three lists of as many bytes, put together by exclusive or, are the sum of the three lists put together so.
  No condition.
-/
import Derived.Test.YtkmhjfileiabeaaApp2
import Derived.Test.YtkmhjfileiabeaaKit3
namespace Go.Proofs.Ytkmhjfileiabeaa.lawCrcThree
open Go.ChangeShapes Go.WideShapes Go.ChangeAt Go.RowKit
set_option linter.unusedVariables false
set_option linter.unusedSimpArgs false

theorem mul_xor (a b k : Nat) : (a ^^^ b) * 2 ^ k = a * 2 ^ k ^^^ b * 2 ^ k := by
  rw [← Nat.shiftLeft_eq, ← Nat.shiftLeft_eq, ← Nat.shiftLeft_eq, Nat.shiftLeft_xor_distrib]
theorem xlc (a b c : Nat) : a ^^^ (b ^^^ c) = b ^^^ (a ^^^ c) := by rw [← Nat.xor_assoc, Nat.xor_comm a b, Nat.xor_assoc]
theorem xcan (a b : Nat) : a ^^^ (a ^^^ b) = b := by rw [← Nat.xor_assoc, Nat.xor_self, Nat.zero_xor]
theorem seven (t o u p q r : Nat) : u ^^^ (t ^^^ (o ^^^ (p ^^^ (q ^^^ r)))) = u ^^^ (t ^^^ (o ^^^ (u ^^^ (t ^^^ (o ^^^ (u ^^^ (t ^^^ (o ^^^ (p ^^^ (q ^^^ r)))))))))) := by
  rw [xlc o u, xlc t u, xcan, xlc o t, xcan, xcan]
theorem four_xor (a b c d e f : Nat) : a ^^^ b ^^^ c ^^^ (d ^^^ e ^^^ f) = (a ^^^ d) ^^^ (b ^^^ e) ^^^ (c ^^^ f) := by
  simp only [Nat.xor_assoc, Nat.xor_comm, xlc]
theorem num_three : ∀ (l x y z : List Nat), x.length = l.length → y.length = l.length → z.length = l.length → (∀ j, j < l.length → l.getD j 0 = x.getD j 0 ^^^ y.getD j 0 ^^^ z.getD j 0) →
    Crc.num l = Crc.num x ^^^ Crc.num y ^^^ Crc.num z
  | [], [], [], [], _, _, _, _ => by simp [Crc.num]
  | a :: l, b :: x, c :: y, d :: z, hx, hy, hz, h => by
    have h0 := h 0 (by simp)
    simp only [List.getD_cons_zero] at h0
    have ih := num_three l x y z (by simpa using hx) (by simpa using hy) (by simpa using hz) (fun j hj => by simpa using h (j + 1) (by simpa using hj))
    simp only [Crc.num]
    rw [ih, h0, mul_xor, mul_xor, four_xor]
theorem three (l x y z : List Nat) (hx : x.length = l.length) (hy : y.length = l.length) (hz : z.length = l.length) (h : ∀ j, j < l.length → l.getD j 0 = x.getD j 0 ^^^ y.getD j 0 ^^^ z.getD j 0) :
    Crc.more 0 l = Crc.more 0 x ^^^ Crc.more 0 y ^^^ Crc.more 0 z := by
  unfold Crc.more
  rw [Crc.run_eq, Crc.run_eq, Crc.run_eq, Crc.run_eq, hx, hy, hz, num_three l x y z hx hy hz h]
  simp only [Crc.stps_xor]
  generalize Crc.stps (8 * l.length) Crc.top = t
  generalize Crc.stps (8 * l.length) (Crc.num x) = p
  generalize Crc.stps (8 * l.length) (Crc.num y) = q
  generalize Crc.stps (8 * l.length) (Crc.num z) = r
  generalize Crc.stps (8 * l.length) 0 = o
  generalize Crc.top = u
  have e1 := seven t o u p q r
  simp only [Nat.xor_assoc, Nat.xor_comm, xlc] at e1 ⊢
  exact e1

theorem more_lt (s : Nat) (xs : List Nat) (hs : s < 2 ^ 32) (hx : ∀ x ∈ xs, x < 256) : Crc.more s xs < 2 ^ 32 := not_u32' _ (Crc.run_lt xs (not_u32' s hs) hx)
theorem rd8_lt {w : World} {A : Option Addr} {xs : List Nat} (h : Rd8 w A xs) : ∀ x ∈ xs, x < 256 := fun x hx => by
  obtain ⟨i, hi, e⟩ := List.getElem_of_mem hx
  obtain ⟨_, _, _, _, h, _⟩ := h i hi
  simpa [List.getD, hi, e] using h
/-- the first n bytes -/
theorem rd8_take {w : World} {A : Option Addr} {xs : List Nat} (h : Rd8 w A xs) (n : Nat) : Rd8 w A (xs.take n) := fun i hi => by
  have hi' : i < xs.length ∧ i < n := by simp at hi; omega
  obtain ⟨b, off, e, h1, h2, h3⟩ := h i hi'.1
  have eq : (xs.take n).getD i 0 = xs.getD i 0 := by simp [List.getD, List.getElem?_take, hi'.2]
  exact ⟨b, off, e, h1, by rw [eq]; exact h2, by rw [eq]; exact h3⟩
theorem getD_take (xs : List Nat) (n i : Nat) (hi : i < n) : (xs.take n).getD i 0 = xs.getD i 0 := by simp [List.getD, List.getElem?_take, hi]

/-- the class of worlds in which the sums are taken -/
def Sx (w : World) (g g2 : Nat) (l : List Nat) (W : World) : Prop := Below w.heap.size w W ∧ TabAt W g ∧ Rd8 W (some ⟨g2, 0, none⟩) l
theorem Sx.call {w : World} {g g2 : Nat} {l : List Nat} (hg : w.heap.size ≤ g) (hne : g2 ≠ g) (x : InS (Sx w g g2 l)) (A : Option Addr) (cap n s : Nat) (xs : List Nat) (hR : Rd8 x.val A xs) (ho : 0 < xs.length → Off A g) (hn : xs.length = n) (hl : n ≤ 1048576) (hs : Crc.more 0 xs = s) :
    Calls Try.prog 18 #[.pointer (some ⟨g, 0, none⟩), .slice A n cap] x.val fun e w' => e = .returned (.int .u32 s) ∧ ∃ y : InS (Sx w g g2 l), w' = y.val := by
  subst hn
  subst hs
  refine (sum_calls g A cap xs x.val x.ok.2.1 hR ho (by omega)).mono ?_
  rintro e w' ⟨rfl, hO, hT⟩
  exact ⟨rfl, ⟨w', hO.bel x.ok.1 hg, hT.at_, x.ok.2.2.only hO (fun _ b off e => by injection e with e; injection e; omega)⟩, rfl⟩

set_option maxRecDepth 20000 in
set_option maxHeartbeats 1000000 in
theorem walk1 (A : Option Addr) (cap : Nat) (xs : List Nat) (B : Option Addr) (cap' : Nat) (ys : List Nat) (C : Option Addr) (cap'' : Nat) (zs : List Nat) (la lb lc n : Nat) (hla : Hid (la = xs.length)) (hlb : Hid (lb = ys.length)) (hlc : Hid (lc = zs.length))
    (w : World) (hR : Hid (Rd8 w A xs)) (hS : Hid (Rd8 w B ys)) (hU : Hid (Rd8 w C zs)) (hca : la ≤ cap) (hcb : lb ≤ cap') (hcc : lc ≤ cap'') (hcap : cap ≤ 2 ^ 47 ∧ cap' ≤ 2 ^ 47 ∧ cap'' ≤ 2 ^ 47) (h1 : ¬ lb < la) (h2 : ¬ lc < la) (hn : n = la) (hN : n ≤ la ∧ n ≤ lb ∧ n ≤ lc) :
    Calls Try.prog 7 #[.slice A la cap, .slice B lb cap', .slice C lc cap''] w fun e w' => e = .returned (.bool true) ∧ Below w.heap.size w w' := by
  have HM := Lib.hid (show (la : Int) = (n : Int) by omega)
  have i1 : ¬ (lb : Int) < (la : Int) := by omega
  have i2 : ¬ (lc : Int) < (la : Int) := by omega
  by_cases hb : 1048576 < n
  · have hbi : (1048576 : Int) < (la : Int) := by omega
    clear hb hN hn h1 h2
    go_enter Try.func7, Try.ntmps7
    go_wp2_with fail
    refine (crc_awake _).mono ?_
    rintro e w1 ⟨rfl, hb1⟩
    go_wp2_with fail
    go_ret
    exact ⟨rfl, hb1⟩
  · have hbi : ¬ (1048576 : Int) < (la : Int) := by omega
    have hmk : ∀ W : World, (Instr.makeSlice 22 (.int .i64 (la : Int)) (.int .i64 (la : Int))).run Try.prog W = .ok (.slice (some ⟨W.heap.size, 0, none⟩) n n) (W.alloc (.cells (madeCells #[.int .u8 0] n) 5)) := fun W => by
      obtain ⟨i0, hi0, hz0, hz1, hz2⟩ := info_parts info8
      have hr := run_make (P := Try.prog) W 22 5 i0 (.int .u8 0) Try.underlying22 hi0 hz0 .i64 .i64 n n (by omega) (by omega) (by rw [hz2]; omega) (by omega)
      rw [hz1] at hr
      simp only [Int.toNat_natCast, Nat.mul_one] at hr
      rw [HM.out]
      exact hr
    have HN := Lib.hid (show n ≤ 1048576 from by omega)
    have HL := Lib.hid hN
    have HCA := Lib.hid hca
    clear hca
    have HCB := Lib.hid hcb
    clear hcb
    have HCC := Lib.hid hcc
    clear hcc
    have HCAP := Lib.hid hcap
    clear hcap
    clear hb hN hn h1 h2
    go_enter Try.func7, Try.ntmps7
    go_wp2_with fail
    refine (crc_awake _).mono ?_
    rintro e w1 ⟨rfl, hb1⟩
    go_wp2_with fail
    rw [HM.out]
    have ho : Own8 (w1.alloc (.cells (madeCells #[.int .u8 0] n) 5)) w1.heap.size (.slice (some ⟨w1.heap.size, 0, none⟩) n n) (List.replicate n 0) := by
      have := Own8.lit w1 w1.heap.size (Nat.le_refl _) (List.replicate n 0) (by intro x hx; rw [List.eq_of_mem_replicate hx]; omega) (by have := HN.out; simp [maxLen]; omega) (madeCells #[.int .u8 0] n) (by
        apply Array.toList_inj.1
        rw [toList_madeCells_one]
        simp [cell8])
      rwa [List.length_replicate] at this
    have hbn : Below w1.heap.size w1 (w1.alloc (.cells (madeCells #[.int .u8 0] n) 5)) := (Below.refl _ _).alloc (Nat.le_refl _) _
    generalize w1.alloc (.cells (madeCells #[.int .u8 0] n) 5) = w2 at *
    generalize hg2 : w1.heap.size = g2 at *
    have HG2 := Lib.hid hg2
    have HO := Lib.hid ho
    have HBN := Lib.hid hbn
    have HB1 := Lib.hid hb1
    clear ho hbn hmk hg2 hb1
    go_loopg [9] n (fun k v9 wr => ∃ (i : Nat), i + k = n ∧ v9 = .int .i64 i ∧ Hid (∃ L : List Nat, L.length = n ∧ (∀ j, j < i → L.getD j 0 = xs.getD j 0 ^^^ ys.getD j 0 ^^^ zs.getD j 0) ∧ Own8 wr g2 (.slice (some ⟨g2, 0, none⟩) n n) L ∧ Below g2 w1 wr))
    case atStart => exact ⟨0, by omega, rfl, Lib.hid ⟨_, by simp, fun j hj => absurd hj (Nat.not_lt_zero _), HO.out, HBN.out⟩⟩
    case round =>
      obtain ⟨i, hi, rfl, HI⟩ := hrel
      by_cases hlt : i < n
      · have hg : 0 < gk := by omega
        have hil : (i : Int) < (n : Int) := by omega
        have hila : (i : Int) < (la : Int) := by have := HL.out; omega
        have hilb : (i : Int) < (lb : Int) := by have := HL.out; omega
        have hilc : (i : Int) < (lc : Int) := by have := HL.out; omega
        have HII := Lib.hid hi
        obtain ⟨L, hLl, hL, hOL, hBL⟩ := HI.out
        have hbw := bel_tr HB1.out (HG2.out.symm ▸ hBL)
        obtain ⟨hc1, hc2, hc3⟩ := hOL.at_ i (by omega)
        obtain ⟨b1, o1, rfl, q1, x1, a1⟩ := (hR.out.bel hbw) i (by have := HL.out; have := hla.out; omega)
        obtain ⟨b2, o2, rfl, q2, x2, a2⟩ := (hS.out.bel hbw) i (by have := HL.out; have := hlb.out; omega)
        obtain ⟨b3, o3, rfl, q3, x3, a3⟩ := (hU.out.bel hbw) i (by have := HL.out; have := hlc.out; omega)
        have HLx := Lib.hid hL
        have HLL := Lib.hid hLl
        have HOL := Lib.hid hOL
        have HBL := Lib.hid hBL
        generalize hx : xs.getD i 0 = xv at x1 a1
        generalize hy : ys.getD i 0 = yv at x2 a2
        generalize hz : zs.getD i 0 = zv at x3 a3
        generalize hl : L.getD i 0 = lv at hc1 hc3
        have HX := Lib.hid hx
        have HY := Lib.hid hy
        have HZ := Lib.hid hz
        clear hx hy hz hl hL hLl hOL hBL hi hbw
        go_wp2_with fail
        go_region
        have hx2 : bits .xor .u8 (bits .xor .u8 (xv : Int) (yv : Int)) (zv : Int) = ((xv ^^^ yv ^^^ zv : Nat) : Int) := by
          rw [u8_xor_nat xv yv (by omega) (by omega), u8_xor_nat _ zv (Nat.xor_lt_two_pow (n := 8) (by omega) (by omega)) (by omega)]
        have hyx : xv ^^^ yv ^^^ zv < 256 := Nat.xor_lt_two_pow (n := 8) (Nat.xor_lt_two_pow (n := 8) (by omega) (by omega)) (by omega)
        rw [hx2]
        clear hx2
        have hfin := Lib.hid (show ∃ L' : List Nat, L'.length = n ∧ (∀ j, j < i + 1 → L'.getD j 0 = xs.getD j 0 ^^^ ys.getD j 0 ^^^ zs.getD j 0) ∧ Own8 ((wr.setCell ⟨g2, i, none⟩ (.int .u8 ((xv ^^^ yv ^^^ zv : Nat) : Int))).drew) g2 (.slice (some ⟨g2, 0, none⟩) n n) L' ∧ Below g2 w1 ((wr.setCell ⟨g2, i, none⟩ (.int .u8 ((xv ^^^ yv ^^^ zv : Nat) : Int))).drew) from by
          refine ⟨L.set i (xv ^^^ yv ^^^ zv), by rw [List.length_set]; exact HLL.out, fun j hj => ?_, (HOL.out.put i _ hyx).kept ((Below.refl _ _).drew), (HBL.out.setCell (Nat.le_refl _) _).drew⟩
          by_cases hji : j = i
          · subst hji
            rw [HX.out, HY.out, HZ.out]
            have := HLL.out
            simp [List.getD, List.getElem?_set, show j < L.length from by omega]
          · rw [← HLx.out j (by omega)]
            simp [List.getD, List.getElem?_set, show ¬ i = j from fun e => hji e.symm])
        generalize (wr.setCell ⟨g2, i, none⟩ (.int .u8 ((xv ^^^ yv ^^^ zv : Nat) : Int))).drew = wr2 at *
        clear hyx hc1 hc2 hc3 a1 a2 a3
        go_wp2_with fail
        go_roundg (gk - 1)
        case rel =>
          have := HII.out
          exact ⟨i + 1, by omega, by go_num, hfin⟩
        case measure => omega
      · have hin : i = n := by omega
        subst hin
        clear hi hlt
        obtain ⟨L, hLl, hL, hOL, hBL⟩ := HI.out
        have HB := Lib.hid (bel_tr HB1.out (HG2.out.symm ▸ hBL))
        obtain ⟨A2, c2, e2, _, hR2, hF2⟩ := hOL.form
        injection e2 with e2 e3 e4
        subst e2
        have HR2 := Lib.hid hR2
        obtain ⟨s, hs⟩ : ∃ s, Crc.more 0 L = s := ⟨_, rfl⟩
        obtain ⟨s1, hs1⟩ : ∃ s, Crc.more 0 (xs.take i) = s := ⟨_, rfl⟩
        obtain ⟨s2, hs2⟩ : ∃ s, Crc.more 0 (ys.take i) = s := ⟨_, rfl⟩
        obtain ⟨s3, hs3⟩ : ∃ s, Crc.more 0 (zs.take i) = s := ⟨_, rfl⟩
        have lx : (xs.take i).length = i := by have := HL.out; have := hla.out; simp; omega
        have ly : (ys.take i).length = i := by have := HL.out; have := hlb.out; simp; omega
        have lz : (zs.take i).length = i := by have := HL.out; have := hlc.out; simp; omega
        have hsum : s = s1 ^^^ s2 ^^^ s3 := by
          rw [← hs, ← hs1, ← hs2, ← hs3]
          refine three L _ _ _ (by omega) (by omega) (by omega) (fun j hj => ?_)
          rw [getD_take _ _ _ (by omega), getD_take _ _ _ (by omega), getD_take _ _ _ (by omega)]
          exact hL j (by omega)
        have hg2l : g2 < wr.heap.size := (hOL.1.lt g2 rfl).2
        have HLL := Lib.hid hLl
        have HF2 := Lib.hid hF2
        have HSUM := Lib.hid hsum
        have HS0 := Lib.hid hs
        have HS1 := Lib.hid hs1
        have HS2 := Lib.hid hs2
        have HS3 := Lib.hid hs3
        have HLX := Lib.hid lx
        have HLY := Lib.hid ly
        have HLZ := Lib.hid lz
        clear hL hLl hOL hBL hF2 hR2 e3 e4 hs hs1 hs2 hs3 lx ly lz hsum
        go_wp2_with fail
        refine (new_calls _).mono ?_
        rintro e w3 ⟨rfl, rfl⟩
        have hT := new_tab wr
        have hsz := HB.out.size
        have hb3 : Below w.heap.size w (wr.alloc (.cells tabNew 67)) := bel_new HB.out _
        have hR3 : Rd8 (wr.alloc (.cells tabNew 67)) (some ⟨g2, 0, none⟩) L := HR2.out.bel ((Below.refl _ _).alloc (Nat.le_refl _) _)
        generalize wr.alloc (.cells tabNew 67) = w3 at *
        generalize wr.heap.size = g at *
        have HT3 := Lib.hid hT
        have HB3 := Lib.hid hb3
        have HR3 := Lib.hid hR3
        clear hT hb3 hR3
        have SX : Sx w g g2 L w3.drew := ⟨HB3.out.drew, HT3.out, HR3.out⟩
        have hne : Nonempty (InS (Sx w g g2 L)) := ⟨⟨_, SX⟩⟩
        have K0 := Lib.hid (fun x : InS (Sx w g g2 L) => Sx.call hsz (by omega) x (some ⟨g2, 0, none⟩) i i s L x.ok.2.2 (fun _ b off e => by injection e with e; injection e; omega) HLL.out HN.out HS0.out)
        have K1 := Lib.hid (fun x : InS (Sx w g g2 L) => Sx.call hsz (by omega) x A cap i s1 (xs.take i) (rd8_take (hR.out.bel x.ok.1) i) ((rd8_take hR.out i).off hsz) HLX.out HN.out HS1.out)
        have K2 := Lib.hid (fun x : InS (Sx w g g2 L) => Sx.call hsz (by omega) x B cap' i s2 (ys.take i) (rd8_take (hS.out.bel x.ok.1) i) ((rd8_take hS.out i).off hsz) HLY.out HN.out HS2.out)
        have K3 := Lib.hid (fun x : InS (Sx w g g2 L) => Sx.call hsz (by omega) x C cap'' i s3 (zs.take i) (rd8_take (hU.out.bel x.ok.1) i) ((rd8_take hU.out i).off hsz) HLZ.out HN.out HS3.out)
        have sl1 : (i : Int) ≤ (cap : Int) := by have := HL.out; have := HCA.out; omega
        have sl2 : (i : Int) ≤ (cap' : Int) := by have := HL.out; have := HCB.out; omega
        have sl3 : (i : Int) ≤ (cap'' : Int) := by have := HL.out; have := HCC.out; omega
        have sl0 : (0 : Int) ≤ (i : Int) := by omega
        go_wp2_with fail
        refine wp_region_in (Sx w g g2 L) (by kernel_rfl) (by kernel_rfl) SX ?_
        repeat (go_big_quiet_step ((go_at_call 18; first | exact K0.out _ | exact K1.out _ | exact K2.out _ | exact K3.out _)))
        have hfin : bits .xor .u32 (bits .xor .u32 (s1 : Int) (s2 : Int)) (s3 : Int) = (s : Int) := by
          have b1 : s1 < 2 ^ 32 := HS1.out ▸ more_lt 0 _ (by decide) (rd8_lt (rd8_take hR.out i))
          have b2 : s2 < 2 ^ 32 := HS2.out ▸ more_lt 0 _ (by decide) (rd8_lt (rd8_take hS.out i))
          have b3 : s3 < 2 ^ 32 := HS3.out ▸ more_lt 0 _ (by decide) (rd8_lt (rd8_take hU.out i))
          rw [u32_xor_nat s1 s2 (by omega) (by omega), u32_xor_nat _ s3 (Nat.xor_lt_two_pow b1 b2) (by omega), HSUM.out]
        rw [hfin]
        clear hfin
        refine wpQuiet_nil ?_
        intro W hW
        have hs := (in_ok hW).1
        clear hW
        have hee : ((s : Int) == (s : Int)) = true := by simp
        rw [hee]
        clear hee hne K0 K1 K2 K3 SX
        go_wp2_with fail
        go_ret
        exact ⟨rfl, hs⟩

set_option maxRecDepth 20000 in
set_option maxHeartbeats 1000000 in
theorem walk2 (A : Option Addr) (cap : Nat) (xs : List Nat) (B : Option Addr) (cap' : Nat) (ys : List Nat) (C : Option Addr) (cap'' : Nat) (zs : List Nat) (la lb lc n : Nat) (hla : Hid (la = xs.length)) (hlb : Hid (lb = ys.length)) (hlc : Hid (lc = zs.length))
    (w : World) (hR : Hid (Rd8 w A xs)) (hS : Hid (Rd8 w B ys)) (hU : Hid (Rd8 w C zs)) (hca : la ≤ cap) (hcb : lb ≤ cap') (hcc : lc ≤ cap'') (hcap : cap ≤ 2 ^ 47 ∧ cap' ≤ 2 ^ 47 ∧ cap'' ≤ 2 ^ 47) (h1 : ¬ lb < la) (h2 : lc < la) (hn : n = lc) (hN : n ≤ la ∧ n ≤ lb ∧ n ≤ lc) :
    Calls Try.prog 7 #[.slice A la cap, .slice B lb cap', .slice C lc cap''] w fun e w' => e = .returned (.bool true) ∧ Below w.heap.size w w' := by
  have HM := Lib.hid (show (lc : Int) = (n : Int) by omega)
  have i1 : ¬ (lb : Int) < (la : Int) := by omega
  have i2 : (lc : Int) < (la : Int) := by omega
  by_cases hb : 1048576 < n
  · have hbi : (1048576 : Int) < (lc : Int) := by omega
    clear hb hN hn h1 h2
    go_enter Try.func7, Try.ntmps7
    go_wp2_with fail
    refine (crc_awake _).mono ?_
    rintro e w1 ⟨rfl, hb1⟩
    go_wp2_with fail
    go_ret
    exact ⟨rfl, hb1⟩
  · have hbi : ¬ (1048576 : Int) < (lc : Int) := by omega
    have hmk : ∀ W : World, (Instr.makeSlice 22 (.int .i64 (lc : Int)) (.int .i64 (lc : Int))).run Try.prog W = .ok (.slice (some ⟨W.heap.size, 0, none⟩) n n) (W.alloc (.cells (madeCells #[.int .u8 0] n) 5)) := fun W => by
      obtain ⟨i0, hi0, hz0, hz1, hz2⟩ := info_parts info8
      have hr := run_make (P := Try.prog) W 22 5 i0 (.int .u8 0) Try.underlying22 hi0 hz0 .i64 .i64 n n (by omega) (by omega) (by rw [hz2]; omega) (by omega)
      rw [hz1] at hr
      simp only [Int.toNat_natCast, Nat.mul_one] at hr
      rw [HM.out]
      exact hr
    have HN := Lib.hid (show n ≤ 1048576 from by omega)
    have HL := Lib.hid hN
    have HCA := Lib.hid hca
    clear hca
    have HCB := Lib.hid hcb
    clear hcb
    have HCC := Lib.hid hcc
    clear hcc
    have HCAP := Lib.hid hcap
    clear hcap
    clear hb hN hn h1 h2
    go_enter Try.func7, Try.ntmps7
    go_wp2_with fail
    refine (crc_awake _).mono ?_
    rintro e w1 ⟨rfl, hb1⟩
    go_wp2_with fail
    rw [HM.out]
    have ho : Own8 (w1.alloc (.cells (madeCells #[.int .u8 0] n) 5)) w1.heap.size (.slice (some ⟨w1.heap.size, 0, none⟩) n n) (List.replicate n 0) := by
      have := Own8.lit w1 w1.heap.size (Nat.le_refl _) (List.replicate n 0) (by intro x hx; rw [List.eq_of_mem_replicate hx]; omega) (by have := HN.out; simp [maxLen]; omega) (madeCells #[.int .u8 0] n) (by
        apply Array.toList_inj.1
        rw [toList_madeCells_one]
        simp [cell8])
      rwa [List.length_replicate] at this
    have hbn : Below w1.heap.size w1 (w1.alloc (.cells (madeCells #[.int .u8 0] n) 5)) := (Below.refl _ _).alloc (Nat.le_refl _) _
    generalize w1.alloc (.cells (madeCells #[.int .u8 0] n) 5) = w2 at *
    generalize hg2 : w1.heap.size = g2 at *
    have HG2 := Lib.hid hg2
    have HO := Lib.hid ho
    have HBN := Lib.hid hbn
    have HB1 := Lib.hid hb1
    clear ho hbn hmk hg2 hb1
    go_loopg [9] n (fun k v9 wr => ∃ (i : Nat), i + k = n ∧ v9 = .int .i64 i ∧ Hid (∃ L : List Nat, L.length = n ∧ (∀ j, j < i → L.getD j 0 = xs.getD j 0 ^^^ ys.getD j 0 ^^^ zs.getD j 0) ∧ Own8 wr g2 (.slice (some ⟨g2, 0, none⟩) n n) L ∧ Below g2 w1 wr))
    case atStart => exact ⟨0, by omega, rfl, Lib.hid ⟨_, by simp, fun j hj => absurd hj (Nat.not_lt_zero _), HO.out, HBN.out⟩⟩
    case round =>
      obtain ⟨i, hi, rfl, HI⟩ := hrel
      by_cases hlt : i < n
      · have hg : 0 < gk := by omega
        have hil : (i : Int) < (n : Int) := by omega
        have hila : (i : Int) < (la : Int) := by have := HL.out; omega
        have hilb : (i : Int) < (lb : Int) := by have := HL.out; omega
        have hilc : (i : Int) < (lc : Int) := by have := HL.out; omega
        have HII := Lib.hid hi
        obtain ⟨L, hLl, hL, hOL, hBL⟩ := HI.out
        have hbw := bel_tr HB1.out (HG2.out.symm ▸ hBL)
        obtain ⟨hc1, hc2, hc3⟩ := hOL.at_ i (by omega)
        obtain ⟨b1, o1, rfl, q1, x1, a1⟩ := (hR.out.bel hbw) i (by have := HL.out; have := hla.out; omega)
        obtain ⟨b2, o2, rfl, q2, x2, a2⟩ := (hS.out.bel hbw) i (by have := HL.out; have := hlb.out; omega)
        obtain ⟨b3, o3, rfl, q3, x3, a3⟩ := (hU.out.bel hbw) i (by have := HL.out; have := hlc.out; omega)
        have HLx := Lib.hid hL
        have HLL := Lib.hid hLl
        have HOL := Lib.hid hOL
        have HBL := Lib.hid hBL
        generalize hx : xs.getD i 0 = xv at x1 a1
        generalize hy : ys.getD i 0 = yv at x2 a2
        generalize hz : zs.getD i 0 = zv at x3 a3
        generalize hl : L.getD i 0 = lv at hc1 hc3
        have HX := Lib.hid hx
        have HY := Lib.hid hy
        have HZ := Lib.hid hz
        clear hx hy hz hl hL hLl hOL hBL hi hbw
        go_wp2_with fail
        go_region
        have hx2 : bits .xor .u8 (bits .xor .u8 (xv : Int) (yv : Int)) (zv : Int) = ((xv ^^^ yv ^^^ zv : Nat) : Int) := by
          rw [u8_xor_nat xv yv (by omega) (by omega), u8_xor_nat _ zv (Nat.xor_lt_two_pow (n := 8) (by omega) (by omega)) (by omega)]
        have hyx : xv ^^^ yv ^^^ zv < 256 := Nat.xor_lt_two_pow (n := 8) (Nat.xor_lt_two_pow (n := 8) (by omega) (by omega)) (by omega)
        rw [hx2]
        clear hx2
        have hfin := Lib.hid (show ∃ L' : List Nat, L'.length = n ∧ (∀ j, j < i + 1 → L'.getD j 0 = xs.getD j 0 ^^^ ys.getD j 0 ^^^ zs.getD j 0) ∧ Own8 ((wr.setCell ⟨g2, i, none⟩ (.int .u8 ((xv ^^^ yv ^^^ zv : Nat) : Int))).drew) g2 (.slice (some ⟨g2, 0, none⟩) n n) L' ∧ Below g2 w1 ((wr.setCell ⟨g2, i, none⟩ (.int .u8 ((xv ^^^ yv ^^^ zv : Nat) : Int))).drew) from by
          refine ⟨L.set i (xv ^^^ yv ^^^ zv), by rw [List.length_set]; exact HLL.out, fun j hj => ?_, (HOL.out.put i _ hyx).kept ((Below.refl _ _).drew), (HBL.out.setCell (Nat.le_refl _) _).drew⟩
          by_cases hji : j = i
          · subst hji
            rw [HX.out, HY.out, HZ.out]
            have := HLL.out
            simp [List.getD, List.getElem?_set, show j < L.length from by omega]
          · rw [← HLx.out j (by omega)]
            simp [List.getD, List.getElem?_set, show ¬ i = j from fun e => hji e.symm])
        generalize (wr.setCell ⟨g2, i, none⟩ (.int .u8 ((xv ^^^ yv ^^^ zv : Nat) : Int))).drew = wr2 at *
        clear hyx hc1 hc2 hc3 a1 a2 a3
        go_wp2_with fail
        go_roundg (gk - 1)
        case rel =>
          have := HII.out
          exact ⟨i + 1, by omega, by go_num, hfin⟩
        case measure => omega
      · have hin : i = n := by omega
        subst hin
        clear hi hlt
        obtain ⟨L, hLl, hL, hOL, hBL⟩ := HI.out
        have HB := Lib.hid (bel_tr HB1.out (HG2.out.symm ▸ hBL))
        obtain ⟨A2, c2, e2, _, hR2, hF2⟩ := hOL.form
        injection e2 with e2 e3 e4
        subst e2
        have HR2 := Lib.hid hR2
        obtain ⟨s, hs⟩ : ∃ s, Crc.more 0 L = s := ⟨_, rfl⟩
        obtain ⟨s1, hs1⟩ : ∃ s, Crc.more 0 (xs.take i) = s := ⟨_, rfl⟩
        obtain ⟨s2, hs2⟩ : ∃ s, Crc.more 0 (ys.take i) = s := ⟨_, rfl⟩
        obtain ⟨s3, hs3⟩ : ∃ s, Crc.more 0 (zs.take i) = s := ⟨_, rfl⟩
        have lx : (xs.take i).length = i := by have := HL.out; have := hla.out; simp; omega
        have ly : (ys.take i).length = i := by have := HL.out; have := hlb.out; simp; omega
        have lz : (zs.take i).length = i := by have := HL.out; have := hlc.out; simp; omega
        have hsum : s = s1 ^^^ s2 ^^^ s3 := by
          rw [← hs, ← hs1, ← hs2, ← hs3]
          refine three L _ _ _ (by omega) (by omega) (by omega) (fun j hj => ?_)
          rw [getD_take _ _ _ (by omega), getD_take _ _ _ (by omega), getD_take _ _ _ (by omega)]
          exact hL j (by omega)
        have hg2l : g2 < wr.heap.size := (hOL.1.lt g2 rfl).2
        have HLL := Lib.hid hLl
        have HF2 := Lib.hid hF2
        have HSUM := Lib.hid hsum
        have HS0 := Lib.hid hs
        have HS1 := Lib.hid hs1
        have HS2 := Lib.hid hs2
        have HS3 := Lib.hid hs3
        have HLX := Lib.hid lx
        have HLY := Lib.hid ly
        have HLZ := Lib.hid lz
        clear hL hLl hOL hBL hF2 hR2 e3 e4 hs hs1 hs2 hs3 lx ly lz hsum
        go_wp2_with fail
        refine (new_calls _).mono ?_
        rintro e w3 ⟨rfl, rfl⟩
        have hT := new_tab wr
        have hsz := HB.out.size
        have hb3 : Below w.heap.size w (wr.alloc (.cells tabNew 67)) := bel_new HB.out _
        have hR3 : Rd8 (wr.alloc (.cells tabNew 67)) (some ⟨g2, 0, none⟩) L := HR2.out.bel ((Below.refl _ _).alloc (Nat.le_refl _) _)
        generalize wr.alloc (.cells tabNew 67) = w3 at *
        generalize wr.heap.size = g at *
        have HT3 := Lib.hid hT
        have HB3 := Lib.hid hb3
        have HR3 := Lib.hid hR3
        clear hT hb3 hR3
        have SX : Sx w g g2 L w3.drew := ⟨HB3.out.drew, HT3.out, HR3.out⟩
        have hne : Nonempty (InS (Sx w g g2 L)) := ⟨⟨_, SX⟩⟩
        have K0 := Lib.hid (fun x : InS (Sx w g g2 L) => Sx.call hsz (by omega) x (some ⟨g2, 0, none⟩) i i s L x.ok.2.2 (fun _ b off e => by injection e with e; injection e; omega) HLL.out HN.out HS0.out)
        have K1 := Lib.hid (fun x : InS (Sx w g g2 L) => Sx.call hsz (by omega) x A cap i s1 (xs.take i) (rd8_take (hR.out.bel x.ok.1) i) ((rd8_take hR.out i).off hsz) HLX.out HN.out HS1.out)
        have K2 := Lib.hid (fun x : InS (Sx w g g2 L) => Sx.call hsz (by omega) x B cap' i s2 (ys.take i) (rd8_take (hS.out.bel x.ok.1) i) ((rd8_take hS.out i).off hsz) HLY.out HN.out HS2.out)
        have K3 := Lib.hid (fun x : InS (Sx w g g2 L) => Sx.call hsz (by omega) x C cap'' i s3 (zs.take i) (rd8_take (hU.out.bel x.ok.1) i) ((rd8_take hU.out i).off hsz) HLZ.out HN.out HS3.out)
        have sl1 : (i : Int) ≤ (cap : Int) := by have := HL.out; have := HCA.out; omega
        have sl2 : (i : Int) ≤ (cap' : Int) := by have := HL.out; have := HCB.out; omega
        have sl3 : (i : Int) ≤ (cap'' : Int) := by have := HL.out; have := HCC.out; omega
        have sl0 : (0 : Int) ≤ (i : Int) := by omega
        go_wp2_with fail
        refine wp_region_in (Sx w g g2 L) (by kernel_rfl) (by kernel_rfl) SX ?_
        repeat (go_big_quiet_step ((go_at_call 18; first | exact K0.out _ | exact K1.out _ | exact K2.out _ | exact K3.out _)))
        have hfin : bits .xor .u32 (bits .xor .u32 (s1 : Int) (s2 : Int)) (s3 : Int) = (s : Int) := by
          have b1 : s1 < 2 ^ 32 := HS1.out ▸ more_lt 0 _ (by decide) (rd8_lt (rd8_take hR.out i))
          have b2 : s2 < 2 ^ 32 := HS2.out ▸ more_lt 0 _ (by decide) (rd8_lt (rd8_take hS.out i))
          have b3 : s3 < 2 ^ 32 := HS3.out ▸ more_lt 0 _ (by decide) (rd8_lt (rd8_take hU.out i))
          rw [u32_xor_nat s1 s2 (by omega) (by omega), u32_xor_nat _ s3 (Nat.xor_lt_two_pow b1 b2) (by omega), HSUM.out]
        rw [hfin]
        clear hfin
        refine wpQuiet_nil ?_
        intro W hW
        have hs := (in_ok hW).1
        clear hW
        have hee : ((s : Int) == (s : Int)) = true := by simp
        rw [hee]
        clear hee hne K0 K1 K2 K3 SX
        go_wp2_with fail
        go_ret
        exact ⟨rfl, hs⟩

set_option maxRecDepth 20000 in
set_option maxHeartbeats 1000000 in
theorem walk3 (A : Option Addr) (cap : Nat) (xs : List Nat) (B : Option Addr) (cap' : Nat) (ys : List Nat) (C : Option Addr) (cap'' : Nat) (zs : List Nat) (la lb lc n : Nat) (hla : Hid (la = xs.length)) (hlb : Hid (lb = ys.length)) (hlc : Hid (lc = zs.length))
    (w : World) (hR : Hid (Rd8 w A xs)) (hS : Hid (Rd8 w B ys)) (hU : Hid (Rd8 w C zs)) (hca : la ≤ cap) (hcb : lb ≤ cap') (hcc : lc ≤ cap'') (hcap : cap ≤ 2 ^ 47 ∧ cap' ≤ 2 ^ 47 ∧ cap'' ≤ 2 ^ 47) (h1 : lb < la) (h2 : ¬ lc < lb) (hn : n = lb) (hN : n ≤ la ∧ n ≤ lb ∧ n ≤ lc) :
    Calls Try.prog 7 #[.slice A la cap, .slice B lb cap', .slice C lc cap''] w fun e w' => e = .returned (.bool true) ∧ Below w.heap.size w w' := by
  have HM := Lib.hid (show (lb : Int) = (n : Int) by omega)
  have i1 : (lb : Int) < (la : Int) := by omega
  have i2 : ¬ (lc : Int) < (lb : Int) := by omega
  by_cases hb : 1048576 < n
  · have hbi : (1048576 : Int) < (lb : Int) := by omega
    clear hb hN hn h1 h2
    go_enter Try.func7, Try.ntmps7
    go_wp2_with fail
    refine (crc_awake _).mono ?_
    rintro e w1 ⟨rfl, hb1⟩
    go_wp2_with fail
    go_ret
    exact ⟨rfl, hb1⟩
  · have hbi : ¬ (1048576 : Int) < (lb : Int) := by omega
    have hmk : ∀ W : World, (Instr.makeSlice 22 (.int .i64 (lb : Int)) (.int .i64 (lb : Int))).run Try.prog W = .ok (.slice (some ⟨W.heap.size, 0, none⟩) n n) (W.alloc (.cells (madeCells #[.int .u8 0] n) 5)) := fun W => by
      obtain ⟨i0, hi0, hz0, hz1, hz2⟩ := info_parts info8
      have hr := run_make (P := Try.prog) W 22 5 i0 (.int .u8 0) Try.underlying22 hi0 hz0 .i64 .i64 n n (by omega) (by omega) (by rw [hz2]; omega) (by omega)
      rw [hz1] at hr
      simp only [Int.toNat_natCast, Nat.mul_one] at hr
      rw [HM.out]
      exact hr
    have HN := Lib.hid (show n ≤ 1048576 from by omega)
    have HL := Lib.hid hN
    have HCA := Lib.hid hca
    clear hca
    have HCB := Lib.hid hcb
    clear hcb
    have HCC := Lib.hid hcc
    clear hcc
    have HCAP := Lib.hid hcap
    clear hcap
    clear hb hN hn h1 h2
    go_enter Try.func7, Try.ntmps7
    go_wp2_with fail
    refine (crc_awake _).mono ?_
    rintro e w1 ⟨rfl, hb1⟩
    go_wp2_with fail
    rw [HM.out]
    have ho : Own8 (w1.alloc (.cells (madeCells #[.int .u8 0] n) 5)) w1.heap.size (.slice (some ⟨w1.heap.size, 0, none⟩) n n) (List.replicate n 0) := by
      have := Own8.lit w1 w1.heap.size (Nat.le_refl _) (List.replicate n 0) (by intro x hx; rw [List.eq_of_mem_replicate hx]; omega) (by have := HN.out; simp [maxLen]; omega) (madeCells #[.int .u8 0] n) (by
        apply Array.toList_inj.1
        rw [toList_madeCells_one]
        simp [cell8])
      rwa [List.length_replicate] at this
    have hbn : Below w1.heap.size w1 (w1.alloc (.cells (madeCells #[.int .u8 0] n) 5)) := (Below.refl _ _).alloc (Nat.le_refl _) _
    generalize w1.alloc (.cells (madeCells #[.int .u8 0] n) 5) = w2 at *
    generalize hg2 : w1.heap.size = g2 at *
    have HG2 := Lib.hid hg2
    have HO := Lib.hid ho
    have HBN := Lib.hid hbn
    have HB1 := Lib.hid hb1
    clear ho hbn hmk hg2 hb1
    go_loopg [9] n (fun k v9 wr => ∃ (i : Nat), i + k = n ∧ v9 = .int .i64 i ∧ Hid (∃ L : List Nat, L.length = n ∧ (∀ j, j < i → L.getD j 0 = xs.getD j 0 ^^^ ys.getD j 0 ^^^ zs.getD j 0) ∧ Own8 wr g2 (.slice (some ⟨g2, 0, none⟩) n n) L ∧ Below g2 w1 wr))
    case atStart => exact ⟨0, by omega, rfl, Lib.hid ⟨_, by simp, fun j hj => absurd hj (Nat.not_lt_zero _), HO.out, HBN.out⟩⟩
    case round =>
      obtain ⟨i, hi, rfl, HI⟩ := hrel
      by_cases hlt : i < n
      · have hg : 0 < gk := by omega
        have hil : (i : Int) < (n : Int) := by omega
        have hila : (i : Int) < (la : Int) := by have := HL.out; omega
        have hilb : (i : Int) < (lb : Int) := by have := HL.out; omega
        have hilc : (i : Int) < (lc : Int) := by have := HL.out; omega
        have HII := Lib.hid hi
        obtain ⟨L, hLl, hL, hOL, hBL⟩ := HI.out
        have hbw := bel_tr HB1.out (HG2.out.symm ▸ hBL)
        obtain ⟨hc1, hc2, hc3⟩ := hOL.at_ i (by omega)
        obtain ⟨b1, o1, rfl, q1, x1, a1⟩ := (hR.out.bel hbw) i (by have := HL.out; have := hla.out; omega)
        obtain ⟨b2, o2, rfl, q2, x2, a2⟩ := (hS.out.bel hbw) i (by have := HL.out; have := hlb.out; omega)
        obtain ⟨b3, o3, rfl, q3, x3, a3⟩ := (hU.out.bel hbw) i (by have := HL.out; have := hlc.out; omega)
        have HLx := Lib.hid hL
        have HLL := Lib.hid hLl
        have HOL := Lib.hid hOL
        have HBL := Lib.hid hBL
        generalize hx : xs.getD i 0 = xv at x1 a1
        generalize hy : ys.getD i 0 = yv at x2 a2
        generalize hz : zs.getD i 0 = zv at x3 a3
        generalize hl : L.getD i 0 = lv at hc1 hc3
        have HX := Lib.hid hx
        have HY := Lib.hid hy
        have HZ := Lib.hid hz
        clear hx hy hz hl hL hLl hOL hBL hi hbw
        go_wp2_with fail
        go_region
        have hx2 : bits .xor .u8 (bits .xor .u8 (xv : Int) (yv : Int)) (zv : Int) = ((xv ^^^ yv ^^^ zv : Nat) : Int) := by
          rw [u8_xor_nat xv yv (by omega) (by omega), u8_xor_nat _ zv (Nat.xor_lt_two_pow (n := 8) (by omega) (by omega)) (by omega)]
        have hyx : xv ^^^ yv ^^^ zv < 256 := Nat.xor_lt_two_pow (n := 8) (Nat.xor_lt_two_pow (n := 8) (by omega) (by omega)) (by omega)
        rw [hx2]
        clear hx2
        have hfin := Lib.hid (show ∃ L' : List Nat, L'.length = n ∧ (∀ j, j < i + 1 → L'.getD j 0 = xs.getD j 0 ^^^ ys.getD j 0 ^^^ zs.getD j 0) ∧ Own8 ((wr.setCell ⟨g2, i, none⟩ (.int .u8 ((xv ^^^ yv ^^^ zv : Nat) : Int))).drew) g2 (.slice (some ⟨g2, 0, none⟩) n n) L' ∧ Below g2 w1 ((wr.setCell ⟨g2, i, none⟩ (.int .u8 ((xv ^^^ yv ^^^ zv : Nat) : Int))).drew) from by
          refine ⟨L.set i (xv ^^^ yv ^^^ zv), by rw [List.length_set]; exact HLL.out, fun j hj => ?_, (HOL.out.put i _ hyx).kept ((Below.refl _ _).drew), (HBL.out.setCell (Nat.le_refl _) _).drew⟩
          by_cases hji : j = i
          · subst hji
            rw [HX.out, HY.out, HZ.out]
            have := HLL.out
            simp [List.getD, List.getElem?_set, show j < L.length from by omega]
          · rw [← HLx.out j (by omega)]
            simp [List.getD, List.getElem?_set, show ¬ i = j from fun e => hji e.symm])
        generalize (wr.setCell ⟨g2, i, none⟩ (.int .u8 ((xv ^^^ yv ^^^ zv : Nat) : Int))).drew = wr2 at *
        clear hyx hc1 hc2 hc3 a1 a2 a3
        go_wp2_with fail
        go_roundg (gk - 1)
        case rel =>
          have := HII.out
          exact ⟨i + 1, by omega, by go_num, hfin⟩
        case measure => omega
      · have hin : i = n := by omega
        subst hin
        clear hi hlt
        obtain ⟨L, hLl, hL, hOL, hBL⟩ := HI.out
        have HB := Lib.hid (bel_tr HB1.out (HG2.out.symm ▸ hBL))
        obtain ⟨A2, c2, e2, _, hR2, hF2⟩ := hOL.form
        injection e2 with e2 e3 e4
        subst e2
        have HR2 := Lib.hid hR2
        obtain ⟨s, hs⟩ : ∃ s, Crc.more 0 L = s := ⟨_, rfl⟩
        obtain ⟨s1, hs1⟩ : ∃ s, Crc.more 0 (xs.take i) = s := ⟨_, rfl⟩
        obtain ⟨s2, hs2⟩ : ∃ s, Crc.more 0 (ys.take i) = s := ⟨_, rfl⟩
        obtain ⟨s3, hs3⟩ : ∃ s, Crc.more 0 (zs.take i) = s := ⟨_, rfl⟩
        have lx : (xs.take i).length = i := by have := HL.out; have := hla.out; simp; omega
        have ly : (ys.take i).length = i := by have := HL.out; have := hlb.out; simp; omega
        have lz : (zs.take i).length = i := by have := HL.out; have := hlc.out; simp; omega
        have hsum : s = s1 ^^^ s2 ^^^ s3 := by
          rw [← hs, ← hs1, ← hs2, ← hs3]
          refine three L _ _ _ (by omega) (by omega) (by omega) (fun j hj => ?_)
          rw [getD_take _ _ _ (by omega), getD_take _ _ _ (by omega), getD_take _ _ _ (by omega)]
          exact hL j (by omega)
        have hg2l : g2 < wr.heap.size := (hOL.1.lt g2 rfl).2
        have HLL := Lib.hid hLl
        have HF2 := Lib.hid hF2
        have HSUM := Lib.hid hsum
        have HS0 := Lib.hid hs
        have HS1 := Lib.hid hs1
        have HS2 := Lib.hid hs2
        have HS3 := Lib.hid hs3
        have HLX := Lib.hid lx
        have HLY := Lib.hid ly
        have HLZ := Lib.hid lz
        clear hL hLl hOL hBL hF2 hR2 e3 e4 hs hs1 hs2 hs3 lx ly lz hsum
        go_wp2_with fail
        refine (new_calls _).mono ?_
        rintro e w3 ⟨rfl, rfl⟩
        have hT := new_tab wr
        have hsz := HB.out.size
        have hb3 : Below w.heap.size w (wr.alloc (.cells tabNew 67)) := bel_new HB.out _
        have hR3 : Rd8 (wr.alloc (.cells tabNew 67)) (some ⟨g2, 0, none⟩) L := HR2.out.bel ((Below.refl _ _).alloc (Nat.le_refl _) _)
        generalize wr.alloc (.cells tabNew 67) = w3 at *
        generalize wr.heap.size = g at *
        have HT3 := Lib.hid hT
        have HB3 := Lib.hid hb3
        have HR3 := Lib.hid hR3
        clear hT hb3 hR3
        have SX : Sx w g g2 L w3.drew := ⟨HB3.out.drew, HT3.out, HR3.out⟩
        have hne : Nonempty (InS (Sx w g g2 L)) := ⟨⟨_, SX⟩⟩
        have K0 := Lib.hid (fun x : InS (Sx w g g2 L) => Sx.call hsz (by omega) x (some ⟨g2, 0, none⟩) i i s L x.ok.2.2 (fun _ b off e => by injection e with e; injection e; omega) HLL.out HN.out HS0.out)
        have K1 := Lib.hid (fun x : InS (Sx w g g2 L) => Sx.call hsz (by omega) x A cap i s1 (xs.take i) (rd8_take (hR.out.bel x.ok.1) i) ((rd8_take hR.out i).off hsz) HLX.out HN.out HS1.out)
        have K2 := Lib.hid (fun x : InS (Sx w g g2 L) => Sx.call hsz (by omega) x B cap' i s2 (ys.take i) (rd8_take (hS.out.bel x.ok.1) i) ((rd8_take hS.out i).off hsz) HLY.out HN.out HS2.out)
        have K3 := Lib.hid (fun x : InS (Sx w g g2 L) => Sx.call hsz (by omega) x C cap'' i s3 (zs.take i) (rd8_take (hU.out.bel x.ok.1) i) ((rd8_take hU.out i).off hsz) HLZ.out HN.out HS3.out)
        have sl1 : (i : Int) ≤ (cap : Int) := by have := HL.out; have := HCA.out; omega
        have sl2 : (i : Int) ≤ (cap' : Int) := by have := HL.out; have := HCB.out; omega
        have sl3 : (i : Int) ≤ (cap'' : Int) := by have := HL.out; have := HCC.out; omega
        have sl0 : (0 : Int) ≤ (i : Int) := by omega
        go_wp2_with fail
        refine wp_region_in (Sx w g g2 L) (by kernel_rfl) (by kernel_rfl) SX ?_
        repeat (go_big_quiet_step ((go_at_call 18; first | exact K0.out _ | exact K1.out _ | exact K2.out _ | exact K3.out _)))
        have hfin : bits .xor .u32 (bits .xor .u32 (s1 : Int) (s2 : Int)) (s3 : Int) = (s : Int) := by
          have b1 : s1 < 2 ^ 32 := HS1.out ▸ more_lt 0 _ (by decide) (rd8_lt (rd8_take hR.out i))
          have b2 : s2 < 2 ^ 32 := HS2.out ▸ more_lt 0 _ (by decide) (rd8_lt (rd8_take hS.out i))
          have b3 : s3 < 2 ^ 32 := HS3.out ▸ more_lt 0 _ (by decide) (rd8_lt (rd8_take hU.out i))
          rw [u32_xor_nat s1 s2 (by omega) (by omega), u32_xor_nat _ s3 (Nat.xor_lt_two_pow b1 b2) (by omega), HSUM.out]
        rw [hfin]
        clear hfin
        refine wpQuiet_nil ?_
        intro W hW
        have hs := (in_ok hW).1
        clear hW
        have hee : ((s : Int) == (s : Int)) = true := by simp
        rw [hee]
        clear hee hne K0 K1 K2 K3 SX
        go_wp2_with fail
        go_ret
        exact ⟨rfl, hs⟩

set_option maxRecDepth 20000 in
set_option maxHeartbeats 1000000 in
theorem walk4 (A : Option Addr) (cap : Nat) (xs : List Nat) (B : Option Addr) (cap' : Nat) (ys : List Nat) (C : Option Addr) (cap'' : Nat) (zs : List Nat) (la lb lc n : Nat) (hla : Hid (la = xs.length)) (hlb : Hid (lb = ys.length)) (hlc : Hid (lc = zs.length))
    (w : World) (hR : Hid (Rd8 w A xs)) (hS : Hid (Rd8 w B ys)) (hU : Hid (Rd8 w C zs)) (hca : la ≤ cap) (hcb : lb ≤ cap') (hcc : lc ≤ cap'') (hcap : cap ≤ 2 ^ 47 ∧ cap' ≤ 2 ^ 47 ∧ cap'' ≤ 2 ^ 47) (h1 : lb < la) (h2 : lc < lb) (hn : n = lc) (hN : n ≤ la ∧ n ≤ lb ∧ n ≤ lc) :
    Calls Try.prog 7 #[.slice A la cap, .slice B lb cap', .slice C lc cap''] w fun e w' => e = .returned (.bool true) ∧ Below w.heap.size w w' := by
  have HM := Lib.hid (show (lc : Int) = (n : Int) by omega)
  have i1 : (lb : Int) < (la : Int) := by omega
  have i2 : (lc : Int) < (lb : Int) := by omega
  by_cases hb : 1048576 < n
  · have hbi : (1048576 : Int) < (lc : Int) := by omega
    clear hb hN hn h1 h2
    go_enter Try.func7, Try.ntmps7
    go_wp2_with fail
    refine (crc_awake _).mono ?_
    rintro e w1 ⟨rfl, hb1⟩
    go_wp2_with fail
    go_ret
    exact ⟨rfl, hb1⟩
  · have hbi : ¬ (1048576 : Int) < (lc : Int) := by omega
    have hmk : ∀ W : World, (Instr.makeSlice 22 (.int .i64 (lc : Int)) (.int .i64 (lc : Int))).run Try.prog W = .ok (.slice (some ⟨W.heap.size, 0, none⟩) n n) (W.alloc (.cells (madeCells #[.int .u8 0] n) 5)) := fun W => by
      obtain ⟨i0, hi0, hz0, hz1, hz2⟩ := info_parts info8
      have hr := run_make (P := Try.prog) W 22 5 i0 (.int .u8 0) Try.underlying22 hi0 hz0 .i64 .i64 n n (by omega) (by omega) (by rw [hz2]; omega) (by omega)
      rw [hz1] at hr
      simp only [Int.toNat_natCast, Nat.mul_one] at hr
      rw [HM.out]
      exact hr
    have HN := Lib.hid (show n ≤ 1048576 from by omega)
    have HL := Lib.hid hN
    have HCA := Lib.hid hca
    clear hca
    have HCB := Lib.hid hcb
    clear hcb
    have HCC := Lib.hid hcc
    clear hcc
    have HCAP := Lib.hid hcap
    clear hcap
    clear hb hN hn h1 h2
    go_enter Try.func7, Try.ntmps7
    go_wp2_with fail
    refine (crc_awake _).mono ?_
    rintro e w1 ⟨rfl, hb1⟩
    go_wp2_with fail
    rw [HM.out]
    have ho : Own8 (w1.alloc (.cells (madeCells #[.int .u8 0] n) 5)) w1.heap.size (.slice (some ⟨w1.heap.size, 0, none⟩) n n) (List.replicate n 0) := by
      have := Own8.lit w1 w1.heap.size (Nat.le_refl _) (List.replicate n 0) (by intro x hx; rw [List.eq_of_mem_replicate hx]; omega) (by have := HN.out; simp [maxLen]; omega) (madeCells #[.int .u8 0] n) (by
        apply Array.toList_inj.1
        rw [toList_madeCells_one]
        simp [cell8])
      rwa [List.length_replicate] at this
    have hbn : Below w1.heap.size w1 (w1.alloc (.cells (madeCells #[.int .u8 0] n) 5)) := (Below.refl _ _).alloc (Nat.le_refl _) _
    generalize w1.alloc (.cells (madeCells #[.int .u8 0] n) 5) = w2 at *
    generalize hg2 : w1.heap.size = g2 at *
    have HG2 := Lib.hid hg2
    have HO := Lib.hid ho
    have HBN := Lib.hid hbn
    have HB1 := Lib.hid hb1
    clear ho hbn hmk hg2 hb1
    go_loopg [9] n (fun k v9 wr => ∃ (i : Nat), i + k = n ∧ v9 = .int .i64 i ∧ Hid (∃ L : List Nat, L.length = n ∧ (∀ j, j < i → L.getD j 0 = xs.getD j 0 ^^^ ys.getD j 0 ^^^ zs.getD j 0) ∧ Own8 wr g2 (.slice (some ⟨g2, 0, none⟩) n n) L ∧ Below g2 w1 wr))
    case atStart => exact ⟨0, by omega, rfl, Lib.hid ⟨_, by simp, fun j hj => absurd hj (Nat.not_lt_zero _), HO.out, HBN.out⟩⟩
    case round =>
      obtain ⟨i, hi, rfl, HI⟩ := hrel
      by_cases hlt : i < n
      · have hg : 0 < gk := by omega
        have hil : (i : Int) < (n : Int) := by omega
        have hila : (i : Int) < (la : Int) := by have := HL.out; omega
        have hilb : (i : Int) < (lb : Int) := by have := HL.out; omega
        have hilc : (i : Int) < (lc : Int) := by have := HL.out; omega
        have HII := Lib.hid hi
        obtain ⟨L, hLl, hL, hOL, hBL⟩ := HI.out
        have hbw := bel_tr HB1.out (HG2.out.symm ▸ hBL)
        obtain ⟨hc1, hc2, hc3⟩ := hOL.at_ i (by omega)
        obtain ⟨b1, o1, rfl, q1, x1, a1⟩ := (hR.out.bel hbw) i (by have := HL.out; have := hla.out; omega)
        obtain ⟨b2, o2, rfl, q2, x2, a2⟩ := (hS.out.bel hbw) i (by have := HL.out; have := hlb.out; omega)
        obtain ⟨b3, o3, rfl, q3, x3, a3⟩ := (hU.out.bel hbw) i (by have := HL.out; have := hlc.out; omega)
        have HLx := Lib.hid hL
        have HLL := Lib.hid hLl
        have HOL := Lib.hid hOL
        have HBL := Lib.hid hBL
        generalize hx : xs.getD i 0 = xv at x1 a1
        generalize hy : ys.getD i 0 = yv at x2 a2
        generalize hz : zs.getD i 0 = zv at x3 a3
        generalize hl : L.getD i 0 = lv at hc1 hc3
        have HX := Lib.hid hx
        have HY := Lib.hid hy
        have HZ := Lib.hid hz
        clear hx hy hz hl hL hLl hOL hBL hi hbw
        go_wp2_with fail
        go_region
        have hx2 : bits .xor .u8 (bits .xor .u8 (xv : Int) (yv : Int)) (zv : Int) = ((xv ^^^ yv ^^^ zv : Nat) : Int) := by
          rw [u8_xor_nat xv yv (by omega) (by omega), u8_xor_nat _ zv (Nat.xor_lt_two_pow (n := 8) (by omega) (by omega)) (by omega)]
        have hyx : xv ^^^ yv ^^^ zv < 256 := Nat.xor_lt_two_pow (n := 8) (Nat.xor_lt_two_pow (n := 8) (by omega) (by omega)) (by omega)
        rw [hx2]
        clear hx2
        have hfin := Lib.hid (show ∃ L' : List Nat, L'.length = n ∧ (∀ j, j < i + 1 → L'.getD j 0 = xs.getD j 0 ^^^ ys.getD j 0 ^^^ zs.getD j 0) ∧ Own8 ((wr.setCell ⟨g2, i, none⟩ (.int .u8 ((xv ^^^ yv ^^^ zv : Nat) : Int))).drew) g2 (.slice (some ⟨g2, 0, none⟩) n n) L' ∧ Below g2 w1 ((wr.setCell ⟨g2, i, none⟩ (.int .u8 ((xv ^^^ yv ^^^ zv : Nat) : Int))).drew) from by
          refine ⟨L.set i (xv ^^^ yv ^^^ zv), by rw [List.length_set]; exact HLL.out, fun j hj => ?_, (HOL.out.put i _ hyx).kept ((Below.refl _ _).drew), (HBL.out.setCell (Nat.le_refl _) _).drew⟩
          by_cases hji : j = i
          · subst hji
            rw [HX.out, HY.out, HZ.out]
            have := HLL.out
            simp [List.getD, List.getElem?_set, show j < L.length from by omega]
          · rw [← HLx.out j (by omega)]
            simp [List.getD, List.getElem?_set, show ¬ i = j from fun e => hji e.symm])
        generalize (wr.setCell ⟨g2, i, none⟩ (.int .u8 ((xv ^^^ yv ^^^ zv : Nat) : Int))).drew = wr2 at *
        clear hyx hc1 hc2 hc3 a1 a2 a3
        go_wp2_with fail
        go_roundg (gk - 1)
        case rel =>
          have := HII.out
          exact ⟨i + 1, by omega, by go_num, hfin⟩
        case measure => omega
      · have hin : i = n := by omega
        subst hin
        clear hi hlt
        obtain ⟨L, hLl, hL, hOL, hBL⟩ := HI.out
        have HB := Lib.hid (bel_tr HB1.out (HG2.out.symm ▸ hBL))
        obtain ⟨A2, c2, e2, _, hR2, hF2⟩ := hOL.form
        injection e2 with e2 e3 e4
        subst e2
        have HR2 := Lib.hid hR2
        obtain ⟨s, hs⟩ : ∃ s, Crc.more 0 L = s := ⟨_, rfl⟩
        obtain ⟨s1, hs1⟩ : ∃ s, Crc.more 0 (xs.take i) = s := ⟨_, rfl⟩
        obtain ⟨s2, hs2⟩ : ∃ s, Crc.more 0 (ys.take i) = s := ⟨_, rfl⟩
        obtain ⟨s3, hs3⟩ : ∃ s, Crc.more 0 (zs.take i) = s := ⟨_, rfl⟩
        have lx : (xs.take i).length = i := by have := HL.out; have := hla.out; simp; omega
        have ly : (ys.take i).length = i := by have := HL.out; have := hlb.out; simp; omega
        have lz : (zs.take i).length = i := by have := HL.out; have := hlc.out; simp; omega
        have hsum : s = s1 ^^^ s2 ^^^ s3 := by
          rw [← hs, ← hs1, ← hs2, ← hs3]
          refine three L _ _ _ (by omega) (by omega) (by omega) (fun j hj => ?_)
          rw [getD_take _ _ _ (by omega), getD_take _ _ _ (by omega), getD_take _ _ _ (by omega)]
          exact hL j (by omega)
        have hg2l : g2 < wr.heap.size := (hOL.1.lt g2 rfl).2
        have HLL := Lib.hid hLl
        have HF2 := Lib.hid hF2
        have HSUM := Lib.hid hsum
        have HS0 := Lib.hid hs
        have HS1 := Lib.hid hs1
        have HS2 := Lib.hid hs2
        have HS3 := Lib.hid hs3
        have HLX := Lib.hid lx
        have HLY := Lib.hid ly
        have HLZ := Lib.hid lz
        clear hL hLl hOL hBL hF2 hR2 e3 e4 hs hs1 hs2 hs3 lx ly lz hsum
        go_wp2_with fail
        refine (new_calls _).mono ?_
        rintro e w3 ⟨rfl, rfl⟩
        have hT := new_tab wr
        have hsz := HB.out.size
        have hb3 : Below w.heap.size w (wr.alloc (.cells tabNew 67)) := bel_new HB.out _
        have hR3 : Rd8 (wr.alloc (.cells tabNew 67)) (some ⟨g2, 0, none⟩) L := HR2.out.bel ((Below.refl _ _).alloc (Nat.le_refl _) _)
        generalize wr.alloc (.cells tabNew 67) = w3 at *
        generalize wr.heap.size = g at *
        have HT3 := Lib.hid hT
        have HB3 := Lib.hid hb3
        have HR3 := Lib.hid hR3
        clear hT hb3 hR3
        have SX : Sx w g g2 L w3.drew := ⟨HB3.out.drew, HT3.out, HR3.out⟩
        have hne : Nonempty (InS (Sx w g g2 L)) := ⟨⟨_, SX⟩⟩
        have K0 := Lib.hid (fun x : InS (Sx w g g2 L) => Sx.call hsz (by omega) x (some ⟨g2, 0, none⟩) i i s L x.ok.2.2 (fun _ b off e => by injection e with e; injection e; omega) HLL.out HN.out HS0.out)
        have K1 := Lib.hid (fun x : InS (Sx w g g2 L) => Sx.call hsz (by omega) x A cap i s1 (xs.take i) (rd8_take (hR.out.bel x.ok.1) i) ((rd8_take hR.out i).off hsz) HLX.out HN.out HS1.out)
        have K2 := Lib.hid (fun x : InS (Sx w g g2 L) => Sx.call hsz (by omega) x B cap' i s2 (ys.take i) (rd8_take (hS.out.bel x.ok.1) i) ((rd8_take hS.out i).off hsz) HLY.out HN.out HS2.out)
        have K3 := Lib.hid (fun x : InS (Sx w g g2 L) => Sx.call hsz (by omega) x C cap'' i s3 (zs.take i) (rd8_take (hU.out.bel x.ok.1) i) ((rd8_take hU.out i).off hsz) HLZ.out HN.out HS3.out)
        have sl1 : (i : Int) ≤ (cap : Int) := by have := HL.out; have := HCA.out; omega
        have sl2 : (i : Int) ≤ (cap' : Int) := by have := HL.out; have := HCB.out; omega
        have sl3 : (i : Int) ≤ (cap'' : Int) := by have := HL.out; have := HCC.out; omega
        have sl0 : (0 : Int) ≤ (i : Int) := by omega
        go_wp2_with fail
        refine wp_region_in (Sx w g g2 L) (by kernel_rfl) (by kernel_rfl) SX ?_
        repeat (go_big_quiet_step ((go_at_call 18; first | exact K0.out _ | exact K1.out _ | exact K2.out _ | exact K3.out _)))
        have hfin : bits .xor .u32 (bits .xor .u32 (s1 : Int) (s2 : Int)) (s3 : Int) = (s : Int) := by
          have b1 : s1 < 2 ^ 32 := HS1.out ▸ more_lt 0 _ (by decide) (rd8_lt (rd8_take hR.out i))
          have b2 : s2 < 2 ^ 32 := HS2.out ▸ more_lt 0 _ (by decide) (rd8_lt (rd8_take hS.out i))
          have b3 : s3 < 2 ^ 32 := HS3.out ▸ more_lt 0 _ (by decide) (rd8_lt (rd8_take hU.out i))
          rw [u32_xor_nat s1 s2 (by omega) (by omega), u32_xor_nat _ s3 (Nat.xor_lt_two_pow b1 b2) (by omega), HSUM.out]
        rw [hfin]
        clear hfin
        refine wpQuiet_nil ?_
        intro W hW
        have hs := (in_ok hW).1
        clear hW
        have hee : ((s : Int) == (s : Int)) = true := by simp
        rw [hee]
        clear hee hne K0 K1 K2 K3 SX
        go_wp2_with fail
        go_ret
        exact ⟨rfl, hs⟩

set_option maxRecDepth 100000 in
theorem walks {H : Type} (enc : TypeId × Value → H) : Walks enc Try.prog 7 Try.f7 := by
  intro W base args ds ps hval hA hwt
  rw [Try.params7] at hA hval hwt
  obtain ⟨v0, vs0, d0, ds0, p0, q0, hargs, rfl, rfl, h0, r0⟩ := trodAll_cons hA
  obtain ⟨v1, vs1, d1, ds1, p1, q1, rfl, rfl, rfl, h1, r1⟩ := trodAll_cons r0
  obtain ⟨v2, vs2, d2, ds2, p2, q2, rfl, rfl, rfl, h2, r2⟩ := trodAll_cons r1
  obtain ⟨rfl, rfl, rfl⟩ := trodAll_nil r2
  obtain rfl : args = #[v0, v1, v2] := by cases args; simp_all
  obtain ⟨A, xs, cap, rfl, c1, c2, hR⟩ := bytes_arg (hval 0 22 v0 rfl rfl) h0 (weightsEach_at (i := 0) hwt rfl rfl)
  obtain ⟨A1, ys, cap1, rfl, c11, c21, hR1⟩ := bytes_arg (hval 1 22 v1 rfl rfl) h1 (weightsEach_at (i := 1) hwt rfl rfl)
  obtain ⟨A2, zs, cap2, rfl, c12, c22, hR2⟩ := bytes_arg (hval 2 22 v2 rfl rfl) h2 (weightsEach_at (i := 2) hwt rfl rfl)
  by_cases e1 : ys.length < xs.length
  · by_cases e2 : zs.length < ys.length
    · exact walk4 A cap xs A1 cap1 ys A2 cap2 zs _ _ _ _ (Lib.hid rfl) (Lib.hid rfl) (Lib.hid rfl) W (Lib.hid hR) (Lib.hid hR1) (Lib.hid hR2) c1 c11 c12 ⟨c2, c21, c22⟩ e1 e2 rfl ⟨by omega, by omega, by omega⟩
    · exact walk3 A cap xs A1 cap1 ys A2 cap2 zs _ _ _ _ (Lib.hid rfl) (Lib.hid rfl) (Lib.hid rfl) W (Lib.hid hR) (Lib.hid hR1) (Lib.hid hR2) c1 c11 c12 ⟨c2, c21, c22⟩ e1 e2 rfl ⟨by omega, by omega, by omega⟩
  · by_cases e2 : zs.length < xs.length
    · exact walk2 A cap xs A1 cap1 ys A2 cap2 zs _ _ _ _ (Lib.hid rfl) (Lib.hid rfl) (Lib.hid rfl) W (Lib.hid hR) (Lib.hid hR1) (Lib.hid hR2) c1 c11 c12 ⟨c2, c21, c22⟩ e1 e2 rfl ⟨by omega, by omega, by omega⟩
    · exact walk1 A cap xs A1 cap1 ys A2 cap2 zs _ _ _ _ (Lib.hid rfl) (Lib.hid rfl) (Lib.hid rfl) W (Lib.hid hR) (Lib.hid hR1) (Lib.hid hR2) c1 c11 c12 ⟨c2, c21, c22⟩ e1 e2 rfl ⟨by omega, by omega, by omega⟩


set_option maxRecDepth 100000 in
theorem lifted (os : Os) (started : os.Started) (H : Type) (enc : TypeId × Value → H) :
    ReturnsInHanded {} Try.checked os 7 .any (Rows.crcThreeSpec.pre6 enc Try.prog Try.f7 Rows.crcThreeRow.domain false) (Rows.crcThreeSpec.post enc Try.prog Try.f7 false true false false) :=
  frame_lifted (C := Try.checked) own started (by kernel_rfl) Try.func7
    (ChangeSpec.witness6 (enc := enc) (C := Try.checked) false ⟨#[], #[.slice none 0 0, .slice none 0 0, .slice none 0 0], []⟩ 8 (by kernel_rfl) (by kernel_rfl) (by kernel_rfl) (by kernel_rfl)) laidOut (by kernel_rfl) rfl (by rfl) Try.underlying4
    (fun ds h => match ds, h with | [d0, d1, d2], _ => ⟨rfl, rfl, rfl⟩) (walks enc)

theorem over : Rows.crcThreeRow.holds Try.pinned (OpenSpec.ofChange Rows.crcThreeSpec) :=
  OpenClaim.holds_of_wide 7 Try.f7 rfl rfl rfl rfl rfl rfl rfl ⟨rfl, rfl, rfl, rfl, rfl⟩ rfl rfl rfl rfl rfl (by kernel_rfl) Try.func7 (by kernel_rfl)
    (of_decide_eq_true (by kernel_rfl)) (by unfold Func.isWrapper; first | (rw [if_pos (by decide +kernel)]; kernel_rfl) | (rw [if_neg (by decide +kernel)]; exact ⟨rfl, rfl⟩))
    (fun os started H enc _ => lifted os started H enc)

/-- the statement -/
theorem proved : Rows.CrcThreeSaid := over
end Go.Proofs.Ytkmhjfileiabeaa.lawCrcThree
