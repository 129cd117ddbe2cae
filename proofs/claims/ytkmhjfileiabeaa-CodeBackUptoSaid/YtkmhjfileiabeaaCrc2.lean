/-
  Contracts of the package crc: a table filled once, sums.
  Conditions: the table's block is known; the bytes can be read and do not lie in the table.
-/
import Derived.Test.YtkmhjfileiabeaaCrc1
namespace Go.Proofs.Ytkmhjfileiabeaa
open Go.RowKit
set_option linter.unusedVariables false

/-- a table, filled or not yet -/
def TabAt (w : World) (g : Nat) : Prop := ∃ cs, Blk w g 67 cs ∧ (TabCs 0 0 0 cs ∨ TabCs 1 0 256 cs)
/-- a table that is filled -/
def TabOk (w : World) (g : Nat) : Prop := ∃ cs, Blk w g 67 cs ∧ TabCs 1 0 256 cs
theorem TabOk.at_ {w : World} {g : Nat} (h : TabOk w g) : TabAt w g := ⟨h.choose, h.choose_spec.1, .inr h.choose_spec.2⟩
theorem TabAt.lt {w : World} {g : Nat} (h : TabAt w g) : g < w.heap.size := h.choose_spec.1.lt
theorem TabAt.bel {w w' : World} {g : Nat} (h : TabAt w g) (hb : Below w.heap.size w w') : TabAt w' g := ⟨h.choose, h.choose_spec.1.bel hb, h.choose_spec.2⟩
theorem TabOk.bel {w w' : World} {g : Nat} (h : TabOk w g) (hb : Below w.heap.size w w') : TabOk w' g := ⟨h.choose, h.choose_spec.1.bel hb, h.choose_spec.2⟩
theorem TabAt.only {w w' : World} {g g' : Nat} (h : TabAt w g) (hb : Only g' w w') (hne : g ≠ g') : TabAt w' g := ⟨h.choose, hb.blk h.choose_spec.1 hne, h.choose_spec.2⟩

theorem once_of {w : World} {g : Nat} {cs : Array Value} {d s : Int} {n : Nat} (hB : Blk w g 67 cs) (hT : TabCs d s n cs) : OnceAt g 0 d s w :=
  ⟨(hB.cells 0).trans hT.2.1, (hB.cells 1).trans hT.2.2.1, hB.free 0, hB.free 1⟩
theorem TabCs.mark {d s : Int} {n : Nat} {cs : Array Value} (h : TabCs d s n cs) (d' : Int) : TabCs d' s n (cs.setIfInBounds 0 (.int .u32 d')) := by
  obtain ⟨h1, h2, h3, h4⟩ := h
  refine ⟨by simpa using h1, by rw [Array.getElem?_setIfInBounds_self, if_pos (by omega)], ?_, fun j hj => ?_⟩
  · rw [Array.getElem?_setIfInBounds_ne (by omega)]; exact h3
  · rw [Array.getElem?_setIfInBounds_ne (by omega)]; exact h4 j hj
theorem TabCs.lock {d s : Int} {n : Nat} {cs : Array Value} (h : TabCs d s n cs) (s' : Int) : TabCs d s' n (cs.setIfInBounds 1 (.int .i32 s')) := by
  obtain ⟨h1, h2, h3, h4⟩ := h
  refine ⟨by simpa using h1, ?_, by rw [Array.getElem?_setIfInBounds_self, if_pos (by omega)], fun j hj => ?_⟩
  · rw [Array.getElem?_setIfInBounds_ne (by omega)]; exact h2
  · rw [Array.getElem?_setIfInBounds_ne (by omega)]; exact h4 j hj

theorem do_fill (g : Nat) (w : World) (h : TabAt w g) :
    Calls Try.prog 30 #[.pointer (some ⟨g, 0, none⟩), .func (.func 31) #[.pointer (some ⟨g, 0, none⟩)] #[]] w fun e w' => e = .returned (.tuple #[]) ∧ Only g w w' ∧ TabOk w' g := by
  obtain ⟨cs, hB, hT | hT⟩ := h
  · refine (sy_do_first g 0 31 #[.pointer (some ⟨g, 0, none⟩)] #[] #[.pointer (some ⟨g, 0, none⟩)] (fun W => by go_simp) w (fun W => Only g w W ∧ ∃ cs', Blk W g 67 cs' ∧ TabCs 0 1 256 cs') (once_of hB hT) ?_).mono ?_
    · refine Lib.hid ((fill_calls g _ 0 1 _ (hB.set 1 _) (hT.lock 1)).mono ?_)
      rintro e w' ⟨rfl, hO, cs', hB', hT'⟩
      exact ⟨rfl, once_of hB' hT', ((Only.refl g w).set 1 _).trans hO, cs', hB', hT'⟩
    · rintro e w' ⟨rfl, W, ⟨hO, cs', hB', hT'⟩, _, rfl⟩
      exact ⟨rfl, (hO.drew.set 0 _).set 1 _, _, (((hB'.drewN 1).set 0 _).set 1 _), (hT'.mark 1).lock 0⟩
  · refine (sy_do_done ⟨g, 0, none⟩ 1 rfl _ w ((hB.cells 0).trans hT.2.1)).mono ?_
    rintro e w' ⟨rfl, rfl⟩
    exact ⟨rfl, Only.refl _ _, cs, hB, hT⟩

/-- bytes that can be read -/
def Rd8 (w : World) (A : Option Addr) (xs : List Nat) : Prop :=
  ∀ i, i < xs.length → ∃ b off, A = some ⟨b, off, none⟩ ∧ b < w.heap.size ∧ xs.getD i 0 < 256 ∧ w.cell? ⟨b, off + i, none⟩ = some (.int .u8 (xs.getD i 0 : Nat))
/-- .. which do not lie in block g -/
def Off (A : Option Addr) (g : Nat) : Prop := ∀ b off, A = some ⟨b, off, none⟩ → b ≠ g
theorem Rd8.only {w w' : World} {A : Option Addr} {xs : List Nat} {g : Nat} (h : Rd8 w A xs) (hO : Only g w w') (ho : 0 < xs.length → Off A g) : Rd8 w' A xs := fun i hi => by
  obtain ⟨b, off, e, hb, hx, hc⟩ := h i hi
  exact ⟨b, off, e, Nat.lt_of_lt_of_le hb hO.size, hx, (hO.cell (p := ⟨b, off + i, none⟩) hb (ho (by omega) b off e)).trans hc⟩
theorem Rd8.bel {w w' : World} {A : Option Addr} {xs : List Nat} (h : Rd8 w A xs) (hb : Below w.heap.size w w') : Rd8 w' A xs := fun i hi => by
  obtain ⟨b, off, e, hlt, hx, hc⟩ := h i hi
  exact ⟨b, off, e, Nat.lt_of_lt_of_le hlt hb.size, hx, (hb.cell (p := ⟨b, off + i, none⟩) hlt).trans hc⟩

theorem Rd8.off {w : World} {A : Option Addr} {xs : List Nat} {g : Nat} (h : Rd8 w A xs) (hg : w.heap.size ≤ g) : 0 < xs.length → Off A g := fun hx b off e => by
  obtain ⟨b', off', e', hb, _, _⟩ := h 0 hx
  rw [e] at e'
  injection e' with e'
  injection e' with e' _ _
  omega

namespace Crc
def top : Nat := 2 ^ 32 - 1
/-- a sum that goes on -/
def more (s : Nat) (xs : List Nat) : Nat := run (s ^^^ top) xs ^^^ top
end Crc

theorem not_u32 (s : Nat) (h : s < 2 ^ 32) : bits .xor .u32 IntKind.u32.max (s : Int) = ((s ^^^ Crc.top : Nat) : Int) := by
  have := u32_xor_nat Crc.top s (by decide) (by omega)
  rw [Nat.xor_comm] at this
  exact this
theorem not_u32' (s : Nat) (h : s < 2 ^ 32) : s ^^^ Crc.top < 2 ^ 32 := Nat.xor_lt_two_pow h (by decide)
/-- a round of 'More' -/
theorem tab_round (c x y : Nat) (hc : c < 2 ^ 32) (hx : x < 256) (hy : y = c % 256 ^^^ x) : y < 256 ∧ bits .xor .u8 ((c : Int) % 256) (x : Int) = ((y : Nat) : Int) ∧
    bits .xor .u32 ((c : Int) / 256) ((Crc.stps 8 y : Nat) : Int) = ((Crc.stps 8 (c ^^^ x) : Nat) : Int) := by
  have hy2 : y < 256 := by rw [hy]; exact Nat.xor_lt_two_pow (n := 8) (Nat.mod_lt _ (by decide)) hx
  refine ⟨hy2, ?_, ?_⟩
  · rw [hy, show (c : Int) % 256 = ((c % 256 : Nat) : Int) from by omega]
    exact u8_xor_nat _ _ (Nat.mod_lt _ (by decide)) hx
  · rw [show (c : Int) / 256 = ((c / 256 : Nat) : Int) from by omega, u32_xor_nat _ _ (by omega) (Crc.stps_lt 8 (by omega)), Crc.tab_step c x hx, hy]
theorem take_snoc' (xs : List Nat) (k : Nat) (h : k < xs.length) : xs.take (k + 1) = xs.take k ++ [xs.getD k 0] := by
  rw [List.take_succ_eq_append_getElem h]; simp [List.getD, h]
theorem run_snoc (c : Nat) (xs : List Nat) (k : Nat) (h : k < xs.length) : Crc.run c (xs.take (k + 1)) = Crc.stps 8 (Crc.run c (xs.take k) ^^^ xs.getD k 0) := by
  rw [take_snoc' xs k h, Crc.run_append]; rfl

set_option maxRecDepth 20000 in
set_option maxHeartbeats 1000000 in
theorem more_calls (g : Nat) (s : Nat) (A : Option Addr) (cap : Nat) (xs : List Nat) (w : World) (hs : Hid (s < 2 ^ 32)) (hT : TabAt w g) (hR : Rd8 w A xs) (ho : 0 < xs.length → Off A g) (hlen : xs.length ≤ 9223372036854775807) :
    Calls Try.prog 16 #[.pointer (some ⟨g, 0, none⟩), .int .u32 s, .slice A xs.length cap] w fun e w' => e = .returned (.int .u32 (Crc.more s xs : Nat)) ∧ Only g w w' ∧ TabOk w' g := by
  have hmf : ∀ (fn : Fn) (first cap : Array Value) (w : World), (Instr.makeFunc fn first cap).run Try.prog w = .ok (.func fn first cap) w := fun _ _ _ _ => rfl
  have HD := Lib.hid (do_fill g w hT)
  go_enter Try.func16, Try.ntmps16
  go_wp2_with fail
  refine HD.out.mono ?_
  rintro e w1 ⟨rfl, hO, hT1⟩
  have hR1 := Lib.hid (hR.only hO ho)
  have hE := Lib.hid (not_u32 s hs.out)
  obtain ⟨cs, hB, hC⟩ := hT1
  have HC := Lib.hid hC
  clear hR hC HD
  go_wp2_with fail
  rw [hE.out]
  clear hE
  go_loopg [7, 23] xs.length (fun n v7 v23 w' => w' = w1 ∧ ∃ (k c : Nat), k + n = xs.length ∧ v23 = .int .i64 k ∧ v7 = .int .u32 c ∧ Hid (c < 2 ^ 32 ∧ c = Crc.run (s ^^^ Crc.top) (xs.take k)))
  case atStart => exact ⟨rfl, 0, _, by omega, rfl, rfl, Lib.hid ⟨not_u32' s hs.out, by simp [Crc.run]⟩⟩
  case round =>
    obtain ⟨rfl, k, c, hk, rfl, rfl, hc⟩ := hrel
    have HK := Lib.hid hk
    by_cases hlt : k < xs.length
    · have hg : 0 < gk := by omega
      have hl : (k : Int) < (xs.length : Int) := by omega
      clear hk
      obtain ⟨b, off, rfl, hb, hx, hcell⟩ := hR1.out k hlt
      generalize hxx : xs.getD k 0 = x at hx hcell
      have HX := Lib.hid hxx
      clear hxx
      obtain ⟨y, hy⟩ : ∃ y, y = c % 256 ^^^ x := ⟨_, rfl⟩
      obtain ⟨y1, y2, y3⟩ := tab_round c x y hc.out.1 hx hy
      have HY := Lib.hid hy
      have HY3 := Lib.hid y3
      have ht := HC.out.2.2.2 y y1
      have hbc := hB.cells
      clear hy y3
      have hyi : (y : Int) < 256 := by omega
      go_wp2_with fail
      go_roundg (gk - 1)
      case rel =>
        have := HK.out
        refine ⟨rfl, k + 1, Crc.stps 8 (c ^^^ x), by omega, by go_num, by rw [HY3.out], Lib.hid ⟨Crc.stps_lt 8 (Nat.xor_lt_two_pow hc.out.1 (by omega)), ?_⟩⟩
        rw [run_snoc _ _ _ hlt, HX.out, ← hc.out.2]
      case measure => omega
    · have hkl : k = xs.length := by omega
      have HKL := Lib.hid hkl
      have hl : ¬ (k : Int) < (xs.length : Int) := by omega
      clear hk hkl
      go_wp2_with fail
      go_ret
      refine ⟨?_, hO, cs, hB, HC.out⟩
      refine ret_int ?_
      rw [not_u32 c hc.out.1, hc.out.2, HKL.out, List.take_length]
      rfl

/-- nobody has filled it, or somebody: a sum -/
theorem sum_calls (g : Nat) (A : Option Addr) (cap : Nat) (xs : List Nat) (w : World) (hT : TabAt w g) (hR : Rd8 w A xs) (ho : 0 < xs.length → Off A g) (hlen : xs.length ≤ 9223372036854775807) :
    Calls Try.prog 18 #[.pointer (some ⟨g, 0, none⟩), .slice A xs.length cap] w fun e w' => e = .returned (.int .u32 (Crc.more 0 xs : Nat)) ∧ Only g w w' ∧ TabOk w' g := by
  have H := Lib.hid (more_calls g 0 A cap xs w (Lib.hid (by decide)) hT hR ho hlen)
  clear hR
  go_enter Try.func18, Try.ntmps18
  go_wp2_with fail
  refine H.out.mono ?_
  rintro e w1 ⟨rfl, hO, hT1⟩
  go_wp2_with fail
  go_ret
  exact ⟨rfl, hO, hT1⟩

/-- the cells of a new table -/
def tabNew : Array Value := #[.int .u32 0, .int .i32 0, .int .u32 0] ++ Array.replicate 256 (.int .u32 0)
theorem tabNew_cs : TabCs 0 0 0 tabNew := ⟨by simp [tabNew], by kernel_rfl, by kernel_rfl, fun j hj => absurd hj (Nat.not_lt_zero _)⟩
set_option maxRecDepth 100000 in
theorem tabNew_zero (w : World) : (zeroValue 67).run Try.prog w = .ok (.agg tabNew) w := by kernel_rfl
set_option maxRecDepth 100000 in
theorem new_calls (w : World) : Calls Try.prog 15 #[] w fun e w' => e = .returned (.pointer (some ⟨w.heap.size, 0, none⟩)) ∧ w' = w.alloc (.cells tabNew 67) := by
  have hz := tabNew_zero
  go_enter Try.func15, Try.ntmps15
  go_wp2_with fail
  go_ret
  exact ⟨rfl, rfl⟩
theorem new_tab (w : World) : TabAt (w.alloc (.cells tabNew 67)) w.heap.size := ⟨tabNew, Blk.new _ _ _, .inl tabNew_cs⟩

theorem stp_hit (d : Nat) (h : d < 2 ^ 32) (h1 : d % 2 = 1) : bits .xor .u32 ((d : Int) / 2 % 4294967296) 3988292384 = ((Crc.stp d : Nat) : Int) := by
  have e3 : (d : Int) / 2 % 4294967296 = ((d / 2 : Nat) : Int) := by omega
  rw [e3, show (3988292384 : Int) = ((Crc.poly : Nat) : Int) from rfl, u32_xor_nat _ _ (by omega) (by decide)]
  unfold Crc.stp
  rw [if_pos h1]
theorem stp_miss (d : Nat) (h : d < 2 ^ 32) (h1 : d % 2 = 0) : (d : Int) / 2 % 4294967296 = ((Crc.stp d : Nat) : Int) := by
  unfold Crc.stp
  rw [if_neg (by omega), Nat.xor_zero]
  omega
theorem sub_top (s : Nat) (h : s < 2 ^ 32) : (4294967295 - (s : Int)) % 4294967296 = ((s ^^^ Crc.top : Nat) : Int) := by
  have e : s ^^^ Crc.top = Crc.top - s := by
    have h1 := congrArg BitVec.toNat (BitVec.xor_allOnes (x := BitVec.ofNat 32 s))
    rw [BitVec.toNat_xor, BitVec.toNat_not, BitVec.toNat_allOnes, BitVec.toNat_ofNat, Nat.mod_eq_of_lt h] at h1
    exact h1
  rw [e]
  unfold Crc.top
  omega
set_option maxRecDepth 20000 in
set_option maxHeartbeats 1000000 in
theorem rmore_calls (s : Nat) (A : Option Addr) (cap : Nat) (xs : List Nat) (w : World) (hs : Hid (s < 2 ^ 32)) (hR : Hid (Rd8 w A xs)) (hlen : xs.length ≤ 9223372036854775807) :
    Calls Try.prog 17 #[.int .u32 s, .slice A xs.length cap] w fun e w' => e = .returned (.int .u32 (Crc.more s xs : Nat)) ∧ w = w' := by
  go_enter Try.func17, Try.ntmps17
  go_wp2_with fail
  have hE : (4294967295 - (s : Int)) % 4294967296 = ((s ^^^ Crc.top : Nat) : Int) := sub_top s hs.out
  rw [hE]
  clear hE
  go_loopg [5, 6] xs.length (fun n v5 v6 w' => w' = w ∧ ∃ (k c : Nat), k + n = xs.length ∧ v6 = .int .i64 k ∧ v5 = .int .u32 c ∧ Hid (c < 2 ^ 32 ∧ c = Crc.run (s ^^^ Crc.top) (xs.take k)))
  case atStart => exact ⟨rfl, 0, _, by omega, rfl, rfl, Lib.hid ⟨not_u32' s hs.out, by simp [Crc.run]⟩⟩
  case round =>
    obtain ⟨rfl, k, c, hk, rfl, rfl, hc⟩ := hrel
    have HK := Lib.hid hk
    by_cases hlt : k < xs.length
    · have hg : 0 < gk := by omega
      have hl : (k : Int) < (xs.length : Int) := by omega
      generalize gk = n1 at *
      clear hk
      obtain ⟨b, off, rfl, hb, hx, hcell⟩ := hR.out k hlt
      generalize hxx : xs.getD k 0 = x at hx hcell
      have HX := Lib.hid hxx
      have hq := u32_xor_nat c x (by have := hc.out.1; omega) (by omega)
      have HQ := Lib.hid hq
      clear hxx hq
      go_wp2_with fail
      rw [HQ.out]
      go_loopg [5, 7, 8] 8 (fun n v5 v7 v8 w'' => w'' = wr ∧ ∃ (j d : Nat), j + n = 8 ∧ v7 = .int .i64 j ∧ v5 = .int .u32 d ∧ Hid (d < 2 ^ 32 ∧ d = Crc.stps j (c ^^^ x)))
      case atStart => exact ⟨rfl, 0, c ^^^ x, by omega, rfl, rfl, Lib.hid ⟨Nat.xor_lt_two_pow hc.out.1 (by omega), rfl⟩⟩
      case round =>
        obtain ⟨rfl, j, d, hj, rfl, rfl, hd⟩ := hrel
        have HJ := Lib.hid hj
        by_cases hjl : j < 8
        · have hg' : 0 < gk := by omega
          clear hj
          rcases Nat.mod_two_eq_zero_or_one d with h2 | h2
          · have hb2 : ((d : Int) % 2 == 1) = false := by simp; omega
            have H2 := Lib.hid h2
            clear h2
            go_wp2_with fail
            go_roundg (gk - 1)
            case rel =>
              have := HJ.out
              refine ⟨rfl, j + 1, Crc.stp d, by omega, by go_num, by rw [stp_miss d hd.out.1 H2.out], Lib.hid ⟨Crc.stp_lt hd.out.1, ?_⟩⟩
              rw [hd.out.2, Crc.stps_add]
              rfl
            case measure => omega
          · have hb2 : ((d : Int) % 2 == 1) = true := by simp; omega
            have H2 := Lib.hid h2
            clear h2
            go_wp2_with fail
            go_roundg (gk - 1)
            case rel =>
              have := HJ.out
              refine ⟨rfl, j + 1, Crc.stp d, by omega, by go_num, by rw [stp_hit d hd.out.1 H2.out], Lib.hid ⟨Crc.stp_lt hd.out.1, ?_⟩⟩
              rw [hd.out.2, Crc.stps_add]
              rfl
            case measure => omega
        · have hj8 : j = 8 := by omega
          subst hj8
          clear hj
          go_wp2_with fail
          go_roundg (n1 - 1)
          case rel =>
            have := HK.out
            refine ⟨rfl, k + 1, d, by omega, by go_num, rfl, Lib.hid ⟨hd.out.1, ?_⟩⟩
            rw [run_snoc _ _ _ hlt, HX.out, ← hc.out.2, hd.out.2]
          case measure => omega
    · have hkl : k = xs.length := by omega
      have HKL := Lib.hid hkl
      have hl : ¬ (k : Int) < (xs.length : Int) := by omega
      clear hk hkl
      go_wp2_with fail
      go_ret
      refine ⟨?_, rfl⟩
      refine ret_int ?_
      rw [sub_top c hc.out.1, hc.out.2, HKL.out, List.take_length]
      rfl
theorem rsum_calls (A : Option Addr) (cap : Nat) (xs : List Nat) (w : World) (hR : Hid (Rd8 w A xs)) (hlen : xs.length ≤ 9223372036854775807) :
    Calls Try.prog 19 #[.slice A xs.length cap] w fun e w' => e = .returned (.int .u32 (Crc.more 0 xs : Nat)) ∧ w = w' := by
  have H := Lib.hid (rmore_calls 0 A cap xs w (Lib.hid (by decide)) hR hlen)
  go_enter Try.func19, Try.ntmps19
  go_wp2_with fail
  refine H.out.mono ?_
  rintro e w1 ⟨rfl, rfl⟩
  go_wp2_with fail
  go_ret
  exact ⟨rfl, rfl⟩
end Go.Proofs.Ytkmhjfileiabeaa
