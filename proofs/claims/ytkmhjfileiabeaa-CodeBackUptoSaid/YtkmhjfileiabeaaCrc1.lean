/-
  Contracts of the package crc: the table's filling.
  Conditions: the table's block is known.
-/
import Derived.Test.YtkmhjfileiabeaaOnce2
import Derived.Test.YtkmhjfileiabeaaCrcM
import Derived.Laws.BitsAllLaws
import Derived.Laws.BitsLemmas
import Derived.Laws.AppendOwn
namespace Go.Proofs.Ytkmhjfileiabeaa
open Go.RowKit
set_option linter.unusedVariables false

theorem stp_bits (c : Nat) (h : c < 2 ^ 32) : bits .xor .u32 ((c : Int) / 2) (3988292384 * bits .and .u32 (c : Int) 1 % 4294967296) = ((Crc.stp c : Nat) : Int) := by
  have e1 : bits .and .u32 (c : Int) 1 = ((c % 2 : Nat) : Int) := by
    have := u32_and_nat c 1 (by omega) (by omega)
    rw [nat_mask1] at this
    exact this
  rw [e1]
  have e2 : (3988292384 * ((c % 2 : Nat) : Int) % 4294967296) = ((if c % 2 = 1 then Crc.poly else 0 : Nat) : Int) := by
    rcases Nat.mod_two_eq_zero_or_one c with h0 | h0 <;> rw [h0] <;> rfl
  have e3 : (c : Int) / 2 = ((c / 2 : Nat) : Int) := by omega
  rw [e2, e3, u32_xor_nat _ _ (by omega) (by split <;> decide)]
  rfl

/-- only block g has turned -/
abbrev Only (g : Nat) (w w' : World) : Prop := w.grownBy w' (some g)
theorem Only.refl (g : Nat) (w : World) : Only g w w := World.grownBy.refl w _
theorem Only.set {g : Nat} {a w : World} (h : Only g a w) (i : Nat) (v : Value) : Only g a (w.setCell ⟨g, i, none⟩ v) :=
  ⟨h.os, h.tape, h.output, by simpa [World.setCell] using h.size, fun k hk hne => (Below.heap_setCell w ⟨g, i, none⟩ v k (fun e => hne (by rw [e]))).trans (h.block k hk hne)⟩
theorem Only.drew {g : Nat} {a w : World} (h : Only g a w) : Only g a w.drew := ⟨h.os, h.tape, h.output, h.size, h.block⟩
theorem Only.trans {g : Nat} {a b c : World} (h : Only g a b) (k : Only g b c) : Only g a c :=
  ⟨k.os.trans h.os, k.tape.trans h.tape, k.output.trans h.output, Nat.le_trans h.size k.size, fun i hi hne => (k.block i (Nat.lt_of_lt_of_le hi h.size) hne).trans (h.block i hi hne)⟩
theorem Only.cell {g : Nat} {w w' : World} (h : Only g w w') {p : Addr} (hp : p.block < w.heap.size) (hne : p.block ≠ g) : w'.cell? p = w.cell? p :=
  World.cell?_of_block (h.block p.block hp (fun e => hne (by injection e)))
theorem Only.blk {g g' : Nat} {t : TypeId} {cs : Array Value} {w w' : World} (h : Only g w w') (hb : Blk w g' t cs) (hne : g' ≠ g) : Blk w' g' t cs :=
  (h.block g' hb.lt (fun e => hne (by injection e))).trans hb
theorem Only.bel {g : Nat} {a w w' : World} (h : Only g w w') (hb : Below a.heap.size a w) (hg : a.heap.size ≤ g) : Below a.heap.size a w' :=
  ⟨h.os.trans hb.os, h.tape.trans hb.tape, h.output.trans hb.output, Nat.le_trans hb.size h.size, fun k hk => (h.block k (Nat.lt_of_lt_of_le hk hb.size) (fun e => by injection e with e; omega)).trans (hb.block k hk)⟩

/-- the cells of a table: the Once's mark and lock, and the first n numbers -/
def TabCs (d s : Int) (n : Nat) (cs : Array Value) : Prop :=
  cs.size = 259 ∧ cs[0]? = some (.int .u32 d) ∧ cs[1]? = some (.int .i32 s) ∧ ∀ j, j < n → cs[3 + j]? = some (.int .u32 (Crc.stps 8 j : Nat))
theorem TabCs.set {d s : Int} {n : Nat} {cs : Array Value} (h : TabCs d s n cs) (hn : n < 256) (c : Nat) (hc : Crc.stps 8 n = c) : TabCs d s (n + 1) (cs.setIfInBounds (3 + n) (.int .u32 (c : Nat))) := by
  obtain ⟨h1, h2, h3, h4⟩ := h
  refine ⟨by simpa using h1, ?_, ?_, fun j hj => ?_⟩
  · rw [Array.getElem?_setIfInBounds_ne (by omega)]; exact h2
  · rw [Array.getElem?_setIfInBounds_ne (by omega)]; exact h3
  · rcases Nat.lt_or_ge j n with hl | hl
    · rw [Array.getElem?_setIfInBounds_ne (by omega)]; exact h4 j hl
    · obtain rfl : j = n := by omega
      rw [Array.getElem?_setIfInBounds_self, if_pos (by omega), hc]
theorem TabCs.zero {d s : Int} {n : Nat} {cs : Array Value} (h : TabCs d s n cs) : TabCs d s 0 cs := ⟨h.1, h.2.1, h.2.2.1, fun j hj => absurd hj (Nat.not_lt_zero _)⟩

set_option maxRecDepth 20000 in
set_option maxHeartbeats 1000000 in
theorem fill_calls (g : Nat) (cs : Array Value) (d s : Int) (w : World) (hB : Blk w g 67 cs) (hT : TabCs d s 0 cs) :
    Calls Try.prog 31 #[.pointer (some ⟨g, 0, none⟩)] w fun e w' => e = .returned (.tuple #[]) ∧ Only g w w' ∧ ∃ cs', Blk w' g 67 cs' ∧ TabCs d s 256 cs' := by
  go_enter Try.func31, Try.ntmps31
  go_wp2_with fail
  go_loopg [4] 256 (fun n v wr => ∃ k : Nat, k + n = 256 ∧ v = .int .i64 k ∧ Only g w wr ∧ ∃ cs', Blk wr g 67 cs' ∧ TabCs d s k cs')
  case atStart => exact ⟨0, by omega, rfl, Only.refl _ _, cs, hB, hT⟩
  case round =>
    obtain ⟨k, hk, rfl, hO, cs', hB', hT'⟩ := hrel
    clear hB hT
    have HK := Lib.hid hk
    by_cases hlt : k < 256
    · have hl : (k : Int) < 256 := by omega
      have hg : 0 < gk := by omega
      generalize gk = n1 at *
      clear hk
      go_wp2_with fail
      go_loopg [3, 9] 8 (fun n v3 v9 w' => w' = wr ∧ ∃ (j : Nat) (c : Nat), j + n = 8 ∧ v9 = .int .i64 j ∧ v3 = .int .u32 c ∧ Hid (c < 2 ^ 32 ∧ c = Crc.stps j k))
      case atStart => exact ⟨rfl, 0, k, by omega, rfl, rfl, Lib.hid ⟨by omega, rfl⟩⟩
      case round =>
        obtain ⟨rfl, j, c, hj, rfl, rfl, hc⟩ := hrel
        have HJ := Lib.hid hj
        by_cases hjl : j < 8
        · have hg' : 0 < gk := by omega
          clear hj
          go_wp2_with fail
          go_roundg (gk - 1)
          case rel =>
            have := HJ.out
            refine ⟨rfl, j + 1, Crc.stp c, by omega, by go_num, by rw [stp_bits c hc.out.1], Lib.hid ⟨Crc.stp_lt hc.out.1, ?_⟩⟩
            rw [hc.out.2]
            rw [show j + 1 = j + 1 from rfl, Crc.stps_add]
            rfl
          case measure => omega
        · have hj8 : j = 8 := by omega
          subst hj8
          clear hj
          have hcell := hB'.cells
          have hfree := hB'.free
          obtain ⟨x, hx⟩ : ∃ x, cs'[3 + k]? = some x := ⟨cs'[3 + k]'(by have := hT'.1; omega), Array.getElem?_eq_getElem _⟩
          go_wp2_with fail
          go_roundg (n1 - 1)
          case rel =>
            have := HK.out
            exact ⟨k + 1, by omega, by go_num, hO.set _ _, _, hB'.set _ _, hT'.set hlt c hc.out.2.symm⟩
          case measure => omega
    · obtain rfl : k = 256 := by omega
      clear hk
      go_wp2_with fail
      go_end0
      exact ⟨rfl, hO, cs', hB', hT'⟩
end Go.Proofs.Ytkmhjfileiabeaa
