/-
  append of a string onto own bytes, at a plain region and at a region that draws.
  Conditions: not more than 2^40 bytes.
-/
import Derived.Test.YtkmhjfileiabeaaStr
namespace Go.Proofs.Ytkmhjfileiabeaa
open Go.RowKit
set_option linter.unusedVariables false
set_option linter.unusedSimpArgs false

/-- a string's bytes -/
def sb (s : ByteArray) : List Nat := s.data.toList.map fun b => b.toNat
theorem sb_len (s : ByteArray) : (sb s).length = s.size := by simp [sb]
theorem sb_lt (s : ByteArray) : ∀ x ∈ sb s, x < 256 := fun x hx => by
  obtain ⟨b, _, rfl⟩ := List.mem_map.1 hx
  exact b.toNat_lt
theorem byteCells_sb (s : ByteArray) : byteCells s = (sb s).map cell8 := by
  simp only [byteCells, sb, List.map_map]
  rfl
theorem sb_inj {s u : ByteArray} (h : sb s = sb u) : s = u := by
  obtain ⟨⟨x⟩⟩ := s
  obtain ⟨⟨y⟩⟩ := u
  have : x = y := by
    have h' : x.map (fun b => b.toNat) = y.map (fun b => b.toNat) := h
    exact List.map_inj_right (fun a b e => UInt8.toNat_inj.1 e) |>.1 h'
  rw [this]

theorem run_app8s (w : World) (ty : TypeId) (base : Nat) (v : Value) (xs : List Nat) (hown : Own8 w base v xs) (s : ByteArray) (hb : xs.length + s.size ≤ 2 ^ 40) (hbase : base ≤ w.heap.size) :
    ∃ v' w', (Builtin.append_ #[22, 9] ty #[v, .string s]).run Try.prog w = .ok v' w' ∧ Own8 w' base v' (xs ++ sb s) ∧ w.grownBy w' v.ownBlock := by
  obtain ⟨i0, hi0, hz0, hz1, hz2⟩ := info_parts info8
  have hxy : ∀ x ∈ xs ++ sb s, x < 256 := fun x hx => by
    rcases List.mem_append.1 hx with h | h
    · exact hown.2 x h
    · exact sb_lt s x h
  rcases Nat.eq_zero_or_pos s.size with h0 | h0
  · have hs0 : sb s = [] := List.eq_nil_of_length_eq_zero (by rw [sb_len]; exact h0)
    refine ⟨v, w, ?_, by rw [hs0, List.append_nil]; exact hown, World.grownBy.refl w _⟩
    have hu := run_underlying Try.underlying22
    have hu2 := run_underlying Try.underlying9
    have hsrc := Src.ofString (P := Try.prog) w Try.underlying9 s
    have hbc : byteCells s = [] := by rw [byteCells_sb, hs0]; rfl
    have hcells := hsrc.cells
    rw [hbc, h0] at hcells
    obtain ⟨⟨_, hv⟩, _⟩ := hown
    rcases hv with ⟨rfl, _⟩ | ⟨g, cap, cur, rfl, _, _, hnc, _⟩
    · simp [Builtin.append_, hu, hu2, sizeOf, typeInfo, hi0, hz1, hsrc.len, h0, hcells, storeCells]
    · simp [Builtin.append_, hu, hu2, sizeOf, typeInfo, hi0, hz1, hsrc.len, h0, hcells, hnc, storeCells]
  · obtain ⟨v', w', hrun, h2, h3⟩ := run_append_own_src (P := Try.prog) w base 22 9 ty 5 i0 (.int .u8 0) 1 1 Try.underlying22 hi0 hz0 hz1 hz2 rfl (by omega) v xs.length (xs.map cell8) hown.1 (.string s) s.size (byteCells s) (Src.ofString w Try.underlying9 s) h0 (by unfold maxLen; omega) (by omega) hbase
    exact ⟨v', w', hrun, ⟨by rw [List.length_append, sb_len, List.map_append, ← byteCells_sb]; exact h2, hxy⟩, h3⟩
end Go.Proofs.Ytkmhjfileiabeaa
