/-
  The laws on disks: a step's cells, names that are there, what a sync and a crash leave of what is read.
  Conditions: stated lemma by lemma.
-/
import Derived.Test.YtheocdfccdpmbaaDkA
namespace Go.Proofs.Ytheocdfccdpmbaa
open Go.RowKit Go.Maps
set_option linter.unusedVariables false
set_option linter.unusedSimpArgs false

theorem RdL.dg {w : World} {A : Option Addr} {xs : List DoG} (h : RdL layDo w A xs) (i : Nat) (hi : i < xs.length) : ∃ b off, A = some ⟨b, off, none⟩ ∧ b < w.heap.size ∧ w.cell? ⟨b, off + i * 5, none⟩ = some (.int .i64 (xs.getD i default).kd) ∧ w.cell? ⟨b, off + i * 5 + 1, none⟩ = some (.string (xs.getD i default).nm) ∧
    w.cell? ⟨b, off + i * 5 + 2, none⟩ = some (.slice (xs.getD i default).A (xs.getD i default).b.length (xs.getD i default).c) ∧ w.cell? ⟨b, off + i * 5 + 3, none⟩ = some (.int .i64 (xs.getD i default).kp) ∧ w.cell? ⟨b, off + i * 5 + 4, none⟩ = some (.int .i64 (xs.getD i default).tn) := by
  obtain ⟨b, off, e, hb, hc⟩ := h i hi
  exact ⟨b, off, e, hb, hc 0 _ rfl, hc 1 _ rfl, hc 2 _ rfl, hc 3 _ rfl, hc 4 _ rfl⟩
theorem RdL.nmAt {w : World} {A : Option Addr} {b off : Nat} {xs : List ByteArray} (h : RdL layN w A xs) (hA : A = some ⟨b, off, none⟩) {i : Nat} (hi : i < xs.length) : w.cell? ⟨b, off + i, none⟩ = some (.string (xs.getD i default)) := by
  obtain ⟨b', off', e, _, hc⟩ := h.nm i hi
  rw [hA] at e
  injection e with e
  injection e with e1 e2 _
  subst e1; subst e2
  exact hc
theorem convO {w : World} {b0 : Nat} {A : Option Addr} {n c : Nat} {xs : List UInt8} (h : OwnL layB 5 w b0 (.slice A n c) xs) : (convert 47 9 (.slice A n c)).run Try.prog w = .ok (.string (Dk.mkB xs)) w := by
  obtain ⟨A', c', e, -, -, hr, -⟩ := h.form
  obtain ⟨e1, e2, -⟩ := Value.slice.inj e
  rw [e1, e2]
  exact convB hr c
theorem OwnL.formN {α : Type} [Inhabited α] {L : Lay α} {e : TypeId} {w : World} {b0 n : Nat} {v : Value} {xs : List α} (h : OwnL L e w b0 v xs) (hn : xs.length = n) : ∃ A c, v = .slice A n c := by
  obtain ⟨A', c', e, -, -, -, -⟩ := h.form
  exact ⟨A', c', by rw [← hn]; exact e⟩
namespace DkG
theorem sync_F (S : DkG) (s : ByteArray) : (S.sync s).F = S.F := by
  unfold sync
  by_cases h : s ∈ S.F
  · rw [if_pos h]
  · rw [if_neg h]
theorem sync_read (S : DkG) (s n : ByteArray) : (S.sync s).read n = S.read n := by
  unfold sync
  by_cases h : s ∈ S.F
  · rw [if_pos h]; exact Dk.content_sync s n S.L
  · rw [if_neg h]
theorem crash_F (S : DkG) (k t : Int) : (S.crash k t).F = S.F := rfl
theorem crash_read0 {S : DkG} (h : S.uns = 0) (k t : Int) (n : ByteArray) : (S.crash k t).read n = S.read n := by
  have h0 : Dk.uns S.L = 0 := h
  exact Dk.crash_all (by rw [h0]; exact Nat.zero_le _) n
theorem mem_srt {n : ByteArray} {F : List ByteArray} : n ∈ Dk.srt F ↔ n ∈ F := (Dk.srt_perm F).mem_iff
theorem srt_at {F : List ByteArray} {k : Nat} (h : k < (Dk.srt F).length) : (Dk.srt F).getD k default ∈ F := by
  rw [← mem_srt]
  simp [List.getD, h]
theorem there_in {F : List ByteArray} {n : ByteArray} (h : n ∈ F) : Dk.thereE F n = 0 := if_pos h
theorem nm_in {S : DkG} {n : ByteArray} (h : n ∈ S.F) : n.size ≤ maxLen := by have := S.ok.nm n h; unfold maxLen; omega
/-- no write of these files waits -/
def Quiet (S : DkG) (l : List ByteArray) : Prop := ∀ x ∈ S.L, x.syn = false → x.name ∉ l
theorem quiet_nil (S : DkG) : S.Quiet [] := fun x _ _ h => by cases h
theorem quiet_sync {S : DkG} {l : List ByteArray} (h : S.Quiet l) {s : ByteArray} (hs : s ∈ S.F) : (S.sync s).Quiet (l ++ [s]) := by
  intro x hx hsyn
  unfold sync at hx
  rw [if_pos hs] at hx
  obtain ⟨y, hy, e⟩ := List.mem_map.1 hx
  by_cases c : y.name = s
  · rw [if_pos c] at e
    rw [← e] at hsyn
    cases hsyn
  · rw [if_neg c] at e
    subst e
    intro hm
    rcases List.mem_append.1 hm with hm | hm
    · exact h y hy hsyn hm
    · rw [List.mem_singleton] at hm; exact c hm
theorem quiet_all {S : DkG} (h : S.Quiet (Dk.srt S.F)) : S.uns = 0 := by
  show Dk.uns S.L = 0
  unfold Dk.uns
  rw [List.filter_eq_nil_iff.2 (fun x hx => by
    intro hs
    have hs' : x.syn = false := by simpa using hs
    exact h x hx hs' (mem_srt.2 (S.ok.inF x hx)))]
  rfl
end DkG
theorem srt_le {S : DkG} : (Dk.srt S.F).length ≤ 64 := by rw [Dk.srt_len]; exact S.ok.f64
theorem take_snocG {α : Type} [Inhabited α] {l : List α} {k : Nat} (h : k < l.length) : l.take (k + 1) = l.take k ++ [l.getD k default] := by
  rw [List.take_add_one]
  simp [List.getD, h]
end Go.Proofs.Ytheocdfccdpmbaa
