/-
  The document's disk by its writes: what its methods make of it.
  Conditions: stated lemma by lemma.
-/
import Derived.Test.YtheocdfccdpmbaaDkX
import Derived.Test.YtheocdfccdpmbaaDkY
import Derived.Test.YtheocdfccdpmbaaDkb
namespace Go.Proofs.Ytheocdfccdpmbaa
open Go.RowKit Go.Maps
set_option linter.unusedVariables false
set_option linter.unusedSimpArgs false

def rfT (g : Nat) (S : DkG) : Thing := refT g (Dk.srt S.F) S.L
theorem thereE_srt (F : List ByteArray) (s : ByteArray) : Dk.thereE (Dk.srt F) s = Dk.thereE F s := by
  unfold Dk.thereE
  by_cases c : s ∈ F
  · rw [if_pos c, if_pos (DkG.mem_srt.2 c)]
  · rw [if_neg c, if_neg (fun e => c (DkG.mem_srt.1 e))]
theorem appE_srt (S : DkG) (s : ByteArray) (n : Nat) : Dk.appE (Dk.srt S.F) (Dk.total S.L) s n = S.appE s n := by
  show _ = Dk.appE S.F (Dk.total S.L) s n
  unfold Dk.appE
  rw [Dk.srt_len]
  have e : (s ∉ Dk.srt S.F) ↔ (s ∉ S.F) := not_congr DkG.mem_srt
  by_cases c : (s ∉ S.F ∧ 64 ≤ S.F.length) ∨ 1048576 < (Dk.total S.L : Int) + n
  · rw [if_pos c, if_pos (show (s ∉ Dk.srt S.F ∧ 64 ≤ S.F.length) ∨ 1048576 < (Dk.total S.L : Int) + n by rw [e]; exact c)]
  · rw [if_neg c, if_neg (show ¬ ((s ∉ Dk.srt S.F ∧ 64 ≤ S.F.length) ∨ 1048576 < (Dk.total S.L : Int) + n) by rw [e]; exact c)]
theorem outF_srt (F : List ByteArray) (s : ByteArray) : outF (Dk.srt F) s = Dk.srt (outF F s) :=
  Dk.sorted_eq ((Dk.srt_sorted F).filter _) (Dk.srt_sorted _) (((Dk.srt_perm F).filter _).trans (Dk.srt_perm _).symm)
namespace DkG
theorem len_does (S : DkG) (d : DoG) : (S.does d).L.length ≤ S.L.length + 1 := by
  unfold does
  by_cases c0 : d.kd = 0
  · rw [if_pos c0]
    unfold app
    by_cases h : S.appE d.nm d.b.length = 0
    · rw [dif_pos h]; simp [Dk.app]
    · rw [dif_neg h]; omega
  · rw [if_neg c0]
    by_cases c1 : d.kd = 1
    · rw [if_pos c1]
      unfold sync
      by_cases h : d.nm ∈ S.F
      · rw [if_pos h]; simp [Dk.sync]
      · rw [if_neg h]; omega
    · rw [if_neg c1]
      by_cases c2 : d.kd = 2
      · rw [if_pos c2]
        unfold rem
        by_cases h : d.nm ∈ S.F
        · rw [if_pos h]; exact Nat.le_succ_of_le (List.length_filter_le _ _)
        · rw [if_neg h]; omega
      · rw [if_neg c2]
        show (Dk.crash _ _ S.L).length ≤ _
        rw [Dk.crash_len]; omega
end DkG
section
variable {w0 w : World} {g : Nat} {S : DkG} {l : List Thing}
theorem srt64 (S : DkG) : (Dk.srt S.F).length ≤ 64 := by rw [Dk.srt_len]; exact S.ok.f64
theorem rappend_g (H : Hid (Sp w0 (rfT g S :: l) w)) (s : ByteArray) (hs : s.size ≤ 4611686018427387904) (A0 : Option Addr) (cb : Nat) (b : List UInt8) (hR : Hid (RdL layB w0 A0 b)) (hb : b.length ≤ 4611686018427387904) (hl : S.L.length ≤ 1000000) :
    Calls Try.prog 22 #[.pointer (some ⟨g, 0, none⟩), .string s, .slice A0 b.length cb] w fun e w' => e = .returned (.int .i64 (S.appE s b.length)) ∧ Sp w0 (rfT g (S.app s b) :: l) w' := by
  refine (rappend_calls (H : Hid (Sp w0 (refT g (Dk.srt S.F) S.L :: l) w)) s hs A0 cb b hR hb (srt64 S) hl S.ok.tot).mono ?_
  rintro e w' ⟨rfl, h⟩
  rw [appE_srt]
  refine ⟨rfl, ?_⟩
  unfold RAppTo at h
  rw [appE_srt] at h
  by_cases he : S.appE s b.length = 0
  · rw [if_pos he] at h
    obtain ⟨ys, h1, h2⟩ := h
    have e1 : S.app s b = ⟨addF S.F s, Dk.app s b S.L, S.ok.app he⟩ := dif_pos he
    rw [e1]
    unfold rfT
    simp only
    rw [← h1.srt]
    exact h2
  · rw [if_neg he] at h
    rw [DkG.app_no he]
    exact h
theorem rsync_g (H : Hid (Sp w0 (rfT g S :: l) w)) (s : ByteArray) (hl : S.L.length ≤ 1000000) :
    Calls Try.prog 23 #[.pointer (some ⟨g, 0, none⟩), .string s] w fun e w' => e = .returned (.int .i64 (Dk.thereE S.F s)) ∧ Sp w0 (rfT g (S.sync s) :: l) w' := by
  refine (rsync_calls (H : Hid (Sp w0 (refT g (Dk.srt S.F) S.L :: l) w)) s (srt64 S) hl).mono ?_
  rintro e w' ⟨rfl, h⟩
  rw [thereE_srt]
  refine ⟨rfl, ?_⟩
  unfold DkG.sync
  by_cases c : s ∈ S.F
  · rw [if_pos (DkG.mem_srt.2 c)] at h
    rw [if_pos c]
    exact h
  · rw [if_neg (fun e => c (DkG.mem_srt.1 e))] at h
    rw [if_neg c]
    exact h
theorem rremove_g (H : Hid (Sp w0 (rfT g S :: l) w)) (s : ByteArray) (hl : S.L.length ≤ 1000000) :
    Calls Try.prog 24 #[.pointer (some ⟨g, 0, none⟩), .string s] w fun e w' => e = .returned (.int .i64 (Dk.thereE S.F s)) ∧ Sp w0 (rfT g (S.rem s) :: l) w' := by
  refine (rremove_calls (H : Hid (Sp w0 (refT g (Dk.srt S.F) S.L :: l) w)) s (srt64 S) hl).mono ?_
  rintro e w' ⟨rfl, h⟩
  rw [thereE_srt]
  refine ⟨rfl, ?_⟩
  unfold DkG.rem
  by_cases c : s ∈ S.F
  · rw [if_pos (DkG.mem_srt.2 c), outF_srt] at h
    rw [if_pos c]
    exact h
  · rw [if_neg (fun e => c (DkG.mem_srt.1 e))] at h
    rw [if_neg c]
    exact h
theorem rcrash_g (H : Hid (Sp w0 (rfT g S :: l) w)) (hl : S.L.length ≤ 1000000) (keep torn : Int) :
    Calls Try.prog 25 #[.pointer (some ⟨g, 0, none⟩), .int .i64 keep, .int .i64 torn] w fun e w' => e = .returned (.tuple #[]) ∧ Sp w0 (rfT g (S.crash keep torn) :: l) w' :=
  rcrash_calls (H : Hid (Sp w0 (refT g (Dk.srt S.F) S.L :: l) w)) hl keep torn
theorem rread_g (H : Hid (Sp w0 (rfT g S :: l) w)) (s : ByteArray) (hl : S.L.length ≤ 1000000) :
    Calls Try.prog 28 #[.pointer (some ⟨g, 0, none⟩), .string s] w fun e w' => ∃ A c, e = .returned (.tuple #[.slice A (S.read s).length c, .int .i64 (Dk.thereE S.F s)]) ∧ OwnL layB 5 w' w.heap.size (.slice A (S.read s).length c) (S.read s) ∧ Below w.heap.size w w' := by
  refine (rread_calls (H : Hid (Sp w0 (refT g (Dk.srt S.F) S.L :: l) w)) s (srt64 S) hl S.ok.tot).mono ?_
  rintro e w' ⟨A, c, n, rfl, ho, hb⟩
  have e1 : (if s ∈ Dk.srt S.F then Dk.content s S.L else []) = S.read s := by
    by_cases c : s ∈ S.F
    · rw [if_pos (DkG.mem_srt.2 c)]; rfl
    · rw [if_neg (fun e => c (DkG.mem_srt.1 e))]; exact (S.ok.content_out c).symm
  rw [e1] at ho
  obtain ⟨A', c', e2, -, -, -, -⟩ := ho.form
  obtain ⟨q1, q2, q3⟩ := Value.slice.inj e2
  subst q2
  rw [thereE_srt]
  exact ⟨A, c, rfl, ho, hb⟩
theorem rwaiting_g (H : Hid (Sp w0 (rfT g S :: l) w)) (hl : S.L.length ≤ 1000000) :
    Calls Try.prog 30 #[.pointer (some ⟨g, 0, none⟩)] w fun e w' => e = .returned (.int .i64 (S.uns : Nat)) ∧ w = w' :=
  rwaiting_calls (H : Hid (Sp w0 (refT g (Dk.srt S.F) S.L :: l) w)) hl
theorem rnew_g {W : World} (h : Sp w0 l W) : Sp w0 (rfT W.heap.size DkG.new :: l) (W.alloc (.cells #[.slice none 0 0, .slice none 0 0] 46)) := by
  have h1 := (h.row0 (L := layR) (e := 88)).row0 (L := layN) (e := 9)
  have h2 := h1.alloc #[.slice none 0 0, .slice none 0 0] 46
  have e : Dk.srt (DkG.new).F = [] := by show Dk.srt [] = []; unfold Dk.srt; simp
  unfold rfT
  rw [e]
  exact RfP.close (g := W.heap.size) (fv := .slice none 0 0) (lv := .slice none 0 0) (xs := []) (L := []) h2
end
end Go.Proofs.Ytheocdfccdpmbaa
