/-
  A disk by its writes: what its methods make of it.
  Conditions: stated lemma by lemma.
-/
import Derived.Test.YtheocdfccdpmbaaDk4
import Derived.Test.YtheocdfccdpmbaaDk7
namespace Go.Proofs.Ytheocdfccdpmbaa
open Go.RowKit Go.Maps
set_option linter.unusedVariables false
set_option linter.unusedSimpArgs false

/-- a disk's files and writes, as they may be -/
structure DkOk (F : List ByteArray) (L : List Wri) : Prop where
  nd : F.Nodup
  inF : ∀ x ∈ L, x.name ∈ F
  ord : Dk.Ord L
  f64 : F.length ≤ 64
  tot : Dk.total L ≤ 1048576
  nm : ∀ n ∈ F, n.size ≤ 16
theorem Dk.mu_names (c : Nat → List UInt8 → List UInt8) : ∀ (n : Nat) (L : List Wri), ∀ y ∈ Dk.mu c n L, ∃ x ∈ L, x.name = y.name
  | _, [], y, hy => by cases hy
  | n, x :: L, y, hy => by
    by_cases hs : x.syn = true
    · rw [Dk.mu_syn hs] at hy
      rcases List.mem_cons.1 hy with rfl | hy
      · exact ⟨y, List.mem_cons_self .., rfl⟩
      · obtain ⟨z, h1, h2⟩ := Dk.mu_names c n L y hy
        exact ⟨z, List.mem_cons_of_mem _ h1, h2⟩
    · rw [Dk.mu_wait hs] at hy
      rcases List.mem_cons.1 hy with rfl | hy
      · exact ⟨x, List.mem_cons_self .., rfl⟩
      · obtain ⟨z, h1, h2⟩ := Dk.mu_names c (n + 1) L y hy
        exact ⟨z, List.mem_cons_of_mem _ h1, h2⟩
namespace DkOk
variable {F : List ByteArray} {L : List Wri}
theorem content_out (h : DkOk F L) {n : ByteArray} (hn : n ∉ F) : Dk.content n L = [] := Dk.content_mem fun x hx e => hn (e ▸ h.inF x hx)
theorem content_le (h : DkOk F L) (n : ByteArray) : (Dk.content n L).length ≤ 1048576 := Nat.le_trans (Dk.content_le_total _ _) h.tot
theorem app (h : DkOk F L) {s : ByteArray} {b : List UInt8} (he : Dk.appE F (Dk.total L) s b.length = 0) : DkOk (addF F s) (Dk.app s b L) := by
  unfold Dk.appE at he
  by_cases c1 : Dk.named s = true
  · rw [if_pos c1] at he
    by_cases c2 : (s ∉ F ∧ 64 ≤ F.length) ∨ 1048576 < (Dk.total L : Int) + b.length
    · rw [if_pos c2] at he; cases he
    · have hsz : s.size ≤ 16 := by
        unfold Dk.named at c1
        simp only [Bool.and_eq_true, decide_eq_true_eq] at c1
        exact c1.2
      refine ⟨?_, fun x hx => ?_, h.ord.app s b, ?_, ?_, fun n hn => ?_⟩
      · unfold addF
        by_cases c : s ∈ F
        · rw [if_pos c]; exact h.nd
        · rw [if_neg c]
          exact List.nodup_append.2 ⟨h.nd, by simp, fun a ha b hb e => by rw [List.mem_singleton] at hb; subst hb; subst e; exact c ha⟩
      · have hin : s ∈ addF F s := by
          unfold addF
          by_cases c : s ∈ F
          · rw [if_pos c]; exact c
          · rw [if_neg c]; simp
        have hsub : ∀ n ∈ F, n ∈ addF F s := fun n hn => by
          unfold addF
          by_cases c : s ∈ F
          · rw [if_pos c]; exact hn
          · rw [if_neg c]; simp [hn]
        unfold Dk.app at hx
        rcases List.mem_append.1 hx with hx | hx
        · exact hsub _ (h.inF x hx)
        · rw [List.mem_singleton] at hx; subst hx; exact hin
      · unfold addF
        by_cases c : s ∈ F
        · rw [if_pos c]; exact h.f64
        · rw [if_neg c, List.length_append, List.length_singleton]
          have : ¬ 64 ≤ F.length := fun e => c2 (.inl ⟨c, e⟩)
          omega
      · rw [Dk.total_appd]; omega
      · unfold addF at hn
        by_cases c : s ∈ F
        · rw [if_pos c] at hn; exact h.nm n hn
        · rw [if_neg c] at hn
          rcases List.mem_append.1 hn with hn | hn
          · exact h.nm n hn
          · rw [List.mem_singleton] at hn; subst hn; exact hsz
  · rw [if_neg c1] at he; cases he
theorem sync (h : DkOk F L) (s : ByteArray) : DkOk F (Dk.sync s L) :=
  ⟨h.nd, fun x hx => by
    obtain ⟨y, hy, e⟩ := List.mem_map.1 hx
    have : x.name = y.name := by rw [← e]; by_cases c : y.name = s <;> simp [c]
    rw [this]; exact h.inF y hy, h.ord.sync s, h.f64, by rw [Dk.total_sync]; exact h.tot, h.nm⟩
theorem rem (h : DkOk F L) (s : ByteArray) : DkOk (outF F s) (Dk.rem s L) :=
  ⟨h.nd.filter _, fun x hx => by
    obtain ⟨h1, h2⟩ := List.mem_filter.1 hx
    exact List.mem_filter.2 ⟨h.inF x h1, h2⟩, h.ord.rem s, Nat.le_trans (List.length_filter_le _ _) h.f64, by have := Dk.total_rem s L; have := h.tot; omega, fun n hn => h.nm n (List.mem_filter.1 hn).1⟩
theorem crash (h : DkOk F L) (k t : Nat) : DkOk F (Dk.crash k t L) :=
  ⟨h.nd, fun x hx => by
    obtain ⟨y, hy, e⟩ := List.mem_map.1 hx
    obtain ⟨z, hz, e2⟩ := Dk.mu_names _ _ _ y hy
    have : x.name = z.name := by rw [← e, e2]
    rw [this]; exact h.inF z hz, Dk.Ord.crash k t L, h.f64, by
      unfold Dk.crash
      rw [Dk.total_synAll]
      exact Nat.le_trans (Dk.mu_total_le _ (Dk.left_le _ _) _ _) h.tot, h.nm⟩
end DkOk
/-- a disk by its writes -/
structure DkG where
  F : List ByteArray
  L : List Wri
  ok : DkOk F L
namespace DkG
def appE (S : DkG) (s : ByteArray) (n : Nat) : Int := Dk.appE S.F (Dk.total S.L) s n
def app (S : DkG) (s : ByteArray) (b : List UInt8) : DkG := if h : S.appE s b.length = 0 then ⟨addF S.F s, Dk.app s b S.L, S.ok.app h⟩ else S
def sync (S : DkG) (s : ByteArray) : DkG := if s ∈ S.F then ⟨S.F, Dk.sync s S.L, S.ok.sync s⟩ else S
def rem (S : DkG) (s : ByteArray) : DkG := if s ∈ S.F then ⟨outF S.F s, Dk.rem s S.L, S.ok.rem s⟩ else S
def crash (S : DkG) (k t : Int) : DkG := ⟨S.F, Dk.crash k.toNat t.toNat S.L, S.ok.crash _ _⟩
def read (S : DkG) (s : ByteArray) : List UInt8 := Dk.content s S.L
def new : DkG := ⟨[], [], ⟨List.nodup_nil, fun x hx => (by cases hx), Dk.Ord.nil, by simp, by simp [Dk.total], fun n hn => by cases hn⟩⟩
def uns (S : DkG) : Nat := Dk.uns S.L
theorem uns_filter (p : Wri → Bool) (L : List Wri) : Dk.uns (L.filter p) ≤ Dk.uns L := by
  unfold Dk.uns
  rw [List.filter_filter]
  rw [show (fun a => (!a.syn && p a)) = fun a => (p a && !a.syn) from funext fun a => Bool.and_comm _ _, ← List.filter_filter]
  exact List.length_filter_le _ _
theorem uns_app (S : DkG) (s : ByteArray) (b : List UInt8) : (S.app s b).uns ≤ S.uns + 1 := by
  unfold app
  by_cases h : S.appE s b.length = 0
  · rw [dif_pos h]
    show Dk.uns (S.L ++ _) ≤ _
    rw [Dk.uns_app]
    show Dk.uns S.L + 1 ≤ _
    exact Nat.le_refl _
  · rw [dif_neg h]; omega
theorem uns_sync (S : DkG) (s : ByteArray) : (S.sync s).uns ≤ S.uns := by
  unfold sync
  by_cases h : s ∈ S.F
  · rw [if_pos h]
    show Dk.uns (Dk.sync s S.L) ≤ Dk.uns S.L
    rw [← Dk.waits_len, ← Dk.waits_len, Dk.waits_sync]
    exact List.length_filter_le _ _
  · rw [if_neg h]; exact Nat.le_refl _
theorem uns_rem (S : DkG) (s : ByteArray) : (S.rem s).uns ≤ S.uns := by
  unfold rem
  by_cases h : s ∈ S.F
  · rw [if_pos h]; exact uns_filter _ _
  · rw [if_neg h]; exact Nat.le_refl _
theorem uns_crash (S : DkG) (k t : Int) : (S.crash k t).uns = 0 := by
  show Dk.uns (Dk.crash _ _ _) = 0
  rw [← Dk.waits_len, Dk.waits_crash]
  rfl
theorem app_no {S : DkG} {s : ByteArray} {b : List UInt8} (h : S.appE s b.length ≠ 0) : S.app s b = S := dif_neg h
end DkG
def dkT (g : Nat) (S : DkG) : Thing := dskT g S.F (fun n => Dk.content n S.L) (Dk.waits S.L) (Dk.total S.L)
section
variable {w0 w : World} {g : Nat} {S : DkG} {l : List Thing}
theorem append_g (H : Hid (Sp w0 (dkT g S :: l) w)) (s : ByteArray) (hs : s.size ≤ 4611686018427387904) (A : Option Addr) (c : Nat) (b : List UInt8) (hR : Hid (RdL layB w A b)) (hb : b.length ≤ 4611686018427387904) (hu : S.uns ≤ 1000000) :
    Calls Try.prog 44 #[.pointer (some ⟨g, 0, none⟩), .string s, .slice A b.length c] w fun e w' => e = .returned (.int .i64 (S.appE s b.length)) ∧ Sp w0 (dkT g (S.app s b) :: l) w' := by
  refine (append_calls (H : Hid (Sp w0 (dskT g S.F (fun n => Dk.content n S.L) (Dk.waits S.L) (Dk.total S.L) :: l) w)) s hs A c b hR hb S.ok.f64 (by omega) (by have := S.ok.tot; omega) (by rw [Dk.waits_len]; exact hu) (Lib.hid ⟨fun n hn => S.ok.content_out hn, fun n => S.ok.content_le n⟩)).mono ?_
  rintro e w' ⟨rfl, h⟩
  refine ⟨rfl, ?_⟩
  unfold AppTo at h
  by_cases he : S.appE s b.length = 0
  · have he' : Dk.appE S.F (Dk.total S.L) s b.length = 0 := he
    rw [if_pos he'] at h
    have e1 : S.app s b = ⟨addF S.F s, Dk.app s b S.L, S.ok.app he⟩ := dif_pos he
    rw [e1]
    unfold dkT
    simp only
    have e2 : updL (fun n => Dk.content n S.L) s (Dk.content s S.L ++ b) = fun n => Dk.content n (Dk.app s b S.L) := by
      funext n
      unfold updL
      rw [Dk.content_appd]
      by_cases c : s = n
      · subst c; rw [if_pos rfl]; try rw [if_pos rfl]
      · rw [if_neg c, if_neg (fun e => c e.symm)]
    rw [← e2, Dk.waits_app, Dk.total_appd, Int.natCast_add]
    exact h
  · have he' : ¬ Dk.appE S.F (Dk.total S.L) s b.length = 0 := he
    rw [if_neg he'] at h
    rw [DkG.app_no he]
    exact h
theorem sync_g (H : Hid (Sp w0 (dkT g S :: l) w)) (s : ByteArray) (hs : s.size ≤ maxLen) (hu : S.uns ≤ 1000000) :
    Calls Try.prog 34 #[.pointer (some ⟨g, 0, none⟩), .string s] w fun e w' => e = .returned (.int .i64 (Dk.thereE S.F s)) ∧ Sp w0 (dkT g (S.sync s) :: l) w' := by
  refine (sync_calls (H : Hid (Sp w0 (dskT g S.F (fun n => Dk.content n S.L) (Dk.waits S.L) (Dk.total S.L) :: l) w)) s hs (by rw [Dk.waits_len]; exact hu)).mono ?_
  rintro e w' ⟨rfl, h⟩
  refine ⟨rfl, ?_⟩
  unfold DkG.sync
  by_cases c : s ∈ S.F
  · rw [if_pos c] at h ⊢
    unfold dkT
    simp only
    rw [Dk.waits_sync, Dk.total_sync]
    simp only [Dk.content_sync]
    exact h
  · rw [if_neg c] at h ⊢
    exact h
theorem remove_g (H : Hid (Sp w0 (dkT g S :: l) w)) (s : ByteArray) (hs : s.size ≤ maxLen) (hu : S.uns ≤ 1000000) :
    Calls Try.prog 48 #[.pointer (some ⟨g, 0, none⟩), .string s] w fun e w' => e = .returned (.int .i64 (Dk.thereE S.F s)) ∧ Sp w0 (dkT g (S.rem s) :: l) w' := by
  refine (remove_calls (H : Hid (Sp w0 (dskT g S.F (fun n => Dk.content n S.L) (Dk.waits S.L) (Dk.total S.L) :: l) w)) s hs (by rw [Dk.waits_len]; exact hu) (by omega) (by have := S.ok.tot; omega) (Lib.hid fun n => S.ok.content_le n)).mono ?_
  rintro e w' ⟨rfl, h⟩
  refine ⟨rfl, ?_⟩
  unfold DkG.rem
  unfold RemTo at h
  by_cases c : s ∈ S.F
  · rw [if_pos c] at h ⊢
    unfold dkT dskT dkParts
    unfold dskT dkParts at h
    simp only at h ⊢
    rw [Dk.waits_rem]
    have e1 : (Dk.total (Dk.rem s S.L) : Int) = (Dk.total S.L : Int) - ((Dk.content s S.L).length : Int) := by have := Dk.total_rem s S.L; omega
    rw [e1]
    have e2 : ∀ sv, filesT (outF S.F s) sv (fun n => Dk.content n (Dk.rem s S.L)) = filesT (outF S.F s) sv (fun n => Dk.content n S.L) := fun sv => filesT_cong (fun _ _ => rfl) (fun n hn => by
      have hne : ¬ s = n := fun e => by subst e; exact outF_not hn
      rw [Dk.content_rem, if_neg hne])
    simp only [e2]
    exact h
  · rw [if_neg c] at h ⊢
    exact h
theorem crash_g (H : Hid (Sp w0 (dkT g S :: l) w)) (hu : S.uns ≤ 1000000) (keep torn : Int) :
    Calls Try.prog 33 #[.pointer (some ⟨g, 0, none⟩), .int .i64 keep, .int .i64 torn] w fun e w' => e = .returned (.tuple #[]) ∧ Sp w0 (dkT g (S.crash keep torn) :: l) w' := by
  refine (crash_calls (H : Hid (Sp w0 (dskT g S.F (fun n => Dk.content n S.L) (Dk.waits S.L) (Dk.total S.L) :: l) w)) (Lib.hid S.ok.ord) (Lib.hid S.ok.inF) S.ok.f64 (Lib.hid S.ok.nm) (Lib.hid S.ok.tot) hu keep torn).mono ?_
  rintro e w' ⟨rfl, h⟩
  refine ⟨rfl, ?_⟩
  unfold dkT DkG.crash
  simp only
  rw [Dk.waits_crash]
  exact h
theorem read_g (H : Hid (Sp w0 (dkT g S :: l) w)) (s : ByteArray) (hs : s.size ≤ maxLen) :
    Calls Try.prog 27 #[.pointer (some ⟨g, 0, none⟩), .string s] w fun e w' =>
      ∃ A c, e = .returned (.tuple #[.slice A (S.read s).length c, .int .i64 (Dk.thereE S.F s)]) ∧ OwnL layB 5 w' w.heap.size (.slice A (S.read s).length c) (S.read s) ∧ Below w.heap.size w w' := by
  refine (read_calls (H : Hid (Sp w0 (dskT g S.F (fun n => Dk.content n S.L) (Dk.waits S.L) (Dk.total S.L) :: l) w)) s hs (Lib.hid fun n _ => S.ok.content_le n)).mono ?_
  rintro e w' ⟨v, rfl, ho, hb⟩
  have e1 : (if s ∈ S.F then Dk.content s S.L else []) = S.read s := by
    by_cases c : s ∈ S.F
    · rw [if_pos c]; rfl
    · rw [if_neg c]; exact (S.ok.content_out c).symm
  rw [e1] at ho
  obtain ⟨A, c, rfl, -, -, -, -⟩ := ho.form
  exact ⟨A, c, rfl, ho, hb⟩
theorem names_g (H : Hid (Sp w0 (dkT g S :: l) w)) :
    Calls Try.prog 32 #[.pointer (some ⟨g, 0, none⟩)] w fun e w' => ∃ A c, e = .returned (.slice A (Dk.srt S.F).length c) ∧ OwnL layN 9 w' w.heap.size (.slice A (Dk.srt S.F).length c) (Dk.srt S.F) ∧ Below w.heap.size w w' := by
  refine (names_calls (H : Hid (Sp w0 (dskT g S.F (fun n => Dk.content n S.L) (Dk.waits S.L) (Dk.total S.L) :: l) w)) (Lib.hid S.ok.f64)).mono ?_
  rintro e w' ⟨v, rfl, ho, hb⟩
  obtain ⟨A, c, rfl, -, -, -, -⟩ := ho.form
  exact ⟨A, c, rfl, ho, hb⟩
theorem waiting_g (H : Hid (Sp w0 (dkT g S :: l) w)) :
    Calls Try.prog 29 #[.pointer (some ⟨g, 0, none⟩)] w fun e w' => e = .returned (.int .i64 (S.uns : Nat)) ∧ w = w' := by
  have h := waiting_calls (H : Hid (Sp w0 (dskT g S.F (fun n => Dk.content n S.L) (Dk.waits S.L) (Dk.total S.L) :: l) w))
  rw [Dk.waits_len] at h
  exact h
end
theorem new_g {w0 w : World} {l : List Thing} (H : Hid (Sp w0 l w)) :
    Calls Try.prog 21 #[] w fun e w' => ∃ g, e = .returned (.pointer (some ⟨g, 0, none⟩)) ∧ Sp w0 (dkT g DkG.new :: l) w' := by
  refine (new_calls w).mono ?_
  rintro e w' ⟨g, rfl, h⟩
  exact ⟨g, rfl, H.out.join h⟩
end Go.Proofs.Ytheocdfccdpmbaa
