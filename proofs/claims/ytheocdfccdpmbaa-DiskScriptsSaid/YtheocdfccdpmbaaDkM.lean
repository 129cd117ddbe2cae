/-
  A disk in memory: its files' slices in a map, its list of waiting writes; what changes of one part leave of the others.
  Conditions: stated lemma by lemma.
-/
import Derived.Test.YtheocdfccdpmbaaDkQ
import Derived.Test.YtheocdfccdpmbaaSp
import Derived.StringKeys
namespace Go.Proofs.Ytheocdfccdpmbaa
open Go.RowKit Go.Maps
set_option linter.unusedVariables false
set_option linter.unusedSimpArgs false
set_option linter.unusedSectionVars false

/-- bytes in memory -/
def layB : Lay UInt8 := ⟨1, fun x => [.int .u8 x.toNat], fun _ => rfl, by decide, fun x u hu => by simp at hu; subst hu; rfl⟩
/-- what waits, in memory -/
def layD : Lay (ByteArray × Nat) := ⟨2, fun x => [.string x.1, .int .i64 x.2], fun _ => rfl, by decide, fun x u hu => by simp at hu; rcases hu with rfl | rfl <;> rfl⟩
/-- an element of the map of files reads as itself -/
def RH (v : Value) : Option (DataW Value × List MemPlace) := some (.held v, [])
/-- a name as a key -/
abbrev kS (n : ByteArray) : Lit := .string n.data.toList
theorem kS_key (n : ByteArray) : WideAt.IsKeyLit (kS n) := trivial
theorem kS_inj {n m : ByteArray} (h : kS n = kS m) : n = m := by
  injection h with h
  have h2 : n.data = m.data := Array.toList_inj.1 h
  cases n; cases m
  simp only at h2
  rw [h2]
theorem kS_ne {n m : ByteArray} (h : n ≠ m) : kS n ≠ kS m := fun e => h (kS_inj e)
instance memDec (n : ByteArray) (F : List ByteArray) : Decidable (n ∈ F) := decidable_of_iff (F.any (fun m => decide (m = n)) = true) (by simp)
/-- the map of the files F -/
structure FileIs (D : DataW Value) (F : List ByteArray) (fv : ByteArray → Value) : Prop where
  has : ∀ n, Maps.has D (kS n) = decide (n ∈ F)
  at_ : ∀ n ∈ F, ∀ z, D.atKey (kS n) z = .held (fv n)
  size : Maps.size D = F.length
  nd : F.Nodup
/-- a file's slice turns -/
def updF (fv : ByteArray → Value) (n : ByteArray) (v : Value) : ByteArray → Value := fun m => if m = n then v else fv m
def addF (F : List ByteArray) (n : ByteArray) : List ByteArray := if n ∈ F then F else F ++ [n]
namespace FileIs
variable {D : DataW Value} {F : List ByteArray} {fv : ByteArray → Value}
theorem nil (fv : ByteArray → Value) : FileIs (.map []) [] fv := ⟨fun n => by simp [Maps.has], (fun n hn => by cases hn), rfl, List.nodup_nil⟩
theorem put (h : FileIs D F fv) (t : Tidy D) (n : ByteArray) (v : Value) : FileIs (D.put (kS n) (.held v)) (addF F n) (updF fv n v) := by
  refine ⟨fun m => ?_, fun m hm z => ?_, ?_, ?_⟩
  · by_cases c : m = n
    · subst c
      rw [has_put_same t.isMap (kS_key _)]
      unfold addF
      by_cases hF : m ∈ F <;> simp [hF]
    · rw [has_put_other (kS_ne c), h.has m]
      unfold addF
      by_cases hF : n ∈ F <;> simp [hF, c]
  · unfold updF
    by_cases c : m = n
    · subst c
      rw [if_pos rfl]
      exact atKey_put_same t.isMap (kS_key _) _ _
    · rw [if_neg c, atKey_put_other (kS_ne c)]
      refine h.at_ m ?_ z
      unfold addF at hm
      by_cases hF : n ∈ F
      · rw [if_pos hF] at hm; exact hm
      · rw [if_neg hF] at hm
        rcases List.mem_append.1 hm with hm | hm
        · exact hm
        · exact absurd (List.mem_singleton.1 hm) c
  · rw [size_put t, h.has n, h.size]
    unfold addF
    by_cases hF : n ∈ F <;> simp [hF]
  · unfold addF
    by_cases hF : n ∈ F
    · rw [if_pos hF]; exact h.nd
    · rw [if_neg hF]
      exact List.nodup_append.2 ⟨h.nd, by simp, fun a ha b hb e => by rw [List.mem_singleton] at hb; subst hb; subst e; exact hF ha⟩
theorem del (h : FileIs D F fv) (t : Tidy D) (n : ByteArray) : FileIs (D.del (kS n)) (F.filter fun m => decide (m ≠ n)) fv := by
  refine ⟨fun m => ?_, fun m hm z => ?_, ?_, h.nd.filter _⟩
  · by_cases c : m = n
    · subst c
      rw [has_del_same]
      simp
    · rw [has_del_other (kS_ne c), h.has m]
      simp [c]
  · obtain ⟨h1, h2⟩ := List.mem_filter.1 hm
    rw [atKey_del_other (kS_ne (by simpa using h2))]
    exact h.at_ m h1 z
  · have h1 := size_del (k := kS n) t
    rw [h.has n, h.size] at h1
    have h2 : ∀ {F : List ByteArray}, F.Nodup → (F.filter fun m => decide (m ≠ n)).length + (if decide (n ∈ F) = true then 1 else 0) = F.length := by
      intro F
      induction F with
      | nil => intro _; rfl
      | cons a F ih =>
        intro hn
        rw [List.nodup_cons] at hn
        have ih := ih hn.2
        by_cases c : a = n
        · subst c
          rw [List.filter_cons_of_neg (by simp)]
          have e : ¬ decide (a ∈ F) = true := by simpa using hn.1
          rw [if_neg e] at ih
          rw [if_pos (by simp)]
          simp only [List.length_cons]
          omega
        · rw [List.filter_cons_of_pos (by simpa using c)]
          have e : decide (n ∈ a :: F) = decide (n ∈ F) := by
            simp only [List.mem_cons, decide_eq_decide]
            exact ⟨fun h => h.elim (fun e => absurd e.symm c) (fun h => h), .inr⟩
          rw [e]
          simp only [List.length_cons]
          omega
    have := h2 h.nd
    omega
end FileIs
end Go.Proofs.Ytheocdfccdpmbaa
