/-
  Behind the laws on wheels: small plain facts, a row that is nil.
  Conditions: stated lemma by lemma.
-/
import Derived.Test.YtheocdfccdpmbaaWhF
namespace Go.Proofs.Ytheocdfccdpmbaa
open Go.RowKit Go.Maps
set_option linter.unusedVariables false
set_option linter.unusedSimpArgs false
namespace Stt
variable {w0 W W' : World} {d : Wd} {o : Option Wd} {rows : List (Value × List Itm)}
/-- a row that is nil -/
theorem nilrow (h : Stt w0 d o rows W) : Stt w0 d o ((.slice none 0 0, []) :: rows) W := by
  obtain ⟨pv, pv2, h⟩ := h
  refine ⟨pv, pv2, h.wh, h.wo, h.dis, h.bel, h.lo, h.lo2, fun r hr => ?_, List.pairwise_cons.2 ⟨fun r hr b e => by simp [Value.ownBlock] at e, h.apart⟩⟩
  rcases List.mem_cons.1 hr with rfl | hr
  · exact ⟨OwnL.nil _ _, fun b e => by simp [Value.ownBlock] at e⟩
  · exact h.held r hr
theorem sorted (h : Stt w0 d o rows W) : d.S.Pairwise Wh.before := by obtain ⟨pv, h⟩ := h.wh; exact h.sorted
theorem len (h : Stt w0 d o rows W) : d.S.length ≤ 4096 := by obtain ⟨pv, h⟩ := h.wh; exact h.len
theorem cell (h : Stt w0 d o rows W) {b i : Nat} {v : Value} (hb : b < w0.heap.size) (hc : w0.cell? ⟨b, i, none⟩ = some v) : W.cell? ⟨b, i, none⟩ = some v := (h.below.cell (p := ⟨b, i, none⟩) hb).trans hc
end Stt
theorem take_snoc {α : Type} [Inhabited α] {xs : List α} {k : Nat} (hk : k < xs.length) : xs.take (k + 1) = xs.take k ++ [xs.getD k default] := by
  rw [List.take_add_one]
  simp [List.getD, hk]
theorem advE_ok {now to : Int} (h1 : now ≤ to) (h2 : to ≤ 226157759) : advE now to = 0 := by unfold advE; rw [if_neg (by omega)]
theorem advE_ok' {now to : Int} (h : advE now to = 0) : now ≤ to ∧ to ≤ 226157759 := by
  unfold advE at h
  split at h
  · cases h
  · omega
theorem insS_all {now : Int} {xs : List Itm} {S : List Itm} {k : Nat} (hk : k < xs.length) : Wh.insS now (Wh.insAll now S (xs.take k)) (xs.getD k default) = Wh.insAll now S (xs.take (k + 1)) := by
  rw [take_snoc hk, Wh.insAll_snoc]
/-- what a row becomes that has been appended to -/
theorem Stt.appo {w0 W : World} {d : Wd} {o : Option Wd} {rows : List (Value × List Itm)} {v : Value} {l k : List Itm} (h : Stt w0 d o ((v, l) :: rows) W) :
    ∀ v' w', OwnL layW 31 w' w0.heap.size v' (l ++ k) → W.grownBy w' v.ownBlock → (v'.ownBlock = v.ownBlock ∨ v'.ownBlock = some W.heap.size) → ∃ A c, v' = .slice A (l ++ k).length c ∧ Stt w0 d o ((.slice A (l ++ k).length c, l ++ k) :: rows) w' := fun v' w' ho hg h3 => by
  have h1 := h.app ho hg h3
  obtain ⟨A, c, rfl, -, -, -, -⟩ := ho.form
  exact ⟨A, c, rfl, h1⟩
/-- a list in steps, so far -/
structure Part (to : Int) (S : List Itm) (cur : Int) (Sc l : List Itm) : Prop where
  up : l ++ Wh.upto to Sc = Wh.upto to S
  pa : Wh.past to Sc = Wh.past to S
  le : cur ≤ to
theorem Part.step {to : Int} {S : List Itm} {cur : Int} {Sc l : List Itm} (h : Part to S cur Sc l) (hs : Sc.Pairwise Wh.before) {s : Int} (h1 : s ≤ to) : Part to S s (Wh.past s Sc) (l ++ Wh.upto s Sc) :=
  ⟨by rw [List.append_assoc, Wh.upto_upto h1 hs]; exact h.up, by rw [Wh.past_past h1]; exact h.pa, h1⟩
theorem Part.len {to : Int} {S : List Itm} {cur : Int} {Sc l : List Itm} (h : Part to S cur Sc l) (hS : S.length ≤ 4096) : l.length ≤ 4096 := by
  have := congrArg List.length h.up
  have := Wh.split_len to S
  rw [List.length_append] at *
  omega
theorem upto_len (to : Int) (S : List Itm) : (Wh.upto to S).length ≤ S.length := by have := Wh.split_len to S; omega
end Go.Proofs.Ytheocdfccdpmbaa
