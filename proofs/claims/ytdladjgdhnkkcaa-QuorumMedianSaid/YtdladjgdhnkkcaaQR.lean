/-
  Quorum, plain: two sets that win have a node in common; what the middle one tells; a node added and removed again.
  Conditions: stated lemma by lemma.
-/
import Derived.Test.YtdladjgdhnkkcaaQ10
namespace Go.Proofs.Ytdladjgdhnkkcaa
set_option linter.unusedVariables false
set_option linter.unusedSimpArgs false

namespace Qm
def any2 (l a b : List Int) : Bool := l.any fun c => decide (c ∈ a) && decide (c ∈ b)
theorem cnt_sum {a b : List Int} : ∀ {l : List Int}, any2 l a b = false → cnt l a + cnt l b ≤ l.length
  | [], _ => by simp [cnt]
  | c :: l, h => by
    unfold any2 at h
    rw [List.any_cons, Bool.or_eq_false_iff] at h
    have ih := cnt_sum (a := a) (b := b) (l := l) h.2
    have h1 := h.1
    unfold cnt at ih ⊢
    rw [List.filter_cons, List.filter_cons]
    by_cases ha : c ∈ a
    · have hb : c ∉ b := fun hb => by simp [ha, hb] at h1
      simp only [ha, hb, decide_true, decide_false, if_true, Bool.false_eq_true, if_false, List.length_cons]
      omega
    · by_cases hb : c ∈ b
      · simp only [ha, hb, decide_true, decide_false, if_true, Bool.false_eq_true, if_false, List.length_cons]
        omega
      · simp only [ha, hb, decide_false, Bool.false_eq_true, if_false, List.length_cons]
        omega
theorem wins_cnt {l s : List Int} (h : wins l s = true) : chk l = true ∧ l.length < 2 * cnt l s := by
  unfold wins at h
  simpa using h
/-- two that win over one have a node in common -/
theorem meets_one {l a b : List Int} (h1 : wins l a = true) (h2 : wins l b = true) : any2 l a b = true := by
  rcases hn : any2 l a b with _ | _
  · have := cnt_sum hn
    have := (wins_cnt h1).2
    have := (wins_cnt h2).2
    omega
  · rfl
theorem cnt_perm {l m : List Int} (h : l.Perm m) (s : List Int) : cnt l s = cnt m s := (h.filter _).length_eq
theorem cnt_app (l m s : List Int) : cnt (l ++ m) s = cnt l s + cnt m s := by unfold cnt; rw [List.filter_append, List.length_append]
theorem cnt_rest (r : Int) (l s : List Int) : cnt (rest r l) s ≤ cnt l s := (((List.filter_sublist (l := l) (p := fun x => !(x == r))).filter _)).length_le
theorem rest_asc {p : Int} (r : Int) : ∀ {l : List Int}, asc p l = true → l.length ≤ (rest r l).length + 1
  | [], _ => by simp
  | x :: l, h => by
    simp only [asc, Bool.and_eq_true, decide_eq_true_eq] at h
    by_cases hx : x = r
    · have hn : r ∉ l := fun hm => by have := asc_lt h.2 r hm; omega
      have e : rest r (x :: l) = rest r l := by unfold rest; rw [List.filter_cons_of_neg (by simp [hx])]
      rw [e, rest_none hn]; simp
    · have e : rest r (x :: l) = x :: rest r l := by unfold rest; rw [List.filter_cons_of_pos (by simp [hx])]
      have := rest_asc r h.2
      rw [e]; simp only [List.length_cons]; omega
theorem chk_pos {l : List Int} (h : chk l = true) : ∀ x ∈ l, 0 < x := asc_lt (chk_asc h).1
theorem nxt_some {l x : List Int} {add remove : Int} (h : nxt l add remove = some x) :
    chk l = true ∧ 0 ≤ add ∧ 0 ≤ remove ∧ add ∉ l ∧ (0 < remove → remove ∈ l) ∧ chk x = true ∧ x = srt (rest remove (if 0 < add then l ++ [add] else l)) := by
  unfold nxt at h
  generalize srt (rest remove (if 0 < add then l ++ [add] else l)) = y at *
  split at h
  · cases h
  · rename_i h1
    split at h
    · rename_i h2
      injection h with h
      refine ⟨?_, by omega, by omega, fun hm => h1 (.inr (.inr (.inr (.inl hm)))), fun hr => ?_, h ▸ h2, h.symm⟩
      · rcases hc : chk l with _ | _
        · exact absurd (.inl hc) h1
        · rfl
      · by_cases hm : remove ∈ l
        · exact hm
        · exact absurd (.inr (.inr (.inr (.inr ⟨hr, hm⟩)))) h1
    · cases h
theorem nxt_is {l : List Int} {add remove : Int} (h1 : chk l = true) (h2 : 0 ≤ add) (h3 : 0 ≤ remove) (h4 : add ∉ l) (h5 : 0 < remove → remove ∈ l) :
    nxt l add remove = if chk (srt (rest remove (if 0 < add then l ++ [add] else l))) then some (srt (rest remove (if 0 < add then l ++ [add] else l))) else none := by
  unfold nxt
  rw [if_neg]
  rintro (h | h | h | h | ⟨h, h'⟩)
  · rw [h1] at h; cases h
  · omega
  · omega
  · exact h4 h
  · exact h' (h5 h)
/-- so have two that win over neighbouring ones -/
theorem meets_next {l a b x : List Int} {add remove : Int} (h0 : add = 0 ∨ remove = 0) (hx : nxt l add remove = some x) (h1 : wins l a = true) (h2 : wins x b = true) : any2 l a b = true := by
  obtain ⟨g1, g2, g3, g4, g5, g6, rfl⟩ := nxt_some hx
  have w1 := (wins_cnt h1).2
  have w2 := (wins_cnt h2).2
  rcases hn : any2 l a b with _ | _
  rotate_left
  · rfl
  exfalso
  have hs := cnt_sum hn
  have hpos := chk_pos g1
  have h0n : (0 : Int) ∉ l := fun hm => by have := hpos 0 hm; omega
  rw [cnt_perm (srt_perm _), (srt_perm _).length_eq] at w2
  by_cases ha : 0 < add
  · have hr : remove = 0 := by omega
    subst hr
    rw [if_pos ha, rest_none (by simp; exact ⟨h0n, by omega⟩), cnt_app] at w2
    have : cnt [add] b ≤ 1 := cnt_le _ _
    simp at w2
    omega
  · rw [if_neg ha] at w2
    have := cnt_rest remove l b
    have := rest_asc remove (chk_asc g1).1
    omega
/-- more nodes -/
theorem cnt_more (l s m : List Int) : cnt l s ≤ cnt l (s ++ m) := by
  induction l with
  | nil => simp [cnt]
  | cons c l ih =>
    unfold cnt at ih ⊢
    simp only [List.mem_append] at ih ⊢
    rw [List.filter_cons, List.filter_cons]
    by_cases h : c ∈ s
    · simp only [h, List.mem_append, true_or, decide_true, if_true, List.length_cons]; omega
    · by_cases h2 : c ∈ m
      · simp only [h, h2, List.mem_append, or_true, decide_true, decide_false, if_true, Bool.false_eq_true, if_false, List.length_cons]; omega
      · simp only [h, h2, List.mem_append, or_self, decide_false, Bool.false_eq_true, if_false]; omega
theorem wins_more {l s : List Int} (m : List Int) (h : wins l s = true) : wins l (s ++ m) = true := by
  obtain ⟨h1, h2⟩ := wins_cnt h
  have := cnt_more l s m
  unfold wins
  rw [h1, decide_eq_true (by omega)]; rfl
/-- the others -/
def oth (l s : List Int) : List Int := l.filter fun c => !decide (c ∈ s)
theorem oth_step (s l : List Int) (k : Nat) (h : k < l.length) : oth (l.take (k + 1)) s = oth (l.take k) s ++ (if l.getD k default ∈ s then [] else [l.getD k default]) := by
  unfold oth
  rw [List.take_succ_eq_append_getElem h, List.filter_append]
  simp only [List.getD, List.getElem?_eq_getElem h, Option.getD_some]
  by_cases hm : l[k] ∈ s <;> simp [hm]
theorem oth_len (l s : List Int) : (oth l s).length ≤ l.length := List.length_filter_le _ _
theorem any2_oth (l s : List Int) : any2 l s (oth l s) = false := by
  unfold any2 oth
  rw [List.any_eq_false]
  intro c hc
  by_cases h : c ∈ s <;> simp [h]
theorem wins_rest {l s : List Int} (h : wins l s = true) : wins l (oth l s) = false := by
  rcases hw : wins l (oth l s) with _ | _
  · rfl
  · have := meets_one h hw
    rw [any2_oth] at this
    cases this
theorem wins_self (l : List Int) : wins l l = chk l := by
  have hc : cnt l l = l.length := by
    unfold cnt
    rw [List.filter_eq_self.2 (fun c hc => by simp [hc])]
  unfold wins
  rcases h : chk l with _ | _
  · rfl
  · have := (chk_asc h).2.1
    rw [hc, decide_eq_true (by omega)]; rfl
/-- those that have reached n -/
def upto (F : Int → Int) (l : List Int) (n : Int) : List Int := l.filter fun c => decide (n ≤ F c)
theorem upto_step (F : Int → Int) (l : List Int) (n : Int) (k : Nat) (h : k < l.length) : upto F (l.take (k + 1)) n = upto F (l.take k) n ++ (if n ≤ F (l.getD k default) then [l.getD k default] else []) := by
  unfold upto
  rw [List.take_succ_eq_append_getElem h, List.filter_append]
  simp only [List.getD, List.getElem?_eq_getElem h, Option.getD_some]
  by_cases hm : n ≤ F l[k] <;> simp [hm]
theorem upto_len (F : Int → Int) (l : List Int) (n : Int) : (upto F l n).length ≤ l.length := List.length_filter_le _ _
theorem cnt_upto (F : Int → Int) (l : List Int) (n : Int) : cnt l (upto F l n) = atl (l.map F) n := by
  unfold cnt atl
  rw [List.filter_map, List.length_map]
  congr 1
  apply List.filter_congr
  intro c hc
  unfold upto
  by_cases h : n ≤ F c <;> simp [h, hc]
theorem med_now {l : List Int} {m : List (Int × Int)} (h : chk l = true) : wins l (upto (at_ m) l (reached l m)) = true := by
  have h0 : 0 < (l.map (at_ m)).length := by rw [List.length_map]; exact (chk_asc h).2.1
  obtain ⟨_, m2, _⟩ := mid_one h0
  unfold wins
  rw [h, cnt_upto]
  unfold reached
  rw [if_pos h, decide_eq_true (by rw [List.length_map] at m2; exact m2)]; rfl
theorem med_more {l : List Int} {m : List (Int × Int)} (h : chk l = true) : wins l (upto (at_ m) l (reached l m + 1)) = false := by
  have h0 : 0 < (l.map (at_ m)).length := by rw [List.length_map]; exact (chk_asc h).2.1
  obtain ⟨_, _, m3⟩ := mid_one h0
  unfold wins
  rw [cnt_upto]
  unfold reached
  rw [if_pos h]
  rw [List.length_map] at m3
  rw [decide_eq_false (m3 _ (by omega)), Bool.and_false]
theorem reached_none {l : List Int} {m : List (Int × Int)} (h : chk l = false) : reached l m = 0 := by
  unfold reached
  rw [h]; rfl
theorem asc_srt {l : List Int} (h : chk l = true) : srt l = l := (srt_eq (List.Perm.refl _) (asc_rise (chk_asc h).1)).symm
/-- added, then removed -/
theorem back_add {l x : List Int} {n : Int} (h0 : 0 < n) (h : nxt l n 0 = some x) : nxt x 0 n = some l ∧ x.length = l.length + 1 ∧ chk x = true := by
  obtain ⟨g1, g2, g3, g4, g5, g6, g7⟩ := nxt_some h
  have hpos := chk_pos g1
  have h0n : (0 : Int) ∉ l := fun hm => by have := hpos 0 hm; omega
  rw [if_pos h0, rest_none (by simp; exact ⟨h0n, by omega⟩)] at g7
  have hp : x.Perm (l ++ [n]) := by rw [g7]; exact srt_perm _
  have hx0 : (0 : Int) ∉ x := fun hm => by have := chk_pos g6 0 hm; omega
  have hxn : n ∈ x := hp.symm.subset (by simp)
  refine ⟨?_, by rw [hp.length_eq]; simp, g6⟩
  rw [nxt_is g6 (by omega) (by omega) hx0 (fun _ => hxn), if_neg (Int.lt_irrefl 0)]
  have he : srt (rest n x) = l := by
    have hp2 : (rest n x).Perm l := by
      have h1 : (rest n x).Perm (rest n (l ++ [n])) := hp.filter _
      have h2 : rest n (l ++ [n]) = l := by
        unfold rest
        rw [List.filter_append]
        have h3 : (l.filter fun y => !(y == n)) = l := rest_none g4
        rw [h3]; simp
      rw [h2] at h1; exact h1
    exact (srt_eq ((srt_perm _).trans hp2) (srt_rise _)).trans (asc_srt g1)
  rw [he, if_pos g1]
/-- removed, then added -/
theorem back_rem {l x : List Int} {n : Int} (h0 : 0 < n) (h : nxt l 0 n = some x) : nxt x n 0 = some l := by
  obtain ⟨g1, g2, g3, g4, g5, g6, g7⟩ := nxt_some h
  rw [if_neg (Int.lt_irrefl 0)] at g7
  have hp : x.Perm (rest n l) := by rw [g7]; exact srt_perm _
  have hxn : n ∉ x := fun hm => by have := hp.subset hm; simp [rest] at this
  have hx0 : (0 : Int) ∉ x := fun hm => by have := chk_pos g6 0 hm; omega
  rw [nxt_is g6 (by omega) (by omega) hxn (fun h => by omega), if_pos h0, rest_none (by simp; exact ⟨hx0, by omega⟩)]
  have he : srt (x ++ [n]) = l := by
    have hnl := g5 h0
    have hnd : (rest n l).length + 1 = l.length := by
      have h1 := rest_asc n (chk_asc g1).1
      have h2 : (rest n l).length < l.length := by
        unfold rest
        rcases Nat.lt_or_ge (l.filter fun x => !(x == n)).length l.length with h | h
        · exact h
        · have := (List.filter_sublist (l := l) (p := fun x => !(x == n))).eq_of_length_le h
          have := List.filter_eq_self.1 this n hnl
          simp at this
      omega
    have hp2 : (x ++ [n]).Perm l := by
      refine (List.Perm.append_right [n] hp).trans ?_
      have hnd2 : l.Nodup := by
        have : ∀ {p : Int} {l : List Int}, asc p l = true → l.Nodup := by
          intro p l
          induction l generalizing p with
          | nil => intro _; simp
          | cons y l ih =>
            intro h
            simp only [asc, Bool.and_eq_true, decide_eq_true_eq] at h
            exact List.nodup_cons.2 ⟨fun hm => by have := asc_lt h.2 y hm; omega, ih h.2⟩
        exact this (chk_asc g1).1
      have hnd3 : (rest n l ++ [n]).Nodup := by
        rw [List.nodup_append]
        refine ⟨hnd2.filter _, by simp, fun a ha b hb e => ?_⟩
        have hb' : b = n := by simpa using hb
        rw [e, hb'] at ha
        simp [rest] at ha
      refine (List.perm_ext_iff_of_nodup hnd3 hnd2).2 fun a => ?_
      by_cases han : a = n
      · subst han; simp [hnl]
      · simp [rest, han]
    exact (srt_eq ((srt_perm _).trans hp2) (srt_rise _)).trans (asc_srt g1)
  rw [he, if_pos g1]
/-- nothing to do -/
theorem nxt_zero {l x : List Int} (h : nxt l 0 0 = some x) : x = l := by
  obtain ⟨g1, g2, g3, g4, g5, g6, g7⟩ := nxt_some h
  rw [if_neg (Int.lt_irrefl 0), rest_none g4, asc_srt g1] at g7
  exact g7
end Qm
end Go.Proofs.Ytdladjgdhnkkcaa
