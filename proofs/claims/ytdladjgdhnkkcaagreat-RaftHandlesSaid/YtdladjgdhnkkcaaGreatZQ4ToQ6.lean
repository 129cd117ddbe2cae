
/-
  4 texts in one.
  Conditions: stated lemma by lemma.
-/
import Derived.Test.YtdladjgdhnkkcaaGreatZQ2ToQ3
import Derived.Lib.SliceRun
/-
  slices.DeleteFunc at the closure of quorum.Next, on a row of the call's own; slices.Clone of numbers.
  Conditions: the row is the call's own, the closure's variable lies elsewhere.
-/
namespace Go.Proofs.YtdladjgdhnkkcaaGreat
open Go.RowKit
set_option linter.unusedVariables false
set_option linter.unusedSimpArgs false

theorem infoI : (Tryz.prog.info? 3).map (fun i => (i.zero, i.size, i.bytes)) = some (some (.int .i64 0), 1, 8) := by kernel_rfl

theorem OwnL.zeros {k : IntKind} {e : TypeId} {base g n cap : Nat} {w0 : World} : ∀ (m o : Nat) (w : World) (l : List Int), OwnL (layI k) e w base (.slice (some ⟨g, 0, none⟩) n cap) l → w0.grownBy w (some g) →
    ∃ l', OwnL (layI k) e (w.setCells g o (List.replicate m (.int k 0))) base (.slice (some ⟨g, 0, none⟩) n cap) l' ∧ l'.length = l.length ∧ l'.take o = l.take o ∧ w0.grownBy (w.setCells g o (List.replicate m (.int k 0))) (some g)
  | 0, o, w, l, h, hg => ⟨l, h, rfl, rfl, hg⟩
  | m + 1, o, w, l, h, hg => by
    obtain ⟨l', h1, h2, h3, h4⟩ := OwnL.zeros m (o + 1) _ _ (h.put o 0) (grown_set hg o (.int k 0))
    refine ⟨l', h1, by rw [h2, List.length_set], ?_, h4⟩
    have := congrArg (List.take o) h3
    rw [List.take_take, List.take_take, Nat.min_eq_left (by omega)] at this
    rw [this, List.take_set_of_le (by omega)]
theorem OwnL.cut {k : IntKind} {e : TypeId} {w : World} {base g n cap : Nat} {l : List Int} (h : OwnL (layI k) e w base (.slice (some ⟨g, 0, none⟩) n cap) l) (i : Nat) (hi : i ≤ l.length) :
    OwnL (layI k) e w base (.slice (some ⟨g, 0, none⟩) i cap) (l.take i) := by
  rcases h.2 with ⟨e, _⟩ | ⟨g', cap', cur, e, h1, h2, h3, h4, h5, h6⟩
  · cases e
  · injection e with e1 e2 e3
    injection e1 with e1
    injection e1 with e1 _ _
    subst e1; subst e2; subst e3
    have hl : (l.take i).length = i := by rw [List.length_take]; omega
    refine ⟨by rw [Lay.flat_len], .inr ⟨g, cap, cur, by rw [hl], h1, h2, by omega, h4, h5, ?_⟩⟩
    have := congrArg (List.take (i * 1)) h6
    rw [List.take_take, Nat.min_eq_left (by show i * 1 ≤ l.length * 1; omega)] at this
    rw [hl]
    show cur.toList.take (i * 1) = _
    rw [this, flatI, flatI, List.map_take]
    simp

end Go.Proofs.YtdladjgdhnkkcaaGreat

/-
  slices.DeleteFunc at the closure of quorum.Next, on a row of the call's own.
  Conditions: the row is the call's own, the closure's variable lies elsewhere.
-/
namespace Go.Proofs.YtdladjgdhnkkcaaGreat
open Go.RowKit
set_option linter.unusedVariables false
set_option linter.unusedSimpArgs false

namespace Qm
/-- all but r -/
def rest (r : Int) (l : List Int) : List Int := l.filter fun x => !(x == r)
theorem rest_none {r : Int} {l : List Int} (h : r ∉ l) : rest r l = l := by
  unfold rest
  rw [List.filter_eq_self]
  intro x hx
  have : x ≠ r := fun e => h (e ▸ hx)
  simpa using this
theorem rest_step (r : Int) (l : List Int) (k : Nat) (h : k < l.length) : rest r (l.take (k + 1)) = rest r (l.take k) ++ (if l.getD k default = r then [] else [l.getD k default]) := by
  unfold rest
  rw [List.take_succ_eq_append_getElem h, List.filter_append]
  simp only [List.getD, List.getElem?_eq_getElem h, Option.getD_some]
  by_cases hm : l[k] = r <;> simp [hm]
end Qm

end Go.Proofs.YtdladjgdhnkkcaaGreat

/-
  Quorum, plain: sorting, the next configuration, what more than half have reached.
  Conditions: stated lemma by lemma.
-/
namespace Go.Proofs.YtdladjgdhnkkcaaGreat
set_option linter.unusedVariables false
set_option linter.unusedSimpArgs false

namespace Qm
/-- a number put into a rising list -/
def ins (x : Int) : List Int → List Int
  | [] => [x]
  | y :: l => if x ≤ y then x :: y :: l else y :: ins x l
/-- in rising order -/
def srt : List Int → List Int
  | [] => []
  | x :: l => ins x (srt l)
theorem ins_perm (x : Int) : ∀ l, (ins x l).Perm (x :: l)
  | [] => List.Perm.refl _
  | y :: l => by
    unfold ins
    split
    · exact List.Perm.refl _
    · exact ((ins_perm x l).cons y).trans (List.Perm.swap x y l)
theorem srt_perm : ∀ l, (srt l).Perm l
  | [] => List.Perm.refl _
  | x :: l => (ins_perm x (srt l)).trans ((srt_perm l).cons x)
theorem ins_rise (x : Int) : ∀ {l : List Int}, l.Pairwise (· ≤ ·) → (ins x l).Pairwise (· ≤ ·)
  | [], _ => by simp [ins]
  | y :: l, h => by
    unfold ins
    rw [List.pairwise_cons] at h
    split
    · rename_i hxy
      refine List.pairwise_cons.2 ⟨fun z hz => ?_, List.pairwise_cons.2 h⟩
      rcases List.mem_cons.1 hz with rfl | hz
      · exact hxy
      · exact Int.le_trans hxy (h.1 z hz)
    · rename_i hxy
      refine List.pairwise_cons.2 ⟨fun z hz => ?_, ins_rise x h.2⟩
      rcases List.mem_cons.1 ((ins_perm x l).subset hz) with rfl | hz
      · omega
      · exact h.1 z hz
theorem srt_rise : ∀ l, (srt l).Pairwise (· ≤ ·)
  | [] => List.Pairwise.nil
  | x :: l => ins_rise x (srt_rise l)
theorem srt_eq {a l : List Int} (hp : a.Perm l) (hr : a.Pairwise (· ≤ ·)) : a = srt l := rise_eq (hp.trans (srt_perm l).symm) hr (srt_rise l)

theorem asc_lt {p : Int} : ∀ {l : List Int}, asc p l = true → ∀ x ∈ l, p < x
  | [], _, x, hx => by simp at hx
  | y :: l, h, x, hx => by
    simp only [asc, Bool.and_eq_true, decide_eq_true_eq] at h
    rcases List.mem_cons.1 hx with rfl | hx
    · exact h.1
    · have := asc_lt h.2 x hx; omega
theorem chk_asc {l : List Int} (h : chk l = true) : asc 0 l = true ∧ 0 < l.length ∧ l.length ≤ 7 := by
  unfold chk at h
  simp only [Bool.and_eq_true, decide_eq_true_eq] at h
  exact ⟨h.2, h.1.1, h.1.2⟩
/-- what a node has reached -/
def at_ (m : List (Int × Int)) (id : Int) : Int := m.foldl (fun n x => if x.1 = id then x.2 else n) 0
theorem at_snoc (m : List (Int × Int)) (x : Int × Int) (id : Int) : at_ (m ++ [x]) id = if x.1 = id then x.2 else at_ m id := by simp [at_, List.foldl_append]
/-- what more than half of the nodes have reached -/
def reached (conf : List Int) (m : List (Int × Int)) : Int := if chk conf then (srt (conf.map (at_ m))).getD ((conf.length - 1) / 2) 0 else 0
/-- how many of them are no less -/
def atl (A : List Int) (x : Int) : Nat := (A.filter fun y => decide (x ≤ y)).length
theorem atl_perm {A B : List Int} (h : A.Perm B) (x : Int) : atl A x = atl B x := (h.filter _).length_eq
theorem rise_take {s : List Int} (h : s.Pairwise (· ≤ ·)) (k : Nat) (hk : k < s.length) : (∀ y ∈ s.take (k + 1), y ≤ s.getD k 0) ∧ (∀ y ∈ s.drop k, s.getD k 0 ≤ y) := by
  have hp := List.pairwise_iff_getElem.1 h
  have e : s.getD k 0 = s[k] := by simp [List.getD, hk]
  rw [e]
  constructor
  · intro y hy
    obtain ⟨i, hi, rfl⟩ := List.getElem_of_mem hy
    rw [List.length_take] at hi
    rw [List.getElem_take]
    by_cases hik : i = k
    · subst hik; exact Int.le_refl _
    · exact hp i k (by omega) hk (by omega)
  · intro y hy
    obtain ⟨i, hi, rfl⟩ := List.getElem_of_mem hy
    rw [List.length_drop] at hi
    rw [List.getElem_drop]
    by_cases hik : i = 0
    · subst hik; exact Int.le_refl _
    · exact hp k (k + i) hk (by omega) (by omega)
theorem atl_split (s : List Int) (k : Nat) (x : Int) : atl s x = atl (s.take k) x + atl (s.drop k) x := by
  unfold atl
  rw [← List.length_append, ← List.filter_append, List.take_append_drop]
theorem atl_all {s : List Int} {x : Int} (h : ∀ y ∈ s, x ≤ y) : atl s x = s.length := by
  unfold atl
  rw [List.filter_eq_self.2 (fun y hy => by simpa using h y hy)]
theorem atl_none {s : List Int} {x : Int} (h : ∀ y ∈ s, y < x) : atl s x = 0 := by
  unfold atl
  rw [List.length_eq_zero_iff, List.filter_eq_nil_iff]
  intro y hy
  have := h y hy
  simp
  omega
theorem atl_le (s : List Int) (x : Int) : atl s x ≤ s.length := List.length_filter_le _ _
/-- the middle one of them: more than half are no less, and whatever is greater has not more than half -/
theorem mid_one {A : List Int} (h0 : 0 < A.length) : (srt A).getD ((A.length - 1) / 2) 0 ∈ A ∧ A.length < 2 * atl A ((srt A).getD ((A.length - 1) / 2) 0) ∧ ∀ x, (srt A).getD ((A.length - 1) / 2) 0 < x → ¬ A.length < 2 * atl A x := by
  have hl : (srt A).length = A.length := (srt_perm A).length_eq
  have hk : (A.length - 1) / 2 < (srt A).length := by omega
  obtain ⟨t1, t2⟩ := rise_take (srt_rise A) _ hk
  generalize hM : (srt A).getD ((A.length - 1) / 2) 0 = M at *
  refine ⟨?_, ?_, ?_⟩
  · refine (srt_perm A).subset ?_
    rw [← hM]
    simp only [List.getD, List.getElem?_eq_getElem hk, Option.getD_some]
    exact List.getElem_mem hk
  · rw [← atl_perm (srt_perm A), atl_split _ ((A.length - 1) / 2), atl_all t2, List.length_drop]
    omega
  · intro x hx
    rw [← atl_perm (srt_perm A), atl_split _ ((A.length - 1) / 2 + 1), atl_none (fun y hy => by have := t1 y hy; omega)]
    have := atl_le ((srt A).drop ((A.length - 1) / 2 + 1)) x
    rw [List.length_drop] at this
    omega
end Qm
end Go.Proofs.YtdladjgdhnkkcaaGreat

/-
  Contracts of quorum and its reference: At, Ints, Reached.
  Conditions: the lists can be read.
-/
namespace Go.Proofs.YtdladjgdhnkkcaaGreat
open Go.ChangeShapes Go.WideShapes Go.ChangeAt Go.RowKit Go.Deep
set_option linter.unusedVariables false
set_option linter.unusedSimpArgs false

def layIt : Lay (Int × Int) := ⟨2, fun x => [.int .i64 x.1, .int .i64 x.2], fun _ => rfl, by decide, fun x u hu => by simp at hu; rcases hu with rfl | rfl <;> rfl⟩
theorem infoL : (Tryz.prog.info? 2).map (fun i => (i.zero, i.size, i.bytes)) = some (some (.int .i64 0), 1, 8) := by kernel_rfl
theorem RdL.item {w : World} {A : Option Addr} {m : List (Int × Int)} (h : RdL layIt w A m) (i : Nat) (hi : i < m.length) : ∃ b off, A = some ⟨b, off, none⟩ ∧ b < w.heap.size ∧ w.cell? ⟨b, off + i * 2, none⟩ = some (.int .i64 (m.getD i default).1) ∧ w.cell? ⟨b, off + i * 2 + 1, none⟩ = some (.int .i64 (m.getD i default).2) := by
  obtain ⟨b, off, e, hb, hc⟩ := h i hi
  exact ⟨b, off, e, hb, hc 0 _ rfl, hc 1 _ rfl⟩

set_option maxHeartbeats 1000000 in
theorem at_calls (A : Option Addr) (cap : Nat) (m : List (Int × Int)) (id : Int) (w : World) (hR : Hid (RdL layIt w A m)) (hlen : m.length ≤ 4611686018427387904) :
    Calls Tryz.prog 97 #[.slice A m.length cap, .int .i64 id] w fun e w' => e = .returned (.int .i64 (Qm.at_ m id)) ∧ w = w' := by
  obtain ⟨r, hr⟩ : ∃ r, r = Qm.at_ m id := ⟨_, rfl⟩
  rw [← hr]
  have HR := Lib.hid hr
  clear hr
  go_enter Tryz.func97, Tryz.ntmps97
  go_wp2_with fail
  go_loopg [5] m.length (fun g v5 W => W = w ∧ ∃ i : Int, v5 = .int .i64 i ∧ Hid (i = (g : Int) - 1) ∧ g ≤ m.length ∧ Hid (r = Qm.at_ (m.take g) id))
  case atStart => exact ⟨rfl, (m.length : Int) - 1, by go_num, Lib.hid rfl, Nat.le_refl _, Lib.hid (by rw [List.take_length]; exact HR.out)⟩
  case round =>
    obtain ⟨rfl, i, rfl, HIi, hgl, HI⟩ := hrel
    rcases gk with _ | g
    · have hi : i < 0 := by have := HIi.out; omega
      have hr : r = 0 := by rw [HI.out]; rfl
      have HRR := Lib.hid hr
      clear hr
      go_wp2_with fail
      go_ret
      rw [HRR.out]
      exact ⟨rfl, rfl⟩
    · have hig : i = (g : Int) := by have := HIi.out; push_cast at this; omega
      subst hig
      have hgl2 : g < m.length := by omega
      have hgl3 : (g : Int) < (m.length : Int) := by omega
      obtain ⟨b, off, rfl, _, c1, c2⟩ := hR.out.item g hgl2
      have hst : m.take (g + 1) = m.take g ++ [m.getD g default] := by rw [List.take_succ_eq_append_getElem hgl2]; simp [List.getD, hgl2]
      generalize m.getD g default = x at *
      obtain ⟨xi, xa⟩ := x
      simp only at c1 c2
      have hI := HI.out
      rw [hst, Qm.at_snoc] at hI
      simp only at hI
      have HII := Lib.hid hI
      clear hst hI HI HIi
      by_cases hx : xi = id
      · have hr : r = xa := by rw [HII.out, if_pos hx]
        subst hx
        have HRR := Lib.hid hr
        clear hr
        go_wp2_with fail
        go_ret
        rw [HRR.out]
        exact ⟨rfl, rfl⟩
      · have hr : r = Qm.at_ (m.take g) id := by rw [HII.out, if_neg hx]
        have hne : (xi == id) = false := by rw [beq_eq_false_iff_ne]; exact hx
        have HRR := Lib.hid hr
        clear hr hx
        go_wp2_with fail
        go_roundg g
        case rel => exact ⟨rfl, (g : Int) - 1, by go_num, Lib.hid rfl, by omega, HRR⟩
        case measure => omega

set_option maxHeartbeats 1000000 in
theorem qints_calls (A B : Option Addr) (cap cap' : Nat) (a b : List Int) (w : World) (hA : Hid (RdI w A a)) (hla : a.length ≤ 9223372036854775807) (hB : Hid (RdI w B b)) (hlb : b.length ≤ 9223372036854775807) :
    Calls Tryz.prog 33 #[.slice A a.length cap, .slice B b.length cap'] w fun e w' => e = .returned (.bool (decide (a = b))) ∧ Below w.heap.size w w' := by
  obtain ⟨r, hr⟩ : ∃ r, r = decide (a = b) := ⟨_, rfl⟩
  rw [← hr]
  have HR := Lib.hid hr
  clear hr
  by_cases hl : a.length = b.length
  rotate_left
  · have hli : ((a.length : Int) != (b.length : Int)) = true := by rw [bne_iff_ne]; omega
    have hr : r = false := by rw [HR.out, decide_eq_false]; intro e; rw [e] at hl; exact hl rfl
    have HRR := Lib.hid hr
    clear hl hr
    go_enter Tryz.func33, Tryz.ntmps33
    go_wp2_with fail
    go_ret
    exact ⟨ret_bool HRR.out.symm, Below.refl _ _⟩
  have hli : ((a.length : Int) != (b.length : Int)) = false := by rw [hl]; simp
  have HL := Lib.hid hl
  clear hl
  go_enter Tryz.func33, Tryz.ntmps33
  go_wp2_with fail
  go_loopg [5] a.length (fun g v5 W => Below w.heap.size w W ∧ ∃ k : Nat, v5 = .int .i64 k ∧ Hid (k + g = a.length ∧ a.take k = b.take k))
  case atStart => exact ⟨Below.refl _ _, 0, rfl, Lib.hid ⟨by omega, by simp⟩⟩
  case round =>
    obtain ⟨hb, k, rfl, HI⟩ := hrel
    by_cases hlt : k < a.length
    · have hl1 : (k : Int) < (a.length : Int) := by omega
      have hl2 : (k : Int) < (b.length : Int) := by have := HL.out; omega
      have hltb : k < b.length := by have := HL.out; omega
      have hg : 0 < gk := by have := HI.out.1; omega
      obtain ⟨b1, o1, rfl, h1, c1⟩ := hA.out.int k hlt
      obtain ⟨b2, o2, rfl, h2, c2⟩ := hB.out.int k hltb
      replace c1 := (hb.cell (p := ⟨b1, o1 + k, none⟩) h1).trans c1
      replace c2 := (hb.cell (p := ⟨b2, o2 + k, none⟩) h2).trans c2
      have ha : a.take (k + 1) = a.take k ++ [a.getD k default] := by rw [List.take_succ_eq_append_getElem hlt]; simp [List.getD, hlt]
      have hb' : b.take (k + 1) = b.take k ++ [b.getD k default] := by rw [List.take_succ_eq_append_getElem hltb]; simp [List.getD, hltb]
      generalize a.getD k default = x at *
      generalize b.getD k default = y at *
      have HA1 := Lib.hid ha
      have HB1 := Lib.hid hb'
      clear ha hb'
      by_cases hxy : x = y
      · subst hxy
        go_wp2_with fail
        go_quiet (fail)
        go_wp2_with fail
        go_roundg (gk - 1)
        case rel => exact ⟨bel_drewN hb _, k + 1, by go_num, Lib.hid ⟨by have := HI.out.1; omega, by rw [HA1.out, HB1.out, HI.out.2]⟩⟩
        case measure => omega
      · have hne : (x != y) = true := by rw [bne_iff_ne]; exact hxy
        have hr : r = false := by
          rw [HR.out, decide_eq_false]
          intro e
          have h1 := HA1.out
          rw [e, HB1.out] at h1
          exact hxy (by simpa using (List.append_inj' h1 rfl).2.symm)
        have HRR := Lib.hid hr
        clear hr hxy
        go_wp2_with fail
        go_quiet (fail)
        go_wp2_with fail
        go_ret
        exact ⟨ret_bool HRR.out.symm, bel_drewN hb _⟩
    · have hl1 : ¬ (k : Int) < (a.length : Int) := by omega
      have hr : r = true := by
        have hk : k = a.length := by have := HI.out.1; omega
        have h2 := HI.out.2
        rw [hk, List.take_length, HL.out, List.take_length] at h2
        rw [HR.out, decide_eq_true h2]
      have HRR := Lib.hid hr
      clear hr hlt
      go_wp2_with fail
      go_ret
      exact ⟨ret_bool HRR.out.symm, hb⟩
end Go.Proofs.YtdladjgdhnkkcaaGreat
