
/-
  Goroutine 0 beside leavers: insertion sort.
  Conditions: stated lemma by lemma.
-/
import Derived.Test.YtboiolnnhmlieaaGc10
import Derived.Test.YtboiolnnhmlieaaGb15
namespace Go.Proofs.Ytboiolnnhmlieaa.Gang
open Go.Conc Go.ConcN Go.RowKit Go.Conc.Lib Go.ConcR.Gen Go.ConcN.Gen
set_option linter.unusedVariables false
set_option linter.unusedSimpArgs false
/-- the number at place j goes down to where it belongs -/
def insAt : Nat → (Nat → Int) → Nat → Int
  | 0, f => f
  | j + 1, f => if f (j + 1) < f j then insAt j (upd (upd f (j + 1) (f j)) j (f (j + 1))) else f
/-- the first k + 1 numbers in order -/
def isort : Nat → (Nat → Int) → Nat → Int
  | 0, f => f
  | k + 1, f => insAt (k + 1) (isort k f)
noncomputable def out74 : Code := match Try.f74.body.getD .skip with | .seq _ (.block _ (.loop c)) => c | _ => .skip
noncomputable def in74 : Code := match out74 with | .seq _ (.seq (.block _ (.seq _ (.block _ (.loop c)))) _) => c | _ => .skip
section
variable {X : Cx} {A N cap : Nat}
set_option maxRecDepth 100000 in
set_option maxHeartbeats 8000000 in
theorem ins_loop (hA : X.free A) (hN : N ≤ 1099511627776) {i : Nat} {K : List Item} {cs : List Frame} : ∀ (j : Nat) (f : Nat → Int) (w : World), j < N → ArrAt A N f w →
    (∀ (w' : World) (y7 y3 y4 y5 y8 y9 y10 y11 y12 y13 y14 y15 y16 y17 y18 y19 y20 y21 y22 y23 y24 y25 y26 y27 y28 y29 y30 y31 y32 y33 y34 y35 y36 y37 y38 y39 y40 y41 y42 y43 y44 y45 y46 y47 y48 : Value), ArrAt A N (insAt j f) w' → Aside A w w' → Run Try.prog X (G ((base 74).at ⟨#[.slice (some ⟨A, 0, none⟩) N cap, .int .i64 0, .int .i64 (N : Int), y3, y4, y5, .int .i64 (i : Int), y7, y8, y9, y10, y11, y12, y13, y14, y15, y16, y17, y18, y19, y20, y21, y22, y23, y24, y25, y26, y27, y28, y29, y30, y31, y32, y33, y34, y35, y36, y37, y38, y39, y40, y41, y42, y43, y44, y45, y46, y47, y48], []⟩ K) cs) w') → ∀ (y3 y4 y5 y8 y9 y10 y11 y12 y13 y14 y15 y16 y17 y18 y19 y20 y21 y22 y23 y24 y25 y26 y27 y28 y29 y30 y31 y32 y33 y34 y35 y36 y37 y38 y39 y40 y41 y42 y43 y44 y45 y46 y47 y48 : Value),
    Run Try.prog X (G ((base 74).at ⟨#[.slice (some ⟨A, 0, none⟩) N cap, .int .i64 0, .int .i64 (N : Int), y3, y4, y5, .int .i64 (i : Int), .int .i64 (j : Int), y8, y9, y10, y11, y12, y13, y14, y15, y16, y17, y18, y19, y20, y21, y22, y23, y24, y25, y26, y27, y28, y29, y30, y31, y32, y33, y34, y35, y36, y37, y38, y39, y40, y41, y42, y43, y44, y45, y46, y47, y48], []⟩ (.code in74 :: .inLoop in74 :: .inBlock 2 :: K)) cs) w := by
  intro j
  induction j with
  | zero =>
    intro f w hj h hK y3 y4 y5 y8 y9 y10 y11 y12 y13 y14 y15 y16 y17 y18 y19 y20 y21 y22 y23 y24 y25 y26 y27 y28 y29 y30 y31 y32 y33 y34 y35 y36 y37 y38 y39 y40 y41 y42 y43 y44 y45 y46 y47 y48
    have hK := fun y7 y3 y4 y5 y8 y9 y10 y11 y12 y13 y14 y15 y16 y17 y18 y19 y20 y21 y22 y23 y24 y25 y26 y27 y28 y29 y30 y31 y32 y33 y34 y35 y36 y37 y38 y39 y40 y41 y42 y43 y44 y45 y46 y47 y48 => hK w y7 y3 y4 y5 y8 y9 y10 y11 y12 y13 y14 y15 y16 y17 y18 y19 y20 y21 y22 y23 y24 y25 y26 y27 y28 y29 y30 y31 y32 y33 y34 y35 y36 y37 y38 y39 y40 y41 y42 y43 y44 y45 y46 y47 y48 h (Aside.refl A w)
    clear h
    simp only [in74, out74, Try.f74, Option.getD_some]
    repeat first
      | refine Run.seq ?_
      | refine Run.skip ?_
      | refine Run.regionEnd ?_
      | refine Run.block ?_
      | refine Run.inBlock ?_
      | (refine Run.region ?_; simp only [List.size_toArray, List.length_cons, List.length_nil, Nat.reduceAdd, Nat.zero_add, List.range, List.range.loop])
      | (refine Run.cond rfl ?_; simp only [if_true, if_false, Bool.false_eq_true, ↓reduceIte])
      | (refine Run.unwanted rfl rfl ?_; walk_nrm)
      | (refine Run.op0 rfl rfl (by k_ne) (fun d K hK => by go_simp; exact hK) (fun d => by first | (simp [go_sem, *] <;> fail) | fail) ?_; try w_num)
      | refine Run.ret ?_
      | refine Run.fin ?_
      | refine Run.exit rfl ?_
    refine Run.drawS (by k_ne) rfl (fun a' w' => w' = w ∧ a' = ⟨#[.slice (some ⟨A, 0, none⟩) N cap, .int .i64 0, .int .i64 (N : Int), y3, y4, y5, .int .i64 (i : Int), .int .i64 ((0 : Nat) : Int), y8, y9, y10, y11, y12, y13, y14, y15, .int .i64 ((0 : Nat) : Int), .int .i64 0, .bool false, .bool false, undef, undef, undef, undef, undef, undef, undef, undef, undef, undef, .bool false, y31, y32, y33, y34, y35, y36, y37, y38, y39, y40, y41, y42, y43, y44, y45, y46, y47, y48], []⟩) (fun _ w' => w' = w) ?_ (fun a' w' hq => ?_)
    · simp only [List.size_toArray, List.length_cons, List.length_nil, Nat.reduceAdd, Nat.zero_add]
      refine anyS_take (i' := 0) rfl (by kernel_rfl) (by kernel_rfl) (by kernel_rfl) (by kernel_rfl) rfl (by kernel_rfl) (fun _ _ h => h) (fun l' w' hg hp hs => by
        skip
        exact .inl ⟨rfl, fun d => ⟨by go_simp; rfl, fun e he => by simp [go_sem, *] at he⟩⟩) ?_
      walk_nrm
      refine anyS_take (i' := 1) rfl (by kernel_rfl) (by kernel_rfl) (by kernel_rfl) (by kernel_rfl) rfl (by kernel_rfl) (fun _ _ h => h) (fun l' w' hg hp hs => by
        skip
        exact .inl ⟨rfl, fun d => ⟨by go_simp; rfl, fun e he => by simp [go_sem, *] at he⟩⟩) ?_
      walk_nrm
      refine anyS_take (i' := 2) rfl (by kernel_rfl) (by kernel_rfl) (by kernel_rfl) (by kernel_rfl) rfl (by kernel_rfl) (fun _ _ h => h) (fun l' w' hg hp hs => by
        skip
        exact .inl ⟨rfl, fun d => ⟨by go_simp; rfl, fun e he => by simp [go_sem, *] at he⟩⟩) ?_
      walk_nrm
      refine anyS_take (i' := 3) rfl (by kernel_rfl) (by kernel_rfl) (by kernel_rfl) (by kernel_rfl) rfl (by kernel_rfl) (fun _ _ h => h) (fun l' w' hg hp hs => by
        skip
        exact .inl ⟨rfl, fun d => ⟨by go_simp; rfl, fun e he => by simp [go_sem, *] at he⟩⟩) ?_
      walk_nrm
      refine anyS_take (i' := 4) rfl (by kernel_rfl) (by kernel_rfl) (by kernel_rfl) (by kernel_rfl) rfl (by kernel_rfl) (fun _ _ h => h) (fun l' w' hg hp hs => .inr ⟨rfl, rfl⟩) ?_
      walk_nrm
      refine anyS_take (i' := 5) rfl (by kernel_rfl) (by kernel_rfl) (by kernel_rfl) (by kernel_rfl) rfl (by kernel_rfl) (fun _ _ h => h) (fun l' w' hg hp hs => .inr ⟨rfl, rfl⟩) ?_
      walk_nrm
      refine anyS_take (i' := 6) rfl (by kernel_rfl) (by kernel_rfl) (by kernel_rfl) (by kernel_rfl) rfl (by kernel_rfl) (fun _ _ h => h) (fun l' w' hg hp hs => .inr ⟨rfl, rfl⟩) ?_
      walk_nrm
      refine anyS_take (i' := 7) rfl (by kernel_rfl) (by kernel_rfl) (by kernel_rfl) (by kernel_rfl) rfl (by kernel_rfl) (fun _ _ h => h) (fun l' w' hg hp hs => .inr ⟨rfl, rfl⟩) ?_
      walk_nrm
      refine anyS_take (i' := 8) rfl (by kernel_rfl) (by kernel_rfl) (by kernel_rfl) (by kernel_rfl) rfl (by kernel_rfl) (fun _ _ h => h) (fun l' w' hg hp hs => .inr ⟨rfl, rfl⟩) ?_
      walk_nrm
      refine anyS_take (i' := 9) rfl (by kernel_rfl) (by kernel_rfl) (by kernel_rfl) (by kernel_rfl) rfl (by kernel_rfl) (fun _ _ h => h) (fun l' w' hg hp hs => .inr ⟨rfl, rfl⟩) ?_
      walk_nrm
      refine anyS_take (i' := 10) rfl (by kernel_rfl) (by kernel_rfl) (by kernel_rfl) (by kernel_rfl) rfl (by kernel_rfl) (fun _ _ h => h) (fun l' w' hg hp hs => .inr ⟨rfl, rfl⟩) ?_
      walk_nrm
      refine anyS_take (i' := 11) rfl (by kernel_rfl) (by kernel_rfl) (by kernel_rfl) (by kernel_rfl) rfl (by kernel_rfl) (fun _ _ h => h) (fun l' w' hg hp hs => .inr ⟨rfl, rfl⟩) ?_
      walk_nrm
      refine anyS_take (i' := 12) rfl (by kernel_rfl) (by kernel_rfl) (by kernel_rfl) (by kernel_rfl) rfl (by kernel_rfl) (fun _ _ h => h) (fun l' w' hg hp hs => .inr ⟨rfl, rfl⟩) ?_
      walk_nrm
      refine anyS_take (i' := 13) rfl (by kernel_rfl) (by kernel_rfl) (by kernel_rfl) (by kernel_rfl) rfl (by kernel_rfl) (fun _ _ h => h) (fun l' w' hg hp hs => .inr ⟨rfl, rfl⟩) ?_
      walk_nrm
      refine anyS_take (i' := 14) rfl (by kernel_rfl) (by kernel_rfl) (by kernel_rfl) (by kernel_rfl) rfl (by kernel_rfl) (fun _ _ h => h) (fun l' w' hg hp hs => by
        skip
        exact .inl ⟨rfl, fun d => ⟨by go_simp; rfl, fun e he => by simp [go_sem, *] at he⟩⟩) ?_
      walk_nrm
      exact anyS_done (by kernel_rfl) rfl ⟨rfl, rfl⟩
    · obtain ⟨rfl, rfl⟩ := hq
      repeat first
        | refine Run.seq ?_
        | refine Run.skip ?_
        | refine Run.regionEnd ?_
        | refine Run.block ?_
        | refine Run.inBlock ?_
        | (refine Run.region ?_; simp only [List.size_toArray, List.length_cons, List.length_nil, Nat.reduceAdd, Nat.zero_add, List.range, List.range.loop])
        | (refine Run.cond rfl ?_; simp only [if_true, if_false, Bool.false_eq_true, ↓reduceIte])
        | (refine Run.unwanted rfl rfl ?_; walk_nrm)
        | (refine Run.op0 rfl rfl (by k_ne) (fun d K hK => by go_simp; exact hK) (fun d => by first | (simp [go_sem, *] <;> fail) | fail) ?_; try w_num)
        | refine Run.ret ?_
        | refine Run.fin ?_
        | refine Run.exit rfl ?_
      exact hK _ _ _ _ _ _ _ _ _ _ _ _ _ _ _ _ _ _ _ _ _ _ _ _ _ _ _ _ _ _ _ _ _ _ _ _ _ _ _ _ _ _ _ _ _
  | succ m ih =>
    intro f w hj h hK y3 y4 y5 y8 y9 y10 y11 y12 y13 y14 y15 y16 y17 y18 y19 y20 y21 y22 y23 y24 y25 y26 y27 y28 y29 y30 y31 y32 y33 y34 y35 y36 y37 y38 y39 y40 y41 y42 y43 y44 y45 y46 y47 y48
    obtain ⟨j, hjm⟩ : ∃ j, j = m + 1 := ⟨_, rfl⟩
    rw [← hjm] at hj hK ⊢
    have cj := h.cell hj
    have cm := h.cell (k := m) (by omega)
    have hji : (j : Int) < (N : Int) := by omega
    have hmi : (m : Int) < (N : Int) := by omega
    have d1 : decide ((0 : Int) < (j : Int)) = true := decide_eq_true (by omega)
    have d2 : decide (0 < j) = true := decide_eq_true (by omega)
    have hw : IntKind.i64.wrap ((j : Int) - 1) = (m : Int) := by rw [IntKind.wrap_i64]; omega
    have hins : insAt j f = if f j < f m then insAt m (upd (upd f j (f m)) m (f j)) else f := by rw [hjm]; rfl
    have tj := h.thaw j
    have tm := h.thaw m
    have hne : j ≠ m := by omega
    simp only [in74, out74, Try.f74, Option.getD_some] at ih ⊢
    clear hjm
    repeat first
      | refine Run.seq ?_
      | refine Run.skip ?_
      | refine Run.regionEnd ?_
      | refine Run.block ?_
      | refine Run.inBlock ?_
      | (refine Run.region ?_; simp only [List.size_toArray, List.length_cons, List.length_nil, Nat.reduceAdd, Nat.zero_add, List.range, List.range.loop])
      | (refine Run.cond rfl ?_; simp only [if_true, if_false, Bool.false_eq_true, ↓reduceIte])
      | (refine Run.unwanted rfl rfl ?_; walk_nrm)
      | (refine Run.op0 rfl rfl (by k_ne) (fun d K hK => by go_simp; exact hK) (fun d => by first | (simp [go_sem, *] <;> fail) | fail) ?_; try w_num)
      | refine Run.ret ?_
      | refine Run.fin ?_
      | refine Run.exit rfl ?_
    refine Run.drawS (by k_ne) rfl (fun a' w' => w' = w ∧ a' = ⟨#[.slice (some ⟨A, 0, none⟩) N cap, .int .i64 0, .int .i64 (N : Int), y3, y4, y5, .int .i64 (i : Int), .int .i64 (j : Int), y8, y9, y10, y11, y12, y13, y14, y15, .int .i64 (j : Int), .int .i64 0, .bool true, .bool true, .slice (some ⟨A, 0, none⟩) N cap, .int .i64 (j : Int), .pointer (some ⟨A, j, none⟩), .int .i64 (f j), .slice (some ⟨A, 0, none⟩) N cap, .int .i64 (j : Int), .int .i64 (m : Int), .pointer (some ⟨A, m, none⟩), .int .i64 (f m), .bool (decide (f j < f m)), .bool (decide (f j < f m)), y31, y32, y33, y34, y35, y36, y37, y38, y39, y40, y41, y42, y43, y44, y45, y46, y47, y48], []⟩) (fun _ w' => w' = w) ?_ (fun a' w' hq => ?_)
    · simp only [List.size_toArray, List.length_cons, List.length_nil, Nat.reduceAdd, Nat.zero_add]
      refine anyS_take (i' := 0) rfl (by kernel_rfl) (by kernel_rfl) (by kernel_rfl) (by kernel_rfl) rfl (by kernel_rfl) (fun _ _ h => h) (fun l' w' hg hp hs => by
        have k1 : w'.cell? ⟨A, j, none⟩ = some (.int .i64 (f j)) := by rw [show w' = w from hs]; exact cj
        have k2 : w'.cell? ⟨A, m, none⟩ = some (.int .i64 (f m)) := by rw [show w' = w from hs]; exact cm
        exact .inl ⟨rfl, fun d => ⟨by go_simp; rfl, fun e he => by simp [go_sem, *] at he⟩⟩) ?_
      walk_nrm
      refine anyS_take (i' := 1) rfl (by kernel_rfl) (by kernel_rfl) (by kernel_rfl) (by kernel_rfl) rfl (by kernel_rfl) (fun _ _ h => h) (fun l' w' hg hp hs => by
        have k1 : w'.cell? ⟨A, j, none⟩ = some (.int .i64 (f j)) := by rw [show w' = w from hs]; exact cj
        have k2 : w'.cell? ⟨A, m, none⟩ = some (.int .i64 (f m)) := by rw [show w' = w from hs]; exact cm
        exact .inl ⟨rfl, fun d => ⟨by go_simp; rfl, fun e he => by simp [go_sem, *] at he⟩⟩) ?_
      walk_nrm
      refine anyS_take (i' := 2) rfl (by kernel_rfl) (by kernel_rfl) (by kernel_rfl) (by kernel_rfl) rfl (by kernel_rfl) (fun _ _ h => h) (fun l' w' hg hp hs => by
        have k1 : w'.cell? ⟨A, j, none⟩ = some (.int .i64 (f j)) := by rw [show w' = w from hs]; exact cj
        have k2 : w'.cell? ⟨A, m, none⟩ = some (.int .i64 (f m)) := by rw [show w' = w from hs]; exact cm
        exact .inl ⟨rfl, fun d => ⟨by go_simp; rfl, fun e he => by simp [go_sem, *] at he⟩⟩) ?_
      walk_nrm
      refine anyS_take (i' := 3) rfl (by kernel_rfl) (by kernel_rfl) (by kernel_rfl) (by kernel_rfl) rfl (by kernel_rfl) (fun _ _ h => h) (fun l' w' hg hp hs => by
        have k1 : w'.cell? ⟨A, j, none⟩ = some (.int .i64 (f j)) := by rw [show w' = w from hs]; exact cj
        have k2 : w'.cell? ⟨A, m, none⟩ = some (.int .i64 (f m)) := by rw [show w' = w from hs]; exact cm
        exact .inl ⟨rfl, fun d => ⟨by go_simp; rfl, fun e he => by simp [go_sem, *] at he⟩⟩) ?_
      walk_nrm
      refine anyS_take (i' := 4) rfl (by kernel_rfl) (by kernel_rfl) (by kernel_rfl) (by kernel_rfl) rfl (by kernel_rfl) (fun _ _ h => h) (fun l' w' hg hp hs => by
        have k1 : w'.cell? ⟨A, j, none⟩ = some (.int .i64 (f j)) := by rw [show w' = w from hs]; exact cj
        have k2 : w'.cell? ⟨A, m, none⟩ = some (.int .i64 (f m)) := by rw [show w' = w from hs]; exact cm
        exact .inl ⟨rfl, fun d => ⟨by go_simp; rfl, fun e he => by simp [go_sem, *] at he⟩⟩) ?_
      walk_nrm
      refine anyS_take (i' := 5) rfl (by kernel_rfl) (by kernel_rfl) (by kernel_rfl) (by kernel_rfl) rfl (by kernel_rfl) (fun _ _ h => h) (fun l' w' hg hp hs => by
        have k1 : w'.cell? ⟨A, j, none⟩ = some (.int .i64 (f j)) := by rw [show w' = w from hs]; exact cj
        have k2 : w'.cell? ⟨A, m, none⟩ = some (.int .i64 (f m)) := by rw [show w' = w from hs]; exact cm
        exact .inl ⟨rfl, fun d => ⟨by go_simp; rfl, fun e he => by simp [go_sem, *] at he⟩⟩) ?_
      walk_nrm
      refine anyS_take (i' := 6) rfl (by kernel_rfl) (by kernel_rfl) (by kernel_rfl) (by kernel_rfl) rfl (by kernel_rfl) (fun _ _ h => h) (fun l' w' hg hp hs => by
        have k1 : w'.cell? ⟨A, j, none⟩ = some (.int .i64 (f j)) := by rw [show w' = w from hs]; exact cj
        have k2 : w'.cell? ⟨A, m, none⟩ = some (.int .i64 (f m)) := by rw [show w' = w from hs]; exact cm
        exact .inl ⟨rfl, fun d => ⟨by go_simp; rfl, fun e he => by simp [go_sem, *] at he⟩⟩) ?_
      walk_nrm
      refine anyS_take (i' := 7) rfl (by kernel_rfl) (by kernel_rfl) (by kernel_rfl) (by kernel_rfl) rfl (by kernel_rfl) (fun _ _ h => h) (fun l' w' hg hp hs => by
        have k1 : w'.cell? ⟨A, j, none⟩ = some (.int .i64 (f j)) := by rw [show w' = w from hs]; exact cj
        have k2 : w'.cell? ⟨A, m, none⟩ = some (.int .i64 (f m)) := by rw [show w' = w from hs]; exact cm
        exact .inl ⟨rfl, fun d => ⟨by go_simp; rfl, fun e he => by simp [go_sem, *] at he; subst he; exact evL_free hA⟩⟩) ?_
      walk_nrm
      refine anyS_take (i' := 8) rfl (by kernel_rfl) (by kernel_rfl) (by kernel_rfl) (by kernel_rfl) rfl (by kernel_rfl) (fun _ _ h => h) (fun l' w' hg hp hs => by
        have k1 : w'.cell? ⟨A, j, none⟩ = some (.int .i64 (f j)) := by rw [show w' = w from hs]; exact cj
        have k2 : w'.cell? ⟨A, m, none⟩ = some (.int .i64 (f m)) := by rw [show w' = w from hs]; exact cm
        exact .inl ⟨rfl, fun d => ⟨by go_simp; rfl, fun e he => by simp [go_sem, *] at he⟩⟩) ?_
      walk_nrm
      refine anyS_take (i' := 9) rfl (by kernel_rfl) (by kernel_rfl) (by kernel_rfl) (by kernel_rfl) rfl (by kernel_rfl) (fun _ _ h => h) (fun l' w' hg hp hs => by
        have k1 : w'.cell? ⟨A, j, none⟩ = some (.int .i64 (f j)) := by rw [show w' = w from hs]; exact cj
        have k2 : w'.cell? ⟨A, m, none⟩ = some (.int .i64 (f m)) := by rw [show w' = w from hs]; exact cm
        exact .inl ⟨rfl, fun d => ⟨by go_simp; rfl, fun e he => by simp [go_sem, *] at he⟩⟩) ?_
      walk_nrm
      refine anyS_take (i' := 10) rfl (by kernel_rfl) (by kernel_rfl) (by kernel_rfl) (by kernel_rfl) rfl (by kernel_rfl) (fun _ _ h => h) (fun l' w' hg hp hs => by
        have k1 : w'.cell? ⟨A, j, none⟩ = some (.int .i64 (f j)) := by rw [show w' = w from hs]; exact cj
        have k2 : w'.cell? ⟨A, m, none⟩ = some (.int .i64 (f m)) := by rw [show w' = w from hs]; exact cm
        exact .inl ⟨rfl, fun d => ⟨by go_simp; rfl, fun e he => by simp [go_sem, *] at he⟩⟩) ?_
      walk_nrm
      refine anyS_take (i' := 11) rfl (by kernel_rfl) (by kernel_rfl) (by kernel_rfl) (by kernel_rfl) rfl (by kernel_rfl) (fun _ _ h => h) (fun l' w' hg hp hs => by
        have k1 : w'.cell? ⟨A, j, none⟩ = some (.int .i64 (f j)) := by rw [show w' = w from hs]; exact cj
        have k2 : w'.cell? ⟨A, m, none⟩ = some (.int .i64 (f m)) := by rw [show w' = w from hs]; exact cm
        exact .inl ⟨rfl, fun d => ⟨by go_simp; rfl, fun e he => by simp [go_sem, *] at he⟩⟩) ?_
      walk_nrm
      refine anyS_take (i' := 12) rfl (by kernel_rfl) (by kernel_rfl) (by kernel_rfl) (by kernel_rfl) rfl (by kernel_rfl) (fun _ _ h => h) (fun l' w' hg hp hs => by
        have k1 : w'.cell? ⟨A, j, none⟩ = some (.int .i64 (f j)) := by rw [show w' = w from hs]; exact cj
        have k2 : w'.cell? ⟨A, m, none⟩ = some (.int .i64 (f m)) := by rw [show w' = w from hs]; exact cm
        exact .inl ⟨rfl, fun d => ⟨by go_simp; rfl, fun e he => by simp [go_sem, *] at he; subst he; exact evL_free hA⟩⟩) ?_
      walk_nrm
      refine anyS_call (j := 13) (less_con (f j) (f m)) rfl (by kernel_rfl) (by kernel_rfl) rfl rfl rfl (by simp only [List.map_toArray, List.map_cons, List.map_nil]; rfl) (fun X' v w' hr => ?_)
      obtain ⟨rfl, rfl, rfl⟩ := hr
      refine ⟨rfl, ?_⟩
      walk_nrm
      refine anyS_take (i' := 14) rfl (by kernel_rfl) (by kernel_rfl) (by kernel_rfl) (by kernel_rfl) rfl (by kernel_rfl) (fun _ _ h => h) (fun l' w' hg hp hs => by
        skip
        exact .inl ⟨rfl, fun d => ⟨by go_simp; rfl, fun e he => by simp [go_sem, *] at he⟩⟩) ?_
      walk_nrm
      exact anyS_done (by kernel_rfl) rfl ⟨rfl, rfl⟩
    · obtain ⟨rfl, rfl⟩ := hq
      by_cases hlt : f j < f m
      · have dl : decide (f j < f m) = true := decide_eq_true hlt
        rw [if_pos hlt] at hins
        rw [hins] at hK
        rw [dl]
        clear hins
        repeat first
          | refine Run.seq ?_
          | refine Run.skip ?_
          | refine Run.regionEnd ?_
          | refine Run.block ?_
          | refine Run.inBlock ?_
          | (refine Run.region ?_; simp only [List.size_toArray, List.length_cons, List.length_nil, Nat.reduceAdd, Nat.zero_add, List.range, List.range.loop])
          | (refine Run.cond rfl ?_; simp only [if_true, if_false, Bool.false_eq_true, ↓reduceIte])
          | (refine Run.unwanted rfl rfl ?_; walk_nrm)
          | (refine Run.op0 rfl rfl (by k_ne) (fun d K hK => by go_simp; exact hK) (fun d => by first | (simp [go_sem, *] <;> fail) | fail) ?_; try w_num)
          | refine Run.ret ?_
          | refine Run.fin ?_
          | refine Run.exit rfl ?_
        refine Run.drawS (by k_ne) rfl (fun a' w2 => w2 = (w'.setCell ⟨A, j, none⟩ (.int .i64 (f m))).setCell ⟨A, m, none⟩ (.int .i64 (f j)) ∧ a' = ⟨#[.slice (some ⟨A, 0, none⟩) N cap, .int .i64 0, .int .i64 (N : Int), y3, y4, y5, .int .i64 (i : Int), .int .i64 (j : Int), y8, y9, y10, y11, y12, y13, y14, y15, .int .i64 (j : Int), .int .i64 0, .bool true, .bool true, .slice (some ⟨A, 0, none⟩) N cap, .int .i64 (j : Int), .pointer (some ⟨A, j, none⟩), .int .i64 (f j), .slice (some ⟨A, 0, none⟩) N cap, .int .i64 (j : Int), .int .i64 (m : Int), .pointer (some ⟨A, m, none⟩), .int .i64 (f m), .bool true, .bool true, y31, y32, .slice (some ⟨A, 0, none⟩) N cap, .int .i64 (j : Int), .slice (some ⟨A, 0, none⟩) N cap, .int .i64 (j : Int), .int .i64 (m : Int), .slice (some ⟨A, 0, none⟩) N cap, .int .i64 (j : Int), .int .i64 (m : Int), .pointer (some ⟨A, m, none⟩), .int .i64 (f m), .slice (some ⟨A, 0, none⟩) N cap, .int .i64 (j : Int), .pointer (some ⟨A, j, none⟩), .int .i64 (f j), .pointer (some ⟨A, j, none⟩), .pointer (some ⟨A, m, none⟩)], []⟩) (Til 15 (fun w2 => w2 = w')) ?_ (fun a' w2 hq => ?_)
        · simp only [List.size_toArray, List.length_cons, List.length_nil, Nat.reduceAdd, Nat.zero_add]
          refine anyS_take (i' := 2) rfl (by kernel_rfl) (by kernel_rfl) (by kernel_rfl) (by kernel_rfl) rfl (by kernel_rfl) (fun lst w => Til.mono (by decide) lst w) (fun l' w2 hg hp hs => by
            skip
            exact .inl ⟨rfl, fun d => ⟨by go_simp; rfl, fun e he => by simp [go_sem, *] at he⟩⟩) ?_
          walk_nrm
          refine anyS_take (i' := 3) rfl (by kernel_rfl) (by kernel_rfl) (by kernel_rfl) (by kernel_rfl) rfl (by kernel_rfl) (fun lst w => Til.mono (by decide) lst w) (fun l' w2 hg hp hs => by
            skip
            exact .inl ⟨rfl, fun d => ⟨by go_simp; rfl, fun e he => by simp [go_sem, *] at he⟩⟩) ?_
          walk_nrm
          refine anyS_take (i' := 4) rfl (by kernel_rfl) (by kernel_rfl) (by kernel_rfl) (by kernel_rfl) rfl (by kernel_rfl) (fun lst w => Til.mono (by decide) lst w) (fun l' w2 hg hp hs => by
            skip
            exact .inl ⟨rfl, fun d => ⟨by go_simp; rfl, fun e he => by simp [go_sem, *] at he⟩⟩) ?_
          walk_nrm
          refine anyS_take (i' := 0) rfl (by kernel_rfl) (by kernel_rfl) (by kernel_rfl) (by kernel_rfl) rfl (by kernel_rfl) (fun lst w => Til.mono (by decide) lst w) (fun l' w2 hg hp hs => by
            skip
            exact .inl ⟨rfl, fun d => ⟨by go_simp; rfl, fun e he => by simp [go_sem, *] at he⟩⟩) ?_
          walk_nrm
          refine anyS_take (i' := 1) rfl (by kernel_rfl) (by kernel_rfl) (by kernel_rfl) (by kernel_rfl) rfl (by kernel_rfl) (fun lst w => Til.mono (by decide) lst w) (fun l' w2 hg hp hs => by
            skip
            exact .inl ⟨rfl, fun d => ⟨by go_simp; rfl, fun e he => by simp [go_sem, *] at he⟩⟩) ?_
          walk_nrm
          refine anyS_take (i' := 5) rfl (by kernel_rfl) (by kernel_rfl) (by kernel_rfl) (by kernel_rfl) rfl (by kernel_rfl) (fun lst w => Til.mono (by decide) lst w) (fun l' w2 hg hp hs => by
            skip
            exact .inl ⟨rfl, fun d => ⟨by go_simp; rfl, fun e he => by simp [go_sem, *] at he⟩⟩) ?_
          walk_nrm
          refine anyS_take (i' := 6) rfl (by kernel_rfl) (by kernel_rfl) (by kernel_rfl) (by kernel_rfl) rfl (by kernel_rfl) (fun lst w => Til.mono (by decide) lst w) (fun l' w2 hg hp hs => by
            skip
            exact .inl ⟨rfl, fun d => ⟨by go_simp; rfl, fun e he => by simp [go_sem, *] at he⟩⟩) ?_
          walk_nrm
          refine anyS_take (i' := 7) rfl (by kernel_rfl) (by kernel_rfl) (by kernel_rfl) (by kernel_rfl) rfl (by kernel_rfl) (fun lst w => Til.mono (by decide) lst w) (fun l' w2 hg hp hs => by
            skip
            exact .inl ⟨rfl, fun d => ⟨by go_simp; rfl, fun e he => by simp [go_sem, *] at he⟩⟩) ?_
          walk_nrm
          refine anyS_take (i' := 8) rfl (by kernel_rfl) (by kernel_rfl) (by kernel_rfl) (by kernel_rfl) rfl (by kernel_rfl) (fun lst w => Til.mono (by decide) lst w) (fun l' w2 hg hp hs => by
            skip
            exact .inl ⟨rfl, fun d => ⟨by go_simp; rfl, fun e he => by simp [go_sem, *] at he⟩⟩) ?_
          walk_nrm
          refine anyS_take (i' := 9) rfl (by kernel_rfl) (by kernel_rfl) (by kernel_rfl) (by kernel_rfl) rfl (by kernel_rfl) (fun lst w => Til.mono (by decide) lst w) (fun l' w2 hg hp hs => by
            have hs := hs.get hg (by decide) hp (by kernel_rfl)
            have k1 : w2.cell? ⟨A, j, none⟩ = some (.int .i64 (f j)) := by rw [hs]; exact cj
            have k2 : w2.cell? ⟨A, m, none⟩ = some (.int .i64 (f m)) := by rw [hs]; exact cm
            exact .inl ⟨rfl, fun d => ⟨by go_simp; rfl, fun e he => by simp [go_sem, *] at he; subst he; exact evL_free hA⟩⟩) ?_
          walk_nrm
          refine anyS_take (i' := 10) rfl (by kernel_rfl) (by kernel_rfl) (by kernel_rfl) (by kernel_rfl) rfl (by kernel_rfl) (fun lst w => Til.mono (by decide) lst w) (fun l' w2 hg hp hs => by
            skip
            exact .inl ⟨rfl, fun d => ⟨by go_simp; rfl, fun e he => by simp [go_sem, *] at he⟩⟩) ?_
          walk_nrm
          refine anyS_take (i' := 11) rfl (by kernel_rfl) (by kernel_rfl) (by kernel_rfl) (by kernel_rfl) rfl (by kernel_rfl) (fun lst w => Til.mono (by decide) lst w) (fun l' w2 hg hp hs => by
            skip
            exact .inl ⟨rfl, fun d => ⟨by go_simp; rfl, fun e he => by simp [go_sem, *] at he⟩⟩) ?_
          walk_nrm
          refine anyS_take (i' := 12) rfl (by kernel_rfl) (by kernel_rfl) (by kernel_rfl) (by kernel_rfl) rfl (by kernel_rfl) (fun lst w => Til.mono (by decide) lst w) (fun l' w2 hg hp hs => by
            skip
            exact .inl ⟨rfl, fun d => ⟨by go_simp; rfl, fun e he => by simp [go_sem, *] at he⟩⟩) ?_
          walk_nrm
          refine anyS_take (i' := 13) rfl (by kernel_rfl) (by kernel_rfl) (by kernel_rfl) (by kernel_rfl) rfl (by kernel_rfl) (fun lst w => Til.mono (by decide) lst w) (fun l' w2 hg hp hs => by
            have hs := hs.get hg (by decide) hp (by kernel_rfl)
            have k1 : w2.cell? ⟨A, j, none⟩ = some (.int .i64 (f j)) := by rw [hs]; exact cj
            have k2 : w2.cell? ⟨A, m, none⟩ = some (.int .i64 (f m)) := by rw [hs]; exact cm
            exact .inl ⟨rfl, fun d => ⟨by go_simp; rfl, fun e he => by simp [go_sem, *] at he; subst he; exact evL_free hA⟩⟩) ?_
          walk_nrm
          refine anyS_take (i' := 14) rfl (by kernel_rfl) (by kernel_rfl) (by kernel_rfl) (by kernel_rfl) rfl (by kernel_rfl) (fun lst w => Til.mono (by decide) lst w) (fun l' w2 hg hp hs => by
            skip
            exact .inl ⟨rfl, fun d => ⟨by go_simp; rfl, fun e he => by simp [go_sem, *] at he⟩⟩) ?_
          walk_nrm
          have tj' := tj
          have e1 : (w'.setCell ⟨A, j, none⟩ (.int .i64 (f m))).cell? ⟨A, m, none⟩ = some (.int .i64 (f m)) := (World.cell?_setCell_other _ _ _ _ (by simp [hne])).trans cm
          have e2 : (w'.setCell ⟨A, j, none⟩ (.int .i64 (f m))).frozen? ⟨A, m, none⟩ = false := (h.set hj (f m)).thaw m
          refine anyS_store (j := 15) (w2 := w'.setCell ⟨A, j, none⟩ (.int .i64 (f m))) rfl (by kernel_rfl) (by kernel_rfl) (fun _ => rfl) rfl (fun d => ⟨by go_simp; rfl, fun e he => by simp [go_sem, *] at he; subst he; exact evL_free hA⟩) ?_
          walk_nrm
          refine anyS_take (i' := 16) rfl (by kernel_rfl) (by kernel_rfl) (by kernel_rfl) (by kernel_rfl) rfl (by kernel_rfl) (fun lst w => Til.mono (by decide) lst w) (fun l' w2 hg hp hs => by
            skip
            exact .inl ⟨rfl, fun d => ⟨by go_simp; rfl, fun e he => by simp [go_sem, *] at he⟩⟩) ?_
          walk_nrm
          refine anyS_store (j := 17) (w2 := (w'.setCell ⟨A, j, none⟩ (.int .i64 (f m))).setCell ⟨A, m, none⟩ (.int .i64 (f j))) rfl (by kernel_rfl) (by kernel_rfl) (fun e => by cases e) rfl (fun d => ⟨by go_simp; rfl, fun e he => by simp [go_sem, *] at he; subst he; exact evL_free hA⟩) ?_
          exact anyS_done (by kernel_rfl) (fun e => by cases e) ⟨rfl, rfl⟩
        · obtain ⟨rfl, rfl⟩ := hq
          have h2 := (h.set hj (f m)).set (k := m) (by omega) (f j)
          have s2 := aside_trans (aside_setCell w' ⟨A, j, none⟩ (.int .i64 (f m))) (aside_setCell (w'.setCell ⟨A, j, none⟩ (.int .i64 (f m))) ⟨A, m, none⟩ (.int .i64 (f j)))
          generalize (w'.setCell ⟨A, j, none⟩ (.int .i64 (f m))).setCell ⟨A, m, none⟩ (.int .i64 (f j)) = w2 at h2 s2 ⊢
          have ih := ih _ w2 (by omega) h2 (fun w3 y7 y3 y4 y5 y8 y9 y10 y11 y12 y13 y14 y15 y16 y17 y18 y19 y20 y21 y22 y23 y24 y25 y26 y27 y28 y29 y30 y31 y32 y33 y34 y35 y36 y37 y38 y39 y40 y41 y42 y43 y44 y45 y46 y47 y48 h3 s3 => hK w3 y7 y3 y4 y5 y8 y9 y10 y11 y12 y13 y14 y15 y16 y17 y18 y19 y20 y21 y22 y23 y24 y25 y26 y27 y28 y29 y30 y31 y32 y33 y34 y35 y36 y37 y38 y39 y40 y41 y42 y43 y44 y45 y46 y47 y48 h3 (aside_trans s2 s3))
          clear h2 s2 hK h
          repeat first
            | refine Run.seq ?_
            | refine Run.skip ?_
            | refine Run.regionEnd ?_
            | refine Run.block ?_
            | refine Run.inBlock ?_
            | (refine Run.region ?_; simp only [List.size_toArray, List.length_cons, List.length_nil, Nat.reduceAdd, Nat.zero_add, List.range, List.range.loop])
            | (refine Run.cond rfl ?_; simp only [if_true, if_false, Bool.false_eq_true, ↓reduceIte])
            | (refine Run.unwanted rfl rfl ?_; walk_nrm)
            | (refine Run.op0 rfl rfl (by k_ne) (fun d K hK => by go_simp; exact hK) (fun d => by first | (simp [go_sem, *] <;> fail) | fail) ?_; try w_num)
            | refine Run.ret ?_
            | refine Run.fin ?_
            | refine Run.exit rfl ?_
          refine Run.inLoop ?_
          exact ih _ _ _ _ _ _ _ _ _ _ _ _ _ _ _ _ _ _ _ _ _ _ _ _ _ _ _ _ _ _ _ _ _ _ _ _ _ _ _ _ _ _ _ _
      · have dl : decide (f j < f m) = false := decide_eq_false hlt
        rw [if_neg hlt] at hins
        rw [hins] at hK
        rw [dl]
        clear hins
        repeat first
          | refine Run.seq ?_
          | refine Run.skip ?_
          | refine Run.regionEnd ?_
          | refine Run.block ?_
          | refine Run.inBlock ?_
          | (refine Run.region ?_; simp only [List.size_toArray, List.length_cons, List.length_nil, Nat.reduceAdd, Nat.zero_add, List.range, List.range.loop])
          | (refine Run.cond rfl ?_; simp only [if_true, if_false, Bool.false_eq_true, ↓reduceIte])
          | (refine Run.unwanted rfl rfl ?_; walk_nrm)
          | (refine Run.op0 rfl rfl (by k_ne) (fun d K hK => by go_simp; exact hK) (fun d => by first | (simp [go_sem, *] <;> fail) | fail) ?_; try w_num)
          | refine Run.ret ?_
          | refine Run.fin ?_
          | refine Run.exit rfl ?_
        exact hK w' _ _ _ _ _ _ _ _ _ _ _ _ _ _ _ _ _ _ _ _ _ _ _ _ _ _ _ _ _ _ _ _ _ _ _ _ _ _ _ _ _ _ _ _ _ h (Aside.refl A w')
set_option maxRecDepth 100000 in
set_option maxHeartbeats 8000000 in
theorem sort_loop (hA : X.free A) (hN : N ≤ 1099511627776) {b : Frame} {a : Act} {k : List Item} {cs : List Frame} {ops : Array Oper} {n : Nat} {rest : List Nat} (f : Nat → Int) : ∀ (r i : Nat) (w : World), 1 ≤ i → i + r = N → ArrAt A N (isort (i - 1) f) w →
    (∀ w', ArrAt A N (isort (N - 1) f) w' → Aside A w w' → Run Try.prog X (G (b.at (a.put ((ops[n]?).bind (·.dst)) (.tuple #[])) (.inRegion ops rest :: k)) cs) w') → ∀ (y3 y4 y5 y7 y8 y9 y10 y11 y12 y13 y14 y15 y16 y17 y18 y19 y20 y21 y22 y23 y24 y25 y26 y27 y28 y29 y30 y31 y32 y33 y34 y35 y36 y37 y38 y39 y40 y41 y42 y43 y44 y45 y46 y47 y48 : Value),
    Run Try.prog X (G ((base 74).at ⟨#[.slice (some ⟨A, 0, none⟩) N cap, .int .i64 0, .int .i64 (N : Int), y3, y4, y5, .int .i64 (i : Int), y7, y8, y9, y10, y11, y12, y13, y14, y15, y16, y17, y18, y19, y20, y21, y22, y23, y24, y25, y26, y27, y28, y29, y30, y31, y32, y33, y34, y35, y36, y37, y38, y39, y40, y41, y42, y43, y44, y45, y46, y47, y48], []⟩ [.code out74, .inLoop out74, .inBlock 0]) (b.at a (.inRegion ops (n :: rest) :: k) :: cs)) w := by
  intro r
  induction r with
  | zero =>
    intro i w h1 hi h hK y3 y4 y5 y7 y8 y9 y10 y11 y12 y13 y14 y15 y16 y17 y18 y19 y20 y21 y22 y23 y24 y25 y26 y27 y28 y29 y30 y31 y32 y33 y34 y35 y36 y37 y38 y39 y40 y41 y42 y43 y44 y45 y46 y47 y48
    have hlt : decide ((i : Int) < (N : Int)) = false := decide_eq_false (by omega)
    have hlt' : decide (i < N) = false := decide_eq_false (by omega)
    rw [show i - 1 = N - 1 by omega] at h
    have hK := hK w h (Aside.refl A w)
    clear h
    simp only [out74, Try.f74, Option.getD_some]
    repeat first
      | refine Run.seq ?_
      | refine Run.skip ?_
      | refine Run.regionEnd ?_
      | refine Run.block ?_
      | refine Run.inBlock ?_
      | (refine Run.region ?_; simp only [List.size_toArray, List.length_cons, List.length_nil, Nat.reduceAdd, Nat.zero_add, List.range, List.range.loop])
      | (refine Run.cond rfl ?_; simp only [if_true, if_false, Bool.false_eq_true, ↓reduceIte])
      | (refine Run.unwanted rfl rfl ?_; walk_nrm)
      | (refine Run.op0 rfl rfl (by k_ne) (fun d K hK => by go_simp; exact hK) (fun d => by first | (simp [go_sem, *] <;> fail) | fail) ?_; try w_num)
      | refine Run.ret ?_
      | refine Run.fin ?_
      | refine Run.exit rfl ?_
    refine Run.leave0 rfl rfl Try.func74 rfl ?_
    exact hK
  | succ r ih =>
    intro i w h1 hi h hK y3 y4 y5 y7 y8 y9 y10 y11 y12 y13 y14 y15 y16 y17 y18 y19 y20 y21 y22 y23 y24 y25 y26 y27 y28 y29 y30 y31 y32 y33 y34 y35 y36 y37 y38 y39 y40 y41 y42 y43 y44 y45 y46 y47 y48
    have hlt : decide ((i : Int) < (N : Int)) = true := decide_eq_true (by omega)
    have hlt' : decide (i < N) = true := decide_eq_true (by omega)
    have hL := fun (K : List Item) (cs : List Frame) => ins_loop (cap := cap) (K := K) (cs := cs) (i := i) hA hN i (isort (i - 1) f) w (by omega) h
    have hins : insAt i (isort (i - 1) f) = isort i f := by
      obtain ⟨m, rfl⟩ : ∃ m, i = m + 1 := ⟨i - 1, by omega⟩
      rfl
    rw [hins] at hL
    have ew : IntKind.i64.wrap ((i : Int) + 1) = ((i + 1 : Nat) : Int) := by rw [IntKind.wrap_i64]; omega
    have ih := fun w' => ih (i + 1) w' (by omega) (by omega)
    simp only [in74, out74, Try.f74, Option.getD_some] at hL ih ⊢
    clear hins h
    repeat first
      | refine Run.seq ?_
      | refine Run.skip ?_
      | refine Run.regionEnd ?_
      | refine Run.block ?_
      | refine Run.inBlock ?_
      | (refine Run.region ?_; simp only [List.size_toArray, List.length_cons, List.length_nil, Nat.reduceAdd, Nat.zero_add, List.range, List.range.loop])
      | (refine Run.cond rfl ?_; simp only [if_true, if_false, Bool.false_eq_true, ↓reduceIte])
      | (refine Run.unwanted rfl rfl ?_; walk_nrm)
      | (refine Run.op0 rfl rfl (by k_ne) (fun d K hK => by go_simp; exact hK) (fun d => by first | (simp [go_sem, *] <;> fail) | fail) ?_; try w_num)
      | refine Run.ret ?_
      | refine Run.fin ?_
      | refine Run.exit rfl ?_
    refine Run.loop ?_
    refine hL _ _ (fun w' y7 y3 y4 y5 y8 y9 y10 y11 y12 y13 y14 y15 y16 y17 y18 y19 y20 y21 y22 y23 y24 y25 y26 y27 y28 y29 y30 y31 y32 y33 y34 y35 y36 y37 y38 y39 y40 y41 y42 y43 y44 y45 y46 y47 y48 h2 s2 => ?_) _ _ _ _ _ _ _ _ _ _ _ _ _ _ _ _ _ _ _ _ _ _ _ _ _ _ _ _ _ _ _ _ _ _ _ _ _ _ _ _ _ _ _ _
    have ih := ih w' h2 (fun w3 h3 s3 => hK w3 h3 (aside_trans s2 s3))
    clear hL hK h2 s2
    repeat first
      | refine Run.seq ?_
      | refine Run.skip ?_
      | refine Run.regionEnd ?_
      | refine Run.block ?_
      | refine Run.inBlock ?_
      | (refine Run.region ?_; simp only [List.size_toArray, List.length_cons, List.length_nil, Nat.reduceAdd, Nat.zero_add, List.range, List.range.loop])
      | (refine Run.cond rfl ?_; simp only [if_true, if_false, Bool.false_eq_true, ↓reduceIte])
      | (refine Run.unwanted rfl rfl ?_; walk_nrm)
      | (refine Run.op0 rfl rfl (by k_ne) (fun d K hK => by go_simp; exact hK) (fun d => by first | (simp [go_sem, *] <;> fail) | fail) ?_; try w_num)
      | refine Run.ret ?_
      | refine Run.fin ?_
      | refine Run.exit rfl ?_
    first | rw [ew] | rw [show (i : Int) + 1 = ((i + 1 : Nat) : Int) by omega]
    refine Run.inLoop ?_
    exact ih _ _ _ _ _ _ _ _ _ _ _ _ _ _ _ _ _ _ _ _ _ _ _ _ _ _ _ _ _ _ _ _ _ _ _ _ _ _ _ _ _ _ _ _ _
set_option maxRecDepth 100000 in
set_option maxHeartbeats 8000000 in
theorem isort_con {w : World} (hA : X.free A) (hN : N ≤ 1099511627776) (f : Nat → Int) (h1 : 1 ≤ N) (h : ArrAt A N f w) : Con Try.prog X 74 #[.slice (some ⟨A, 0, none⟩) N cap, .int .i64 0, .int .i64 (N : Int)] w (fun X' v w' => X' = X ∧ ArrAt A N (isort (N - 1) f) w' ∧ Aside A w w') := by
  refine ⟨Try.f74, _, Try.func74, nm74, rfl, fun b₀ a₀ ops₀ n₀ rest₀ k₀ cs hK => ?_⟩
  walk_nrmf Try.f74
  have hL := sort_loop (cap := cap) (X := X) (b := b₀) (a := a₀) (k := k₀) (cs := cs) (ops := ops₀) (n := n₀) (rest := rest₀) hA hN f (N - 1) 1 w (Nat.le_refl _) (by omega) h (fun w' h2 s2 => hK _ _ _ ⟨rfl, h2, s2⟩)
  clear hK h
  simp only [out74, Try.f74, Option.getD_some] at hL
  repeat first
    | refine Run.seq ?_
    | refine Run.skip ?_
    | refine Run.regionEnd ?_
    | refine Run.block ?_
    | refine Run.inBlock ?_
    | (refine Run.region ?_; simp only [List.size_toArray, List.length_cons, List.length_nil, Nat.reduceAdd, Nat.zero_add, List.range, List.range.loop])
    | (refine Run.cond rfl ?_; simp only [if_true, if_false, Bool.false_eq_true, ↓reduceIte])
    | (refine Run.unwanted rfl rfl ?_; walk_nrm)
    | (refine Run.op0 rfl rfl (by k_ne) (fun d K hK => by go_simp; exact hK) (fun d => by first | (simp [go_sem, *] <;> fail) | fail) ?_; try w_num)
    | refine Run.ret ?_
    | refine Run.fin ?_
    | refine Run.exit rfl ?_
  refine Run.loop ?_
  exact hL _ _ _ _ _ _ _ _ _ _ _ _ _ _ _ _ _ _ _ _ _ _ _ _ _ _ _ _ _ _ _ _ _ _ _ _ _ _ _ _ _ _ _ _ _
end
end Go.Proofs.Ytboiolnnhmlieaa.Gang
