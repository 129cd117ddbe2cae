
/-
  TallyMost: its walk.
  Conditions: stated lemma by lemma.
-/
import Derived.Test.YtboiolnnhmlieaaGc16
namespace Go.Proofs.Ytboiolnnhmlieaa.Gang
open Go.Conc Go.ConcN Go.RowKit Go.Conc.Lib Go.ConcR.Gen Go.ConcN.Gen
set_option linter.unusedVariables false
set_option linter.unusedSimpArgs false
theorem Off.at {T : Nat} {w w' : World} (h : Off T w w') (d : Nat) : Off T w (w'.at d) := ⟨h.tape, h.os, h.output, h.size, h.block⟩
noncomputable def loop7 : Code := match Try.f7.body.getD .skip with | .seq _ (.seq _ (.seq _ (.seq _ (.seq _ (.seq (.seq _ (.block _ (.loop c))) _))))) => c | .seq _ (.seq _ (.seq _ (.seq _ (.seq _ (.seq _ (.seq (.block _ (.loop c)) _)))))) => c | _ => .skip
noncomputable def tail7 : Code := match Try.f7.body.getD .skip with | .seq _ (.seq _ (.seq _ (.seq _ (.seq _ (.seq (.seq _ (.block _ (.loop _))) c))))) => c | .seq _ (.seq _ (.seq _ (.seq _ (.seq _ (.seq _ (.seq (.block _ (.loop _)) c)))))) => c | _ => .skip
theorem nats_small {xs : List (Int × Int)} (hb : xs.any bad = false) : Small (nats xs) := fun s hs => by
  simp only [nats, List.mem_map] at hs
  obtain ⟨p, hp, rfl⟩ := hs
  have := List.any_eq_false.1 hb p hp
  have this : bad p = false := by simpa using this
  simp only [bad, okStep, Bool.not_eq_false', Bool.and_eq_true, decide_eq_true_eq] at this
  exact ⟨this.1.2, this.2⟩
set_option maxRecDepth 100000 in
set_option maxHeartbeats 8000000 in
theorem most_loop {X : Cx} {w : World} {T cap : Nat} {y : Tl} (xs : List (Int × Int)) {sl : Option Addr} {n : Int} (hlen : xs.length ≤ 1000) (hst : StepsAt sl xs w) (hrd : X.reads sl) (hT : X.free T) (ht : TlAt T y w) (hb : xs.any bad = false) (hy : ∀ c, y.cs c = lsum c (nats xs))
    {K : List Item} (hK : ∀ (y2 y3 y8 y9 y10 y11 y12 y13 y14 y15 y16 y17 y18 y19 y20 y21 y22 y23 y24 y25 y26 y27 y28 y29 y30 y31 y32 y33 y34 y35 y36 y37 y38 y39 y40 y41 y42 y43 y44 y45 y46 y47 y48 y49 y50 y51 y52 y53 y54 y55 : Value), Run Try.prog X (G ((base 7).at ⟨#[.slice sl xs.length cap, .int .i64 n, y2, y3, .bool false, .pointer (some ⟨T, 0, none⟩), .int .i64 (lmax 0 (nats xs)), .int .i64 (xs.length : Int), y8, y9, y10, y11, y12, y13, y14, y15, y16, y17, y18, y19, y20, y21, y22, y23, y24, y25, y26, y27, y28, y29, y30, y31, y32, y33, y34, y35, y36, y37, y38, y39, y40, y41, y42, y43, y44, y45, y46, y47, y48, y49, y50, y51, y52, y53, y54, y55], []⟩ K) []) w) : ∀ (m k : Nat), k + m = xs.length → ∀ (y2 y3 y8 y9 y10 y11 y12 y13 y14 y15 y16 y17 y18 y19 y20 y21 y22 y23 y24 y25 y26 y27 y28 y29 y30 y31 y32 y33 y34 y35 y36 y37 y38 y39 y40 y41 y42 y43 y44 y45 y46 y47 y48 y49 y50 y51 y52 y53 y54 y55 : Value),
    Run Try.prog X (G ((base 7).at ⟨#[.slice sl xs.length cap, .int .i64 n, y2, y3, .bool false, .pointer (some ⟨T, 0, none⟩), .int .i64 (lmax 0 ((nats xs).take k)), .int .i64 (k : Int), y8, y9, y10, y11, y12, y13, y14, y15, y16, y17, y18, y19, y20, y21, y22, y23, y24, y25, y26, y27, y28, y29, y30, y31, y32, y33, y34, y35, y36, y37, y38, y39, y40, y41, y42, y43, y44, y45, y46, y47, y48, y49, y50, y51, y52, y53, y54, y55], []⟩ (.code loop7 :: .inLoop loop7 :: .inBlock 0 :: K)) []) w := by
  intro m
  induction m with
  | zero =>
    intro k hk y2 y3 y8 y9 y10 y11 y12 y13 y14 y15 y16 y17 y18 y19 y20 y21 y22 y23 y24 y25 y26 y27 y28 y29 y30 y31 y32 y33 y34 y35 y36 y37 y38 y39 y40 y41 y42 y43 y44 y45 y46 y47 y48 y49 y50 y51 y52 y53 y54 y55
    have hlt : decide ((k : Int) < (xs.length : Int)) = false := decide_eq_false (by omega)
    have hlt' : decide (k < xs.length) = false := decide_eq_false (by omega)
    rw [List.take_of_length_le (show (nats xs).length ≤ k by rw [nats_len]; omega)]
    obtain rfl : xs.length = k := by omega
    simp only [loop7, Try.f7, Option.getD_some]
    clear hst
    repeat first
      | refine Run.seq ?_
      | refine Run.skip ?_
      | refine Run.regionEnd ?_
      | refine Run.block ?_
      | refine Run.inBlock ?_
      | (refine Run.region ?_; simp only [List.size_toArray, List.length_cons, List.length_nil, Nat.reduceAdd, Nat.zero_add, List.range, List.range.loop])
      | (refine Run.cond rfl ?_; simp only [if_true, if_false, Bool.false_eq_true, ↓reduceIte])
      | (refine Run.unwanted rfl rfl ?_; walk_nrm)
      | (refine Run.op0 rfl rfl (by k_ne) (fun d K hK => by go_simp; exact hK) (fun d => by first | (simp [go_sem, *] <;> fail) | fail) ?_; try w_num)
      | refine Run.ret ?_
      | refine Run.fin ?_
      | refine Run.exit rfl ?_
    exact hK _ _ _ _ _ _ _ _ _ _ _ _ _ _ _ _ _ _ _ _ _ _ _ _ _ _ _ _ _ _ _ _ _ _ _ _ _ _ _ _ _ _ _ _ _ _ _ _ _ _
  | succ m ih =>
    intro k hk y2 y3 y8 y9 y10 y11 y12 y13 y14 y15 y16 y17 y18 y19 y20 y21 y22 y23 y24 y25 y26 y27 y28 y29 y30 y31 y32 y33 y34 y35 y36 y37 y38 y39 y40 y41 y42 y43 y44 y45 y46 y47 y48 y49 y50 y51 y52 y53 y54 y55
    have hkN : k < xs.length := by omega
    have hlt : decide ((k : Int) < (xs.length : Int)) = true := decide_eq_true (by omega)
    have hlt' : decide (k < xs.length) = true := decide_eq_true hkN
    have hki : (k : Int) < (xs.length : Int) := by omega
    have ew : IntKind.i64.wrap ((k : Int) + 1) = ((k + 1 : Nat) : Int) := by rw [IntKind.wrap_i64]; omega
    obtain ⟨ar, off, rfl, har, hcs⟩ := hst (by intro e; subst e; simp at hkN)
    obtain ⟨ck, dk⟩ := hcs k hkN
    have hAr : X.free ar := hrd ar off rfl
    have hkn : k < (nats xs).length := by rw [nats_len]; exact hkN
    obtain ⟨g1, g2, g3⟩ := nats_get hb hkn hkN
    have hmx : lmax 0 ((nats xs).take (k + 1)) = if lmax 0 ((nats xs).take k) < (xs[k]).2 then (xs[k]).2 else lmax 0 ((nats xs).take k) := by
      rw [List.take_succ_eq_append_getElem hkn, lmax_snoc, g2]
    have hget : (if 0 ≤ (xs[k]).1 ∧ (xs[k]).1 < 8 then y.cs (xs[k]).1.toNat else 0) = lsum ((nats xs)[k]).1 (nats xs) := by
      rw [if_pos (by omega), hy]
      congr 1
      omega
    have hge : (xs[k]).2 ≤ lsum ((nats xs)[k]).1 (nats xs) := by
      rw [← g2]
      exact lsum_ge _ (nats_small hb) _ (List.getElem_mem hkn) rfl
    have hnl : decide (lsum ((nats xs)[k]).1 (nats xs) < (xs[k]).2) = false := decide_eq_false (by omega)
    have hC := get_con (X := X) hT.1 ht (xs[k]).1
    rw [hget] at hC
    have ih := ih (k + 1) (by omega)
    rw [hmx] at ih
    clear hmx hget hst hcs hge g1 g2 g3 hy
    generalize lmax 0 ((nats xs).take k) = M at ih ⊢
    generalize lsum ((nats xs)[k]).1 (nats xs) = Z at hC hnl
    simp only [loop7, Try.f7, Option.getD_some] at ih ⊢
    repeat first
      | refine Run.seq ?_
      | refine Run.skip ?_
      | refine Run.regionEnd ?_
      | refine Run.block ?_
      | refine Run.inBlock ?_
      | (refine Run.region ?_; simp only [List.size_toArray, List.length_cons, List.length_nil, Nat.reduceAdd, Nat.zero_add, List.range, List.range.loop])
      | (refine Run.cond rfl ?_; simp only [if_true, if_false, Bool.false_eq_true, ↓reduceIte])
      | (refine Run.unwanted rfl rfl ?_; walk_nrm)
      | (refine Run.op0 rfl rfl (by k_ne) (fun d K hK => by go_simp; exact hK) (fun d => by first | (simp [go_sem, *] <;> fail) | fail) ?_; try w_num)
      | refine Run.ret ?_
      | refine Run.fin ?_
      | refine Run.exit rfl ?_
      | ((refine Run.op w rfl rfl (by k_ne) (fun d K hK => by go_simp; exact hK) (fun d e he => by simp [go_sem, *] at he; subst he; exact evL_free hAr) ?_; try w_num))
    by_cases hM : M < (xs[k]).2
    · have hMd : decide (M < (xs[k]).2) = true := decide_eq_true hM
      rw [if_pos hM] at ih
      rw [hMd]
      clear hM
      repeat first
        | refine Run.seq ?_
        | refine Run.skip ?_
        | refine Run.regionEnd ?_
        | refine Run.block ?_
        | refine Run.inBlock ?_
        | (refine Run.region ?_; simp only [List.size_toArray, List.length_cons, List.length_nil, Nat.reduceAdd, Nat.zero_add, List.range, List.range.loop])
        | (refine Run.cond rfl ?_; simp only [if_true, if_false, Bool.false_eq_true, ↓reduceIte])
        | (refine Run.unwanted rfl rfl ?_; walk_nrm)
        | (refine Run.op0 rfl rfl (by k_ne) (fun d K hK => by go_simp; exact hK) (fun d => by first | (simp [go_sem, *] <;> fail) | fail) ?_; try w_num)
        | refine Run.ret ?_
        | refine Run.fin ?_
        | refine Run.exit rfl ?_
        | ((refine Run.op w rfl rfl (by k_ne) (fun d K hK => by go_simp; exact hK) (fun d e he => by simp [go_sem, *] at he; subst he; exact evL_free hAr) ?_; try w_num))
      refine Run.draw (by k_ne) rfl (fun a' w' => w' = w ∧ ∃ (y2 y3 y8 y9 y10 y11 y12 y13 y14 y15 y16 y17 y18 y19 y20 y21 y22 y23 y24 y25 y26 y27 y28 y29 y30 y31 y32 y33 y34 y35 y36 y37 y38 y39 y40 y41 y42 y43 y44 y45 y46 y47 y48 y49 y50 y52 y53 y54 y55 : Value), a' = ⟨#[.slice (some ⟨ar, off, none⟩) xs.length cap, .int .i64 n, y2, y3, .bool false, .pointer (some ⟨T, 0, none⟩), .int .i64 (xs[k]).2, .int .i64 (k : Int), y8, y9, y10, y11, y12, y13, y14, y15, y16, y17, y18, y19, y20, y21, y22, y23, y24, y25, y26, y27, y28, y29, y30, y31, y32, y33, y34, y35, y36, y37, y38, y39, y40, y41, y42, y43, y44, y45, y46, y47, y48, y49, y50, .bool false, y52, y53, y54, y55], []⟩) (fun w' => w' = w) ?_ (fun a' w' hq => ?_)
      · simp only [List.size_toArray, List.length_cons, List.length_nil, Nat.reduceAdd, Nat.zero_add]
        refine anyR_take (i' := 0) rfl (by kernel_rfl) (by kernel_rfl) (by kernel_rfl) (by kernel_rfl) (fun w' hS => by
          have k1 : w'.cell? ⟨ar, off + k * 2, none⟩ = some (.int .i64 (xs[k]).1) := by rw [show w' = w from hS]; exact ck
          have k2 : w'.cell? ⟨ar, off + k * 2 + 1, none⟩ = some (.int .i64 (xs[k]).2) := by rw [show w' = w from hS]; exact dk
          exact .inl ⟨rfl, fun d => ⟨by go_simp; rfl, fun e he => by simp [go_sem, *] at he⟩⟩) ?_
        walk_nrm
        refine anyR_take (i' := 1) rfl (by kernel_rfl) (by kernel_rfl) (by kernel_rfl) (by kernel_rfl) (fun w' hS => by
          have k1 : w'.cell? ⟨ar, off + k * 2, none⟩ = some (.int .i64 (xs[k]).1) := by rw [show w' = w from hS]; exact ck
          have k2 : w'.cell? ⟨ar, off + k * 2 + 1, none⟩ = some (.int .i64 (xs[k]).2) := by rw [show w' = w from hS]; exact dk
          exact .inl ⟨rfl, fun d => ⟨by go_simp; rfl, fun e he => by simp [go_sem, *] at he⟩⟩) ?_
        walk_nrm
        refine anyR_take (i' := 2) rfl (by kernel_rfl) (by kernel_rfl) (by kernel_rfl) (by kernel_rfl) (fun w' hS => by
          have k1 : w'.cell? ⟨ar, off + k * 2, none⟩ = some (.int .i64 (xs[k]).1) := by rw [show w' = w from hS]; exact ck
          have k2 : w'.cell? ⟨ar, off + k * 2 + 1, none⟩ = some (.int .i64 (xs[k]).2) := by rw [show w' = w from hS]; exact dk
          exact .inl ⟨rfl, fun d => ⟨by go_simp; rfl, fun e he => by simp [go_sem, *] at he⟩⟩) ?_
        walk_nrm
        refine anyR_take (i' := 3) rfl (by kernel_rfl) (by kernel_rfl) (by kernel_rfl) (by kernel_rfl) (fun w' hS => by
          have k1 : w'.cell? ⟨ar, off + k * 2, none⟩ = some (.int .i64 (xs[k]).1) := by rw [show w' = w from hS]; exact ck
          have k2 : w'.cell? ⟨ar, off + k * 2 + 1, none⟩ = some (.int .i64 (xs[k]).2) := by rw [show w' = w from hS]; exact dk
          exact .inl ⟨rfl, fun d => ⟨by go_simp; rfl, fun e he => by simp [go_sem, *] at he⟩⟩) ?_
        walk_nrm
        refine anyR_take (i' := 4) rfl (by kernel_rfl) (by kernel_rfl) (by kernel_rfl) (by kernel_rfl) (fun w' hS => by
          have k1 : w'.cell? ⟨ar, off + k * 2, none⟩ = some (.int .i64 (xs[k]).1) := by rw [show w' = w from hS]; exact ck
          have k2 : w'.cell? ⟨ar, off + k * 2 + 1, none⟩ = some (.int .i64 (xs[k]).2) := by rw [show w' = w from hS]; exact dk
          exact .inl ⟨rfl, fun d => ⟨by go_simp; rfl, fun e he => by simp [go_sem, *] at he⟩⟩) ?_
        walk_nrm
        refine anyR_take (i' := 5) rfl (by kernel_rfl) (by kernel_rfl) (by kernel_rfl) (by kernel_rfl) (fun w' hS => by
          have k1 : w'.cell? ⟨ar, off + k * 2, none⟩ = some (.int .i64 (xs[k]).1) := by rw [show w' = w from hS]; exact ck
          have k2 : w'.cell? ⟨ar, off + k * 2 + 1, none⟩ = some (.int .i64 (xs[k]).2) := by rw [show w' = w from hS]; exact dk
          exact .inl ⟨rfl, fun d => ⟨by go_simp; rfl, fun e he => by simp [go_sem, *] at he; subst he; exact evL_free hAr⟩⟩) ?_
        walk_nrm
        refine anyR_take (i' := 7) rfl (by kernel_rfl) (by kernel_rfl) (by kernel_rfl) (by kernel_rfl) (fun w' hS => by
          have k1 : w'.cell? ⟨ar, off + k * 2, none⟩ = some (.int .i64 (xs[k]).1) := by rw [show w' = w from hS]; exact ck
          have k2 : w'.cell? ⟨ar, off + k * 2 + 1, none⟩ = some (.int .i64 (xs[k]).2) := by rw [show w' = w from hS]; exact dk
          exact .inl ⟨rfl, fun d => ⟨by go_simp; rfl, fun e he => by simp [go_sem, *] at he⟩⟩) ?_
        walk_nrm
        refine anyR_take (i' := 8) rfl (by kernel_rfl) (by kernel_rfl) (by kernel_rfl) (by kernel_rfl) (fun w' hS => by
          have k1 : w'.cell? ⟨ar, off + k * 2, none⟩ = some (.int .i64 (xs[k]).1) := by rw [show w' = w from hS]; exact ck
          have k2 : w'.cell? ⟨ar, off + k * 2 + 1, none⟩ = some (.int .i64 (xs[k]).2) := by rw [show w' = w from hS]; exact dk
          exact .inl ⟨rfl, fun d => ⟨by go_simp; rfl, fun e he => by simp [go_sem, *] at he⟩⟩) ?_
        walk_nrm
        refine anyR_take (i' := 9) rfl (by kernel_rfl) (by kernel_rfl) (by kernel_rfl) (by kernel_rfl) (fun w' hS => by
          have k1 : w'.cell? ⟨ar, off + k * 2, none⟩ = some (.int .i64 (xs[k]).1) := by rw [show w' = w from hS]; exact ck
          have k2 : w'.cell? ⟨ar, off + k * 2 + 1, none⟩ = some (.int .i64 (xs[k]).2) := by rw [show w' = w from hS]; exact dk
          exact .inl ⟨rfl, fun d => ⟨by go_simp; rfl, fun e he => by simp [go_sem, *] at he⟩⟩) ?_
        walk_nrm
        refine anyR_take (i' := 10) rfl (by kernel_rfl) (by kernel_rfl) (by kernel_rfl) (by kernel_rfl) (fun w' hS => by
          have k1 : w'.cell? ⟨ar, off + k * 2, none⟩ = some (.int .i64 (xs[k]).1) := by rw [show w' = w from hS]; exact ck
          have k2 : w'.cell? ⟨ar, off + k * 2 + 1, none⟩ = some (.int .i64 (xs[k]).2) := by rw [show w' = w from hS]; exact dk
          exact .inl ⟨rfl, fun d => ⟨by go_simp; rfl, fun e he => by simp [go_sem, *] at he⟩⟩) ?_
        walk_nrm
        refine anyR_take (i' := 11) rfl (by kernel_rfl) (by kernel_rfl) (by kernel_rfl) (by kernel_rfl) (fun w' hS => by
          have k1 : w'.cell? ⟨ar, off + k * 2, none⟩ = some (.int .i64 (xs[k]).1) := by rw [show w' = w from hS]; exact ck
          have k2 : w'.cell? ⟨ar, off + k * 2 + 1, none⟩ = some (.int .i64 (xs[k]).2) := by rw [show w' = w from hS]; exact dk
          exact .inl ⟨rfl, fun d => ⟨by go_simp; rfl, fun e he => by simp [go_sem, *] at he; subst he; exact evL_free hAr⟩⟩) ?_
        walk_nrm
        refine anyR_call (j := 6) hC rfl (by kernel_rfl) (by kernel_rfl) rfl rfl rfl (by first | (simp only [List.map_toArray, List.map_cons, List.map_nil]; done) | (simp only [List.map_toArray, List.map_cons, List.map_nil]; rfl)) (fun X' v w' hr => ?_)
        obtain ⟨rfl, rfl, rfl⟩ := hr
        refine ⟨rfl, ?_⟩
        walk_nrm
        refine anyR_take (i' := 12) rfl (by kernel_rfl) (by kernel_rfl) (by kernel_rfl) (by kernel_rfl) (fun w2 hS => .inl ⟨rfl, fun d => ⟨by go_simp; rfl, fun e he => by simp [go_sem, *] at he⟩⟩) ?_
        walk_nrm
        try rw [hnl]
        exact anyR_done (by kernel_rfl) rfl ⟨rfl, _, _, _, _, _, _, _, _, _, _, _, _, _, _, _, _, _, _, _, _, _, _, _, _, _, _, _, _, _, _, _, _, _, _, _, _, _, _, _, _, _, _, _, _, _, _, _, _, _, rfl⟩
      · obtain ⟨rfl, z2, z3, z8, z9, z10, z11, z12, z13, z14, z15, z16, z17, z18, z19, z20, z21, z22, z23, z24, z25, z26, z27, z28, z29, z30, z31, z32, z33, z34, z35, z36, z37, z38, z39, z40, z41, z42, z43, z44, z45, z46, z47, z48, z49, z50, z52, z53, z54, z55, rfl⟩ := hq
        repeat first
          | refine Run.seq ?_
          | refine Run.skip ?_
          | refine Run.regionEnd ?_
          | refine Run.block ?_
          | refine Run.inBlock ?_
          | (refine Run.region ?_; simp only [List.size_toArray, List.length_cons, List.length_nil, Nat.reduceAdd, Nat.zero_add, List.range, List.range.loop])
          | (refine Run.cond rfl ?_; simp only [if_true, if_false, Bool.false_eq_true, ↓reduceIte])
          | (refine Run.unwanted rfl rfl ?_; walk_nrm)
          | (refine Run.op0 rfl rfl (by k_ne) (fun d K hK => by go_simp; exact hK) (fun d => by first | (simp [go_sem, *] <;> fail) | fail) ?_; try w_num)
          | refine Run.ret ?_
          | refine Run.fin ?_
          | refine Run.exit rfl ?_
        first | rw [ew] | rw [show (k : Int) + 1 = ((k + 1 : Nat) : Int) by omega]
        refine Run.inLoop ?_
        exact ih _ _ _ _ _ _ _ _ _ _ _ _ _ _ _ _ _ _ _ _ _ _ _ _ _ _ _ _ _ _ _ _ _ _ _ _ _ _ _ _ _ _ _ _ _ _ _ _ _ _
    · have hMd : decide (M < (xs[k]).2) = false := decide_eq_false hM
      rw [if_neg hM] at ih
      rw [hMd]
      clear hM
      repeat first
        | refine Run.seq ?_
        | refine Run.skip ?_
        | refine Run.regionEnd ?_
        | refine Run.block ?_
        | refine Run.inBlock ?_
        | (refine Run.region ?_; simp only [List.size_toArray, List.length_cons, List.length_nil, Nat.reduceAdd, Nat.zero_add, List.range, List.range.loop])
        | (refine Run.cond rfl ?_; simp only [if_true, if_false, Bool.false_eq_true, ↓reduceIte])
        | (refine Run.unwanted rfl rfl ?_; walk_nrm)
        | (refine Run.op0 rfl rfl (by k_ne) (fun d K hK => by go_simp; exact hK) (fun d => by first | (simp [go_sem, *] <;> fail) | fail) ?_; try w_num)
        | refine Run.ret ?_
        | refine Run.fin ?_
        | refine Run.exit rfl ?_
        | ((refine Run.op w rfl rfl (by k_ne) (fun d K hK => by go_simp; exact hK) (fun d e he => by simp [go_sem, *] at he; subst he; exact evL_free hAr) ?_; try w_num))
      refine Run.draw (by k_ne) rfl (fun a' w' => w' = w ∧ ∃ (y2 y3 y8 y9 y10 y11 y12 y13 y14 y15 y16 y17 y18 y19 y20 y21 y22 y23 y24 y25 y26 y27 y28 y29 y30 y31 y32 y33 y34 y35 y36 y37 y38 y39 y40 y41 y42 y43 y44 y45 y46 y47 y48 y49 y50 y52 y53 y54 y55 : Value), a' = ⟨#[.slice (some ⟨ar, off, none⟩) xs.length cap, .int .i64 n, y2, y3, .bool false, .pointer (some ⟨T, 0, none⟩), .int .i64 M, .int .i64 (k : Int), y8, y9, y10, y11, y12, y13, y14, y15, y16, y17, y18, y19, y20, y21, y22, y23, y24, y25, y26, y27, y28, y29, y30, y31, y32, y33, y34, y35, y36, y37, y38, y39, y40, y41, y42, y43, y44, y45, y46, y47, y48, y49, y50, .bool false, y52, y53, y54, y55], []⟩) (fun w' => w' = w) ?_ (fun a' w' hq => ?_)
      · simp only [List.size_toArray, List.length_cons, List.length_nil, Nat.reduceAdd, Nat.zero_add]
        refine anyR_take (i' := 0) rfl (by kernel_rfl) (by kernel_rfl) (by kernel_rfl) (by kernel_rfl) (fun w' hS => by
          have k1 : w'.cell? ⟨ar, off + k * 2, none⟩ = some (.int .i64 (xs[k]).1) := by rw [show w' = w from hS]; exact ck
          have k2 : w'.cell? ⟨ar, off + k * 2 + 1, none⟩ = some (.int .i64 (xs[k]).2) := by rw [show w' = w from hS]; exact dk
          exact .inl ⟨rfl, fun d => ⟨by go_simp; rfl, fun e he => by simp [go_sem, *] at he⟩⟩) ?_
        walk_nrm
        refine anyR_take (i' := 1) rfl (by kernel_rfl) (by kernel_rfl) (by kernel_rfl) (by kernel_rfl) (fun w' hS => by
          have k1 : w'.cell? ⟨ar, off + k * 2, none⟩ = some (.int .i64 (xs[k]).1) := by rw [show w' = w from hS]; exact ck
          have k2 : w'.cell? ⟨ar, off + k * 2 + 1, none⟩ = some (.int .i64 (xs[k]).2) := by rw [show w' = w from hS]; exact dk
          exact .inl ⟨rfl, fun d => ⟨by go_simp; rfl, fun e he => by simp [go_sem, *] at he⟩⟩) ?_
        walk_nrm
        refine anyR_take (i' := 2) rfl (by kernel_rfl) (by kernel_rfl) (by kernel_rfl) (by kernel_rfl) (fun w' hS => by
          have k1 : w'.cell? ⟨ar, off + k * 2, none⟩ = some (.int .i64 (xs[k]).1) := by rw [show w' = w from hS]; exact ck
          have k2 : w'.cell? ⟨ar, off + k * 2 + 1, none⟩ = some (.int .i64 (xs[k]).2) := by rw [show w' = w from hS]; exact dk
          exact .inl ⟨rfl, fun d => ⟨by go_simp; rfl, fun e he => by simp [go_sem, *] at he⟩⟩) ?_
        walk_nrm
        refine anyR_take (i' := 3) rfl (by kernel_rfl) (by kernel_rfl) (by kernel_rfl) (by kernel_rfl) (fun w' hS => by
          have k1 : w'.cell? ⟨ar, off + k * 2, none⟩ = some (.int .i64 (xs[k]).1) := by rw [show w' = w from hS]; exact ck
          have k2 : w'.cell? ⟨ar, off + k * 2 + 1, none⟩ = some (.int .i64 (xs[k]).2) := by rw [show w' = w from hS]; exact dk
          exact .inl ⟨rfl, fun d => ⟨by go_simp; rfl, fun e he => by simp [go_sem, *] at he⟩⟩) ?_
        walk_nrm
        refine anyR_take (i' := 4) rfl (by kernel_rfl) (by kernel_rfl) (by kernel_rfl) (by kernel_rfl) (fun w' hS => by
          have k1 : w'.cell? ⟨ar, off + k * 2, none⟩ = some (.int .i64 (xs[k]).1) := by rw [show w' = w from hS]; exact ck
          have k2 : w'.cell? ⟨ar, off + k * 2 + 1, none⟩ = some (.int .i64 (xs[k]).2) := by rw [show w' = w from hS]; exact dk
          exact .inl ⟨rfl, fun d => ⟨by go_simp; rfl, fun e he => by simp [go_sem, *] at he⟩⟩) ?_
        walk_nrm
        refine anyR_take (i' := 5) rfl (by kernel_rfl) (by kernel_rfl) (by kernel_rfl) (by kernel_rfl) (fun w' hS => by
          have k1 : w'.cell? ⟨ar, off + k * 2, none⟩ = some (.int .i64 (xs[k]).1) := by rw [show w' = w from hS]; exact ck
          have k2 : w'.cell? ⟨ar, off + k * 2 + 1, none⟩ = some (.int .i64 (xs[k]).2) := by rw [show w' = w from hS]; exact dk
          exact .inl ⟨rfl, fun d => ⟨by go_simp; rfl, fun e he => by simp [go_sem, *] at he; subst he; exact evL_free hAr⟩⟩) ?_
        walk_nrm
        refine anyR_take (i' := 7) rfl (by kernel_rfl) (by kernel_rfl) (by kernel_rfl) (by kernel_rfl) (fun w' hS => by
          have k1 : w'.cell? ⟨ar, off + k * 2, none⟩ = some (.int .i64 (xs[k]).1) := by rw [show w' = w from hS]; exact ck
          have k2 : w'.cell? ⟨ar, off + k * 2 + 1, none⟩ = some (.int .i64 (xs[k]).2) := by rw [show w' = w from hS]; exact dk
          exact .inl ⟨rfl, fun d => ⟨by go_simp; rfl, fun e he => by simp [go_sem, *] at he⟩⟩) ?_
        walk_nrm
        refine anyR_take (i' := 8) rfl (by kernel_rfl) (by kernel_rfl) (by kernel_rfl) (by kernel_rfl) (fun w' hS => by
          have k1 : w'.cell? ⟨ar, off + k * 2, none⟩ = some (.int .i64 (xs[k]).1) := by rw [show w' = w from hS]; exact ck
          have k2 : w'.cell? ⟨ar, off + k * 2 + 1, none⟩ = some (.int .i64 (xs[k]).2) := by rw [show w' = w from hS]; exact dk
          exact .inl ⟨rfl, fun d => ⟨by go_simp; rfl, fun e he => by simp [go_sem, *] at he⟩⟩) ?_
        walk_nrm
        refine anyR_take (i' := 9) rfl (by kernel_rfl) (by kernel_rfl) (by kernel_rfl) (by kernel_rfl) (fun w' hS => by
          have k1 : w'.cell? ⟨ar, off + k * 2, none⟩ = some (.int .i64 (xs[k]).1) := by rw [show w' = w from hS]; exact ck
          have k2 : w'.cell? ⟨ar, off + k * 2 + 1, none⟩ = some (.int .i64 (xs[k]).2) := by rw [show w' = w from hS]; exact dk
          exact .inl ⟨rfl, fun d => ⟨by go_simp; rfl, fun e he => by simp [go_sem, *] at he⟩⟩) ?_
        walk_nrm
        refine anyR_take (i' := 10) rfl (by kernel_rfl) (by kernel_rfl) (by kernel_rfl) (by kernel_rfl) (fun w' hS => by
          have k1 : w'.cell? ⟨ar, off + k * 2, none⟩ = some (.int .i64 (xs[k]).1) := by rw [show w' = w from hS]; exact ck
          have k2 : w'.cell? ⟨ar, off + k * 2 + 1, none⟩ = some (.int .i64 (xs[k]).2) := by rw [show w' = w from hS]; exact dk
          exact .inl ⟨rfl, fun d => ⟨by go_simp; rfl, fun e he => by simp [go_sem, *] at he⟩⟩) ?_
        walk_nrm
        refine anyR_take (i' := 11) rfl (by kernel_rfl) (by kernel_rfl) (by kernel_rfl) (by kernel_rfl) (fun w' hS => by
          have k1 : w'.cell? ⟨ar, off + k * 2, none⟩ = some (.int .i64 (xs[k]).1) := by rw [show w' = w from hS]; exact ck
          have k2 : w'.cell? ⟨ar, off + k * 2 + 1, none⟩ = some (.int .i64 (xs[k]).2) := by rw [show w' = w from hS]; exact dk
          exact .inl ⟨rfl, fun d => ⟨by go_simp; rfl, fun e he => by simp [go_sem, *] at he; subst he; exact evL_free hAr⟩⟩) ?_
        walk_nrm
        refine anyR_call (j := 6) hC rfl (by kernel_rfl) (by kernel_rfl) rfl rfl rfl (by first | (simp only [List.map_toArray, List.map_cons, List.map_nil]; done) | (simp only [List.map_toArray, List.map_cons, List.map_nil]; rfl)) (fun X' v w' hr => ?_)
        obtain ⟨rfl, rfl, rfl⟩ := hr
        refine ⟨rfl, ?_⟩
        walk_nrm
        refine anyR_take (i' := 12) rfl (by kernel_rfl) (by kernel_rfl) (by kernel_rfl) (by kernel_rfl) (fun w2 hS => .inl ⟨rfl, fun d => ⟨by go_simp; rfl, fun e he => by simp [go_sem, *] at he⟩⟩) ?_
        walk_nrm
        try rw [hnl]
        exact anyR_done (by kernel_rfl) rfl ⟨rfl, _, _, _, _, _, _, _, _, _, _, _, _, _, _, _, _, _, _, _, _, _, _, _, _, _, _, _, _, _, _, _, _, _, _, _, _, _, _, _, _, _, _, _, _, _, _, _, _, _, rfl⟩
      · obtain ⟨rfl, z2, z3, z8, z9, z10, z11, z12, z13, z14, z15, z16, z17, z18, z19, z20, z21, z22, z23, z24, z25, z26, z27, z28, z29, z30, z31, z32, z33, z34, z35, z36, z37, z38, z39, z40, z41, z42, z43, z44, z45, z46, z47, z48, z49, z50, z52, z53, z54, z55, rfl⟩ := hq
        repeat first
          | refine Run.seq ?_
          | refine Run.skip ?_
          | refine Run.regionEnd ?_
          | refine Run.block ?_
          | refine Run.inBlock ?_
          | (refine Run.region ?_; simp only [List.size_toArray, List.length_cons, List.length_nil, Nat.reduceAdd, Nat.zero_add, List.range, List.range.loop])
          | (refine Run.cond rfl ?_; simp only [if_true, if_false, Bool.false_eq_true, ↓reduceIte])
          | (refine Run.unwanted rfl rfl ?_; walk_nrm)
          | (refine Run.op0 rfl rfl (by k_ne) (fun d K hK => by go_simp; exact hK) (fun d => by first | (simp [go_sem, *] <;> fail) | fail) ?_; try w_num)
          | refine Run.ret ?_
          | refine Run.fin ?_
          | refine Run.exit rfl ?_
        first | rw [ew] | rw [show (k : Int) + 1 = ((k + 1 : Nat) : Int) by omega]
        refine Run.inLoop ?_
        exact ih _ _ _ _ _ _ _ _ _ _ _ _ _ _ _ _ _ _ _ _ _ _ _ _ _ _ _ _ _ _ _ _ _ _ _ _ _ _ _ _ _ _ _ _ _ _ _ _ _ _
set_option maxRecDepth 100000 in
set_option maxHeartbeats 8000000 in
theorem most_run {Post : Value → World → Prop} {W : World} (hP : ∀ w', Keep W w' → Post (.bool true) w') (xs : List (Int × Int)) {sl : Option Addr} {cap : Nat} {n : Int} (hlen : xs.length ≤ 4611686018427387904) (hst : StepsAt sl xs W) (hsl : ∀ ar off, sl = some ⟨ar, off, none⟩ → ar < W.heap.size) :
    Run Try.prog (top Post W) (G ((base 7).at ⟨#[.slice sl xs.length cap, .int .i64 n, undef, undef, undef, undef, undef, undef, undef, undef, undef, undef, undef, undef, undef, undef, undef, undef, undef, undef, undef, undef, undef, undef, undef, undef, undef, undef, undef, undef, undef, undef, undef, undef, undef, undef, undef, undef, undef, undef, undef, undef, undef, undef, undef, undef, undef, undef, undef, undef, undef, undef, undef, undef, undef, undef], []⟩ [.code (Try.f7.body.getD .skip)]) []) W := by
  have hX0 := top_ok Post W
  have hm0 := top_mem Post W
  have hpost : (top Post W).Post = Post := rfl
  have hrd0 : (top Post W).reads sl := fun ar off e => top_free Post (hsl ar off e)
  generalize top Post W = X0 at hX0 hm0 hpost hrd0 ⊢
  simp only [Try.f7, Option.getD_some]
  repeat first
    | refine Run.seq ?_
    | refine Run.skip ?_
    | refine Run.regionEnd ?_
    | refine Run.block ?_
    | refine Run.inBlock ?_
    | (refine Run.region ?_; simp only [List.size_toArray, List.length_cons, List.length_nil, Nat.reduceAdd, Nat.zero_add, List.range, List.range.loop])
    | (refine Run.cond rfl ?_; simp only [if_true, if_false, Bool.false_eq_true, ↓reduceIte])
    | (refine Run.unwanted rfl rfl ?_; walk_nrm)
    | (refine Run.op0 rfl rfl (by k_ne) (fun d K hK => by go_simp; exact hK) (fun d => by first | (simp [go_sem, *] <;> fail) | fail) ?_; try w_num)
    | refine Run.ret ?_
    | refine Run.fin ?_
    | refine Run.exit rfl ?_
  refine Run.con (awake_con hX0 hm0) rfl rfl (by k_ne) rfl (by first | (simp only [List.map_toArray, List.map_cons, List.map_nil]; done) | (simp only [List.map_toArray, List.map_cons, List.map_nil]; rfl)) (fun X1 v w1 hr => ?_)
  obtain ⟨hN1, hO1, rfl⟩ := hr
  have hX1 := hN1.ok hX0
  walk_nrm
  repeat first
    | refine Run.seq ?_
    | refine Run.skip ?_
    | refine Run.regionEnd ?_
    | refine Run.block ?_
    | refine Run.inBlock ?_
    | (refine Run.region ?_; simp only [List.size_toArray, List.length_cons, List.length_nil, Nat.reduceAdd, Nat.zero_add, List.range, List.range.loop])
    | (refine Run.cond rfl ?_; simp only [if_true, if_false, Bool.false_eq_true, ↓reduceIte])
    | (refine Run.unwanted rfl rfl ?_; walk_nrm)
    | (refine Run.op0 rfl rfl (by k_ne) (fun d K hK => by go_simp; exact hK) (fun d => by first | (simp [go_sem, *] <;> fail) | fail) ?_; try w_num)
    | refine Run.ret ?_
    | refine Run.fin ?_
    | refine Run.exit rfl ?_
  refine Run.con (new_con hX1) rfl rfl (by k_ne) rfl (by first | (simp only [List.map_toArray, List.map_cons, List.map_nil]; done) | (simp only [List.map_toArray, List.map_cons, List.map_nil]; rfl)) (fun X2 v w2 hr => ?_)
  obtain ⟨rfl, rfl, hO2, hs2, ht2⟩ := hr
  obtain ⟨T, hTd⟩ : ∃ T, w1.heap.size = T := ⟨_, rfl⟩
  rw [hTd] at ht2 hs2
  simp only [hTd]
  have hN2 : X0.Next W (X1.up w2.heap.size) w2 := hN1.trans (Cx.next_up hX1 (by omega))
  have hX2 := hN2.ok hX0
  have hm2 : ∀ l : Loc, l.isMemory = false → (X1.up w2.heap.size).Sh l := fun l hl => hN2.sub l (hm0 l hl)
  have hT2 : (X1.up w2.heap.size).free T := ⟨by rw [hN2.B]; omega, hX1.new T (by omega)⟩
  have hKp2 : Keep W w2 := hO1.keep hO2 hO1.size
  have hst2 : StepsAt sl xs w2 := hst.off hKp2
  have hrd2 : (X1.up w2.heap.size).reads sl := fun ar off e => hN2.free hX0 (hrd0 ar off e)
  have hTW : W.heap.size ≤ T := by have := hO1.size; omega
  have hna : ∀ ar off, sl = some ⟨ar, off, none⟩ → ar ≠ T := fun ar off e => by have := hsl ar off e; have := hO1.size; omega
  generalize X1.up w2.heap.size = X2 at hN2 hX2 hm2 hT2 hrd2 ⊢
  clear hN1 hX1 hO1 hO2 hrd0
  have hp2 : X2.Post = Post := hN2.post.trans hpost
  have hfin : ∀ (X : Cx) (w' : World), X.Post = Post → Keep W w' → ∀ w₁, AtRel w' w₁ → X.Post (.bool true) w₁ := fun X w' e hk w₁ h₁ => by
    obtain ⟨d, rfl⟩ := h₁
    rw [e]
    exact hP _ (hk.at d)
  try walk_nrm
  by_cases h1000 : 1000 < xs.length
  · have d1 : decide ((1000 : Int) < (xs.length : Int)) = true := decide_eq_true (by omega)
    have d1' : decide (1000 < xs.length) = true := decide_eq_true h1000
    clear hst2 h1000 hst
    repeat first
      | refine Run.seq ?_
      | refine Run.skip ?_
      | refine Run.regionEnd ?_
      | refine Run.block ?_
      | refine Run.inBlock ?_
      | (refine Run.region ?_; simp only [List.size_toArray, List.length_cons, List.length_nil, Nat.reduceAdd, Nat.zero_add, List.range, List.range.loop])
      | (refine Run.cond rfl ?_; simp only [if_true, if_false, Bool.false_eq_true, ↓reduceIte])
      | (refine Run.unwanted rfl rfl ?_; walk_nrm)
      | (refine Run.op0 rfl rfl (by k_ne) (fun d K hK => by go_simp; exact hK) (fun d => by first | (simp [go_sem, *] <;> fail) | fail) ?_; try w_num)
      | refine Run.ret ?_
      | refine Run.fin ?_
      | refine Run.exit rfl ?_
    exact Run.end1 hX2.hears rfl rfl Try.func7 rfl (by kernel_rfl) (hfin X2 w2 hp2 hKp2)
  · have d1 : decide ((1000 : Int) < (xs.length : Int)) = false := decide_eq_false (by omega)
    have d1' : decide (1000 < xs.length) = false := decide_eq_false h1000
    have hSp := spread_con (x := tl0) xs (sl := sl) (cap := cap) (n := n) (by omega) hX2 hm2 hT2 ht2 (fun c => by show w64 0 = 0; decide) hst2 hrd2 hna
    repeat first
      | refine Run.seq ?_
      | refine Run.skip ?_
      | refine Run.regionEnd ?_
      | refine Run.block ?_
      | refine Run.inBlock ?_
      | (refine Run.region ?_; simp only [List.size_toArray, List.length_cons, List.length_nil, Nat.reduceAdd, Nat.zero_add, List.range, List.range.loop])
      | (refine Run.cond rfl ?_; simp only [if_true, if_false, Bool.false_eq_true, ↓reduceIte])
      | (refine Run.unwanted rfl rfl ?_; walk_nrm)
      | (refine Run.op0 rfl rfl (by k_ne) (fun d K hK => by go_simp; exact hK) (fun d => by first | (simp [go_sem, *] <;> fail) | fail) ?_; try w_num)
      | refine Run.ret ?_
      | refine Run.fin ?_
      | refine Run.exit rfl ?_
    refine Run.con hSp rfl rfl (by k_ne) rfl (by first | (simp only [List.map_toArray, List.map_cons, List.map_nil]; done) | (simp only [List.map_toArray, List.map_cons, List.map_nil]; rfl)) (fun X3 v w3 hr => ?_)
    obtain ⟨n3, o3, ⟨hyes, rfl, ht3⟩ | ⟨hno, rfl, _⟩⟩ := hr
    rotate_left
    · walk_nrm
      clear hSp hst2 h1000
      repeat first
        | refine Run.seq ?_
        | refine Run.skip ?_
        | refine Run.regionEnd ?_
        | refine Run.block ?_
        | refine Run.inBlock ?_
        | (refine Run.region ?_; simp only [List.size_toArray, List.length_cons, List.length_nil, Nat.reduceAdd, Nat.zero_add, List.range, List.range.loop])
        | (refine Run.cond rfl ?_; simp only [if_true, if_false, Bool.false_eq_true, ↓reduceIte])
        | (refine Run.unwanted rfl rfl ?_; walk_nrm)
        | (refine Run.op0 rfl rfl (by k_ne) (fun d K hK => by go_simp; exact hK) (fun d => by first | (simp [go_sem, *] <;> fail) | fail) ?_; try w_num)
        | refine Run.ret ?_
        | refine Run.fin ?_
        | refine Run.exit rfl ?_
      exact Run.end1 n3.d rfl rfl Try.func7 rfl (by kernel_rfl) (hfin X3 w3 (n3.post.trans hp2) (hKp2.keep o3 hTW))
    · walk_nrm
      clear hSp
      repeat first
        | refine Run.seq ?_
        | refine Run.skip ?_
        | refine Run.regionEnd ?_
        | refine Run.block ?_
        | refine Run.inBlock ?_
        | (refine Run.region ?_; simp only [List.size_toArray, List.length_cons, List.length_nil, Nat.reduceAdd, Nat.zero_add, List.range, List.range.loop])
        | (refine Run.cond rfl ?_; simp only [if_true, if_false, Bool.false_eq_true, ↓reduceIte])
        | (refine Run.unwanted rfl rfl ?_; walk_nrm)
        | (refine Run.op0 rfl rfl (by k_ne) (fun d K hK => by go_simp; exact hK) (fun d => by first | (simp [go_sem, *] <;> fail) | fail) ?_; try w_num)
        | refine Run.ret ?_
        | refine Run.fin ?_
        | refine Run.exit rfl ?_
      have hX3 := n3.ok hX2
      have hT3 := n3.free hX2 hT2
      have hst3 : StepsAt sl xs w3 := hst.off (hKp2.keep o3 hTW)
      have hrd3 : X3.reads sl := fun ar off e => n3.free hX2 (hrd2 ar off e)
      have hsm : Small (nats xs) := nats_small hyes.2.2
      have hnl : (nats xs).length ≤ 1000 := by rw [nats_len]; omega
      have hLp := fun (K : List Item) (hK) => most_loop (n := n) (cap := cap) (K := K) xs (by omega) hst3 hrd3 hT3 ht3 hyes.2.2 (fun c => spGoal_small hsm (by omega) c) hK xs.length 0 (by omega)
      have hMo := most_con (X := X3) hT3.1 ht3
      have hfi := hfin X3 w3 (n3.post.trans hp2) (hKp2.keep o3 hTW)
      have hd3 := n3.d
      rw [show (tl0.spread xs).most = lmax 0 (nats xs) from rfl] at hMo
      simp only [loop7, Try.f7, Option.getD_some] at hLp
      clear hst2 h1000 hrd2 hm2 hX2 hT2 hst3 hrd3 hsm hnl ht3 hX3 hT3 n3 o3 hyes
      refine Run.loop ?_
      refine hLp _ ?_ _ _ _ _ _ _ _ _ _ _ _ _ _ _ _ _ _ _ _ _ _ _ _ _ _ _ _ _ _ _ _ _ _ _ _ _ _ _ _ _ _ _ _ _ _ _ _ _ _ _
      intro y2 y3 y8 y9 y10 y11 y12 y13 y14 y15 y16 y17 y18 y19 y20 y21 y22 y23 y24 y25 y26 y27 y28 y29 y30 y31 y32 y33 y34 y35 y36 y37 y38 y39 y40 y41 y42 y43 y44 y45 y46 y47 y48 y49 y50 y51 y52 y53 y54 y55
      generalize lmax 0 (nats xs) = M at hMo ⊢
      repeat first
        | refine Run.seq ?_
        | refine Run.skip ?_
        | refine Run.regionEnd ?_
        | refine Run.block ?_
        | refine Run.inBlock ?_
        | (refine Run.region ?_; simp only [List.size_toArray, List.length_cons, List.length_nil, Nat.reduceAdd, Nat.zero_add, List.range, List.range.loop])
        | (refine Run.cond rfl ?_; simp only [if_true, if_false, Bool.false_eq_true, ↓reduceIte])
        | (refine Run.unwanted rfl rfl ?_; walk_nrm)
        | (refine Run.op0 rfl rfl (by k_ne) (fun d K hK => by go_simp; exact hK) (fun d => by first | (simp [go_sem, *] <;> fail) | fail) ?_; try w_num)
        | refine Run.ret ?_
        | refine Run.fin ?_
        | refine Run.exit rfl ?_
      refine Run.con hMo rfl rfl (by k_ne) rfl (by first | (simp only [List.map_toArray, List.map_cons, List.map_nil]; done) | (simp only [List.map_toArray, List.map_cons, List.map_nil]; rfl)) (fun X4 v w4 hr => ?_)
      obtain ⟨rfl, rfl, rfl⟩ := hr
      walk_nrm
      repeat first
        | refine Run.seq ?_
        | refine Run.skip ?_
        | refine Run.regionEnd ?_
        | refine Run.block ?_
        | refine Run.inBlock ?_
        | (refine Run.region ?_; simp only [List.size_toArray, List.length_cons, List.length_nil, Nat.reduceAdd, Nat.zero_add, List.range, List.range.loop])
        | (refine Run.cond rfl ?_; simp only [if_true, if_false, Bool.false_eq_true, ↓reduceIte])
        | (refine Run.unwanted rfl rfl ?_; walk_nrm)
        | (refine Run.op0 rfl rfl (by k_ne) (fun d K hK => by go_simp; exact hK) (fun d => by first | (simp [go_sem, *] <;> fail) | fail) ?_; try w_num)
        | refine Run.ret ?_
        | refine Run.fin ?_
        | refine Run.exit rfl ?_
      exact Run.end1 hd3 rfl rfl Try.func7 rfl (by kernel_rfl) hfi
end Go.Proofs.Ytboiolnnhmlieaa.Gang
