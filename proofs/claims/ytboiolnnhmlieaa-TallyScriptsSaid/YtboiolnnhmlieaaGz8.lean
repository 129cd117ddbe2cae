
/-
  TallyScripts: the switch over what is done. TallyScripts: its loop. TallyScripts: the element of a round. TallyScripts: its loop. TallyScripts: its walk.
  Conditions: stated lemma by lemma.
-/
import Derived.Test.YtboiolnnhmlieaaGz7
import Derived.Lib.Hide
import Derived.Test.YtboiolnnhmlieaaGz6
namespace Go.Proofs.Ytboiolnnhmlieaa.Gang
open Go.Conc Go.ConcN Go.RowKit Go.Conc.Lib Go.ConcR.Gen Go.ConcN.Gen
set_option linter.unusedVariables false
set_option linter.unusedSimpArgs false
noncomputable def sw3 : Code := match lin3 with | .seq _ (.seq (.block _ (.seq _ (.seq c _))) _) => c | _ => .skip
set_option maxRecDepth 100000 in
set_option maxHeartbeats 8000000 in
theorem sc_switch {X0 X : Cx} {w0 w : World} {T R D k cap : Nat} {x : Tl} {ds : List DoV} {sl : Option Addr} {d : DoV} {KK : List Item} (z : Sc0 X0 w0 T R) (h : Sc2 X0 w0 T R X w x x) (hD : w.heap[D]? = some (boxD d)) (hDl : w0.heap.size ≤ D) (hDf : X.free D) (hwf : ∀ c, w64 (x.cs c) = x.cs c) (ht0 : 0 ≤ x.tick) (htk1 : x.tick ≤ 2305843009213693952)
    (hst : StepsAt d.sl d.steps w0) (hrd : d.steps ≠ [] → X0.reads d.sl) (hna : d.steps ≠ [] → ∀ ar off, d.sl = some ⟨ar, off, none⟩ → ar < w0.heap.size ∧ ar ≠ T ∧ ar ≠ R) (hK : ∀ (X' : Cx) (w' : World) (x' : Tl) (y1 y7 y8 y9 y10 y11 y12 y13 y14 y15 y16 y17 y18 y19 y20 y21 y22 y23 y24 y25 y26 y27 y28 y29 y30 y31 y32 y33 y34 y35 y36 y37 y38 y39 y40 y41 y42 y43 y44 y45 y46 y47 y48 y49 y50 y51 y52 y53 y54 y55 y56 y57 y58 y59 y60 y61 y62 y63 y64 y65 y66 y67 y68 y69 y70 y71 y72 y73 y74 y75 y76 y77 y78 y79 y80 y81 y82 y83 y84 y85 y86 y87 y88 y89 y90 y91 y92 y93 y94 y95 y96 y97 y98 y99 y100 y101 y102 y103 y104 y105 y106 y107 y108 y109 y110 y111 y112 y113 y114 y115 y116 y117 y118 y119 y120 y121 y122 y123 y124 y125 y126 y127 : Value), Sc2 X0 w0 T R X' w' x' x' → ((∀ c, w64 (x'.cs c) = x'.cs c) ∧ 0 ≤ x'.tick ∧ x'.tick ≤ x.tick + 16001) → Run Try.prog X' (G ((base 3).at ⟨#[.slice sl ds.length cap, y1, .bool false, .pointer (some ⟨T, 0, none⟩), .pointer (some ⟨R, 0, none⟩), .int .i64 (k : Int), .pointer (some ⟨D, 0, none⟩), y7, y8, y9, y10, y11, y12, y13, y14, y15, y16, y17, y18, y19, y20, y21, y22, y23, y24, y25, y26, y27, y28, y29, y30, y31, y32, y33, y34, y35, y36, y37, y38, y39, y40, y41, y42, y43, y44, y45, y46, y47, y48, y49, y50, y51, y52, y53, y54, y55, y56, y57, y58, y59, y60, y61, y62, y63, y64, y65, y66, y67, y68, y69, y70, y71, y72, y73, y74, y75, y76, y77, y78, y79, y80, y81, y82, y83, y84, y85, y86, y87, y88, y89, y90, y91, y92, y93, y94, y95, y96, y97, y98, y99, y100, y101, y102, y103, y104, y105, y106, y107, y108, y109, y110, y111, y112, y113, y114, y115, y116, y117, y118, y119, y120, y121, y122, y123, y124, y125, y126, y127], []⟩ KK) []) w') (y1 y7 y8 y9 y10 y11 y12 y13 y14 y15 y16 y17 y18 y19 y20 y21 y22 y23 y24 y25 y26 y27 y28 y29 y30 y31 y32 y33 y34 y35 y36 y37 y38 y39 y40 y41 y42 y43 y44 y45 y46 y47 y48 y49 y50 y51 y52 y53 y54 y55 y56 y57 y58 y59 y60 y61 y62 y63 y64 y65 y66 y67 y68 y69 y70 y71 y72 y73 y74 y75 y76 y77 y78 y79 y80 y81 y82 y83 y84 y85 y86 y87 y88 y89 y90 y91 y92 y93 y94 y95 y96 y97 y98 y99 y100 y101 y102 y103 y104 y105 y106 y107 y108 y109 y110 y111 y112 y113 y114 y115 y116 y117 y118 y119 y120 y121 y122 y123 y124 y125 y126 y127 : Value) :
    Run Try.prog X (G ((base 3).at ⟨#[.slice sl ds.length cap, y1, .bool false, .pointer (some ⟨T, 0, none⟩), .pointer (some ⟨R, 0, none⟩), .int .i64 (k : Int), .pointer (some ⟨D, 0, none⟩), y7, y8, y9, y10, y11, y12, y13, y14, y15, y16, y17, y18, y19, y20, y21, y22, y23, y24, y25, y26, y27, y28, y29, y30, y31, y32, y33, y34, y35, y36, y37, y38, y39, y40, y41, y42, y43, y44, y45, y46, y47, y48, y49, y50, y51, y52, y53, y54, y55, y56, y57, y58, y59, y60, y61, y62, y63, y64, y65, y66, y67, y68, y69, y70, y71, y72, y73, y74, y75, y76, y77, y78, y79, y80, y81, y82, y83, y84, y85, y86, y87, y88, y89, y90, y91, y92, y93, y94, y95, y96, y97, y98, y99, y100, y101, y102, y103, y104, y105, y106, y107, y108, y109, y110, y111, y112, y113, y114, y115, y116, y117, y118, y119, y120, y121, y122, y123, y124, y125, y126, y127], []⟩ (.code sw3 :: KK)) []) w := by
  obtain ⟨k0, k1, k2, k3, k4, k5⟩ := boxD_cell hD
  clear k1 k2 k3 k4 k5
  have hfD := hDf
  replace hD := Lib.hid hD
  replace hDf := Lib.hid hDf
  replace h := Lib.hid h
  replace hK := Lib.hid hK
  replace hwf := Lib.hid hwf
  replace hst := Lib.hid hst
  replace hrd := Lib.hid hrd
  replace hna := Lib.hid hna
  simp only [sw3, lin3, Try.f3, Option.getD_some]
  refine Run.seq ?_
  repeat first
    | refine Run.seq ?_
    | refine Run.skip ?_
    | refine Run.regionEnd ?_
    | refine Run.block ?_
    | refine Run.inBlock ?_
    | (refine Run.region ?_; simp only [List.size_toArray, List.length_cons, List.length_nil, Nat.reduceAdd, Nat.zero_add, List.range, List.range.loop])
    | (refine Run.unwanted rfl rfl ?_; walk_nrm)
    | (refine Run.op0 rfl rfl (by k_ne) (fun d K hK => by go_simp; exact hK) (fun d => by first | (simp [go_sem, *] <;> fail) | fail) ?_; try w_num)
    | refine Run.ret ?_
    | refine Run.fin ?_
    | refine Run.exit rfl ?_
    | ((refine Run.op w rfl rfl (by k_ne) (fun d K hK => by go_simp; exact hK) (fun d e he => by simp [go_sem, *] at he; subst he; exact evL_free hfD) ?_; try w_num))
  by_cases e0 : d.kind = 0
  · have q0 : (d.kind == 0) = true := by rw [e0]; rfl
    clear e0
    simp only [q0]
    refine Run.cond rfl ?_
    simp only [if_true, if_false, Bool.false_eq_true, ↓reduceIte]
    exact sc_add z h.out hD.out hDl hDf.out hwf.out ht0 hK.out _ _ _ _ _ _ _ _ _ _ _ _ _ _ _ _ _ _ _ _ _ _ _ _ _ _ _ _ _ _ _ _ _ _ _ _ _ _ _ _ _ _ _ _ _ _ _ _ _ _ _ _ _ _ _ _ _ _ _ _ _ _ _ _ _ _ _ _ _ _ _ _ _ _ _ _ _ _ _ _ _ _ _ _ _ _ _ _ _ _ _ _ _ _ _ _ _ _ _ _ _ _ _ _ _ _ _ _ _ _ _ _ _ _ _ _ _ _ _ _ _ _
  · have q0 : (d.kind == 0) = false := by simpa using e0
    clear e0
    simp only [q0]
    refine Run.cond rfl ?_
    simp only [if_true, if_false, Bool.false_eq_true, ↓reduceIte]
    clear q0
    repeat first
      | refine Run.seq ?_
      | refine Run.skip ?_
      | refine Run.regionEnd ?_
      | refine Run.block ?_
      | refine Run.inBlock ?_
      | (refine Run.region ?_; simp only [List.size_toArray, List.length_cons, List.length_nil, Nat.reduceAdd, Nat.zero_add, List.range, List.range.loop])
      | (refine Run.unwanted rfl rfl ?_; walk_nrm)
      | (refine Run.op0 rfl rfl (by k_ne) (fun d K hK => by go_simp; exact hK) (fun d => by first | (simp [go_sem, *] <;> fail) | fail) ?_; try w_num)
      | refine Run.ret ?_
      | refine Run.fin ?_
      | refine Run.exit rfl ?_
    by_cases e1 : d.kind = 1
    · have q1 : (d.kind == 1) = true := by rw [e1]; rfl
      clear e1
      simp only [q1]
      refine Run.cond rfl ?_
      simp only [if_true, if_false, Bool.false_eq_true, ↓reduceIte]
      exact sc_spread z h.out hD.out hDl hDf.out hwf.out ht0 htk1 hst.out hrd.out hna.out hK.out _ _ _ _ _ _ _ _ _ _ _ _ _ _ _ _ _ _ _ _ _ _ _ _ _ _ _ _ _ _ _ _ _ _ _ _ _ _ _ _ _ _ _ _ _ _ _ _ _ _ _ _ _ _ _ _ _ _ _ _ _ _ _ _ _ _ _ _ _ _ _ _ _ _ _ _ _ _ _ _ _ _ _ _ _ _ _ _ _ _ _ _ _ _ _ _ _ _ _ _ _ _ _ _ _ _ _ _ _ _ _ _ _ _ _ _ _ _ _ _ _ _
    · have q1 : (d.kind == 1) = false := by simpa using e1
      clear e1
      simp only [q1]
      refine Run.cond rfl ?_
      simp only [if_true, if_false, Bool.false_eq_true, ↓reduceIte]
      clear q1
      repeat first
        | refine Run.seq ?_
        | refine Run.skip ?_
        | refine Run.regionEnd ?_
        | refine Run.block ?_
        | refine Run.inBlock ?_
        | (refine Run.region ?_; simp only [List.size_toArray, List.length_cons, List.length_nil, Nat.reduceAdd, Nat.zero_add, List.range, List.range.loop])
        | (refine Run.unwanted rfl rfl ?_; walk_nrm)
        | (refine Run.op0 rfl rfl (by k_ne) (fun d K hK => by go_simp; exact hK) (fun d => by first | (simp [go_sem, *] <;> fail) | fail) ?_; try w_num)
        | refine Run.ret ?_
        | refine Run.fin ?_
        | refine Run.exit rfl ?_
      by_cases e2 : d.kind = 2
      · have q2 : (d.kind == 2) = true := by rw [e2]; rfl
        clear e2
        simp only [q2]
        refine Run.cond rfl ?_
        simp only [if_true, if_false, Bool.false_eq_true, ↓reduceIte]
        exact sc_first z h.out hD.out hDl hDf.out hwf.out ht0 hK.out _ _ _ _ _ _ _ _ _ _ _ _ _ _ _ _ _ _ _ _ _ _ _ _ _ _ _ _ _ _ _ _ _ _ _ _ _ _ _ _ _ _ _ _ _ _ _ _ _ _ _ _ _ _ _ _ _ _ _ _ _ _ _ _ _ _ _ _ _ _ _ _ _ _ _ _ _ _ _ _ _ _ _ _ _ _ _ _ _ _ _ _ _ _ _ _ _ _ _ _ _ _ _ _ _ _ _ _ _ _ _ _ _ _ _ _ _ _ _ _ _ _
      · have q2 : (d.kind == 2) = false := by simpa using e2
        clear e2
        simp only [q2]
        refine Run.cond rfl ?_
        simp only [if_true, if_false, Bool.false_eq_true, ↓reduceIte]
        clear q2
        repeat first
          | refine Run.seq ?_
          | refine Run.skip ?_
          | refine Run.regionEnd ?_
          | refine Run.block ?_
          | refine Run.inBlock ?_
          | (refine Run.region ?_; simp only [List.size_toArray, List.length_cons, List.length_nil, Nat.reduceAdd, Nat.zero_add, List.range, List.range.loop])
          | (refine Run.unwanted rfl rfl ?_; walk_nrm)
          | (refine Run.op0 rfl rfl (by k_ne) (fun d K hK => by go_simp; exact hK) (fun d => by first | (simp [go_sem, *] <;> fail) | fail) ?_; try w_num)
          | refine Run.ret ?_
          | refine Run.fin ?_
          | refine Run.exit rfl ?_
        by_cases e3 : d.kind = 3
        · have q3 : (d.kind == 3) = true := by rw [e3]; rfl
          clear e3
          simp only [q3]
          refine Run.cond rfl ?_
          simp only [if_true, if_false, Bool.false_eq_true, ↓reduceIte]
          exact sc_ticket z h.out hD.out hDl hDf.out hwf.out ht0 htk1 hK.out _ _ _ _ _ _ _ _ _ _ _ _ _ _ _ _ _ _ _ _ _ _ _ _ _ _ _ _ _ _ _ _ _ _ _ _ _ _ _ _ _ _ _ _ _ _ _ _ _ _ _ _ _ _ _ _ _ _ _ _ _ _ _ _ _ _ _ _ _ _ _ _ _ _ _ _ _ _ _ _ _ _ _ _ _ _ _ _ _ _ _ _ _ _ _ _ _ _ _ _ _ _ _ _ _ _ _ _ _ _ _ _ _ _ _ _ _ _ _ _ _ _
        · have q3 : (d.kind == 3) = false := by simpa using e3
          clear e3
          simp only [q3]
          refine Run.cond rfl ?_
          simp only [if_true, if_false, Bool.false_eq_true, ↓reduceIte]
          clear q3
          exact sc_draw z h.out hD.out hDl hDf.out hwf.out ht0 htk1 hK.out _ _ _ _ _ _ _ _ _ _ _ _ _ _ _ _ _ _ _ _ _ _ _ _ _ _ _ _ _ _ _ _ _ _ _ _ _ _ _ _ _ _ _ _ _ _ _ _ _ _ _ _ _ _ _ _ _ _ _ _ _ _ _ _ _ _ _ _ _ _ _ _ _ _ _ _ _ _ _ _ _ _ _ _ _ _ _ _ _ _ _ _ _ _ _ _ _ _ _ _ _ _ _ _ _ _ _ _ _ _ _ _ _ _ _ _ _ _ _ _ _ _
end Go.Proofs.Ytboiolnnhmlieaa.Gang
namespace Go.Proofs.Ytboiolnnhmlieaa.Gang
open Go.Conc Go.ConcN Go.RowKit Go.Conc.Lib Go.ConcR.Gen Go.ConcN.Gen
set_option linter.unusedVariables false
set_option linter.unusedSimpArgs false
set_option maxRecDepth 100000 in
set_option maxHeartbeats 8000000 in
theorem scr_end {X : Cx} {w : World} {T R k cap : Nat} {ds : List DoV} {sl : Option Addr} {K : List Item} (hk : k + 0 = min ds.length 100) (hK : ∀ (y1 y6 y7 y8 y9 y10 y11 y12 y13 y14 y15 y16 y17 y18 y19 y20 y21 y22 y23 y24 y25 y26 y27 y28 y29 y30 y31 y32 y33 y34 y35 y36 y37 y38 y39 y40 y41 y42 y43 y44 y45 y46 y47 y48 y49 y50 y51 y52 y53 y54 y55 y56 y57 y58 y59 y60 y61 y62 y63 y64 y65 y66 y67 y68 y69 y70 y71 y72 y73 y74 y75 y76 y77 y78 y79 y80 y81 y82 y83 y84 y85 y86 y87 y88 y89 y90 y91 y92 y93 y94 y95 y96 y97 y98 y99 y100 y101 y102 y103 y104 y105 y106 y107 y108 y109 y110 y111 y112 y113 y114 y115 y116 y117 y118 y119 y120 y121 y122 y123 y124 y125 y126 y127 : Value), Run Try.prog X (G ((base 3).at ⟨#[.slice sl ds.length cap, y1, .bool false, .pointer (some ⟨T, 0, none⟩), .pointer (some ⟨R, 0, none⟩), .int .i64 (k : Int), y6, y7, y8, y9, y10, y11, y12, y13, y14, y15, y16, y17, y18, y19, y20, y21, y22, y23, y24, y25, y26, y27, y28, y29, y30, y31, y32, y33, y34, y35, y36, y37, y38, y39, y40, y41, y42, y43, y44, y45, y46, y47, y48, y49, y50, y51, y52, y53, y54, y55, y56, y57, y58, y59, y60, y61, y62, y63, y64, y65, y66, y67, y68, y69, y70, y71, y72, y73, y74, y75, y76, y77, y78, y79, y80, y81, y82, y83, y84, y85, y86, y87, y88, y89, y90, y91, y92, y93, y94, y95, y96, y97, y98, y99, y100, y101, y102, y103, y104, y105, y106, y107, y108, y109, y110, y111, y112, y113, y114, y115, y116, y117, y118, y119, y120, y121, y122, y123, y124, y125, y126, y127], []⟩ K) []) w) (y1 y6 y7 y8 y9 y10 y11 y12 y13 y14 y15 y16 y17 y18 y19 y20 y21 y22 y23 y24 y25 y26 y27 y28 y29 y30 y31 y32 y33 y34 y35 y36 y37 y38 y39 y40 y41 y42 y43 y44 y45 y46 y47 y48 y49 y50 y51 y52 y53 y54 y55 y56 y57 y58 y59 y60 y61 y62 y63 y64 y65 y66 y67 y68 y69 y70 y71 y72 y73 y74 y75 y76 y77 y78 y79 y80 y81 y82 y83 y84 y85 y86 y87 y88 y89 y90 y91 y92 y93 y94 y95 y96 y97 y98 y99 y100 y101 y102 y103 y104 y105 y106 y107 y108 y109 y110 y111 y112 y113 y114 y115 y116 y117 y118 y119 y120 y121 y122 y123 y124 y125 y126 y127 : Value) :
    Run Try.prog X (G ((base 3).at ⟨#[.slice sl ds.length cap, y1, .bool false, .pointer (some ⟨T, 0, none⟩), .pointer (some ⟨R, 0, none⟩), .int .i64 (k : Int), y6, y7, y8, y9, y10, y11, y12, y13, y14, y15, y16, y17, y18, y19, y20, y21, y22, y23, y24, y25, y26, y27, y28, y29, y30, y31, y32, y33, y34, y35, y36, y37, y38, y39, y40, y41, y42, y43, y44, y45, y46, y47, y48, y49, y50, y51, y52, y53, y54, y55, y56, y57, y58, y59, y60, y61, y62, y63, y64, y65, y66, y67, y68, y69, y70, y71, y72, y73, y74, y75, y76, y77, y78, y79, y80, y81, y82, y83, y84, y85, y86, y87, y88, y89, y90, y91, y92, y93, y94, y95, y96, y97, y98, y99, y100, y101, y102, y103, y104, y105, y106, y107, y108, y109, y110, y111, y112, y113, y114, y115, y116, y117, y118, y119, y120, y121, y122, y123, y124, y125, y126, y127], []⟩ (.code lin3 :: .inLoop lin3 :: .inBlock 0 :: K)) []) w := by
  replace hK := Lib.hid hK
  simp only [lin3, Try.f3, Option.getD_some]
  by_cases hlt : k < ds.length
  · have d1 : decide ((k : Int) < (ds.length : Int)) = true := decide_eq_true (by omega)
    have d1' : decide (k < ds.length) = true := decide_eq_true hlt
    have d2 : decide ((k : Int) < 100) = false := decide_eq_false (by omega)
    clear hlt hk
    repeat first
      | refine Run.seq ?_
      | refine Run.skip ?_
      | refine Run.regionEnd ?_
      | refine Run.block ?_
      | refine Run.inBlock ?_
      | (refine Run.region ?_; simp only [List.size_toArray, List.length_cons, List.length_nil, Nat.reduceAdd, Nat.zero_add, List.range, List.range.loop])
      | (refine Run.cond rfl ?_; simp only [if_true, if_false, Bool.false_eq_true, ↓reduceIte])
      | (refine Run.unwanted rfl rfl ?_; walk_nrm)
      | (refine Run.op0 rfl rfl (by k_ne) (fun d K hK => by go_simp; exact hK) (fun d => by first | (simp [go_sem, *] <;> fail) | fail) ?_; try w_num)
      | refine Run.ret ?_
      | refine Run.fin ?_
      | refine Run.exit rfl ?_
    exact hK.out _ _ _ _ _ _ _ _ _ _ _ _ _ _ _ _ _ _ _ _ _ _ _ _ _ _ _ _ _ _ _ _ _ _ _ _ _ _ _ _ _ _ _ _ _ _ _ _ _ _ _ _ _ _ _ _ _ _ _ _ _ _ _ _ _ _ _ _ _ _ _ _ _ _ _ _ _ _ _ _ _ _ _ _ _ _ _ _ _ _ _ _ _ _ _ _ _ _ _ _ _ _ _ _ _ _ _ _ _ _ _ _ _ _ _ _ _ _ _ _ _ _ _
  · have d1 : decide ((k : Int) < (ds.length : Int)) = false := decide_eq_false (by omega)
    have d1' : decide (k < ds.length) = false := decide_eq_false hlt
    clear hlt hk
    repeat first
      | refine Run.seq ?_
      | refine Run.skip ?_
      | refine Run.regionEnd ?_
      | refine Run.block ?_
      | refine Run.inBlock ?_
      | (refine Run.region ?_; simp only [List.size_toArray, List.length_cons, List.length_nil, Nat.reduceAdd, Nat.zero_add, List.range, List.range.loop])
      | (refine Run.cond rfl ?_; simp only [if_true, if_false, Bool.false_eq_true, ↓reduceIte])
      | (refine Run.unwanted rfl rfl ?_; walk_nrm)
      | (refine Run.op0 rfl rfl (by k_ne) (fun d K hK => by go_simp; exact hK) (fun d => by first | (simp [go_sem, *] <;> fail) | fail) ?_; try w_num)
      | refine Run.ret ?_
      | refine Run.fin ?_
      | refine Run.exit rfl ?_
    exact hK.out _ _ _ _ _ _ _ _ _ _ _ _ _ _ _ _ _ _ _ _ _ _ _ _ _ _ _ _ _ _ _ _ _ _ _ _ _ _ _ _ _ _ _ _ _ _ _ _ _ _ _ _ _ _ _ _ _ _ _ _ _ _ _ _ _ _ _ _ _ _ _ _ _ _ _ _ _ _ _ _ _ _ _ _ _ _ _ _ _ _ _ _ _ _ _ _ _ _ _ _ _ _ _ _ _ _ _ _ _ _ _ _ _ _ _ _ _ _ _ _ _ _ _
noncomputable def rnd3 : Code := match lin3 with | .seq _ c => c | _ => .skip
set_option maxRecDepth 100000 in
set_option maxHeartbeats 8000000 in
theorem scr_test {X : Cx} {w : World} {T R k cap : Nat} {ds : List DoV} {sl : Option Addr} {K : List Item} (hkN : k < ds.length) (hk100 : k < 100) (hK : ∀ (y1 y6 y7 y8 y9 y10 y11 y12 y13 y14 y15 y16 y17 y18 y19 y20 y21 y22 y23 y24 y25 y26 y27 y28 y29 y30 y31 y32 y33 y34 y35 y36 y37 y38 y39 y40 y41 y42 y43 y44 y45 y46 y47 y48 y49 y50 y51 y52 y53 y54 y55 y56 y57 y58 y59 y60 y61 y62 y63 y64 y65 y66 y67 y68 y69 y70 y71 y72 y73 y74 y75 y76 y77 y78 y79 y80 y81 y82 y83 y84 y85 y86 y87 y88 y89 y90 y91 y92 y93 y94 y95 y96 y97 y98 y99 y100 y101 y102 y103 y104 y105 y106 y107 y108 y109 y110 y111 y112 y113 y114 y115 y116 y117 y118 y119 y120 y121 y122 y123 y124 y125 y126 y127 : Value), Run Try.prog X (G ((base 3).at ⟨#[.slice sl ds.length cap, y1, .bool false, .pointer (some ⟨T, 0, none⟩), .pointer (some ⟨R, 0, none⟩), .int .i64 (k : Int), y6, y7, y8, y9, y10, y11, y12, y13, y14, y15, y16, y17, y18, y19, y20, y21, y22, y23, y24, y25, y26, y27, y28, y29, y30, y31, y32, y33, y34, y35, y36, y37, y38, y39, y40, y41, y42, y43, y44, y45, y46, y47, y48, y49, y50, y51, y52, y53, y54, y55, y56, y57, y58, y59, y60, y61, y62, y63, y64, y65, y66, y67, y68, y69, y70, y71, y72, y73, y74, y75, y76, y77, y78, y79, y80, y81, y82, y83, y84, y85, y86, y87, y88, y89, y90, y91, y92, y93, y94, y95, y96, y97, y98, y99, y100, y101, y102, y103, y104, y105, y106, y107, y108, y109, y110, y111, y112, y113, y114, y115, y116, y117, y118, y119, y120, y121, y122, y123, y124, y125, y126, y127], []⟩ (.code rnd3 :: .inLoop lin3 :: .inBlock 0 :: K)) []) w) (y1 y6 y7 y8 y9 y10 y11 y12 y13 y14 y15 y16 y17 y18 y19 y20 y21 y22 y23 y24 y25 y26 y27 y28 y29 y30 y31 y32 y33 y34 y35 y36 y37 y38 y39 y40 y41 y42 y43 y44 y45 y46 y47 y48 y49 y50 y51 y52 y53 y54 y55 y56 y57 y58 y59 y60 y61 y62 y63 y64 y65 y66 y67 y68 y69 y70 y71 y72 y73 y74 y75 y76 y77 y78 y79 y80 y81 y82 y83 y84 y85 y86 y87 y88 y89 y90 y91 y92 y93 y94 y95 y96 y97 y98 y99 y100 y101 y102 y103 y104 y105 y106 y107 y108 y109 y110 y111 y112 y113 y114 y115 y116 y117 y118 y119 y120 y121 y122 y123 y124 y125 y126 y127 : Value) :
    Run Try.prog X (G ((base 3).at ⟨#[.slice sl ds.length cap, y1, .bool false, .pointer (some ⟨T, 0, none⟩), .pointer (some ⟨R, 0, none⟩), .int .i64 (k : Int), y6, y7, y8, y9, y10, y11, y12, y13, y14, y15, y16, y17, y18, y19, y20, y21, y22, y23, y24, y25, y26, y27, y28, y29, y30, y31, y32, y33, y34, y35, y36, y37, y38, y39, y40, y41, y42, y43, y44, y45, y46, y47, y48, y49, y50, y51, y52, y53, y54, y55, y56, y57, y58, y59, y60, y61, y62, y63, y64, y65, y66, y67, y68, y69, y70, y71, y72, y73, y74, y75, y76, y77, y78, y79, y80, y81, y82, y83, y84, y85, y86, y87, y88, y89, y90, y91, y92, y93, y94, y95, y96, y97, y98, y99, y100, y101, y102, y103, y104, y105, y106, y107, y108, y109, y110, y111, y112, y113, y114, y115, y116, y117, y118, y119, y120, y121, y122, y123, y124, y125, y126, y127], []⟩ (.code lin3 :: .inLoop lin3 :: .inBlock 0 :: K)) []) w := by
  replace hK := Lib.hid hK
  have d1 : decide ((k : Int) < (ds.length : Int)) = true := decide_eq_true (by omega)
  have d1' : decide (k < ds.length) = true := decide_eq_true hkN
  have d2 : decide ((k : Int) < 100) = true := decide_eq_true (by omega)
  clear hkN hk100
  simp only [lin3, Try.f3, Option.getD_some]
  refine Run.seq ?_
  repeat first
    | refine Run.seq ?_
    | refine Run.skip ?_
    | refine Run.regionEnd ?_
    | refine Run.block ?_
    | refine Run.inBlock ?_
    | (refine Run.region ?_; simp only [List.size_toArray, List.length_cons, List.length_nil, Nat.reduceAdd, Nat.zero_add, List.range, List.range.loop])
    | (refine Run.unwanted rfl rfl ?_; walk_nrm)
    | (refine Run.op0 rfl rfl (by k_ne) (fun d K hK => by go_simp; exact hK) (fun d => by first | (simp [go_sem, *] <;> fail) | fail) ?_; try w_num)
    | refine Run.ret ?_
    | refine Run.fin ?_
    | refine Run.exit rfl ?_
  refine Run.cond rfl ?_
  simp only [if_true, if_false, Bool.false_eq_true, ↓reduceIte]
  refine Run.skip ?_
  exact hK.out _ _ _ _ _ _ _ _ _ _ _ _ _ _ _ _ _ _ _ _ _ _ _ _ _ _ _ _ _ _ _ _ _ _ _ _ _ _ _ _ _ _ _ _ _ _ _ _ _ _ _ _ _ _ _ _ _ _ _ _ _ _ _ _ _ _ _ _ _ _ _ _ _ _ _ _ _ _ _ _ _ _ _ _ _ _ _ _ _ _ _ _ _ _ _ _ _ _ _ _ _ _ _ _ _ _ _ _ _ _ _ _ _ _ _ _ _ _ _ _ _ _ _
end Go.Proofs.Ytboiolnnhmlieaa.Gang
namespace Go.Proofs.Ytboiolnnhmlieaa.Gang
open Go.Conc Go.ConcN Go.RowKit Go.Conc.Lib Go.ConcR.Gen Go.ConcN.Gen
set_option linter.unusedVariables false
set_option linter.unusedSimpArgs false
noncomputable def elm3 : Code := match lin3 with | .seq _ (.seq (.block _ (.seq c _)) _) => c | _ => .skip
set_option maxRecDepth 100000 in
set_option maxHeartbeats 8000000 in
theorem scr_elem {X0 X : Cx} {w0 w : World} {T R k cap : Nat} {x : Tl} {ds : List DoV} {sl : Option Addr} (z : Sc0 X0 w0 T R) (h : Sc2 X0 w0 T R X w x x) (hDs : DosAt sl ds w0) (hrd : X0.reads sl) (hna : ∀ ar off, sl = some ⟨ar, off, none⟩ → ar < w0.heap.size ∧ ar ≠ T ∧ ar ≠ R) (hkN : k < ds.length) {KK : List Item}
    (hK : ∀ (X' : Cx) (w' : World) (D : Nat) (y1 y7 y8 y9 y10 y11 y12 y13 y14 y15 y16 y17 y18 y19 y20 y21 y22 y23 y24 y25 y26 y27 y28 y29 y30 y31 y32 y33 y34 y35 y36 y37 y38 y39 y40 y41 y42 y43 y44 y45 y46 y47 y48 y49 y50 y51 y52 y53 y54 y55 y56 y57 y58 y59 y60 y61 y62 y63 y64 y65 y66 y67 y68 y69 y70 y71 y72 y73 y74 y75 y76 y77 y78 y79 y80 y81 y82 y83 y84 y85 y86 y87 y88 y89 y90 y91 y92 y93 y94 y95 y96 y97 y98 y99 y100 y101 y102 y103 y104 y105 y106 y107 y108 y109 y110 y111 y112 y113 y114 y115 y116 y117 y118 y119 y120 y121 y122 y123 y124 y125 y126 y127 : Value), Sc2 X0 w0 T R X' w' x x → w'.heap[D]? = some (boxD ds[k]) → w0.heap.size ≤ D → X'.free D → Run Try.prog X' (G ((base 3).at ⟨#[.slice sl ds.length cap, y1, .bool false, .pointer (some ⟨T, 0, none⟩), .pointer (some ⟨R, 0, none⟩), .int .i64 (k : Int), .pointer (some ⟨D, 0, none⟩), y7, y8, y9, y10, y11, y12, y13, y14, y15, y16, y17, y18, y19, y20, y21, y22, y23, y24, y25, y26, y27, y28, y29, y30, y31, y32, y33, y34, y35, y36, y37, y38, y39, y40, y41, y42, y43, y44, y45, y46, y47, y48, y49, y50, y51, y52, y53, y54, y55, y56, y57, y58, y59, y60, y61, y62, y63, y64, y65, y66, y67, y68, y69, y70, y71, y72, y73, y74, y75, y76, y77, y78, y79, y80, y81, y82, y83, y84, y85, y86, y87, y88, y89, y90, y91, y92, y93, y94, y95, y96, y97, y98, y99, y100, y101, y102, y103, y104, y105, y106, y107, y108, y109, y110, y111, y112, y113, y114, y115, y116, y117, y118, y119, y120, y121, y122, y123, y124, y125, y126, y127], []⟩ KK) []) w') (y1 y6 y7 y8 y9 y10 y11 y12 y13 y14 y15 y16 y17 y18 y19 y20 y21 y22 y23 y24 y25 y26 y27 y28 y29 y30 y31 y32 y33 y34 y35 y36 y37 y38 y39 y40 y41 y42 y43 y44 y45 y46 y47 y48 y49 y50 y51 y52 y53 y54 y55 y56 y57 y58 y59 y60 y61 y62 y63 y64 y65 y66 y67 y68 y69 y70 y71 y72 y73 y74 y75 y76 y77 y78 y79 y80 y81 y82 y83 y84 y85 y86 y87 y88 y89 y90 y91 y92 y93 y94 y95 y96 y97 y98 y99 y100 y101 y102 y103 y104 y105 y106 y107 y108 y109 y110 y111 y112 y113 y114 y115 y116 y117 y118 y119 y120 y121 y122 y123 y124 y125 y126 y127 : Value) :
    Run Try.prog X (G ((base 3).at ⟨#[.slice sl ds.length cap, y1, .bool false, .pointer (some ⟨T, 0, none⟩), .pointer (some ⟨R, 0, none⟩), .int .i64 (k : Int), y6, y7, y8, y9, y10, y11, y12, y13, y14, y15, y16, y17, y18, y19, y20, y21, y22, y23, y24, y25, y26, y27, y28, y29, y30, y31, y32, y33, y34, y35, y36, y37, y38, y39, y40, y41, y42, y43, y44, y45, y46, y47, y48, y49, y50, y51, y52, y53, y54, y55, y56, y57, y58, y59, y60, y61, y62, y63, y64, y65, y66, y67, y68, y69, y70, y71, y72, y73, y74, y75, y76, y77, y78, y79, y80, y81, y82, y83, y84, y85, y86, y87, y88, y89, y90, y91, y92, y93, y94, y95, y96, y97, y98, y99, y100, y101, y102, y103, y104, y105, y106, y107, y108, y109, y110, y111, y112, y113, y114, y115, y116, y117, y118, y119, y120, y121, y122, y123, y124, y125, y126, y127], []⟩ (.code elm3 :: KK)) []) w := by
  have hki : (k : Int) < (ds.length : Int) := by omega
  have hX := h.okX z
  have hD1 : DosAt sl ds w := hDs.keep h.next.le (fun ar off e _ => h.block ar (hna ar off e).1 (hna ar off e).2.1 (hna ar off e).2.2)
  obtain ⟨ar, off, rfl, har, hcs⟩ := hD1 (by intro e; subst e; simp at hkN)
  obtain ⟨c0, c1, c2, c3, c4, c5⟩ := hcs k hkN
  obtain ⟨dv, hdv⟩ : ∃ dv, dv = ds[k] := ⟨_, rfl⟩
  rw [← hdv] at c0 c1 c2 c3 c4 c5
  simp only [← hdv] at hK
  have hAr : X.free ar := h.next.free z.ok (hrd ar off rfl)
  replace h := Lib.hid h
  replace hK := Lib.hid hK
  clear hDs hD1 hcs hrd hna hdv
  simp only [elm3, lin3, Try.f3, Option.getD_some]
  repeat first
    | refine Run.seq ?_
    | refine Run.skip ?_
    | refine Run.regionEnd ?_
    | refine Run.block ?_
    | refine Run.inBlock ?_
    | (refine Run.region ?_; simp only [List.size_toArray, List.length_cons, List.length_nil, Nat.reduceAdd, Nat.zero_add, List.range, List.range.loop])
    | (refine Run.unwanted rfl rfl ?_; walk_nrm)
    | (refine Run.op0 rfl rfl (by k_ne) (fun d K hK => by go_simp; exact hK) (fun d => by first | (simp [go_sem, *] <;> fail) | fail) ?_; try w_num)
    | refine Run.ret ?_
    | refine Run.fin ?_
    | refine Run.exit rfl ?_
    | ((refine Run.op w rfl rfl (by k_ne) (fun d K hK => by go_simp; exact hK) (fun d e he => by simp [go_sem, *] at he; rcases he with he | he | he | he | he | he <;> (subst he; exact evL_free hAr)) ?_; try w_num))
  clear c0 c1 c2 c3 c4 c5 har hki hAr
  refine Run.op (w.alloc (.cells #[.int .i64 0, .int .i64 0, .int .i64 0, .slice none 0 0, .int .i64 0, .int .i64 0] 34)) rfl rfl (by k_ne) (fun d K hK => by go_simp; exact hK) (fun d e he => by simp [go_sem] at he) ?_
  try w_num
  obtain ⟨D, hDd⟩ : ∃ D, w.heap.size = D := ⟨_, rfl⟩
  have hz : (w.alloc (.cells #[.int .i64 0, .int .i64 0, .int .i64 0, .slice none 0 0, .int .i64 0, .int .i64 0] 34)).heap[D]? = some (.cells #[.int .i64 0, .int .i64 0, .int .i64 0, .slice none 0 0, .int .i64 0, .int .i64 0] 34) := by rw [← hDd]; exact alloc_newr w _
  have so : Off w.heap.size w (w.alloc (.cells #[.int .i64 0, .int .i64 0, .int .i64 0, .slice none 0 0, .int .i64 0, .int .i64 0] 34)) := Off.alloc _ w _
  have sz : (w.alloc (.cells #[.int .i64 0, .int .i64 0, .int .i64 0, .slice none 0 0, .int .i64 0, .int .i64 0] 34)).heap.size = D + 1 := by rw [World.size_alloc, hDd]
  replace so := Lib.hid so
  simp only [hDd]
  generalize w.alloc (.cells #[.int .i64 0, .int .i64 0, .int .i64 0, .slice none 0 0, .int .i64 0, .int .i64 0] 34) = w1 at hz so sz ⊢
  have hrun := storeDo_run hz dv
  have a2 := setRow_aside w1 D #[.int .i64 dv.kind, .int .i64 dv.slot, .int .i64 dv.num, .slice dv.sl dv.steps.length dv.cap, .int .i64 dv.workers, .int .i64 dv.each]
  have hb2 := setRow_boxD hz dv
  have hfD : (X.up w1.heap.size).free D := ⟨Nat.lt_of_lt_of_le (by omega) (Nat.le_max_right _ _), hX.new D (by omega)⟩
  have hevs := storeDo_evs hfD hz dv
  have hn2 : X.Next w (X.up w1.heap.size) (w1.setRow D #[.int .i64 dv.kind, .int .i64 dv.slot, .int .i64 dv.num, .slice dv.sl dv.steps.length dv.cap, .int .i64 dv.workers, .int .i64 dv.each]) := by
    have := Cx.next_up (w' := w1.setRow D #[.int .i64 dv.kind, .int .i64 dv.slot, .int .i64 dv.num, .slice dv.sl dv.steps.length dv.cap, .int .i64 dv.workers, .int .i64 dv.each]) hX (by rw [a2.size]; omega)
    rw [a2.size] at this
    exact this
  have s2 := h.out.on z hn2 (so.out.trans (by rw [hDd]; exact Off.of_aside a2))
  have hDl : w0.heap.size ≤ D := by have := h.out.next.le; omega
  refine Run.up w1.heap.size ?_
  refine Run.opS (w1.setRow D #[.int .i64 dv.kind, .int .i64 dv.slot, .int .i64 dv.num, .slice dv.sl dv.steps.length dv.cap, .int .i64 dv.workers, .int .i64 dv.each]) rfl rfl (by k_ne) rfl (fun t => ?_) (fun t e he => ?_) ?_
  · change (Instr.storeAt 34 (.pointer (some ⟨D, 0, none⟩)) (.agg #[.int .i64 dv.kind, .int .i64 dv.slot, .int .i64 dv.num, .slice dv.sl dv.steps.length dv.cap, .int .i64 dv.workers, .int .i64 dv.each]) >>= fun _ => pure Next.skip).run _ _ = _
    simp only [Sem.run_bind, hrun t, Result.andThen, Sem.run_pure]
  · change e ∈ ((Instr.storeAt 34 (.pointer (some ⟨D, 0, none⟩)) (.agg #[.int .i64 dv.kind, .int .i64 dv.slot, .int .i64 dv.num, .slice dv.sl dv.steps.length dv.cap, .int .i64 dv.workers, .int .i64 dv.each]) >>= fun _ => pure Next.skip).events _ _ #[]) at he
    simp only [Sem.events_bind, hrun t, Result.evThen_ok, Sem.events_pure] at he
    exact hevs t e he
  try w_num
  replace hK := Lib.hid (fun y1 y7 y8 y9 y10 y11 y12 y13 y14 y15 y16 y17 y18 y19 y20 y21 y22 y23 y24 y25 y26 y27 y28 y29 y30 y31 y32 y33 y34 y35 y36 y37 y38 y39 y40 y41 y42 y43 y44 y45 y46 y47 y48 y49 y50 y51 y52 y53 y54 y55 y56 y57 y58 y59 y60 y61 y62 y63 y64 y65 y66 y67 y68 y69 y70 y71 y72 y73 y74 y75 y76 y77 y78 y79 y80 y81 y82 y83 y84 y85 y86 y87 y88 y89 y90 y91 y92 y93 y94 y95 y96 y97 y98 y99 y100 y101 y102 y103 y104 y105 y106 y107 y108 y109 y110 y111 y112 y113 y114 y115 y116 y117 y118 y119 y120 y121 y122 y123 y124 y125 y126 y127 => hK.out (X.up w1.heap.size) (w1.setRow D #[.int .i64 dv.kind, .int .i64 dv.slot, .int .i64 dv.num, .slice dv.sl dv.steps.length dv.cap, .int .i64 dv.workers, .int .i64 dv.each]) D y1 y7 y8 y9 y10 y11 y12 y13 y14 y15 y16 y17 y18 y19 y20 y21 y22 y23 y24 y25 y26 y27 y28 y29 y30 y31 y32 y33 y34 y35 y36 y37 y38 y39 y40 y41 y42 y43 y44 y45 y46 y47 y48 y49 y50 y51 y52 y53 y54 y55 y56 y57 y58 y59 y60 y61 y62 y63 y64 y65 y66 y67 y68 y69 y70 y71 y72 y73 y74 y75 y76 y77 y78 y79 y80 y81 y82 y83 y84 y85 y86 y87 y88 y89 y90 y91 y92 y93 y94 y95 y96 y97 y98 y99 y100 y101 y102 y103 y104 y105 y106 y107 y108 y109 y110 y111 y112 y113 y114 y115 y116 y117 y118 y119 y120 y121 y122 y123 y124 y125 y126 y127 s2 hb2 hDl hfD)
  generalize w1.setRow D #[.int .i64 dv.kind, .int .i64 dv.slot, .int .i64 dv.num, .slice dv.sl dv.steps.length dv.cap, .int .i64 dv.workers, .int .i64 dv.each] = w2 at hK ⊢
  generalize X.up w1.heap.size = X1 at hK ⊢
  clear hrun a2 hevs hn2 hz so sz h hX hDd s2 hb2 hDl hfD
  repeat first
    | refine Run.seq ?_
    | refine Run.skip ?_
    | refine Run.regionEnd ?_
    | refine Run.block ?_
    | refine Run.inBlock ?_
    | (refine Run.region ?_; simp only [List.size_toArray, List.length_cons, List.length_nil, Nat.reduceAdd, Nat.zero_add, List.range, List.range.loop])
    | (refine Run.unwanted rfl rfl ?_; walk_nrm)
    | (refine Run.op0 rfl rfl (by k_ne) (fun d K hK => by go_simp; exact hK) (fun d => by first | (simp [go_sem, *] <;> fail) | fail) ?_; try w_num)
    | refine Run.ret ?_
    | refine Run.fin ?_
    | refine Run.exit rfl ?_
  exact hK.out _ _ _ _ _ _ _ _ _ _ _ _ _ _ _ _ _ _ _ _ _ _ _ _ _ _ _ _ _ _ _ _ _ _ _ _ _ _ _ _ _ _ _ _ _ _ _ _ _ _ _ _ _ _ _ _ _ _ _ _ _ _ _ _ _ _ _ _ _ _ _ _ _ _ _ _ _ _ _ _ _ _ _ _ _ _ _ _ _ _ _ _ _ _ _ _ _ _ _ _ _ _ _ _ _ _ _ _ _ _ _ _ _ _ _ _ _ _ _ _ _ _
end Go.Proofs.Ytboiolnnhmlieaa.Gang
namespace Go.Proofs.Ytboiolnnhmlieaa.Gang
open Go.Conc Go.ConcN Go.RowKit Go.Conc.Lib Go.ConcR.Gen Go.ConcN.Gen
set_option linter.unusedVariables false
set_option linter.unusedSimpArgs false
theorem rnd3_eq : rnd3 = .seq (.block 1 (.seq elm3 (.seq sw3 tail3))) step3 := rfl
set_option maxRecDepth 100000 in
set_option maxHeartbeats 8000000 in
theorem scr_loop {X0 : Cx} {w0 : World} {T R cap : Nat} {ds : List DoV} {sl : Option Addr} (z : Sc0 X0 w0 T R) (hDs : DosAt sl ds w0) (hrd : X0.reads sl) (hna : ∀ ar off, sl = some ⟨ar, off, none⟩ → ar < w0.heap.size ∧ ar ≠ T ∧ ar ≠ R)
    (hin : ∀ d ∈ ds, StepsAt d.sl d.steps w0 ∧ (d.steps ≠ [] → X0.reads d.sl) ∧ (d.steps ≠ [] → ∀ ar off, d.sl = some ⟨ar, off, none⟩ → ar < w0.heap.size ∧ ar ≠ T ∧ ar ≠ R)) {K : List Item} :
    ∀ (m k : Nat), k + m = min ds.length 100 → ∀ (X : Cx) (w : World) (x : Tl), Sc2 X0 w0 T R X w x x → (∀ c, w64 (x.cs c) = x.cs c) → 0 ≤ x.tick → x.tick ≤ k * 16001 →
    (∀ (X' : Cx) (w' : World) (x' : Tl) (k' : Nat) (y1 y6 y7 y8 y9 y10 y11 y12 y13 y14 y15 y16 y17 y18 y19 y20 y21 y22 y23 y24 y25 y26 y27 y28 y29 y30 y31 y32 y33 y34 y35 y36 y37 y38 y39 y40 y41 y42 y43 y44 y45 y46 y47 y48 y49 y50 y51 y52 y53 y54 y55 y56 y57 y58 y59 y60 y61 y62 y63 y64 y65 y66 y67 y68 y69 y70 y71 y72 y73 y74 y75 y76 y77 y78 y79 y80 y81 y82 y83 y84 y85 y86 y87 y88 y89 y90 y91 y92 y93 y94 y95 y96 y97 y98 y99 y100 y101 y102 y103 y104 y105 y106 y107 y108 y109 y110 y111 y112 y113 y114 y115 y116 y117 y118 y119 y120 y121 y122 y123 y124 y125 y126 y127 : Value), Sc2 X0 w0 T R X' w' x' x' → Run Try.prog X' (G ((base 3).at ⟨#[.slice sl ds.length cap, y1, .bool false, .pointer (some ⟨T, 0, none⟩), .pointer (some ⟨R, 0, none⟩), (.int .i64 (k' : Int)), y6, y7, y8, y9, y10, y11, y12, y13, y14, y15, y16, y17, y18, y19, y20, y21, y22, y23, y24, y25, y26, y27, y28, y29, y30, y31, y32, y33, y34, y35, y36, y37, y38, y39, y40, y41, y42, y43, y44, y45, y46, y47, y48, y49, y50, y51, y52, y53, y54, y55, y56, y57, y58, y59, y60, y61, y62, y63, y64, y65, y66, y67, y68, y69, y70, y71, y72, y73, y74, y75, y76, y77, y78, y79, y80, y81, y82, y83, y84, y85, y86, y87, y88, y89, y90, y91, y92, y93, y94, y95, y96, y97, y98, y99, y100, y101, y102, y103, y104, y105, y106, y107, y108, y109, y110, y111, y112, y113, y114, y115, y116, y117, y118, y119, y120, y121, y122, y123, y124, y125, y126, y127], []⟩ K) []) w') → ∀ (y1 y6 y7 y8 y9 y10 y11 y12 y13 y14 y15 y16 y17 y18 y19 y20 y21 y22 y23 y24 y25 y26 y27 y28 y29 y30 y31 y32 y33 y34 y35 y36 y37 y38 y39 y40 y41 y42 y43 y44 y45 y46 y47 y48 y49 y50 y51 y52 y53 y54 y55 y56 y57 y58 y59 y60 y61 y62 y63 y64 y65 y66 y67 y68 y69 y70 y71 y72 y73 y74 y75 y76 y77 y78 y79 y80 y81 y82 y83 y84 y85 y86 y87 y88 y89 y90 y91 y92 y93 y94 y95 y96 y97 y98 y99 y100 y101 y102 y103 y104 y105 y106 y107 y108 y109 y110 y111 y112 y113 y114 y115 y116 y117 y118 y119 y120 y121 y122 y123 y124 y125 y126 y127 : Value),
    Run Try.prog X (G ((base 3).at ⟨#[.slice sl ds.length cap, y1, .bool false, .pointer (some ⟨T, 0, none⟩), .pointer (some ⟨R, 0, none⟩), .int .i64 (k : Int), y6, y7, y8, y9, y10, y11, y12, y13, y14, y15, y16, y17, y18, y19, y20, y21, y22, y23, y24, y25, y26, y27, y28, y29, y30, y31, y32, y33, y34, y35, y36, y37, y38, y39, y40, y41, y42, y43, y44, y45, y46, y47, y48, y49, y50, y51, y52, y53, y54, y55, y56, y57, y58, y59, y60, y61, y62, y63, y64, y65, y66, y67, y68, y69, y70, y71, y72, y73, y74, y75, y76, y77, y78, y79, y80, y81, y82, y83, y84, y85, y86, y87, y88, y89, y90, y91, y92, y93, y94, y95, y96, y97, y98, y99, y100, y101, y102, y103, y104, y105, y106, y107, y108, y109, y110, y111, y112, y113, y114, y115, y116, y117, y118, y119, y120, y121, y122, y123, y124, y125, y126, y127], []⟩ (.code lin3 :: .inLoop lin3 :: .inBlock 0 :: K)) []) w := by
  intro m
  induction m with
  | zero =>
    intro k hk X w x h hwf ht0 ht1 hK y1 y6 y7 y8 y9 y10 y11 y12 y13 y14 y15 y16 y17 y18 y19 y20 y21 y22 y23 y24 y25 y26 y27 y28 y29 y30 y31 y32 y33 y34 y35 y36 y37 y38 y39 y40 y41 y42 y43 y44 y45 y46 y47 y48 y49 y50 y51 y52 y53 y54 y55 y56 y57 y58 y59 y60 y61 y62 y63 y64 y65 y66 y67 y68 y69 y70 y71 y72 y73 y74 y75 y76 y77 y78 y79 y80 y81 y82 y83 y84 y85 y86 y87 y88 y89 y90 y91 y92 y93 y94 y95 y96 y97 y98 y99 y100 y101 y102 y103 y104 y105 y106 y107 y108 y109 y110 y111 y112 y113 y114 y115 y116 y117 y118 y119 y120 y121 y122 y123 y124 y125 y126 y127
    exact scr_end hk (fun y1 y6 y7 y8 y9 y10 y11 y12 y13 y14 y15 y16 y17 y18 y19 y20 y21 y22 y23 y24 y25 y26 y27 y28 y29 y30 y31 y32 y33 y34 y35 y36 y37 y38 y39 y40 y41 y42 y43 y44 y45 y46 y47 y48 y49 y50 y51 y52 y53 y54 y55 y56 y57 y58 y59 y60 y61 y62 y63 y64 y65 y66 y67 y68 y69 y70 y71 y72 y73 y74 y75 y76 y77 y78 y79 y80 y81 y82 y83 y84 y85 y86 y87 y88 y89 y90 y91 y92 y93 y94 y95 y96 y97 y98 y99 y100 y101 y102 y103 y104 y105 y106 y107 y108 y109 y110 y111 y112 y113 y114 y115 y116 y117 y118 y119 y120 y121 y122 y123 y124 y125 y126 y127 => hK X w x k y1 y6 y7 y8 y9 y10 y11 y12 y13 y14 y15 y16 y17 y18 y19 y20 y21 y22 y23 y24 y25 y26 y27 y28 y29 y30 y31 y32 y33 y34 y35 y36 y37 y38 y39 y40 y41 y42 y43 y44 y45 y46 y47 y48 y49 y50 y51 y52 y53 y54 y55 y56 y57 y58 y59 y60 y61 y62 y63 y64 y65 y66 y67 y68 y69 y70 y71 y72 y73 y74 y75 y76 y77 y78 y79 y80 y81 y82 y83 y84 y85 y86 y87 y88 y89 y90 y91 y92 y93 y94 y95 y96 y97 y98 y99 y100 y101 y102 y103 y104 y105 y106 y107 y108 y109 y110 y111 y112 y113 y114 y115 y116 y117 y118 y119 y120 y121 y122 y123 y124 y125 y126 y127 h) _ _ _ _ _ _ _ _ _ _ _ _ _ _ _ _ _ _ _ _ _ _ _ _ _ _ _ _ _ _ _ _ _ _ _ _ _ _ _ _ _ _ _ _ _ _ _ _ _ _ _ _ _ _ _ _ _ _ _ _ _ _ _ _ _ _ _ _ _ _ _ _ _ _ _ _ _ _ _ _ _ _ _ _ _ _ _ _ _ _ _ _ _ _ _ _ _ _ _ _ _ _ _ _ _ _ _ _ _ _ _ _ _ _ _ _ _ _ _ _ _ _ _
  | succ m ih =>
    intro k hk X w x h hwf ht0 ht1 hK y1 y6 y7 y8 y9 y10 y11 y12 y13 y14 y15 y16 y17 y18 y19 y20 y21 y22 y23 y24 y25 y26 y27 y28 y29 y30 y31 y32 y33 y34 y35 y36 y37 y38 y39 y40 y41 y42 y43 y44 y45 y46 y47 y48 y49 y50 y51 y52 y53 y54 y55 y56 y57 y58 y59 y60 y61 y62 y63 y64 y65 y66 y67 y68 y69 y70 y71 y72 y73 y74 y75 y76 y77 y78 y79 y80 y81 y82 y83 y84 y85 y86 y87 y88 y89 y90 y91 y92 y93 y94 y95 y96 y97 y98 y99 y100 y101 y102 y103 y104 y105 y106 y107 y108 y109 y110 y111 y112 y113 y114 y115 y116 y117 y118 y119 y120 y121 y122 y123 y124 y125 y126 y127
    have hkN : k < ds.length := by omega
    have hi := hin ds[k] (List.getElem_mem hkN)
    refine scr_test hkN (by omega) (fun y1 y6 y7 y8 y9 y10 y11 y12 y13 y14 y15 y16 y17 y18 y19 y20 y21 y22 y23 y24 y25 y26 y27 y28 y29 y30 y31 y32 y33 y34 y35 y36 y37 y38 y39 y40 y41 y42 y43 y44 y45 y46 y47 y48 y49 y50 y51 y52 y53 y54 y55 y56 y57 y58 y59 y60 y61 y62 y63 y64 y65 y66 y67 y68 y69 y70 y71 y72 y73 y74 y75 y76 y77 y78 y79 y80 y81 y82 y83 y84 y85 y86 y87 y88 y89 y90 y91 y92 y93 y94 y95 y96 y97 y98 y99 y100 y101 y102 y103 y104 y105 y106 y107 y108 y109 y110 y111 y112 y113 y114 y115 y116 y117 y118 y119 y120 y121 y122 y123 y124 y125 y126 y127 => ?_) _ _ _ _ _ _ _ _ _ _ _ _ _ _ _ _ _ _ _ _ _ _ _ _ _ _ _ _ _ _ _ _ _ _ _ _ _ _ _ _ _ _ _ _ _ _ _ _ _ _ _ _ _ _ _ _ _ _ _ _ _ _ _ _ _ _ _ _ _ _ _ _ _ _ _ _ _ _ _ _ _ _ _ _ _ _ _ _ _ _ _ _ _ _ _ _ _ _ _ _ _ _ _ _ _ _ _ _ _ _ _ _ _ _ _ _ _ _ _ _ _ _ _
    rw [rnd3_eq]
    refine Run.seq (Run.block (Run.seq ?_))
    refine scr_elem z h hDs hrd hna hkN (fun X1 w1 D y1 y7 y8 y9 y10 y11 y12 y13 y14 y15 y16 y17 y18 y19 y20 y21 y22 y23 y24 y25 y26 y27 y28 y29 y30 y31 y32 y33 y34 y35 y36 y37 y38 y39 y40 y41 y42 y43 y44 y45 y46 y47 y48 y49 y50 y51 y52 y53 y54 y55 y56 y57 y58 y59 y60 y61 y62 y63 y64 y65 y66 y67 y68 y69 y70 y71 y72 y73 y74 y75 y76 y77 y78 y79 y80 y81 y82 y83 y84 y85 y86 y87 y88 y89 y90 y91 y92 y93 y94 y95 y96 y97 y98 y99 y100 y101 y102 y103 y104 y105 y106 y107 y108 y109 y110 y111 y112 y113 y114 y115 y116 y117 y118 y119 y120 y121 y122 y123 y124 y125 y126 y127 s1 hD hDl hDf => ?_) _ _ _ _ _ _ _ _ _ _ _ _ _ _ _ _ _ _ _ _ _ _ _ _ _ _ _ _ _ _ _ _ _ _ _ _ _ _ _ _ _ _ _ _ _ _ _ _ _ _ _ _ _ _ _ _ _ _ _ _ _ _ _ _ _ _ _ _ _ _ _ _ _ _ _ _ _ _ _ _ _ _ _ _ _ _ _ _ _ _ _ _ _ _ _ _ _ _ _ _ _ _ _ _ _ _ _ _ _ _ _ _ _ _ _ _ _ _ _ _ _ _ _
    refine Run.seq ?_
    refine sc_switch z s1 hD hDl hDf hwf ht0 (by omega) hi.1 hi.2.1 hi.2.2 (fun X2 w2 x2 y1 y7 y8 y9 y10 y11 y12 y13 y14 y15 y16 y17 y18 y19 y20 y21 y22 y23 y24 y25 y26 y27 y28 y29 y30 y31 y32 y33 y34 y35 y36 y37 y38 y39 y40 y41 y42 y43 y44 y45 y46 y47 y48 y49 y50 y51 y52 y53 y54 y55 y56 y57 y58 y59 y60 y61 y62 y63 y64 y65 y66 y67 y68 y69 y70 y71 y72 y73 y74 y75 y76 y77 y78 y79 y80 y81 y82 y83 y84 y85 y86 y87 y88 y89 y90 y91 y92 y93 y94 y95 y96 y97 y98 y99 y100 y101 y102 y103 y104 y105 y106 y107 y108 y109 y110 y111 y112 y113 y114 y115 y116 y117 y118 y119 y120 y121 y122 y123 y124 y125 y126 y127 s2 e => ?_) _ _ _ _ _ _ _ _ _ _ _ _ _ _ _ _ _ _ _ _ _ _ _ _ _ _ _ _ _ _ _ _ _ _ _ _ _ _ _ _ _ _ _ _ _ _ _ _ _ _ _ _ _ _ _ _ _ _ _ _ _ _ _ _ _ _ _ _ _ _ _ _ _ _ _ _ _ _ _ _ _ _ _ _ _ _ _ _ _ _ _ _ _ _ _ _ _ _ _ _ _ _ _ _ _ _ _ _ _ _ _ _ _ _ _ _ _ _ _ _ _ _
    refine sc_tail z s2 (by omega) (fun y1 y7 y8 y9 y10 y11 y12 y13 y14 y15 y16 y17 y18 y19 y20 y21 y22 y23 y24 y25 y26 y27 y28 y29 y30 y31 y32 y33 y34 y35 y36 y37 y38 y39 y40 y41 y42 y43 y44 y45 y46 y47 y48 y49 y50 y51 y52 y53 y54 y55 y56 y57 y58 y59 y60 y61 y62 y63 y64 y65 y66 y67 y68 y69 y70 y71 y72 y73 y74 y75 y76 y77 y78 y79 y80 y81 y82 y83 y84 y85 y86 y87 y88 y89 y90 y91 y92 y93 y94 y95 y96 y97 y98 y99 y100 y101 y102 y103 y104 y105 y106 y107 y108 y109 y110 y111 y112 y113 y114 y115 y116 y117 y118 y119 y120 y121 y122 y123 y124 y125 y126 y127 => ?_) _ _ _ _ _ _ _ _ _ _ _ _ _ _ _ _ _ _ _ _ _ _ _ _ _ _ _ _ _ _ _ _ _ _ _ _ _ _ _ _ _ _ _ _ _ _ _ _ _ _ _ _ _ _ _ _ _ _ _ _ _ _ _ _ _ _ _ _ _ _ _ _ _ _ _ _ _ _ _ _ _ _ _ _ _ _ _ _ _ _ _ _ _ _ _ _ _ _ _ _ _ _ _ _ _ _ _ _ _ _ _ _ _ _ _ _ _ _ _ _ _ _
    exact ih (k + 1) (by omega) X2 w2 x2 s2 e.1 e.2.1 (by have := e.2.2; omega) hK _ _ _ _ _ _ _ _ _ _ _ _ _ _ _ _ _ _ _ _ _ _ _ _ _ _ _ _ _ _ _ _ _ _ _ _ _ _ _ _ _ _ _ _ _ _ _ _ _ _ _ _ _ _ _ _ _ _ _ _ _ _ _ _ _ _ _ _ _ _ _ _ _ _ _ _ _ _ _ _ _ _ _ _ _ _ _ _ _ _ _ _ _ _ _ _ _ _ _ _ _ _ _ _ _ _ _ _ _ _ _ _ _ _ _ _ _ _ _ _ _ _ _
end Go.Proofs.Ytboiolnnhmlieaa.Gang
namespace Go.Proofs.Ytboiolnnhmlieaa.Gang
open Go.Conc Go.ConcN Go.RowKit Go.Conc.Lib Go.ConcR.Gen Go.ConcN.Gen
set_option linter.unusedVariables false
set_option linter.unusedSimpArgs false
theorem bt29 : Try.prog.built 29 (#[] : Array (Nat × Value)).toList = some #[.int .i64 0, .int .i64 0, .int .i64 0, .int .i64 0, .int .i64 0, .int .i64 0, .int .i64 0, .int .i64 0, .int .i64 0, .bool false, .int .i64 0, .int .i64 0] := by kernel_rfl
theorem ev_build29 (w : World) (es : Array Event) : (Instr.build 29 #[]).events Try.prog w es = es := by
  unfold Instr.build
  simp [go_sem]
theorem steps_low {sl : Option Addr} {xs : List (Int × Int)} {w : World} (h : StepsAt sl xs w) (hx : xs ≠ []) : ∀ ar off, sl = some ⟨ar, off, none⟩ → ar < w.heap.size := fun ar off e => by
  obtain ⟨a, o, e', hl, _⟩ := h hx
  rw [e] at e'
  cases e'
  exact hl
set_option maxRecDepth 100000 in
set_option maxHeartbeats 8000000 in
theorem scripts_run {Post : Value → World → Prop} {W : World} (hP : ∀ w', Off W.heap.size W w' → Post (.bool true) w') (ds : List DoV) {sl : Option Addr} {cap : Nat} (hlen : ds.length ≤ 4611686018427387904) (hDs : DosAt sl ds W) (hsl : ∀ ar off, sl = some ⟨ar, off, none⟩ → ar < W.heap.size)
    (hin : ∀ x ∈ ds, StepsAt x.sl x.steps W ∧ x.steps.length ≤ 4611686018427387904) :
    Run Try.prog (top Post W) (G ((base 3).at ⟨#[.slice sl ds.length cap, undef, undef, undef, undef, undef, undef, undef, undef, undef, undef, undef, undef, undef, undef, undef, undef, undef, undef, undef, undef, undef, undef, undef, undef, undef, undef, undef, undef, undef, undef, undef, undef, undef, undef, undef, undef, undef, undef, undef, undef, undef, undef, undef, undef, undef, undef, undef, undef, undef, undef, undef, undef, undef, undef, undef, undef, undef, undef, undef, undef, undef, undef, undef, undef, undef, undef, undef, undef, undef, undef, undef, undef, undef, undef, undef, undef, undef, undef, undef, undef, undef, undef, undef, undef, undef, undef, undef, undef, undef, undef, undef, undef, undef, undef, undef, undef, undef, undef, undef, undef, undef, undef, undef, undef, undef, undef, undef, undef, undef, undef, undef, undef, undef, undef, undef, undef, undef, undef, undef, undef, undef, undef, undef, undef, undef, undef, undef], []⟩ [.code (Try.f3.body.getD .skip)]) []) W := by
  have hX0 := top_ok Post W
  have hm0 := top_mem Post W
  have hpost : (top Post W).Post = Post := rfl
  have hrd0 : (top Post W).reads sl := fun ar off e => top_free Post (hsl ar off e)
  have hin0 : ∀ x ∈ ds, StepsAt x.sl x.steps W ∧ (x.steps ≠ [] → (top Post W).reads x.sl) ∧ (x.steps ≠ [] → ∀ ar off, x.sl = some ⟨ar, off, none⟩ → ar < W.heap.size) := fun x hx => ⟨(hin x hx).1, fun hn ar off e => top_free Post (steps_low (hin x hx).1 hn ar off e), fun hn => steps_low (hin x hx).1 hn⟩
  clear hin
  replace hin0 := Lib.hid hin0
  generalize top Post W = X0 at hX0 hm0 hpost hrd0 hin0 ⊢
  simp only [Try.f3, Option.getD_some]
  repeat first
    | refine Run.seq ?_
    | refine Run.skip ?_
    | refine Run.regionEnd ?_
    | refine Run.block ?_
    | refine Run.inBlock ?_
    | (refine Run.region ?_; simp only [List.size_toArray, List.length_cons, List.length_nil, Nat.reduceAdd, Nat.zero_add, List.range, List.range.loop])
    | (refine Run.cond rfl ?_; simp only [if_true, if_false, Bool.false_eq_true, ↓reduceIte])
    | (refine Run.unwanted rfl rfl ?_; walk_nrm)
    | (refine Run.op0 rfl rfl (by k_ne) (fun d K hK => by go_simp; exact hK) (fun d => by first | (simp [go_sem, *] <;> fail) | fail) ?_; try w_num)
    | refine Run.ret ?_
    | refine Run.fin ?_
    | refine Run.exit rfl ?_
  refine Run.con (awake_con hX0 hm0) rfl rfl (by k_ne) rfl (by first | (simp only [List.map_toArray, List.map_cons, List.map_nil]; done) | (simp only [List.map_toArray, List.map_cons, List.map_nil]; rfl)) (fun X1 v w1 hr => ?_)
  obtain ⟨hN1, hK1, rfl⟩ := hr
  have hX1 := hN1.ok hX0
  walk_nrm
  have hD1 : DosAt sl ds w1 := hDs.keep hK1.size (fun ar off e h => hK1.block ar h (by omega))
  have hrd1 : X1.reads sl := fun ar off e => hN1.free hX0 (hrd0 ar off e)
  obtain ⟨T, hTd⟩ : ∃ T, w1.heap.size = T := ⟨_, rfl⟩
  have hTW : W.heap.size ≤ T := by have := hK1.size; omega
  clear hDs hrd0
  repeat first
    | refine Run.seq ?_
    | refine Run.skip ?_
    | refine Run.regionEnd ?_
    | refine Run.block ?_
    | refine Run.inBlock ?_
    | (refine Run.region ?_; simp only [List.size_toArray, List.length_cons, List.length_nil, Nat.reduceAdd, Nat.zero_add, List.range, List.range.loop])
    | (refine Run.cond rfl ?_; simp only [if_true, if_false, Bool.false_eq_true, ↓reduceIte])
    | (refine Run.unwanted rfl rfl ?_; walk_nrm)
    | (refine Run.op0 rfl rfl (by k_ne) (fun d K hK => by go_simp; exact hK) (fun d => by first | (simp [go_sem, *] <;> fail) | fail) ?_; try w_num)
    | refine Run.ret ?_
    | refine Run.fin ?_
    | refine Run.exit rfl ?_
  refine Run.con (new_con hX1) rfl rfl (by k_ne) rfl (by first | (simp only [List.map_toArray, List.map_cons, List.map_nil]; done) | (simp only [List.map_toArray, List.map_cons, List.map_nil]; rfl)) (fun X2 v w2 hr => ?_)
  obtain ⟨rfl, rfl, hO2, hs2, ht2⟩ := hr
  rw [hTd] at ht2 hs2
  simp only [hTd]
  have hP2 := Cx.next_up (w' := w2) hX1 (by omega)
  have hN2 := hN1.trans hP2
  have hX2 := hN2.ok hX0
  have hT2 : (X1.up w2.heap.size).free T := ⟨by rw [hN2.B]; omega, hX1.new T (by omega)⟩
  have hrd2 : (X1.up w2.heap.size).reads sl := fun ar off e => hP2.free hX1 (hrd1 ar off e)
  have hK2 := hK1.keep hO2 hK1.size
  have hD2 : DosAt sl ds w2 := hD1.keep hO2.size (fun ar off e h => hO2.block ar h (by omega))
  generalize X1.up w2.heap.size = X2 at hP2 hN2 hX2 hT2 hrd2 ⊢
  clear hN1 hK1 hX1 hD1 hrd1 hP2 hO2
  replace ht2 := Lib.hid ht2
  replace hD2 := Lib.hid hD2
  try walk_nrm
  have rb := fun w₁ => run_build (P := Try.prog) w₁ 29 #[] _ bt29
  have eb := ev_build29
  repeat first
    | refine Run.seq ?_
    | refine Run.skip ?_
    | refine Run.regionEnd ?_
    | refine Run.block ?_
    | refine Run.inBlock ?_
    | (refine Run.region ?_; simp only [List.size_toArray, List.length_cons, List.length_nil, Nat.reduceAdd, Nat.zero_add, List.range, List.range.loop])
    | (refine Run.cond rfl ?_; simp only [if_true, if_false, Bool.false_eq_true, ↓reduceIte])
    | (refine Run.unwanted rfl rfl ?_; walk_nrm)
    | (refine Run.op0 rfl rfl (by k_ne) (fun d K hK => by go_simp; exact hK) (fun d => by first | (simp [go_sem, *] <;> fail) | fail) ?_; try w_num)
    | refine Run.ret ?_
    | refine Run.fin ?_
    | refine Run.exit rfl ?_
    | ((refine Run.op (w2.alloc (.cells #[.int .i64 0, .int .i64 0, .int .i64 0, .int .i64 0, .int .i64 0, .int .i64 0, .int .i64 0, .int .i64 0, .int .i64 0, .bool false, .int .i64 0, .int .i64 0] 29)) rfl rfl (by k_ne) (fun d K hK => by go_simp; exact hK) (fun d e he => by simp [go_sem] at he) ?_; try w_num))
  have hr3 : RefAt (T + 1) tl0 (w2.alloc (.cells #[.int .i64 0, .int .i64 0, .int .i64 0, .int .i64 0, .int .i64 0, .int .i64 0, .int .i64 0, .int .i64 0, .int .i64 0, .bool false, .int .i64 0, .int .i64 0] 29)) := by
    unfold RefAt
    rw [← hs2]
    exact alloc_newr w2 _
  have hO3 : Off w2.heap.size w2 (w2.alloc (.cells #[.int .i64 0, .int .i64 0, .int .i64 0, .int .i64 0, .int .i64 0, .int .i64 0, .int .i64 0, .int .i64 0, .int .i64 0, .bool false, .int .i64 0, .int .i64 0] 29)) := Off.alloc _ w2 _
  have hs3 : (w2.alloc (.cells #[.int .i64 0, .int .i64 0, .int .i64 0, .int .i64 0, .int .i64 0, .int .i64 0, .int .i64 0, .int .i64 0, .int .i64 0, .bool false, .int .i64 0, .int .i64 0] 29)).heap.size = T + 1 + 1 := by rw [World.size_alloc, hs2]
  try simp only [hs2]
  generalize w2.alloc (.cells #[.int .i64 0, .int .i64 0, .int .i64 0, .int .i64 0, .int .i64 0, .int .i64 0, .int .i64 0, .int .i64 0, .int .i64 0, .bool false, .int .i64 0, .int .i64 0] 29) = w3 at hr3 hO3 hs3 ⊢
  refine Run.up w3.heap.size ?_
  have hP3 := Cx.next_up (w' := w3) hX2 (by omega)
  have hN3 := hN2.trans hP3
  have hX3 := hN3.ok hX0
  have hR3 : (X2.up w3.heap.size).free (T + 1) := ⟨by rw [hN3.B]; omega, hX2.new (T + 1) (by omega)⟩
  have hT3 := hP3.free hX2 hT2
  have hrd3 : (X2.up w3.heap.size).reads sl := fun ar off e => hP3.free hX2 (hrd2 ar off e)
  have hK3 := hK2.keep hO3 hK2.size
  have hD3 : DosAt sl ds w3 := hD2.out.keep hO3.size (fun ar off e h => hO3.block ar h (by omega))
  have ht3 : TlAt T tl0 w3 := by
    have := ht2.out
    unfold TlAt TalAt at this ⊢
    rw [hO3.block T (by omega) (by omega)]
    exact this
  have hm3 : ∀ l : Loc, l.isMemory = false → (X2.up w3.heap.size).Sh l := fun l hl => hN3.sub l (hm0 l hl)
  have hp3 := hN3.post.trans hpost
  have hin3 : ∀ x ∈ ds, StepsAt x.sl x.steps w3 ∧ (x.steps ≠ [] → (X2.up w3.heap.size).reads x.sl) ∧ (x.steps ≠ [] → ∀ ar off, x.sl = some ⟨ar, off, none⟩ → ar < w3.heap.size ∧ ar ≠ T ∧ ar ≠ T + 1) := fun x hx => by
    obtain ⟨a1, a2, a3⟩ := hin0.out x hx
    refine ⟨fun hn => ?_, fun hn ar off e => hN3.free hX0 (a2 hn ar off e), fun hn ar off e => by have := a3 hn ar off e; omega⟩
    exact (a1.keep hK3.size (fun ar off e => hK3.block ar (a3 hn ar off e) (by have := a3 hn ar off e; omega))) hn
  generalize X2.up w3.heap.size = X3 at hP3 hN3 hX3 hT3 hR3 hrd3 hm3 hp3 hin3 ⊢
  clear hX2 hT2 hrd2 hK2 hD2 hP3 hO3 ht2 hin0 rb eb
  try walk_nrm
  have hZ : Sc0 X3 w3 T (T + 1) := ⟨hX3, hm3, hT3, hR3, by omega, by omega, by omega⟩
  have hI : Sc2 X3 w3 T (T + 1) X3 w3 tl0 tl0 := ⟨⟨rfl, hX3.hears, hN3.B, fun _ h => .inl h, fun _ h => h, Nat.le_refl _⟩, rfl, rfl, rfl, fun _ _ _ _ => rfl, ht3, hr3⟩
  have hLp := fun (K : List Item) hK => scr_loop (ds := ds) (sl := sl) (cap := cap) (K := K) hZ hD3 hrd3 (fun ar off e => by have := hsl ar off e; omega) hin3 (min ds.length 100) 0 (by omega) X3 w3 tl0 hI (fun _ => rfl) (Int.le_refl _) (by decide) hK
  simp only [lin3, Try.f3, Option.getD_some] at hLp
  replace hLp := Lib.hid hLp
  clear hD3 hrd3 ht3 hr3 hI hm3 hZ hin3
  repeat first
    | refine Run.seq ?_
    | refine Run.skip ?_
    | refine Run.regionEnd ?_
    | refine Run.block ?_
    | refine Run.inBlock ?_
    | (refine Run.region ?_; simp only [List.size_toArray, List.length_cons, List.length_nil, Nat.reduceAdd, Nat.zero_add, List.range, List.range.loop])
    | (refine Run.cond rfl ?_; simp only [if_true, if_false, Bool.false_eq_true, ↓reduceIte])
    | (refine Run.unwanted rfl rfl ?_; walk_nrm)
    | (refine Run.op0 rfl rfl (by k_ne) (fun d K hK => by go_simp; exact hK) (fun d => by first | (simp [go_sem, *] <;> fail) | fail) ?_; try w_num)
    | refine Run.ret ?_
    | refine Run.fin ?_
    | refine Run.exit rfl ?_
  refine Run.loop ?_
  refine hLp.out _ ?_ _ _ _ _ _ _ _ _ _ _ _ _ _ _ _ _ _ _ _ _ _ _ _ _ _ _ _ _ _ _ _ _ _ _ _ _ _ _ _ _ _ _ _ _ _ _ _ _ _ _ _ _ _ _ _ _ _ _ _ _ _ _ _ _ _ _ _ _ _ _ _ _ _ _ _ _ _ _ _ _ _ _ _ _ _ _ _ _ _ _ _ _ _ _ _ _ _ _ _ _ _ _ _ _ _ _ _ _ _ _ _ _ _ _ _ _ _ _ _ _ _ _ _
  clear hLp
  intro X4 w4 x4 k4 y1 y6 y7 y8 y9 y10 y11 y12 y13 y14 y15 y16 y17 y18 y19 y20 y21 y22 y23 y24 y25 y26 y27 y28 y29 y30 y31 y32 y33 y34 y35 y36 y37 y38 y39 y40 y41 y42 y43 y44 y45 y46 y47 y48 y49 y50 y51 y52 y53 y54 y55 y56 y57 y58 y59 y60 y61 y62 y63 y64 y65 y66 y67 y68 y69 y70 y71 y72 y73 y74 y75 y76 y77 y78 y79 y80 y81 y82 y83 y84 y85 y86 y87 y88 y89 y90 y91 y92 y93 y94 y95 y96 y97 y98 y99 y100 y101 y102 y103 y104 y105 y106 y107 y108 y109 y110 y111 y112 y113 y114 y115 y116 y117 y118 y119 y120 y121 y122 y123 y124 y125 y126 y127 I
  have hX4 := I.next.ok hX3
  have hp4 := I.next.post.trans hp3
  have hK4 : Off W.heap.size W w4 := ⟨I.tape.trans hK3.tape, I.os.trans hK3.os, I.output.trans hK3.output, Nat.le_trans hK3.size I.next.le, fun b hb hn => (I.block b (by omega) (by omega) (by omega)).trans (hK3.block b hb hn)⟩
  have hd4 : X4.d = 0 := hX4.hears
  have hfi : ∀ w₁, AtRel w4 w₁ → X4.Post (.bool true) w₁ := fun w₁ h₁ => by
    obtain ⟨d, rfl⟩ := h₁
    rw [hp4]
    exact hP _ ⟨hK4.tape, hK4.os, hK4.output, hK4.size, hK4.block⟩
  clear I hX3 hK3 hp3 hT3 hR3 hN2 hN3 hs3 hs2 hK4 hX4 hp4
  repeat first
    | refine Run.seq ?_
    | refine Run.skip ?_
    | refine Run.regionEnd ?_
    | refine Run.block ?_
    | refine Run.inBlock ?_
    | (refine Run.region ?_; simp only [List.size_toArray, List.length_cons, List.length_nil, Nat.reduceAdd, Nat.zero_add, List.range, List.range.loop])
    | (refine Run.cond rfl ?_; simp only [if_true, if_false, Bool.false_eq_true, ↓reduceIte])
    | (refine Run.unwanted rfl rfl ?_; walk_nrm)
    | (refine Run.op0 rfl rfl (by k_ne) (fun d K hK => by go_simp; exact hK) (fun d => by first | (simp [go_sem, *] <;> fail) | fail) ?_; try w_num)
    | refine Run.ret ?_
    | refine Run.fin ?_
    | refine Run.exit rfl ?_
  exact Run.end1 hd4 rfl rfl Try.func3 rfl (by kernel_rfl) hfi
end Go.Proofs.Ytboiolnnhmlieaa.Gang
