
/-
  TallyScripts: the branch of Add. TallyScripts: the branch of First. TallyScripts: the branch of Ticket. TallyScripts: the branch of Spread. TallyScripts: the branch of Draw.
  Conditions: stated lemma by lemma.
-/
import Derived.Test.YtboiolnnhmlieaaGz6
import Derived.Lib.Hide
namespace Go.Proofs.Ytboiolnnhmlieaa.Gang
open Go.Conc Go.ConcN Go.RowKit Go.Conc.Lib Go.ConcR.Gen Go.ConcN.Gen
set_option linter.unusedVariables false
set_option linter.unusedSimpArgs false
set_option maxRecDepth 100000 in
set_option maxHeartbeats 8000000 in
theorem sc_add {X0 X : Cx} {w0 w : World} {T R D k cap : Nat} {x : Tl} {d : DoV} {ds : List DoV} {sl : Option Addr} {KK : List Item} (z : Sc0 X0 w0 T R) (h : Sc2 X0 w0 T R X w x x) (hD : w.heap[D]? = some (boxD d)) (hDl : w0.heap.size ≤ D) (hDf : X.free D) (hwf : ∀ c, w64 (x.cs c) = x.cs c) (htk : 0 ≤ x.tick) (hK : ∀ (X' : Cx) (w' : World) (x' : Tl) (y1 y7 y8 y9 y10 y11 y12 y13 y14 y15 y16 y17 y18 y19 y20 y21 y22 y23 y24 y25 y26 y27 y28 y29 y30 y31 y32 y33 y34 y35 y36 y37 y38 y39 y40 y41 y42 y43 y44 y45 y46 y47 y48 y49 y50 y51 y52 y53 y54 y55 y56 y57 y58 y59 y60 y61 y62 y63 y64 y65 y66 y67 y68 y69 y70 y71 y72 y73 y74 y75 y76 y77 y78 y79 y80 y81 y82 y83 y84 y85 y86 y87 y88 y89 y90 y91 y92 y93 y94 y95 y96 y97 y98 y99 y100 y101 y102 y103 y104 y105 y106 y107 y108 y109 y110 y111 y112 y113 y114 y115 y116 y117 y118 y119 y120 y121 y122 y123 y124 y125 y126 y127 : Value), Sc2 X0 w0 T R X' w' x' x' → ((∀ c, w64 (x'.cs c) = x'.cs c) ∧ 0 ≤ x'.tick ∧ x'.tick ≤ x.tick + 16001) → Run Try.prog X' (G ((base 3).at ⟨#[.slice sl ds.length cap, y1, .bool false, .pointer (some ⟨T, 0, none⟩), .pointer (some ⟨R, 0, none⟩), .int .i64 (k : Int), .pointer (some ⟨D, 0, none⟩), y7, y8, y9, y10, y11, y12, y13, y14, y15, y16, y17, y18, y19, y20, y21, y22, y23, y24, y25, y26, y27, y28, y29, y30, y31, y32, y33, y34, y35, y36, y37, y38, y39, y40, y41, y42, y43, y44, y45, y46, y47, y48, y49, y50, y51, y52, y53, y54, y55, y56, y57, y58, y59, y60, y61, y62, y63, y64, y65, y66, y67, y68, y69, y70, y71, y72, y73, y74, y75, y76, y77, y78, y79, y80, y81, y82, y83, y84, y85, y86, y87, y88, y89, y90, y91, y92, y93, y94, y95, y96, y97, y98, y99, y100, y101, y102, y103, y104, y105, y106, y107, y108, y109, y110, y111, y112, y113, y114, y115, y116, y117, y118, y119, y120, y121, y122, y123, y124, y125, y126, y127], []⟩ KK) []) w') (y1 y7 y8 y9 y10 y11 y12 y13 y14 y15 y16 y17 y18 y19 y20 y21 y22 y23 y24 y25 y26 y27 y28 y29 y30 y31 y32 y33 y34 y35 y36 y37 y38 y39 y40 y41 y42 y43 y44 y45 y46 y47 y48 y49 y50 y51 y52 y53 y54 y55 y56 y57 y58 y59 y60 y61 y62 y63 y64 y65 y66 y67 y68 y69 y70 y71 y72 y73 y74 y75 y76 y77 y78 y79 y80 y81 y82 y83 y84 y85 y86 y87 y88 y89 y90 y91 y92 y93 y94 y95 y96 y97 y98 y99 y100 y101 y102 y103 y104 y105 y106 y107 y108 y109 y110 y111 y112 y113 y114 y115 y116 y117 y118 y119 y120 y121 y122 y123 y124 y125 y126 y127 : Value) : Run Try.prog X (G ((base 3).at ⟨#[.slice sl ds.length cap, y1, .bool false, .pointer (some ⟨T, 0, none⟩), .pointer (some ⟨R, 0, none⟩), .int .i64 (k : Int), .pointer (some ⟨D, 0, none⟩), y7, y8, y9, y10, y11, y12, y13, y14, y15, y16, y17, y18, y19, y20, y21, y22, y23, y24, y25, y26, y27, y28, y29, y30, y31, y32, y33, y34, y35, y36, y37, y38, y39, y40, y41, y42, y43, y44, y45, y46, y47, y48, y49, y50, y51, y52, y53, y54, y55, y56, y57, y58, y59, y60, y61, y62, y63, y64, y65, y66, y67, y68, y69, y70, y71, y72, y73, y74, y75, y76, y77, y78, y79, y80, y81, y82, y83, y84, y85, y86, y87, y88, y89, y90, y91, y92, y93, y94, y95, y96, y97, y98, y99, y100, y101, y102, y103, y104, y105, y106, y107, y108, y109, y110, y111, y112, y113, y114, y115, y116, y117, y118, y119, y120, y121, y122, y123, y124, y125, y126, y127], []⟩ (.code (br 0) :: .inBlock 2 :: KK)) []) w := by
  have HE : (∀ c, w64 ((addx x d.slot d.num).cs c) = (addx x d.slot d.num).cs c) ∧ 0 ≤ (addx x d.slot d.num).tick ∧ (addx x d.slot d.num).tick ≤ x.tick + 16001 := ⟨addx_wf hwf _ _, by rw [addx_tick]; exact htk, by rw [addx_tick]; omega⟩
  have hX := h.okX z
  have hDw : D < w.heap.size := (Array.getElem?_eq_some_iff.1 hD).1
  have hDT : D ≠ T := by have := z.lT; omega
  have hDR : D ≠ R := by have := z.lR; omega
  obtain ⟨x', hx'⟩ : ∃ x', x' = addx x d.slot d.num := ⟨_, rfl⟩
  have hE : ((∀ c, w64 (x'.cs c) = x'.cs c) ∧ 0 ≤ x'.tick ∧ x'.tick ≤ x.tick + 16001) := by
    subst hx'
    exact HE
  have hC1 := add_any h.next.B hX (h.freeT z) h.at_ d.slot d.num
  have hC2 := fun (X1 : Cx) (w1 : World) (s1 : Sc2 X0 w0 T R X1 w1 x' x) => radd_any (s1.okX z) (s1.freeR z) (Nat.lt_of_lt_of_le z.lR s1.next.le) s1.ref d.slot d.num
  rw [← hx'] at hC1
  simp only [← hx'] at hC2
  replace hC1 := Lib.hid hC1
  replace hC2 := Lib.hid hC2
  replace h := Lib.hid h
  replace hK := Lib.hid hK
  clear hx'
  simp only [br, blk3, lin3, Try.f3, Option.getD_some]
  generalize (if okStep d.slot d.num = true then (0 : Int) else 1) = e at hC1 hC2
  repeat first
    | refine Run.seq ?_
    | refine Run.skip ?_
    | refine Run.regionEnd ?_
    | refine Run.block ?_
    | refine Run.inBlock ?_
    | (refine Run.region ?_; simp only [List.size_toArray, List.length_cons, List.length_nil, Nat.reduceAdd, Nat.zero_add, List.range, List.range.loop])
    | (refine Run.cond rfl ?_; simp only [if_true, if_false, Bool.false_eq_true, ↓reduceIte])
    | (refine Run.unwanted rfl rfl ?_; walk_nrm)
    | (refine Run.op0 rfl rfl (by k_ne) (fun d K hK => by go_simp; exact hK) (fun d => by first | (simp [go_sem, *] <;> fail) | fail) ?_; try w_num)
    | refine Run.ret ?_
    | refine Run.fin ?_
    | refine Run.exit rfl ?_
  refine Run.drawX (by k_ne) rfl _ (fun X' w' => X'.free D ∧ w'.heap[D]? = some (boxD d)) ?_ (fun _ _ _ h => h)
  simp only [List.size_toArray, List.length_cons, List.length_nil, Nat.reduceAdd, Nat.zero_add]
  refine anyX_take (i' := 0) rfl (by kernel_rfl) (by kernel_rfl) (by kernel_rfl) (by kernel_rfl) (fun X' w' hS => by
    skip
    exact .inl ⟨rfl, fun d => ⟨by go_simp; rfl, fun e he => by simp [go_sem, *] at he⟩⟩) ?_
  walk_nrm
  refine anyX_take (i' := 1) rfl (by kernel_rfl) (by kernel_rfl) (by kernel_rfl) (by kernel_rfl) (fun X' w' hS => by
    skip
    exact .inl ⟨rfl, fun d => ⟨by go_simp; rfl, fun e he => by simp [go_sem, *] at he⟩⟩) ?_
  walk_nrm
  refine anyX_take (i' := 2) rfl (by kernel_rfl) (by kernel_rfl) (by kernel_rfl) (by kernel_rfl) (fun X' w' hS => by
    skip
    exact .inl ⟨rfl, fun d => ⟨by go_simp; rfl, fun e he => by simp [go_sem, *] at he⟩⟩) ?_
  walk_nrm
  refine anyX_take (i' := 3) rfl (by kernel_rfl) (by kernel_rfl) (by kernel_rfl) (by kernel_rfl) (fun X' w' hS => by
    obtain ⟨hf, hb⟩ := hS
    obtain ⟨k0, k1, k2, k3, k4, k5⟩ := boxD_cell hb
    clear hb
    exact .inl ⟨rfl, fun d => ⟨by go_simp; rfl, fun e he => by simp [go_sem, *] at he; subst he; exact evL_free hf⟩⟩) ?_
  walk_nrm
  refine anyX_take (i' := 4) rfl (by kernel_rfl) (by kernel_rfl) (by kernel_rfl) (by kernel_rfl) (fun X' w' hS => by
    skip
    exact .inl ⟨rfl, fun d => ⟨by go_simp; rfl, fun e he => by simp [go_sem, *] at he⟩⟩) ?_
  walk_nrm
  refine anyX_take (i' := 5) rfl (by kernel_rfl) (by kernel_rfl) (by kernel_rfl) (by kernel_rfl) (fun X' w' hS => by
    skip
    exact .inl ⟨rfl, fun d => ⟨by go_simp; rfl, fun e he => by simp [go_sem, *] at he⟩⟩) ?_
  walk_nrm
  refine anyX_take (i' := 6) rfl (by kernel_rfl) (by kernel_rfl) (by kernel_rfl) (by kernel_rfl) (fun X' w' hS => by
    obtain ⟨hf, hb⟩ := hS
    obtain ⟨k0, k1, k2, k3, k4, k5⟩ := boxD_cell hb
    clear hb
    exact .inl ⟨rfl, fun d => ⟨by go_simp; rfl, fun e he => by simp [go_sem, *] at he; subst he; exact evL_free hf⟩⟩) ?_
  walk_nrm
  refine anyX_take (i' := 8) rfl (by kernel_rfl) (by kernel_rfl) (by kernel_rfl) (by kernel_rfl) (fun X' w' hS => by
    skip
    exact .inl ⟨rfl, fun d => ⟨by go_simp; rfl, fun e he => by simp [go_sem, *] at he⟩⟩) ?_
  walk_nrm
  refine anyX_take (i' := 9) rfl (by kernel_rfl) (by kernel_rfl) (by kernel_rfl) (by kernel_rfl) (fun X' w' hS => by
    skip
    exact .inl ⟨rfl, fun d => ⟨by go_simp; rfl, fun e he => by simp [go_sem, *] at he⟩⟩) ?_
  walk_nrm
  refine anyX_take (i' := 10) rfl (by kernel_rfl) (by kernel_rfl) (by kernel_rfl) (by kernel_rfl) (fun X' w' hS => by
    obtain ⟨hf, hb⟩ := hS
    obtain ⟨k0, k1, k2, k3, k4, k5⟩ := boxD_cell hb
    clear hb
    exact .inl ⟨rfl, fun d => ⟨by go_simp; rfl, fun e he => by simp [go_sem, *] at he; rcases he with he | he <;> (subst he; exact evL_free hf)⟩⟩) ?_
  walk_nrm
  refine anyX_call (j := 7) hC1.out rfl (by kernel_rfl) (by kernel_rfl) ⟨hDf, hD⟩ rfl rfl (by first | (simp only [List.map_toArray, List.map_cons, List.map_nil]; done) | (simp only [List.map_toArray, List.map_cons, List.map_nil]; rfl)) (fun X1 v w1 hr => ?_)
  obtain ⟨n1, o1, rfl, t1⟩ := hr
  have hD1 : w1.heap[D]? = some (boxD d) := (o1.block D hDw (by omega)).trans hD
  have hf1 := n1.free hX hDf
  have s1 := h.out.onT z n1 o1 t1
  have hC2' := Lib.hid (hC2.out X1 w1 s1)
  walk_nrm
  refine anyX_call (j := 11) hC2'.out rfl (by kernel_rfl) (by kernel_rfl) ⟨hf1, hD1⟩ rfl rfl (by first | (simp only [List.map_toArray, List.map_cons, List.map_nil]; done) | (simp only [List.map_toArray, List.map_cons, List.map_nil]; rfl)) (fun X2 v w2 hr => ?_)
  obtain ⟨n2, o2, rfl, t2⟩ := hr
  have hD2 : w2.heap[D]? = some (boxD d) := (o2.block D (Nat.lt_of_lt_of_le hDw o1.size) (by omega)).trans hD1
  have hf2 := n2.free (s1.okX z) hf1
  have s2 := s1.onR z n2 o2 t2
  walk_nrm
  refine anyX_take (i' := 12) rfl (by kernel_rfl) (by kernel_rfl) (by kernel_rfl) (by kernel_rfl) (fun X' w' hS => by
    skip
    exact .inl ⟨rfl, fun d => ⟨by go_simp; rfl, fun e he => by simp [go_sem, *] at he⟩⟩) ?_
  walk_nrm
  refine anyX_done (by kernel_rfl) ⟨hf2, hD2⟩ ?_
  replace hK := Lib.hid (fun y1 y7 y8 y9 y10 y11 y12 y13 y14 y15 y16 y17 y18 y19 y20 y21 y22 y23 y24 y25 y26 y27 y28 y29 y30 y31 y32 y33 y34 y35 y36 y37 y38 y39 y40 y41 y42 y43 y44 y45 y46 y47 y48 y49 y50 y51 y52 y53 y54 y55 y56 y57 y58 y59 y60 y61 y62 y63 y64 y65 y66 y67 y68 y69 y70 y71 y72 y73 y74 y75 y76 y77 y78 y79 y80 y81 y82 y83 y84 y85 y86 y87 y88 y89 y90 y91 y92 y93 y94 y95 y96 y97 y98 y99 y100 y101 y102 y103 y104 y105 y106 y107 y108 y109 y110 y111 y112 y113 y114 y115 y116 y117 y118 y119 y120 y121 y122 y123 y124 y125 y126 y127 => hK.out X2 w2 x' y1 y7 y8 y9 y10 y11 y12 y13 y14 y15 y16 y17 y18 y19 y20 y21 y22 y23 y24 y25 y26 y27 y28 y29 y30 y31 y32 y33 y34 y35 y36 y37 y38 y39 y40 y41 y42 y43 y44 y45 y46 y47 y48 y49 y50 y51 y52 y53 y54 y55 y56 y57 y58 y59 y60 y61 y62 y63 y64 y65 y66 y67 y68 y69 y70 y71 y72 y73 y74 y75 y76 y77 y78 y79 y80 y81 y82 y83 y84 y85 y86 y87 y88 y89 y90 y91 y92 y93 y94 y95 y96 y97 y98 y99 y100 y101 y102 y103 y104 y105 y106 y107 y108 y109 y110 y111 y112 y113 y114 y115 y116 y117 y118 y119 y120 y121 y122 y123 y124 y125 y126 y127 s2 hE)
  clear s2 h hD hC1 hC2 hC2' hDf hX hDw hE z s1 hD1 hD2 hf1 hf2 n1 o1 t1 n2 o2 t2
  repeat first
    | refine Run.seq ?_
    | refine Run.skip ?_
    | refine Run.regionEnd ?_
    | refine Run.block ?_
    | refine Run.inBlock ?_
    | (refine Run.region ?_; simp only [List.size_toArray, List.length_cons, List.length_nil, Nat.reduceAdd, Nat.zero_add, List.range, List.range.loop])
    | (refine Run.cond rfl ?_; simp only [if_true, if_false, Bool.false_eq_true, ↓reduceIte])
    | (refine Run.unwanted rfl rfl ?_; walk_nrm)
    | (refine Run.op0 rfl rfl (by k_ne) (fun d K hK => by go_simp; exact hK) (fun d => by first | (simp [go_sem, *] <;> fail) | fail) ?_; try w_num)
    | refine Run.ret ?_
    | refine Run.fin ?_
    | refine Run.exit rfl ?_
  exact hK.out _ _ _ _ _ _ _ _ _ _ _ _ _ _ _ _ _ _ _ _ _ _ _ _ _ _ _ _ _ _ _ _ _ _ _ _ _ _ _ _ _ _ _ _ _ _ _ _ _ _ _ _ _ _ _ _ _ _ _ _ _ _ _ _ _ _ _ _ _ _ _ _ _ _ _ _ _ _ _ _ _ _ _ _ _ _ _ _ _ _ _ _ _ _ _ _ _ _ _ _ _ _ _ _ _ _ _ _ _ _ _ _ _ _ _ _ _ _ _ _ _ _
end Go.Proofs.Ytboiolnnhmlieaa.Gang
namespace Go.Proofs.Ytboiolnnhmlieaa.Gang
open Go.Conc Go.ConcN Go.RowKit Go.Conc.Lib Go.ConcR.Gen Go.ConcN.Gen
set_option linter.unusedVariables false
set_option linter.unusedSimpArgs false
set_option maxRecDepth 100000 in
set_option maxHeartbeats 8000000 in
theorem sc_first {X0 X : Cx} {w0 w : World} {T R D k cap : Nat} {x : Tl} {d : DoV} {ds : List DoV} {sl : Option Addr} {KK : List Item} (z : Sc0 X0 w0 T R) (h : Sc2 X0 w0 T R X w x x) (hD : w.heap[D]? = some (boxD d)) (hDl : w0.heap.size ≤ D) (hDf : X.free D) (hwf : ∀ c, w64 (x.cs c) = x.cs c) (htk : 0 ≤ x.tick) (hK : ∀ (X' : Cx) (w' : World) (x' : Tl) (y1 y7 y8 y9 y10 y11 y12 y13 y14 y15 y16 y17 y18 y19 y20 y21 y22 y23 y24 y25 y26 y27 y28 y29 y30 y31 y32 y33 y34 y35 y36 y37 y38 y39 y40 y41 y42 y43 y44 y45 y46 y47 y48 y49 y50 y51 y52 y53 y54 y55 y56 y57 y58 y59 y60 y61 y62 y63 y64 y65 y66 y67 y68 y69 y70 y71 y72 y73 y74 y75 y76 y77 y78 y79 y80 y81 y82 y83 y84 y85 y86 y87 y88 y89 y90 y91 y92 y93 y94 y95 y96 y97 y98 y99 y100 y101 y102 y103 y104 y105 y106 y107 y108 y109 y110 y111 y112 y113 y114 y115 y116 y117 y118 y119 y120 y121 y122 y123 y124 y125 y126 y127 : Value), Sc2 X0 w0 T R X' w' x' x' → ((∀ c, w64 (x'.cs c) = x'.cs c) ∧ 0 ≤ x'.tick ∧ x'.tick ≤ x.tick + 16001) → Run Try.prog X' (G ((base 3).at ⟨#[.slice sl ds.length cap, y1, .bool false, .pointer (some ⟨T, 0, none⟩), .pointer (some ⟨R, 0, none⟩), .int .i64 (k : Int), .pointer (some ⟨D, 0, none⟩), y7, y8, y9, y10, y11, y12, y13, y14, y15, y16, y17, y18, y19, y20, y21, y22, y23, y24, y25, y26, y27, y28, y29, y30, y31, y32, y33, y34, y35, y36, y37, y38, y39, y40, y41, y42, y43, y44, y45, y46, y47, y48, y49, y50, y51, y52, y53, y54, y55, y56, y57, y58, y59, y60, y61, y62, y63, y64, y65, y66, y67, y68, y69, y70, y71, y72, y73, y74, y75, y76, y77, y78, y79, y80, y81, y82, y83, y84, y85, y86, y87, y88, y89, y90, y91, y92, y93, y94, y95, y96, y97, y98, y99, y100, y101, y102, y103, y104, y105, y106, y107, y108, y109, y110, y111, y112, y113, y114, y115, y116, y117, y118, y119, y120, y121, y122, y123, y124, y125, y126, y127], []⟩ KK) []) w') (y1 y7 y8 y9 y10 y11 y12 y13 y14 y15 y16 y17 y18 y19 y20 y21 y22 y23 y24 y25 y26 y27 y28 y29 y30 y31 y32 y33 y34 y35 y36 y37 y38 y39 y40 y41 y42 y43 y44 y45 y46 y47 y48 y49 y50 y51 y52 y53 y54 y55 y56 y57 y58 y59 y60 y61 y62 y63 y64 y65 y66 y67 y68 y69 y70 y71 y72 y73 y74 y75 y76 y77 y78 y79 y80 y81 y82 y83 y84 y85 y86 y87 y88 y89 y90 y91 y92 y93 y94 y95 y96 y97 y98 y99 y100 y101 y102 y103 y104 y105 y106 y107 y108 y109 y110 y111 y112 y113 y114 y115 y116 y117 y118 y119 y120 y121 y122 y123 y124 y125 y126 y127 : Value) : Run Try.prog X (G ((base 3).at ⟨#[.slice sl ds.length cap, y1, .bool false, .pointer (some ⟨T, 0, none⟩), .pointer (some ⟨R, 0, none⟩), .int .i64 (k : Int), .pointer (some ⟨D, 0, none⟩), y7, y8, y9, y10, y11, y12, y13, y14, y15, y16, y17, y18, y19, y20, y21, y22, y23, y24, y25, y26, y27, y28, y29, y30, y31, y32, y33, y34, y35, y36, y37, y38, y39, y40, y41, y42, y43, y44, y45, y46, y47, y48, y49, y50, y51, y52, y53, y54, y55, y56, y57, y58, y59, y60, y61, y62, y63, y64, y65, y66, y67, y68, y69, y70, y71, y72, y73, y74, y75, y76, y77, y78, y79, y80, y81, y82, y83, y84, y85, y86, y87, y88, y89, y90, y91, y92, y93, y94, y95, y96, y97, y98, y99, y100, y101, y102, y103, y104, y105, y106, y107, y108, y109, y110, y111, y112, y113, y114, y115, y116, y117, y118, y119, y120, y121, y122, y123, y124, y125, y126, y127], []⟩ (.code (br 2) :: .inBlock 2 :: KK)) []) w := by
  have HE : (∀ c, w64 ((firstx x d.num).cs c) = (firstx x d.num).cs c) ∧ 0 ≤ (firstx x d.num).tick ∧ (firstx x d.num).tick ≤ x.tick + 16001 := by
    have e1 : (firstx x d.num).cs = x.cs := by unfold firstx; split <;> rfl
    have e2 : (firstx x d.num).tick = x.tick := by unfold firstx; split <;> rfl
    rw [e1, e2]
    exact ⟨hwf, htk, by omega⟩
  have hX := h.okX z
  have hDw : D < w.heap.size := (Array.getElem?_eq_some_iff.1 hD).1
  have hDT : D ≠ T := by have := z.lT; omega
  have hDR : D ≠ R := by have := z.lR; omega
  obtain ⟨x', hx'⟩ : ∃ x', x' = firstx x d.num := ⟨_, rfl⟩
  have hE : ((∀ c, w64 (x'.cs c) = x'.cs c) ∧ 0 ≤ x'.tick ∧ x'.tick ≤ x.tick + 16001) := by
    subst hx'
    exact HE
  have hC1 := first_any hX (h.freeT z) (Nat.lt_of_lt_of_le z.lT h.next.le) h.at_ d.num
  have hC2 := fun (X1 : Cx) (w1 : World) (s1 : Sc2 X0 w0 T R X1 w1 x' x) => rfirst_any s1.next.B (s1.okX z) (s1.freeR z) s1.ref d.num
  rw [← hx'] at hC1
  simp only [← hx'] at hC2
  replace hC1 := Lib.hid hC1
  replace hC2 := Lib.hid hC2
  replace h := Lib.hid h
  replace hK := Lib.hid hK
  clear hx'
  simp only [br, blk3, lin3, Try.f3, Option.getD_some]
  generalize (if x.done = true then x.word else d.num) = e at hC1 hC2
  repeat first
    | refine Run.seq ?_
    | refine Run.skip ?_
    | refine Run.regionEnd ?_
    | refine Run.block ?_
    | refine Run.inBlock ?_
    | (refine Run.region ?_; simp only [List.size_toArray, List.length_cons, List.length_nil, Nat.reduceAdd, Nat.zero_add, List.range, List.range.loop])
    | (refine Run.cond rfl ?_; simp only [if_true, if_false, Bool.false_eq_true, ↓reduceIte])
    | (refine Run.unwanted rfl rfl ?_; walk_nrm)
    | (refine Run.op0 rfl rfl (by k_ne) (fun d K hK => by go_simp; exact hK) (fun d => by first | (simp [go_sem, *] <;> fail) | fail) ?_; try w_num)
    | refine Run.ret ?_
    | refine Run.fin ?_
    | refine Run.exit rfl ?_
  refine Run.drawX (by k_ne) rfl _ (fun X' w' => X'.free D ∧ w'.heap[D]? = some (boxD d)) ?_ (fun _ _ _ h => h)
  simp only [List.size_toArray, List.length_cons, List.length_nil, Nat.reduceAdd, Nat.zero_add]
  refine anyX_take (i' := 0) rfl (by kernel_rfl) (by kernel_rfl) (by kernel_rfl) (by kernel_rfl) (fun X' w' hS => by
    skip
    exact .inl ⟨rfl, fun d => ⟨by go_simp; rfl, fun e he => by simp [go_sem, *] at he⟩⟩) ?_
  walk_nrm
  refine anyX_take (i' := 1) rfl (by kernel_rfl) (by kernel_rfl) (by kernel_rfl) (by kernel_rfl) (fun X' w' hS => by
    skip
    exact .inl ⟨rfl, fun d => ⟨by go_simp; rfl, fun e he => by simp [go_sem, *] at he⟩⟩) ?_
  walk_nrm
  refine anyX_take (i' := 2) rfl (by kernel_rfl) (by kernel_rfl) (by kernel_rfl) (by kernel_rfl) (fun X' w' hS => by
    skip
    exact .inl ⟨rfl, fun d => ⟨by go_simp; rfl, fun e he => by simp [go_sem, *] at he⟩⟩) ?_
  walk_nrm
  refine anyX_take (i' := 3) rfl (by kernel_rfl) (by kernel_rfl) (by kernel_rfl) (by kernel_rfl) (fun X' w' hS => by
    obtain ⟨hf, hb⟩ := hS
    obtain ⟨k0, k1, k2, k3, k4, k5⟩ := boxD_cell hb
    clear hb
    exact .inl ⟨rfl, fun d => ⟨by go_simp; rfl, fun e he => by simp [go_sem, *] at he; subst he; exact evL_free hf⟩⟩) ?_
  walk_nrm
  refine anyX_take (i' := 5) rfl (by kernel_rfl) (by kernel_rfl) (by kernel_rfl) (by kernel_rfl) (fun X' w' hS => by
    skip
    exact .inl ⟨rfl, fun d => ⟨by go_simp; rfl, fun e he => by simp [go_sem, *] at he⟩⟩) ?_
  walk_nrm
  refine anyX_take (i' := 6) rfl (by kernel_rfl) (by kernel_rfl) (by kernel_rfl) (by kernel_rfl) (fun X' w' hS => by
    skip
    exact .inl ⟨rfl, fun d => ⟨by go_simp; rfl, fun e he => by simp [go_sem, *] at he⟩⟩) ?_
  walk_nrm
  refine anyX_take (i' := 7) rfl (by kernel_rfl) (by kernel_rfl) (by kernel_rfl) (by kernel_rfl) (fun X' w' hS => by
    skip
    exact .inl ⟨rfl, fun d => ⟨by go_simp; rfl, fun e he => by simp [go_sem, *] at he⟩⟩) ?_
  walk_nrm
  refine anyX_take (i' := 8) rfl (by kernel_rfl) (by kernel_rfl) (by kernel_rfl) (by kernel_rfl) (fun X' w' hS => by
    obtain ⟨hf, hb⟩ := hS
    obtain ⟨k0, k1, k2, k3, k4, k5⟩ := boxD_cell hb
    clear hb
    exact .inl ⟨rfl, fun d => ⟨by go_simp; rfl, fun e he => by simp [go_sem, *] at he; subst he; exact evL_free hf⟩⟩) ?_
  walk_nrm
  refine anyX_call (j := 4) hC1.out rfl (by kernel_rfl) (by kernel_rfl) ⟨hDf, hD⟩ rfl rfl (by first | (simp only [List.map_toArray, List.map_cons, List.map_nil]; done) | (simp only [List.map_toArray, List.map_cons, List.map_nil]; rfl)) (fun X1 v w1 hr => ?_)
  obtain ⟨n1, o1, rfl, t1⟩ := hr
  have hD1 : w1.heap[D]? = some (boxD d) := (o1.block D hDw (by omega)).trans hD
  have hf1 := n1.free hX hDf
  have s1 := h.out.onT z n1 o1 t1
  have hC2' := Lib.hid (hC2.out X1 w1 s1)
  walk_nrm
  refine anyX_call (j := 9) hC2'.out rfl (by kernel_rfl) (by kernel_rfl) ⟨hf1, hD1⟩ rfl rfl (by first | (simp only [List.map_toArray, List.map_cons, List.map_nil]; done) | (simp only [List.map_toArray, List.map_cons, List.map_nil]; rfl)) (fun X2 v w2 hr => ?_)
  obtain ⟨n2, o2, rfl, t2⟩ := hr
  have hD2 : w2.heap[D]? = some (boxD d) := (o2.block D (Nat.lt_of_lt_of_le hDw o1.size) (by omega)).trans hD1
  have hf2 := n2.free (s1.okX z) hf1
  have s2 := s1.onR z n2 o2 t2
  walk_nrm
  refine anyX_take (i' := 10) rfl (by kernel_rfl) (by kernel_rfl) (by kernel_rfl) (by kernel_rfl) (fun X' w' hS => by
    skip
    exact .inl ⟨rfl, fun d => ⟨by go_simp; rfl, fun e he => by simp [go_sem, *] at he⟩⟩) ?_
  walk_nrm
  refine anyX_done (by kernel_rfl) ⟨hf2, hD2⟩ ?_
  replace hK := Lib.hid (fun y1 y7 y8 y9 y10 y11 y12 y13 y14 y15 y16 y17 y18 y19 y20 y21 y22 y23 y24 y25 y26 y27 y28 y29 y30 y31 y32 y33 y34 y35 y36 y37 y38 y39 y40 y41 y42 y43 y44 y45 y46 y47 y48 y49 y50 y51 y52 y53 y54 y55 y56 y57 y58 y59 y60 y61 y62 y63 y64 y65 y66 y67 y68 y69 y70 y71 y72 y73 y74 y75 y76 y77 y78 y79 y80 y81 y82 y83 y84 y85 y86 y87 y88 y89 y90 y91 y92 y93 y94 y95 y96 y97 y98 y99 y100 y101 y102 y103 y104 y105 y106 y107 y108 y109 y110 y111 y112 y113 y114 y115 y116 y117 y118 y119 y120 y121 y122 y123 y124 y125 y126 y127 => hK.out X2 w2 x' y1 y7 y8 y9 y10 y11 y12 y13 y14 y15 y16 y17 y18 y19 y20 y21 y22 y23 y24 y25 y26 y27 y28 y29 y30 y31 y32 y33 y34 y35 y36 y37 y38 y39 y40 y41 y42 y43 y44 y45 y46 y47 y48 y49 y50 y51 y52 y53 y54 y55 y56 y57 y58 y59 y60 y61 y62 y63 y64 y65 y66 y67 y68 y69 y70 y71 y72 y73 y74 y75 y76 y77 y78 y79 y80 y81 y82 y83 y84 y85 y86 y87 y88 y89 y90 y91 y92 y93 y94 y95 y96 y97 y98 y99 y100 y101 y102 y103 y104 y105 y106 y107 y108 y109 y110 y111 y112 y113 y114 y115 y116 y117 y118 y119 y120 y121 y122 y123 y124 y125 y126 y127 s2 hE)
  clear s2 h hD hC1 hC2 hC2' hDf hX hDw hE z s1 hD1 hD2 hf1 hf2 n1 o1 t1 n2 o2 t2
  repeat first
    | refine Run.seq ?_
    | refine Run.skip ?_
    | refine Run.regionEnd ?_
    | refine Run.block ?_
    | refine Run.inBlock ?_
    | (refine Run.region ?_; simp only [List.size_toArray, List.length_cons, List.length_nil, Nat.reduceAdd, Nat.zero_add, List.range, List.range.loop])
    | (refine Run.cond rfl ?_; simp only [if_true, if_false, Bool.false_eq_true, ↓reduceIte])
    | (refine Run.unwanted rfl rfl ?_; walk_nrm)
    | (refine Run.op0 rfl rfl (by k_ne) (fun d K hK => by go_simp; exact hK) (fun d => by first | (simp [go_sem, *] <;> fail) | fail) ?_; try w_num)
    | refine Run.ret ?_
    | refine Run.fin ?_
    | refine Run.exit rfl ?_
  exact hK.out _ _ _ _ _ _ _ _ _ _ _ _ _ _ _ _ _ _ _ _ _ _ _ _ _ _ _ _ _ _ _ _ _ _ _ _ _ _ _ _ _ _ _ _ _ _ _ _ _ _ _ _ _ _ _ _ _ _ _ _ _ _ _ _ _ _ _ _ _ _ _ _ _ _ _ _ _ _ _ _ _ _ _ _ _ _ _ _ _ _ _ _ _ _ _ _ _ _ _ _ _ _ _ _ _ _ _ _ _ _ _ _ _ _ _ _ _ _ _ _ _ _
end Go.Proofs.Ytboiolnnhmlieaa.Gang
namespace Go.Proofs.Ytboiolnnhmlieaa.Gang
open Go.Conc Go.ConcN Go.RowKit Go.Conc.Lib Go.ConcR.Gen Go.ConcN.Gen
set_option linter.unusedVariables false
set_option linter.unusedSimpArgs false
set_option maxRecDepth 100000 in
set_option maxHeartbeats 8000000 in
theorem sc_ticket {X0 X : Cx} {w0 w : World} {T R D k cap : Nat} {x : Tl} {d : DoV} {ds : List DoV} {sl : Option Addr} {KK : List Item} (z : Sc0 X0 w0 T R) (h : Sc2 X0 w0 T R X w x x) (hD : w.heap[D]? = some (boxD d)) (hDl : w0.heap.size ≤ D) (hDf : X.free D) (hwf : ∀ c, w64 (x.cs c) = x.cs c) (htk : 0 ≤ x.tick) (htk1 : x.tick ≤ 2305843009213693952)  (hK : ∀ (X' : Cx) (w' : World) (x' : Tl) (y1 y7 y8 y9 y10 y11 y12 y13 y14 y15 y16 y17 y18 y19 y20 y21 y22 y23 y24 y25 y26 y27 y28 y29 y30 y31 y32 y33 y34 y35 y36 y37 y38 y39 y40 y41 y42 y43 y44 y45 y46 y47 y48 y49 y50 y51 y52 y53 y54 y55 y56 y57 y58 y59 y60 y61 y62 y63 y64 y65 y66 y67 y68 y69 y70 y71 y72 y73 y74 y75 y76 y77 y78 y79 y80 y81 y82 y83 y84 y85 y86 y87 y88 y89 y90 y91 y92 y93 y94 y95 y96 y97 y98 y99 y100 y101 y102 y103 y104 y105 y106 y107 y108 y109 y110 y111 y112 y113 y114 y115 y116 y117 y118 y119 y120 y121 y122 y123 y124 y125 y126 y127 : Value), Sc2 X0 w0 T R X' w' x' x' → ((∀ c, w64 (x'.cs c) = x'.cs c) ∧ 0 ≤ x'.tick ∧ x'.tick ≤ x.tick + 16001) → Run Try.prog X' (G ((base 3).at ⟨#[.slice sl ds.length cap, y1, .bool false, .pointer (some ⟨T, 0, none⟩), .pointer (some ⟨R, 0, none⟩), .int .i64 (k : Int), .pointer (some ⟨D, 0, none⟩), y7, y8, y9, y10, y11, y12, y13, y14, y15, y16, y17, y18, y19, y20, y21, y22, y23, y24, y25, y26, y27, y28, y29, y30, y31, y32, y33, y34, y35, y36, y37, y38, y39, y40, y41, y42, y43, y44, y45, y46, y47, y48, y49, y50, y51, y52, y53, y54, y55, y56, y57, y58, y59, y60, y61, y62, y63, y64, y65, y66, y67, y68, y69, y70, y71, y72, y73, y74, y75, y76, y77, y78, y79, y80, y81, y82, y83, y84, y85, y86, y87, y88, y89, y90, y91, y92, y93, y94, y95, y96, y97, y98, y99, y100, y101, y102, y103, y104, y105, y106, y107, y108, y109, y110, y111, y112, y113, y114, y115, y116, y117, y118, y119, y120, y121, y122, y123, y124, y125, y126, y127], []⟩ KK) []) w') (y1 y7 y8 y9 y10 y11 y12 y13 y14 y15 y16 y17 y18 y19 y20 y21 y22 y23 y24 y25 y26 y27 y28 y29 y30 y31 y32 y33 y34 y35 y36 y37 y38 y39 y40 y41 y42 y43 y44 y45 y46 y47 y48 y49 y50 y51 y52 y53 y54 y55 y56 y57 y58 y59 y60 y61 y62 y63 y64 y65 y66 y67 y68 y69 y70 y71 y72 y73 y74 y75 y76 y77 y78 y79 y80 y81 y82 y83 y84 y85 y86 y87 y88 y89 y90 y91 y92 y93 y94 y95 y96 y97 y98 y99 y100 y101 y102 y103 y104 y105 y106 y107 y108 y109 y110 y111 y112 y113 y114 y115 y116 y117 y118 y119 y120 y121 y122 y123 y124 y125 y126 y127 : Value) : Run Try.prog X (G ((base 3).at ⟨#[.slice sl ds.length cap, y1, .bool false, .pointer (some ⟨T, 0, none⟩), .pointer (some ⟨R, 0, none⟩), .int .i64 (k : Int), .pointer (some ⟨D, 0, none⟩), y7, y8, y9, y10, y11, y12, y13, y14, y15, y16, y17, y18, y19, y20, y21, y22, y23, y24, y25, y26, y27, y28, y29, y30, y31, y32, y33, y34, y35, y36, y37, y38, y39, y40, y41, y42, y43, y44, y45, y46, y47, y48, y49, y50, y51, y52, y53, y54, y55, y56, y57, y58, y59, y60, y61, y62, y63, y64, y65, y66, y67, y68, y69, y70, y71, y72, y73, y74, y75, y76, y77, y78, y79, y80, y81, y82, y83, y84, y85, y86, y87, y88, y89, y90, y91, y92, y93, y94, y95, y96, y97, y98, y99, y100, y101, y102, y103, y104, y105, y106, y107, y108, y109, y110, y111, y112, y113, y114, y115, y116, y117, y118, y119, y120, y121, y122, y123, y124, y125, y126, y127], []⟩ (.code (br 3) :: .inBlock 2 :: KK)) []) w := by
  have hX := h.okX z
  have hR := h.freeR z
  have evn := ev_nilptr ⟨R, 0, none⟩
  obtain ⟨r, hr⟩ : ∃ r, r = x.tick + 1 := ⟨_, rfl⟩
  have ew : IntKind.i64.wrap (x.tick + 1) = r := by rw [hr, IntKind.wrap_i64]; omega
  have ew2 : w64 (x.tick + 1) = r := by rw [hr]; unfold w64; omega
  have cR := h.ref.cTick
  have tR := h.ref.thaw 11
  have a2 := aside_setCell w ⟨R, 11, none⟩ (.int .i64 r)
  have r2 : RefAt R { x with tick := r } (w.setCell ⟨R, 11, none⟩ (.int .i64 r)) := h.ref.setTick r
  have s2 : Sc2 X0 w0 T R X (w.setCell ⟨R, 11, none⟩ (.int .i64 r)) x { x with tick := r } := h.onR z (next_same h.next.B hX.hears a2.size) (Off.of_aside a2) r2
  have c2 : (w.setCell ⟨R, 11, none⟩ (.int .i64 r)).cell? ⟨R, 11, none⟩ = some (.int .i64 r) := r2.cTick
  have hE : ((∀ c, w64 (({ x with tick := r } : Tl).cs c) = ({ x with tick := r } : Tl).cs c) ∧ 0 ≤ ({ x with tick := r } : Tl).tick ∧ ({ x with tick := r } : Tl).tick ≤ x.tick + 16001) := ⟨hwf, by show 0 ≤ r; omega, by show r ≤ _; omega⟩
  replace hK := Lib.hid (fun (X' : Cx) (w' : World) y1 y7 y8 y9 y10 y11 y12 y13 y14 y15 y16 y17 y18 y19 y20 y21 y22 y23 y24 y25 y26 y27 y28 y29 y30 y31 y32 y33 y34 y35 y36 y37 y38 y39 y40 y41 y42 y43 y44 y45 y46 y47 y48 y49 y50 y51 y52 y53 y54 y55 y56 y57 y58 y59 y60 y61 y62 y63 y64 y65 y66 y67 y68 y69 y70 y71 y72 y73 y74 y75 y76 y77 y78 y79 y80 y81 y82 y83 y84 y85 y86 y87 y88 y89 y90 y91 y92 y93 y94 y95 y96 y97 y98 y99 y100 y101 y102 y103 y104 y105 y106 y107 y108 y109 y110 y111 y112 y113 y114 y115 y116 y117 y118 y119 y120 y121 y122 y123 y124 y125 y126 y127 s => hK X' w' { x with tick := r } y1 y7 y8 y9 y10 y11 y12 y13 y14 y15 y16 y17 y18 y19 y20 y21 y22 y23 y24 y25 y26 y27 y28 y29 y30 y31 y32 y33 y34 y35 y36 y37 y38 y39 y40 y41 y42 y43 y44 y45 y46 y47 y48 y49 y50 y51 y52 y53 y54 y55 y56 y57 y58 y59 y60 y61 y62 y63 y64 y65 y66 y67 y68 y69 y70 y71 y72 y73 y74 y75 y76 y77 y78 y79 y80 y81 y82 y83 y84 y85 y86 y87 y88 y89 y90 y91 y92 y93 y94 y95 y96 y97 y98 y99 y100 y101 y102 y103 y104 y105 y106 y107 y108 y109 y110 y111 y112 y113 y114 y115 y116 y117 y118 y119 y120 y121 y122 y123 y124 y125 y126 y127 s hE)
  obtain ⟨y, hy⟩ : ∃ y, y = ({ x with tick := r } : Tl) := ⟨_, rfl⟩
  rw [← hy] at s2 hK
  have hC := ticket_con (X := X) (s2.freeT z).1 s2.at_
  rw [ew2, ← hy] at hC
  generalize x.tick = t at cR ew
  replace hC := Lib.hid hC
  replace s2 := Lib.hid s2
  clear hE ew2 hy hr h a2 r2 hD hDl hDf hwf htk htk1
  simp only [br, blk3, lin3, Try.f3, Option.getD_some]
  repeat first
    | refine Run.seq ?_
    | refine Run.skip ?_
    | refine Run.regionEnd ?_
    | refine Run.block ?_
    | refine Run.inBlock ?_
    | (refine Run.region ?_; simp only [List.size_toArray, List.length_cons, List.length_nil, Nat.reduceAdd, Nat.zero_add, List.range, List.range.loop])
    | (refine Run.cond rfl ?_; simp only [if_true, if_false, Bool.false_eq_true, ↓reduceIte])
    | (refine Run.unwanted rfl rfl ?_; walk_nrm)
    | (refine Run.op0 rfl rfl (by k_ne) (fun d K hK => by go_simp; exact hK) (fun d => by first | (simp [go_sem, *] <;> fail) | fail) ?_; try w_num)
    | refine Run.ret ?_
    | refine Run.fin ?_
    | refine Run.exit rfl ?_
    | ((refine Run.op w rfl rfl (by k_ne) (fun d K hK => by go_simp; exact hK) (fun d e he => by simp [go_sem, *] at he; subst he; exact evL_free hR) ?_; try w_num))
    | ((refine Run.op (w.setCell ⟨R, 11, none⟩ (.int .i64 r)) rfl rfl (by k_ne) (fun d K hK => by go_simp; exact hK) (fun d e he => by simp [go_sem, *] at he; subst he; exact evL_free hR) ?_; try w_num))
  generalize w.setCell ⟨R, 11, none⟩ (.int .i64 r) = w2 at s2 c2 hC ⊢
  clear cR tR ew
  refine Run.drawX (by k_ne) rfl _ (fun X' w' => X'.free R ∧ w'.cell? ⟨R, 11, none⟩ = some (.int .i64 r)) ?_ (fun _ _ _ h => h)
  simp only [List.size_toArray, List.length_cons, List.length_nil, Nat.reduceAdd, Nat.zero_add]
  refine anyX_take (i' := 0) rfl (by kernel_rfl) (by kernel_rfl) (by kernel_rfl) (by kernel_rfl) (fun X' w' hS => by
    skip
    exact .inl ⟨rfl, fun d => ⟨by go_simp; rfl, fun e he => by simp [go_sem, *] at he⟩⟩) ?_
  walk_nrm
  refine anyX_take (i' := 2) rfl (by kernel_rfl) (by kernel_rfl) (by kernel_rfl) (by kernel_rfl) (fun X' w' hS => by
    skip
    exact .inl ⟨rfl, fun d => ⟨by go_simp; rfl, fun e he => by simp [go_sem, *] at he⟩⟩) ?_
  walk_nrm
  refine anyX_take (i' := 3) rfl (by kernel_rfl) (by kernel_rfl) (by kernel_rfl) (by kernel_rfl) (fun X' w' hS => by
    obtain ⟨hf, k11⟩ := hS
    exact .inl ⟨rfl, fun d => ⟨by go_simp; rfl, fun e he => by simp [go_sem, *] at he⟩⟩) ?_
  walk_nrm
  refine anyX_take (i' := 4) rfl (by kernel_rfl) (by kernel_rfl) (by kernel_rfl) (by kernel_rfl) (fun X' w' hS => by
    skip
    exact .inl ⟨rfl, fun d => ⟨by go_simp; rfl, fun e he => by simp [go_sem, *] at he⟩⟩) ?_
  walk_nrm
  refine anyX_take (i' := 5) rfl (by kernel_rfl) (by kernel_rfl) (by kernel_rfl) (by kernel_rfl) (fun X' w' hS => by
    obtain ⟨hf, k11⟩ := hS
    exact .inl ⟨rfl, fun d => ⟨by go_simp; rfl, fun e he => by simp [go_sem, *] at he; subst he; exact evL_free hf⟩⟩) ?_
  walk_nrm
  refine anyX_call (j := 1) hC.out rfl (by kernel_rfl) (by kernel_rfl) ⟨hR, c2⟩ rfl rfl (by first | (simp only [List.map_toArray, List.map_cons, List.map_nil]; done) | (simp only [List.map_toArray, List.map_cons, List.map_nil]; rfl)) (fun X1 v w1 hr => ?_)
  obtain ⟨rfl, rfl, t3, a3⟩ := hr
  have s3 := s2.out.onT z (next_same s2.out.next.B hX.hears a3.size) (Off.of_aside a3) t3
  have c3 := (cell_heap (a3.block R (fun e => z.ne e.symm))).trans c2
  walk_nrm
  refine anyX_take (i' := 6) rfl (by kernel_rfl) (by kernel_rfl) (by kernel_rfl) (by kernel_rfl) (fun X' w' hS => by
    skip
    exact .inl ⟨rfl, fun d => ⟨by go_simp; rfl, fun e he => by simp [go_sem, *] at he⟩⟩) ?_
  walk_nrm
  refine anyX_done (by kernel_rfl) ⟨hR, c3⟩ ?_
  replace hK := Lib.hid (fun y1 y7 y8 y9 y10 y11 y12 y13 y14 y15 y16 y17 y18 y19 y20 y21 y22 y23 y24 y25 y26 y27 y28 y29 y30 y31 y32 y33 y34 y35 y36 y37 y38 y39 y40 y41 y42 y43 y44 y45 y46 y47 y48 y49 y50 y51 y52 y53 y54 y55 y56 y57 y58 y59 y60 y61 y62 y63 y64 y65 y66 y67 y68 y69 y70 y71 y72 y73 y74 y75 y76 y77 y78 y79 y80 y81 y82 y83 y84 y85 y86 y87 y88 y89 y90 y91 y92 y93 y94 y95 y96 y97 y98 y99 y100 y101 y102 y103 y104 y105 y106 y107 y108 y109 y110 y111 y112 y113 y114 y115 y116 y117 y118 y119 y120 y121 y122 y123 y124 y125 y126 y127 => hK.out X1 w1 y1 y7 y8 y9 y10 y11 y12 y13 y14 y15 y16 y17 y18 y19 y20 y21 y22 y23 y24 y25 y26 y27 y28 y29 y30 y31 y32 y33 y34 y35 y36 y37 y38 y39 y40 y41 y42 y43 y44 y45 y46 y47 y48 y49 y50 y51 y52 y53 y54 y55 y56 y57 y58 y59 y60 y61 y62 y63 y64 y65 y66 y67 y68 y69 y70 y71 y72 y73 y74 y75 y76 y77 y78 y79 y80 y81 y82 y83 y84 y85 y86 y87 y88 y89 y90 y91 y92 y93 y94 y95 y96 y97 y98 y99 y100 y101 y102 y103 y104 y105 y106 y107 y108 y109 y110 y111 y112 y113 y114 y115 y116 y117 y118 y119 y120 y121 y122 y123 y124 y125 y126 y127 s3)
  clear s2 s3 hC hR hX z c2 c3 a3 t3
  repeat first
    | refine Run.seq ?_
    | refine Run.skip ?_
    | refine Run.regionEnd ?_
    | refine Run.block ?_
    | refine Run.inBlock ?_
    | (refine Run.region ?_; simp only [List.size_toArray, List.length_cons, List.length_nil, Nat.reduceAdd, Nat.zero_add, List.range, List.range.loop])
    | (refine Run.cond rfl ?_; simp only [if_true, if_false, Bool.false_eq_true, ↓reduceIte])
    | (refine Run.unwanted rfl rfl ?_; walk_nrm)
    | (refine Run.op0 rfl rfl (by k_ne) (fun d K hK => by go_simp; exact hK) (fun d => by first | (simp [go_sem, *] <;> fail) | fail) ?_; try w_num)
    | refine Run.ret ?_
    | refine Run.fin ?_
    | refine Run.exit rfl ?_
  exact hK.out _ _ _ _ _ _ _ _ _ _ _ _ _ _ _ _ _ _ _ _ _ _ _ _ _ _ _ _ _ _ _ _ _ _ _ _ _ _ _ _ _ _ _ _ _ _ _ _ _ _ _ _ _ _ _ _ _ _ _ _ _ _ _ _ _ _ _ _ _ _ _ _ _ _ _ _ _ _ _ _ _ _ _ _ _ _ _ _ _ _ _ _ _ _ _ _ _ _ _ _ _ _ _ _ _ _ _ _ _ _ _ _ _ _ _ _ _ _ _ _ _ _
end Go.Proofs.Ytboiolnnhmlieaa.Gang
namespace Go.Proofs.Ytboiolnnhmlieaa.Gang
open Go.Conc Go.ConcN Go.RowKit Go.Conc.Lib Go.ConcR.Gen Go.ConcN.Gen
set_option linter.unusedVariables false
set_option linter.unusedSimpArgs false
section
variable {X X' : Cx} {w w' : World} {T R : Nat} {x : Tl}
open Classical in
/-- a hand of steps, spread if it may be -/
noncomputable def spreadx (x : Tl) (xs : List (Int × Int)) (n : Int) : Tl := if SpreadOk xs n then x.spread xs else x
open Classical in
noncomputable def sprErr (xs : List (Int × Int)) (n : Int) : Int := if SpreadOk xs n then 0 else 1
theorem spread_any (xs : List (Int × Int)) {sl : Option Addr} {cap : Nat} {n : Int} (hlen : xs.length ≤ 1152921504606846976) (hX : X.ok w) (hm : ∀ l : Loc, l.isMemory = false → X.Sh l) (hT : X.free T) (hTl : TlAt T x w) (hwf : ∀ c, w64 (x.cs c) = x.cs c) (hst : StepsAt sl xs w) (hrd : xs ≠ [] → X.reads sl) (hna : xs ≠ [] → ∀ ar off, sl = some ⟨ar, off, none⟩ → ar ≠ T) :
    Con Try.prog X 12 #[.pointer (some ⟨T, 0, none⟩), .slice sl xs.length cap, .int .i64 n] w (fun X' v w' => X.Next w X' w' ∧ Off T w w' ∧ v = .int .i64 (sprErr xs n) ∧ TlAt T (spreadx x xs n) w') :=
  (spread_con0 xs hlen hX hm hT hTl hwf hst hrd hna).mono fun X' v w' ⟨hn, o, hc⟩ => by
    unfold sprErr spreadx
    rcases hc with ⟨hok, hv, ht⟩ | ⟨hno, hv, ht⟩
    · rw [if_pos hok, if_pos hok]; exact ⟨hn, o, hv, ht⟩
    · rw [if_neg hno, if_neg hno]; exact ⟨hn, o, hv, ht⟩
theorem rspread_any (xs : List (Int × Int)) {sl : Option Addr} {cap : Nat} {n : Int} (hlen : xs.length ≤ 1048576) (hX : X.ok w) (hR : X.free R) (hRs : R < w.heap.size) (h : RefAt R x w) (hwf : ∀ c, w64 (x.cs c) = x.cs c) (hst : StepsAt sl xs w) (hrd : xs ≠ [] → X.reads sl) (hna : xs ≠ [] → ∀ ar off, sl = some ⟨ar, off, none⟩ → ar ≠ R) :
    Con Try.prog X 13 #[.pointer (some ⟨R, 0, none⟩), .slice sl xs.length cap, .int .i64 n] w (fun X' v w' => X.Next w X' w' ∧ Off R w w' ∧ v = .int .i64 (sprErr xs n) ∧ RefAt R (spreadx x xs n) w') :=
  (rspread_con xs hlen hX hR hRs h hwf hst hrd hna).mono fun X' v w' ⟨e, o, hc⟩ => by
    subst e
    unfold sprErr spreadx
    rcases hc with ⟨hok, hv, ht⟩ | ⟨hno, hv, ht⟩
    · rw [if_pos hok, if_pos hok]; exact ⟨Cx.next_up hX o.size, o, hv, ht⟩
    · rw [if_neg hno, if_neg hno]; exact ⟨Cx.next_up hX o.size, o, hv, ht⟩
theorem spreadx_wf (hwf : ∀ c, w64 (x.cs c) = x.cs c) (xs : List (Int × Int)) (n : Int) : ∀ c, w64 ((spreadx x xs n).cs c) = (spreadx x xs n).cs c := fun c => by
  unfold spreadx
  split
  · show w64 (spGoal _ _ c) = spGoal _ _ c
    exact w64_w64 _
  · exact hwf c
theorem spreadx_tick (xs : List (Int × Int)) (n : Int) : (spreadx x xs n).tick = x.tick := by
  unfold spreadx
  split <;> rfl
end
theorem Sc2.steps {X0 X : Cx} {w0 w : World} {T R : Nat} {x y : Tl} {sl : Option Addr} {xs : List (Int × Int)} (h : Sc2 X0 w0 T R X w x y) (hst : StepsAt sl xs w0) (hna : xs ≠ [] → ∀ ar off, sl = some ⟨ar, off, none⟩ → ar < w0.heap.size ∧ ar ≠ T ∧ ar ≠ R) : StepsAt sl xs w := fun hx => by
  obtain ⟨ar, off, e, h1, h2⟩ := hst hx
  obtain ⟨g1, g2, g3⟩ := hna hx ar off e
  have hb := h.block ar g1 g2 g3
  exact ⟨ar, off, e, Nat.lt_of_lt_of_le h1 h.next.le, fun j hj => ⟨(cell_heap hb).trans (h2 j hj).1, (cell_heap hb).trans (h2 j hj).2⟩⟩
set_option maxRecDepth 100000 in
set_option maxHeartbeats 8000000 in
theorem sc_spread {X0 X : Cx} {w0 w : World} {T R D k cap : Nat} {x : Tl} {d : DoV} {ds : List DoV} {sl : Option Addr} {KK : List Item} (z : Sc0 X0 w0 T R) (h : Sc2 X0 w0 T R X w x x) (hD : w.heap[D]? = some (boxD d)) (hDl : w0.heap.size ≤ D) (hDf : X.free D) (hwf : ∀ c, w64 (x.cs c) = x.cs c) (htk : 0 ≤ x.tick) (htk1 : x.tick ≤ 2305843009213693952) (hst : StepsAt d.sl d.steps w0) (hrd : d.steps ≠ [] → X0.reads d.sl) (hna : d.steps ≠ [] → ∀ ar off, d.sl = some ⟨ar, off, none⟩ → ar < w0.heap.size ∧ ar ≠ T ∧ ar ≠ R) (hK : ∀ (X' : Cx) (w' : World) (x' : Tl) (y1 y7 y8 y9 y10 y11 y12 y13 y14 y15 y16 y17 y18 y19 y20 y21 y22 y23 y24 y25 y26 y27 y28 y29 y30 y31 y32 y33 y34 y35 y36 y37 y38 y39 y40 y41 y42 y43 y44 y45 y46 y47 y48 y49 y50 y51 y52 y53 y54 y55 y56 y57 y58 y59 y60 y61 y62 y63 y64 y65 y66 y67 y68 y69 y70 y71 y72 y73 y74 y75 y76 y77 y78 y79 y80 y81 y82 y83 y84 y85 y86 y87 y88 y89 y90 y91 y92 y93 y94 y95 y96 y97 y98 y99 y100 y101 y102 y103 y104 y105 y106 y107 y108 y109 y110 y111 y112 y113 y114 y115 y116 y117 y118 y119 y120 y121 y122 y123 y124 y125 y126 y127 : Value), Sc2 X0 w0 T R X' w' x' x' → ((∀ c, w64 (x'.cs c) = x'.cs c) ∧ 0 ≤ x'.tick ∧ x'.tick ≤ x.tick + 16001) → Run Try.prog X' (G ((base 3).at ⟨#[.slice sl ds.length cap, y1, .bool false, .pointer (some ⟨T, 0, none⟩), .pointer (some ⟨R, 0, none⟩), .int .i64 (k : Int), .pointer (some ⟨D, 0, none⟩), y7, y8, y9, y10, y11, y12, y13, y14, y15, y16, y17, y18, y19, y20, y21, y22, y23, y24, y25, y26, y27, y28, y29, y30, y31, y32, y33, y34, y35, y36, y37, y38, y39, y40, y41, y42, y43, y44, y45, y46, y47, y48, y49, y50, y51, y52, y53, y54, y55, y56, y57, y58, y59, y60, y61, y62, y63, y64, y65, y66, y67, y68, y69, y70, y71, y72, y73, y74, y75, y76, y77, y78, y79, y80, y81, y82, y83, y84, y85, y86, y87, y88, y89, y90, y91, y92, y93, y94, y95, y96, y97, y98, y99, y100, y101, y102, y103, y104, y105, y106, y107, y108, y109, y110, y111, y112, y113, y114, y115, y116, y117, y118, y119, y120, y121, y122, y123, y124, y125, y126, y127], []⟩ KK) []) w') (y1 y7 y8 y9 y10 y11 y12 y13 y14 y15 y16 y17 y18 y19 y20 y21 y22 y23 y24 y25 y26 y27 y28 y29 y30 y31 y32 y33 y34 y35 y36 y37 y38 y39 y40 y41 y42 y43 y44 y45 y46 y47 y48 y49 y50 y51 y52 y53 y54 y55 y56 y57 y58 y59 y60 y61 y62 y63 y64 y65 y66 y67 y68 y69 y70 y71 y72 y73 y74 y75 y76 y77 y78 y79 y80 y81 y82 y83 y84 y85 y86 y87 y88 y89 y90 y91 y92 y93 y94 y95 y96 y97 y98 y99 y100 y101 y102 y103 y104 y105 y106 y107 y108 y109 y110 y111 y112 y113 y114 y115 y116 y117 y118 y119 y120 y121 y122 y123 y124 y125 y126 y127 : Value) : Run Try.prog X (G ((base 3).at ⟨#[.slice sl ds.length cap, y1, .bool false, .pointer (some ⟨T, 0, none⟩), .pointer (some ⟨R, 0, none⟩), .int .i64 (k : Int), .pointer (some ⟨D, 0, none⟩), y7, y8, y9, y10, y11, y12, y13, y14, y15, y16, y17, y18, y19, y20, y21, y22, y23, y24, y25, y26, y27, y28, y29, y30, y31, y32, y33, y34, y35, y36, y37, y38, y39, y40, y41, y42, y43, y44, y45, y46, y47, y48, y49, y50, y51, y52, y53, y54, y55, y56, y57, y58, y59, y60, y61, y62, y63, y64, y65, y66, y67, y68, y69, y70, y71, y72, y73, y74, y75, y76, y77, y78, y79, y80, y81, y82, y83, y84, y85, y86, y87, y88, y89, y90, y91, y92, y93, y94, y95, y96, y97, y98, y99, y100, y101, y102, y103, y104, y105, y106, y107, y108, y109, y110, y111, y112, y113, y114, y115, y116, y117, y118, y119, y120, y121, y122, y123, y124, y125, y126, y127], []⟩ (.code (br 1) :: .inBlock 2 :: KK)) []) w := by
  have hX := h.okX z
  have hDw : D < w.heap.size := (Array.getElem?_eq_some_iff.1 hD).1
  have hDT : D ≠ T := by have := z.lT; omega
  have hDR : D ≠ R := by have := z.lR; omega
  by_cases hle : d.steps.length ≤ 1000
  · have dl : decide ((d.steps.length : Int) ≤ 1000) = true := decide_eq_true (by omega)
    have dl1 : decide (d.steps.length ≤ 1000) = true := decide_eq_true hle
    obtain ⟨x', hx'⟩ : ∃ x', x' = spreadx x d.steps d.workers := ⟨_, rfl⟩
    have hE : ((∀ c, w64 (x'.cs c) = x'.cs c) ∧ 0 ≤ x'.tick ∧ x'.tick ≤ x.tick + 16001) := by
      subst hx'
      exact ⟨spreadx_wf hwf _ _, by rw [spreadx_tick]; exact htk, by rw [spreadx_tick]; omega⟩
    have hC1 := spread_any d.steps (cap := d.cap) (n := d.workers) (by omega) hX (h.memX z) (h.freeT z) h.at_ hwf (h.steps hst hna) (fun hx ar off e => h.next.free z.ok (hrd hx ar off e)) (fun hx ar off e => (hna hx ar off e).2.1)
    have hC2 := fun (X1 : Cx) (w1 : World) (s1 : Sc2 X0 w0 T R X1 w1 x' x) => rspread_any d.steps (cap := d.cap) (n := d.workers) (by omega) (s1.okX z) (s1.freeR z) (Nat.lt_of_lt_of_le z.lR s1.next.le) s1.ref hwf (s1.steps hst hna) (fun hx ar off e => s1.next.free z.ok (hrd hx ar off e)) (fun hx ar off e => (hna hx ar off e).2.2)
    rw [← hx'] at hC1
    simp only [← hx'] at hC2
    generalize sprErr d.steps d.workers = e at hC1 hC2
    replace hC1 := Lib.hid hC1
    replace hC2 := Lib.hid hC2
    replace h := Lib.hid h
    replace hK := Lib.hid hK
    clear hx' hst hrd hna hwf htk htk1 hle
    simp only [br, blk3, lin3, Try.f3, Option.getD_some]
    repeat first
      | refine Run.seq ?_
      | refine Run.skip ?_
      | refine Run.regionEnd ?_
      | refine Run.block ?_
      | refine Run.inBlock ?_
      | (refine Run.region ?_; simp only [List.size_toArray, List.length_cons, List.length_nil, Nat.reduceAdd, Nat.zero_add, List.range, List.range.loop])
      | (refine Run.cond rfl ?_; simp only [if_true, if_false, Bool.false_eq_true, ↓reduceIte])
      | (refine Run.unwanted rfl rfl ?_; walk_nrm)
      | (refine Run.op0 rfl rfl (by k_ne) (fun d K hK => by go_simp; exact hK) (fun d => by first | (simp [go_sem, *] <;> fail) | fail) ?_; try w_num)
      | refine Run.ret ?_
      | refine Run.fin ?_
      | refine Run.exit rfl ?_
    refine Run.drawX (by k_ne) rfl _ (fun X' w' => X'.free D ∧ w'.heap[D]? = some (boxD d)) ?_ (fun _ _ _ h => h)
    simp only [List.size_toArray, List.length_cons, List.length_nil, Nat.reduceAdd, Nat.zero_add]
    refine anyX_take (i' := 0) rfl (by kernel_rfl) (by kernel_rfl) (by kernel_rfl) (by kernel_rfl) (fun X' w' hS => by
      skip
      exact .inl ⟨rfl, fun d => ⟨by go_simp; rfl, fun e he => by simp [go_sem, *] at he⟩⟩) ?_
    walk_nrm
    refine anyX_take (i' := 1) rfl (by kernel_rfl) (by kernel_rfl) (by kernel_rfl) (by kernel_rfl) (fun X' w' hS => by
      obtain ⟨hf, hb⟩ := hS
      obtain ⟨k0, k1, k2, k3, k4, k5⟩ := boxD_cell hb
      clear hb
      exact .inl ⟨rfl, fun d => ⟨by go_simp; rfl, fun e he => by simp [go_sem, *] at he; subst he; exact evL_free hf⟩⟩) ?_
    walk_nrm
    refine anyX_take (i' := 2) rfl (by kernel_rfl) (by kernel_rfl) (by kernel_rfl) (by kernel_rfl) (fun X' w' hS => by
      skip
      exact .inl ⟨rfl, fun d => ⟨by go_simp; rfl, fun e he => by simp [go_sem, *] at he⟩⟩) ?_
    walk_nrm
    refine anyX_take (i' := 3) (v := .bool true) rfl (by kernel_rfl) (by kernel_rfl) (by kernel_rfl) (by kernel_rfl) (fun X' w' hS => by
      skip
      exact .inl ⟨rfl, fun d => ⟨by first | (go_simp; done) | (go_simp; simp only [dl]; done) | (go_simp; simp only [dl1]; done) | (go_simp; simp [dl, dl1]), fun e he => by simp [go_sem, *] at he⟩⟩) ?_
    walk_nrm
    refine anyX_take (i' := 4) rfl (by kernel_rfl) (by kernel_rfl) (by kernel_rfl) (by kernel_rfl) (fun X' w' hS => by
      skip
      exact .inl ⟨rfl, fun d => ⟨by go_simp; rfl, fun e he => by simp [go_sem, *] at he⟩⟩) ?_
    walk_nrm
    refine anyX_take (i' := 5) rfl (by kernel_rfl) (by kernel_rfl) (by kernel_rfl) (by kernel_rfl) (fun X' w' hS => by
      skip
      exact .inl ⟨rfl, fun d => ⟨by go_simp; rfl, fun e he => by simp [go_sem, *] at he⟩⟩) ?_
    walk_nrm
    refine anyX_take (i' := 6) rfl (by kernel_rfl) (by kernel_rfl) (by kernel_rfl) (by kernel_rfl) (fun X' w' hS => by
      skip
      exact .inl ⟨rfl, fun d => ⟨by go_simp; rfl, fun e he => by simp [go_sem, *] at he⟩⟩) ?_
    walk_nrm
    refine anyX_take (i' := 7) rfl (by kernel_rfl) (by kernel_rfl) (by kernel_rfl) (by kernel_rfl) (fun X' w' hS => by
      obtain ⟨hf, hb⟩ := hS
      obtain ⟨k0, k1, k2, k3, k4, k5⟩ := boxD_cell hb
      clear hb
      exact .inl ⟨rfl, fun d => ⟨by go_simp; rfl, fun e he => by simp [go_sem, *] at he; subst he; exact evL_free hf⟩⟩) ?_
    walk_nrm
    refine anyX_take (i' := 8) rfl (by kernel_rfl) (by kernel_rfl) (by kernel_rfl) (by kernel_rfl) (fun X' w' hS => by
      skip
      exact .inl ⟨rfl, fun d => ⟨by go_simp; rfl, fun e he => by simp [go_sem, *] at he⟩⟩) ?_
    walk_nrm
    refine anyX_take (i' := 9) rfl (by kernel_rfl) (by kernel_rfl) (by kernel_rfl) (by kernel_rfl) (fun X' w' hS => by
      obtain ⟨hf, hb⟩ := hS
      obtain ⟨k0, k1, k2, k3, k4, k5⟩ := boxD_cell hb
      clear hb
      exact .inl ⟨rfl, fun d => ⟨by go_simp; rfl, fun e he => by simp [go_sem, *] at he; subst he; exact evL_free hf⟩⟩) ?_
    walk_nrm
    refine anyX_take (i' := 11) rfl (by kernel_rfl) (by kernel_rfl) (by kernel_rfl) (by kernel_rfl) (fun X' w' hS => by
      skip
      exact .inl ⟨rfl, fun d => ⟨by go_simp; rfl, fun e he => by simp [go_sem, *] at he⟩⟩) ?_
    walk_nrm
    refine anyX_take (i' := 12) rfl (by kernel_rfl) (by kernel_rfl) (by kernel_rfl) (by kernel_rfl) (fun X' w' hS => by
      skip
      exact .inl ⟨rfl, fun d => ⟨by go_simp; rfl, fun e he => by simp [go_sem, *] at he⟩⟩) ?_
    walk_nrm
    refine anyX_take (i' := 13) rfl (by kernel_rfl) (by kernel_rfl) (by kernel_rfl) (by kernel_rfl) (fun X' w' hS => by
      obtain ⟨hf, hb⟩ := hS
      obtain ⟨k0, k1, k2, k3, k4, k5⟩ := boxD_cell hb
      clear hb
      exact .inl ⟨rfl, fun d => ⟨by go_simp; rfl, fun e he => by simp [go_sem, *] at he; subst he; exact evL_free hf⟩⟩) ?_
    walk_nrm
    refine anyX_take (i' := 14) rfl (by kernel_rfl) (by kernel_rfl) (by kernel_rfl) (by kernel_rfl) (fun X' w' hS => by
      skip
      exact .inl ⟨rfl, fun d => ⟨by go_simp; rfl, fun e he => by simp [go_sem, *] at he⟩⟩) ?_
    walk_nrm
    refine anyX_take (i' := 15) rfl (by kernel_rfl) (by kernel_rfl) (by kernel_rfl) (by kernel_rfl) (fun X' w' hS => by
      obtain ⟨hf, hb⟩ := hS
      obtain ⟨k0, k1, k2, k3, k4, k5⟩ := boxD_cell hb
      clear hb
      exact .inl ⟨rfl, fun d => ⟨by go_simp; rfl, fun e he => by simp [go_sem, *] at he; subst he; exact evL_free hf⟩⟩) ?_
    walk_nrm
    refine anyX_call (j := 10) hC1.out rfl (by kernel_rfl) (by kernel_rfl) ⟨hDf, hD⟩ rfl rfl (by first | (simp only [List.map_toArray, List.map_cons, List.map_nil]; done) | (simp only [List.map_toArray, List.map_cons, List.map_nil]; rfl)) (fun X1 v w1 hr => ?_)
    obtain ⟨n1, o1, rfl, t1⟩ := hr
    have hD1 : w1.heap[D]? = some (boxD d) := (o1.block D hDw (by omega)).trans hD
    have hf1 := n1.free hX hDf
    have s1 := h.out.onT z n1 o1 t1
    have hC2' := Lib.hid (hC2.out X1 w1 s1)
    walk_nrm
    refine anyX_call (j := 16) hC2'.out rfl (by kernel_rfl) (by kernel_rfl) ⟨hf1, hD1⟩ rfl rfl (by first | (simp only [List.map_toArray, List.map_cons, List.map_nil]; done) | (simp only [List.map_toArray, List.map_cons, List.map_nil]; rfl)) (fun X2 v w2 hr => ?_)
    obtain ⟨n2, o2, rfl, t2⟩ := hr
    have hD2 : w2.heap[D]? = some (boxD d) := (o2.block D (Nat.lt_of_lt_of_le hDw o1.size) (by omega)).trans hD1
    have hf2 := n2.free (s1.okX z) hf1
    have s2 := s1.onR z n2 o2 t2
    walk_nrm
    refine anyX_take (i' := 17) rfl (by kernel_rfl) (by kernel_rfl) (by kernel_rfl) (by kernel_rfl) (fun X' w' hS => by
      skip
      exact .inl ⟨rfl, fun d => ⟨by go_simp; rfl, fun e he => by simp [go_sem, *] at he⟩⟩) ?_
    walk_nrm
    refine anyX_take (i' := 18) rfl (by kernel_rfl) (by kernel_rfl) (by kernel_rfl) (by kernel_rfl) (fun X' w' hS => by
      skip
      exact .inl ⟨rfl, fun d => ⟨by go_simp; rfl, fun e he => by simp [go_sem, *] at he⟩⟩) ?_
    walk_nrm
    refine anyX_done (by kernel_rfl) ⟨hf2, hD2⟩ ?_
    replace hK := Lib.hid (fun y1 y7 y8 y9 y10 y11 y12 y13 y14 y15 y16 y17 y18 y19 y20 y21 y22 y23 y24 y25 y26 y27 y28 y29 y30 y31 y32 y33 y34 y35 y36 y37 y38 y39 y40 y41 y42 y43 y44 y45 y46 y47 y48 y49 y50 y51 y52 y53 y54 y55 y56 y57 y58 y59 y60 y61 y62 y63 y64 y65 y66 y67 y68 y69 y70 y71 y72 y73 y74 y75 y76 y77 y78 y79 y80 y81 y82 y83 y84 y85 y86 y87 y88 y89 y90 y91 y92 y93 y94 y95 y96 y97 y98 y99 y100 y101 y102 y103 y104 y105 y106 y107 y108 y109 y110 y111 y112 y113 y114 y115 y116 y117 y118 y119 y120 y121 y122 y123 y124 y125 y126 y127 => hK.out X2 w2 x' y1 y7 y8 y9 y10 y11 y12 y13 y14 y15 y16 y17 y18 y19 y20 y21 y22 y23 y24 y25 y26 y27 y28 y29 y30 y31 y32 y33 y34 y35 y36 y37 y38 y39 y40 y41 y42 y43 y44 y45 y46 y47 y48 y49 y50 y51 y52 y53 y54 y55 y56 y57 y58 y59 y60 y61 y62 y63 y64 y65 y66 y67 y68 y69 y70 y71 y72 y73 y74 y75 y76 y77 y78 y79 y80 y81 y82 y83 y84 y85 y86 y87 y88 y89 y90 y91 y92 y93 y94 y95 y96 y97 y98 y99 y100 y101 y102 y103 y104 y105 y106 y107 y108 y109 y110 y111 y112 y113 y114 y115 y116 y117 y118 y119 y120 y121 y122 y123 y124 y125 y126 y127 s2 hE)
    clear s2 h hD hC1 hC2 hC2' hDf hX hDw hE z s1 hD1 hD2 hf1 hf2 n1 o1 t1 n2 o2 t2
    repeat first
      | refine Run.seq ?_
      | refine Run.skip ?_
      | refine Run.regionEnd ?_
      | refine Run.block ?_
      | refine Run.inBlock ?_
      | (refine Run.region ?_; simp only [List.size_toArray, List.length_cons, List.length_nil, Nat.reduceAdd, Nat.zero_add, List.range, List.range.loop])
      | (refine Run.cond rfl ?_; simp only [if_true, if_false, Bool.false_eq_true, ↓reduceIte])
      | (refine Run.unwanted rfl rfl ?_; walk_nrm)
      | (refine Run.op0 rfl rfl (by k_ne) (fun d K hK => by go_simp; exact hK) (fun d => by first | (simp [go_sem, *] <;> fail) | fail) ?_; try w_num)
      | refine Run.ret ?_
      | refine Run.fin ?_
      | refine Run.exit rfl ?_
    exact hK.out _ _ _ _ _ _ _ _ _ _ _ _ _ _ _ _ _ _ _ _ _ _ _ _ _ _ _ _ _ _ _ _ _ _ _ _ _ _ _ _ _ _ _ _ _ _ _ _ _ _ _ _ _ _ _ _ _ _ _ _ _ _ _ _ _ _ _ _ _ _ _ _ _ _ _ _ _ _ _ _ _ _ _ _ _ _ _ _ _ _ _ _ _ _ _ _ _ _ _ _ _ _ _ _ _ _ _ _ _ _ _ _ _ _ _ _ _ _ _ _ _ _
  · have dl : decide ((d.steps.length : Int) ≤ 1000) = false := decide_eq_false (by omega)
    have dl1 : decide (d.steps.length ≤ 1000) = false := decide_eq_false hle
    have hE : ((∀ c, w64 (x.cs c) = x.cs c) ∧ 0 ≤ x.tick ∧ x.tick ≤ x.tick + 16001) := ⟨hwf, htk, by omega⟩
    replace h := Lib.hid h
    replace hK := Lib.hid hK
    clear hst hrd hna hwf htk htk1 hle
    simp only [br, blk3, lin3, Try.f3, Option.getD_some]
    repeat first
      | refine Run.seq ?_
      | refine Run.skip ?_
      | refine Run.regionEnd ?_
      | refine Run.block ?_
      | refine Run.inBlock ?_
      | (refine Run.region ?_; simp only [List.size_toArray, List.length_cons, List.length_nil, Nat.reduceAdd, Nat.zero_add, List.range, List.range.loop])
      | (refine Run.cond rfl ?_; simp only [if_true, if_false, Bool.false_eq_true, ↓reduceIte])
      | (refine Run.unwanted rfl rfl ?_; walk_nrm)
      | (refine Run.op0 rfl rfl (by k_ne) (fun d K hK => by go_simp; exact hK) (fun d => by first | (simp [go_sem, *] <;> fail) | fail) ?_; try w_num)
      | refine Run.ret ?_
      | refine Run.fin ?_
      | refine Run.exit rfl ?_
    refine Run.drawX (by k_ne) rfl _ (fun X' w' => X'.free D ∧ w'.heap[D]? = some (boxD d)) ?_ (fun _ _ _ h => h)
    simp only [List.size_toArray, List.length_cons, List.length_nil, Nat.reduceAdd, Nat.zero_add]
    refine anyX_take (i' := 0) rfl (by kernel_rfl) (by kernel_rfl) (by kernel_rfl) (by kernel_rfl) (fun X' w' hS => by
      skip
      exact .inl ⟨rfl, fun d => ⟨by go_simp; rfl, fun e he => by simp [go_sem, *] at he⟩⟩) ?_
    walk_nrm
    refine anyX_take (i' := 1) rfl (by kernel_rfl) (by kernel_rfl) (by kernel_rfl) (by kernel_rfl) (fun X' w' hS => by
      obtain ⟨hf, hb⟩ := hS
      obtain ⟨k0, k1, k2, k3, k4, k5⟩ := boxD_cell hb
      clear hb
      exact .inl ⟨rfl, fun d => ⟨by go_simp; rfl, fun e he => by simp [go_sem, *] at he; subst he; exact evL_free hf⟩⟩) ?_
    walk_nrm
    refine anyX_take (i' := 2) rfl (by kernel_rfl) (by kernel_rfl) (by kernel_rfl) (by kernel_rfl) (fun X' w' hS => by
      skip
      exact .inl ⟨rfl, fun d => ⟨by go_simp; rfl, fun e he => by simp [go_sem, *] at he⟩⟩) ?_
    walk_nrm
    refine anyX_take (i' := 3) (v := .bool false) rfl (by kernel_rfl) (by kernel_rfl) (by kernel_rfl) (by kernel_rfl) (fun X' w' hS => by
      skip
      exact .inl ⟨rfl, fun d => ⟨by first | (go_simp; done) | (go_simp; simp only [dl]; done) | (go_simp; simp only [dl1]; done) | (go_simp; simp [dl, dl1]), fun e he => by simp [go_sem, *] at he⟩⟩) ?_
    walk_nrm
    refine anyX_take (i' := 4) rfl (by kernel_rfl) (by kernel_rfl) (by kernel_rfl) (by kernel_rfl) (fun X' w' hS => by
      skip
      exact .inl ⟨rfl, fun d => ⟨by go_simp; rfl, fun e he => by simp [go_sem, *] at he⟩⟩) ?_
    walk_nrm
    refine anyX_take (i' := 5) rfl (by kernel_rfl) (by kernel_rfl) (by kernel_rfl) (by kernel_rfl) (fun X' w' hS => .inr ⟨rfl, rfl⟩) ?_
    walk_nrm
    refine anyX_take (i' := 6) rfl (by kernel_rfl) (by kernel_rfl) (by kernel_rfl) (by kernel_rfl) (fun X' w' hS => .inr ⟨rfl, rfl⟩) ?_
    walk_nrm
    refine anyX_take (i' := 7) rfl (by kernel_rfl) (by kernel_rfl) (by kernel_rfl) (by kernel_rfl) (fun X' w' hS => .inr ⟨rfl, rfl⟩) ?_
    walk_nrm
    refine anyX_take (i' := 8) rfl (by kernel_rfl) (by kernel_rfl) (by kernel_rfl) (by kernel_rfl) (fun X' w' hS => .inr ⟨rfl, rfl⟩) ?_
    walk_nrm
    refine anyX_take (i' := 9) rfl (by kernel_rfl) (by kernel_rfl) (by kernel_rfl) (by kernel_rfl) (fun X' w' hS => .inr ⟨rfl, rfl⟩) ?_
    walk_nrm
    refine anyX_take (i' := 10) rfl (by kernel_rfl) (by kernel_rfl) (by kernel_rfl) (by kernel_rfl) (fun X' w' hS => .inr ⟨rfl, rfl⟩) ?_
    walk_nrm
    refine anyX_take (i' := 11) rfl (by kernel_rfl) (by kernel_rfl) (by kernel_rfl) (by kernel_rfl) (fun X' w' hS => .inr ⟨rfl, rfl⟩) ?_
    walk_nrm
    refine anyX_take (i' := 12) rfl (by kernel_rfl) (by kernel_rfl) (by kernel_rfl) (by kernel_rfl) (fun X' w' hS => .inr ⟨rfl, rfl⟩) ?_
    walk_nrm
    refine anyX_take (i' := 13) rfl (by kernel_rfl) (by kernel_rfl) (by kernel_rfl) (by kernel_rfl) (fun X' w' hS => .inr ⟨rfl, rfl⟩) ?_
    walk_nrm
    refine anyX_take (i' := 14) rfl (by kernel_rfl) (by kernel_rfl) (by kernel_rfl) (by kernel_rfl) (fun X' w' hS => .inr ⟨rfl, rfl⟩) ?_
    walk_nrm
    refine anyX_take (i' := 15) rfl (by kernel_rfl) (by kernel_rfl) (by kernel_rfl) (by kernel_rfl) (fun X' w' hS => .inr ⟨rfl, rfl⟩) ?_
    walk_nrm
    refine anyX_take (i' := 16) rfl (by kernel_rfl) (by kernel_rfl) (by kernel_rfl) (by kernel_rfl) (fun X' w' hS => .inr ⟨rfl, rfl⟩) ?_
    walk_nrm
    refine anyX_take (i' := 17) rfl (by kernel_rfl) (by kernel_rfl) (by kernel_rfl) (by kernel_rfl) (fun X' w' hS => .inr ⟨rfl, rfl⟩) ?_
    walk_nrm
    refine anyX_take (i' := 18) rfl (by kernel_rfl) (by kernel_rfl) (by kernel_rfl) (by kernel_rfl) (fun X' w' hS => by
      skip
      exact .inl ⟨rfl, fun d => ⟨by go_simp; rfl, fun e he => by simp [go_sem, *] at he⟩⟩) ?_
    walk_nrm
    refine anyX_done (by kernel_rfl) ⟨hDf, hD⟩ ?_
    replace hK := Lib.hid (fun y1 y7 y8 y9 y10 y11 y12 y13 y14 y15 y16 y17 y18 y19 y20 y21 y22 y23 y24 y25 y26 y27 y28 y29 y30 y31 y32 y33 y34 y35 y36 y37 y38 y39 y40 y41 y42 y43 y44 y45 y46 y47 y48 y49 y50 y51 y52 y53 y54 y55 y56 y57 y58 y59 y60 y61 y62 y63 y64 y65 y66 y67 y68 y69 y70 y71 y72 y73 y74 y75 y76 y77 y78 y79 y80 y81 y82 y83 y84 y85 y86 y87 y88 y89 y90 y91 y92 y93 y94 y95 y96 y97 y98 y99 y100 y101 y102 y103 y104 y105 y106 y107 y108 y109 y110 y111 y112 y113 y114 y115 y116 y117 y118 y119 y120 y121 y122 y123 y124 y125 y126 y127 => hK.out X w x y1 y7 y8 y9 y10 y11 y12 y13 y14 y15 y16 y17 y18 y19 y20 y21 y22 y23 y24 y25 y26 y27 y28 y29 y30 y31 y32 y33 y34 y35 y36 y37 y38 y39 y40 y41 y42 y43 y44 y45 y46 y47 y48 y49 y50 y51 y52 y53 y54 y55 y56 y57 y58 y59 y60 y61 y62 y63 y64 y65 y66 y67 y68 y69 y70 y71 y72 y73 y74 y75 y76 y77 y78 y79 y80 y81 y82 y83 y84 y85 y86 y87 y88 y89 y90 y91 y92 y93 y94 y95 y96 y97 y98 y99 y100 y101 y102 y103 y104 y105 y106 y107 y108 y109 y110 y111 y112 y113 y114 y115 y116 y117 y118 y119 y120 y121 y122 y123 y124 y125 y126 y127 h.out hE)
    clear h hD hDf hX hDw hE z
    repeat first
      | refine Run.seq ?_
      | refine Run.skip ?_
      | refine Run.regionEnd ?_
      | refine Run.block ?_
      | refine Run.inBlock ?_
      | (refine Run.region ?_; simp only [List.size_toArray, List.length_cons, List.length_nil, Nat.reduceAdd, Nat.zero_add, List.range, List.range.loop])
      | (refine Run.cond rfl ?_; simp only [if_true, if_false, Bool.false_eq_true, ↓reduceIte])
      | (refine Run.unwanted rfl rfl ?_; walk_nrm)
      | (refine Run.op0 rfl rfl (by k_ne) (fun d K hK => by go_simp; exact hK) (fun d => by first | (simp [go_sem, *] <;> fail) | fail) ?_; try w_num)
      | refine Run.ret ?_
      | refine Run.fin ?_
      | refine Run.exit rfl ?_
    exact hK.out _ _ _ _ _ _ _ _ _ _ _ _ _ _ _ _ _ _ _ _ _ _ _ _ _ _ _ _ _ _ _ _ _ _ _ _ _ _ _ _ _ _ _ _ _ _ _ _ _ _ _ _ _ _ _ _ _ _ _ _ _ _ _ _ _ _ _ _ _ _ _ _ _ _ _ _ _ _ _ _ _ _ _ _ _ _ _ _ _ _ _ _ _ _ _ _ _ _ _ _ _ _ _ _ _ _ _ _ _ _ _ _ _ _ _ _ _ _ _ _ _ _
end Go.Proofs.Ytboiolnnhmlieaa.Gang
namespace Go.Proofs.Ytboiolnnhmlieaa.Gang
open Go.Conc Go.ConcN Go.RowKit Go.Conc.Lib Go.ConcR.Gen Go.ConcN.Gen
set_option linter.unusedVariables false
set_option linter.unusedSimpArgs false
section
variable {X X' : Cx} {w w' : World} {T R : Nat} {x : Tl}
open Classical in
/-- how many tickets are drawn -/
noncomputable def drawL (n e : Int) : Nat := if DrawOk n e then n.toNat * e.toNat else 0
open Classical in
noncomputable def drawE (n e : Int) : Int := if DrawOk n e then 0 else 1
open Classical in
noncomputable def drawx (x : Tl) (n e : Int) : Tl := if DrawOk n e then { x with tick := x.tick + (n.toNat * e.toNat : Nat) } else x
theorem drawOk_le {n e : Int} (h : DrawOk n e) : n.toNat * e.toNat ≤ 16000 := by
  obtain ⟨h1, h2, h3, h4⟩ := h
  exact Nat.mul_le_mul (show n.toNat ≤ 16 by omega) (show e.toNat ≤ 1000 by omega)
theorem drawL_le (n e : Int) : drawL n e ≤ 16000 := by
  unfold drawL
  split
  · rename_i h; exact drawOk_le h
  · omega
theorem drawx_cs (n e : Int) : (drawx x n e).cs = x.cs := by
  unfold drawx
  split <;> rfl
theorem drawx_tick (n e : Int) : x.tick ≤ (drawx x n e).tick ∧ (drawx x n e).tick ≤ x.tick + 16000 := by
  unfold drawx
  split
  · rename_i h
    have := drawOk_le h
    constructor
    · show x.tick ≤ x.tick + _
      omega
    · show x.tick + _ ≤ x.tick + _
      omega
  · omega
theorem draw_any {n e : Int} (hX : X.ok w) (hm : ∀ l : Loc, l.isMemory = false → X.Sh l) (hT : X.free T) (hTl : TlAt T x w) (ht0 : 0 ≤ x.tick) (ht1 : x.tick ≤ 2305843009213693952) :
    Con Try.prog X 17 #[.pointer (some ⟨T, 0, none⟩), .int .i64 n, .int .i64 e] w (fun X' v w' => X.Next w X' w' ∧ Off T w w' ∧ ∃ (s : Option Addr) (c : Nat), v = .tuple #[.slice s (drawL n e) c, .int .i64 (drawE n e)] ∧ TlAt T (drawx x n e) w' ∧
      (0 < drawL n e → ∃ A, s = some ⟨A, 0, none⟩ ∧ w.heap.size ≤ A ∧ A < w'.heap.size ∧ X'.free A ∧ ∀ i, i < drawL n e → w'.cell? ⟨A, i, none⟩ = some (.int .i64 (x.tick + 1 + i)))) :=
  (draw_con hX hm hT hTl ht0 ht1 (fun hd A => Brd.sorts_any A _ (by have := drawOk_le hd; omega))).mono fun X' v w' ⟨hn, o, hc⟩ => by
    refine ⟨hn, o, ?_⟩
    unfold drawL drawE drawx
    rcases hc with ⟨hok, A, h1, h2, h3, h4, h5, h6⟩ | ⟨hno, h1, h2⟩
    · rw [if_pos hok, if_pos hok, if_pos hok]
      exact ⟨_, _, h4, h5, fun _ => ⟨A, rfl, h1, h2, h3, fun i hi => h6.cell hi⟩⟩
    · rw [if_neg hno, if_neg hno, if_neg hno]
      exact ⟨_, _, h1, h2, fun hx => absurd hx (by omega)⟩
theorem rdraw_any {n e : Int} (hX : X.ok w) (hR : X.free R) (hRs : R < w.heap.size) (h : RefAt R x w) (ht0 : 0 ≤ x.tick) (ht1 : x.tick ≤ 2305843009213693952) :
    Con Try.prog X 18 #[.pointer (some ⟨R, 0, none⟩), .int .i64 n, .int .i64 e] w (fun X' v w' => X.Next w X' w' ∧ Off R w w' ∧ ∃ (s : Option Addr) (c : Nat), v = .tuple #[.slice s (drawL n e) c, .int .i64 (drawE n e)] ∧ RefAt R (drawx x n e) w' ∧
      (0 < drawL n e → ∃ A, s = some ⟨A, 0, none⟩ ∧ w.heap.size ≤ A ∧ A < w'.heap.size ∧ X'.free A ∧ ∀ i, i < drawL n e → w'.cell? ⟨A, i, none⟩ = some (.int .i64 (x.tick + 1 + i)))) :=
  (rdraw_con hX hR hRs h ⟨ht0, ht1⟩).mono fun X' v w' ⟨e1, o, hc⟩ => by
    subst e1
    refine ⟨Cx.next_up hX o.size, o, ?_⟩
    unfold drawL drawE drawx
    rcases hc with ⟨hok, s, c, h1, h2, h3⟩ | ⟨hno, h1, h2⟩
    · rw [if_pos hok, if_pos hok, if_pos hok]
      refine ⟨s, c, h1, h2, fun hx => ?_⟩
      obtain ⟨g, e2, g1, g2, g3⟩ := h3 hx
      exact ⟨g, e2, g1, g2, ⟨Nat.lt_of_lt_of_le g2 (Nat.le_max_right _ _), hX.new g g1⟩, g3⟩
    · rw [if_neg hno, if_neg hno, if_neg hno]
      exact ⟨_, _, h1, h2, fun hx => absurd hx (by omega)⟩
theorem longs_any {L : Nat} {t : Int} (s1 s2 : Option Addr) (c1 c2 : Nat) (hL : L ≤ 16000) (h1 : 0 < L → ∃ A, s1 = some ⟨A, 0, none⟩ ∧ X.free A ∧ ∀ i, i < L → w.cell? ⟨A, i, none⟩ = some (.int .i64 (t + 1 + i))) (h2 : 0 < L → ∃ A, s2 = some ⟨A, 0, none⟩ ∧ X.free A ∧ ∀ i, i < L → w.cell? ⟨A, i, none⟩ = some (.int .i64 (t + 1 + i))) :
    Con Try.prog X 19 #[.slice s1 L c1, .slice s2 L c2] w (fun X' v w' => X' = X ∧ w' = w ∧ v = .bool true) := by
  rcases Nat.eq_zero_or_pos L with rfl | hp
  · exact longs_zero s1 s2 c1 c2
  · obtain ⟨A, rfl, a1, a2⟩ := h1 hp
    obtain ⟨B, rfl, b1, b2⟩ := h2 hp
    exact longs_con (fun i => t + 1 + i) (by omega) a1 b1 a2 b2
end
set_option maxRecDepth 100000 in
set_option maxHeartbeats 8000000 in
theorem sc_draw {X0 X : Cx} {w0 w : World} {T R D k cap : Nat} {x : Tl} {d : DoV} {ds : List DoV} {sl : Option Addr} {KK : List Item} (z : Sc0 X0 w0 T R) (h : Sc2 X0 w0 T R X w x x) (hD : w.heap[D]? = some (boxD d)) (hDl : w0.heap.size ≤ D) (hDf : X.free D) (hwf : ∀ c, w64 (x.cs c) = x.cs c) (htk : 0 ≤ x.tick) (htk1 : x.tick ≤ 2305843009213693952)  (hK : ∀ (X' : Cx) (w' : World) (x' : Tl) (y1 y7 y8 y9 y10 y11 y12 y13 y14 y15 y16 y17 y18 y19 y20 y21 y22 y23 y24 y25 y26 y27 y28 y29 y30 y31 y32 y33 y34 y35 y36 y37 y38 y39 y40 y41 y42 y43 y44 y45 y46 y47 y48 y49 y50 y51 y52 y53 y54 y55 y56 y57 y58 y59 y60 y61 y62 y63 y64 y65 y66 y67 y68 y69 y70 y71 y72 y73 y74 y75 y76 y77 y78 y79 y80 y81 y82 y83 y84 y85 y86 y87 y88 y89 y90 y91 y92 y93 y94 y95 y96 y97 y98 y99 y100 y101 y102 y103 y104 y105 y106 y107 y108 y109 y110 y111 y112 y113 y114 y115 y116 y117 y118 y119 y120 y121 y122 y123 y124 y125 y126 y127 : Value), Sc2 X0 w0 T R X' w' x' x' → ((∀ c, w64 (x'.cs c) = x'.cs c) ∧ 0 ≤ x'.tick ∧ x'.tick ≤ x.tick + 16001) → Run Try.prog X' (G ((base 3).at ⟨#[.slice sl ds.length cap, y1, .bool false, .pointer (some ⟨T, 0, none⟩), .pointer (some ⟨R, 0, none⟩), .int .i64 (k : Int), .pointer (some ⟨D, 0, none⟩), y7, y8, y9, y10, y11, y12, y13, y14, y15, y16, y17, y18, y19, y20, y21, y22, y23, y24, y25, y26, y27, y28, y29, y30, y31, y32, y33, y34, y35, y36, y37, y38, y39, y40, y41, y42, y43, y44, y45, y46, y47, y48, y49, y50, y51, y52, y53, y54, y55, y56, y57, y58, y59, y60, y61, y62, y63, y64, y65, y66, y67, y68, y69, y70, y71, y72, y73, y74, y75, y76, y77, y78, y79, y80, y81, y82, y83, y84, y85, y86, y87, y88, y89, y90, y91, y92, y93, y94, y95, y96, y97, y98, y99, y100, y101, y102, y103, y104, y105, y106, y107, y108, y109, y110, y111, y112, y113, y114, y115, y116, y117, y118, y119, y120, y121, y122, y123, y124, y125, y126, y127], []⟩ KK) []) w') (y1 y7 y8 y9 y10 y11 y12 y13 y14 y15 y16 y17 y18 y19 y20 y21 y22 y23 y24 y25 y26 y27 y28 y29 y30 y31 y32 y33 y34 y35 y36 y37 y38 y39 y40 y41 y42 y43 y44 y45 y46 y47 y48 y49 y50 y51 y52 y53 y54 y55 y56 y57 y58 y59 y60 y61 y62 y63 y64 y65 y66 y67 y68 y69 y70 y71 y72 y73 y74 y75 y76 y77 y78 y79 y80 y81 y82 y83 y84 y85 y86 y87 y88 y89 y90 y91 y92 y93 y94 y95 y96 y97 y98 y99 y100 y101 y102 y103 y104 y105 y106 y107 y108 y109 y110 y111 y112 y113 y114 y115 y116 y117 y118 y119 y120 y121 y122 y123 y124 y125 y126 y127 : Value) : Run Try.prog X (G ((base 3).at ⟨#[.slice sl ds.length cap, y1, .bool false, .pointer (some ⟨T, 0, none⟩), .pointer (some ⟨R, 0, none⟩), .int .i64 (k : Int), .pointer (some ⟨D, 0, none⟩), y7, y8, y9, y10, y11, y12, y13, y14, y15, y16, y17, y18, y19, y20, y21, y22, y23, y24, y25, y26, y27, y28, y29, y30, y31, y32, y33, y34, y35, y36, y37, y38, y39, y40, y41, y42, y43, y44, y45, y46, y47, y48, y49, y50, y51, y52, y53, y54, y55, y56, y57, y58, y59, y60, y61, y62, y63, y64, y65, y66, y67, y68, y69, y70, y71, y72, y73, y74, y75, y76, y77, y78, y79, y80, y81, y82, y83, y84, y85, y86, y87, y88, y89, y90, y91, y92, y93, y94, y95, y96, y97, y98, y99, y100, y101, y102, y103, y104, y105, y106, y107, y108, y109, y110, y111, y112, y113, y114, y115, y116, y117, y118, y119, y120, y121, y122, y123, y124, y125, y126, y127], []⟩ (.code (br 4) :: .inBlock 2 :: KK)) []) w := by
  have hX := h.okX z
  have hDw : D < w.heap.size := (Array.getElem?_eq_some_iff.1 hD).1
  have hDT : D ≠ T := by have := z.lT; omega
  have hDR : D ≠ R := by have := z.lR; omega
  have hRw : R < w.heap.size := Nat.lt_of_lt_of_le z.lR h.next.le
  obtain ⟨x', hx'⟩ : ∃ x', x' = drawx x d.workers d.each := ⟨_, rfl⟩
  have hE : ((∀ c, w64 (x'.cs c) = x'.cs c) ∧ 0 ≤ x'.tick ∧ x'.tick ≤ x.tick + 16001) := by
    subst hx'
    have := drawx_tick (x := x) d.workers d.each
    exact ⟨fun c => by rw [drawx_cs]; exact hwf c, by omega, by omega⟩
  have hC1 := draw_any (n := d.workers) (e := d.each) hX (h.memX z) (h.freeT z) h.at_ htk htk1
  have hC2 := fun (X1 : Cx) (w1 : World) (s1 : Sc2 X0 w0 T R X1 w1 x' x) => rdraw_any (n := d.workers) (e := d.each) (s1.okX z) (s1.freeR z) (Nat.lt_of_lt_of_le z.lR s1.next.le) s1.ref htk htk1
  have hL := drawL_le d.workers d.each
  rw [← hx'] at hC1
  simp only [← hx'] at hC2
  generalize drawL d.workers d.each = L at hC1 hC2 hL
  generalize drawE d.workers d.each = er at hC1 hC2
  obtain ⟨k0, k1, k2, k3, k4, k5⟩ := boxD_cell hD
  replace hC1 := Lib.hid hC1
  replace hC2 := Lib.hid hC2
  replace hL := Lib.hid hL
  replace h := Lib.hid h
  replace hK := Lib.hid hK
  replace hD := Lib.hid hD
  replace hE := Lib.hid hE
  clear hx' hwf htk htk1 k0 k1 k2 k3
  simp only [br, blk3, lin3, Try.f3, Option.getD_some]
  repeat first
    | refine Run.seq ?_
    | refine Run.skip ?_
    | refine Run.regionEnd ?_
    | refine Run.block ?_
    | refine Run.inBlock ?_
    | (refine Run.region ?_; simp only [List.size_toArray, List.length_cons, List.length_nil, Nat.reduceAdd, Nat.zero_add, List.range, List.range.loop])
    | (refine Run.cond rfl ?_; simp only [if_true, if_false, Bool.false_eq_true, ↓reduceIte])
    | (refine Run.unwanted rfl rfl ?_; walk_nrm)
    | (refine Run.op0 rfl rfl (by k_ne) (fun d K hK => by go_simp; exact hK) (fun d => by first | (simp [go_sem, *] <;> fail) | fail) ?_; try w_num)
    | refine Run.ret ?_
    | refine Run.fin ?_
    | refine Run.exit rfl ?_
    | ((refine Run.op w rfl rfl (by k_ne) (fun d K hK => by go_simp; exact hK) (fun d e he => by simp [go_sem, *] at he; subst he; exact evL_free hDf) ?_; try w_num))
  refine Run.con hC1.out rfl rfl (by k_ne) rfl (by first | (simp only [List.map_toArray, List.map_cons, List.map_nil]; done) | (simp only [List.map_toArray, List.map_cons, List.map_nil]; rfl)) (fun X1 v w1 hr => ?_)
  obtain ⟨n1, o1, s, c, rfl, t1, g1⟩ := hr
  have hD1 : w1.heap[D]? = some (boxD d) := (o1.block D hDw (by omega)).trans hD.out
  have hf1 := n1.free hX hDf
  have s1 := h.out.onT z n1 o1 t1
  have hC2' := Lib.hid (hC2.out X1 w1 s1)
  have hsz1 := o1.size
  replace s1 := Lib.hid s1
  replace g1 := Lib.hid g1
  clear k4 k5 hC1 hC2 h hD n1 o1 t1 hDf
  obtain ⟨k0, k1, k2, k3, k4, k5⟩ := boxD_cell hD1
  clear k0 k1 k2 k3
  replace hD1 := Lib.hid hD1
  walk_nrm
  repeat first
    | refine Run.seq ?_
    | refine Run.skip ?_
    | refine Run.regionEnd ?_
    | refine Run.block ?_
    | refine Run.inBlock ?_
    | (refine Run.region ?_; simp only [List.size_toArray, List.length_cons, List.length_nil, Nat.reduceAdd, Nat.zero_add, List.range, List.range.loop])
    | (refine Run.cond rfl ?_; simp only [if_true, if_false, Bool.false_eq_true, ↓reduceIte])
    | (refine Run.unwanted rfl rfl ?_; walk_nrm)
    | (refine Run.op0 rfl rfl (by k_ne) (fun d K hK => by go_simp; exact hK) (fun d => by first | (simp [go_sem, *] <;> fail) | fail) ?_; try w_num)
    | refine Run.ret ?_
    | refine Run.fin ?_
    | refine Run.exit rfl ?_
    | ((refine Run.op w1 rfl rfl (by k_ne) (fun d K hK => by go_simp; exact hK) (fun d e he => by simp [go_sem, *] at he; subst he; exact evL_free hf1) ?_; try w_num))
  refine Run.con hC2'.out rfl rfl (by k_ne) rfl (by first | (simp only [List.map_toArray, List.map_cons, List.map_nil]; done) | (simp only [List.map_toArray, List.map_cons, List.map_nil]; rfl)) (fun X2 v w2 hr => ?_)
  obtain ⟨n2, o2, s', c', rfl, t2, g2⟩ := hr
  have s2 := s1.out.onR z n2 o2 t2
  have hX1 := s1.out.okX z
  have hC3 := longs_any (X := X2) (w := w2) (t := x.tick) s s' c c' hL.out (fun hp => by
    obtain ⟨A, e, a1, a2, a3, a4⟩ := g1.out hp
    exact ⟨A, e, n2.free hX1 a3, fun i hi => (cell_heap (o2.block A a2 (by omega))).trans (a4 i hi)⟩) (fun hp => by
    obtain ⟨A, e, a1, a2, a3, a4⟩ := g2 hp
    exact ⟨A, e, a3, a4⟩)
  replace hC3 := Lib.hid hC3
  replace hK := Lib.hid (fun y1 y7 y8 y9 y10 y11 y12 y13 y14 y15 y16 y17 y18 y19 y20 y21 y22 y23 y24 y25 y26 y27 y28 y29 y30 y31 y32 y33 y34 y35 y36 y37 y38 y39 y40 y41 y42 y43 y44 y45 y46 y47 y48 y49 y50 y51 y52 y53 y54 y55 y56 y57 y58 y59 y60 y61 y62 y63 y64 y65 y66 y67 y68 y69 y70 y71 y72 y73 y74 y75 y76 y77 y78 y79 y80 y81 y82 y83 y84 y85 y86 y87 y88 y89 y90 y91 y92 y93 y94 y95 y96 y97 y98 y99 y100 y101 y102 y103 y104 y105 y106 y107 y108 y109 y110 y111 y112 y113 y114 y115 y116 y117 y118 y119 y120 y121 y122 y123 y124 y125 y126 y127 => hK.out X2 w2 x' y1 y7 y8 y9 y10 y11 y12 y13 y14 y15 y16 y17 y18 y19 y20 y21 y22 y23 y24 y25 y26 y27 y28 y29 y30 y31 y32 y33 y34 y35 y36 y37 y38 y39 y40 y41 y42 y43 y44 y45 y46 y47 y48 y49 y50 y51 y52 y53 y54 y55 y56 y57 y58 y59 y60 y61 y62 y63 y64 y65 y66 y67 y68 y69 y70 y71 y72 y73 y74 y75 y76 y77 y78 y79 y80 y81 y82 y83 y84 y85 y86 y87 y88 y89 y90 y91 y92 y93 y94 y95 y96 y97 y98 y99 y100 y101 y102 y103 y104 y105 y106 y107 y108 y109 y110 y111 y112 y113 y114 y115 y116 y117 y118 y119 y120 y121 y122 y123 y124 y125 y126 y127 s2 hE.out)
  clear k4 k5 hC2' s1 g1 hD1 n2 o2 t2 g2 s2 hX1 hf1 hX hL hE hsz1 z
  walk_nrm
  repeat first
    | refine Run.seq ?_
    | refine Run.skip ?_
    | refine Run.regionEnd ?_
    | refine Run.block ?_
    | refine Run.inBlock ?_
    | (refine Run.region ?_; simp only [List.size_toArray, List.length_cons, List.length_nil, Nat.reduceAdd, Nat.zero_add, List.range, List.range.loop])
    | (refine Run.cond rfl ?_; simp only [if_true, if_false, Bool.false_eq_true, ↓reduceIte])
    | (refine Run.unwanted rfl rfl ?_; walk_nrm)
    | (refine Run.op0 rfl rfl (by k_ne) (fun d K hK => by go_simp; exact hK) (fun d => by first | (simp [go_sem, *] <;> fail) | fail) ?_; try w_num)
    | refine Run.ret ?_
    | refine Run.fin ?_
    | refine Run.exit rfl ?_
  refine Run.con hC3.out rfl rfl (by k_ne) rfl (by first | (simp only [List.map_toArray, List.map_cons, List.map_nil]; done) | (simp only [List.map_toArray, List.map_cons, List.map_nil]; rfl)) (fun X3 v w3 hr => ?_)
  obtain ⟨rfl, rfl, rfl⟩ := hr
  clear hC3
  walk_nrm
  repeat first
    | refine Run.seq ?_
    | refine Run.skip ?_
    | refine Run.regionEnd ?_
    | refine Run.block ?_
    | refine Run.inBlock ?_
    | (refine Run.region ?_; simp only [List.size_toArray, List.length_cons, List.length_nil, Nat.reduceAdd, Nat.zero_add, List.range, List.range.loop])
    | (refine Run.cond rfl ?_; simp only [if_true, if_false, Bool.false_eq_true, ↓reduceIte])
    | (refine Run.unwanted rfl rfl ?_; walk_nrm)
    | (refine Run.op0 rfl rfl (by k_ne) (fun d K hK => by go_simp; exact hK) (fun d => by first | (simp [go_sem, *] <;> fail) | fail) ?_; try w_num)
    | refine Run.ret ?_
    | refine Run.fin ?_
    | refine Run.exit rfl ?_
  exact hK.out _ _ _ _ _ _ _ _ _ _ _ _ _ _ _ _ _ _ _ _ _ _ _ _ _ _ _ _ _ _ _ _ _ _ _ _ _ _ _ _ _ _ _ _ _ _ _ _ _ _ _ _ _ _ _ _ _ _ _ _ _ _ _ _ _ _ _ _ _ _ _ _ _ _ _ _ _ _ _ _ _ _ _ _ _ _ _ _ _ _ _ _ _ _ _ _ _ _ _ _ _ _ _ _ _ _ _ _ _ _ _ _ _ _ _ _ _ _ _ _ _ _
end Go.Proofs.Ytboiolnnhmlieaa.Gang
