
/-
  TallyScripts: what a round keeps; Add, First, Ticket. TallyScripts: an element of the script stored whole. TallyScripts: the end of a round.
  Conditions: stated lemma by lemma.
-/
import Derived.Test.YtboiolnnhmlieaaGc28
import Derived.Test.YtboiolnnhmlieaaGz4
import Derived.Test.YtboiolnnhmlieaaGz5
import Derived.Test.YtboiolnnhmlieaaGz3
import Derived.Test.YtboiolnnhmlieaaGe1
import Derived.Lib.Hide
namespace Go.Proofs.Ytboiolnnhmlieaa.Gang
open Go.Conc Go.ConcN Go.RowKit Go.Conc.Lib Go.ConcR.Gen Go.ConcN.Gen
set_option linter.unusedVariables false
set_option linter.unusedSimpArgs false
/-- what the rounds keep: the tally and the reference, apart -/
structure Sc2 (X0 : Cx) (w0 : World) (T R : Nat) (X : Cx) (w : World) (x y : Tl) : Prop where
  next : X0.Next w0 X w
  tape : w.tape = w0.tape
  os : w.os = w0.os
  output : w.output = w0.output
  block : ∀ b, b < w0.heap.size → b ≠ T → b ≠ R → w.heap[b]? = w0.heap[b]?
  at_ : TlAt T x w
  ref : RefAt R y w
/-- where it began -/
structure Sc0 (X0 : Cx) (w0 : World) (T R : Nat) : Prop where
  ok : X0.ok w0
  mem : ∀ l : Loc, l.isMemory = false → X0.Sh l
  fT : X0.free T
  fR : X0.free R
  ne : T ≠ R
  lT : T < w0.heap.size
  lR : R < w0.heap.size
section
variable {X0 X X' : Cx} {w0 w w' : World} {T R : Nat} {x y x' : Tl}
theorem Sc2.okX (h : Sc2 X0 w0 T R X w x y) (z : Sc0 X0 w0 T R) : X.ok w := h.next.ok z.ok
theorem Sc2.freeT (h : Sc2 X0 w0 T R X w x y) (z : Sc0 X0 w0 T R) : X.free T := h.next.free z.ok z.fT
theorem Sc2.freeR (h : Sc2 X0 w0 T R X w x y) (z : Sc0 X0 w0 T R) : X.free R := h.next.free z.ok z.fR
theorem Sc2.memX (h : Sc2 X0 w0 T R X w x y) (z : Sc0 X0 w0 T R) : ∀ l : Loc, l.isMemory = false → X.Sh l := fun l hl => h.next.sub l (z.mem l hl)
theorem Sc2.onT (h : Sc2 X0 w0 T R X w x y) (z : Sc0 X0 w0 T R) (n : X.Next w X' w') (o : Off T w w') (t : TlAt T x' w') : Sc2 X0 w0 T R X' w' x' y :=
  ⟨h.next.trans n, o.tape.trans h.tape, o.os.trans h.os, o.output.trans h.output, fun b hb h1 h2 => (o.block b (Nat.lt_of_lt_of_le hb h.next.le) h1).trans (h.block b hb h1 h2), t, h.ref.block (o.block R (Nat.lt_of_lt_of_le z.lR h.next.le) (fun e => z.ne e.symm))⟩
theorem TlAt.blockS {w w' : World} (h : TlAt T x w) (hb : w'.heap[T]? = w.heap[T]?) : TlAt T x w' := by
  unfold TlAt TalAt at h ⊢
  rw [hb]
  exact h
theorem Sc2.onR (h : Sc2 X0 w0 T R X w x y) (z : Sc0 X0 w0 T R) (n : X.Next w X' w') (o : Off R w w') (t : RefAt R x' w') : Sc2 X0 w0 T R X' w' x x' :=
  ⟨h.next.trans n, o.tape.trans h.tape, o.os.trans h.os, o.output.trans h.output, fun b hb h1 h2 => (o.block b (Nat.lt_of_lt_of_le hb h.next.le) h2).trans (h.block b hb h1 h2), h.at_.blockS (o.block T (Nat.lt_of_lt_of_le z.lT h.next.le) z.ne), t⟩
theorem Sc2.on (h : Sc2 X0 w0 T R X w x y) (z : Sc0 X0 w0 T R) (n : X.Next w X' w') (o : Off w.heap.size w w') : Sc2 X0 w0 T R X' w' x y :=
  ⟨h.next.trans n, o.tape.trans h.tape, o.os.trans h.os, o.output.trans h.output, fun b hb h1 h2 => (o.block b (Nat.lt_of_lt_of_le hb h.next.le) (by have := h.next.le; omega)).trans (h.block b hb h1 h2), h.at_.blockS (o.block T (Nat.lt_of_lt_of_le z.lT h.next.le) (by have := h.next.le; have := z.lT; omega)), h.ref.block (o.block R (Nat.lt_of_lt_of_le z.lR h.next.le) (by have := h.next.le; have := z.lR; omega))⟩
theorem next_same (hB : X.B = w.heap.size) (hd : X.d = 0) (hs : w'.heap.size = w.heap.size) : X.Next w X w' := ⟨rfl, hd, by rw [hs]; exact hB, fun _ h => .inl h, fun _ h => h, by omega⟩
/-- a step added, if it may be -/
def addx (x : Tl) (i n : Int) : Tl := if okStep i n = true then { x with cs := fun a => if a = i.toNat then w64 (x.cs i.toNat + n) else x.cs a, most := if n ≤ x.most then x.most else n } else x
theorem add_any (hB : X.B = w.heap.size) (hX : X.ok w) (hT : X.free T) (h : TlAt T x w) (i n : Int) : Con Try.prog X 10 #[.pointer (some ⟨T, 0, none⟩), .int .i64 i, .int .i64 n] w (fun X' v w' => X.Next w X' w' ∧ Off T w w' ∧ v = .int .i64 (if okStep i n = true then 0 else 1) ∧ TlAt T (addx x i n) w') := by
  by_cases hok : okStep i n = true
  · obtain ⟨c, rfl, hc⟩ : ∃ c : Nat, i = (c : Int) ∧ c < 8 := by
      simp only [okStep, Bool.and_eq_true, decide_eq_true_eq] at hok
      exact ⟨i.toNat, by omega, by omega⟩
    refine (add_yes hT.1 h hc hok).mono fun X' v w' ⟨e, hv, ht, ha⟩ => ?_
    subst e
    unfold addx
    rw [if_pos hok, if_pos hok]
    exact ⟨next_same hB hX.hears ha.size, Off.of_aside ha, hv, ht⟩
  · have hno : okStep i n = false := by simpa using hok
    refine (add_no (X := X) (w := w) (T := T) hno).mono fun X' v w' ⟨e1, e2, hv⟩ => ?_
    subst e1; subst e2
    unfold addx
    rw [if_neg hok, if_neg hok]
    exact ⟨next_same hB hX.hears rfl, Off.refl _ _, hv, h⟩
theorem radd_any (hX : X.ok w) (hR : X.free R) (hRs : R < w.heap.size) (h : RefAt R x w) (i n : Int) : Con Try.prog X 11 #[.pointer (some ⟨R, 0, none⟩), .agg #[.int .i64 i, .int .i64 n]] w (fun X' v w' => X.Next w X' w' ∧ Off R w w' ∧ v = .int .i64 (if okStep i n = true then 0 else 1) ∧ RefAt R (addx x i n) w') := by
  refine (radd_con hX hR hRs h i n).mono fun X' v w' ⟨e, o, hc⟩ => ?_
  subst e
  unfold addx
  rcases hc with ⟨hok, hv, hr⟩ | ⟨hno, hv, hr⟩
  · rw [if_pos hok, if_pos hok]
    exact ⟨Cx.next_up hX o.size, o, hv, hr⟩
  · rw [if_neg (by rw [hno]; simp), if_neg (by rw [hno]; simp)]
    exact ⟨Cx.next_up hX o.size, o, hv, hr⟩
theorem addx_wf (hwf : ∀ c, w64 (x.cs c) = x.cs c) (i n : Int) : ∀ c, w64 ((addx x i n).cs c) = (addx x i n).cs c := fun c => by
  unfold addx
  split
  · show w64 (if c = i.toNat then w64 (x.cs i.toNat + n) else x.cs c) = (if c = i.toNat then w64 (x.cs i.toNat + n) else x.cs c)
    split
    · exact w64_w64 _
    · exact hwf c
  · exact hwf c
theorem addx_tick (i n : Int) : (addx x i n).tick = x.tick := by
  unfold addx
  split <;> rfl
/-- the word, said once -/
def firstx (x : Tl) (n : Int) : Tl := if x.done then x else { x with done := true, word := n }
theorem tlm_of (h : TlAt T x w) : TlM T x 0 w := h
theorem first_any (hX : X.ok w) (hT : X.free T) (hTs : T < w.heap.size) (h : TlAt T x w) (n : Int) : Con Try.prog X 14 #[.pointer (some ⟨T, 0, none⟩), .int .i64 n] w (fun X' v w' => X.Next w X' w' ∧ Off T w w' ∧ v = .int .i64 (if x.done then x.word else n) ∧ TlAt T (firstx x n) w') := by
  cases hd : x.done with
  | true =>
    refine (first_old (n := n) hX hT hTs h hd).mono fun X' v w' ⟨e, hv, ht, o⟩ => ?_
    subst e
    unfold firstx
    rw [hd]
    exact ⟨Cx.next_up hX o.size, o, hv, ht⟩
  | false =>
    refine (first_new (n := n) hX hT hTs h hd).mono fun X' v w' ⟨e, hv, ht, o⟩ => ?_
    subst e
    unfold firstx
    rw [hd]
    exact ⟨Cx.next_up hX o.size, o, hv, ht⟩
theorem rfirst_any (hB : X.B = w.heap.size) (hX : X.ok w) (hR : X.free R) (h : RefAt R x w) (n : Int) : Con Try.prog X 15 #[.pointer (some ⟨R, 0, none⟩), .int .i64 n] w (fun X' v w' => X.Next w X' w' ∧ Off R w w' ∧ v = .int .i64 (if x.done then x.word else n) ∧ RefAt R (firstx x n) w') := by
  refine (rfirst_con hR h n).mono fun X' v w' ⟨e, hv, hr, ha⟩ => ?_
  subst e
  exact ⟨next_same hB hX.hears ha.size, Off.of_aside ha, hv, hr⟩
end
/-- the loop, and its branches -/
noncomputable def lin3 : Code := match Try.f3.body.getD .skip with | .seq _ (.seq _ (.seq _ (.seq _ (.seq (.seq _ (.block _ (.loop c))) _)))) => c | _ => .skip
noncomputable def blk3 : Code := match lin3 with | .seq _ (.seq (.block _ (.seq _ (.seq (.seq _ (.block _ c)) _))) _) => c | _ => .skip
noncomputable def br (n : Nat) : Code := match n with
  | 0 => (match blk3 with | .seq _ (.cond _ a _) => a | _ => .skip)
  | 1 => (match blk3 with | .seq _ (.cond _ _ (.seq _ (.cond _ a _))) => a | _ => .skip)
  | 2 => (match blk3 with | .seq _ (.cond _ _ (.seq _ (.cond _ _ (.seq _ (.cond _ a _))))) => a | _ => .skip)
  | 3 => (match blk3 with | .seq _ (.cond _ _ (.seq _ (.cond _ _ (.seq _ (.cond _ _ (.seq _ (.cond _ a _))))))) => a | _ => .skip)
  | _ => (match blk3 with | .seq _ (.cond _ _ (.seq _ (.cond _ _ (.seq _ (.cond _ _ (.seq _ (.cond _ _ a))))))) => a | _ => .skip)
/-- the element of the script that is gone through -/
def boxD (d : DoV) : Obj := .cells #[.int .i64 d.kind, .int .i64 d.slot, .int .i64 d.num, .slice d.sl d.steps.length d.cap, .int .i64 d.workers, .int .i64 d.each] 34
theorem boxD_cell {w : World} {D : Nat} {d : DoV} (h : w.heap[D]? = some (boxD d)) : w.cell? ⟨D, 0, none⟩ = some (.int .i64 d.kind) ∧ w.cell? ⟨D, 1, none⟩ = some (.int .i64 d.slot) ∧ w.cell? ⟨D, 2, none⟩ = some (.int .i64 d.num) ∧ w.cell? ⟨D, 3, none⟩ = some (.slice d.sl d.steps.length d.cap) ∧ w.cell? ⟨D, 4, none⟩ = some (.int .i64 d.workers) ∧ w.cell? ⟨D, 5, none⟩ = some (.int .i64 d.each) := by
  unfold World.cell?
  unfold boxD at h
  simp only [h]
  exact ⟨rfl, rfl, rfl, rfl, rfl, rfl⟩
end Go.Proofs.Ytboiolnnhmlieaa.Gang
namespace Go.Proofs.Ytboiolnnhmlieaa.Gang
open Go.Conc Go.ConcN Go.RowKit Go.Conc.Lib Go.ConcR.Gen Go.ConcN.Gen
set_option linter.unusedVariables false
set_option linter.unusedSimpArgs false
theorem storeDo_run {w : World} {D : Nat} (h : w.heap[D]? = some (.cells #[.int .i64 0, .int .i64 0, .int .i64 0, .slice none 0 0, .int .i64 0, .int .i64 0] 34)) (d : DoV) : ∀ t, (Instr.storeAt 34 (.pointer (some ⟨D, 0, none⟩)) (.agg #[.int .i64 d.kind, .int .i64 d.slot, .int .i64 d.num, .slice d.sl d.steps.length d.cap, .int .i64 d.workers, .int .i64 d.each])).run Try.prog (w.at t) = .ok () ((w.setRow D #[.int .i64 d.kind, .int .i64 d.slot, .int .i64 d.num, .slice d.sl d.steps.length d.cap, .int .i64 d.workers, .int .i64 d.each]).at t) := fun t => by
  simp only [Instr.storeAt, Instr.sureAddr, Sem.run_bind, Sem.run_pure, Result.andThen]
  exact run_storeVar_row (w.at t) D 34 34 _ _ h (by kernel_rfl) rfl (by simp [Value.oneCell'])
theorem storeDo_evs {X : Cx} {w : World} {D : Nat} (hD : X.free D) (h : w.heap[D]? = some (.cells #[.int .i64 0, .int .i64 0, .int .i64 0, .slice none 0 0, .int .i64 0, .int .i64 0] 34)) (d : DoV) : ∀ t, ∀ e ∈ (Instr.storeAt 34 (.pointer (some ⟨D, 0, none⟩)) (.agg #[.int .i64 d.kind, .int .i64 d.slot, .int .i64 d.num, .slice d.sl d.steps.length d.cap, .int .i64 d.workers, .int .i64 d.each])).events Try.prog (w.at t) #[], EvL X.Sh X.B e := fun t e he => by
  have hp := plainly_events _ _ e he
  have hh : (w.at t).heap[D]? = some (.cells #[.int .i64 0, .int .i64 0, .int .i64 0, .slice none 0 0, .int .i64 0, .int .i64 0] 34) := h
  have hk : ∃ ad, e.loc = .cell ad ∧ ad.block = D := by
    have hi : (Try.prog.info? 34).map (·.size) = some 6 := by kernel_rfl
    cases hq : Try.prog.info? 34 with
    | none => rw [hq] at hi; cases hi
    | some i =>
      rw [hq] at hi
      have hs : i.size = 6 := by simpa using hi
      simp [Instr.storeAt, Instr.sureAddr, storeVar, sizeOf, typeInfo, hq, hs, Value.cells] at he
      have := events_storeCells_at (P := Try.prog) D 0 34 _ 0 _ (w.at t) #[] hh (by simp) (by intro v hv; simp at hv; rcases hv with rfl | rfl | rfl | rfl | rfl | rfl <;> rfl) e he
      rcases this with h1 | h1
      · simp at h1
      · exact h1
  obtain ⟨ad, hl, rfl⟩ := hk
  exact evL_own hl hD (hp ad hl)
theorem setRow_boxD {w : World} {D : Nat} (h : w.heap[D]? = some (.cells #[.int .i64 0, .int .i64 0, .int .i64 0, .slice none 0 0, .int .i64 0, .int .i64 0] 34)) (d : DoV) : (w.setRow D #[.int .i64 d.kind, .int .i64 d.slot, .int .i64 d.num, .slice d.sl d.steps.length d.cap, .int .i64 d.workers, .int .i64 d.each]).heap[D]? = some (boxD d) := setRow_heap w D _ _ 34 _ h
theorem setRow_aside (w : World) (D : Nat) (cs : Array Value) : Go.Conc.Aside D w (w.setRow D cs) := ⟨rfl, rfl, rfl, setRow_size w D cs, fun b hb => setRow_other w D b cs hb⟩
section
variable {P : Program} {X : Cx} {b : Frame} {a : Act} {k : List Item} {cs : List Frame} {w : World} {ops : Array Oper} {n : Nat} {rest : List Nat} {o : Oper}
/-- an operation that yields nothing -/
theorem Run.opS (w' : World) (ho : ops[n]? = some o) (hw : Region.wanted o (yielded ops a.tmps) = true) (hk : b.kind ≠ .early) (hd : o.dst = none)
    (h : ∀ d, (execOp a.eval o).run P (w.at d) = .ok .skip (w'.at d)) (he : ∀ d, ∀ e ∈ (execOp a.eval o).events P (w.at d) #[], EvL X.Sh X.B e) (hW : Run P X (G (b.at a (.inRegion ops rest :: k)) cs) w') :
    Run P X (G (b.at a (.inRegion ops (n :: rest) :: k)) cs) w :=
  Run.op (a' := a) w' ho hw hk (fun d K hK => by
    rw [h d]
    have : a.put o.dst undef = a := by rw [hd]; rfl
    simpa [uponK, this] using hK) he hW
end
end Go.Proofs.Ytboiolnnhmlieaa.Gang
namespace Go.Proofs.Ytboiolnnhmlieaa.Gang
open Go.Conc Go.ConcN Go.RowKit Go.Conc.Lib Go.ConcR.Gen Go.ConcN.Gen
set_option linter.unusedVariables false
set_option linter.unusedSimpArgs false
noncomputable def tail3 : Code := match lin3 with | .seq _ (.seq (.block _ (.seq _ (.seq _ c))) _) => c | _ => .skip
noncomputable def step3 : Code := match lin3 with | .seq _ (.seq _ c) => c | _ => .skip
set_option maxRecDepth 100000 in
set_option maxHeartbeats 8000000 in
theorem sc_tail {X0 X : Cx} {w0 w : World} {T R D k cap : Nat} {x : Tl} {ds : List DoV} {sl : Option Addr} {K : List Item} (z : Sc0 X0 w0 T R) (h : Sc2 X0 w0 T R X w x x) (hk : k < 4611686018427387904) (hK : ∀ (y1 y7 y8 y9 y10 y11 y12 y13 y14 y15 y16 y17 y18 y19 y20 y21 y22 y23 y24 y25 y26 y27 y28 y29 y30 y31 y32 y33 y34 y35 y36 y37 y38 y39 y40 y41 y42 y43 y44 y45 y46 y47 y48 y49 y50 y51 y52 y53 y54 y55 y56 y57 y58 y59 y60 y61 y62 y63 y64 y65 y66 y67 y68 y69 y70 y71 y72 y73 y74 y75 y76 y77 y78 y79 y80 y81 y82 y83 y84 y85 y86 y87 y88 y89 y90 y91 y92 y93 y94 y95 y96 y97 y98 y99 y100 y101 y102 y103 y104 y105 y106 y107 y108 y109 y110 y111 y112 y113 y114 y115 y116 y117 y118 y119 y120 y121 y122 y123 y124 y125 y126 y127 : Value), Run Try.prog X (G ((base 3).at ⟨#[.slice sl ds.length cap, y1, .bool false, .pointer (some ⟨T, 0, none⟩), .pointer (some ⟨R, 0, none⟩), .int .i64 ((k + 1 : Nat) : Int), .pointer (some ⟨D, 0, none⟩), y7, y8, y9, y10, y11, y12, y13, y14, y15, y16, y17, y18, y19, y20, y21, y22, y23, y24, y25, y26, y27, y28, y29, y30, y31, y32, y33, y34, y35, y36, y37, y38, y39, y40, y41, y42, y43, y44, y45, y46, y47, y48, y49, y50, y51, y52, y53, y54, y55, y56, y57, y58, y59, y60, y61, y62, y63, y64, y65, y66, y67, y68, y69, y70, y71, y72, y73, y74, y75, y76, y77, y78, y79, y80, y81, y82, y83, y84, y85, y86, y87, y88, y89, y90, y91, y92, y93, y94, y95, y96, y97, y98, y99, y100, y101, y102, y103, y104, y105, y106, y107, y108, y109, y110, y111, y112, y113, y114, y115, y116, y117, y118, y119, y120, y121, y122, y123, y124, y125, y126, y127], []⟩ (.code lin3 :: .inLoop lin3 :: .inBlock 0 :: K)) []) w) (y1 y7 y8 y9 y10 y11 y12 y13 y14 y15 y16 y17 y18 y19 y20 y21 y22 y23 y24 y25 y26 y27 y28 y29 y30 y31 y32 y33 y34 y35 y36 y37 y38 y39 y40 y41 y42 y43 y44 y45 y46 y47 y48 y49 y50 y51 y52 y53 y54 y55 y56 y57 y58 y59 y60 y61 y62 y63 y64 y65 y66 y67 y68 y69 y70 y71 y72 y73 y74 y75 y76 y77 y78 y79 y80 y81 y82 y83 y84 y85 y86 y87 y88 y89 y90 y91 y92 y93 y94 y95 y96 y97 y98 y99 y100 y101 y102 y103 y104 y105 y106 y107 y108 y109 y110 y111 y112 y113 y114 y115 y116 y117 y118 y119 y120 y121 y122 y123 y124 y125 y126 y127 : Value) :
    Run Try.prog X (G ((base 3).at ⟨#[.slice sl ds.length cap, y1, .bool false, .pointer (some ⟨T, 0, none⟩), .pointer (some ⟨R, 0, none⟩), .int .i64 (k : Int), .pointer (some ⟨D, 0, none⟩), y7, y8, y9, y10, y11, y12, y13, y14, y15, y16, y17, y18, y19, y20, y21, y22, y23, y24, y25, y26, y27, y28, y29, y30, y31, y32, y33, y34, y35, y36, y37, y38, y39, y40, y41, y42, y43, y44, y45, y46, y47, y48, y49, y50, y51, y52, y53, y54, y55, y56, y57, y58, y59, y60, y61, y62, y63, y64, y65, y66, y67, y68, y69, y70, y71, y72, y73, y74, y75, y76, y77, y78, y79, y80, y81, y82, y83, y84, y85, y86, y87, y88, y89, y90, y91, y92, y93, y94, y95, y96, y97, y98, y99, y100, y101, y102, y103, y104, y105, y106, y107, y108, y109, y110, y111, y112, y113, y114, y115, y116, y117, y118, y119, y120, y121, y122, y123, y124, y125, y126, y127], []⟩ (.code tail3 :: .inBlock 1 :: .code step3 :: .inLoop lin3 :: .inBlock 0 :: K)) []) w := by
  have ew : IntKind.i64.wrap ((k : Int) + 1) = ((k + 1 : Nat) : Int) := by rw [IntKind.wrap_i64]; omega
  have hC := same_con (X := X) (h.freeT z).1 (h.freeR z) h.at_ h.ref
  replace hC := Lib.hid hC
  simp only [tail3, step3, lin3, Try.f3, Option.getD_some]
  replace hK := Lib.hid hK
  clear h z hk
  repeat first
    | refine Run.seq ?_
    | refine Run.skip ?_
    | refine Run.regionEnd ?_
    | refine Run.block ?_
    | refine Run.inBlock ?_
    | (refine Run.region ?_; simp only [List.size_toArray, List.length_cons, List.length_nil, Nat.reduceAdd, Nat.zero_add, List.range, List.range.loop])
    | (refine Run.cond rfl ?_; simp only [if_true, if_false, Bool.false_eq_true, ↓reduceIte])
    | (refine Run.unwanted rfl rfl ?_; walk_nrm)
    | (refine Run.op0 rfl rfl (by k_ne) (fun d K hK => by go_simp; exact hK) (fun d => by first | (simp [go_sem, *] <;> fail) | fail) ?_; try w_num)
    | refine Run.ret ?_
    | refine Run.fin ?_
    | refine Run.exit rfl ?_
  refine Run.con hC.out rfl rfl (by k_ne) rfl (by first | (simp only [List.map_toArray, List.map_cons, List.map_nil]; done) | (simp only [List.map_toArray, List.map_cons, List.map_nil]; rfl)) (fun X1 v w1 hr => ?_)
  obtain ⟨rfl, rfl, rfl⟩ := hr
  walk_nrm
  repeat first
    | refine Run.seq ?_
    | refine Run.skip ?_
    | refine Run.regionEnd ?_
    | refine Run.block ?_
    | refine Run.inBlock ?_
    | (refine Run.region ?_; simp only [List.size_toArray, List.length_cons, List.length_nil, Nat.reduceAdd, Nat.zero_add, List.range, List.range.loop])
    | (refine Run.cond rfl ?_; simp only [if_true, if_false, Bool.false_eq_true, ↓reduceIte])
    | (refine Run.unwanted rfl rfl ?_; walk_nrm)
    | (refine Run.op0 rfl rfl (by k_ne) (fun d K hK => by go_simp; exact hK) (fun d => by first | (simp [go_sem, *] <;> fail) | fail) ?_; try w_num)
    | refine Run.ret ?_
    | refine Run.fin ?_
    | refine Run.exit rfl ?_
  first | rw [ew] | rw [show (k : Int) + 1 = ((k + 1 : Nat) : Int) by omega]
  refine Run.inLoop ?_
  exact hK.out _ _ _ _ _ _ _ _ _ _ _ _ _ _ _ _ _ _ _ _ _ _ _ _ _ _ _ _ _ _ _ _ _ _ _ _ _ _ _ _ _ _ _ _ _ _ _ _ _ _ _ _ _ _ _ _ _ _ _ _ _ _ _ _ _ _ _ _ _ _ _ _ _ _ _ _ _ _ _ _ _ _ _ _ _ _ _ _ _ _ _ _ _ _ _ _ _ _ _ _ _ _ _ _ _ _ _ _ _ _ _ _ _ _ _ _ _ _ _ _ _ _
end Go.Proofs.Ytboiolnnhmlieaa.Gang
