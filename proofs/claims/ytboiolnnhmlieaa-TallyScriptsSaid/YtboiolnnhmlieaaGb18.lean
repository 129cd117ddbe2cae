
/-
  Draw's starter: it lays a number aside, adds one, starts a worker, round by round, and waits for all.
  Conditions: stated lemma by lemma.
-/
import Derived.Test.YtboiolnnhmlieaaGb12
import Derived.Test.YtboiolnnhmlieaaGb17
namespace Go.Proofs.Ytboiolnnhmlieaa.Gang
open Go.Conc Go.ConcN Go.RowKit Go.Conc.Lib Go.ConcR.Gen Go.ConcN.Gen
open Go.ConcR (wgBlock WgAt stA smA rd wr KK)
set_option linter.unusedVariables false
set_option linter.unusedSimpArgs false

section
variable (X : Cx) (T A N0 n each Wg ba : Nat) (tl : Tl) (w0 : World) (b₀ : Frame) (a₀ : Act) (ops₀ : Array Oper) (n₀ : Nat) (rest₀ : List Nat) (k₀ : List Item) (cs : List Frame)
noncomputable def loop17 : Code := match Try.f17.body.getD .skip with | .seq _ (.seq _ (.seq _ (.seq _ (.seq (.seq _ (.block _ (.loop c))) _)))) => c | _ => .skip
noncomputable def rest17 : Code := match Try.f17.body.getD .skip with | .seq _ (.seq _ (.seq _ (.seq _ (.seq (.seq _ _) c)))) => c | _ => .skip
noncomputable def ops17 : Array Oper := match rest17 with | .seq (.region _ o _) _ => o | _ => #[]
noncomputable def tail17 : Code := match rest17 with | .seq _ c => c | _ => .skip
def T44 (v : Nat → Value) : Array Value := #[v 0, v 1, v 2, v 3, v 4, v 5, v 6, v 7, v 8, v 9, v 10, v 11, v 12, v 13, v 14, v 15, v 16, v 17, v 18, v 19, v 20, v 21, v 22, v 23, v 24, v 25, v 26, v 27, v 28, v 29, v 30, v 31, v 32, v 33, v 34, v 35, v 36, v 37, v 38, v 39, v 40, v 41, v 42, v 43]
theorem T44_ex (a0 a1 a2 a3 a4 a5 a6 a7 a8 a9 a10 a11 a12 a13 a14 a15 a16 a17 a18 a19 a20 a21 a22 a23 a24 a25 a26 a27 a28 a29 a30 a31 a32 a33 a34 a35 a36 a37 a38 a39 a40 a41 a42 a43 : Value) : ∃ v, T44 v = #[a0, a1, a2, a3, a4, a5, a6, a7, a8, a9, a10, a11, a12, a13, a14, a15, a16, a17, a18, a19, a20, a21, a22, a23, a24, a25, a26, a27, a28, a29, a30, a31, a32, a33, a34, a35, a36, a37, a38, a39, a40, a41, a42, a43] ∧ v 8 = a8 := ⟨fun i => [a0, a1, a2, a3, a4, a5, a6, a7, a8, a9, a10, a11, a12, a13, a14, a15, a16, a17, a18, a19, a20, a21, a22, a23, a24, a25, a26, a27, a28, a29, a30, a31, a32, a33, a34, a35, a36, a37, a38, a39, a40, a41, a42, a43].getD i undef, rfl, rfl⟩
theorem T44_set (v : Nat → Value) (u : Value) : (T44 v).setIfInBounds 40 u = #[v 0, v 1, v 2, v 3, v 4, v 5, v 6, v 7, v 8, v 9, v 10, v 11, v 12, v 13, v 14, v 15, v 16, v 17, v 18, v 19, v 20, v 21, v 22, v 23, v 24, v 25, v 26, v 27, v 28, v 29, v 30, v 31, v 32, v 33, v 34, v 35, v 36, v 37, v 38, v 39, u, v 41, v 42, v 43] := rfl
/-- what stands as it did while k are started -/
structure Kd (k : Nat) (w : World) : Prop where
  out : SameOut w0 w
  size : w.heap.size = N0 + k
  live : liveAt 76 Wg w
  low : ∀ b, b < N0 → ¬ (b = Wg ∨ b = T ∨ b = A) → w.heap[b]? = w0.heap[b]?
noncomputable def drJob : Job Try.prog Dx Dl where
  B := drawBody n each tl.tick
  L := ⟨fun l => X.Sh l ∨ ∃ a : Addr, l = .cell a ∧ a.block = Wg, fun l => l = .cell ⟨T, 9, none⟩, fun i l => 1 ≤ i ∧ ∃ j, j < each ∧ l = .cell ⟨A, (i - 1) * each + j, none⟩, fun i l => ∃ a : Addr, l = .cell a ∧ a.block < N0 + i ∧ a.block ≠ Wg ∧ a.block ≠ T ∧ a.block ≠ A ∧ ¬ X.Sh l⟩
  c := X.c
  Bd := N0 + n
  Wg := Wg
  ty := 76
  Shb b := b = Wg ∨ b = T ∨ b = A
  Lw i := N0 + i
  cx y w := TlAt T { tl with tick := y.tick } w ∧ ArrAt A (n * each) y.arr w
  okB _ _ := True
  sit i p g w := i = 0 ∧ p = .w1 ∧ (∃ v, v 8 = .pointer (some ⟨ba, 0, none⟩) ∧ Head link Wg ((base 17).at ⟨T44 v, []⟩ (.inRegion ops17 [0] :: .code tail17 :: [])) (b₀.at a₀ (.inRegion ops₀ (n₀ :: rest₀) :: k₀) :: cs) g) ∧ Kd T A N0 Wg w0 n w
  last y g w := (∃ v, v 8 = .pointer (some ⟨ba, 0, none⟩) ∧ g = G ((base 17).at ⟨(T44 v).setIfInBounds 40 (.tuple #[]), []⟩ (.inRegion ops17 [] :: .code tail17 :: [])) (b₀.at a₀ (.inRegion ops₀ (n₀ :: rest₀) :: k₀) :: cs)) ∧ Kd T A N0 Wg w0 n w
/-- what is so when the loop is come to -/
structure DrPre (be bt : Nat) (sl : Option Addr) (cap : Nat) : Prop where
  n1 : 1 ≤ n
  n16 : n ≤ 16
  e1 : each ≤ 1000
  t0 : 0 ≤ tl.tick
  t1 : tl.tick + (n * each : Nat) ≤ 4611686018427387904
  size : w0.heap.size = N0
  tT : T < N0
  tA : A < N0
  tW : Wg < N0
  ne : T ≠ Wg
  nA : A ≠ Wg
  nT : T ≠ A
  clean : ∀ o, ¬ X.Sh (.cell ⟨T, o, none⟩)
  cleanA : ∀ o, ¬ X.Sh (.cell ⟨A, o, none⟩)
  mem : ∀ l : Loc, l.isMemory = false → X.Sh l
  box : ∀ b, b = be ∨ b = bt ∨ b = ba → b < N0 ∧ b ≠ T ∧ b ≠ A ∧ b ≠ Wg ∧ ∀ o, ¬ X.Sh (.cell ⟨b, o, none⟩)
  ce : w0.cell? ⟨be, 0, none⟩ = some (.int .i64 (each : Int))
  ct : w0.cell? ⟨bt, 0, none⟩ = some (.pointer (some ⟨T, 0, none⟩))
  ca : w0.cell? ⟨ba, 0, none⟩ = some (.slice sl (n * each) cap)
  new : ∀ b, N0 ≤ b → ∀ o, ¬ X.Sh (.cell ⟨b, o, none⟩)
  lent : 0 < each → sl = some ⟨A, 0, none⟩
end
section
variable {X : Cx} {T A N0 n each Wg ba : Nat} {tl : Tl} {w0 : World} {b₀ : Frame} {a₀ : Act} {ops₀ : Array Oper} {n₀ : Nat} {rest₀ : List Nat} {k₀ : List Item} {cs : List Frame} {be bt : Nat} {sl : Option Addr} {cap : Nat}
theorem DrPre.N (h : DrPre X T A N0 n each Wg ba tl w0 be bt sl cap) : n * each ≤ 1099511627776 := by
  have := Nat.mul_le_mul h.n16 h.e1
  omega
theorem drDraws (h : DrPre X T A N0 n each Wg ba tl w0 be bt sl cap) : Draws (drJob X T A N0 n each Wg ba tl w0 b₀ a₀ ops₀ n₀ rest₀ k₀ cs) T A n each tl where
  B := rfl
  shb := .inr (.inl rfl)
  shbA := .inr (.inr rfl)
  wg := h.ne
  wgA := h.nA
  ta := h.nT
  bd := by show T < N0 + n; have := h.tT; omega
  bdA := by show A < N0 + n; have := h.tA; omega
  sx := rfl
  own i j h1 hj := ⟨h1, j, hj, rfl⟩
  cx _ _ := Iff.rfl
theorem drCx (h : DrPre X T A N0 n each Wg ba tl w0 be bt sl cap) {y : Dx} {w w' : World} (hc : ((drJob X T A N0 n each Wg ba tl w0 b₀ a₀ ops₀ n₀ rest₀ k₀ cs)).cx y w) (hT : w'.heap[T]? = w.heap[T]?) (hA : w'.heap[A]? = w.heap[A]?) : ((drJob X T A N0 n each Wg ba tl w0 b₀ a₀ ops₀ n₀ rest₀ k₀ cs)).cx y w' := by
  obtain ⟨h1, h2⟩ := hc
  refine ⟨?_, ?_⟩
  · unfold TlAt TalAt; rw [hT]; exact h1
  · unfold ArrAt; rw [hA]; exact h2
theorem drGrp (h : DrPre X T A N0 n each Wg ba tl w0 be bt sl cap) : Job.Grp (drJob X T A N0 n each Wg ba tl w0 b₀ a₀ ops₀ n₀ rest₀ k₀ cs) where
  shb := .inl rfl
  cx y w w' hc hb := drCx h hc (hb T h.ne) (hb A h.nA)
  n31 := by show n < 2147483647; have := h.n16; omega
  shWg a ha := .inr ⟨a, rfl, ha⟩
  wgB := by show Wg < N0 + n; have := h.tW; omega
theorem drApart (h : DrPre X T A N0 n each Wg ba tl w0 be bt sl cap) : ((drJob X T A N0 n each Wg ba tl w0 b₀ a₀ ops₀ n₀ rest₀ k₀ cs)).L.Apart where
  own k k' l hh hh' := by
    obtain ⟨h1, j, hj, rfl⟩ := hh
    obtain ⟨h1', j', hj', e⟩ := hh'
    by_cases hk : k - 1 = k' - 1
    · omega
    · have := cell_ne (each := each) hj hj' hk
      simp only [Loc.cell.injEq, Addr.mk.injEq] at e
      exact absurd e.2.1 this
  ownRd k k' l hh hr := by
    obtain ⟨h1, j, hj, rfl⟩ := hh
    obtain ⟨a, e, _, _, _, h4, _⟩ := hr
    cases e; exact h4 rfl
  ownSh k l hh hs := by
    obtain ⟨h1, j, hj, rfl⟩ := hh
    rcases hs with hs | ⟨a', e, he⟩
    · exact h.cleanA _ hs
    · cases e; exact h.nA he
  rdSh k l hh hs := by
    obtain ⟨a, rfl, _, h2, _, _, h4⟩ := hh
    rcases hs with hs | ⟨a', e, he⟩
    · exact h4 hs
    · cases e; exact h2 he
  ownSx k l hh hs := by
    obtain ⟨h1, j, hj, rfl⟩ := hh
    have hs : Loc.cell ⟨A, (k - 1) * each + j, none⟩ = .cell ⟨T, 9, none⟩ := hs
    simp only [Loc.cell.injEq, Addr.mk.injEq] at hs
    exact h.nT hs.1.symm
  rdSx k l hh hs := by
    obtain ⟨a, rfl, _, _, h3, _⟩ := hh
    have hs : Loc.cell a = .cell ⟨T, 9, none⟩ := hs
    cases hs; exact h3 rfl
  sxSh l hh hs := by
    have hh : l = .cell ⟨T, 9, none⟩ := hh
    subst hh
    rcases hs with hs | ⟨a', e, he⟩
    · exact h.clean 9 hs
    · cases e; exact h.ne he
  sxMem l hh := by
    have hh : l = .cell ⟨T, 9, none⟩ := hh
    subst hh; rfl
theorem Kd.rely {k : Nat} {w w₁ : World} (hK : Kd T A N0 Wg w0 k w) (hr : ((drJob X T A N0 n each Wg ba tl w0 b₀ a₀ ops₀ n₀ rest₀ k₀ cs)).rely 0 w w₁) : Kd T A N0 Wg w0 k w₁ := by
  unfold Job.rely at hr
  rw [if_pos rfl] at hr
  exact ⟨hK.out.trans hr.out, hr.size.trans hK.size, hr.live hK.live, fun b hb hn => (hr.low b hn).trans (hK.low b hb hn)⟩
/-- a worker's memory -/
theorem drKid (h : DrPre X T A N0 n each Wg ba tl w0 be bt sl cap) {k : Nat} (hkn : k < n) {w : World} (hK : Kd T A N0 Wg w0 (k + 1) w) (hv : w.cell? ⟨N0 + k, 0, none⟩ = some (.int .i64 (k : Int))) : DKid (drJob X T A N0 n each Wg ba tl w0 b₀ a₀ ops₀ n₀ rest₀ k₀ cs) T A (k + 1) be bt ba (N0 + k) sl cap n each k w := by
  have hst : ∀ b, b < N0 + (k + 1) → b ≠ T → b ≠ A → b ≠ Wg → (∀ o, ¬ X.Sh (.cell ⟨b, o, none⟩)) → ((drJob X T A N0 n each Wg ba tl w0 b₀ a₀ ops₀ n₀ rest₀ k₀ cs)).Still (k + 1) b ∧ b < ((drJob X T A N0 n each Wg ba tl w0 b₀ a₀ ops₀ n₀ rest₀ k₀ cs)).Bd ∧ ∀ o, ((drJob X T A N0 n each Wg ba tl w0 b₀ a₀ ops₀ n₀ rest₀ k₀ cs)).L.Rd (k + 1) (.cell ⟨b, o, none⟩) ∧ ¬ ((drJob X T A N0 n each Wg ba tl w0 b₀ a₀ ops₀ n₀ rest₀ k₀ cs)).L.Sh (.cell ⟨b, o, none⟩) := fun b hb h1 h1' h2 h3 =>
    ⟨⟨fun e => by rcases e with e | e | e <;> contradiction, fun _ => hb⟩, by show b < N0 + n; omega, fun o => ⟨⟨_, rfl, hb, h2, h1, h1', h3 o⟩, fun e => e.elim (h3 o) (fun ⟨a, e, he⟩ => by cases e; exact h2 he)⟩⟩
  have hbox : ∀ b, b = be ∨ b = bt ∨ b = ba → w.heap[b]? = w0.heap[b]? := fun b hb => by
    obtain ⟨h1, h2, h2', h3, _⟩ := h.box b hb
    exact hK.low b h1 (fun e => by rcases e with e | e | e <;> contradiction)
  refine ⟨fun b hb => ?_, (cell_heap (hbox be (by simp))).trans h.ce, (cell_heap (hbox bt (by simp))).trans h.ct, (cell_heap (hbox ba (by simp))).trans h.ca, hv, h.lent⟩
  by_cases hw : b = be ∨ b = bt ∨ b = ba
  · obtain ⟨h1, h2, h2', h3, h4⟩ := h.box b hw
    exact hst b (by omega) h2 h2' h3 h4
  · have hb : b = N0 + k := by rcases hb with e | e | e | e <;> simp_all
    have := h.tT
    have := h.tA
    have := h.tW
    exact hst b (by omega) (by omega) (by omega) (by omega) (h.new b (by omega))
/-- the waiting place leads on -/
theorem drSit (h : DrPre X T A N0 n each Wg ba tl w0 be bt sl cap) : ∀ i p g w, ((drJob X T A N0 n each Wg ba tl w0 b₀ a₀ ops₀ n₀ rest₀ k₀ cs)).sit i p g w → ((drJob X T A N0 n each Wg ba tl w0 b₀ a₀ ops₀ n₀ rest₀ k₀ cs)).C i p g w := by
  intro i p g w hs
  obtain ⟨rfl, rfl, ⟨v, h8, hH⟩, hK⟩ := hs
  refine waitRound (J := (drJob X T A N0 n each Wg ba tl w0 b₀ a₀ ops₀ n₀ rest₀ k₀ cs)) (drGrp h) wgLib rfl hK.live ?_ (fun g' hg' => W.sit fun w' hr => ⟨rfl, rfl, ⟨v, h8, hg'⟩, hK.rely hr⟩) hH
  refine W.stop rfl (fun w₁ h₁ => ⟨rfl, rfl, fun s hok hc => ?_⟩)
  exact ⟨⟨v, h8, rfl⟩, hK.rely h₁⟩
theorem pd_quit (k n : Nat) : (if k < n then (.kdS k : Pos Dl) else .kd).quit = false := by split <;> rfl
/-- a new box is the first's alone -/
theorem drEvM (h : DrPre X T A N0 n each Wg ba tl w0 be bt sl cap) {k : Nat} (hkn : k < n) : EvM ((drJob X T A N0 n each Wg ba tl w0 b₀ a₀ ops₀ n₀ rest₀ k₀ cs)).L ((drJob X T A N0 n each Wg ba tl w0 b₀ a₀ ops₀ n₀ rest₀ k₀ cs)).c ((drJob X T A N0 n each Wg ba tl w0 b₀ a₀ ops₀ n₀ rest₀ k₀ cs)).Bd k ⟨.cell ⟨N0 + k, 0, none⟩, true, false⟩ := by
  have h1 := h.tT
  have h2 := h.tW
  have h3 := h.tA
  refine ⟨fun fn pos => ⟨rfl, fun y hy => ?_⟩, by simp, by simp, by simp, by show N0 + k < N0 + n; omega⟩
  simp only [MemAct.ofEvent, MemAct.touch?, Option.some.injEq] at hy
  subst hy
  refine .inr ⟨fun e => ?_, fun e => ?_, fun m _ _ e => ?_, fun _ m m1 m2 e => ?_⟩
  · rcases e with e | ⟨a, e, he⟩
    · exact h.new _ (by omega) _ e
    · cases e; simp at he; omega
  · have e : Loc.cell ⟨N0 + k, 0, none⟩ = .cell ⟨T, 9, none⟩ := e
    cases e
  · obtain ⟨_, _, _, _, j, _, hh⟩ := e
    simp only [Loc.cell.injEq, Addr.mk.injEq] at hh
    omega
  · obtain ⟨i, i1, e1, a, e, hb, _⟩ := e
    cases e
    have hb : N0 + k < N0 + i := hb
    omega
theorem Kd.more {k : Nat} {w : World} (hK : Kd T A N0 Wg w0 k w) (hW : Wg < N0) (v : Int) : Kd T A N0 Wg w0 (k + 1) ((w.alloc (.cells #[.int .i64 0] 3)).setCell ⟨N0 + k, 0, none⟩ (.int .i64 v)) := by
  have hs := hK.size
  have e : ∀ b, b < N0 → ((w.alloc (.cells #[.int .i64 0] 3)).setCell ⟨N0 + k, 0, none⟩ (.int .i64 v)).heap[b]? = w.heap[b]? := fun b hb => by
    rw [Below.heap_setCell _ _ _ _ (by show b ≠ N0 + k; omega), Below.heap_alloc _ _ _ (by omega)]
  refine ⟨⟨hK.out.tape, hK.out.os, hK.out.output⟩, by simp only [World.setCell, Array.size_modify, World.size_alloc]; omega, ?_, fun b hb hn => (e b hb).trans (hK.low b hb hn)⟩
  obtain ⟨s1, s2, hl⟩ := hK.live
  exact ⟨s1, s2, hl.of_block (e Wg hW)⟩
set_option maxRecDepth 100000 in
set_option maxHeartbeats 8000000 in
theorem drStarts (h : DrPre X T A N0 n each Wg ba tl w0 be bt sl cap) : ∀ (m k : Nat), k + m = n → ∀ (w : World), Kd T A N0 Wg w0 k w → ∀ (y0 y1 y2 y4 y6 y7 y10 y11 y12 y13 y14 y15 y16 y17 y18 y19 y20 y21 y22 y23 y24 y25 y26 y27 y28 y29 y30 y31 y32 y35 y36 y37 y38 y39 y40 y41 y42 y43 : Value), ((drJob X T A N0 n each Wg ba tl w0 b₀ a₀ ops₀ n₀ rest₀ k₀ cs)).C 0 (if k < n then .kdS k else .kd) (G ((base 17).at ⟨#[y0, y1, y2, .pointer (some ⟨bt, 0, none⟩), y4, .pointer (some ⟨be, 0, none⟩), y6, y7, .pointer (some ⟨ba, 0, none⟩), .pointer (some ⟨Wg, 0, none⟩), y10, y11, y12, y13, y14, y15, y16, y17, y18, y19, y20, y21, y22, y23, y24, y25, y26, y27, y28, y29, y30, y31, y32, .int .i64 (n : Int), .int .i64 (k : Int), y35, y36, y37, y38, y39, y40, y41, y42, y43], []⟩ [.code loop17, .inLoop loop17, .inBlock 0, .code rest17]) (b₀.at a₀ (.inRegion ops₀ (n₀ :: rest₀) :: k₀) :: cs)) w := by
  intro m
  induction m with
  | zero =>
    intro k hkm w hK y0 y1 y2 y4 y6 y7 y10 y11 y12 y13 y14 y15 y16 y17 y18 y19 y20 y21 y22 y23 y24 y25 y26 y27 y28 y29 y30 y31 y32 y35 y36 y37 y38 y39 y40 y41 y42 y43
    obtain rfl : n = k := by omega
    rw [if_neg (by omega)]
    have q0 : (Pos.kd : Pos Dl).quit = false := rfl
    have hlt : decide ((n : Int) < (n : Int)) = false := decide_eq_false (by omega)
    have hlt' : decide (n < n) = false := decide_eq_false (by omega)
    obtain ⟨v, hv, h8⟩ := T44_ex (y0) (y1) (y2) (.pointer (some ⟨bt, 0, none⟩)) (y4) (.pointer (some ⟨be, 0, none⟩)) (y6) (y7) (.pointer (some ⟨ba, 0, none⟩)) (.pointer (some ⟨Wg, 0, none⟩)) (y10) (y11) (y12) (y13) (y14) (y15) (y16) (y17) (y18) (y19) (y20) (y21) (y22) (y23) (y24) (y25) (y26) (y27) (y28) (y29) (y30) (y31) (y32) (.int .i64 (n : Int)) (.int .i64 (n : Int)) (.bool false) (y36) (y37) (y38) (y39) (y40) (y41) (y42) (y43)
    have hWs := waitStart (J := (drJob X T A N0 n each Wg ba tl w0 b₀ a₀ ops₀ n₀ rest₀ k₀ cs)) (w := w) (b₀ := base 17) (a₀ := ⟨T44 v, []⟩) (ops₀ := ops17) (i₀ := 0) (rest₀ := []) (k₀ := [.code tail17]) (cs := (b₀.at a₀ (.inRegion ops₀ (n₀ :: rest₀) :: k₀) :: cs)) wgLib (fun g' hg' => W.sit fun w' hr => ⟨rfl, rfl, ⟨v, h8, hg'⟩, hK.rely hr⟩)
    rw [hv] at hWs
    simp only [ops17, tail17, rest17, loop17, Try.f17, body_wait, waitFn, Option.getD_some] at hWs ⊢
    repeat first
      | refine C.seq q0 ?_
      | refine C.skip q0 ?_
      | refine C.regionEnd q0 ?_
      | refine C.block q0 ?_
      | refine C.inBlock q0 ?_
      | refine C.exit q0 rfl ?_
      | (refine C.region q0 ?_; simp only [List.size_toArray, List.length_cons, List.length_nil, Nat.reduceAdd, Nat.zero_add, List.range, List.range.loop])
      | (refine C.cond q0 rfl ?_; simp only [if_true, if_false, Bool.false_eq_true, ↓reduceIte])
      | (refine C.unwanted q0 rfl rfl ?_; walk_nrm)
      | (refine C.opk q0 rfl rfl (by k_ne) (fun w₁ h₁ K hK => by go_simp; exact hK) (fun w₁ h₁ => by first | (simp [go_sem, *] <;> fail) | fail) ?_; try w_num)
    refine C.call q0 rfl rfl (by k_ne) rfl Try.func31 nm31 rfl ?_
    walk_nrmf Try.f31
    exact C.of_W (drSit h) hWs
  | succ m ih =>
    intro k hkm w hK y0 y1 y2 y4 y6 y7 y10 y11 y12 y13 y14 y15 y16 y17 y18 y19 y20 y21 y22 y23 y24 y25 y26 y27 y28 y29 y30 y31 y32 y35 y36 y37 y38 y39 y40 y41 y42 y43
    have hkn : k < n := by omega
    rw [if_pos hkn]
    have q0 : (Pos.kdS k : Pos Dl).quit = false := rfl
    have q1 : (Pos.goS k : Pos Dl).quit = false := rfl
    have q2 := pd_quit (k + 1) n
    have hlt : decide ((k : Int) < (n : Int)) = true := decide_eq_true (by omega)
    have hlt' : decide (k < n) = true := decide_eq_true hkn
    have hI := ih (k + 1) (by omega)
    have n16 := h.n16
    have hwr : (k : Int) + 1 ≤ 9223372036854775807 := by omega
    have tT := h.tT
    have tA := h.tA
    have tW := h.tW
    simp only [loop17, rest17, Try.f17, Option.getD_some] at hI ⊢
    repeat first
      | refine C.seq q0 ?_
      | refine C.skip q0 ?_
      | refine C.regionEnd q0 ?_
      | refine C.block q0 ?_
      | refine C.inBlock q0 ?_
      | refine C.exit q0 rfl ?_
      | (refine C.region q0 ?_; simp only [List.size_toArray, List.length_cons, List.length_nil, Nat.reduceAdd, Nat.zero_add, List.range, List.range.loop])
      | (refine C.cond q0 rfl ?_; simp only [if_true, if_false, Bool.false_eq_true, ↓reduceIte])
      | (refine C.unwanted q0 rfl rfl ?_; walk_nrm)
      | (refine C.opk q0 rfl rfl (by k_ne) (fun w₁ h₁ K hK => by go_simp; exact hK) (fun w₁ h₁ => by first | (simp [go_sem, *] <;> fail) | fail) ?_; try w_num)
    have hsz : ∀ w₁, ((drJob X T A N0 n each Wg ba tl w0 b₀ a₀ ops₀ n₀ rest₀ k₀ cs)).rely 0 w w₁ → w₁.heap.size = N0 + k := fun w₁ h₁ => (hK.rely h₁).size
    refine C.opt (fun w => w.alloc (.cells #[.int .i64 0] 3)) (a' := ⟨#[y0, y1, y2, .pointer (some ⟨bt, 0, none⟩), y4, .pointer (some ⟨be, 0, none⟩), y6, y7, .pointer (some ⟨ba, 0, none⟩), .pointer (some ⟨Wg, 0, none⟩), .pointer (some ⟨N0 + k, 0, none⟩), y11, y12, y13, y14, y15, y16, y17, y18, y19, y20, y21, y22, y23, y24, y25, y26, y27, y28, y29, y30, y31, y32, .int .i64 (n : Int), .int .i64 (k : Int), .bool true, .int .i64 (k : Int), y37, y38, y39, y40, y41, y42, y43], []⟩) q0 rfl rfl (by k_ne) (fun w₁ h₁ K hK => by
        have sz := hsz w₁ h₁
        go_simp
        exact hK) (fun w₁ h₁ => ⟨⟨rfl, rfl, rfl⟩, by show w₁.heap.size ≤ (w₁.alloc _).heap.size; rw [World.size_alloc]; exact Nat.le_succ _, fun b hb => Below.heap_alloc w₁ _ b (by have := hsz w₁ h₁; have hb : b < N0 + k := hb; omega)⟩)
      (fun w₁ h₁ e he => by simp [go_sem] at he) (fun w₁ h₁ => Suffer0.alloc h₁ _ (by rw [hK.size]; show Wg < N0 + k; omega)) ?_
    have hcb : (w.alloc (.cells #[.int .i64 0] 3)).heap[N0 + k]? = some (.cells #[.int .i64 0] 3) := by
      rw [← hK.size]
      unfold World.alloc
      simp
    have hcl : (w.alloc (.cells #[.int .i64 0] 3)).cell? ⟨N0 + k, 0, none⟩ = some (.int .i64 0) := by
      unfold World.cell?
      simp [hcb]
    have hcl₁ : ∀ w₁, ((drJob X T A N0 n each Wg ba tl w0 b₀ a₀ ops₀ n₀ rest₀ k₀ cs)).rely 0 (w.alloc (.cells #[.int .i64 0] 3)) w₁ → w₁.cell? ⟨N0 + k, 0, none⟩ = some (.int .i64 0) ∧ w₁.frozen? ⟨N0 + k, 0, none⟩ = false := fun w₁ h₁ => by
      have hb := (Suffer0.low h₁ (N0 + k) (fun e => by rcases e with e | e | e <;> omega)).trans hcb
      exact ⟨by unfold World.cell?; simp [hb], by unfold World.frozen?; simp [hb]⟩
    refine C.opt (fun w => w.setCell ⟨N0 + k, 0, none⟩ (.int .i64 (k : Int))) q0 rfl rfl (by k_ne) (fun w₁ h₁ K hK => by
        obtain ⟨f1, f2⟩ := hcl₁ w₁ h₁
        go_simp
        exact hK) (fun w₁ h₁ => ⟨⟨rfl, rfl, rfl⟩, by simp only [World.setCell, Array.size_modify]; omega, fun b hb => Below.heap_setCell _ _ _ _ (by have hb : b < N0 + k := hb; show b ≠ N0 + k; omega)⟩)
      (fun w₁ h₁ e he => by
        obtain ⟨f1, f2⟩ := hcl₁ w₁ h₁
        simp [go_sem, *] at he
        subst he
        exact drEvM h hkn) (fun w₁ h₁ => Suffer0.set h₁ _ _ (by show Wg ≠ N0 + k; omega)) ?_
    have hK1 := hK.more tW (k : Int)
    have hcv : ((w.alloc (.cells #[.int .i64 0] 3)).setCell ⟨N0 + k, 0, none⟩ (.int .i64 (k : Int))).cell? ⟨N0 + k, 0, none⟩ = some (.int .i64 (k : Int)) := World.cell?_setCell_same _ _ _ hcl
    generalize (w.alloc (.cells #[.int .i64 0] 3)).setCell ⟨N0 + k, 0, none⟩ (.int .i64 (k : Int)) = w2 at hK1 hcv ⊢
    have hI := hI w2 hK1
    try walk_nrm
    repeat first
      | refine C.seq q0 ?_
      | refine C.skip q0 ?_
      | refine C.regionEnd q0 ?_
      | refine C.block q0 ?_
      | refine C.inBlock q0 ?_
      | refine C.exit q0 rfl ?_
      | (refine C.region q0 ?_; simp only [List.size_toArray, List.length_cons, List.length_nil, Nat.reduceAdd, Nat.zero_add, List.range, List.range.loop])
      | (refine C.cond q0 rfl ?_; simp only [if_true, if_false, Bool.false_eq_true, ↓reduceIte])
      | (refine C.unwanted q0 rfl rfl ?_; walk_nrm)
      | (refine C.opk q0 rfl rfl (by k_ne) (fun w₁ h₁ K hK => by go_simp; exact hK) (fun w₁ h₁ => by first | (simp [go_sem, *] <;> fail) | fail) ?_; try w_num)
    refine C.call q0 rfl rfl (by k_ne) rfl Try.func28 nm28 rfl ?_
    walk_nrmf Try.f28
    refine C.of_W (drSit h) ?_
    have hA := fun (b₁ : Frame) (a₁ : Act) (o₁ : Array Oper) (i₁ : Nat) (r₁ : List Nat) (k₁ : List Item) (cs₁ : List Frame) => addPos (J := (drJob X T A N0 n each Wg ba tl w0 b₀ a₀ ops₀ n₀ rest₀ k₀ cs)) (b₀ := b₁) (a₀ := a₁) (ops₀ := o₁) (i₀ := i₁) (rest₀ := r₁) (k₀ := k₁) (cs := cs₁) (w := w2) (k := k) (drGrp h) wgLib rfl hK1.live
    simp only [body_add, addFn, Option.getD_some] at hA
    refine hA _ _ _ _ _ _ _ ?_
    walk_nrm
    refine .inl ?_
    repeat first
      | refine C.seq q1 ?_
      | refine C.skip q1 ?_
      | refine C.regionEnd q1 ?_
      | refine C.block q1 ?_
      | refine C.inBlock q1 ?_
      | refine C.exit q1 rfl ?_
      | (refine C.region q1 ?_; simp only [List.size_toArray, List.length_cons, List.length_nil, Nat.reduceAdd, Nat.zero_add, List.range, List.range.loop])
      | (refine C.cond q1 rfl ?_; simp only [if_true, if_false, Bool.false_eq_true, ↓reduceIte])
      | (refine C.unwanted q1 rfl rfl ?_; walk_nrm)
      | (refine C.opk q1 rfl rfl (by k_ne) (fun w₁ h₁ K hK => by go_simp; exact hK) (fun w₁ h₁ => by first | (simp [go_sem, *] <;> fail) | fail) ?_; try w_num)
    refine C.spawn (m := k) (f := .func 35) (c := #[.pointer (some ⟨Wg, 0, none⟩), .pointer (some ⟨be, 0, none⟩), .pointer (some ⟨bt, 0, none⟩), .pointer (some ⟨ba, 0, none⟩), .pointer (some ⟨N0 + k, 0, none⟩)]) (d := call35 Wg be bt ba (N0 + k)) rfl rfl (by k_ne) (fun w₁ => ?_) rfl (fun w₁ => ?_) ?_ ?_
    · go_simp
      rfl
    · simp [go_sem, *]
    · show ((drJob X T A N0 n each Wg ba tl w0 b₀ a₀ ops₀ n₀ rest₀ k₀ cs)).C 0 (if k + 1 < n then .kdS (k + 1) else .kd) _ _
      walk_nrm
      repeat first
        | refine C.seq q2 ?_
        | refine C.skip q2 ?_
        | refine C.regionEnd q2 ?_
        | refine C.block q2 ?_
        | refine C.inBlock q2 ?_
        | refine C.exit q2 rfl ?_
        | (refine C.region q2 ?_; simp only [List.size_toArray, List.length_cons, List.length_nil, Nat.reduceAdd, Nat.zero_add, List.range, List.range.loop])
        | (refine C.cond q2 rfl ?_; simp only [if_true, if_false, Bool.false_eq_true, ↓reduceIte])
        | (refine C.unwanted q2 rfl rfl ?_; walk_nrm)
        | (refine C.opk q2 rfl rfl (by k_ne) (fun w₁ h₁ K hK => by go_simp; exact hK) (fun w₁ h₁ => by first | (simp [go_sem, *] <;> fail) | fail) ?_; try w_num)
      have ew : IntKind.i64.wrap ((k : Int) + 1) = ((k + 1 : Nat) : Int) := by
        rw [IntKind.wrap_i64]
        omega
      rw [ew]
      refine C.inLoop q2 ?_
      exact hI _ _ _ _ _ _ _ _ _ _ _ _ _ _ _ _ _ _ _ _ _ _ _ _ _ _ _ _ _ _ _ _ _ _ _ _ _ _
    · have F := drDraws (b₀ := b₀) (a₀ := a₀) (ops₀ := ops₀) (n₀ := n₀) (rest₀ := rest₀) (k₀ := k₀) (cs := cs) h
      have G := drGrp (b₀ := b₀) (a₀ := a₀) (ops₀ := ops₀) (n₀ := n₀) (rest₀ := rest₀) (k₀ := k₀) (cs := cs) h
      have KK := drKid (b₀ := b₀) (a₀ := a₀) (ops₀ := ops₀) (n₀ := n₀) (rest₀ := rest₀) (k₀ := k₀) (cs := cs) h hkn hK1 hcv
      exact kidBorn35 F G rfl hK1.live (i := k + 1) rfl (by omega) (fun p g w' hs => by obtain ⟨e, _⟩ := hs; omega) KK rfl hkn h.N h.e1
/-- the job fits -/
theorem drFit (h : DrPre X T A N0 n each Wg ba tl w0 be bt sl cap) : Job.Fit (((drJob X T A N0 n each Wg ba tl w0 b₀ a₀ ops₀ n₀ rest₀ k₀ cs)).put ((drJob X T A N0 n each Wg ba tl w0 b₀ a₀ ops₀ n₀ rest₀ k₀ cs)).C) where
  fine := drawFine h.n1 h.t0 h.t1
  apart := drApart (b₀ := b₀) (a₀ := a₀) (ops₀ := ops₀) (n₀ := n₀) (rest₀ := rest₀) (k₀ := k₀) (cs := cs) h
  shWg a ha := .inr ⟨a, rfl, ha⟩
  wgB := by show Wg < N0 + n; have := h.tW; omega
  shb := .inl rfl
  mono i k hik := by show N0 + i ≤ N0 + k; omega
  low b hb := by
    show b < N0 + 0
    have := h.tW
    have := h.tT
    have := h.tA
    rcases hb with e | e | e <;> omega
  cx y w w' hc hb := drCx (b₀ := b₀) (a₀ := a₀) (ops₀ := ops₀) (n₀ := n₀) (rest₀ := rest₀) (k₀ := k₀) (cs := cs) h hc (hb T (.inr (.inl rfl))) (hb A (.inr (.inr rfl)))
  okB y f i l hJ hi := trivial
  sit := (closed_sit (J := (drJob X T A N0 n each Wg ba tl w0 b₀ a₀ ops₀ n₀ rest₀ k₀ cs)) (drSit h)).1
  sitQ := (closed_sit (J := (drJob X T A N0 n each Wg ba tl w0 b₀ a₀ ops₀ n₀ rest₀ k₀ cs)) (drSit h)).2
end
end Go.Proofs.Ytboiolnnhmlieaa.Gang
