
/-
  Spread's starter: it lays a number aside, adds one, starts a worker, round by round, and waits for all.
  Conditions: stated lemma by lemma.
-/
import Derived.Test.YtboiolnnhmlieaaGb11
import Derived.Test.YtboiolnnhmlieaaGa12
import Derived.Test.YtboiolnnhmlieaaGa14
import Derived.Test.YtboiolnnhmlieaaGc6
namespace Go.Proofs.Ytboiolnnhmlieaa.Gang
open Go.Conc Go.ConcN Go.RowKit Go.Conc.Lib Go.ConcR.Gen Go.ConcN.Gen
open Go.ConcR (wgBlock WgAt stA smA rd wr KK)
set_option linter.unusedVariables false
set_option linter.unusedSimpArgs false

section
variable {X' Lam : Type} {P : Program} {J : Job P X' Lam} {p : Pos Lam} {b : Frame} {a : Act} {k : List Item} {cs : List Frame} {w : World}
/-- an operation of the first's that turns the world -/
theorem C.opt (f : World → World) {ops : Array Oper} {n : Nat} {rest : List Nat} {o : Oper} {a' : Act} (hq : p.quit = false) (ho : ops[n]? = some o) (hw : Region.wanted o (yielded ops a.tmps) = true) (hk : b.kind ≠ .early)
    (h : ∀ w₁, J.rely 0 w w₁ → ∀ K : Act → World → Prop, K a' (f w₁) → uponK o a K ((execOp a.eval o).run P w₁)) (hd : ∀ w₁, J.rely 0 w w₁ → J.D0 (p.num J.B.n) w₁ (f w₁))
    (he : ∀ w₁, J.rely 0 w w₁ → ∀ e ∈ (execOp a.eval o).events P w₁ #[], EvM J.L J.c J.Bd (p.num J.B.n) e) (hf : ∀ w₁, J.rely 0 w w₁ → J.rely 0 (f w) (f w₁)) (hW : J.C 0 p (G (b.at a' (.inRegion ops rest :: k)) cs) (f w)) :
    J.C 0 p (G (b.at a (.inRegion ops (n :: rest) :: k)) cs) w :=
  C.of_turn f rfl (fun w₁ h₁ => goes_oper_k ho hw hk (fun K hK => h w₁ h₁ K (hK _ _ ⟨rfl, rfl, by
    unfold Job.step
    rw [if_pos rfl]
    exact ⟨hd w₁ h₁, fun e hm => he w₁ h₁ e (mem_listed hm)⟩⟩))) hf hq hW
theorem rely0_any {i : Nat} {w w₁ : World} (h : J.rely 0 w w₁) : J.rely i w w₁ := by
  unfold Job.rely at h
  rw [if_pos rfl] at h
  exact Turn.rely h
/-- the go statement -/
theorem C.spawn {ops : Array Oper} {n m : Nat} {rest : List Nat} {o : Oper} {d : Deferred} {f : Fn} {c : Array Value} (ho : ops[n]? = some o) (hw : Region.wanted o (yielded ops a.tmps) = true) (hk : b.kind ≠ .early)
    (hr : ∀ w₁, (execOp a.eval o).run P w₁ = .ok (.spawn d) w₁) (hd : d.target = .fn f c) (he : ∀ w₁, (execOp a.eval o).events P w₁ #[] = #[])
    (hP : J.C 0 (if m + 1 < J.B.n then .kdS (m + 1) else .kd) (G (b.at (a.put o.dst undef) (.inRegion ops rest :: k)) cs) w) (hC : J.W (m + 1) (J.B.enter (J.B.ini (m + 1))) (born P d) w) :
    J.C 0 (.goS m) (G (b.at a (.inRegion ops (n :: rest) :: k)) cs) w := by
  refine C.stop rfl (fun w₁ h₁ => ⟨rfl, rfl, fun s hok hc => ?_⟩)
  refine ⟨_, _, w₁, ?_, hc, fun k _ => Turn.rely (Turn.refl w₁), W.rely (.inl hP) h₁, rfl, W.rely hC (rely0_any h₁)⟩
  have := stepG_spawn (main := true) (k := k) (cs := cs) (rest := rest) ho hw hk (hr w₁) hd
  rw [listed_nil (he w₁)] at this
  exact this
end

section
variable (X : Cx) (T N0 n Wg : Nat) (r : List Value) (st : List (Nat × Int)) (x : Tal) (w0 : World) (b₀ : Frame) (a₀ : Act) (ops₀ : Array Oper) (n₀ : Nat) (rest₀ : List Nat) (k₀ : List Item) (cs : List Frame)
noncomputable def loop12 : Code := match Try.f12.body.getD .skip with | .seq _ (.seq _ (.seq _ (.seq _ (.seq (.seq _ (.block _ (.loop c))) _)))) => c | _ => .skip
noncomputable def rest12 : Code := match Try.f12.body.getD .skip with | .seq _ (.seq _ (.seq _ (.seq _ (.seq (.seq _ _) c)))) => c | _ => .skip
noncomputable def ops11 : Array Oper := match rest12 with | .seq (.region _ o _) _ => o | _ => #[]
noncomputable def tail12 : Code := match rest12 with | .seq _ c => c | _ => .skip
def T33 (v : Nat → Value) : Array Value := #[v 0, v 1, v 2, v 3, v 4, v 5, v 6, v 7, v 8, v 9, v 10, v 11, v 12, v 13, v 14, v 15, v 16, v 17, v 18, v 19, v 20, v 21, v 22, v 23, v 24, v 25, v 26, v 27, v 28, v 29, v 30, v 31, v 32]
theorem T33_ex (a0 a1 a2 a3 a4 a5 a6 a7 a8 a9 a10 a11 a12 a13 a14 a15 a16 a17 a18 a19 a20 a21 a22 a23 a24 a25 a26 a27 a28 a29 a30 a31 a32 : Value) : ∃ v, T33 v = #[a0, a1, a2, a3, a4, a5, a6, a7, a8, a9, a10, a11, a12, a13, a14, a15, a16, a17, a18, a19, a20, a21, a22, a23, a24, a25, a26, a27, a28, a29, a30, a31, a32] := ⟨fun i => [a0, a1, a2, a3, a4, a5, a6, a7, a8, a9, a10, a11, a12, a13, a14, a15, a16, a17, a18, a19, a20, a21, a22, a23, a24, a25, a26, a27, a28, a29, a30, a31, a32].getD i undef, rfl⟩
/-- what stands as it did while k are started -/
structure Kp (k : Nat) (w : World) : Prop where
  out : SameOut w0 w
  size : w.heap.size = N0 + k
  live : liveAt 76 Wg w
  low : ∀ b, b < N0 → ¬ (b = Wg ∨ b = T) → w.heap[b]? = w0.heap[b]?
noncomputable def spJ : Job Try.prog Tal Lad where
  B := spBody n st x
  L := ⟨fun l => X.Sh l ∨ ∃ a : Addr, l = .cell a ∧ a.block = Wg, fun l => ∃ o, o < 9 ∧ l = .cell ⟨T, o, none⟩, fun _ _ => False, fun i l => ∃ a : Addr, l = .cell a ∧ a.block < N0 + i ∧ a.block ≠ Wg ∧ a.block ≠ T ∧ ¬ X.Sh l⟩
  c := X.c
  Bd := N0 + n
  Wg := Wg
  ty := 76
  Shb b := b = Wg ∨ b = T
  Lw i := N0 + i
  cx y w := TalAt 67 T r y w
  okB l y := l.good (spK st x) (spTop st x) y ∧ y.most ≤ spTop st x
  sit i p g w := i = 0 ∧ p = .w1 ∧ (∃ v, Head link Wg ((base 12).at ⟨T33 v, []⟩ (.inRegion ops11 [0] :: .code tail12 :: [])) (b₀.at a₀ (.inRegion ops₀ (n₀ :: rest₀) :: k₀) :: cs) g) ∧ Kp T N0 Wg w0 n w
  last y g w := (∃ v, g = G ((base 12).at ⟨(T33 v).setIfInBounds 32 (.tuple #[]), []⟩ (.inRegion ops11 [] :: .code tail12 :: [])) (b₀.at a₀ (.inRegion ops₀ (n₀ :: rest₀) :: k₀) :: cs)) ∧ Kp T N0 Wg w0 n w
/-- what is so when the loop is come to -/
structure SpPre (bt bs bn : Nat) (sl : Option Addr) (cap : Nat) : Prop where
  n1 : 1 ≤ n
  n16 : n ≤ 16
  len : st.length ≤ 1152921504606846976
  h8 : ∀ s ∈ st, s.1 < 8
  size : w0.heap.size = N0
  tT : T < N0
  tW : Wg < N0
  ne : T ≠ Wg
  clean : ∀ o, ¬ X.Sh (.cell ⟨T, o, none⟩)
  mem : ∀ l : Loc, l.isMemory = false → X.Sh l
  box : ∀ b, b = bt ∨ b = bs ∨ b = bn → b < N0 ∧ b ≠ T ∧ b ≠ Wg ∧ ∀ o, ¬ X.Sh (.cell ⟨b, o, none⟩)
  ct : w0.cell? ⟨bt, 0, none⟩ = some (.pointer (some ⟨T, 0, none⟩))
  csl : w0.cell? ⟨bs, 0, none⟩ = some (.slice sl st.length cap)
  cn : w0.cell? ⟨bn, 0, none⟩ = some (.int .i64 (n : Int))
  new : ∀ b, N0 ≤ b → ∀ o, ¬ X.Sh (.cell ⟨b, o, none⟩)
  lent : st ≠ [] → ∃ ar off, sl = some ⟨ar, off, none⟩ ∧ ar < N0 ∧ ar ≠ T ∧ ar ≠ Wg ∧ (∀ o, ¬ X.Sh (.cell ⟨ar, o, none⟩)) ∧ ∀ j (h : j < st.length), w0.cell? ⟨ar, off + j * 2, none⟩ = some (.int .i64 ((st[j]).1 : Int)) ∧ w0.cell? ⟨ar, off + j * 2 + 1, none⟩ = some (.int .i64 (st[j]).2)
end
section
variable {X : Cx} {T N0 n Wg : Nat} {r : List Value} {st : List (Nat × Int)} {x : Tal} {w0 : World} {b₀ : Frame} {a₀ : Act} {ops₀ : Array Oper} {n₀ : Nat} {rest₀ : List Nat} {k₀ : List Item} {cs : List Frame} {bt bs bn : Nat} {sl : Option Addr} {cap : Nat}
theorem nm31 : (Try.f31.name == "runtime.NumGoroutine") = false := by kernel_rfl
theorem nm28 : (Try.f28.name == "runtime.NumGoroutine") = false := by kernel_rfl
theorem spAdds (h : SpPre X T N0 n Wg st w0 bt bs bn sl cap) : Adds (spJ X T N0 n Wg r st x w0 b₀ a₀ ops₀ n₀ rest₀ k₀ cs) T 67 r (spK st x) n (spTop st x) (spJob n st) (spGoal st x) where
  B := rfl
  shb := .inr rfl
  wg := h.ne
  bd := by show T < N0 + n; have := h.tT; omega
  sh o ho := ⟨o, ho, rfl⟩
  cx _ _ := Iff.rfl
  okB _ _ hh := hh
theorem spGrp (h : SpPre X T N0 n Wg st w0 bt bs bn sl cap) : Job.Grp (spJ X T N0 n Wg r st x w0 b₀ a₀ ops₀ n₀ rest₀ k₀ cs) where
  shb := .inl rfl
  cx y w w' hc hb := by
    show TalAt 67 T r y w'
    unfold TalAt
    rw [hb T h.ne]; exact hc
  n31 := by show n < 2147483647; have := h.n16; omega
  shWg a ha := .inr ⟨a, rfl, ha⟩
  wgB := by show Wg < N0 + n; have := h.tW; omega
theorem spApart (h : SpPre X T N0 n Wg st w0 bt bs bn sl cap) : (spJ X T N0 n Wg r st x w0 b₀ a₀ ops₀ n₀ rest₀ k₀ cs).L.Apart where
  own _ _ _ hh := hh.elim
  ownRd _ _ _ hh := hh.elim
  ownSh _ _ hh := hh.elim
  rdSh k l hh hs := by
    obtain ⟨a, rfl, _, h2, _, h4⟩ := hh
    rcases hs with hs | ⟨a', e, he⟩
    · exact h4 hs
    · cases e; exact h2 he
  ownSx _ _ hh := hh.elim
  rdSx k l hh hs := by
    obtain ⟨a, rfl, _, _, h3, _⟩ := hh
    obtain ⟨o, _, e⟩ := hs
    cases e; exact h3 rfl
  sxSh l hh hs := by
    obtain ⟨o, _, rfl⟩ := hh
    rcases hs with hs | ⟨a', e, he⟩
    · exact h.clean o hs
    · cases e; exact h.ne he
  sxMem l hh := by obtain ⟨o, _, rfl⟩ := hh; rfl
theorem Kp.rely {k : Nat} {w w₁ : World} (hK : Kp T N0 Wg w0 k w) (hr : (spJ X T N0 n Wg r st x w0 b₀ a₀ ops₀ n₀ rest₀ k₀ cs).rely 0 w w₁) : Kp T N0 Wg w0 k w₁ := by
  unfold Job.rely at hr
  rw [if_pos rfl] at hr
  exact ⟨hK.out.trans hr.out, hr.size.trans hK.size, hr.live hK.live, fun b hb hn => (hr.low b hn).trans (hK.low b hb hn)⟩
/-- a worker's memory -/
theorem spKid (h : SpPre X T N0 n Wg st w0 bt bs bn sl cap) {k : Nat} (hkn : k < n) {w : World} (hK : Kp T N0 Wg w0 (k + 1) w) (hv : w.cell? ⟨N0 + k, 0, none⟩ = some (.int .i64 (k : Int))) : Kid (spJ X T N0 n Wg r st x w0 b₀ a₀ ops₀ n₀ rest₀ k₀ cs) T (k + 1) bt bs bn (N0 + k) sl cap n k st w := by
  have hst : ∀ b, b < N0 + (k + 1) → b ≠ T → b ≠ Wg → (∀ o, ¬ X.Sh (.cell ⟨b, o, none⟩)) → ((spJ X T N0 n Wg r st x w0 b₀ a₀ ops₀ n₀ rest₀ k₀ cs)).Still (k + 1) b ∧ b < ((spJ X T N0 n Wg r st x w0 b₀ a₀ ops₀ n₀ rest₀ k₀ cs)).Bd ∧ ∀ o, ((spJ X T N0 n Wg r st x w0 b₀ a₀ ops₀ n₀ rest₀ k₀ cs)).L.Rd (k + 1) (.cell ⟨b, o, none⟩) ∧ ¬ ((spJ X T N0 n Wg r st x w0 b₀ a₀ ops₀ n₀ rest₀ k₀ cs)).L.Sh (.cell ⟨b, o, none⟩) := fun b hb h1 h2 h3 =>
    ⟨⟨fun e => e.elim h2 h1, fun _ => hb⟩, by show b < N0 + n; omega, fun o => ⟨⟨_, rfl, hb, h2, h1, h3 o⟩, fun e => e.elim (h3 o) (fun ⟨a, e, he⟩ => by cases e; exact h2 he)⟩⟩
  have hbox : ∀ b, b = bt ∨ b = bs ∨ b = bn → w.heap[b]? = w0.heap[b]? := fun b hb => by
    obtain ⟨h1, h2, h3, _⟩ := h.box b hb
    exact hK.low b h1 (fun e => e.elim h3 h2)
  refine ⟨fun b hb => ?_, (cell_heap (hbox bs (by simp))).trans h.csl, (cell_heap (hbox bn (by simp))).trans h.cn, hv, fun hne => ?_⟩
  · by_cases hw : b = bt ∨ b = bs ∨ b = bn
    · obtain ⟨h1, h2, h3, h4⟩ := h.box b hw
      exact hst b (by omega) h2 h3 h4
    · have hb : b = N0 + k := by rcases hb with e | e | e | e <;> simp_all
      have := h.tT
      have := h.tW
      exact hst b (by omega) (by omega) (by omega) (h.new b (by omega))
  · obtain ⟨ar, off, e, h1, h2, h3, h4, h5⟩ := h.lent hne
    have har : w.heap[ar]? = w0.heap[ar]? := hK.low ar h1 (fun e => e.elim h3 h2)
    refine ⟨ar, off, e, ⟨fun b hb => ?_, (cell_heap (hbox bt (by simp))).trans h.ct, by rw [← e]; exact (cell_heap (hbox bs (by simp))).trans h.csl, (cell_heap (hbox bn (by simp))).trans h.cn, fun j hj => ⟨(cell_heap har).trans (h5 j hj).1, (cell_heap har).trans (h5 j hj).2⟩⟩⟩
    by_cases hw : b = bt ∨ b = bs ∨ b = bn
    · obtain ⟨h1, h2, h3, h4⟩ := h.box b hw
      exact hst b (by omega) h2 h3 h4
    · have hb : b = ar := by rcases hb with e | e | e | e <;> simp_all
      subst hb
      exact hst b (by omega) h2 h3 h4
/-- the waiting place leads on -/
theorem spSit (h : SpPre X T N0 n Wg st w0 bt bs bn sl cap) : ∀ i p g w, ((spJ X T N0 n Wg r st x w0 b₀ a₀ ops₀ n₀ rest₀ k₀ cs)).sit i p g w → ((spJ X T N0 n Wg r st x w0 b₀ a₀ ops₀ n₀ rest₀ k₀ cs)).C i p g w := by
  intro i p g w hs
  obtain ⟨rfl, rfl, ⟨v, hH⟩, hK⟩ := hs
  refine waitRound (J := (spJ X T N0 n Wg r st x w0 b₀ a₀ ops₀ n₀ rest₀ k₀ cs)) (spGrp h) wgLib rfl hK.live ?_ (fun g' hg' => W.sit fun w' hr => ⟨rfl, rfl, ⟨v, hg'⟩, hK.rely hr⟩) hH
  refine W.stop rfl (fun w₁ h₁ => ⟨rfl, rfl, fun s hok hc => ?_⟩)
  exact ⟨⟨v, rfl⟩, hK.rely h₁⟩
theorem pk_quit (k n : Nat) : (if k < n then (.kdS k : Pos Lad) else .kd).quit = false := by split <;> rfl
/-- a new box is the first's alone -/
theorem spEvM (h : SpPre X T N0 n Wg st w0 bt bs bn sl cap) {k : Nat} (hkn : k < n) : EvM ((spJ X T N0 n Wg r st x w0 b₀ a₀ ops₀ n₀ rest₀ k₀ cs)).L ((spJ X T N0 n Wg r st x w0 b₀ a₀ ops₀ n₀ rest₀ k₀ cs)).c ((spJ X T N0 n Wg r st x w0 b₀ a₀ ops₀ n₀ rest₀ k₀ cs)).Bd k ⟨.cell ⟨N0 + k, 0, none⟩, true, false⟩ := by
  have h1 := h.tT
  have h2 := h.tW
  refine ⟨fun fn pos => ⟨rfl, fun y hy => ?_⟩, by simp, by simp, by simp, by show N0 + k < N0 + n; omega⟩
  simp only [MemAct.ofEvent, MemAct.touch?, Option.some.injEq] at hy
  subst hy
  refine .inr ⟨fun e => ?_, fun e => ?_, fun m _ _ e => ?_, fun _ m m1 m2 e => ?_⟩
  · rcases e with e | ⟨a, e, he⟩
    · exact h.new _ (by omega) _ e
    · cases e; simp at he; omega
  · obtain ⟨o, _, e⟩ := e
    cases e; omega
  · obtain ⟨_, _, _, hh⟩ := e
    exact hh
  · obtain ⟨i, i1, e1, a, e, hb, _⟩ := e
    cases e
    have hb : N0 + k < N0 + i := hb
    omega
theorem Suffer0.alloc {ty : TypeId} {Shb : Nat → Prop} {w w₁ : World} (hr : Suffer0 (liveAt ty Wg) Shb w w₁) (o : Obj) (hW : Wg < w.heap.size) : Suffer0 (liveAt ty Wg) Shb (w.alloc o) (w₁.alloc o) := by
  refine ⟨⟨hr.out.tape, hr.out.os, hr.out.output⟩, by rw [World.size_alloc, World.size_alloc, hr.size], fun b hb => ?_, fun ⟨s1, s2, hl⟩ => ?_⟩
  · simp only [World.alloc, Array.getElem?_push, hr.size]
    split
    · rfl
    · exact hr.low b hb
  · obtain ⟨t1, t2, ht⟩ := hr.live ⟨s1, s2, hl.of_block (Below.heap_alloc w o Wg hW).symm⟩
    exact ⟨t1, t2, ht.of_block (Below.heap_alloc w₁ o Wg (by rw [hr.size]; exact hW))⟩
theorem Suffer0.set {ty : TypeId} {Shb : Nat → Prop} {w w₁ : World} (hr : Suffer0 (liveAt ty Wg) Shb w w₁) (a : Addr) (u : Value) (hW : Wg ≠ a.block) : Suffer0 (liveAt ty Wg) Shb (w.setCell a u) (w₁.setCell a u) := by
  refine ⟨⟨hr.out.tape, hr.out.os, hr.out.output⟩, by simp only [World.setCell, Array.size_modify, hr.size], fun b hb => ?_, fun ⟨s1, s2, hl⟩ => ?_⟩
  · simp only [World.setCell, Array.getElem?_modify]
    split
    · rw [hr.low b hb]
    · exact hr.low b hb
  · obtain ⟨t1, t2, ht⟩ := hr.live ⟨s1, s2, hl.of_block (Below.heap_setCell w a u Wg hW).symm⟩
    exact ⟨t1, t2, ht.of_block (Below.heap_setCell w₁ a u Wg hW)⟩
theorem Kp.more {k : Nat} {w : World} (hK : Kp T N0 Wg w0 k w) (hW : Wg < N0) (v : Int) : Kp T N0 Wg w0 (k + 1) ((w.alloc (.cells #[.int .i64 0] 3)).setCell ⟨N0 + k, 0, none⟩ (.int .i64 v)) := by
  have hs := hK.size
  have e : ∀ b, b < N0 → ((w.alloc (.cells #[.int .i64 0] 3)).setCell ⟨N0 + k, 0, none⟩ (.int .i64 v)).heap[b]? = w.heap[b]? := fun b hb => by
    rw [Below.heap_setCell _ _ _ _ (by show b ≠ N0 + k; omega), Below.heap_alloc _ _ _ (by omega)]
  refine ⟨⟨hK.out.tape, hK.out.os, hK.out.output⟩, by simp only [World.setCell, Array.size_modify, World.size_alloc]; omega, ?_, fun b hb hn => (e b hb).trans (hK.low b hb hn)⟩
  obtain ⟨s1, s2, hl⟩ := hK.live
  exact ⟨s1, s2, hl.of_block (e Wg hW)⟩
set_option maxRecDepth 100000 in
set_option maxHeartbeats 8000000 in
theorem spLoop (h : SpPre X T N0 n Wg st w0 bt bs bn sl cap) : ∀ (m k : Nat), k + m = n → ∀ (w : World), Kp T N0 Wg w0 k w → ∀ (y0 y1 y2 y6 y7 y9 y10 y11 y12 y13 y14 y15 y16 y17 y18 y19 y20 y21 y22 y23 y24 y27 y28 y29 y30 y31 y32 : Value), ((spJ X T N0 n Wg r st x w0 b₀ a₀ ops₀ n₀ rest₀ k₀ cs)).C 0 (if k < n then .kdS k else .kd) (G ((base 12).at ⟨#[y0, y1, y2, .pointer (some ⟨bt, 0, none⟩), .pointer (some ⟨bs, 0, none⟩), .pointer (some ⟨bn, 0, none⟩), y6, y7, .pointer (some ⟨Wg, 0, none⟩), y9, y10, y11, y12, y13, y14, y15, y16, y17, y18, y19, y20, y21, y22, y23, y24, .int .i64 (n : Int), .int .i64 (k : Int), y27, y28, y29, y30, y31, y32], []⟩ [.code loop12, .inLoop loop12, .inBlock 0, .code rest12]) (b₀.at a₀ (.inRegion ops₀ (n₀ :: rest₀) :: k₀) :: cs)) w := by
  intro m
  induction m with
  | zero =>
    intro k hkm w hK y0 y1 y2 y6 y7 y9 y10 y11 y12 y13 y14 y15 y16 y17 y18 y19 y20 y21 y22 y23 y24 y27 y28 y29 y30 y31 y32
    obtain rfl : n = k := by omega
    rw [if_neg (by omega)]
    have q0 : (Pos.kd : Pos Lad).quit = false := rfl
    have hlt : decide ((n : Int) < (n : Int)) = false := decide_eq_false (by omega)
    have hlt' : decide (n < n) = false := decide_eq_false (by omega)
    obtain ⟨v, hv⟩ := T33_ex y0 y1 y2 (.pointer (some ⟨bt, 0, none⟩)) (.pointer (some ⟨bs, 0, none⟩)) (.pointer (some ⟨bn, 0, none⟩)) y6 y7 (.pointer (some ⟨Wg, 0, none⟩)) y9 y10 y11 y12 y13 y14 y15 y16 y17 y18 y19 y20 y21 y22 y23 y24 (.int .i64 (n : Int)) (.int .i64 (n : Int)) (.bool false) y28 y29 y30 y31 y32
    have hWs := waitStart (J := (spJ X T N0 n Wg r st x w0 b₀ a₀ ops₀ n₀ rest₀ k₀ cs)) (w := w) (b₀ := base 12) (a₀ := ⟨T33 v, []⟩) (ops₀ := ops11) (i₀ := 0) (rest₀ := []) (k₀ := [.code tail12]) (cs := (b₀.at a₀ (.inRegion ops₀ (n₀ :: rest₀) :: k₀) :: cs)) wgLib (fun g' hg' => W.sit fun w' hr => ⟨rfl, rfl, ⟨v, hg'⟩, hK.rely hr⟩)
    rw [hv] at hWs
    simp only [ops11, tail12, rest12, loop12, Try.f12, body_wait, waitFn, Option.getD_some] at hWs ⊢
    repeat first
      | refine C.seq q0 ?_
      | refine C.skip q0 ?_
      | refine C.regionEnd q0 ?_
      | refine C.block q0 ?_
      | refine C.inBlock q0 ?_
      | refine C.exit q0 rfl ?_
      | (refine C.region q0 ?_; simp only [List.size_toArray, List.length_cons, List.length_nil, Nat.reduceAdd, Nat.zero_add, List.range, List.range.loop])
      | (refine C.cond q0 rfl ?_; simp only [if_true, if_false, Bool.false_eq_true, ↓reduceIte])
      | (refine C.unwanted q0 rfl rfl ?_; walk_nrm)
      | (refine C.opk q0 rfl rfl (by k_ne) (fun w₁ h₁ K hK => by go_simp; exact hK) (fun w₁ h₁ => by first | (simp [go_sem, *] <;> fail) | fail) ?_; try w_num)
    refine C.call q0 rfl rfl (by k_ne) rfl Try.func31 nm31 rfl ?_
    walk_nrmf Try.f31
    exact C.of_W (spSit h) hWs
  | succ m ih =>
    intro k hkm w hK y0 y1 y2 y6 y7 y9 y10 y11 y12 y13 y14 y15 y16 y17 y18 y19 y20 y21 y22 y23 y24 y27 y28 y29 y30 y31 y32
    have hkn : k < n := by omega
    rw [if_pos hkn]
    have q0 : (Pos.kdS k : Pos Lad).quit = false := rfl
    have q1 : (Pos.goS k : Pos Lad).quit = false := rfl
    have q2 := pk_quit (k + 1) n
    have hlt : decide ((k : Int) < (n : Int)) = true := decide_eq_true (by omega)
    have hlt' : decide (k < n) = true := decide_eq_true hkn
    have hI := ih (k + 1) (by omega)
    have n16 := h.n16
    have hwr : (k : Int) + 1 ≤ 9223372036854775807 := by omega
    have tT := h.tT
    have tW := h.tW
    simp only [loop12, rest12, Try.f12, Option.getD_some] at hI ⊢
    repeat first
      | refine C.seq q0 ?_
      | refine C.skip q0 ?_
      | refine C.regionEnd q0 ?_
      | refine C.block q0 ?_
      | refine C.inBlock q0 ?_
      | refine C.exit q0 rfl ?_
      | (refine C.region q0 ?_; simp only [List.size_toArray, List.length_cons, List.length_nil, Nat.reduceAdd, Nat.zero_add, List.range, List.range.loop])
      | (refine C.cond q0 rfl ?_; simp only [if_true, if_false, Bool.false_eq_true, ↓reduceIte])
      | (refine C.unwanted q0 rfl rfl ?_; walk_nrm)
      | (refine C.opk q0 rfl rfl (by k_ne) (fun w₁ h₁ K hK => by go_simp; exact hK) (fun w₁ h₁ => by first | (simp [go_sem, *] <;> fail) | fail) ?_; try w_num)
    have hsz : ∀ w₁, (spJ X T N0 n Wg r st x w0 b₀ a₀ ops₀ n₀ rest₀ k₀ cs).rely 0 w w₁ → w₁.heap.size = N0 + k := fun w₁ h₁ => (hK.rely h₁).size
    refine C.opt (fun w => w.alloc (.cells #[.int .i64 0] 3)) (a' := ⟨#[y0, y1, y2, .pointer (some ⟨bt, 0, none⟩), .pointer (some ⟨bs, 0, none⟩), .pointer (some ⟨bn, 0, none⟩), y6, y7, .pointer (some ⟨Wg, 0, none⟩), .pointer (some ⟨N0 + k, 0, none⟩), y10, y11, y12, y13, y14, y15, y16, y17, y18, y19, y20, y21, y22, y23, y24, .int .i64 (n : Int), .int .i64 (k : Int), .bool true, .int .i64 (k : Int), y29, y30, y31, y32], []⟩) q0 rfl rfl (by k_ne) (fun w₁ h₁ K hK => by
        have sz := hsz w₁ h₁
        go_simp
        exact hK) (fun w₁ h₁ => ⟨⟨rfl, rfl, rfl⟩, by show w₁.heap.size ≤ (w₁.alloc _).heap.size; rw [World.size_alloc]; exact Nat.le_succ _, fun b hb => Below.heap_alloc w₁ _ b (by have := hsz w₁ h₁; have hb : b < N0 + k := hb; omega)⟩)
      (fun w₁ h₁ e he => by simp [go_sem] at he) (fun w₁ h₁ => Suffer0.alloc h₁ _ (by rw [hK.size]; show Wg < N0 + k; omega)) ?_
    have hcb : (w.alloc (.cells #[.int .i64 0] 3)).heap[N0 + k]? = some (.cells #[.int .i64 0] 3) := by
      rw [← hK.size]
      unfold World.alloc
      simp
    have hcl : (w.alloc (.cells #[.int .i64 0] 3)).cell? ⟨N0 + k, 0, none⟩ = some (.int .i64 0) := by
      unfold World.cell?
      simp [hcb]
    have hcl₁ : ∀ w₁, (spJ X T N0 n Wg r st x w0 b₀ a₀ ops₀ n₀ rest₀ k₀ cs).rely 0 (w.alloc (.cells #[.int .i64 0] 3)) w₁ → w₁.cell? ⟨N0 + k, 0, none⟩ = some (.int .i64 0) ∧ w₁.frozen? ⟨N0 + k, 0, none⟩ = false := fun w₁ h₁ => by
      have hb := (Suffer0.low h₁ (N0 + k) (fun e => by rcases e with e | e <;> omega)).trans hcb
      exact ⟨by unfold World.cell?; simp [hb], by unfold World.frozen?; simp [hb]⟩
    refine C.opt (fun w => w.setCell ⟨N0 + k, 0, none⟩ (.int .i64 (k : Int))) q0 rfl rfl (by k_ne) (fun w₁ h₁ K hK => by
        obtain ⟨f1, f2⟩ := hcl₁ w₁ h₁
        go_simp
        exact hK) (fun w₁ h₁ => ⟨⟨rfl, rfl, rfl⟩, by simp only [World.setCell, Array.size_modify]; omega, fun b hb => Below.heap_setCell _ _ _ _ (by have hb : b < N0 + k := hb; show b ≠ N0 + k; omega)⟩)
      (fun w₁ h₁ e he => by
        obtain ⟨f1, f2⟩ := hcl₁ w₁ h₁
        simp [go_sem, *] at he
        subst he
        exact spEvM h hkn) (fun w₁ h₁ => Suffer0.set h₁ _ _ (by show Wg ≠ N0 + k; omega)) ?_
    have hK1 := hK.more tW (k : Int)
    have hcv : ((w.alloc (.cells #[.int .i64 0] 3)).setCell ⟨N0 + k, 0, none⟩ (.int .i64 (k : Int))).cell? ⟨N0 + k, 0, none⟩ = some (.int .i64 (k : Int)) := World.cell?_setCell_same _ _ _ hcl
    generalize (w.alloc (.cells #[.int .i64 0] 3)).setCell ⟨N0 + k, 0, none⟩ (.int .i64 (k : Int)) = w2 at hK1 hcv ⊢
    have hI := hI w2 hK1
    try walk_nrm
    repeat first
      | refine C.seq q0 ?_
      | refine C.skip q0 ?_
      | refine C.regionEnd q0 ?_
      | refine C.block q0 ?_
      | refine C.inBlock q0 ?_
      | refine C.exit q0 rfl ?_
      | (refine C.region q0 ?_; simp only [List.size_toArray, List.length_cons, List.length_nil, Nat.reduceAdd, Nat.zero_add, List.range, List.range.loop])
      | (refine C.cond q0 rfl ?_; simp only [if_true, if_false, Bool.false_eq_true, ↓reduceIte])
      | (refine C.unwanted q0 rfl rfl ?_; walk_nrm)
      | (refine C.opk q0 rfl rfl (by k_ne) (fun w₁ h₁ K hK => by go_simp; exact hK) (fun w₁ h₁ => by first | (simp [go_sem, *] <;> fail) | fail) ?_; try w_num)
    refine C.call q0 rfl rfl (by k_ne) rfl Try.func28 nm28 rfl ?_
    walk_nrmf Try.f28
    refine C.of_W (spSit h) ?_
    have hA := fun (b₁ : Frame) (a₁ : Act) (o₁ : Array Oper) (i₁ : Nat) (r₁ : List Nat) (k₁ : List Item) (cs₁ : List Frame) => addPos (J := (spJ X T N0 n Wg r st x w0 b₀ a₀ ops₀ n₀ rest₀ k₀ cs)) (b₀ := b₁) (a₀ := a₁) (ops₀ := o₁) (i₀ := i₁) (rest₀ := r₁) (k₀ := k₁) (cs := cs₁) (w := w2) (k := k) (spGrp h) wgLib rfl hK1.live
    simp only [body_add, addFn, Option.getD_some] at hA
    refine hA _ _ _ _ _ _ _ ?_
    walk_nrm
    refine .inl ?_
    repeat first
      | refine C.seq q1 ?_
      | refine C.skip q1 ?_
      | refine C.regionEnd q1 ?_
      | refine C.block q1 ?_
      | refine C.inBlock q1 ?_
      | refine C.exit q1 rfl ?_
      | (refine C.region q1 ?_; simp only [List.size_toArray, List.length_cons, List.length_nil, Nat.reduceAdd, Nat.zero_add, List.range, List.range.loop])
      | (refine C.cond q1 rfl ?_; simp only [if_true, if_false, Bool.false_eq_true, ↓reduceIte])
      | (refine C.unwanted q1 rfl rfl ?_; walk_nrm)
      | (refine C.opk q1 rfl rfl (by k_ne) (fun w₁ h₁ K hK => by go_simp; exact hK) (fun w₁ h₁ => by first | (simp [go_sem, *] <;> fail) | fail) ?_; try w_num)
    refine C.spawn (m := k) (f := .func 29) (c := #[.pointer (some ⟨Wg, 0, none⟩), .pointer (some ⟨N0 + k, 0, none⟩), .pointer (some ⟨bs, 0, none⟩), .pointer (some ⟨bn, 0, none⟩), .pointer (some ⟨bt, 0, none⟩)]) (d := call29 Wg (N0 + k) bs bn bt) rfl rfl (by k_ne) (fun w₁ => ?_) rfl (fun w₁ => ?_) ?_ ?_
    · go_simp
      rfl
    · simp [go_sem, *]
    · show (spJ X T N0 n Wg r st x w0 b₀ a₀ ops₀ n₀ rest₀ k₀ cs).C 0 (if k + 1 < n then .kdS (k + 1) else .kd) _ _
      walk_nrm
      repeat first
        | refine C.seq q2 ?_
        | refine C.skip q2 ?_
        | refine C.regionEnd q2 ?_
        | refine C.block q2 ?_
        | refine C.inBlock q2 ?_
        | refine C.exit q2 rfl ?_
        | (refine C.region q2 ?_; simp only [List.size_toArray, List.length_cons, List.length_nil, Nat.reduceAdd, Nat.zero_add, List.range, List.range.loop])
        | (refine C.cond q2 rfl ?_; simp only [if_true, if_false, Bool.false_eq_true, ↓reduceIte])
        | (refine C.unwanted q2 rfl rfl ?_; walk_nrm)
        | (refine C.opk q2 rfl rfl (by k_ne) (fun w₁ h₁ K hK => by go_simp; exact hK) (fun w₁ h₁ => by first | (simp [go_sem, *] <;> fail) | fail) ?_; try w_num)
      have ew : IntKind.i64.wrap ((k : Int) + 1) = ((k + 1 : Nat) : Int) := by
        rw [IntKind.wrap_i64]
        omega
      rw [ew]
      refine C.inLoop q2 ?_
      exact hI _ _ _ _ _ _ _ _ _ _ _ _ _ _ _ _ _ _ _ _ _ _ _ _ _ _ _ 
    · have F := spAdds (r := r) (x := x) (b₀ := b₀) (a₀ := a₀) (ops₀ := ops₀) (n₀ := n₀) (rest₀ := rest₀) (k₀ := k₀) (cs := cs) h
      have G := spGrp (r := r) (x := x) (b₀ := b₀) (a₀ := a₀) (ops₀ := ops₀) (n₀ := n₀) (rest₀ := rest₀) (k₀ := k₀) (cs := cs) h
      have KK := spKid (r := r) (x := x) (b₀ := b₀) (a₀ := a₀) (ops₀ := ops₀) (n₀ := n₀) (rest₀ := rest₀) (k₀ := k₀) (cs := cs) h hkn hK1 hcv
      exact kidBorn F G rfl hK1.live (i := k + 1) rfl (by omega) (fun p g w' hs => by obtain ⟨e, _⟩ := hs; omega) KK h.n1 h.n16 h.len h.h8 (f := st.length) (by omega) (by omega)
/-- the job fits -/
theorem spFit (h : SpPre X T N0 n Wg st w0 bt bs bn sl cap) : Job.Fit (((spJ X T N0 n Wg r st x w0 b₀ a₀ ops₀ n₀ rest₀ k₀ cs)).put ((spJ X T N0 n Wg r st x w0 b₀ a₀ ops₀ n₀ rest₀ k₀ cs)).C) where
  fine := talFine h.n1
  apart := spApart (r := r) (x := x) (b₀ := b₀) (a₀ := a₀) (ops₀ := ops₀) (n₀ := n₀) (rest₀ := rest₀) (k₀ := k₀) (cs := cs) h
  shWg a ha := .inr ⟨a, rfl, ha⟩
  wgB := by show Wg < N0 + n; have := h.tW; omega
  shb := .inl rfl
  mono i k hik := by show N0 + i ≤ N0 + k; omega
  low b hb := by
    show b < N0 + 0
    have := h.tW
    have := h.tT
    rcases hb with e | e <;> omega
  cx y w w' hc hb := by
    show TalAt 67 T r y w'
    unfold TalAt
    rw [hb T (.inr rfl)]; exact hc
  okB y f i l hJ hi := ⟨TalJ.good hJ i l hi, TalJ.most hJ⟩
  sit := (closed_sit (J := (spJ X T N0 n Wg r st x w0 b₀ a₀ ops₀ n₀ rest₀ k₀ cs)) (spSit h)).1
  sitQ := (closed_sit (J := (spJ X T N0 n Wg r st x w0 b₀ a₀ ops₀ n₀ rest₀ k₀ cs)) (spSit h)).2
end
end Go.Proofs.Ytboiolnnhmlieaa.Gang
