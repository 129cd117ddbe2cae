
/-
  Goroutine 0 beside leavers: Spread.
  Conditions: stated lemma by lemma.
-/
import Derived.Test.YtboiolnnhmlieaaGc7
import Derived.Test.YtboiolnnhmlieaaGb12
namespace Go.Proofs.Ytboiolnnhmlieaa.Gang
open Go.Conc Go.ConcN Go.RowKit Go.Conc.Lib Go.ConcR.Gen Go.ConcN.Gen
set_option linter.unusedVariables false
set_option linter.unusedSimpArgs false
open Go.ConcR (wgBlock WgAt stA smA rd wr KK)
theorem nm12 : (Try.f12.name == "runtime.NumGoroutine") = false := by kernel_rfl
/-- how the context goes on over a call -/
structure Cx.Next (X : Cx) (w : World) (X' : Cx) (w' : World) : Prop where
  post : X'.Post = X.Post
  d : X'.d = 0
  B : X'.B = w'.heap.size
  sh : ∀ l, X'.Sh l → X.Sh l ∨ ∃ a : Addr, l = .cell a ∧ w.heap.size ≤ a.block ∧ a.block < w'.heap.size
  sub : ∀ l, X.Sh l → X'.Sh l
  le : w.heap.size ≤ w'.heap.size
section
variable {X : Cx} {T : Nat} {x : Tl} {w : World}
theorem Cx.next_up {w' : World} (hX : X.ok w) (hs : w.heap.size ≤ w'.heap.size) : X.Next w (X.up w'.heap.size) w' :=
  ⟨rfl, hX.hears, Nat.max_eq_right (Nat.le_trans hX.low hs), fun _ h => .inl h, fun _ h => h, hs⟩
theorem Cx.Next.trans {X1 X2 : Cx} {w1 w2 : World} (h : X.Next w X1 w1) (k : X1.Next w1 X2 w2) : X.Next w X2 w2 :=
  ⟨k.post.trans h.post, k.d, k.B, fun l hl => by
    rcases k.sh l hl with h1 | ⟨a, e, h2, h3⟩
    · rcases h.sh l h1 with h1 | ⟨a, e, h2, h3⟩
      · exact .inl h1
      · exact .inr ⟨a, e, h2, Nat.lt_of_lt_of_le h3 k.le⟩
    · exact .inr ⟨a, e, Nat.le_trans h.le h2, h3⟩, fun l hl => k.sub l (h.sub l hl), Nat.le_trans h.le k.le⟩
theorem Cx.Next.ok {X1 : Cx} {w1 : World} (h : X.Next w X1 w1) (hX : X.ok w) : X1.ok w1 :=
  ⟨h.d, fun b hb o hs => by
    rcases h.sh _ hs with h1 | ⟨a, e, _, h3⟩
    · exact hX.new b (Nat.le_trans h.le hb) o h1
    · cases e; exact absurd h3 (by show ¬ b < _; omega), by rw [h.B]; exact Nat.le_refl _⟩
theorem Cx.Next.free {X1 : Cx} {w1 : World} {b : Nat} (h : X.Next w X1 w1) (hX : X.ok w) (hb : X.free b) : X1.free b :=
  ⟨by rw [h.B]; exact Nat.lt_of_lt_of_le hb.1 (Nat.le_trans hX.low h.le), fun o hs => by
    rcases h.sh _ hs with h1 | ⟨a, e, h2, _⟩
    · exact hb.2 o h1
    · cases e; exact absurd hb.1 (by have h2 : w.heap.size ≤ b := h2; have := hX.low; omega)⟩
theorem T33_set (v : Nat → Value) (u : Value) : (T33 v).setIfInBounds 32 u = #[v 0, v 1, v 2, v 3, v 4, v 5, v 6, v 7, v 8, v 9, v 10, v 11, v 12, v 13, v 14, v 15, v 16, v 17, v 18, v 19, v 20, v 21, v 22, v 23, v 24, v 25, v 26, v 27, v 28, v 29, v 30, v 31, u] := rfl
/-- are the steps all in order -/
def SpreadOk (xs : List (Int × Int)) (n : Int) : Prop := 1 ≤ n ∧ n ≤ 16 ∧ xs.any bad = false
def nats (xs : List (Int × Int)) : List (Nat × Int) := xs.map fun s => (s.1.toNat, s.2)
theorem nats_len (xs : List (Int × Int)) : (nats xs).length = xs.length := by simp [nats]
theorem nats_get {xs : List (Int × Int)} (hb : xs.any bad = false) {j : Nat} (h : j < (nats xs).length) (h' : j < xs.length) : (((nats xs)[j]).1 : Int) = (xs[j]).1 ∧ ((nats xs)[j]).2 = (xs[j]).2 ∧ ((nats xs)[j]).1 < 8 := by
  have : bad xs[j] = false := by
    have := List.any_eq_false.1 hb xs[j] (List.getElem_mem h')
    simpa using this
  simp only [bad, okStep, Bool.not_eq_false', Bool.and_eq_true, decide_eq_true_eq] at this
  simp only [nats, List.getElem_map]
  obtain ⟨⟨⟨h1, h2⟩, h3⟩, h4⟩ := this
  exact ⟨by omega, trivial, by omega⟩
/-- what Spread does to a tally -/
noncomputable def Tl.spread (x : Tl) (xs : List (Int × Int)) : Tl := { x with cs := spGoal (nats xs) ⟨x.cs, x.most⟩, most := spTop (nats xs) ⟨x.cs, x.most⟩ }
/-- the three boxes -/
structure Boxes (T N : Nat) (sl : Option Addr) (len cap : Nat) (n : Int) (w : World) : Prop where
  t : w.cell? ⟨N, 0, none⟩ = some (.pointer (some ⟨T, 0, none⟩))
  s : w.cell? ⟨N + 1, 0, none⟩ = some (.slice sl len cap)
  n : w.cell? ⟨N + 2, 0, none⟩ = some (.int .i64 n)
theorem Boxes.new (T : Nat) (sl : Option Addr) (len cap : Nat) (n : Int) (w : World) : Boxes T w.heap.size sl len cap n (((w.alloc (.cells #[.pointer (some ⟨T, 0, none⟩)] 24)).alloc (.cells #[.slice sl len cap] 32)).alloc (.cells #[.int .i64 n] 3)) := by
  refine ⟨?_, ?_, ?_⟩
  · rw [cell_heap (Below.heap_alloc _ _ _ (by rw [World.size_alloc, World.size_alloc]; show w.heap.size < _; omega)), cell_heap (Below.heap_alloc _ _ _ (by rw [World.size_alloc]; show w.heap.size < _; omega))]
    exact cell_alloc w _ _ rfl
  · rw [cell_heap (Below.heap_alloc _ _ _ (by rw [World.size_alloc, World.size_alloc]; show w.heap.size + 1 < _; omega))]
    have := cell_alloc (w.alloc (.cells #[.pointer (some ⟨T, 0, none⟩)] 24)) #[.slice sl len cap] 32 (v := .slice sl len cap) rfl
    rwa [World.size_alloc] at this
  · have := cell_alloc ((w.alloc (.cells #[.pointer (some ⟨T, 0, none⟩)] 24)).alloc (.cells #[.slice sl len cap] 32)) #[.int .i64 n] 3 (v := .int .i64 n) rfl
    rwa [World.size_alloc, World.size_alloc] at this
theorem Boxes.keep {N : Nat} {sl : Option Addr} {len cap : Nat} {n : Int} {w w' : World} (h : Boxes T N sl len cap n w) (hk : ∀ b, N ≤ b → b < N + 3 → w'.heap[b]? = w.heap[b]?) : Boxes T N sl len cap n w' :=
  ⟨(cell_heap (hk N (Nat.le_refl _) (by omega))).trans h.t, (cell_heap (hk (N + 1) (by omega) (by omega))).trans h.s, (cell_heap (hk (N + 2) (by omega) (by omega))).trans h.n⟩
noncomputable def code12 : Code := match Try.f12.body.getD .skip with | .seq _ (.seq _ (.seq c _)) => c | _ => .skip
noncomputable def more12 : Code := match Try.f12.body.getD .skip with | .seq _ (.seq _ (.seq _ c)) => c | _ => .skip
set_option maxRecDepth 100000 in
set_option maxHeartbeats 8000000 in
theorem spread_lo (xs : List (Int × Int)) {N : Nat} {sl : Option Addr} {cap : Nat} {n : Int} (hn : n < 1 ∨ 16 < n) (hB : Boxes T N sl xs.length cap n w) (g1 : X.free N) (g2 : X.free (N + 1)) (g3 : X.free (N + 2)) {b : Frame} {a : Act} {k : List Item} {cs : List Frame} {ops : Array Oper} {i : Nat} {rest : List Nat}
    (hK : Run Try.prog X (G (b.at (a.put ((ops[i]?).bind (·.dst)) (.int .i64 1)) (.inRegion ops rest :: k)) cs) w) :
    Run Try.prog X (G ((base 12).at ⟨#[.pointer (some ⟨T, 0, none⟩), .slice sl xs.length cap, .int .i64 n, .pointer (some ⟨N, 0, none⟩), .pointer (some ⟨N + 1, 0, none⟩), .pointer (some ⟨N + 2, 0, none⟩), .int .i64 0, .func (.func 26) #[] #[], undef, undef, undef, undef, undef, undef, undef, undef, undef, undef, undef, undef, undef, undef, undef, undef, undef, undef, undef, undef, undef, undef, undef, undef, undef], []⟩ [.code code12, .code more12]) (b.at a (.inRegion ops (i :: rest) :: k) :: cs)) w := by
  have evn := ev_nilptr ⟨T, 0, none⟩
  obtain ⟨c1, c2, c3⟩ := hB
  simp only [code12, more12, Try.f12, Option.getD_some]
  by_cases h1 : n < 1
  · have d1 : decide (n < 1) = true := decide_eq_true h1
    clear hn h1
    repeat first
      | refine Run.seq ?_
      | refine Run.skip ?_
      | refine Run.regionEnd ?_
      | refine Run.block ?_
      | refine Run.inBlock ?_
      | (refine Run.region ?_; simp only [List.size_toArray, List.length_cons, List.length_nil, Nat.reduceAdd, Nat.zero_add, List.range, List.range.loop])
      | (refine Run.cond rfl ?_; simp only [if_true, if_false, Bool.false_eq_true, ↓reduceIte])
      | (refine Run.unwanted rfl rfl ?_; walk_nrm)
      | (refine Run.op0 rfl rfl (by k_ne) (fun d K hK => by go_simp; exact hK) (fun d => by first | (simp [go_sem, *] <;> fail) | fail) ?_; try w_num)
      | refine Run.ret ?_
      | refine Run.fin ?_
      | refine Run.exit rfl ?_
      | ((refine Run.op w rfl rfl (by k_ne) (fun d K hK => by go_simp; exact hK) (fun d e he => by simp [go_sem, *] at he; subst he; first | exact evL_free g1 | exact evL_free g2 | exact evL_free g3) ?_; try w_num))
    refine Run.leave1 rfl rfl Try.func12 rfl ?_
    exact hK
  · have d1 : decide (n < 1) = false := decide_eq_false h1
    have d2 : decide (16 < n) = true := decide_eq_true (by omega)
    clear hn h1
    repeat first
      | refine Run.seq ?_
      | refine Run.skip ?_
      | refine Run.regionEnd ?_
      | refine Run.block ?_
      | refine Run.inBlock ?_
      | (refine Run.region ?_; simp only [List.size_toArray, List.length_cons, List.length_nil, Nat.reduceAdd, Nat.zero_add, List.range, List.range.loop])
      | (refine Run.cond rfl ?_; simp only [if_true, if_false, Bool.false_eq_true, ↓reduceIte])
      | (refine Run.unwanted rfl rfl ?_; walk_nrm)
      | (refine Run.op0 rfl rfl (by k_ne) (fun d K hK => by go_simp; exact hK) (fun d => by first | (simp [go_sem, *] <;> fail) | fail) ?_; try w_num)
      | refine Run.ret ?_
      | refine Run.fin ?_
      | refine Run.exit rfl ?_
      | ((refine Run.op w rfl rfl (by k_ne) (fun d K hK => by go_simp; exact hK) (fun d e he => by simp [go_sem, *] at he; subst he; first | exact evL_free g1 | exact evL_free g2 | exact evL_free g3) ?_; try w_num))
    refine Run.leave1 rfl rfl Try.func12 rfl ?_
    exact hK
set_option maxRecDepth 100000 in
set_option maxHeartbeats 8000000 in
theorem spread_hi (xs : List (Int × Int)) {N : Nat} {sl : Option Addr} {cap : Nat} {n : Nat} (hn1 : 1 ≤ n) (hn16 : n ≤ 16) (hlen : xs.length ≤ 1152921504606846976) (hX : X.ok w) (hm : ∀ l : Loc, l.isMemory = false → X.Sh l) (hT : X.free T) (hN : N + 2 < w.heap.size) (hTN : T < N) (hTl : TlAt T x w) (hwf : ∀ c, w64 (x.cs c) = x.cs c) (hst : StepsAt sl xs w) (hrd : X.reads sl) (hna : ∀ ar off, sl = some ⟨ar, off, none⟩ → ar ≠ T)
    (hB : Boxes T N sl xs.length cap n w) (g1 : X.free N) (g2 : X.free (N + 1)) (g3 : X.free (N + 2)) {b : Frame} {a : Act} {k : List Item} {cs : List Frame} {ops : Array Oper} {i : Nat} {rest : List Nat}
    (hK1 : ∀ w', xs.any bad = true → Off w.heap.size w w' → Run Try.prog (X.up w'.heap.size) (G (b.at (a.put ((ops[i]?).bind (·.dst)) (.int .i64 1)) (.inRegion ops rest :: k)) cs) w')
    (hK2 : ∀ X' w', xs.any bad = false → X.Next w X' w' → Off T w w' → TlAt T (x.spread xs) w' → Run Try.prog X' (G (b.at (a.put ((ops[i]?).bind (·.dst)) (.int .i64 0)) (.inRegion ops rest :: k)) cs) w') :
    Run Try.prog X (G ((base 12).at ⟨#[.pointer (some ⟨T, 0, none⟩), .slice sl xs.length cap, .int .i64 (n : Int), .pointer (some ⟨N, 0, none⟩), .pointer (some ⟨N + 1, 0, none⟩), .pointer (some ⟨N + 2, 0, none⟩), .int .i64 0, .func (.func 26) #[] #[], undef, undef, undef, undef, undef, undef, undef, undef, undef, undef, undef, undef, undef, undef, undef, undef, undef, undef, undef, undef, undef, undef, undef, undef, undef], []⟩ [.code code12, .code more12]) (b.at a (.inRegion ops (i :: rest) :: k) :: cs)) w := by
  have evn := ev_nilptr ⟨T, 0, none⟩
  have hC := contains_con xs sl cap (by omega) hX hst hrd
  have d1 : decide ((n : Int) < 1) = false := decide_eq_false (by omega)
  have d2 : decide ((16 : Int) < (n : Int)) = false := decide_eq_false (by omega)
  obtain ⟨c1, c2, c3⟩ := id hB
  simp only [code12, more12, Try.f12, Option.getD_some]
  repeat first
    | refine Run.seq ?_
    | refine Run.skip ?_
    | refine Run.regionEnd ?_
    | refine Run.block ?_
    | refine Run.inBlock ?_
    | (refine Run.region ?_; simp only [List.size_toArray, List.length_cons, List.length_nil, Nat.reduceAdd, Nat.zero_add, List.range, List.range.loop])
    | (refine Run.cond rfl ?_; simp only [if_true, if_false, Bool.false_eq_true, ↓reduceIte])
    | (refine Run.unwanted rfl rfl ?_; walk_nrm)
    | (refine Run.op0 rfl rfl (by k_ne) (fun d K hK => by go_simp; exact hK) (fun d => by first | (simp [go_sem, *] <;> fail) | fail) ?_; try w_num)
    | refine Run.ret ?_
    | refine Run.fin ?_
    | refine Run.exit rfl ?_
    | ((refine Run.op w rfl rfl (by k_ne) (fun d K hK => by go_simp; exact hK) (fun d e he => by simp [go_sem, *] at he; subst he; first | exact evL_free g1 | exact evL_free g2 | exact evL_free g3) ?_; try w_num))
  refine Run.con hC rfl rfl (by k_ne) rfl (by simp only [List.map_toArray, List.map_cons, List.map_nil]; rfl) (fun X' v w1 hr => ?_)
  obtain ⟨rfl, rfl, hO⟩ := hr
  have hK1 := fun hb => hK1 w1 hb hO
  walk_nrm
  cases hb : xs.any bad with
  | true =>
    have hK1 := hK1 hb
    clear hK2 hO hC hst hrd hX hTl hwf hB c1 c2 c3
    repeat first
      | refine Run.seq ?_
      | refine Run.skip ?_
      | refine Run.regionEnd ?_
      | refine Run.block ?_
      | refine Run.inBlock ?_
      | (refine Run.region ?_; simp only [List.size_toArray, List.length_cons, List.length_nil, Nat.reduceAdd, Nat.zero_add, List.range, List.range.loop])
      | (refine Run.cond rfl ?_; simp only [if_true, if_false, Bool.false_eq_true, ↓reduceIte])
      | (refine Run.unwanted rfl rfl ?_; walk_nrm)
      | (refine Run.op0 rfl rfl (by k_ne) (fun d K hK => by go_simp; exact hK) (fun d => by first | (simp [go_sem, *] <;> fail) | fail) ?_; try w_num)
      | refine Run.ret ?_
      | refine Run.fin ?_
      | refine Run.exit rfl ?_
    refine Run.leave1 rfl rfl Try.func12 rfl ?_
    exact hK1
  | false =>
    clear hK1 hC
    have hB1 : Boxes T N sl xs.length cap n w1 := hB.keep fun b _ h => hO.block b (by omega) (by omega)
    obtain ⟨e1, e2, e3⟩ := id hB1
    have k3 : (X.up w1.heap.size).free (N + 2) := Cx.free_up g3
    repeat first
      | refine Run.seq ?_
      | refine Run.skip ?_
      | refine Run.regionEnd ?_
      | refine Run.block ?_
      | refine Run.inBlock ?_
      | (refine Run.region ?_; simp only [List.size_toArray, List.length_cons, List.length_nil, Nat.reduceAdd, Nat.zero_add, List.range, List.range.loop])
      | (refine Run.cond rfl ?_; simp only [if_true, if_false, Bool.false_eq_true, ↓reduceIte])
      | (refine Run.unwanted rfl rfl ?_; walk_nrm)
      | (refine Run.op0 rfl rfl (by k_ne) (fun d K hK => by go_simp; exact hK) (fun d => by first | (simp [go_sem, *] <;> fail) | fail) ?_; try w_num)
      | refine Run.ret ?_
      | refine Run.fin ?_
      | refine Run.exit rfl ?_
    refine Run.op (w1.alloc (wgBlock 76 0 0)) rfl rfl (by k_ne) (fun d K hK => by go_simp; exact hK) (fun d e he => by simp [go_sem] at he) ?_
    have sz2 : (w1.alloc (wgBlock 76 0 0)).heap.size = w1.heap.size + 1 := World.size_alloc ..
    have hw2 : WgAt 76 w1.heap.size (w1.alloc (wgBlock 76 0 0)) 0 0 := by
      unfold WgAt World.alloc
      simp
    have lo2 : ∀ b, b < w1.heap.size → (w1.alloc (wgBlock 76 0 0)).heap[b]? = w1.heap[b]? := fun b h => Below.heap_alloc _ _ _ h
    have hB2 : Boxes T N sl xs.length cap n (w1.alloc (wgBlock 76 0 0)) := hB1.keep fun b _ h => lo2 b (by have := hO.size; omega)
    have so2 : SameOut w1 (w1.alloc (wgBlock 76 0 0)) := ⟨rfl, rfl, rfl⟩
    generalize w1.alloc (wgBlock 76 0 0) = w2 at sz2 hw2 lo2 hB2 so2 ⊢
    obtain ⟨f1, f2, f3⟩ := id hB2
    try walk_nrm
    repeat first
      | refine Run.seq ?_
      | refine Run.skip ?_
      | refine Run.regionEnd ?_
      | refine Run.block ?_
      | refine Run.inBlock ?_
      | (refine Run.region ?_; simp only [List.size_toArray, List.length_cons, List.length_nil, Nat.reduceAdd, Nat.zero_add, List.range, List.range.loop])
      | (refine Run.cond rfl ?_; simp only [if_true, if_false, Bool.false_eq_true, ↓reduceIte])
      | (refine Run.unwanted rfl rfl ?_; walk_nrm)
      | (refine Run.op0 rfl rfl (by k_ne) (fun d K hK => by go_simp; exact hK) (fun d => by first | (simp [go_sem, *] <;> fail) | fail) ?_; try w_num)
      | refine Run.ret ?_
      | refine Run.fin ?_
      | refine Run.exit rfl ?_
      | (refine Run.op w2 rfl rfl (by k_ne) (fun d K hK => by go_simp; exact hK) (fun d e he => by simp [go_sem, *] at he; subst he; exact evL_free k3) ?_; try w_num)
    refine Run.loop ?_
    have hle := hO.size
    have hlow := hX.low
    have hTB := hT.1
    have hg1 := g1.1
    have hg3 := g3.1
    have hpre : SpPre (X.up w1.heap.size) T w2.heap.size n w1.heap.size (nats xs) w2 N (N + 1) (N + 2) sl cap := {
      n1 := hn1
      n16 := hn16
      len := by rw [nats_len]; exact hlen
      h8 := fun s hs => by
        obtain ⟨j, hj, rfl⟩ := List.getElem_of_mem hs
        exact (nats_get hb hj (by rwa [nats_len] at hj)).2.2
      size := rfl
      tT := by omega
      tW := by omega
      ne := by omega
      clean := hT.2
      mem := hm
      box := fun c hc => ⟨by omega, by omega, by omega, by rcases hc with rfl | rfl | rfl <;> first | exact g1.2 | exact g2.2 | exact g3.2⟩
      ct := f1
      csl := by rw [nats_len]; exact f2
      cn := f3
      new := fun c hc o => hX.new c (by omega) o
      lent := fun hne => by
        obtain ⟨ar, off, e, har, hcs⟩ := hst (by intro h; subst h; exact hne rfl)
        have hfr := hrd ar off e
        refine ⟨ar, off, e, by omega, hna ar off e, by omega, hfr.2, fun j hj => ?_⟩
        have hj' : j < xs.length := by rwa [nats_len] at hj
        obtain ⟨m1, m2, _⟩ := nats_get hb hj hj'
        have hh : w2.heap[ar]? = w.heap[ar]? := (lo2 ar (by omega)).trans (hO.block ar har (by omega))
        rw [m1, m2]
        exact ⟨(cell_heap hh).trans (hcs j hj').1, (cell_heap hh).trans (hcs j hj').2⟩ }
    have hKp : ∀ d, Kp T w2.heap.size w1.heap.size w2 0 (w2.at d) := fun d => ⟨SameOut.at _ _, rfl, ⟨_, _, hw2⟩, fun _ _ _ => rfl⟩
    have hL := fun d => spLoop (r := x.rest) (x := ⟨x.cs, x.most⟩) (b₀ := b) (a₀ := a) (ops₀ := ops) (n₀ := i) (rest₀ := rest) (k₀ := k) (cs := cs) hpre n 0 (by omega) (w2.at d) (hKp d)
    simp only [if_pos (show 0 < n by omega), loop12, rest12, Try.f12, Option.getD_some] at hL
    refine Run.phase (spFit (r := x.rest) (x := ⟨x.cs, x.most⟩) (b₀ := b) (a₀ := a) (ops₀ := ops) (n₀ := i) (rest₀ := rest) (k₀ := k) (cs := cs) hpre) (x0 := ⟨x.cs, x.most⟩) hX.hears rfl (fun l hl => ?_) (fun l hl => .inl hl) ?_ ?_ (fun w' hw' => ?_) ⟨by
      have e : ((0 : Nat) : Int) * KK + ((0 : Nat) : Int) = 0 := by simp
      show WgAt 76 w1.heap.size w2 (((0 : Nat) : Int) * KK + ((0 : Nat) : Int)) _
      rw [e]
      exact hw2, ?_⟩ (spStart hn1 hwf) (fun a' w' x' h1 h2 h3 h4 => ?_)
    · rcases hl with hl | ⟨c, e, he⟩
      · exact .inl hl
      · exact .inr ⟨c, e, by rw [he]; exact Nat.max_le.2 ⟨by omega, Nat.le_refl _⟩⟩
    · exact Nat.max_le.2 ⟨by show X.B ≤ w1.heap.size; omega, Nat.le_refl _⟩
    · exact Nat.max_le.2 ⟨by show X.B ≤ w2.heap.size + n; omega, by show w1.heap.size ≤ w2.heap.size + n; omega⟩
    · obtain ⟨d, rfl⟩ := hw'
      exact hL d _ _ _ _ _ _ _ _ _ _ _ _ _ _ _ _ _ _ _ _ _ _ _ _ _ _ _
    · show TalAt 67 T x.rest ⟨x.cs, x.most⟩ w2
      unfold TalAt
      rw [lo2 T (by omega), hO.block T (by omega) (by omega)]
      exact hTl
    · obtain ⟨⟨v, rfl⟩, hK⟩ := h4
      obtain ⟨q1, q2⟩ := spEnds h3
      have hx : x' = ⟨spGoal (nats xs) ⟨x.cs, x.most⟩, spTop (nats xs) ⟨x.cs, x.most⟩⟩ := by
        cases x'
        simp only at q1 q2
        subst q1
        congr 1
        exact funext q2
      subst hx
      have hsz := hK.size
      have hK2 := hK2 { X.up w1.heap.size with Sh := fun l => X.Sh l ∨ ∃ c : Addr, l = .cell c ∧ c.block = w1.heap.size, B := w2.heap.size + n, c := X.c + n } w' hb ⟨rfl, hX.hears, hsz.symm, fun l hl => by
          rcases hl with hl | ⟨c, e, he⟩
          · exact .inl hl
          · exact .inr ⟨c, e, by omega, by omega⟩, fun l hl => .inl hl, by omega⟩
        ⟨hK.out.tape.trans (so2.tape.trans hO.tape), hK.out.os.trans (so2.os.trans hO.os), hK.out.output.trans (so2.output.trans hO.output), by omega, fun c hc hn => (hK.low c (by omega) (by omega)).trans ((lo2 c (by omega)).trans (hO.block c hc (by omega)))⟩ h2.2
      rw [T33_set]
      simp only [ops11, tail12, rest12, Try.f12, Option.getD_some]
      clear hK hsz h3 hL hKp hpre h2 hst hrd hX hTl hwf hB hB1 hB2 hO lo2 so2 hw2 c1 c2 c3 e1 e2 e3 f1 f2 f3
      repeat first
        | refine Run.seq ?_
        | refine Run.skip ?_
        | refine Run.regionEnd ?_
        | refine Run.block ?_
        | refine Run.inBlock ?_
        | (refine Run.region ?_; simp only [List.size_toArray, List.length_cons, List.length_nil, Nat.reduceAdd, Nat.zero_add, List.range, List.range.loop])
        | (refine Run.cond rfl ?_; simp only [if_true, if_false, Bool.false_eq_true, ↓reduceIte])
        | (refine Run.unwanted rfl rfl ?_; walk_nrm)
        | (refine Run.op0 rfl rfl (by k_ne) (fun d K hK => by go_simp; exact hK) (fun d => by first | (simp [go_sem, *] <;> fail) | fail) ?_; try w_num)
        | refine Run.ret ?_
        | refine Run.fin ?_
        | refine Run.exit rfl ?_
      refine Run.leave1 rfl rfl Try.func12 rfl ?_
      exact hK2
theorem StepsAt.off {sl : Option Addr} {xs : List (Int × Int)} {w w' : World} (h : StepsAt sl xs w) (hO : Off w.heap.size w w') : StepsAt sl xs w' := fun hx => by
  obtain ⟨ar, off, e, h1, h2⟩ := h hx
  have hh := hO.block ar h1 (by omega)
  exact ⟨ar, off, e, Nat.lt_of_lt_of_le h1 hO.size, fun j hj => ⟨(cell_heap hh).trans (h2 j hj).1, (cell_heap hh).trans (h2 j hj).2⟩⟩
theorem Off.more {w0 w1 w2 : World} (h : Off w0.heap.size w0 w1) (k : Off w1.heap.size w1 w2) : Off w0.heap.size w0 w2 := h.trans k.any
set_option maxRecDepth 100000 in
set_option maxHeartbeats 8000000 in
theorem spread_con (xs : List (Int × Int)) {sl : Option Addr} {cap : Nat} {n : Int} (hlen : xs.length ≤ 1152921504606846976) (hX : X.ok w) (hm : ∀ l : Loc, l.isMemory = false → X.Sh l) (hT : X.free T) (hTl : TlAt T x w) (hwf : ∀ c, w64 (x.cs c) = x.cs c) (hst : StepsAt sl xs w) (hrd : X.reads sl) (hna : ∀ ar off, sl = some ⟨ar, off, none⟩ → ar ≠ T) :
    Con Try.prog X 12 #[.pointer (some ⟨T, 0, none⟩), .slice sl xs.length cap, .int .i64 n] w (fun X' v w' => X.Next w X' w' ∧ Off T w w' ∧ ((SpreadOk xs n ∧ v = .int .i64 0 ∧ TlAt T (x.spread xs) w') ∨ (¬ SpreadOk xs n ∧ v = .int .i64 1 ∧ TlAt T x w'))) := by
  have hlow := hX.low
  have hTB := hT.1
  refine ⟨Try.f12, _, Try.func12, nm12, rfl, fun b₀ a₀ ops₀ n₀ rest₀ k₀ cs hK => ?_⟩
  walk_nrmf Try.f12
  refine Run.up (w.heap.size + 3) ?_
  have Y0 : (X.up (w.heap.size + 3)).B = w.heap.size + 3 := Nat.max_eq_right (by omega)
  have g1 : (X.up (w.heap.size + 3)).free w.heap.size := ⟨by rw [Y0]; omega, hX.new _ (Nat.le_refl _)⟩
  have g2 : (X.up (w.heap.size + 3)).free (w.heap.size + 1) := ⟨by rw [Y0]; omega, hX.new _ (by omega)⟩
  have g3 : (X.up (w.heap.size + 3)).free (w.heap.size + 2) := ⟨by rw [Y0]; omega, hX.new _ (by omega)⟩
  refine Run.seq ?_
  refine Run.region ?_
  simp only [List.size_toArray, List.length_cons, List.length_nil, Nat.reduceAdd, Nat.zero_add, List.range, List.range.loop]
  refine Run.op (w.alloc (.cells #[.pointer (some ⟨T, 0, none⟩)] 24)) rfl rfl (by k_ne) (fun d K hK => by go_simp; exact hK) (fun d e he => by simp [go_sem] at he) ?_
  try w_num
  refine Run.op ((w.alloc (.cells #[.pointer (some ⟨T, 0, none⟩)] 24)).alloc (.cells #[.slice sl xs.length cap] 32)) rfl rfl (by k_ne) (fun d K hK => by go_simp; exact hK) (fun d e he => by simp [go_sem] at he) ?_
  try w_num
  refine Run.op (((w.alloc (.cells #[.pointer (some ⟨T, 0, none⟩)] 24)).alloc (.cells #[.slice sl xs.length cap] 32)).alloc (.cells #[.int .i64 n] 3)) rfl rfl (by k_ne) (fun d K hK => by go_simp; exact hK) (fun d e he => by simp [go_sem] at he) ?_
  try w_num
  have hBx := Boxes.new T sl xs.length cap n w
  have hO : Off w.heap.size w (((w.alloc (.cells #[.pointer (some ⟨T, 0, none⟩)] 24)).alloc (.cells #[.slice sl xs.length cap] 32)).alloc (.cells #[.int .i64 n] 3)) := (Off.alloc _ w _).trans ((Off.alloc _ _ _).trans (Off.alloc _ _ _))
  have hs : (((w.alloc (.cells #[.pointer (some ⟨T, 0, none⟩)] 24)).alloc (.cells #[.slice sl xs.length cap] 32)).alloc (.cells #[.int .i64 n] 3)).heap.size = w.heap.size + 3 := by rw [World.size_alloc, World.size_alloc, World.size_alloc]
  try simp only [World.size_alloc]
  generalize (((w.alloc (.cells #[.pointer (some ⟨T, 0, none⟩)] 24)).alloc (.cells #[.slice sl xs.length cap] 32)).alloc (.cells #[.int .i64 n] 3)) = w3 at hBx hO hs ⊢
  have hX3 : (X.up (w.heap.size + 3)).ok w3 := ⟨hX.hears, fun b hb o => hX.new b (by omega) o, by rw [Y0]; omega⟩
  have hTl3 : TlAt T x w3 := by
    unfold TlAt TalAt
    rw [hO.block T (by omega) (by omega)]
    exact hTl
  have hst3 := hst.off hO
  have hrd3 : (X.up (w.heap.size + 3)).reads sl := fun ar off e => Cx.free_up (hrd ar off e)
  refine Run.op0 rfl rfl (by k_ne) (fun d K hK => by go_simp; exact hK) (fun d => by simp [go_sem]) ?_
  try w_num
  refine Run.regionEnd ?_
  refine Run.seq ?_
  refine Run.region ?_
  simp only [List.size_toArray, List.length_cons, List.length_nil, Nat.reduceAdd, Nat.zero_add, List.range, List.range.loop]
  refine Run.op0 rfl rfl (by k_ne) (fun d K hK => by go_simp; exact hK) (fun d => by simp [go_sem]) ?_
  try w_num
  refine Run.regionEnd ?_
  refine Run.seq ?_
  have hup : ∀ w' : World, w3.heap.size ≤ w'.heap.size → (X.up (w.heap.size + 3)).up w'.heap.size = X.up w'.heap.size := fun w' h => X.up_up (by omega)
  have hOT : ∀ w', Off w3.heap.size w3 w' → Off T w w' := fun w' h => (hO.more h).any
  by_cases hn : n < 1 ∨ 16 < n
  · have hno : ¬ SpreadOk xs n := fun h => by obtain ⟨h1, h2, _⟩ := h; omega
    have hL := spread_lo (X := X.up (w.heap.size + 3)) xs hn hBx g1 g2 g3 (b := b₀) (a := a₀) (k := k₀) (cs := cs) (ops := ops₀) (i := n₀) (rest := rest₀) (by
      rw [show w.heap.size + 3 = w3.heap.size from hs.symm]
      exact hK _ _ _ ⟨Cx.next_up hX (by omega), hO.any, .inr ⟨hno, rfl, hTl3⟩⟩)
    simp only [code12, more12, Try.f12, Option.getD_some] at hL
    exact hL
  · obtain ⟨m, rfl⟩ : ∃ m : Nat, n = m := ⟨n.toNat, by omega⟩
    have hL := spread_hi (X := X.up (w.heap.size + 3)) (w := w3) (x := x) xs (N := w.heap.size) (n := m) (by omega) (by omega) hlen hX3 hm (Cx.free_up hT) (by omega) (by omega) hTl3 hwf hst3 hrd3 hna hBx g1 g2 g3 (b := b₀) (a := a₀) (k := k₀) (cs := cs) (ops := ops₀) (i := n₀) (rest := rest₀)
      (fun w' hb hO' => by
        have hle := hO'.size
        rw [hup w' hle]
        exact hK _ _ _ ⟨Cx.next_up hX (by omega), hOT w' hO', .inr ⟨(fun h => by rw [h.2.2] at hb; cases hb), rfl, by
          unfold TlAt TalAt
          rw [hO'.block T (by omega) (by omega)]
          exact hTl3⟩⟩)
      (fun X' w' hb hN hO' ht => hK _ _ _ ⟨⟨hN.post, hN.d, hN.B, fun l hl => by
          rcases hN.sh l hl with h | ⟨a, e, h1, h2⟩
          · exact .inl h
          · exact .inr ⟨a, e, by omega, h2⟩, hN.sub, by have := hN.le; omega⟩, hO.any.trans hO', .inl ⟨⟨by omega, by omega, hb⟩, rfl, ht⟩⟩)
    simp only [code12, more12, Try.f12, Option.getD_some] at hL
    exact hL
end
end Go.Proofs.Ytboiolnnhmlieaa.Gang
