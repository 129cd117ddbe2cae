
/-
  The trace of a WaitGroup's team: each make of step.
  Conditions: stated lemma by lemma.
-/
import Derived.Test.YtboiolnnhmlieaaGa5
namespace Go.Proofs.Ytboiolnnhmlieaa.Gang
open Go.Conc Go.ConcN
open Go.ConcR (wgBlock WgAt stA smA rd wr mk KK Bk ofEvent_cell ofEvent_mk ofEvent_loc_mark loc_of_ofEvent)
set_option linter.unusedVariables false
set_option linter.unusedSimpArgs false

section
variable {Lam : Type} {L : Places} {c B Wg n : Nat} {ps : Nat → Pos Lam} {j : Nat} {t : Trace} {es : Array Event} {fn : FuncId} {pos : String}

theorem ev_mem {g : Nat} {op : MemOp} (h : op ∈ MemOp.ofEvents g fn pos es) : ∃ e ∈ es, op = { g, fn, pos, act := .ofEvent e } := by
  rw [ofEvents_eq] at h
  obtain ⟨e, he, rfl⟩ := Array.mem_map.1 h
  exact ⟨e, he, rfl⟩
theorem norel_mem {g : Nat} (h : ∀ e ∈ es, ∀ a, e.loc ≠ .mark (.release a)) : ∀ op ∈ MemOp.ofEvents g fn pos es, ∀ a, op.act ≠ .mark (.release a) := fun op hop a e => by
  obtain ⟨x, hx, rfl⟩ := ev_mem hop
  exact h x hx a (loc_of_ofEvent e)
theorem ev_at {g x : Nat} {a : Touch} (hx : t.size ≤ x) (ha : touchAt (t ++ MemOp.ofEvents g fn pos es) x = some a) : ∃ e, es[x - t.size]? = some e ∧ (MemAct.ofEvent e).touch? = some a := by
  obtain ⟨op, ho, hoa⟩ := touch_of ha
  have hj : (MemOp.ofEvents g fn pos es)[x - t.size]? = some op := by
    rw [Array.getElem?_append] at ho
    simpa [Nat.not_lt.2 hx] using ho
  rw [ofEvents_eq, Array.getElem?_map] at hj
  obtain ⟨e, he, rfl⟩ := Option.map_eq_some_iff.1 hj
  exact ⟨e, he, hoa⟩
/-- nobody's place turns so that more is asked -/
theorem TR.move (h : TR L c B Wg n ps j t) {ps' : Nat → Pos Lam} (h0 : started n j (ps' 0)) (hp : ∀ i, 1 ≤ i → i ≤ j → past (ps' i) = past (ps i)) (hr : ps' 0 = .ret → ps 0 = .ret) : TR L c B Wg n ps' j t :=
  { h with st := h0, rel := fun i h1 h2 e => h.rel i h1 h2 (by rw [← hp i h1 h2]; exact e), acq := fun e => h.acq (hr e), ret := fun e i h1 h2 => by rw [hp i h1 h2]; exact h.ret (hr e) i h1 h2 }
theorem past_upd {i : Nat} {p : Pos Lam} (hp : past p = past (ps i)) : ∀ k, 1 ≤ k → k ≤ j → past (upd ps i p k) = past (ps k) := fun k _ _ => by
  by_cases e : k = i
  · rw [e, upd_same]; exact hp
  · rw [upd_ne _ _ e]

/-- a worker that has not said its release -/
theorem TR.kid (A : L.Apart) (h : TR L c B Wg n ps j t) {i : Nat} (h1 : 1 ≤ i) (h2 : i ≤ j) (hp : past (ps i) = false) (hd : Deaf t (c + i) = 0) (hes : ∀ e ∈ es, EvK L c B i e) : TR L c B Wg n ps j (t ++ MemOp.ofEvents (c + i) fn pos es) := by
  refine h.grow (g := c + i) ev_g (h.ct.appW A (k := c + i) (by omega) (by omega) fun op hop => ?_) (fun k r k1 k2 e hk _ => ?_) (norel_mem fun e he => (hes e he).rel) (fun _ hc => by omega) (fun _ x hx a ha hat => ?_) (fun op hop => ?_)
  · obtain ⟨e, he, rfl⟩ := ev_mem hop
    exact (hes e he).ok fn pos
  · have : k = i := by omega
    rw [this, hp] at hk; cases hk
  · obtain ⟨e, he, ho⟩ := ev_at hx ha
    rcases (hes e (Array.mem_of_getElem? he)).at_ a ho hat with k | k
    · exact .inl k
    · refine .inr ⟨a, ha, A.sxMem _ k, .inr ⟨c + i, ?_, ?_⟩⟩
      · obtain ⟨op, hop, hoa⟩ := touch_of ha
        rcases getElem?_append_cases hop with ⟨h1, _⟩ | ⟨_, h2⟩
        · omega
        · simp [Trace.g?, hop, ev_g op h2]
      · have hlt : x - t.size ≤ es.size := by
          rcases Nat.lt_or_ge (x - t.size) es.size with h' | h'
          · omega
          · rw [Array.getElem?_eq_none h'] at he; cases he
        have := deaf_inside t (c + i) fn pos es (x - t.size) hlt
        rw [show t.size + (x - t.size) = x by omega] at this
        rw [this, deafBehind_still (fun e' he' => ?_), hd]
        have hm : e' ∈ es := by
          rw [Array.mem_iff_getElem?] at he' ⊢
          obtain ⟨m, hm⟩ := he'
          refine ⟨m, ?_⟩
          rw [Array.getElem?_extract] at hm
          split at hm
          · simpa using hm
          · cases hm
        exact ⟨(hes e' hm).dis, (hes e' hm).en⟩
  · obtain ⟨e, he, rfl⟩ := ev_mem hop
    exact (hes e he).low
/-- whoever but the first lists nothing that touches -/
theorem TR.none (A : L.Apart) (h : TR L c B Wg n ps j t) {g : Nat} (h1 : 1 ≤ g) (h2 : g ≤ c + j) (hn : ∀ e ∈ es, (MemAct.ofEvent e).touch? = none) (hr : ∀ e ∈ es, ∀ a, e.loc ≠ .mark (.release a)) (hl : ∀ e ∈ es, (MemAct.ofEvent e).low B) : TR L c B Wg n ps j (t ++ MemOp.ofEvents g fn pos es) := by
  have hno : ∀ op ∈ MemOp.ofEvents g fn pos es, op.act.touch? = Option.none := fun op hop => by
    obtain ⟨e, he, rfl⟩ := ev_mem hop
    exact hn e he
  refine h.grow (g := g) ev_g (h.ct.appN h2 ev_g hno) (fun k r k1 k2 e hk hr => ?_) (norel_mem hr) (fun _ _ => hno) (fun _ x hx a ha _ => by obtain ⟨op, hop, hoa⟩ := touch_new ha hx; rw [hno op hop] at hoa; cases hoa) (fun op hop => ?_)
  · rw [← e] at hr ⊢
    exact hr.appOwn fn pos es (fun _ x hx => .inl (hn x (Array.mem_of_getElem? hx)))
  · obtain ⟨e, he, rfl⟩ := ev_mem hop
    exact hl e he
/-- the first -/
theorem TR.first (A : L.Apart) (h : TR L c B Wg n ps j t) (hes : ∀ e ∈ es, EvM L c B j e) : TR L c B Wg n ps j (t ++ MemOp.ofEvents 0 fn pos es) := by
  refine h.grow (g := 0) ev_g (h.ct.app0 A fun op hop => ?_) (fun k r k1 k2 e => by omega) (norel_mem fun e he => (hes e he).rel) (fun hc => absurd rfl hc) (fun hc => by omega) (fun op hop => ?_)
  · obtain ⟨e, he, rfl⟩ := ev_mem hop
    exact (hes e he).ok fn pos
  · obtain ⟨e, he, rfl⟩ := ev_mem hop
    exact (hes e he).low

/-! the group's own accesses and words -/
theorem evG_cell (h : EvG Wg es) : ∀ e ∈ es, e.loc = .mark .disable ∨ e.loc = .mark .enable ∨ ∃ a w, e = ⟨.cell a, w, true⟩ ∧ a.block = Wg := by
  intro e he
  rcases h with rfl | rfl | rfl | rfl
  · simp at he; subst he; exact .inr (.inr ⟨_, _, rfl, rfl⟩)
  · simp at he; subst he; exact .inr (.inr ⟨_, _, rfl, rfl⟩)
  · simp at he; rcases he with rfl | rfl <;> exact .inr (.inr ⟨_, _, rfl, rfl⟩)
  · simp [semEvents] at he
    rcases he with rfl | rfl | rfl | rfl
    · exact .inl rfl
    · exact .inr (.inr ⟨_, _, rfl, rfl⟩)
    · exact .inr (.inr ⟨_, _, rfl, rfl⟩)
    · exact .inr (.inl rfl)
theorem evG_deaf (h : EvG Wg es) (d : Nat) : deafBehind d es = d := by
  rcases h with rfl | rfl | rfl | rfl <;> simp [deafBehind, rd, wr, semEvents]
theorem evG_in (h : EvG Wg es) {d : Nat} (hd : 1 ≤ d) (m : Nat) : 0 < deafBehind d (es.extract 0 m) := by
  rcases h with rfl | rfl | rfl | rfl
  all_goals (rcases m with _ | _ | _ | _ | m <;> simp [deafBehind, rd, wr, semEvents, List.extract_eq_take_drop] <;> omega)
theorem touch_atomic {a : Addr} {w : Bool} {x : Touch} (h : (MemAct.ofEvent ⟨.cell a, w, true⟩).touch? = some x) : x.loc = .cell a ∧ x.kind = .atomic ∧ x.write = w := by
  simp only [ofEvent_cell, MemAct.touch?, Option.some.injEq] at h
  subst h
  exact ⟨rfl, rfl, rfl⟩
theorem touch_word {e : Event} {m : Mark} (h : e.loc = .mark m) (hr : ∀ a, m ≠ .read a) (hw : ∀ a, m ≠ .write a) : (MemAct.ofEvent e).touch? = none := by
  rw [ofEvent_loc_mark h]
  cases m <;> simp_all [MemAct.touch?]
theorem low_cell {a : Addr} {w s : Bool} (h : a.block < B) : (MemAct.ofEvent ⟨.cell a, w, s⟩).low B := by
  rw [ofEvent_cell]; exact h
theorem low_loc {e : Event} {m : Mark} (h : e.loc = .mark m) (hl : (MemAct.mark m).low B) : (MemAct.ofEvent e).low B := by
  rw [ofEvent_loc_mark h]; exact hl

/-- a worker deaf at the group's cells -/
theorem TR.group (A : L.Apart) (hS : ∀ a : Addr, a.block = Wg → L.Sh (.cell a)) (hB : Wg < B) (h : TR L c B Wg n ps j t) {i : Nat} (h1 : 1 ≤ i) (h2 : i ≤ j) (hd : 1 ≤ Deaf t (c + i)) (hes : EvG Wg es) : TR L c B Wg n ps j (t ++ MemOp.ofEvents (c + i) fn pos es) := by
  have hc := evG_cell hes
  have tw : ∀ e ∈ es, ∀ x, (MemAct.ofEvent e).touch? = some x → L.Sh x.loc ∧ x.kind = .atomic := fun e he x hx => by
    rcases hc e he with k | k | ⟨a, w, rfl, ha⟩
    · rw [touch_word k (fun _ e => by cases e) (fun _ e => by cases e)] at hx; cases hx
    · rw [touch_word k (fun _ e => by cases e) (fun _ e => by cases e)] at hx; cases hx
    · obtain ⟨e1, e2, _⟩ := touch_atomic hx
      exact ⟨by rw [e1]; exact hS a ha, e2⟩
  refine h.grow (g := c + i) ev_g (h.ct.appW A (k := c + i) (by omega) (by omega) fun op hop => ?_) (fun k r k1 k2 e hk hr => ?_) (norel_mem fun e he a hl => ?_) (fun _ hc => by omega) (fun _ x hx a ha _ => ?_) (fun op hop => ?_)
  · obtain ⟨e, he, rfl⟩ := ev_mem hop
    refine ⟨rfl, fun x hx => ?_⟩
    obtain ⟨k1, k2⟩ := tw e he x hx
    exact .inl ⟨k1, by rw [k2]; simp, by rw [k2]; simp⟩
  · have : k = i := by omega
    subst this
    refine hr.appOwn fn pos es (fun m x hx => ?_)
    rcases hc x (Array.mem_of_getElem? hx) with k | k | ⟨a, w, rfl, ha⟩
    · exact .inl (touch_word k (fun _ e => by cases e) (fun _ e => by cases e))
    · exact .inl (touch_word k (fun _ e => by cases e) (fun _ e => by cases e))
    · exact .inr ⟨⟨a, w, rfl⟩, evG_in hes hd m⟩
  · rcases hc e he with k | k | ⟨x, w, rfl, _⟩
    · rw [k] at hl; cases hl
    · rw [k] at hl; cases hl
    · cases hl
  · obtain ⟨op, hop, hoa⟩ := touch_new ha hx
    obtain ⟨e, he, rfl⟩ := ev_mem hop
    exact .inl (tw e he a hoa).1
  · obtain ⟨e, he, rfl⟩ := ev_mem hop
    rcases hc e he with k | k | ⟨a, w, rfl, ha⟩
    · exact low_loc k trivial
    · exact low_loc k trivial
    · exact low_cell (by omega)
theorem TR.group0 (A : L.Apart) (hS : ∀ a : Addr, a.block = Wg → L.Sh (.cell a)) (hB : Wg < B) (h : TR L c B Wg n ps j t) (hes : EvG Wg es) : TR L c B Wg n ps j (t ++ MemOp.ofEvents 0 fn pos es) := by
  have hc := evG_cell hes
  refine h.grow (g := 0) ev_g (h.ct.app0 A fun op hop => ?_) (fun k r k1 k2 e => by omega) (norel_mem fun e he a hl => ?_) (fun hc => absurd rfl hc) (fun hc => by omega) (fun op hop => ?_)
  · obtain ⟨e, he, rfl⟩ := ev_mem hop
    refine ⟨rfl, fun x hx => ?_⟩
    rcases hc e he with k | k | ⟨a, w, rfl, ha⟩
    · simp only [touch_word k (fun _ e => by cases e) (fun _ e => by cases e)] at hx; cases hx
    · simp only [touch_word k (fun _ e => by cases e) (fun _ e => by cases e)] at hx; cases hx
    · obtain ⟨e1, e2, _⟩ := touch_atomic hx
      exact .inl ⟨by rw [e1]; exact hS a ha, by rw [e2]; simp⟩
  · rcases hc e he with k | k | ⟨x, w, rfl, _⟩
    · rw [k] at hl; cases hl
    · rw [k] at hl; cases hl
    · cases hl
  · obtain ⟨e, he, rfl⟩ := ev_mem hop
    rcases hc e he with k | k | ⟨a, w, rfl, ha⟩
    · exact low_loc k trivial
    · exact low_loc k trivial
    · exact low_cell (by omega)
/-- the first says a word -/
theorem TR.word0 (A : L.Apart) (h : TR L c B Wg n ps j t) (m : Mark) (h1 : ∀ a, m ≠ .read a) (h2 : ∀ a, m ≠ .write a) (h3 : ∀ a, m ≠ .release a) (hl : (MemAct.mark m).low B) : TR L c B Wg n ps j (t ++ MemOp.ofEvents 0 fn pos #[Go.ConcR.mk m]) := by
  have e1 : ∀ e ∈ #[Go.ConcR.mk m], e = Go.ConcR.mk m := fun e he => by simpa using he
  refine h.grow (g := 0) ev_g (h.ct.app0 A fun op hop => ?_) (fun k r k1 k2 e => by omega) (norel_mem fun e he a hl => ?_) (fun hc => absurd rfl hc) (fun hc => by omega) (fun op hop => ?_)
  · obtain ⟨e, he, rfl⟩ := ev_mem hop
    rw [e1 e he]
    exact ⟨rfl, fun x hx => by simp only [touch_word (e := Go.ConcR.mk m) rfl h1 h2] at hx; cases hx⟩
  · rw [e1 e he] at hl
    exact h3 a (by injection hl)
  · obtain ⟨e, he, rfl⟩ := ev_mem hop
    rw [e1 e he]
    exact low_loc (e := Go.ConcR.mk m) rfl hl
/-- the release -/
theorem TR.release (A : L.Apart) (hB : Wg < B) (h : TR L c B Wg n ps j t) {i : Nat} (h1 : 1 ≤ i) (h2 : i ≤ j) (hp : ps i = .rel) (hd : Deaf t (c + i) = 0) : TR L c B Wg n (upd ps i .k1) j (t ++ MemOp.ofEvents (c + i) fn pos #[Go.ConcR.mk (.releaseMerge (stA Wg))]) := by
  have hk := h.none A (g := c + i) (es := #[Go.ConcR.mk (.releaseMerge (stA Wg))]) (fn := fn) (pos := pos) (by omega) (by omega) (fun e he => by simp at he; subst he; rfl) (fun e he a hl => by simp at he; subst he; cases hl) (fun e he => by simp at he; subst he; exact hB)
  have e0 : upd ps i .k1 0 = ps 0 := upd_ne _ _ (by omega)
  refine { hk with st := by rw [e0]; exact hk.st, rel := fun k k1 k2 hpk => ?_, acq := fun e => hk.acq (by rw [← e0]; exact e), ret := fun e k k1 k2 => ?_ }
  · by_cases e : k = i
    · subst e
      exact ⟨_, RelBy.new hd fn pos⟩
    · rw [upd_ne _ _ e] at hpk
      exact hk.rel k k1 k2 hpk
  · by_cases e' : k = i
    · rw [e', upd_same]; rfl
    · rw [upd_ne _ _ e']; exact hk.ret (by rw [← e0]; exact e) k k1 k2
/-- the acquire -/
theorem TR.acquire (A : L.Apart) (hB : Wg < B) (h : TR L c B Wg n ps j t) (hp : ps 0 = .acq) (hd : Deaf t 0 = 0) (hall : ∀ i, 1 ≤ i → i ≤ j → past (ps i) = true) : TR L c B Wg n (upd ps 0 .ret) j (t ++ MemOp.ofEvents 0 fn pos #[Go.ConcR.mk (.acquire (stA Wg))]) := by
  have hk := h.word0 A (.acquire (stA Wg)) (fn := fn) (pos := pos) (fun _ e => by cases e) (fun _ e => by cases e) (fun _ e => by cases e) hB
  have ei : ∀ i, 1 ≤ i → upd ps 0 .ret i = ps i := fun i hi => upd_ne _ _ (by omega)
  have e1 : MemOp.ofEvents 0 fn pos #[Go.ConcR.mk (.acquire (stA Wg))] = #[{ g := 0, fn, pos, act := .mark (.acquire (stA Wg)) }] := by rw [ofEvents_eq]; simp [ofEvent_mk]
  have hy : (t ++ MemOp.ofEvents 0 fn pos #[Go.ConcR.mk (.acquire (stA Wg))])[t.size]? = some { g := 0, fn, pos, act := .mark (.acquire (stA Wg)) } := by rw [e1]; simp
  have hst := h.st
  rw [hp] at hst
  refine { hk with st := by rw [upd_same]; exact hst, rel := fun k k1 k2 hpk => hk.rel k k1 k2 (by rw [← ei k k1]; exact hpk), acq := fun _ => ⟨t.size, by rw [act?_of hy], by simp [Trace.g?, hy], ⟨0, by simp [Trace.g?, hy], by rw [deaf_old (Nat.le_refl _)]; exact hd⟩, fun i h1 h2 => ?_⟩, ret := fun _ k k1 k2 => by rw [ei k k1]; exact hall k k1 k2 }
  obtain ⟨r, hr⟩ := h.rel i h1 h2 (hall i h1 h2)
  exact ⟨r, hr.appOther (g := 0) ev_g (by omega), lt_of_act? hr.act⟩
/-- the go statement -/
theorem TR.fork (A : L.Apart) (h : TR L c B Wg n ps j t) {p q : Pos Lam} (hp : started n (j + 1) p) (hq : past q = false) (hpr : p ≠ .ret) {fn' : FuncId} (h0 : Deaf t 0 = 0) :
    TR L c B Wg n (upd (upd ps 0 p) (j + 1) q) (j + 1) (t ++ #[{ g := 0, fn, pos, act := .go (c + 1 + j) }, { g := c + 1 + j, fn := fn', pos, act := .start }]) := by
  have e0 : upd (upd ps 0 p) (j + 1) q 0 = p := by rw [upd_ne _ _ (by omega), upd_same]
  have en : c + 1 + j = c + j + 1 := by omega
  rw [en]
  have hct := h.ct.fork A (by omega) (x := { g := 0, fn, pos, act := .go (c + j + 1) }) (y := { g := c + j + 1, fn := fn', pos, act := .start }) ⟨rfl, rfl⟩ ⟨rfl, rfl⟩ h0
  have hnt : ∀ op ∈ #[({ g := 0, fn, pos, act := .go (c + j + 1) } : MemOp), { g := c + j + 1, fn := fn', pos, act := .start }], op.act.touch? = Option.none ∧ (∀ a, op.act ≠ .mark (.release a)) ∧ op.act.low B ∧ (op.g = 0 ∨ op.g = c + j + 1) := by
    intro op hop
    simp only [List.mem_toArray, List.mem_cons, List.not_mem_nil, or_false] at hop
    rcases hop with rfl | rfl
    · exact ⟨rfl, (fun a e => by cases e), trivial, .inl rfl⟩
    · exact ⟨rfl, (fun a e => by cases e), trivial, .inr rfl⟩
  have gl : ∀ x k, (t ++ #[({ g := 0, fn, pos, act := .go (c + j + 1) } : MemOp), { g := c + j + 1, fn := fn', pos, act := .start }]).g? x = some k → (x < t.size ∧ t.g? x = some k) ∨ (t.size ≤ x ∧ (k = 0 ∨ k = c + j + 1)) := by
    intro x k hk
    obtain ⟨op, ho, rfl⟩ := Option.map_eq_some_iff.1 hk
    rcases getElem?_append_cases ho with ⟨h1, h2⟩ | ⟨h1, h2⟩
    · exact .inl ⟨h1, by simp [Trace.g?, h2]⟩
    · exact .inr ⟨h1, (hnt op h2).2.2.2⟩
  have tn : ∀ x a, t.size ≤ x → touchAt (t ++ #[({ g := 0, fn, pos, act := .go (c + j + 1) } : MemOp), { g := c + j + 1, fn := fn', pos, act := .start }]) x = some a → False := by
    intro x a hx ha
    obtain ⟨op, hop, hoa⟩ := touch_new ha hx
    rw [(hnt op hop).1] at hoa; cases hoa
  refine ⟨by rw [e0]; exact hp, hct, fun i h1 h2 hpi => ?_, fun e => absurd (e0.symm.trans e) hpr, fun e => absurd (e0.symm.trans e) hpr, h.norel.app (fun op hop => (hnt op hop).2.1 _), fun x a k ha hk h1 h2 hm => ?_, fun x k hk h1 h2 hc => ?_, fun x a k ha hk h1 hat => ?_, fun op hop => ?_⟩
  · by_cases e : i = j + 1
    · rw [e, upd_same, hq] at hpi; cases hpi
    · rw [upd_ne _ _ e, upd_ne _ _ (by omega)] at hpi
      obtain ⟨r, hr⟩ := h.rel i h1 (by omega) hpi
      refine ⟨r, hr.app fun x hx hg hc => ?_⟩
      obtain ⟨a, ha⟩ := counts_touch hc
      exact tn x a hx ha
  · rcases gl x k hk with ⟨hx, hk'⟩ | ⟨hx, _⟩
    · rw [touchAt_old hx] at ha
      exact (h.old x a k ha hk' h1 h2 hm).imp (fun e => e.app _) id
    · exact (tn x a hx ha).elim
  · rcases gl x k hk with ⟨hx, hk'⟩ | ⟨hx, _⟩
    · obtain ⟨y, y1, y2⟩ := h.over x k hk' h1 h2 ((counts_old hx).1 hc)
      have hy : y < t.size := by
        obtain ⟨op, ho, _⟩ := Option.map_eq_some_iff.1 y1
        exact lt_size_of_getElem? ho
      exact ⟨y, by rw [g?_old hy]; exact y1, hb_app _ y2⟩
    · obtain ⟨a, ha⟩ := counts_touch hc
      exact (tn x a hx ha).elim
  · rcases gl x k hk with ⟨hx, hk'⟩ | ⟨hx, _⟩
    · rw [touchAt_old hx] at ha
      exact (h.dk x a k ha hk' h1 hat).imp id (fun e => (counts_old hx).2 e)
    · exact (tn x a hx ha).elim
  · rcases Array.mem_append.1 hop with h1 | h1
    · exact h.seen op h1
    · exact (hnt op h1).2.2.1
end
end Go.Proofs.Ytboiolnnhmlieaa.Gang
