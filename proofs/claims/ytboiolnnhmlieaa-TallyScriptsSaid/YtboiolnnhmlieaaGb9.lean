
/-
  The worker's drawn region: its reads, whichever comes up first, then the tally's add.
  Conditions: stated lemma by lemma.
-/
import Derived.Test.YtboiolnnhmlieaaGb8
namespace Go.Proofs.Ytboiolnnhmlieaa.Gang
open Go.Conc Go.ConcN Go.RowKit Go.Conc.Lib Go.ConcR.Gen Go.ConcN.Gen
set_option linter.unusedVariables false
set_option linter.unusedSimpArgs false
section
variable {J : Job Try.prog Tal Lad} {T i bt bs bn ar off cap n K : Nat} {ty : TypeId} {r : List Value} {top : Int} {job : Nat → List (Nat × Int)} {goal : Nat → Int} {st : List (Nat × Int)} {w : World} {b : Frame} {k : List Item} {cs : List Frame} {ds : List Deferred}
set_option maxRecDepth 100000 in
set_option maxHeartbeats 8000000 in
theorem region4 (F : Adds J T ty r K n top job goal) (hi : (i == 0) = false) (h1 : 1 ≤ i) (hs : ∀ p g w, ¬ J.sit i p g w) (hL : Lent J T i bt bs bn ar off cap n st w) {u : Nat} (hu : u < st.length) (hc8 : (st[u]).1 < 8) {l : List (Nat × Int)} (hb : b.kind ≠ .early) {y0 y1 x6 x7 x8 x9 x10 x11 x12 x13 x14 x15 x16 x17 x18 x19 x20 x21 x22 x23 x24 x25 : Value}
    (hT : J.W i ((talBody K n top job goal).enter (.add l)) (G (b.at ⟨#[y0, y1, .pointer (some ⟨bs, 0, none⟩), .pointer (some ⟨bn, 0, none⟩), .pointer (some ⟨bt, 0, none⟩), .int .i64 (u : Int), x6, x7, x8, x9, x10, x11, x12, x13, .pointer (some ⟨T, 0, none⟩), .slice (some ⟨ar, off, none⟩) st.length cap, .int .i64 (u : Int), .pointer (some ⟨ar, off + u * 2, none⟩), .pointer (some ⟨ar, off + u * 2, none⟩), .int .i64 ((st[u]).1 : Int), .slice (some ⟨ar, off, none⟩) st.length cap, .int .i64 (u : Int), .pointer (some ⟨ar, off + u * 2, none⟩), .pointer (some ⟨ar, off + u * 2 + 1, none⟩), .int .i64 (st[u]).2, .tuple #[]], ds⟩ k) cs) w) :
    J.W i (.body (.add (st[u] :: l))) (G (b.at ⟨#[y0, y1, .pointer (some ⟨bs, 0, none⟩), .pointer (some ⟨bn, 0, none⟩), .pointer (some ⟨bt, 0, none⟩), .int .i64 (u : Int), x6, x7, x8, x9, x10, x11, x12, x13, x14, x15, x16, x17, x18, x19, x20, x21, x22, x23, x24, x25], ds⟩ (.code (.region 4 ops4 true) :: k)) cs) w := by
  have q0 : (Pos.body (.add (st[u] :: l)) : Pos Lad).quit = false := rfl
  have hu' : (u : Int) < (st.length : Int) := by omega
  refine W.draw hs q0 rfl (fun t => ?_)
  rw [ops4_size]
  refine anyW_sound (stop := (· == stopA)) (last := 11) (md := .any) (Q := fun a => a = ⟨#[y0, y1, .pointer (some ⟨bs, 0, none⟩), .pointer (some ⟨bn, 0, none⟩), .pointer (some ⟨bt, 0, none⟩), .int .i64 (u : Int), x6, x7, x8, x9, x10, x11, x12, x13, .pointer (some ⟨T, 0, none⟩), .slice (some ⟨ar, off, none⟩) st.length cap, .int .i64 (u : Int), .pointer (some ⟨ar, off + u * 2, none⟩), .pointer (some ⟨ar, off + u * 2, none⟩), .int .i64 ((st[u]).1 : Int), .slice (some ⟨ar, off, none⟩) st.length cap, .int .i64 (u : Int), .pointer (some ⟨ar, off + u * 2, none⟩), .pointer (some ⟨ar, off + u * 2 + 1, none⟩), .int .i64 (st[u]).2, x25], ds⟩) q0 hb ops4_last ops4_end (fun a ha => ?_) 11 t _ _ (by rw [ops4_size]; rfl) (fun j o _ hj => by simp [Array.getElem?_replicate] at hj) ?_
  rotate_left
  · simp only [ops4, b29, Try.f29, Option.getD_some]
    refine anyW_take (i' := 0) ops4_stop rfl (by decide) ops4_noSelect (by kernel_rfl) (by kernel_rfl) (.inl ⟨rfl, fun w₁ h₁ => by
      have hL' := hL.rely h₁
      have f1 := hL'.t
      have f2 := hL'.s
      have f3 := (hL'.c u hu).1
      have f4 := (hL'.c u hu).2
      refine ⟨by go_simp; rfl, fun e he => ?_⟩
      simp [go_sem, *] at he
      subst he
      exact hL'.says h1 rfl (b := bt) (by simp) _⟩) ?_
    walk_nrm
    refine anyW_take (i' := 1) ops4_stop rfl (by decide) ops4_noSelect (by kernel_rfl) (by kernel_rfl) (.inl ⟨rfl, fun w₁ h₁ => by
      have hL' := hL.rely h₁
      have f1 := hL'.t
      have f2 := hL'.s
      have f3 := (hL'.c u hu).1
      have f4 := (hL'.c u hu).2
      refine ⟨by go_simp; rfl, fun e he => ?_⟩
      simp [go_sem, *] at he
      subst he
      exact hL'.says h1 rfl (b := bs) (by simp) _⟩) ?_
    walk_nrm
    refine anyW_take (i' := 2) ops4_stop rfl (by decide) ops4_noSelect (by kernel_rfl) (by kernel_rfl) (.inl ⟨rfl, fun w₁ h₁ => by
      have hL' := hL.rely h₁
      have f1 := hL'.t
      have f2 := hL'.s
      have f3 := (hL'.c u hu).1
      have f4 := (hL'.c u hu).2
      refine ⟨by go_simp; rfl, fun e he => ?_⟩
      simp [go_sem, *] at he⟩) ?_
    walk_nrm
    refine anyW_take (i' := 3) ops4_stop rfl (by decide) ops4_noSelect (by kernel_rfl) (by kernel_rfl) (.inl ⟨rfl, fun w₁ h₁ => by
      have hL' := hL.rely h₁
      have f1 := hL'.t
      have f2 := hL'.s
      have f3 := (hL'.c u hu).1
      have f4 := (hL'.c u hu).2
      refine ⟨by go_simp; rfl, fun e he => ?_⟩
      simp [go_sem, *] at he⟩) ?_
    walk_nrm
    refine anyW_take (i' := 4) ops4_stop rfl (by decide) ops4_noSelect (by kernel_rfl) (by kernel_rfl) (.inl ⟨rfl, fun w₁ h₁ => by
      have hL' := hL.rely h₁
      have f1 := hL'.t
      have f2 := hL'.s
      have f3 := (hL'.c u hu).1
      have f4 := (hL'.c u hu).2
      refine ⟨by go_simp; rfl, fun e he => ?_⟩
      simp [go_sem, *] at he⟩) ?_
    walk_nrm
    refine anyW_take (i' := 5) ops4_stop rfl (by decide) ops4_noSelect (by kernel_rfl) (by kernel_rfl) (.inl ⟨rfl, fun w₁ h₁ => by
      have hL' := hL.rely h₁
      have f1 := hL'.t
      have f2 := hL'.s
      have f3 := (hL'.c u hu).1
      have f4 := (hL'.c u hu).2
      refine ⟨by go_simp; rfl, fun e he => ?_⟩
      simp [go_sem, *] at he
      subst he
      exact hL'.says h1 rfl (b := ar) (by simp) _⟩) ?_
    walk_nrm
    refine anyW_take (i' := 6) ops4_stop rfl (by decide) ops4_noSelect (by kernel_rfl) (by kernel_rfl) (.inl ⟨rfl, fun w₁ h₁ => by
      have hL' := hL.rely h₁
      have f1 := hL'.t
      have f2 := hL'.s
      have f3 := (hL'.c u hu).1
      have f4 := (hL'.c u hu).2
      refine ⟨by go_simp; rfl, fun e he => ?_⟩
      simp [go_sem, *] at he
      subst he
      exact hL'.says h1 rfl (b := bs) (by simp) _⟩) ?_
    walk_nrm
    refine anyW_take (i' := 7) ops4_stop rfl (by decide) ops4_noSelect (by kernel_rfl) (by kernel_rfl) (.inl ⟨rfl, fun w₁ h₁ => by
      have hL' := hL.rely h₁
      have f1 := hL'.t
      have f2 := hL'.s
      have f3 := (hL'.c u hu).1
      have f4 := (hL'.c u hu).2
      refine ⟨by go_simp; rfl, fun e he => ?_⟩
      simp [go_sem, *] at he⟩) ?_
    walk_nrm
    refine anyW_take (i' := 8) ops4_stop rfl (by decide) ops4_noSelect (by kernel_rfl) (by kernel_rfl) (.inl ⟨rfl, fun w₁ h₁ => by
      have hL' := hL.rely h₁
      have f1 := hL'.t
      have f2 := hL'.s
      have f3 := (hL'.c u hu).1
      have f4 := (hL'.c u hu).2
      refine ⟨by go_simp; rfl, fun e he => ?_⟩
      simp [go_sem, *] at he⟩) ?_
    walk_nrm
    refine anyW_take (i' := 9) ops4_stop rfl (by decide) ops4_noSelect (by kernel_rfl) (by kernel_rfl) (.inl ⟨rfl, fun w₁ h₁ => by
      have hL' := hL.rely h₁
      have f1 := hL'.t
      have f2 := hL'.s
      have f3 := (hL'.c u hu).1
      have f4 := (hL'.c u hu).2
      refine ⟨by go_simp; rfl, fun e he => ?_⟩
      simp [go_sem, *] at he⟩) ?_
    walk_nrm
    refine anyW_take (i' := 10) ops4_stop rfl (by decide) ops4_noSelect (by kernel_rfl) (by kernel_rfl) (.inl ⟨rfl, fun w₁ h₁ => by
      have hL' := hL.rely h₁
      have f1 := hL'.t
      have f2 := hL'.s
      have f3 := (hL'.c u hu).1
      have f4 := (hL'.c u hu).2
      refine ⟨by go_simp; rfl, fun e he => ?_⟩
      simp [go_sem, *] at he
      subst he
      exact hL'.says h1 rfl (b := ar) (by simp) _⟩) ?_
    walk_nrm
    exact ⟨by kernel_rfl, rfl⟩
  · subst ha
    simp only [ops4, b29, Try.f29, Option.getD_some]
    have hA := fun (a₀ : Act) (ops₀ : Array Oper) (i₀ : Nat) (rest₀ : List Nat) => addAll (J := J) (w := w) (b₀ := b) (a₀ := a₀) (ops₀ := ops₀) (i₀ := i₀) (rest₀ := rest₀) (k₀ := k) (cs := cs) F hi hc8 (l := l) (d := (st[u]).2) (c := (st[u]).1)
    simp only [addBody, Try.f24, Option.getD_some] at hA
    refine W.call q0 rfl rfl hb rfl Try.func24 nm24 rfl ?_
    walk_nrmf Try.f24
    refine hA _ _ _ _ ?_
    refine W.regionEnd (enter_quit _) ?_
    exact hT
end
end Go.Proofs.Ytboiolnnhmlieaa.Gang
