
/-
  A worker of Draw: its drawn region.
  Conditions: stated lemma by lemma.
-/
import Derived.Test.YtboiolnnhmlieaaGb15
namespace Go.Proofs.Ytboiolnnhmlieaa.Gang
open Go.Conc Go.ConcN Go.RowKit Go.Conc.Lib Go.ConcR.Gen Go.ConcN.Gen
open Go.ConcR (wgBlock WgAt stA smA rd wr KK)
set_option linter.unusedVariables false
set_option linter.unusedSimpArgs false
section
variable {J : Job Try.prog Dx Dl} {T A i be bt ba bw : Nat} {sl : Option Addr} {cap n each w0 : Nat} {tl : Tl} {w w₁ : World}
set_option maxRecDepth 100000 in
set_option maxHeartbeats 8000000 in
theorem draw4 (F : Draws J T A n each tl) (hi : (i == 0) = false) (h1 : 1 ≤ i) (hs : ∀ p g w, ¬ J.sit i p g w) (hL : DKid J T A i be bt ba bw sl cap n each w0 w) (hw0 : w0 + 1 = i) {j q z NN : Nat} (hj : j < each) (hn : w0 < n) (hq : w0 * each = q) (hz : w0 * each + j = z) (hNN : n * each = NN) (hN : n * each ≤ 1099511627776) {b : Frame} {k : List Item} {cs : List Frame} {ds : List Deferred} (hb : b.kind ≠ .early) {y0 x6 x7 x8 x9 x10 x11 x12 x13 x14 x15 x16 x17 x18 x19 x20 x21 : Value}
    (hT : ∀ u : Int, J.W i ((drawBody n each tl.tick).enter (.tick w0 (j + 1))) (G (b.at ⟨#[y0, .pointer (some ⟨be, 0, none⟩), .pointer (some ⟨bt, 0, none⟩), .pointer (some ⟨ba, 0, none⟩), .pointer (some ⟨bw, 0, none⟩), .int .i64 (j : Int), x6, x7, x8, x9, .slice (some ⟨A, 0, none⟩) (NN) cap, .int .i64 (w0 : Int), .int .i64 (each : Int), .int .i64 (q : Int), .int .i64 (j : Int), .int .i64 (z : Int), .pointer (some ⟨T, 0, none⟩), .pointer (some ⟨T, 0, none⟩), .pointer (some ⟨T, 9, none⟩), .int .i64 u, .pointer (some ⟨A, z, none⟩), x21], ds⟩ k) cs) w) :
    J.W i (.body (.tick w0 j)) (G (b.at ⟨#[y0, .pointer (some ⟨be, 0, none⟩), .pointer (some ⟨bt, 0, none⟩), .pointer (some ⟨ba, 0, none⟩), .pointer (some ⟨bw, 0, none⟩), .int .i64 (j : Int), x6, x7, x8, x9, x10, x11, x12, x13, x14, x15, x16, x17, x18, x19, x20, x21], ds⟩ (.code (.region 4 ops35 true) :: k)) cs) w := by
  have hzN : z < NN := by rw [← hz, ← hNN]; exact cell_lt hj hn
  have hqz : q ≤ z := by omega
  have hm : IntKind.i64.wrap ((w0 : Int) * (each : Int)) = (q : Int) := by
    rw [show (w0 : Int) * (each : Int) = ((w0 * each : Nat) : Int) from (Int.natCast_mul w0 each).symm, hq, IntKind.wrap_i64]
    omega
  have ha : IntKind.i64.wrap ((q : Int) + (j : Int)) = (z : Int) := by
    rw [IntKind.wrap_i64]
    omega
  have hzi : (z : Int) < (NN : Int) := by omega
  have hsl := hL.lent (by omega)
  subst hsl
  let S : Pos Dl → Prop := fun p => p = .body (.tick w0 j) ∨ ∃ u, p = .body (.put w0 j u)
  have hSq : ∀ p, S p → p.quit = false := fun p hp => by rcases hp with rfl | ⟨u, rfl⟩ <;> rfl
  have hpast : ∀ p, S p → past p = false := fun p hp => by rcases hp with rfl | ⟨u, rfl⟩ <;> rfl
  have hC := fun {w : World} => tick_conW (w := w) (w0 := w0) (j := j) F hi
  refine W.draw hs rfl rfl (fun t => ?_)
  rw [ops35_size]
  refine anyU_sound (S := S) (stop := (· == stopA)) (last := 11) (md := .any) (Q := fun p a => ∃ u, p = .body (.put w0 j u) ∧ a = ⟨#[y0, .pointer (some ⟨be, 0, none⟩), .pointer (some ⟨bt, 0, none⟩), .pointer (some ⟨ba, 0, none⟩), .pointer (some ⟨bw, 0, none⟩), .int .i64 (j : Int), x6, x7, x8, x9, .slice (some ⟨A, 0, none⟩) (NN) cap, .int .i64 (w0 : Int), .int .i64 (each : Int), .int .i64 (q : Int), .int .i64 (j : Int), .int .i64 (z : Int), .pointer (some ⟨T, 0, none⟩), .pointer (some ⟨T, 0, none⟩), .pointer (some ⟨T, 9, none⟩), .int .i64 u, .pointer (some ⟨A, z, none⟩), x21], ds⟩) hSq hb ops35_last ops35_end (fun p a hS ha => ?_) 11 t _ _ _ (by rw [ops35_size]; rfl) (fun j o _ hj => by simp [Array.getElem?_replicate] at hj) ?_
  rotate_left
  · simp only [ops35, b35, Try.f35, Option.getD_some]
    refine anyU_take (i' := 0) ops35_stop rfl (by decide) ops35_noSelect (by kernel_rfl) (by kernel_rfl) (by kernel_rfl) (fun p' hp' => .inl ⟨rfl, fun w₁ h₁ => by
      have hL' := hL.rely h₁
      have f1 := hL'.ev
      have f2 := hL'.tv
      have f3 : w₁.cell? ⟨ba, 0, none⟩ = some (.slice (some ⟨A, 0, none⟩) NN cap) := by rw [← hNN]; exact hL'.av
      have f4 := hL'.wv
      refine ⟨by go_simp; rfl, fun e he => ?_⟩
      simp [go_sem, *] at he
      subst he
      exact hL'.says h1 (hpast p' hp') (b := ba) (by simp) _⟩) ?_
    walk_nrm
    refine anyU_take (i' := 1) ops35_stop rfl (by decide) ops35_noSelect (by kernel_rfl) (by kernel_rfl) (by kernel_rfl) (fun p' hp' => .inl ⟨rfl, fun w₁ h₁ => by
      have hL' := hL.rely h₁
      have f1 := hL'.ev
      have f2 := hL'.tv
      have f3 : w₁.cell? ⟨ba, 0, none⟩ = some (.slice (some ⟨A, 0, none⟩) NN cap) := by rw [← hNN]; exact hL'.av
      have f4 := hL'.wv
      refine ⟨by go_simp; rfl, fun e he => ?_⟩
      simp [go_sem, *] at he
      subst he
      exact hL'.says h1 (hpast p' hp') (b := bw) (by simp) _⟩) ?_
    walk_nrm
    refine anyU_take (i' := 2) ops35_stop rfl (by decide) ops35_noSelect (by kernel_rfl) (by kernel_rfl) (by kernel_rfl) (fun p' hp' => .inl ⟨rfl, fun w₁ h₁ => by
      have hL' := hL.rely h₁
      have f1 := hL'.ev
      have f2 := hL'.tv
      have f3 : w₁.cell? ⟨ba, 0, none⟩ = some (.slice (some ⟨A, 0, none⟩) NN cap) := by rw [← hNN]; exact hL'.av
      have f4 := hL'.wv
      refine ⟨by go_simp; rfl, fun e he => ?_⟩
      simp [go_sem, *] at he
      subst he
      exact hL'.says h1 (hpast p' hp') (b := be) (by simp) _⟩) ?_
    walk_nrm
    refine anyU_take (i' := 3) ops35_stop rfl (by decide) ops35_noSelect (by kernel_rfl) (by kernel_rfl) (by kernel_rfl) (fun p' hp' => .inl ⟨rfl, fun w₁ h₁ => by
      have hL' := hL.rely h₁
      have f1 := hL'.ev
      have f2 := hL'.tv
      have f3 : w₁.cell? ⟨ba, 0, none⟩ = some (.slice (some ⟨A, 0, none⟩) NN cap) := by rw [← hNN]; exact hL'.av
      have f4 := hL'.wv
      refine ⟨by go_simp; rfl, fun e he => ?_⟩
      simp [go_sem, *] at he⟩) ?_
    walk_nrm
    refine anyU_take (i' := 4) ops35_stop rfl (by decide) ops35_noSelect (by kernel_rfl) (by kernel_rfl) (by kernel_rfl) (fun p' hp' => .inl ⟨rfl, fun w₁ h₁ => by
      have hL' := hL.rely h₁
      have f1 := hL'.ev
      have f2 := hL'.tv
      have f3 : w₁.cell? ⟨ba, 0, none⟩ = some (.slice (some ⟨A, 0, none⟩) NN cap) := by rw [← hNN]; exact hL'.av
      have f4 := hL'.wv
      refine ⟨by go_simp; rfl, fun e he => ?_⟩
      simp [go_sem, *] at he⟩) ?_
    walk_nrm
    refine anyU_take (i' := 5) ops35_stop rfl (by decide) ops35_noSelect (by kernel_rfl) (by kernel_rfl) (by kernel_rfl) (fun p' hp' => .inl ⟨rfl, fun w₁ h₁ => by
      have hL' := hL.rely h₁
      have f1 := hL'.ev
      have f2 := hL'.tv
      have f3 : w₁.cell? ⟨ba, 0, none⟩ = some (.slice (some ⟨A, 0, none⟩) NN cap) := by rw [← hNN]; exact hL'.av
      have f4 := hL'.wv
      refine ⟨by go_simp; rfl, fun e he => ?_⟩
      simp [go_sem, *] at he⟩) ?_
    walk_nrm
    refine anyU_take (i' := 6) ops35_stop rfl (by decide) ops35_noSelect (by kernel_rfl) (by kernel_rfl) (by kernel_rfl) (fun p' hp' => .inl ⟨rfl, fun w₁ h₁ => by
      have hL' := hL.rely h₁
      have f1 := hL'.ev
      have f2 := hL'.tv
      have f3 : w₁.cell? ⟨ba, 0, none⟩ = some (.slice (some ⟨A, 0, none⟩) NN cap) := by rw [← hNN]; exact hL'.av
      have f4 := hL'.wv
      refine ⟨by go_simp; rfl, fun e he => ?_⟩
      simp [go_sem, *] at he
      subst he
      exact hL'.says h1 (hpast p' hp') (b := bt) (by simp) _⟩) ?_
    walk_nrm
    refine anyU_take (i' := 7) ops35_stop rfl (by decide) ops35_noSelect (by kernel_rfl) (by kernel_rfl) (by kernel_rfl) (fun p' hp' => .inl ⟨rfl, fun w₁ h₁ => by
      have hL' := hL.rely h₁
      have f1 := hL'.ev
      have f2 := hL'.tv
      have f3 : w₁.cell? ⟨ba, 0, none⟩ = some (.slice (some ⟨A, 0, none⟩) NN cap) := by rw [← hNN]; exact hL'.av
      have f4 := hL'.wv
      refine ⟨by go_simp; rfl, fun e he => ?_⟩
      simp [go_sem, *] at he⟩) ?_
    walk_nrm
    refine anyU_take (i' := 8) ops35_stop rfl (by decide) ops35_noSelect (by kernel_rfl) (by kernel_rfl) (by kernel_rfl) (fun p' hp' => .inl ⟨rfl, fun w₁ h₁ => by
      have hL' := hL.rely h₁
      have f1 := hL'.ev
      have f2 := hL'.tv
      have f3 : w₁.cell? ⟨ba, 0, none⟩ = some (.slice (some ⟨A, 0, none⟩) NN cap) := by rw [← hNN]; exact hL'.av
      have f4 := hL'.wv
      refine ⟨by go_simp; rfl, fun e he => ?_⟩
      simp [go_sem, *] at he⟩) ?_
    walk_nrm
    refine anyU_call (j := 9) hC rfl (by kernel_rfl) rfl (.inl rfl) rfl rfl (by simp only [List.map_toArray, List.map_cons, List.map_nil]; rfl) (fun p' v hv => ?_)
    obtain ⟨u, rfl, rfl⟩ := hv
    walk_nrm
    refine anyU_take (i' := 10) ops35_stop rfl (by decide) ops35_noSelect (by kernel_rfl) (by kernel_rfl) (by kernel_rfl) (fun p' hp' => .inl ⟨rfl, fun w₁ h₁ => by
      have hL' := hL.rely h₁
      have f1 := hL'.ev
      have f2 := hL'.tv
      have f3 : w₁.cell? ⟨ba, 0, none⟩ = some (.slice (some ⟨A, 0, none⟩) NN cap) := by rw [← hNN]; exact hL'.av
      have f4 := hL'.wv
      refine ⟨by go_simp; rfl, fun e he => ?_⟩
      simp [go_sem, *] at he⟩) ?_
    walk_nrm
    exact ⟨.inr ⟨u, rfl⟩, by kernel_rfl, u, rfl, rfl⟩
  · obtain ⟨u, rfl, rfl⟩ := ha
    simp only [ops35, b35, Try.f35, Option.getD_some]
    refine W.body (T := A) hi F.shbA F.wgA rfl rfl (fun w₁ h₁ x hx hc => ?_)
    obtain ⟨hc', hca⟩ := (F.cx x w₁).1 hc
    have e : (drawBody n each tl.tick).stp (.put w0 j u) x = (⟨x.tick, upd x.arr (w0 * each + j) u⟩, .tick w0 (j + 1)) := rfl
    have g1 := hca.cell (k := z) (by omega)
    have g2 := hca.thaw z
    refine ⟨_, _, _, stepG_none (w' := w₁.setCell ⟨A, z, none⟩ (.int .i64 u)) rfl rfl hb (by go_simp), ?_, aside_setCell w₁ ⟨A, z, none⟩ _, ?_, ?_⟩
    · rw [F.B, e]
      exact (F.cx _ _).2 ⟨by
        unfold TlAt TalAt
        rw [Below.heap_setCell _ _ _ _ F.ta]
        exact hc', by
        have := hca.set (k := z) (by omega) u
        rw [hz]
        exact this⟩
    · intro e' he
      have he := mem_listed he
      simp [go_sem, *] at he
      subst he
      have := F.own i j h1 hj
      rw [show i - 1 = w0 by omega, hz] at this
      exact ev_own h1 this F.bdA
    · rw [F.B, e]
      refine W.regionEnd (d_enter_quit _) ?_
      exact hT u
end
end Go.Proofs.Ytboiolnnhmlieaa.Gang
