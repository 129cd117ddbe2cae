/-
  One or two wheels, and rows of items beside them: what the methods leave of all.
  Conditions: stated lemma by lemma.
-/
import Derived.Test.YtheocdfccdpmbaaWhB
namespace Go.Proofs.Ytheocdfccdpmbaa
open Go.RowKit Go.Maps
set_option linter.unusedVariables false
set_option linter.unusedSimpArgs false

/-- a wheel: where it lies, where it stands, what it holds -/
structure Wd where
  g : Nat
  mb : Nat
  now : Int
  S : List Itm
def WhO : Option Wd → (Nat → Value) → World → Prop
  | none, _, _ => True
  | some d, pv, W => WhS d.g d.mb pv d.now d.S W
def WBO : Option Wd → (Nat → Value) → Nat → Prop
  | none, _, _ => False
  | some d, pv, b => WB d.g d.mb pv b
theorem WhO.turn {B : Nat → Prop} {w w' : World} : ∀ {o : Option Wd} {pv : Nat → Value}, WhO o pv w → Turn B w w' → (∀ b, WBO o pv b → ¬ B b) → WhO o pv w'
  | none, _, _, _, _ => trivial
  | some d, pv, h, t, hB => WhS.turn h t hB
theorem WhO.lt {w : World} : ∀ {o : Option Wd} {pv : Nat → Value}, WhO o pv w → ∀ b, WBO o pv b → b < w.heap.size
  | none, _, _, _, h => h.elim
  | some d, pv, h, b, hb => WhS.lt h b hb
structure Sta (w0 : World) (d : Wd) (o : Option Wd) (rows : List (Value × List Itm)) (pv pv2 : Nat → Value) (W : World) : Prop where
  wh : WhS d.g d.mb pv d.now d.S W
  wo : WhO o pv2 W
  dis : ∀ b, WBO o pv2 b → ¬ WB d.g d.mb pv b
  bel : Below w0.heap.size w0 W
  lo : ∀ b, WB d.g d.mb pv b → w0.heap.size ≤ b
  lo2 : ∀ b, WBO o pv2 b → w0.heap.size ≤ b
  held : ∀ r ∈ rows, OwnL layW 31 W w0.heap.size r.1 r.2 ∧ ∀ b, r.1.ownBlock = some b → ¬ WB d.g d.mb pv b ∧ ¬ WBO o pv2 b
  apart : rows.Pairwise fun r s => Apart r.1 s.1
/-- one or two wheels and rows behind a call -/
def Stt (w0 : World) (d : Wd) (o : Option Wd) (rows : List (Value × List Itm)) (W : World) : Prop := ∃ pv pv2, Sta w0 d o rows pv pv2 W
namespace Stt
variable {w0 W W' : World} {d : Wd} {o : Option Wd} {rows : List (Value × List Itm)}
theorem below (h : Stt w0 d o rows W) : Below w0.heap.size w0 W := by obtain ⟨_, _, h⟩ := h; exact h.bel
theorem wh (h : Stt w0 d o rows W) : ∃ pv, WhS d.g d.mb pv d.now d.S W := by obtain ⟨pv, _, h⟩ := h; exact ⟨pv, h.wh⟩
theorem bel (h : Stt w0 d o rows W) (hb : Below W.heap.size W W') : Stt w0 d o rows W' := by
  obtain ⟨pv, pv2, h⟩ := h
  exact ⟨pv, pv2, h.wh.bel hb, h.wo.turn (B := fun _ => False) (.bel hb) (fun _ _ e => e), h.dis, bel_tr h.bel hb, h.lo, h.lo2, fun r hr => ⟨(h.held r hr).1.kept hb, (h.held r hr).2⟩, h.apart⟩
theorem of_one {g mb : Nat} {now : Int} {S : List Itm} (h : One w0 g mb now S W) : Stt w0 ⟨g, mb, now, S⟩ none [] W := by
  obtain ⟨pv, h1, h2, h3⟩ := h
  exact ⟨pv, pv, h1, trivial, fun b e => e.elim, h2, h3, fun b e => e.elim, fun r hr => (by cases hr), .nil⟩
theorem swap {d2 : Wd} (h : Stt w0 d (some d2) rows W) : Stt w0 d2 (some d) rows W := by
  obtain ⟨pv, pv2, h⟩ := h
  exact ⟨pv2, pv, h.wo, h.wh, fun b e e2 => h.dis b e2 e, h.bel, h.lo2, h.lo, fun r hr => ⟨(h.held r hr).1, fun b e => ⟨((h.held r hr).2 b e).2, ((h.held r hr).2 b e).1⟩⟩, h.apart⟩
theorem put (h : Stt w0 d none rows W) {g mb : Nat} {now : Int} (k : One W g mb now [] W') : Stt w0 d (some ⟨g, mb, now, []⟩) rows W' := by
  obtain ⟨pv, pv2, h⟩ := h
  obtain ⟨pv', k1, k2, k3⟩ := k
  exact ⟨pv, pv', h.wh.bel k2, k1, fun b e e2 => by have := k3 b e; have := h.wh.lt b e2; omega, bel_tr h.bel k2, h.lo, fun b e => Nat.le_trans h.bel.size (k3 b e),
    fun r hr => ⟨(h.held r hr).1.kept k2, fun b e => ⟨((h.held r hr).2 b e).1, fun e2 => by have := k3 b e2; have := (h.held r hr).1.lt2 b e; omega⟩⟩, h.apart⟩
theorem to1 {pv pv2 : Nat → Value} (h : Sta w0 d o rows pv pv2 W) {now1 : Int} {S1 : List Itm} (k : WTo W d.g d.mb pv now1 S1 W') : Stt w0 ⟨d.g, d.mb, now1, S1⟩ o rows W' := by
  obtain ⟨pv', k1, k2, k3⟩ := k
  refine ⟨pv', pv2, k1, h.wo.turn k2 h.dis, fun b e e2 => ?_, k2.below h.bel h.lo h.bel.size, fun b e => ?_, h.lo2, fun r hr => ⟨(h.held r hr).1.turn k2 (fun b e => ((h.held r hr).2 b e).1), fun b e => ⟨fun e2 => ?_, ((h.held r hr).2 b e).2⟩⟩, h.apart⟩
  · rcases k3 b e2 with e3 | e3
    · exact h.dis b e e3
    · have := h.wo.lt b e; omega
  · rcases k3 b e with e3 | e3
    · exact h.lo b e3
    · exact Nat.le_trans h.bel.size e3
  · rcases k3 b e2 with e3 | e3
    · exact ((h.held r hr).2 b e).1 e3
    · have := (h.held r hr).1.lt2 b e; omega
theorem new1 {pv pv2 : Nat → Value} (h : Sta w0 d o rows pv pv2 W) {now1 : Int} {S1 : List Itm} {v : Value} {l : List Itm} (k : WhNew W d.g d.mb pv now1 S1 v l W') : Stt w0 ⟨d.g, d.mb, now1, S1⟩ o ((v, l) :: rows) W' := by
  obtain ⟨pv', k1, k2, k3, k4, k5, k6⟩ := k
  have hv : OwnL layW 31 W' w0.heap.size v l := by
    refine ⟨k4.1, ?_⟩
    rcases k4.2 with hn | ⟨g, cap, cur, rfl, hg, rest⟩
    · exact .inl hn
    · exact .inr ⟨g, cap, cur, rfl, Nat.le_trans h.bel.size (k6 g rfl), rest⟩
  refine ⟨pv', pv2, k1, h.wo.turn k2 h.dis, fun b e e2 => ?_, k2.below h.bel h.lo h.bel.size, fun b e => ?_, h.lo2, fun r hr => ?_, ?_⟩
  · rcases k3 b e2 with e3 | e3
    · exact h.dis b e e3
    · have := h.wo.lt b e; omega
  · rcases k3 b e with e3 | e3
    · exact h.lo b e3
    · exact Nat.le_trans h.bel.size e3
  · rcases List.mem_cons.1 hr with rfl | hr
    · exact ⟨hv, fun b e => ⟨k5 b e, fun e2 => by have := k6 b e; have := h.wo.lt b e2; omega⟩⟩
    · refine ⟨(h.held r hr).1.turn k2 (fun b e => ((h.held r hr).2 b e).1), fun b e => ⟨fun e2 => ?_, ((h.held r hr).2 b e).2⟩⟩
      rcases k3 b e2 with e3 | e3
      · exact ((h.held r hr).2 b e).1 e3
      · have := (h.held r hr).1.lt2 b e; omega
  · exact List.pairwise_cons.2 ⟨fun r hr b e e2 => by have := k6 b e; have := (h.held r hr).1.lt2 b e2; omega, h.apart⟩
/-- a row that a reading method answers -/
theorem row (h : Stt w0 d o rows W) {v : Value} {l : List Itm} (ho : OwnL layW 31 W' W.heap.size v l) (hb : Below W.heap.size W W') : Stt w0 d o ((v, l) :: rows) W' := by
  obtain ⟨pv, pv2, h1⟩ := h.bel hb
  obtain ⟨qv, qv2, h0⟩ := h
  have hk : ∀ b, v.ownBlock = some b → W.heap.size ≤ b := fun b e => (World.ownsRow.lt ho b e).1
  refine ⟨qv, qv2, h0.wh.bel hb, h0.wo.turn (B := fun _ => False) (.bel hb) (fun _ _ e => e), h0.dis, h1.bel, h0.lo, h0.lo2, fun r hr => ?_, List.pairwise_cons.2 ⟨fun r hr b e e2 => by have := hk b e; have := (h0.held r hr).1.lt2 b e2; omega, h0.apart⟩⟩
  rcases List.mem_cons.1 hr with rfl | hr
  · exact ⟨ho.low2 h0.bel.size, fun b e => ⟨fun e2 => by have := hk b e; have := h0.wh.lt b e2; omega, fun e2 => by have := hk b e; have := h0.wo.lt b e2; omega⟩⟩
  · exact ⟨(h0.held r hr).1.kept hb, (h0.held r hr).2⟩
theorem app {v v' : Value} {l k : List Itm} (h : Stt w0 d o ((v, l) :: rows) W) (ho : OwnL layW 31 W' w0.heap.size v' (l ++ k)) (hg : W.grownBy W' v.ownBlock) (h3 : v'.ownBlock = v.ownBlock ∨ v'.ownBlock = some W.heap.size) : Stt w0 d o ((v', l ++ k) :: rows) W' := by
  obtain ⟨pv, pv2, h⟩ := h
  have hv := h.held _ (List.mem_cons_self ..)
  have t := Turn.grown hg
  have ha := List.pairwise_cons.1 h.apart
  have hlo : ∀ b, v.ownBlock = some b → w0.heap.size ≤ b := fun b e => (World.ownsRow.lt hv.1 b e).1
  refine ⟨pv, pv2, h.wh.turn t (fun b e e2 => (hv.2 b e2).1 e), h.wo.turn t (fun b e e2 => (hv.2 b e2).2 e), h.dis, t.below h.bel hlo h.bel.size, h.lo, h.lo2, fun r hr => ?_, List.pairwise_cons.2 ⟨fun r hr b e e2 => ?_, ha.2⟩⟩
  · rcases List.mem_cons.1 hr with rfl | hr
    · refine ⟨ho, fun b e => ?_⟩
      rcases h3 with h3 | h3
      · rw [h3] at e; exact hv.2 b e
      · rw [h3] at e
        injection e with e
        exact ⟨fun e2 => by have := h.wh.lt b e2; omega, fun e2 => by have := h.wo.lt b e2; omega⟩
    · have hr2 := h.held r (List.mem_cons_of_mem _ hr)
      exact ⟨hr2.1.turn t (fun b e e2 => ha.1 r hr b e2 e), hr2.2⟩
  · rcases h3 with h3 | h3
    · rw [h3] at e; exact ha.1 r hr b e e2
    · rw [h3] at e
      injection e with e
      have := (h.held r (List.mem_cons_of_mem _ hr)).1.lt2 b e2
      omega
theorem drop (h : Stt w0 d o rows W) {rows' : List (Value × List Itm)} (hs : rows'.Sublist rows) : Stt w0 d o rows' W := by
  obtain ⟨pv, pv2, h⟩ := h
  exact ⟨pv, pv2, h.wh, h.wo, h.dis, h.bel, h.lo, h.lo2, fun r hr => h.held r (hs.subset hr), h.apart.sublist hs⟩
theorem own (h : Stt w0 d o rows W) {v : Value} {l : List Itm} (hr : (v, l) ∈ rows) : OwnL layW 31 W w0.heap.size v l := by
  obtain ⟨pv, pv2, h⟩ := h
  exact (h.held _ hr).1
theorem rd (h : Stt w0 d o rows W) {A : Option Addr} {n c : Nat} {l : List Itm} (hr : (.slice A n c, l) ∈ rows) : RdL layW W A l := by
  obtain ⟨A', cap', e, -, -, hrd, -⟩ := (h.own hr).form
  injection e with e _ _
  rw [e]; exact hrd
end Stt
theorem insert_st {w0 W : World} {d : Wd} {o : Option Wd} {rows : List (Value × List Itm)} (H : Hid (Stt w0 d o rows W)) (i : Itm) (h0 : -9223372036854775808 ≤ i.id) (h1 : i.id ≤ 9223372036854775807) :
    Calls Try.prog 15 #[.pointer (some ⟨d.g, 0, none⟩), itmV i] W fun e w' => e = .returned (.int .i64 (Wh.insE d.now d.S i)) ∧ Stt w0 ⟨d.g, d.mb, d.now, Wh.insS d.now d.S i⟩ o rows w' := by
  obtain ⟨pv, pv2, h⟩ := H.out
  refine (insert_calls (Lib.hid h.wh) i h0 h1).mono ?_
  rintro e w' ⟨rfl, hw⟩
  exact ⟨rfl, Stt.to1 h hw⟩
/-- what an advance answers, one or two wheels and rows -/
def AdvS (w0 : World) (d : Wd) (o : Option Wd) (rows : List (Value × List Itm)) (to : Int) (e : Ending) (w' : World) : Prop :=
  if advE d.now to = 0 then ∃ A cap, e = .returned (.tuple #[.slice A (Wh.upto to d.S).length cap, .int .i64 0]) ∧ Stt w0 ⟨d.g, d.mb, to, Wh.past to d.S⟩ o ((.slice A (Wh.upto to d.S).length cap, Wh.upto to d.S) :: rows) w'
  else e = .returned (.tuple #[.slice none 0 0, .int .i64 30]) ∧ Stt w0 d o rows w'
theorem advance_st {w0 W : World} {d : Wd} {o : Option Wd} {rows : List (Value × List Itm)} (H : Hid (Stt w0 d o rows W)) (to : Int) :
    Calls Try.prog 16 #[.pointer (some ⟨d.g, 0, none⟩), .int .i64 to] W (AdvS w0 d o rows to) := by
  obtain ⟨pv, pv2, h⟩ := H.out
  refine (advance_calls (Lib.hid h.wh) to).mono ?_
  intro e w' hw
  unfold AdvTo at hw
  unfold AdvS
  by_cases c : advE d.now to = 0
  · rw [if_pos c] at hw ⊢
    obtain ⟨A, cap, rfl, hn⟩ := hw
    exact ⟨A, cap, rfl, Stt.new1 h hn⟩
  · rw [if_neg c] at hw ⊢
    obtain ⟨rfl, hn⟩ := hw
    exact ⟨rfl, Stt.to1 h hn⟩
theorem waiting_st {w0 W : World} {d : Wd} {o : Option Wd} {rows : List (Value × List Itm)} (H : Hid (Stt w0 d o rows W)) :
    Calls Try.prog 18 #[.pointer (some ⟨d.g, 0, none⟩)] W fun e w' => ∃ A cap, e = .returned (.slice A d.S.length cap) ∧ Stt w0 d o ((.slice A d.S.length cap, d.S) :: rows) w' := by
  obtain ⟨pv, pv2, h⟩ := H.out
  refine (waiting_calls (Lib.hid h.wh)).mono ?_
  rintro e w' ⟨A, cap, rfl, ho, hb⟩
  exact ⟨A, cap, rfl, H.out.row ho hb⟩
theorem now_st {w0 W : World} {d : Wd} {o : Option Wd} {rows : List (Value × List Itm)} (H : Hid (Stt w0 d o rows W)) :
    Calls Try.prog 19 #[.pointer (some ⟨d.g, 0, none⟩)] W fun e w' => e = .returned (.int .i64 d.now) ∧ W = w' := by
  obtain ⟨pv, pv2, h⟩ := H.out
  exact now_calls (Lib.hid h.wh)
end Go.Proofs.Ytheocdfccdpmbaa
