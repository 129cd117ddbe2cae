/-
  A wheel and its reference side by side.
  Conditions: stated lemma by lemma.
-/
import Derived.Test.YtheocdfccdpmbaaWhU
namespace Go.Proofs.Ytheocdfccdpmbaa
open Go.ChangeShapes Go.WideShapes Go.ChangeAt Go.RowKit Go.Deep Go.Maps
set_option linter.unusedVariables false
set_option linter.unusedSimpArgs false

structure Duo0 (w0 : World) (d : Wd) (rg : Nat) (rn : Int) (R : List Itm) (v : Value) (pv : Nat → Value) (W : World) : Prop where
  wh : WhS d.g d.mb pv d.now d.S W
  rf : RfS w0.heap.size rg rn v R W
  bel : Below w0.heap.size w0 W
  lo : ∀ b, WB d.g d.mb pv b → w0.heap.size ≤ b
  dis : ∀ b, (b = rg ∨ v.ownBlock = some b) → ¬ WB d.g d.mb pv b
/-- a row that can be read and that nobody writes -/
def Far (w0 : World) (d : Wd) (rg : Nat) (v : Value) (pv : Nat → Value) (W : World) (r : Option Addr × List Itm) : Prop :=
  RdL layW W r.1 r.2 ∧ ∀ b off, r.1 = some ⟨b, off, none⟩ → b < W.heap.size ∧ b ≠ rg ∧ v.ownBlock ≠ some b ∧ ¬ WB d.g d.mb pv b
/-- a wheel and its reference; rows that can be read beside -/
def Duo (w0 : World) (d : Wd) (rg : Nat) (rn : Int) (R : List Itm) (rows : List (Option Addr × List Itm)) (W : World) : Prop :=
  ∃ v pv, Duo0 w0 d rg rn R v pv W ∧ ∀ r ∈ rows, Far w0 d rg v pv W r
section
variable {w0 W W' : World} {d : Wd} {rg : Nat} {rn : Int} {R : List Itm} {rows : List (Option Addr × List Itm)}
theorem Duo.below (h : Duo w0 d rg rn R rows W) : Below w0.heap.size w0 W := by obtain ⟨_, _, h, _⟩ := h; exact h.bel
theorem Far.bel {v : Value} {pv : Nat → Value} {r : Option Addr × List Itm} (h : Far w0 d rg v pv W r) (hb : Below W.heap.size W W') : Far w0 d rg v pv W' r :=
  ⟨h.1.bel hb, fun b off e => ⟨Nat.lt_of_lt_of_le (h.2 b off e).1 hb.size, (h.2 b off e).2⟩⟩
theorem Duo.bel (h : Duo w0 d rg rn R rows W) (hb : Below W.heap.size W W') : Duo w0 d rg rn R rows W' := by
  obtain ⟨v, pv, h, hr⟩ := h
  exact ⟨v, pv, ⟨h.wh.bel hb, h.rf.bel hb, bel_tr h.bel hb, h.lo, h.dis⟩, fun r hm => (hr r hm).bel hb⟩
theorem Duo.nil (h : Duo w0 d rg rn R rows W) : Duo w0 d rg rn R [] W := by
  obtain ⟨v, pv, h, _⟩ := h
  exact ⟨v, pv, h, fun r hr => by cases hr⟩
theorem Duo.rd (h : Duo w0 d rg rn R rows W) {A : Option Addr} {l : List Itm} (hm : (A, l) ∈ rows) : RdL layW W A l := by obtain ⟨_, _, _, h⟩ := h; exact (h _ hm).1
/-- rows in new memory -/
theorem Duo.more {W' : World} (h : Duo w0 d rg rn R rows W) (hb : Below W.heap.size W W') {new : List (Option Addr × List Itm)} (hr : ∀ r ∈ new, RdL layW W' r.1 r.2 ∧ ∀ b off, r.1 = some ⟨b, off, none⟩ → W.heap.size ≤ b ∧ b < W'.heap.size) : Duo w0 d rg rn R (new ++ rows) W' := by
  obtain ⟨v, pv, k, hk⟩ := h
  refine ⟨v, pv, ⟨k.wh.bel hb, k.rf.bel hb, bel_tr k.bel hb, k.lo, k.dis⟩, fun r hm => ?_⟩
  rcases List.mem_append.1 hm with hm | hm
  · refine ⟨(hr r hm).1, fun b off e => ?_⟩
    obtain ⟨h1, h2⟩ := (hr r hm).2 b off e
    exact ⟨h2, fun e => by have := k.rf.blk.lt; omega, fun e => by have := k.rf.own.lt2 b e; omega, fun e => by have := k.wh.lt b e; omega⟩
  · exact (hk r hm).bel hb
theorem rdL_one {W : World} {g off : Nat} {x : Itm} (hg : g < W.heap.size) (h0 : W.cell? ⟨g, off, none⟩ = some (.int .i64 x.id)) (h1 : W.cell? ⟨g, off + 1, none⟩ = some (.int .i64 x.at_)) : RdL layW W (some ⟨g, off, none⟩) [x] := fun i hi => by
  have : i = 0 := by simpa using hi
  subst this
  refine ⟨g, off, rfl, hg, fun r u hu => ?_⟩
  rcases r with _ | _ | r
  · simp [layW] at hu; subst hu; simpa using h0
  · simp [layW] at hu; subst hu; simpa using h1
  · simp [layW] at hu
theorem Duo.cells (h : Duo w0 d rg rn R rows W) {g off : Nat} {x : Itm} (hm : (some ⟨g, off, none⟩, [x]) ∈ rows) : W.cell? ⟨g, off, none⟩ = some (.int .i64 x.id) ∧ W.cell? ⟨g, off + 1, none⟩ = some (.int .i64 x.at_) := by
  obtain ⟨b, o, e, hb, h0, h1⟩ := (h.rd hm).itm 0 (by simp)
  injection e with e
  injection e with e1 e2 _
  subst e1; subst e2
  exact ⟨by simpa using h0, by simpa using h1⟩
theorem Duo.sorted (h : Duo w0 d rg rn R rows W) : d.S.Pairwise Wh.before := by obtain ⟨_, _, h, _⟩ := h; exact h.wh.sorted
theorem Duo.ids (h : Duo w0 d rg rn R rows W) : d.S.Pairwise (fun a b => a.id ≠ b.id) := by obtain ⟨_, _, h, _⟩ := h; obtain ⟨pl, D, _, hV, _⟩ := h.wh.ex; exact hV.ids
theorem Duo.len (h : Duo w0 d rg rn R rows W) : d.S.length ≤ 4096 := by obtain ⟨_, _, h, _⟩ := h; exact h.wh.len
theorem Duo.n0 (h : Duo w0 d rg rn R rows W) : 0 ≤ d.now := by obtain ⟨_, _, h, _⟩ := h; exact h.wh.t0
theorem Duo.ref (h : Duo w0 d rg rn R rows W) : ∃ v, Blk W rg 64 #[.int .i64 rn, v] ∧ OwnL layW 31 W w0.heap.size v R := by obtain ⟨v, _, h, _⟩ := h; exact ⟨v, h.rf.blk, h.rf.own⟩
theorem Duo.cell (h : Duo w0 d rg rn R rows W) {b i : Nat} {v : Value} (hb : b < w0.heap.size) (hc : w0.cell? ⟨b, i, none⟩ = some v) : W.cell? ⟨b, i, none⟩ = some v := (h.below.cell (p := ⟨b, i, none⟩) hb).trans hc
theorem Duo0.wto {v : Value} {pv : Nat → Value} (h : Duo0 w0 d rg rn R v pv W) (hr : ∀ r ∈ rows, Far w0 d rg v pv W r) {now1 : Int} {S1 : List Itm} (k : WTo W d.g d.mb pv now1 S1 W') : Duo w0 ⟨d.g, d.mb, now1, S1⟩ rg rn R rows W' := by
  obtain ⟨pv', k1, k2, k3⟩ := k
  refine ⟨v, pv', ⟨k1, h.rf.turn k2 (h.dis rg (.inl rfl)) (fun b e => h.dis b (.inr e)), k2.below h.bel h.lo h.bel.size, fun b e => ?_, fun b e e2 => ?_⟩, fun r hm => ⟨(hr r hm).1.turn k2 (fun b off e => ((hr r hm).2 b off e).2.2.2), fun b off e => ?_⟩⟩
  · rcases k3 b e with e3 | e3
    · exact h.lo b e3
    · exact Nat.le_trans h.bel.size e3
  · rcases k3 b e2 with e3 | e3
    · exact h.dis b e e3
    · rcases e with rfl | e
      · have := h.rf.blk.lt; omega
      · have := h.rf.own.lt2 b e; omega
  · obtain ⟨h1, h2, h3, h4⟩ := (hr r hm).2 b off e
    refine ⟨Nat.lt_of_lt_of_le h1 k2.size, h2, h3, fun e2 => ?_⟩
    rcases k3 b e2 with e3 | e3
    · exact h4 e3
    · omega
theorem Duo0.wnew {v : Value} {pv : Nat → Value} (h : Duo0 w0 d rg rn R v pv W) (hr : ∀ r ∈ rows, Far w0 d rg v pv W r) {now1 : Int} {S1 : List Itm} {A1 : Option Addr} {n c : Nat} {l1 : List Itm} (k : WhNew W d.g d.mb pv now1 S1 (.slice A1 n c) l1 W') : Duo w0 ⟨d.g, d.mb, now1, S1⟩ rg rn R ((A1, l1) :: rows) W' := by
  obtain ⟨pv', k1, k2, k3, k4, k5, k6⟩ := k
  obtain ⟨A', cap', e, -, -, hrd, -⟩ := k4.form
  injection e with e _ _
  subst e
  refine ⟨v, pv', ⟨k1, h.rf.turn k2 (h.dis rg (.inl rfl)) (fun b e => h.dis b (.inr e)), k2.below h.bel h.lo h.bel.size, fun b e => ?_, fun b e e2 => ?_⟩, fun r hm => ?_⟩
  · rcases k3 b e with e3 | e3
    · exact h.lo b e3
    · exact Nat.le_trans h.bel.size e3
  · rcases k3 b e2 with e3 | e3
    · exact h.dis b e e3
    · rcases e with rfl | e
      · have := h.rf.blk.lt; omega
      · have := h.rf.own.lt2 b e; omega
  rcases List.mem_cons.1 hm with rfl | hm
  · refine ⟨hrd, fun b off e => ?_⟩
    simp only at e
    subst e
    have h6 := k6 b rfl
    refine ⟨k4.lt2 b rfl, fun e => ?_, fun e => ?_, k5 b rfl⟩
    · have := h.rf.blk.lt; omega
    · have := h.rf.own.lt2 b e; omega
  · refine ⟨(hr r hm).1.turn k2 (fun b off e => ((hr r hm).2 b off e).2.2.2), fun b off e => ?_⟩
    obtain ⟨h1, h2, h3, h4⟩ := (hr r hm).2 b off e
    refine ⟨Nat.lt_of_lt_of_le h1 k2.size, h2, h3, fun e2 => ?_⟩
    rcases k3 b e2 with e3 | e3
    · exact h4 e3
    · omega
theorem Duo0.rto {v : Value} {pv : Nat → Value} (h : Duo0 w0 d rg rn R v pv W) (hr : ∀ r ∈ rows, Far w0 d rg v pv W r) {rn' : Int} {R' : List Itm} (k : RTo w0.heap.size rg v W rn' R' W') : Duo w0 d rg rn' R' rows W' := by
  obtain ⟨v', k1, k2, k3⟩ := k
  refine ⟨v', pv, ⟨h.wh.turn k2 (fun b e e2 => h.dis b e2 e), k1, k2.below h.bel (fun b e => ?_) h.bel.size, h.lo, fun b e e2 => ?_⟩, fun r hm => ⟨(hr r hm).1.turn k2 (fun b off e e2 => ?_), fun b off e => ?_⟩⟩
  · rcases e with rfl | e
    · exact h.rf.lo
    · exact (World.ownsRow.lt h.rf.own b e).1
  · rcases e with rfl | e
    · exact h.dis b (.inl rfl) e2
    · rcases k3 b e with e | e
      · exact h.dis b (.inr e) e2
      · have := h.wh.lt b e2; omega
  · obtain ⟨h0, h1, h2, _⟩ := (hr r hm).2 b off e
    rcases e2 with e2 | e2
    · exact h1 e2
    · exact h2 e2
  · obtain ⟨h0, h1, h2, h3⟩ := (hr r hm).2 b off e
    refine ⟨Nat.lt_of_lt_of_le h0 k2.size, h1, fun e2 => ?_, h3⟩
    rcases k3 b e2 with e3 | e3
    · exact h2 e3
    · omega
end
/-- the reference is made -/
theorem duo_new {w0 W : World} {g mb : Nat} {now : Int} (h : One w0 g mb now [] W) : Duo w0 ⟨g, mb, now, []⟩ W.heap.size now [] [] (W.alloc (.cells #[.int .i64 now, .slice none 0 0] 64)) := by
  obtain ⟨pv, h1, h2, h3⟩ := h
  have hb := bel_new (Below.refl W.heap.size W) (.cells #[.int .i64 now, .slice none 0 0] 64)
  refine ⟨.slice none 0 0, pv, ⟨h1.bel hb, ⟨Blk.new _ _ _, OwnL.nil _ _, fun b e => by simp [Value.ownBlock] at e, h2.size⟩, bel_tr h2 hb, h3, fun b e e2 => ?_⟩, fun r hr => by cases hr⟩
  rcases e with rfl | e
  · have := h1.lt _ e2; omega
  · simp [Value.ownBlock] at e
section
variable {w0 W : World} {d : Wd} {rg : Nat} {rn : Int} {R : List Itm} {rows : List (Option Addr × List Itm)}
theorem duo_insert (H : Hid (Duo w0 d rg rn R rows W)) (i : Itm) (h0 : -9223372036854775808 ≤ i.id) (h1 : i.id ≤ 9223372036854775807) :
    Calls Try.prog 15 #[.pointer (some ⟨d.g, 0, none⟩), itmV i] W fun e w' => e = .returned (.int .i64 (Wh.insE d.now d.S i)) ∧ Duo w0 ⟨d.g, d.mb, d.now, Wh.insS d.now d.S i⟩ rg rn R rows w' := by
  obtain ⟨v, pv, h, hr⟩ := H.out
  refine (insert_calls (Lib.hid h.wh) i h0 h1).mono ?_
  rintro e w' ⟨rfl, hw⟩
  exact ⟨rfl, h.wto hr hw⟩
theorem duo_cancel (H : Hid (Duo w0 d rg rn R rows W)) (id : Int) (h0 : -9223372036854775808 ≤ id) (h1 : id ≤ 9223372036854775807) :
    Calls Try.prog 36 #[.pointer (some ⟨d.g, 0, none⟩), .int .i64 id] W fun e w' => e = .returned (.bool (Wh.hasId d.S id)) ∧ Duo w0 ⟨d.g, d.mb, d.now, Wh.del id d.S⟩ rg rn R rows w' := by
  obtain ⟨v, pv, h, hr⟩ := H.out
  refine (cancel_calls (Lib.hid h.wh) id h0 h1).mono ?_
  rintro e w' ⟨rfl, hw⟩
  exact ⟨rfl, h.wto hr hw⟩
theorem duo_ok (H : Hid (Duo w0 d rg rn R rows W)) (t : Int) (hc : advE d.now t = 0) :
    Calls Try.prog 16 #[.pointer (some ⟨d.g, 0, none⟩), .int .i64 t] W fun e w' => ∃ A1 c, e = .returned (.tuple #[.slice A1 (Wh.upto t d.S).length c, .int .i64 0]) ∧ Duo w0 ⟨d.g, d.mb, t, Wh.past t d.S⟩ rg rn R ((A1, Wh.upto t d.S) :: rows) w' := by
  obtain ⟨v, pv, h, hr⟩ := H.out
  refine (advance_calls (Lib.hid h.wh) t).mono ?_
  intro e w' hw
  unfold AdvTo at hw
  rw [if_pos hc] at hw
  obtain ⟨A1, c, rfl, hn⟩ := hw
  exact ⟨A1, c, rfl, h.wnew hr hn⟩
theorem duo_no (H : Hid (Duo w0 d rg rn R rows W)) (t : Int) (hc : advE d.now t ≠ 0) :
    Calls Try.prog 16 #[.pointer (some ⟨d.g, 0, none⟩), .int .i64 t] W fun e w' => e = .returned (.tuple #[.slice none 0 0, .int .i64 30]) ∧ Duo w0 d rg rn R rows w' := by
  obtain ⟨v, pv, h, hr⟩ := H.out
  refine (advance_calls (Lib.hid h.wh) t).mono ?_
  intro e w' hw
  unfold AdvTo at hw
  rw [if_neg hc] at hw
  obtain ⟨rfl, hn⟩ := hw
  exact ⟨rfl, h.wto hr hn⟩
theorem duo_now (H : Hid (Duo w0 d rg rn R rows W)) :
    Calls Try.prog 19 #[.pointer (some ⟨d.g, 0, none⟩)] W fun e w' => e = .returned (.int .i64 d.now) ∧ W = w' := by
  obtain ⟨v, pv, h, hr⟩ := H.out
  exact now_calls (Lib.hid h.wh)
theorem duo_waiting (H : Hid (Duo w0 d rg rn R rows W)) :
    Calls Try.prog 18 #[.pointer (some ⟨d.g, 0, none⟩)] W fun e w' => ∃ A1 c, e = .returned (.slice A1 d.S.length c) ∧ RdL layW w' A1 d.S ∧ Below W.heap.size W w' := by
  obtain ⟨v, pv, h, hr⟩ := H.out
  refine (waiting_calls (Lib.hid h.wh)).mono ?_
  rintro e w' ⟨A1, c, rfl, ho, hb⟩
  obtain ⟨A', cap', e, -, -, hrd, -⟩ := ho.form
  injection e with e _ _
  subst e
  exact ⟨A1, c, rfl, hrd, hb⟩
theorem duo_rinsert (H : Hid (Duo w0 d rg rn R rows W)) (hs : Hid (R.Pairwise Wh.before)) (hl : R.length ≤ 4096) (n0 : 0 ≤ rn) (i : Itm) :
    Calls Try.prog 35 #[.pointer (some ⟨rg, 0, none⟩), itmV i] W fun e w' => e = .returned (.int .i64 (Wh.insE rn R i)) ∧ Duo w0 d rg rn (Wh.insS rn R i) rows w' := by
  obtain ⟨v, pv, h, hr⟩ := H.out
  refine (rinsert_calls (Lib.hid h.rf) hs hl n0 i).mono ?_
  rintro e w' ⟨rfl, hw⟩
  exact ⟨rfl, h.rto hr hw⟩
theorem duo_rcancel (H : Hid (Duo w0 d rg rn R rows W)) (hs : Hid (R.Pairwise (fun a b => a.id ≠ b.id))) (hl : R.length ≤ 4096) (id : Int) :
    Calls Try.prog 37 #[.pointer (some ⟨rg, 0, none⟩), .int .i64 id] W fun e w' => e = .returned (.bool (Wh.hasId R id)) ∧ Duo w0 d rg rn (Wh.del id R) rows w' := by
  obtain ⟨v, pv, h, hr⟩ := H.out
  refine (rcancel_calls (Lib.hid h.rf) hs hl id).mono ?_
  rintro e w' ⟨rfl, hw⟩
  exact ⟨rfl, h.rto hr hw⟩
theorem duo_rok (H : Hid (Duo w0 d rg rn R rows W)) (hs : Hid (R.Pairwise Wh.before)) (hl : R.length ≤ 4096) (t : Int) (hc : advE rn t = 0) :
    Calls Try.prog 38 #[.pointer (some ⟨rg, 0, none⟩), .int .i64 t] W fun e w' => ∃ A1 c, e = .returned (.tuple #[.slice A1 (Wh.upto t R).length c, .int .i64 0]) ∧ Duo w0 d rg t (Wh.past t R) rows w' ∧ RdL layW w' A1 (Wh.upto t R) := by
  obtain ⟨v, pv, h, hr⟩ := H.out
  refine (radvance_calls (Lib.hid h.rf) hs hl t).mono ?_
  intro e w' hw
  unfold RAdv at hw
  rw [if_pos hc] at hw
  obtain ⟨A1, c, rfl, hn, hrd⟩ := hw
  exact ⟨A1, c, rfl, h.rto hr hn, hrd⟩
theorem duo_rno (H : Hid (Duo w0 d rg rn R rows W)) (hs : Hid (R.Pairwise Wh.before)) (hl : R.length ≤ 4096) (t : Int) (hc : advE rn t ≠ 0) :
    Calls Try.prog 38 #[.pointer (some ⟨rg, 0, none⟩), .int .i64 t] W fun e w' => e = .returned (.tuple #[.slice none 0 0, .int .i64 30]) ∧ Duo w0 d rg rn R rows w' := by
  obtain ⟨v, pv, h, hr⟩ := H.out
  refine (radvance_calls (Lib.hid h.rf) hs hl t).mono ?_
  intro e w' hw
  unfold RAdv at hw
  rw [if_neg hc] at hw
  obtain ⟨rfl, hn⟩ := hw
  exact ⟨rfl, h.rto hr hn⟩
end
/-- a step of a script -/
structure Stp where
  kd : Int
  i : Itm
  t : Int
deriving Inhabited
def layP : Lay Stp := ⟨4, fun x => [.int .i64 x.kd, .int .i64 x.i.id, .int .i64 x.i.at_, .int .i64 x.t], fun _ => rfl, by decide, fun x u hu => by
  simp only [List.mem_cons, List.not_mem_nil, or_false] at hu
  rcases hu with rfl | rfl | rfl | rfl <;> rfl⟩
set_option maxRecDepth 100000 in
/-- a script as an argument -/
theorem steps_arg {H : Type} {enc : TypeId × Value → H} {w : World} {base b0 : Nat} {held : Bool} {v : Value} {d : DataW H} {p : List MemPlace}
    (hv : Value.okWide Try.prog w .any b0 61 v) (h : DataW.Trod enc Try.prog w base (fun _ => true) held 61 v d p) (hw : (d.weights Try.prog 61).all (· ≤ reachBytes) = true) :
    ∃ A xs cap, v = .slice A (List.length xs) cap ∧ List.length xs ≤ cap ∧ cap ≤ 20000000000000 ∧ RdL layP w A xs ∧ ∀ i, i < xs.length → B64 (xs.getD i default).i.id := by
  obtain ⟨A, len, cap, rfl, h1, _, h2, h4⟩ := open_arg_slice (n := 3) (ts := [3, 3, 2, 2]) Try.underlying61 (by kernel_rfl) (by kernel_rfl) (by simp) hv h hw
  obtain ⟨xs, rfl, hR, hG⟩ := rdL_of (L := layP) (w := w) (A := A) h1 (G := fun d => B64 d.i.id) (fun i hi => by
    obtain ⟨b, off, vs, rfl, hb, _, hc, hl⟩ := h4 i hi
    obtain ⟨kd, vs, rfl, _, hl⟩ := leaf_int Try.underlying3 hl
    obtain ⟨k, vs, rfl, hk, hl⟩ := leaf_int Try.underlying3 hl
    obtain ⟨n, vs, rfl, hn, hl⟩ := leaf_int Try.underlying2 hl
    obtain ⟨t, vs, rfl, ht, hl⟩ := leaf_int Try.underlying2 hl
    obtain rfl := leaf_nil hl
    have hk2 : B64 k := by simp [Lit.wf, IntKind.min, IntKind.max, IntKind.signed, IntKind.bits] at hk; exact hk
    exact ⟨⟨kd, ⟨k, n⟩, t⟩, hk2, b, off, rfl, hb, at_list hc rfl⟩)
  exact ⟨A, xs, cap, rfl, h1, by rw [show Try.prog.bytesOf 66 = 32 from by kernel_rfl] at h2; unfold reachBytes at h2; omega, hR, hG⟩
theorem RdL.stp {w : World} {A : Option Addr} {xs : List Stp} (h : RdL layP w A xs) (i : Nat) (hi : i < xs.length) : ∃ b off, A = some ⟨b, off, none⟩ ∧ b < w.heap.size ∧ w.cell? ⟨b, off + i * 4, none⟩ = some (.int .i64 (xs.getD i default).kd) ∧ w.cell? ⟨b, off + i * 4 + 1, none⟩ = some (.int .i64 (xs.getD i default).i.id) ∧ w.cell? ⟨b, off + i * 4 + 2, none⟩ = some (.int .i64 (xs.getD i default).i.at_) ∧ w.cell? ⟨b, off + i * 4 + 3, none⟩ = some (.int .i64 (xs.getD i default).t) := by
  obtain ⟨b, off, e, hb, hc⟩ := h i hi
  exact ⟨b, off, e, hb, hc 0 _ rfl, hc 1 _ rfl, hc 2 _ rfl, hc 3 _ rfl⟩
end Go.Proofs.Ytheocdfccdpmbaa
