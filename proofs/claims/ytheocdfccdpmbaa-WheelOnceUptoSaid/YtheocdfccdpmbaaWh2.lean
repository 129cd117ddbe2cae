/-
  Contract: an item is put into its place.
  Conditions: times are of the calendar; the place holds few items.
-/
import Derived.Test.YtheocdfccdpmbaaWh1
import Derived.Deep.RegionLaw
import Derived.Deep.Cut
namespace Go.Proofs.Ytheocdfccdpmbaa
open Go.RowKit Go.Maps
set_option linter.unusedVariables false
set_option linter.unusedSimpArgs false
set_option maxHeartbeats 4000000

section
variable {α : Type} [Inhabited α] {L : Lay α}
theorem step_appAt {P : Program} {e : TypeId} {ops : Array Oper} {o : Oper} {a : Act} {K : Act → World → Prop} {Q : Exit → Act → World → Prop} {E : Prop} {w : World} (t : TypeId) (z : Value) (bytes : Nat) (ht : P.underlying t = some (.slice e))
    (hinfo : (P.info? e).map (fun i => (i.zero, i.size, i.bytes)) = some (some z, L.k, bytes)) (hz : z.cells.size = L.k) (hgd : o.guard = none) (s x : Operand)
    (ho : o.op = .call { callee := .builtin .append, args := #[s, x], argTypes := #[t, t] })
    (base : Nat) (v : Value) (xs : List α) (hs : a.eval s = v) (hown : OwnL L e w base v xs) (A : Addr) (n c : Nat) (ys : List α) (hx : a.eval x = .slice (some A) n c) (hn : n = ys.length) (hr : RdL L w (some A) ys)
    (hm : xs.length + ys.length ≤ maxLen) (hb : (xs.length + ys.length) * bytes ≤ 140737488355328) (hbase : base ≤ w.heap.size)
    (h : ∀ v' w', OwnL L e w' base v' (xs ++ ys) → w.grownBy w' v.ownBlock → (v'.ownBlock = v.ownBlock ∨ v'.ownBlock = some w.heap.size) → K (a.put o.dst v') w') :
    if Region.wanted o (yielded ops a.tmps) = true then Oper.wp P o a w K Q else E := by
  have hw : Region.wanted o (yielded ops a.tmps) = true := by simp [Region.wanted, hgd]
  rw [if_pos hw]
  subst hn
  obtain ⟨v', w', hrun, h2, h3, h4⟩ := run_appAt w t o.type z bytes ht hinfo hz base v xs hown A c ys hr hm hb hbase
  unfold Oper.wp execOp
  simp only [ho, resolve, invoke, builtin, Sem.run_bind, Sem.run_pure, Result.andThen_ok, List.map_toArray, List.map_cons, List.map_nil, hs, hx, hrun]
  exact h v' w' h2 h3 h4
end
theorem rdL_lit {α : Type} [Inhabited α] {L : Lay α} (w : World) (e : TypeId) (xs : List α) (hm : xs.length ≤ maxLen) (cs : Array Value) (hc : cs = (L.flat xs).toArray) : RdL L (w.alloc (.cells cs e)) (some ⟨w.heap.size, 0, none⟩) xs := by
  obtain ⟨A, cap, e, _, _, h, _⟩ := (OwnL.lit (e := e) w w.heap.size (Nat.le_refl _) xs hm cs hc).form
  injection e with e
  subst e
  exact h
theorem infoW : (Try.prog.info? 31).map (fun i => (i.zero, i.size, i.bytes)) = some (some (.agg #[.int .i64 0, .int .i64 0]), 2, 16) := by kernel_rfl
/-- an item more in a place -/
def PutTo (w : World) (g mb : Nat) (now : Int) (pv : Nat → Value) (pl : Nat → List Itm) (D : DataW Unit) (j : Nat) (i : Itm) (w' : World) : Prop :=
  ∃ v, Whl g mb now (updV pv j v) (Wh.add pl j i) D w' ∧ Turn (WB g mb pv) w w' ∧ ∀ b, v.ownBlock = some b → (pv j).ownBlock = some b ∨ w.heap.size ≤ b
/-- what an append to a place leaves -/
theorem Whl.app {g mb : Nat} {now : Int} {pv : Nat → Value} {pl : Nat → List Itm} {D : DataW Unit} {w0 w w' : World} (h : Whl g mb now pv pl D w) (hb : Below w0.heap.size w0 w) (h0 : ∀ b, WB g mb pv b → b < w0.heap.size) {j : Nat} (hj : j < 256) {v : Value} {i : Itm} (ho : OwnL layW 31 w' 0 v (pl j ++ [i])) (hg : w.grownBy w' (pv j).ownBlock) (h3 : v.ownBlock = (pv j).ownBlock ∨ v.ownBlock = some w.heap.size) :
    PutTo w0 g mb now pv pl D j i (w'.setCell ⟨g, j + 1, none⟩ v) := by
  have t : Turn (fun b => (pv j).ownBlock = some b) w w' := .grown hg
  have hv : ∀ b, v.ownBlock = some b → (pv j).ownBlock = some b ∨ w.heap.size ≤ b := fun b e => by
    rcases h3 with h3 | h3
    · exact .inl (h3 ▸ e)
    · rw [h3] at e; injection e with e; exact .inr (by omega)
  refine ⟨v, h.setp hj t ho hv, ?_, fun b e => (hv b e).imp id (Nat.le_trans hb.size)⟩
  refine (Turn.bel hb).trans (B' := WB g mb pv) ?_ (fun b e => .inl e)
  refine Turn.trans (B := WB g mb pv) (t.mono fun b _ e => .inr (.inr ⟨j, hj, e⟩)) (Turn.set w' ⟨g, j + 1, none⟩ v) (fun b e => .inl (.inl e))
theorem Whl.appc {g mb : Nat} {now : Int} {pv : Nat → Value} {pl : Nat → List Itm} {D : DataW Unit} {w w' : World} (h : Whl g mb now pv pl D w) {j : Nat} (hj : j < 256) (hg : w.grownBy w' (pv j).ownBlock) :
    w'.cell? ⟨g, j + 1, none⟩ = some (pv j) ∧ w'.frozen? ⟨g, j + 1, none⟩ = false := by
  have hb := hg.block g h.g_lt (fun e => (h.far j hj g e.symm).1 rfl)
  obtain ⟨c, f⟩ := h.cp j hj
  exact ⟨(World.cell?_of_block (a := ⟨g, j + 1, none⟩) hb).trans c, (World.frozen?_of_block (a := ⟨g, j + 1, none⟩) hb).trans f⟩

set_option maxRecDepth 20000 in
theorem put_calls {g mb : Nat} {now : Int} {pv : Nat → Value} {pl : Nat → List Itm} {D : DataW Unit} {w : World} (H : Hid (Whl g mb now pv pl D w)) (n0 : 0 ≤ now) (n1 : now ≤ 226157759) (i : Itm) (h0 : 0 ≤ i.at_) (h1 : i.at_ ≤ 226157759) (hl : (pl (Wh.slot now i.at_)).length ≤ 1000000) :
    Calls Try.prog 40 #[.pointer (some ⟨g, 0, none⟩), itmV i] w fun e w' => e = .returned (.tuple #[]) ∧ PutTo w g mb now pv pl D (Wh.slot now i.at_) i w' := by
  obtain ⟨id, a⟩ := i
  simp only at h0 h1 hl ⊢
  have hj := Wh.slot_lt now a
  unfold Wh.slot at hj hl ⊢
  have hk4 := Wh.ring_lt now a
  have HRG := Lib.hid (fun W hc => ring_calls g now n0 n1 a h0 h1 W hc)
  generalize Wh.ring now a = k at *
  have HPL := Lib.hid (fun W => place_calls k hk4 a h0 h1 W)
  have hp4 := Wh.place_lt k a
  generalize Wh.place k a = p at *
  obtain ⟨j, hjk⟩ : ∃ j, j = 64 * k + p := ⟨_, rfl⟩
  rw [← hjk] at hj hl ⊢
  have HJ := Lib.hid hjk
  clear hjk
  have HLE := Lib.hid hl
  have HB1 := Lib.hid (bel_new (Below.refl w.heap.size w) (.cells #[.int .i64 id, .int .i64 a] 31))
  have HI1 := Lib.hid (Blk.new w 31 #[.int .i64 id, .int .i64 a])
  clear hl
  go_enter Try.func40, Try.ntmps40
  go_upto_region 1 with (fail)
  generalize w.alloc (.cells #[.int .i64 id, .int .i64 a] 31) = w1 at *
  have N1 := Lib.hid (H.out.bel HB1.out)
  have i1 : ∀ i, w1.cell? ⟨w.heap.size, i, none⟩ = (#[.int .i64 id, .int .i64 a] : Array Value)[i]? := HI1.out.cells
  go_wp2_with fail
  refine (HRG.out w1 N1.out.c0.1).mono ?_
  rintro e w2 ⟨rfl, nq, rfl⟩
  have N2 := Lib.hid (N1.out.bel (bel_drewN (Below.refl _ _) nq))
  have HB2 := Lib.hid (bel_drewN HB1.out nq)
  have HI2 := Lib.hid (HI1.out.drewN nq)
  clear N1 HB1 HI1 i1
  generalize w1.drewN nq = w2 at *
  have i1 : ∀ i, w2.cell? ⟨w.heap.size, i, none⟩ = (#[.int .i64 id, .int .i64 a] : Array Value)[i]? := HI2.out.cells
  go_wp2_with fail
  go_quiet ((go_at_call 53; exact quiet_of_eq (HPL.out _)))
  go_upto_region 3 with (fail)
  rw [show 1 + k * 64 + p = j + 1 from by have := HJ.out; omega]
  have NW := Lib.hid (N2.out.bel (bel_drewN (Below.refl _ _) nq))
  have HBW := Lib.hid (bel_drewN HB2.out nq)
  have iW : ∀ i, (w2.drewN nq).cell? ⟨w.heap.size, i, none⟩ = (#[.int .i64 id, .int .i64 a] : Array Value)[i]? := (HI2.out.drewN nq).cells
  have hlw : w.heap.size < (w2.drewN nq).heap.size := (HI2.out.drewN nq).lt
  clear N2 HB2 HI2 i1 HPL HRG
  generalize w2.drewN nq = W at *
  obtain ⟨cj, fj⟩ := NW.out.cp j hj
  have hgl := NW.out.g_lt
  have HWL := Lib.hid hlw
  clear hlw
  go_region_law (first
    | (refine step_appAt 22 _ 16 Try.underlying22 infoW rfl rfl (.tmp 23) (.tmp 25) rfl 0 _ (pl j) rfl ((NW.out.places j hj).kept (bel_drew (bel_new (Below.refl _ W) (.cells #[.int .i64 id, .int .i64 a] 31)))) ⟨W.heap.size, 0, none⟩ 1 1 [⟨id, a⟩] rfl rfl (rdL_lit W _ _ (by simp [maxLen]) _ rfl) (by have := HLE.out; simp [maxLen]; omega) (by have := HLE.out; simp; omega) (Nat.zero_le _) ?_
       intro v1 w3 ho1 hg1 h31
       obtain ⟨A1, cp1, rfl, _, _, _, _⟩ := ho1.form
       have hbn := bel_drew (bel_new (Below.refl W.heap.size W) (.cells #[.int .i64 id, .int .i64 a] 31))
       have HPT := Lib.hid ((NW.out.bel hbn).app (bel_tr HBW.out hbn) H.out.lt hj ho1 hg1 h31)
       obtain ⟨cj3, fj3⟩ := (NW.out.bel hbn).appc hj hg1
       clear hbn ho1 hg1 h31))
  all_goals
    go_wp2_with fail
    go_end0
    have h9 := HPT.out
    rw [List.length_append, List.length_singleton] at h9
    exact ⟨rfl, h9⟩
end Go.Proofs.Ytheocdfccdpmbaa
