/-
  Contract: the places of higher rings that now has come into are put anew.
  Conditions: the wheel's places hold S; now has just gone on by one.
-/
import Derived.Test.YtheocdfccdpmbaaWh3
namespace Go.Proofs.Ytheocdfccdpmbaa
open Go.RowKit Go.Maps
set_option linter.unusedVariables false
set_option linter.unusedSimpArgs false
set_option maxHeartbeats 8000000

/-- a wheel's memory as it became -/
def WhlTo (w : World) (g mb : Nat) (pv : Nat → Value) (now : Int) (pl : Nat → List Itm) (D : DataW Unit) (w' : World) : Prop :=
  ∃ pv', Whl g mb now pv' pl D w' ∧ Turn (WB g mb pv) w w' ∧ ∀ b, WB g mb pv' b → WB g mb pv b ∨ w.heap.size ≤ b
theorem bits_low (j : Nat) (hj : j ≤ 40) (x : Int) (h0 : 0 ≤ x) (h1 : x ≤ 226157759) : bits BinOp.and IntKind.i64 x (2 ^ j - 1) = x % 2 ^ j :=
  bits_mask .i64 63 (by decide) (fun n a b => IntWalk.i64_in n (by omega)) j (by omega) x h0 (by omega)
section
variable {P : Program} {ops : Array Oper} {Q : Exit → Act → World → Prop} {S : World → Prop}
theorem wp_region_heldD {id : Nat} {a : Act} {w : World} (hm : P.follows .mixedOrders = true)
    (h : wpAnyH P .any ops Q S ops.size (Array.replicate ops.size false) a w.drew) : (Code.region id ops true).wp P Q a w := wp_region_held hm h
theorem wpAnyH_one {md : Region.Mode} {i : Nat} {o : Oper} {fuel : Nat} {listed : Array Bool} {a : Act} {w : World} (hr : Region.ready md ops listed = [i]) (ho : ops[i]? = some o) (hg : o.guard = none)
    (h : ∀ K : Act → World → Prop, (∀ a' w', S w' → wpAnyH P md ops Q S fuel (listed.setIfInBounds i true) a' w' → K a' w') → o.wp P a w K Q) : wpAnyH P md ops Q S (fuel + 1) listed a w := by
  refine wpAnyH_all hr (by simp) fun j hj => ?_
  obtain rfl : j = i := by simpa using hj
  refine wpOp_step ho fun K hK => ?_
  have hw : Region.wanted o (yielded ops a.tmps) = true := by simp [Region.wanted, hg]
  rw [if_pos hw]
  exact h K fun a' w' hS hW => hK a' w' ⟨hS, hW⟩
theorem wp_appAt {α : Type} [Inhabited α] {L : Lay α} {e : TypeId} {o : Oper} {a : Act} {K : Act → World → Prop} {w : World} (t : TypeId) (z : Value) (bytes : Nat) (ht : P.underlying t = some (.slice e))
    (hinfo : (P.info? e).map (fun i => (i.zero, i.size, i.bytes)) = some (some z, L.k, bytes)) (hz : z.cells.size = L.k) (s x : Operand)
    (ho : o.op = .call { callee := .builtin .append, args := #[s, x], argTypes := #[t, t] })
    (base : Nat) (v : Value) (xs : List α) (hs : a.eval s = v) (hown : OwnL L e w base v xs) (A : Addr) (n c : Nat) (ys : List α) (hx : a.eval x = .slice (some A) n c) (hn : n = ys.length) (hr : RdL L w (some A) ys)
    (hm : xs.length + ys.length ≤ maxLen) (hb : (xs.length + ys.length) * bytes ≤ 140737488355328) (hbase : base ≤ w.heap.size)
    (h : ∀ v' w', OwnL L e w' base v' (xs ++ ys) → w.grownBy w' v.ownBlock → (v'.ownBlock = v.ownBlock ∨ v'.ownBlock = some w.heap.size) → K (a.put o.dst v') w') : o.wp P a w K Q := by
  subst hn
  obtain ⟨v', w', hrun, h2, h3, h4⟩ := run_appAt w t o.type z bytes ht hinfo hz base v xs hown A c ys hr hm hb hbase
  unfold Oper.wp execOp
  simp only [ho, resolve, invoke, builtin, Sem.run_bind, Sem.run_pure, Result.andThen_ok, List.map_toArray, List.map_cons, List.map_nil, hs, hx, hrun]
  exact h v' w' h2 h3 h4
end
namespace Wh
/-- the passes that are still to come -/
def rest (now : Int) : Nat → (Nat → List Itm) → Nat → List Itm
  | 0, q => q
  | k + 1, q => rest now k (pass now (k + 1) q)
theorem rest3 (now : Int) (pl : Nat → List Itm) : rest now 3 pl = cascade now pl := rfl
theorem slots_len {f : Int → Nat} {pl : Nat → List Itm} {S : List Itm} (h : Slots f pl S) {j : Nat} (hj : j < 256) : (pl j).length ≤ S.length := by
  rw [(h j hj).length_eq]; exact List.length_filter_le _ _
theorem slots_mem {f : Int → Nat} {pl : Nat → List Itm} {S : List Itm} (h : Slots f pl S) {j : Nat} (hj : j < 256) {x : Itm} (hx : x ∈ pl j) : x ∈ S := (List.mem_filter.1 ((h j hj).subset hx)).1
/-- a pass half done -/
def part (now : Int) (k : Nat) (pl : Nat → List Itm) (m : Nat) : Nat → List Itm := ((pl (64 * k + place k now)).take m).foldl (fun q i => add q (goes now k i) i) (upd pl (64 * k + place k now) [])
theorem part_len (now : Int) (k : Nat) (pl : Nat → List Itm) (m j : Nat) : (part now k pl m j).length ≤ (pl j).length + (pl (64 * k + place k now)).length := by
  unfold part
  rw [fold_add, List.length_append]
  have h1 := List.length_filter_le (fun i : Itm => decide (goes now k i = j)) ((pl (64 * k + place k now)).take m)
  have h2 : ((pl (64 * k + place k now)).take m).length ≤ (pl (64 * k + place k now)).length := by rw [List.length_take]; omega
  have h3 : (upd pl (64 * k + place k now) [] j).length ≤ (pl j).length := by unfold upd; split <;> simp
  omega
theorem part_step {now : Int} {k : Nat} {pl : Nat → List Itm} {m : Nat} (hm : m < (pl (64 * k + place k now)).length) : part now k pl (m + 1) = add (part now k pl m) (goes now k ((pl (64 * k + place k now)).getD m default)) ((pl (64 * k + place k now)).getD m default) := by
  unfold part
  rw [List.take_succ_eq_append_getElem hm, List.foldl_append]
  simp [List.getD, hm]
theorem part_end {now : Int} {k : Nat} {pl : Nat → List Itm} (h : now % pw k = 0) : part now k pl (pl (64 * k + place k now)).length = pass now k pl := by
  unfold part pass
  rw [if_neg (by simp [h]), List.take_length]
end Wh
section
variable {g mb : Nat} {now : Int} {pv pv' : Nat → Value} {pl : Nat → List Itm} {D : DataW Unit} {w w' W W' : World}
/-- the place's own slice is taken out -/
theorem Whl.out (h : Whl g mb now pv pl D w) {j : Nat} (hj : j < 256) : Whl g mb now (updV pv j (.slice none 0 0)) (Wh.upd pl j []) D (w.setCell ⟨g, j + 1, none⟩ (.slice none 0 0)) ∧
    OwnL layW 31 (w.setCell ⟨g, j + 1, none⟩ (.slice none 0 0)) 0 (pv j) (pl j) ∧ Turn (WB g mb pv) w (w.setCell ⟨g, j + 1, none⟩ (.slice none 0 0)) ∧
    (∀ b, WB g mb (updV pv j (.slice none 0 0)) b → WB g mb pv b) ∧ ∀ b, (pv j).ownBlock = some b → ¬ WB g mb (updV pv j (.slice none 0 0)) b := by
  have t := Turn.set w ⟨g, j + 1, none⟩ (.slice none 0 0)
  refine ⟨h.setp hj (.refl _ _) (OwnL.nil _ _) (fun b e => by cases e), (h.places j hj).turn t (fun b e => (h.far j hj b e).1), t.mono (fun b _ e => .inl e), fun b hb => ?_, fun b hb he => ?_⟩
  · rcases hb with e | e | ⟨i, hi, e⟩
    · exact .inl e
    · exact .inr (.inl e)
    · unfold updV at e
      by_cases c : i = j
      · rw [if_pos c] at e; cases e
      · rw [if_neg c] at e; exact .inr (.inr ⟨i, hi, e⟩)
  · obtain ⟨f1, f2⟩ := h.far j hj b hb
    rcases he with e | e | ⟨i, hi, e⟩
    · exact f1 e
    · exact f2 e
    · unfold updV at e
      by_cases c : i = j
      · rw [if_pos c] at e; cases e
      · rw [if_neg c] at e; exact h.apart j i hj hi (fun e => c e.symm) b hb e
/-- a wheel beside a row that the call owns -/
def Side (w : World) (g mb : Nat) (pv : Nat → Value) (now : Int) (q : Nat → List Itm) (D : DataW Unit) (v : Value) (l : List Itm) (W : World) : Prop :=
  ∃ pv', Whl g mb now pv' q D W ∧ Turn (WB g mb pv) w W ∧ (∀ b, WB g mb pv' b → WB g mb pv b ∨ w.heap.size ≤ b) ∧ OwnL layW 31 W 0 v l ∧ ∀ b, v.ownBlock = some b → ¬ WB g mb pv' b
theorem Side.bel {q : Nat → List Itm} {v : Value} {l : List Itm} (h : Side w g mb pv now q D v l W) (hb : Below W.heap.size W W') : Side w g mb pv now q D v l W' := by
  obtain ⟨pv', h1, h2, h3, h4, h5⟩ := h
  exact ⟨pv', h1.bel hb, h2.trans (.bel (B := fun _ => False) hb) (fun b e => e.elim), h3, h4.kept hb, h5⟩
theorem side_put {q : Nat → List Itm} {v : Value} {l : List Itm} (h1 : Whl g mb now pv' q D W) (h2 : Turn (WB g mb pv) w W) (h3 : ∀ b, WB g mb pv' b → WB g mb pv b ∨ w.heap.size ≤ b) (h4 : OwnL layW 31 W 0 v l) (h5 : ∀ b, v.ownBlock = some b → ¬ WB g mb pv' b) {j : Nat} (hj : j < 256) {i : Itm} (k : PutTo W g mb now pv' q D j i W') : Side w g mb pv now (Wh.add q j i) D v l W' := by
  obtain ⟨u, k1, k2, k3⟩ := k
  have hw := WB_upd (g := g) (mb := mb) (pv := pv') (n := W.heap.size) hj k3
  refine ⟨updV pv' j u, k1, h2.trans k2 h3, fun b hb => ?_, h4.turn k2 h5, fun b e hb => ?_⟩
  · rcases hw b hb with e | e
    · exact h3 b e
    · exact .inr (Nat.le_trans h2.size e)
  · rcases hw b hb with e2 | e2
    · exact h5 b e e2
    · have := h4.lt2 b e; omega
theorem Side.to {q : Nat → List Itm} {v : Value} {l : List Itm} (h : Side w g mb pv now q D v l W) : WhlTo w g mb pv now q D W := by
  obtain ⟨pv', h1, h2, h3, _⟩ := h
  exact ⟨pv', h1, h2, h3⟩
theorem WhlTo.drewN (h : WhlTo w g mb pv now pl D W) (hb : Below W.heap.size W W') : WhlTo w g mb pv now pl D W' := by
  obtain ⟨pv', h1, h2, h3⟩ := h
  exact ⟨pv', h1.bel hb, h2.trans (.bel (B := fun _ => False) hb) (fun b e => e.elim), h3⟩
end
end Go.Proofs.Ytheocdfccdpmbaa
