
/-
  Contract: a node copied.
  Conditions: the node can be read.
-/
import Derived.Test.YtdladjgdhnkkcaaGreatZRf17ToRf19
import Derived.Test.YtdladjgdhnkkcaaGreatZRf18
namespace Go.Proofs.YtdladjgdhnkkcaaGreat
open Go.RowKit
set_option linter.unusedVariables false
set_option linter.unusedSimpArgs false
set_option maxHeartbeats 4000000

theorem wpList_appW {ops : Array Oper} {rest : List Oper} {o : Oper} {a : Act} {Q : Exit → Act → World → Prop} {w : World} (hgd : o.guard = none) (s x : Operand)
    (ho : o.op = .call { callee := .builtin .append, args := #[s, x], argTypes := #[23, 23] })
    (base : Nat) (v : Value) (xs : List En) (hs : a.eval s = v) (hown : OwnE w base v xs) (A : Option Addr) (n c : Nat) (ys : List En) (hx : a.eval x = .slice A n c) (hn : n = ys.length) (hr : RdE w A ys)
    (hb : xs.length + ys.length ≤ 8000000000000) (hbase : base ≤ w.heap.size)
    (h : ∀ v' w', OwnE w' base v' (xs ++ ys) → w.grownBy w' v.ownBlock → wpList Tryz.prog ops Q rest (a.put o.dst v') w') : wpList Tryz.prog ops Q (o :: rest) a w :=
  wpList_plain hgd fun K hK => by
    subst hn
    obtain ⟨v', w', hrun, h2, h3⟩ := run_appW w o.type base v xs hown A c ys hr hb hbase
    unfold Oper.wp execOp
    simp only [ho, resolve, invoke, builtin, Sem.run_bind, Sem.run_pure, Result.andThen_ok, List.map_toArray, List.map_cons, List.map_nil, hs, hx, hrun]
    exact hK _ _ (h v' w' h2 h3)

/-- entries copied -/
def CopyE (es : List En) (w : World) (e : Ending) (w' : World) : Prop :=
  (∃ A' cap', e = .returned (.slice A' es.length cap') ∧ OwnE w' w.heap.size (.slice A' es.length cap') es) ∧ Below w.heap.size w w'
set_option maxRecDepth 20000 in
theorem clone6_calls (A : Option Addr) (cap : Nat) (es : List En) (w : World) (hR : RdE w A es) (hlen : es.length ≤ 6000000000000) :
    Calls Tryz.prog 84 #[.slice A es.length cap] w (CopyE es w) := by
  have q22 : ∀ (w : World) (a : Option Addr) (n c n' c' : Nat), (binOp .eql 23 (.slice a n c) (.slice none n' c')).run Tryz.prog w = .ok (.bool a.isNone) w := fun w a n c n' c' => Lib.run_eql_slice_nil w _ _ a n c n' c' Tryz.underlying23
  rcases A with _ | a
  · have hn : es = [] := by
      rcases Nat.eq_zero_or_pos es.length with h0 | h0
      · exact List.eq_nil_of_length_eq_zero h0
      · obtain ⟨_, _, e, _⟩ := hR 0 h0
        cases e
    subst hn
    simp only [List.length_nil]
    clear hR
    go_enter Tryz.func84, Tryz.ntmps84
    go_wp2_with fail
    go_ret
    exact ⟨⟨none, 0, rfl, OwnE.nil _ _⟩, Below.refl _ _⟩
  · have hbn : Below w.heap.size w (w.alloc (.cells #[] 68)) := (Below.refl _ _).alloc (Nat.le_refl _) _
    have HR := Lib.hid (hR.bel hbn)
    clear hR
    go_enter Tryz.func84, Tryz.ntmps84
    go_wp2_with (first
      | (at_builtin
         refine wpList_appW rfl (.tmp 5) (.tmp 6) rfl w.heap.size _ [] rfl (OwnE.lit w w.heap.size (Nat.le_refl _) [] (by simp) #[] rfl) (some a) es.length cap es rfl rfl HR.out (by simp only [List.length_nil]; omega) (by simp) ?_
         intro v1 w1 ho1 hg1
         have hb1 := Lib.hid (OwnE.grown (OwnE.lit w w.heap.size (Nat.le_refl _) [] (by simp) #[] rfl) hbn (by simp) hg1)
         rw [List.nil_append] at ho1
         obtain ⟨A1, c1, rfl, hc1, hR1, hO1⟩ := ho1.form
         have HOW := Lib.hid ho1
         clear hg1))
    go_ret
    exact ⟨⟨A1, c1, rfl, HOW.out⟩, hb1.out⟩

section
variable {base : Nat} {col : Nat → Nat} {r : Nod} {x : NdX} {L : List MsgV} {w w' : World}
theorem Rest.conf_new (h : Rest base col r x L w) (hb : Below w.heap.size w w') {A : Option Addr} {c : Nat} {vs : List Int} (ho : OwnL (layI .i64) 3 w' w.heap.size (.slice A vs.length c) vs) :
    Rest base (Go.Proofs.YtdladjgdhnkkcaaGreat.recol col w.heap.size 6) { r with conf := vs } { x with cA := A, cc := c } L w' := by
  have k := (h.recol 6).bel hb
  exact { k with conf := ho.low h.bs, confc := fun b hb => recol_new (ho.lt b hb).1 }
end
theorem size_alloc (w : World) (o : Obj) : (w.alloc o).heap.size = w.heap.size + 1 := by unfold World.alloc; simp
theorem Blk.new2 (w : World) (o : Obj) (t : TypeId) (cs : Array Value) : Blk ((w.alloc o).alloc (.cells cs t)) (w.heap.size + 1) t cs := by
  have := Blk.new (w.alloc o) t cs
  rwa [size_alloc] at this
/-- no lists at all -/
theorem Rest.none0 (base : Nat) (w : World) (hb : base ≤ w.heap.size) (id term vote role leader b bt : Int) (snap : ByteArray) (commit left wait : Int) :
    Rest base (fun _ => 1) ⟨id, [], term, vote, role, leader, b, bt, [], snap, commit, left, wait, [], [], []⟩ ⟨none, 0, none, 0, none, 0, none, 0, none, 0, none, 0⟩ [] w :=
  { bs := hb, conf := OwnL.nil _ _, confc := fun b hb => (by cases hb), es := RdZ.nil, votes := OwnL.nil _ _, votesc := fun b hb => (by cases hb), next := OwnL.nil _ _, nextc := fun b hb => (by cases hb), mtch := OwnL.nil _ _, mtchc := fun b hb => (by cases hb),
    out := OwnL.nil _ _, outc := fun b hb => (by cases hb), ents := fun y hy => (by cases hy) }

section
variable {P : Program} {ops : Array Oper} {Q : Exit → Act → World → Prop} {md : Region.Mode} {S : World → Prop} {n : Nat}
/-- an operation from n on that yields one value in whatever world may be taken first -/
theorem wpAnyN_firstT {i : Nat} {oi : Oper} {v : Value} (hi : ops[i]? = some oi) (hsel : ∀ (j : Nat) (o : Oper) cs b, ops[j]? = some o → o.op ≠ .select cs b) (hni : n ≤ i)
    (hQ : ∀ c a w, Q (.panic c) (a.put oi.dst v) w → Q (.panic c) a w) :
    ∀ (fuel : Nat) (listed : Array Bool) (a : Act) (w : World),
      (∀ j oj, ops[j]? = some oj → j ≠ i → listed.getD j true = false → (∀ e ∈ oj.after, Region.binds md e = true → e.on ≠ i) → oi.apart ops oj = true) →
      i ∈ Region.ready md ops listed → YieldsIf P ops (fun _ => True) oi v a →
      wpAnyN P md ops Q S n fuel (listed.setIfInBounds i true) (a.put oi.dst v) w → wpAnyN P md ops Q S n (fuel + 1) listed a w := by
  intro fuel
  induction fuel with
  | zero =>
    intro listed a w _ hr hy H
    refine ⟨fun h => (by rw [h] at hr; cases hr), fun j hj => ?_⟩
    by_cases hji : j = i
    · subst hji; exact hy.wpOp hi trivial ⟨fun h => absurd h (by omega), H⟩
    · have := ready_mono hj hji
      rw [H.1] at this
      cases this
  | succ fuel ih =>
    intro listed a w hfree hr hy H
    refine ⟨fun h => (by rw [h] at hr; cases hr), fun j hj => ?_⟩
    by_cases hji : j = i
    · subst hji; exact hy.wpOp hi trivial ⟨fun h => absurd h (by omega), H⟩
    · have h1 := H.2 j (ready_mono hj hji)
      obtain ⟨hjun, oj, hoj, hall⟩ := mem_ready.1 hj
      have hnot : ∀ e ∈ oj.after, Region.binds md e = true → e.on ≠ i := fun e he hb heq => by
        have h1 := hall e he hb
        rw [heq, getD_both (mem_ready.1 hr).1] at h1
        cases h1
      have h2 := wpOp_putIf hoj (hfree j oj hoj hji hjun hnot) (fun cs b => hsel i oi cs b hi) (fun cs b => hsel j oj cs b hoj) hQ hy h1
      have hfree' : ∀ k ok, ops[k]? = some ok → k ≠ i → (listed.setIfInBounds j true).getD k true = false →
          (∀ e ∈ ok.after, Region.binds md e = true → e.on ≠ i) → oi.apart ops ok = true := fun k ok hk hki hun hno => by
        refine hfree k ok hk hki ?_ hno
        by_cases hjk : j = k
        · subst hjk; exact hjun
        · rw [getD_set_ne true hjk] at hun; exact hun
      refine wpOp_mono (fun a' w' h3 => ⟨h3.2.1, ih (listed.setIfInBounds j true) a' w' hfree' (ready_mono hr (Ne.symm hji)) h3.1 ?_⟩) h2
      rw [Array.setIfInBounds_comm _ _ hji]
      exact h3.2.2
theorem wpAnyN_takeT {i : Nat} {oi : Oper} {v : Value} {fuel : Nat} {listed : Array Bool} {a : Act} {w : World} (hi : ops[i]? = some oi) (hs : Region.noSelect ops = true) (hni : n ≤ i) (hf : Region.free md ops listed i = true) (hr : (Region.ready md ops listed).contains i = true)
    (hQ : ∀ c a w, Q (.panic c) (a.put oi.dst v) w → Q (.panic c) a w) (hy : YieldsIf P ops (fun _ => True) oi v a)
    (h : wpAnyN P md ops Q S n fuel (listed.setIfInBounds i true) (a.put oi.dst v) w) : wpAnyN P md ops Q S n (fuel + 1) listed a w :=
  wpAnyN_firstT hi (Region.noSelect_spec hs) hni hQ fuel listed a w (Region.free_spec hi hf) (by simpa using hr) hy h
end
theorem wpAnyN_end {P : Program} {ops : Array Oper} {Q : Exit → Act → World → Prop} {md : Region.Mode} {S : World → Prop} {n fuel : Nat} {listed : Array Bool} {a : Act} {w : World} (k : Nat) (hl : (ops.toList.drop k).length = fuel) (hn : n ≤ k)
    (hB : Region.seqB md ops fuel k listed = true) (h : wpList P ops Q (ops.toList.drop k) a w) : wpAnyN P md ops Q S n fuel listed a w := by
  subst hl
  exact wpAnyN_tail _ k listed a w (fun j => by simp) hn hB h
/-- a copy: new memory, each list in its own block -/
def CopyR (w : World) (r : Nod) (e : Ending) (w' : World) : Prop :=
  (∃ x col, e = .returned (raftV r x) ∧ Rest w.heap.size col r { x with oA := none, oc := 0 } [] w') ∧ Below w.heap.size w w'

set_option maxRecDepth 20000 in
theorem copied_calls (r : Nod) (x : NdX) (w : World) (h : Hid (RdR w r x)) : Calls Tryz.prog 54 #[raftV r x] w (CopyR w r) := by
  obtain ⟨id, conf, term, vote, role, leader, b, bt, es, snap, commit, left, wait, votes, next, mtch⟩ := r
  obtain ⟨cA, cc, eA, ec, vA, vc, nA, nc, mA, mc, oA, oc⟩ := x
  have HB1 := Lib.hid (bel_new (bel_new (Below.refl w.heap.size w) (.cells #[.int .i64 id, .slice cA conf.length cc, .int .i64 term, .int .i64 vote, .int .i64 role, .int .i64 leader, .int .i64 b, .int .i64 bt, .slice eA es.length ec, .string snap, .int .i64 commit, .int .i64 left, .int .i64 wait, .slice vA votes.length vc, .slice nA next.length nc, .slice mA mtch.length mc] 28)) (.cells #[.int .i64 0, .slice none 0 0, .int .i64 0, .int .i64 0, .int .i64 0, .int .i64 0, .int .i64 0, .int .i64 0, .slice none 0 0, .string ⟨#[]⟩, .int .i64 0, .int .i64 0, .int .i64 0, .slice none 0 0, .slice none 0 0, .slice none 0 0] 28))
  have H1 := Lib.hid (h.out.bel HB1.out)
  have HZ1 := Lib.hid ((Blk.new w 28 #[.int .i64 id, .slice cA conf.length cc, .int .i64 term, .int .i64 vote, .int .i64 role, .int .i64 leader, .int .i64 b, .int .i64 bt, .slice eA es.length ec, .string snap, .int .i64 commit, .int .i64 left, .int .i64 wait, .slice vA votes.length vc, .slice nA next.length nc, .slice mA mtch.length mc]).alloc (.cells #[.int .i64 0, .slice none 0 0, .int .i64 0, .int .i64 0, .int .i64 0, .int .i64 0, .int .i64 0, .int .i64 0, .slice none 0 0, .string ⟨#[]⟩, .int .i64 0, .int .i64 0, .int .i64 0, .slice none 0 0, .slice none 0 0, .slice none 0 0] 28))
  have HY1 : Hid (Blk ((w.alloc (.cells #[.int .i64 id, .slice cA conf.length cc, .int .i64 term, .int .i64 vote, .int .i64 role, .int .i64 leader, .int .i64 b, .int .i64 bt, .slice eA es.length ec, .string snap, .int .i64 commit, .int .i64 left, .int .i64 wait, .slice vA votes.length vc, .slice nA next.length nc, .slice mA mtch.length mc] 28)).alloc (.cells #[.int .i64 0, .slice none 0 0, .int .i64 0, .int .i64 0, .int .i64 0, .int .i64 0, .int .i64 0, .int .i64 0, .slice none 0 0, .string ⟨#[]⟩, .int .i64 0, .int .i64 0, .int .i64 0, .slice none 0 0, .slice none 0 0, .slice none 0 0] 28)) (w.heap.size + 1) 28 #[.int .i64 0, .slice none 0 0, .int .i64 0, .int .i64 0, .int .i64 0, .int .i64 0, .int .i64 0, .int .i64 0, .slice none 0 0, .string ⟨#[]⟩, .int .i64 0, .int .i64 0, .int .i64 0, .slice none 0 0, .slice none 0 0, .slice none 0 0]) := Lib.hid (Blk.new2 w _ _ _)
  have hsz1 : ((w.alloc (.cells #[.int .i64 id, .slice cA conf.length cc, .int .i64 term, .int .i64 vote, .int .i64 role, .int .i64 leader, .int .i64 b, .int .i64 bt, .slice eA es.length ec, .string snap, .int .i64 commit, .int .i64 left, .int .i64 wait, .slice vA votes.length vc, .slice nA next.length nc, .slice mA mtch.length mc] 28)).alloc (.cells #[.int .i64 0, .slice none 0 0, .int .i64 0, .int .i64 0, .int .i64 0, .int .i64 0, .int .i64 0, .int .i64 0, .slice none 0 0, .string ⟨#[]⟩, .int .i64 0, .int .i64 0, .int .i64 0, .slice none 0 0, .slice none 0 0, .slice none 0 0] 28)).heap.size = w.heap.size + 2 := by rw [size_alloc, size_alloc]
  have HS1 := Lib.hid hsz1
  clear hsz1
  go_enter Tryz.func54, Tryz.ntmps54
  go_wp2_with fail
  generalize (w.alloc (.cells #[.int .i64 id, .slice cA conf.length cc, .int .i64 term, .int .i64 vote, .int .i64 role, .int .i64 leader, .int .i64 b, .int .i64 bt, .slice eA es.length ec, .string snap, .int .i64 commit, .int .i64 left, .int .i64 wait, .slice vA votes.length vc, .slice nA next.length nc, .slice mA mtch.length mc] 28)).alloc (.cells #[.int .i64 0, .slice none 0 0, .int .i64 0, .int .i64 0, .int .i64 0, .int .i64 0, .int .i64 0, .int .i64 0, .slice none 0 0, .string ⟨#[]⟩, .int .i64 0, .int .i64 0, .int .i64 0, .slice none 0 0, .slice none 0 0, .slice none 0 0] 28) = w1 at *
  have hS : w1.drew.cell? ⟨w.heap.size, 1, none⟩ = some (.slice cA conf.length cc) ∧ w1.drew.cell? ⟨w.heap.size, 13, none⟩ = some (.slice vA votes.length vc) ∧ w1.drew.cell? ⟨w.heap.size, 14, none⟩ = some (.slice nA next.length nc) ∧ w1.drew.cell? ⟨w.heap.size, 15, none⟩ = some (.slice mA mtch.length mc) := ⟨HZ1.out.cells 1, HZ1.out.cells 13, HZ1.out.cells 14, HZ1.out.cells 15⟩
  have HBd := Lib.hid (bel_drew HB1.out)
  have Hd := Lib.hid (H1.out.bel (bel_drew (Below.refl _ _)))
  have HZd : Hid (Blk w1.drew w.heap.size 28 #[.int .i64 id, .slice cA conf.length cc, .int .i64 term, .int .i64 vote, .int .i64 role, .int .i64 leader, .int .i64 b, .int .i64 bt, .slice eA es.length ec, .string snap, .int .i64 commit, .int .i64 left, .int .i64 wait, .slice vA votes.length vc, .slice nA next.length nc, .slice mA mtch.length mc]) := Lib.hid (HZ1.out.drewN 1)
  have HYd : Hid (Blk w1.drew (w.heap.size + 1) 28 #[.int .i64 0, .slice none 0 0, .int .i64 0, .int .i64 0, .int .i64 0, .int .i64 0, .int .i64 0, .int .i64 0, .slice none 0 0, .string ⟨#[]⟩, .int .i64 0, .int .i64 0, .int .i64 0, .slice none 0 0, .slice none 0 0, .slice none 0 0]) := Lib.hid (HY1.out.drewN 1)
  have HRd := Lib.hid (Rest.none0 w.heap.size w1.drew HBd.out.size id term vote role leader b bt snap commit left wait)
  refine wp_region_N (n := 12) (S := fun W => W.cell? ⟨w.heap.size, 1, none⟩ = some (.slice cA conf.length cc) ∧ W.cell? ⟨w.heap.size, 13, none⟩ = some (.slice vA votes.length vc) ∧ W.cell? ⟨w.heap.size, 14, none⟩ = some (.slice nA next.length nc) ∧ W.cell? ⟨w.heap.size, 15, none⟩ = some (.slice mA mtch.length mc)) (by kernel_rfl) ?_
  refine wpAnyN_take (i := 0) (v := .pointer (some ⟨w.heap.size, 1, none⟩)) rfl (by kernel_rfl) (by kernel_rfl) (by kernel_rfl) (by kernel_rfl) (fun _ _ _ h => h) (Or.inl ⟨by rfl, fun W hW => ?_⟩) hS ?_
  · obtain ⟨u1, u2, u3, u4⟩ := hW
    go_simp
  simp only [Act.put, List.setIfInBounds_toArray, List.set_cons_zero, List.set_cons_succ]
  refine wpAnyN_take (i := 3) (v := .pointer (some ⟨w.heap.size, 13, none⟩)) rfl (by kernel_rfl) (by kernel_rfl) (by kernel_rfl) (by kernel_rfl) (fun _ _ _ h => h) (Or.inl ⟨by rfl, fun W hW => ?_⟩) hS ?_
  · obtain ⟨u1, u2, u3, u4⟩ := hW
    go_simp
  simp only [Act.put, List.setIfInBounds_toArray, List.set_cons_zero, List.set_cons_succ]
  refine wpAnyN_take (i := 6) (v := .pointer (some ⟨w.heap.size, 14, none⟩)) rfl (by kernel_rfl) (by kernel_rfl) (by kernel_rfl) (by kernel_rfl) (fun _ _ _ h => h) (Or.inl ⟨by rfl, fun W hW => ?_⟩) hS ?_
  · obtain ⟨u1, u2, u3, u4⟩ := hW
    go_simp
  simp only [Act.put, List.setIfInBounds_toArray, List.set_cons_zero, List.set_cons_succ]
  refine wpAnyN_take (i := 9) (v := .pointer (some ⟨w.heap.size, 15, none⟩)) rfl (by kernel_rfl) (by kernel_rfl) (by kernel_rfl) (by kernel_rfl) (fun _ _ _ h => h) (Or.inl ⟨by rfl, fun W hW => ?_⟩) hS ?_
  · obtain ⟨u1, u2, u3, u4⟩ := hW
    go_simp
  simp only [Act.put, List.setIfInBounds_toArray, List.set_cons_zero, List.set_cons_succ]
  refine wpAnyN_take (i := 1) (v := .slice cA conf.length cc) rfl (by kernel_rfl) (by kernel_rfl) (by kernel_rfl) (by kernel_rfl) (fun _ _ _ h => h) (Or.inl ⟨by rfl, fun W hW => ?_⟩) hS ?_
  · obtain ⟨u1, u2, u3, u4⟩ := hW
    go_simp
  simp only [Act.put, List.setIfInBounds_toArray, List.set_cons_zero, List.set_cons_succ]
  refine wpAnyN_take (i := 4) (v := .slice vA votes.length vc) rfl (by kernel_rfl) (by kernel_rfl) (by kernel_rfl) (by kernel_rfl) (fun _ _ _ h => h) (Or.inl ⟨by rfl, fun W hW => ?_⟩) hS ?_
  · obtain ⟨u1, u2, u3, u4⟩ := hW
    go_simp
  simp only [Act.put, List.setIfInBounds_toArray, List.set_cons_zero, List.set_cons_succ]
  refine wpAnyN_take (i := 7) (v := .slice nA next.length nc) rfl (by kernel_rfl) (by kernel_rfl) (by kernel_rfl) (by kernel_rfl) (fun _ _ _ h => h) (Or.inl ⟨by rfl, fun W hW => ?_⟩) hS ?_
  · obtain ⟨u1, u2, u3, u4⟩ := hW
    go_simp
  simp only [Act.put, List.setIfInBounds_toArray, List.set_cons_zero, List.set_cons_succ]
  refine wpAnyN_take (i := 10) (v := .slice mA mtch.length mc) rfl (by kernel_rfl) (by kernel_rfl) (by kernel_rfl) (by kernel_rfl) (fun _ _ _ h => h) (Or.inl ⟨by rfl, fun W hW => ?_⟩) hS ?_
  · obtain ⟨u1, u2, u3, u4⟩ := hW
    go_simp
  simp only [Act.put, List.setIfInBounds_toArray, List.set_cons_zero, List.set_cons_succ]
  generalize hw1d : w1.drew = wd at *
  have Hsd : Hid (wd.heap.size = w.heap.size + 2) := Lib.hid (by rw [← hw1d]; exact HS1.out)
  clear hw1d H1 HZ1 HY1 HS1 HB1 hS
  refine wpAnyN_one (i := 2) (by kernel_rfl) rfl rfl ?_
  intro K hK
  go_simp
  refine (cloneG_calls cA cc conf _ (Lib.hid Hd.out.conf) Hd.out.conf2).mono ?_
  rintro e w2 ⟨⟨A2, c2, rfl, ho2, hl2, hm2⟩, hb2⟩
  have HR2 := Lib.hid (HRd.out.conf_new hb2 ho2)
  have HB2 := Lib.hid (bel_tr HBd.out hb2)
  have HZ2 := Lib.hid (HZd.out.bel hb2)
  have HY2 := Lib.hid (HYd.out.bel hb2)
  have HD2 := Lib.hid (Hd.out.bel hb2)
  have Hs2 : Hid (w.heap.size + 2 ≤ w2.heap.size) := Lib.hid (by have := hb2.size; have := Hsd.out; omega)
  have hS2 : w2.cell? ⟨w.heap.size, 1, none⟩ = some (.slice cA conf.length cc) ∧ w2.cell? ⟨w.heap.size, 13, none⟩ = some (.slice vA votes.length vc) ∧ w2.cell? ⟨w.heap.size, 14, none⟩ = some (.slice nA next.length nc) ∧ w2.cell? ⟨w.heap.size, 15, none⟩ = some (.slice mA mtch.length mc) := ⟨HZ2.out.cells 1, HZ2.out.cells 13, HZ2.out.cells 14, HZ2.out.cells 15⟩
  refine hK _ _ (fun _ => hS2) ?_
  clear hK K hS2 hb2 ho2 hl2 hm2 Hd HRd HBd HZd HYd
  have Hd := HD2
  clear HD2
  refine wpAnyN_takeT (i := 12) (v := .pointer (some ⟨w.heap.size, 1, none⟩)) rfl (by kernel_rfl) (by decide) (by kernel_rfl) (by kernel_rfl) (fun _ _ _ h => h) (Or.inl ⟨by rfl, fun W _ => ?_⟩) ?_
  · go_simp
  simp only [Act.put, List.setIfInBounds_toArray, List.set_cons_zero, List.set_cons_succ]
  refine wpAnyN_one (i := 5) (by kernel_rfl) rfl rfl ?_
  intro K hK
  go_simp
  refine (cloneG_calls vA vc votes _ (Lib.hid Hd.out.votes) Hd.out.votes2).mono ?_
  rintro e w3 ⟨⟨A3, c3, rfl, ho3, hl3, hm3⟩, hb3⟩
  have HR3 := Lib.hid (HR2.out.votes_new hb3 ho3)
  have HB3 := Lib.hid (bel_tr HB2.out hb3)
  have HZ3 := Lib.hid (HZ2.out.bel hb3)
  have HY3 := Lib.hid (HY2.out.bel hb3)
  have HD3 := Lib.hid (Hd.out.bel hb3)
  have Hs3 : Hid (w.heap.size + 2 ≤ w3.heap.size) := Lib.hid (by have := hb3.size; have := Hs2.out; omega)
  have hS3 : w3.cell? ⟨w.heap.size, 1, none⟩ = some (.slice cA conf.length cc) ∧ w3.cell? ⟨w.heap.size, 13, none⟩ = some (.slice vA votes.length vc) ∧ w3.cell? ⟨w.heap.size, 14, none⟩ = some (.slice nA next.length nc) ∧ w3.cell? ⟨w.heap.size, 15, none⟩ = some (.slice mA mtch.length mc) := ⟨HZ3.out.cells 1, HZ3.out.cells 13, HZ3.out.cells 14, HZ3.out.cells 15⟩
  refine hK _ _ (fun _ => hS3) ?_
  clear hK K hS3 hb3 ho3 hl3 hm3 Hd HR2 HB2 HZ2 HY2
  have Hd := HD3
  clear HD3
  refine wpAnyN_one (i := 8) (by kernel_rfl) rfl rfl ?_
  intro K hK
  go_simp
  refine (cloneL_calls nA nc next _ (Lib.hid Hd.out.next) Hd.out.next2).mono ?_
  rintro e w4 ⟨⟨A4, c4, rfl, ho4, hl4, hm4⟩, hb4⟩
  have HR4 := Lib.hid (HR3.out.next_new hb4 ho4)
  have HB4 := Lib.hid (bel_tr HB3.out hb4)
  have HZ4 := Lib.hid (HZ3.out.bel hb4)
  have HY4 := Lib.hid (HY3.out.bel hb4)
  have HD4 := Lib.hid (Hd.out.bel hb4)
  have Hs4 : Hid (w.heap.size + 2 ≤ w4.heap.size) := Lib.hid (by have := hb4.size; have := Hs3.out; omega)
  have hS4 : w4.cell? ⟨w.heap.size, 1, none⟩ = some (.slice cA conf.length cc) ∧ w4.cell? ⟨w.heap.size, 13, none⟩ = some (.slice vA votes.length vc) ∧ w4.cell? ⟨w.heap.size, 14, none⟩ = some (.slice nA next.length nc) ∧ w4.cell? ⟨w.heap.size, 15, none⟩ = some (.slice mA mtch.length mc) := ⟨HZ4.out.cells 1, HZ4.out.cells 13, HZ4.out.cells 14, HZ4.out.cells 15⟩
  refine hK _ _ (fun _ => hS4) ?_
  clear hK K hS4 hb4 ho4 hl4 hm4 Hd HR3 HB3 HZ3 HY3
  have Hd := HD4
  clear HD4
  refine wpAnyN_one (i := 11) (by kernel_rfl) rfl rfl ?_
  intro K hK
  go_simp
  refine (cloneL_calls mA mc mtch _ (Lib.hid Hd.out.mtch) Hd.out.mtch2).mono ?_
  rintro e w5 ⟨⟨A5, c5, rfl, ho5, hl5, hm5⟩, hb5⟩
  have HR5 := Lib.hid (HR4.out.mtch_new hb5 ho5)
  have HB5 := Lib.hid (bel_tr HB4.out hb5)
  have HZ5 := Lib.hid (HZ4.out.bel hb5)
  have HY5 := Lib.hid (HY4.out.bel hb5)
  have HD5 := Lib.hid (Hd.out.bel hb5)
  have Hs5 : Hid (w.heap.size + 2 ≤ w5.heap.size) := Lib.hid (by have := hb5.size; have := Hs4.out; omega)
  have hS5 : w5.cell? ⟨w.heap.size, 1, none⟩ = some (.slice cA conf.length cc) ∧ w5.cell? ⟨w.heap.size, 13, none⟩ = some (.slice vA votes.length vc) ∧ w5.cell? ⟨w.heap.size, 14, none⟩ = some (.slice nA next.length nc) ∧ w5.cell? ⟨w.heap.size, 15, none⟩ = some (.slice mA mtch.length mc) := ⟨HZ5.out.cells 1, HZ5.out.cells 13, HZ5.out.cells 14, HZ5.out.cells 15⟩
  refine hK _ _ (fun _ => hS5) ?_
  clear hK K hS5 hb5 ho5 hl5 hm5 Hd HR4 HB4 HZ4 HY4
  have Hd := HD5
  clear HD5
  have hz := HZ5.out.cells
  have fz := HZ5.out.free
  have hy := HY5.out.cells
  have fy := HY5.out.free
  have hne1 : w.heap.size ≠ w.heap.size + 1 := by omega
  refine wpAnyN_end 13 rfl (by decide) (by kernel_rfl) ?_
  simp only [List.toList_toArray, List.drop_succ_cons, List.drop_zero]
  go_wp2_with fail
  have hcol : (recol (recol (recol (recol (fun _ => 1) wd.heap.size 6) w2.heap.size 2) w3.heap.size 3) w4.heap.size 4) w.heap.size = 1 := (recol_old (by have := Hs4.out; omega)).trans ((recol_old (by have := Hs3.out; omega)).trans ((recol_old (by have := Hs2.out; omega)).trans (recol_old (by have := Hsd.out; omega))))
  have hcol2 : (recol (recol (recol (recol (fun _ => 1) wd.heap.size 6) w2.heap.size 2) w3.heap.size 3) w4.heap.size 4) (w.heap.size + 1) = 1 := (recol_old (by have := Hs4.out; omega)).trans ((recol_old (by have := Hs3.out; omega)).trans ((recol_old (by have := Hs2.out; omega)).trans (recol_old (by have := Hsd.out; omega))))
  have HR6 := Lib.hid ((((HR5.out.set1 (p := ⟨w.heap.size, 1, none⟩) hcol (.slice A2 conf.length c2)).set1 (p := ⟨w.heap.size, 13, none⟩) hcol (.slice A3 votes.length c3)).set1 (p := ⟨w.heap.size, 14, none⟩) hcol (.slice A4 next.length c4)).set1 (p := ⟨w.heap.size, 15, none⟩) hcol (.slice A5 mtch.length c5))
  have HZ6 := Lib.hid ((((HZ5.out.set 1 (.slice A2 conf.length c2)).set 13 (.slice A3 votes.length c3)).set 14 (.slice A4 next.length c4)).set 15 (.slice A5 mtch.length c5))
  have HY6 := Lib.hid ((((HY5.out.far (p := ⟨w.heap.size, 1, none⟩) (by simp) (.slice A2 conf.length c2)).far (p := ⟨w.heap.size, 13, none⟩) (by simp) (.slice A3 votes.length c3)).far (p := ⟨w.heap.size, 14, none⟩) (by simp) (.slice A4 next.length c4)).far (p := ⟨w.heap.size, 15, none⟩) (by simp) (.slice A5 mtch.length c5))
  have HB6 := Lib.hid (bel_set (bel_set (bel_set (bel_set HB5.out (Nat.le_refl _) 1 (.slice A2 conf.length c2)) (Nat.le_refl _) 13 (.slice A3 votes.length c3)) (Nat.le_refl _) 14 (.slice A4 next.length c4)) (Nat.le_refl _) 15 (.slice A5 mtch.length c5))
  have Hs6 : Hid (w.heap.size + 2 ≤ ((((w5.setCell ⟨w.heap.size, 1, none⟩ (.slice A2 conf.length c2)).setCell ⟨w.heap.size, 13, none⟩ (.slice A3 votes.length c3)).setCell ⟨w.heap.size, 14, none⟩ (.slice A4 next.length c4)).setCell ⟨w.heap.size, 15, none⟩ (.slice A5 mtch.length c5)).heap.size) := Lib.hid (by have := Hs5.out; simpa using this)
  have HC1 := Lib.hid hcol
  have HC2 := Lib.hid hcol2
  clear hz fz hy fy HR5 HZ5 HY5 HB5 Hd hcol hcol2
  generalize (((w5.setCell ⟨w.heap.size, 1, none⟩ (.slice A2 conf.length c2)).setCell ⟨w.heap.size, 13, none⟩ (.slice A3 votes.length c3)).setCell ⟨w.heap.size, 14, none⟩ (.slice A4 next.length c4)).setCell ⟨w.heap.size, 15, none⟩ (.slice A5 mtch.length c5) = w6 at *
  refine (clone6_calls eA ec es w6 (h.out.es.bel HB6.out) h.out.es2).mono ?_
  rintro e w7 ⟨⟨A7, c7, rfl, hO7⟩, hb7⟩
  have HR7 := Lib.hid (HR6.out.log hb7 b bt hO7)
  have HZ7 := Lib.hid (HZ6.out.bel hb7)
  have HY7 := Lib.hid (HY6.out.bel hb7)
  have HB7 := Lib.hid (bel_tr HB6.out hb7)
  have HC3 := Lib.hid ((recol_old (c := 0) (by have := Hs6.out; omega)).trans HC1.out : (recol (recol (recol (recol (recol (fun _ => 1) wd.heap.size 6) w2.heap.size 2) w3.heap.size 3) w4.heap.size 4) w6.heap.size 0) w.heap.size = 1)
  have HC4 := Lib.hid ((recol_old (c := 0) (by have := Hs6.out; omega)).trans HC2.out : (recol (recol (recol (recol (recol (fun _ => 1) wd.heap.size 6) w2.heap.size 2) w3.heap.size 3) w4.heap.size 4) w6.heap.size 0) (w.heap.size + 1) = 1)
  clear hO7 hb7 HR6 HZ6 HY6 HB6
  have hz : ∀ i, w7.cell? ⟨w.heap.size, i, none⟩ = (#[.int .i64 id, .slice A2 conf.length c2, .int .i64 term, .int .i64 vote, .int .i64 role, .int .i64 leader, .int .i64 b, .int .i64 bt, .slice eA es.length ec, .string snap, .int .i64 commit, .int .i64 left, .int .i64 wait, .slice A3 votes.length c3, .slice A4 next.length c4, .slice A5 mtch.length c5] : Array Value)[i]? := HZ7.out.cells
  have fz := HZ7.out.free
  have hy := HY7.out.cells
  have fy := HY7.out.free
  go_wp2_with fail
  refine bodyPost_ret (v := raftV ⟨id, conf, term, vote, role, leader, b, bt, es, snap, commit, left, wait, votes, next, mtch⟩ ⟨A2, c2, A7, c7, A3, c3, A4, c4, A5, c5, none, 0⟩) (by simp [results, Tryz.results54, go_sem, hy]) rfl ⟨⟨⟨A2, c2, A7, c7, A3, c3, A4, c4, A5, c5, none, 0⟩, recol (recol (recol (recol (recol (fun _ => 1) wd.heap.size 6) w2.heap.size 2) w3.heap.size 3) w4.heap.size 4) w6.heap.size 0, rfl, ?_⟩, ?_⟩
  · iterate 16 (with_reducible refine Rest.set1 (p := ⟨w.heap.size + 1, _, none⟩) ?_ HC4.out _)
    with_reducible refine Rest.set1 (p := ⟨w.heap.size, _, none⟩) ?_ HC3.out _
    with_reducible exact HR7.out
  · iterate 16 (with_reducible refine bel_set ?_ (Nat.le_succ _) _ _)
    with_reducible refine bel_set ?_ (Nat.le_refl _) _ _
    with_reducible exact HB7.out
end Go.Proofs.YtdladjgdhnkkcaaGreat
