
/-
  3 texts in one.
  Conditions: stated lemma by lemma.
-/
import Derived.Test.YtdladjgdhnkkcaaGreatZTr3ToTr4
import Derived.Deep.RegionLaw
import Derived.Deep.DeepAppendWide
import Derived.Lib.SliceRun
/-
  Contracts of the package trail: with, and a copy of entries.
  Conditions: the entries can be read.
-/
namespace Go.Proofs.YtdladjgdhnkkcaaGreat
open Go.RowKit
set_option linter.unusedVariables false
set_option linter.unusedSimpArgs false

theorem run_appW (w : World) (ty : TypeId) (base : Nat) (v : Value) (xs : List En) (hown : OwnE w base v xs) (A : Option Addr) (c : Nat) (ys : List En) (hr : RdE w A ys)
    (hb : xs.length + ys.length ≤ 8000000000000) (hbase : base ≤ w.heap.size) :
    ∃ v' w', (Builtin.append_ #[23, 23] ty #[v, .slice A ys.length c]).run Tryz.prog w = .ok v' w' ∧ OwnE w' base v' (xs ++ ys) ∧ w.grownBy w' v.ownBlock := by
  obtain ⟨i0, hi0, hz0, hz1, hz2⟩ := info_parts infoE
  rcases A with _ | ⟨b, off, spot⟩
  · have hn : ys = [] := by
      rcases Nat.eq_zero_or_pos ys.length with h0 | h0
      · exact List.eq_nil_of_length_eq_zero h0
      · obtain ⟨_, _, e, _⟩ := hr 0 h0
        cases e
    subst hn
    have hu := run_underlying Tryz.underlying23
    refine ⟨v, w, ?_, by simpa using hown, World.grownBy.refl w _⟩
    obtain ⟨_, hv⟩ := hown
    rcases hv with ⟨rfl, _⟩ | ⟨g, cap, cur, rfl, _, _, hnc, _⟩
    · simp [Builtin.append_, hu, sizeOf, typeInfo, hi0, Builtin.lenOf, Builtin.firstCells]
    · simp [Builtin.append_, hu, sizeOf, typeInfo, hi0, Builtin.lenOf, Builtin.firstCells, hnc, storeCells]
  · obtain ⟨v', w', hrun, h2, h3, _⟩ := run_append_own_wide (P := Tryz.prog) w base 23 ty 68 i0 (.agg #[.int .i64 0, .string ByteArray.empty]) 2 24 Tryz.underlying23 hi0 hz0 hz1 hz2 rfl (by omega) v xs.length (cellsE xs) hown ⟨b, off, spot⟩ ys.length c (cellsE ys) (cellsE_len ys) hr.cells
      (fun u hu => by obtain ⟨x, _, hx⟩ := List.mem_flatMap.1 hu; simp at hx; rcases hx with rfl | rfl <;> rfl) (by unfold maxLen; omega) (by omega) hbase
    refine ⟨v', w', hrun, ?_, h3⟩
    unfold OwnE
    rw [List.length_append, cellsE_app]
    exact h2

theorem step_appE {ops : Array Oper} {o : Oper} {a : Act} {K : Act → World → Prop} {Q : Exit → Act → World → Prop} {E : Prop} {w : World} (hgd : o.guard = none) (s x : Operand)
    (ho : o.op = .call { callee := .builtin .append, args := #[s, x], argTypes := #[23, 23] })
    (base : Nat) (v : Value) (xs : List En) (hs : a.eval s = v) (hown : OwnE w base v xs) (A : Option Addr) (n c : Nat) (ys : List En) (hx : a.eval x = .slice A n c) (hn : n = ys.length) (hr : RdE w A ys)
    (hb : xs.length + ys.length ≤ 8000000000000) (hbase : base ≤ w.heap.size)
    (h : ∀ v' w', OwnE w' base v' (xs ++ ys) → w.grownBy w' v.ownBlock → K (a.put o.dst v') w') :
    if Region.wanted o (yielded ops a.tmps) = true then Oper.wp Tryz.prog o a w K Q else E := by
  have hw : Region.wanted o (yielded ops a.tmps) = true := by simp [Region.wanted, hgd]
  rw [if_pos hw]
  subst hn
  obtain ⟨v', w', hrun, h2, h3⟩ := run_appW w o.type base v xs hown A c ys hr hb hbase
  unfold Oper.wp execOp
  simp only [ho, resolve, invoke, builtin, Sem.run_bind, Sem.run_pure, Result.andThen_ok, List.map_toArray, List.map_cons, List.map_nil, hs, hx, hrun]
  exact h v' w' h2 h3

theorem RdE.far {w : World} {A : Option Addr} {es : List En} (h : RdE w A es) {g i : Nat} {v : Value} (hg : ∀ b off sp, A = some ⟨b, off, sp⟩ → b ≠ g) : RdE (w.setCell ⟨g, i, none⟩ v) A es := fun j hj => by
  obtain ⟨b, off, e, hlt, h1, h2⟩ := h j hj
  have hne := hg b off none e
  refine ⟨b, off, e, (by show _ < (w.setCell _ _).heap.size; simpa [World.setCell] using hlt), ?_, ?_⟩
  · exact (World.cell?_of_block (w := w) (a := ⟨b, off + j * 2, none⟩) (Below.heap_setCell w ⟨g, i, none⟩ v b hne)).trans h1
  · exact (World.cell?_of_block (w := w) (a := ⟨b, off + j * 2 + 1, none⟩) (Below.heap_setCell w ⟨g, i, none⟩ v b hne)).trans h2

/-- a log made, or none -/
def ResT (base : Nat) (b bt : Int) (o : Option (List En)) (v : Value) (w : World) : Prop :=
  match o with
  | none => v = .tuple #[trV 0 0 none 0 0, .bool false]
  | some out => ∃ A cap, v = .tuple #[trV b bt A out.length cap, .bool true] ∧ OwnE w base (.slice A out.length cap) out

set_option maxRecDepth 20000 in
set_option maxHeartbeats 1000000 in
theorem clone_calls (A : Option Addr) (cap : Nat) (es : List En) (w : World) (hR : RdE w A es) (hlen : es.length ≤ 2 ^ 40) :
    Calls Tryz.prog 84 #[.slice A es.length cap] w fun e w' => (∃ A' cap', e = .returned (.slice A' es.length cap') ∧ OwnE w' w.heap.size (.slice A' es.length cap') es) ∧ Below w.heap.size w w' := by
  have q22 : ∀ (w : World) (a : Option Addr) (n c n' c' : Nat), (binOp .eql 23 (.slice a n c) (.slice none n' c')).run Tryz.prog w = .ok (.bool a.isNone) w := fun w a n c n' c' => Lib.run_eql_slice_nil w _ _ a n c n' c' Tryz.underlying23
  rcases A with _ | a
  · have hn : es = [] := by
      rcases Nat.eq_zero_or_pos es.length with h0 | h0
      · exact List.eq_nil_of_length_eq_zero h0
      · obtain ⟨_, _, e, _⟩ := hR 0 h0
        cases e
    subst hn
    simp only [List.length_nil]
    clear hR
    go_enter Tryz.func84, Tryz.ntmps84
    go_wp2_with fail
    go_ret
    exact ⟨⟨none, 0, rfl, OwnE.nil _ _⟩, Below.refl _ _⟩
  · have hbn : Below w.heap.size w (w.alloc (.cells #[] 68)) := (Below.refl _ _).alloc (Nat.le_refl _) _
    have HR := Lib.hid (hR.bel hbn)
    clear hR
    go_enter Tryz.func84, Tryz.ntmps84
    go_wp2_with (first
      | (at_builtin
         refine wpList_appE rfl (.tmp 5) (.tmp 6) rfl w.heap.size _ [] rfl (OwnE.lit w w.heap.size (Nat.le_refl _) [] (by simp) #[] rfl) (some a) es.length cap es rfl rfl HR.out (by simpa using hlen) (by simp) ?_
         intro v1 w1 ho1 hg1 _
         have hb1 := Lib.hid (OwnE.grown (OwnE.lit w w.heap.size (Nat.le_refl _) [] (by simp) #[] rfl) hbn (by simp) hg1)
         rw [List.nil_append] at ho1
         obtain ⟨A1, c1, rfl, hc1, hR1, hO1⟩ := ho1.form
         have HOW := Lib.hid ho1
         clear hg1))
    go_ret
    exact ⟨⟨A1, c1, rfl, HOW.out⟩, hb1.out⟩

set_option maxRecDepth 20000 in
set_option maxHeartbeats 1000000 in
theorem with_calls (b bt : Int) (A : Option Addr) (cap k : Nat) (es : List En) (B : Option Addr) (cap' : Nat) (more : List En) (w : World) (hR : RdE w A es) (hM : RdE w B more) (hlen : es.length ≤ 4096) (hcap : es.length ≤ cap) (hk : k ≤ es.length) (hml : more.length ≤ 6000000000000) :
    Calls Tryz.prog 90 #[trV b bt A es.length cap, .int .i64 k, .slice B more.length cap'] w fun e w' => (∃ v, e = .returned v ∧ ResT w.heap.size b bt (Tr.with_ b bt es k more) v w') ∧ Below w.heap.size w w' := by
  obtain ⟨o, ho⟩ : ∃ o, o = Tr.with_ b bt es k more := ⟨_, rfl⟩
  rw [← ho]
  have HW := Lib.hid ho
  have HR := Lib.hid hR
  have HM := Lib.hid hM
  clear ho
  have k1 : (k : Int) ≤ (cap : Int) := by omega
  have k2 : (0 : Int) ≤ (k : Int) := by omega
  clear hR hM
  go_enter Tryz.func90, Tryz.ntmps90
  go_wp2_with fail
  have hB0 := (((Blk.new w 25 #[.int .i64 b, .int .i64 bt, .slice A es.length cap]).alloc (.cells #[.int .i64 0, .int .i64 0, .slice none 0 0] 25)).alloc (.cells #[.int .i64 b, .int .i64 bt, .slice none 0 0] 25)).drewN 1
  have hB1 := ((Blk.new (w.alloc (.cells #[.int .i64 b, .int .i64 bt, .slice A es.length cap] 25)) 25 #[.int .i64 0, .int .i64 0, .slice none 0 0]).alloc (.cells #[.int .i64 b, .int .i64 bt, .slice none 0 0] 25)).drewN 1
  have hB2 := (Blk.new ((w.alloc (.cells #[.int .i64 b, .int .i64 bt, .slice A es.length cap] 25)).alloc (.cells #[.int .i64 0, .int .i64 0, .slice none 0 0] 25)) 25 #[.int .i64 b, .int .i64 bt, .slice none 0 0]).drewN 1
  have hbl : Below w.heap.size w ((((w.alloc (.cells #[.int .i64 b, .int .i64 bt, .slice A es.length cap] 25)).alloc (.cells #[.int .i64 0, .int .i64 0, .slice none 0 0] 25)).alloc (.cells #[.int .i64 b, .int .i64 bt, .slice none 0 0] 25)).drew) := bel_drew (bel_new (bel_new (bel_new (Below.refl _ _) _) _) _)
  have hsz : (((w.alloc (.cells #[.int .i64 b, .int .i64 bt, .slice A es.length cap] 25)).alloc (.cells #[.int .i64 0, .int .i64 0, .slice none 0 0] 25)).alloc (.cells #[.int .i64 b, .int .i64 bt, .slice none 0 0] 25)).drew.heap.size = w.heap.size + 3 := by simp
  simp only [World.size_alloc] at hB0 hB1 hB2
  generalize (((w.alloc (.cells #[.int .i64 b, .int .i64 bt, .slice A es.length cap] 25)).alloc (.cells #[.int .i64 0, .int .i64 0, .slice none 0 0] 25)).alloc (.cells #[.int .i64 b, .int .i64 bt, .slice none 0 0] 25)) = W0 at *
  have hT : RdE W0.drew A (es.take k) := by
    have := (HR.out.bel hbl)
    exact fun i hi => by
      have hi' : i < k := by simp at hi; omega
      obtain ⟨b, off, e, hlt, h1, h2⟩ := this i (by omega)
      have e1 : (es.take k).getD i default = es.getD i default := Tr.getD_take _ _ _ _ hi'
      rw [e1]
      exact ⟨b, off, e, hlt, h1, h2⟩
  have hlk : k = (es.take k).length := by simp; omega
  have HT := Lib.hid hT
  have HLK := Lib.hid hlk
  have HB0 := Lib.hid hB0
  have HB1 := Lib.hid hB1
  have HB2 := Lib.hid hB2
  have c0 : ∀ i, (W0.drew).cell? ⟨w.heap.size, i, none⟩ = (#[.int .i64 b, .int .i64 bt, .slice A es.length cap] : Array Value)[i]? := hB0.cells
  have c2 : ∀ i, (W0.drew).cell? ⟨w.heap.size + 1 + 1, i, none⟩ = (#[.int .i64 b, .int .i64 bt, .slice none 0 0] : Array Value)[i]? := hB2.cells
  obtain ⟨out, hout⟩ : ∃ out, out = es.take k ++ more := ⟨_, rfl⟩
  have HO := Lib.hid hout
  clear hT hlk hB0 hB1 hB2 hout
  go_region_law (first
    | (refine step_appE rfl (.tmp 15) (.tmp 19) rfl (w.heap.size + 3) _ [] rfl (OwnE.nil _ _) A k cap (es.take k) rfl HLK.out HT.out (by have := HLK.out; simp only [List.length_nil]; omega) (by rw [hsz]; exact Nat.le_refl _) ?_
       intro v1 w1 ho1 hg1
       rw [List.nil_append] at ho1
       have hb1 := Lib.hid (OwnE.grown (OwnE.nil _ (w.heap.size + 3)) (Below.refl (w.heap.size + 3) W0.drew) (by rw [hsz]; exact Nat.le_refl _) hg1))
    | (refine step_appE rfl (.tmp 20) (.tmp 21) rfl (w.heap.size + 3) v1 (es.take k) rfl ho1 B more.length cap' more rfl rfl (HM.out.bel (bel_tr hbl (by rw [hsz]; exact hb1.out))) (by have := HLK.out; omega) (by have := hb1.out.size; rw [hsz] at this; exact this) ?_
       intro v2 w2 ho2 hg2
       have hb2 := Lib.hid (OwnE.grown ho1 hb1.out (by have := hb1.out.size; rw [hsz] at this; exact this) hg2)
       have f2 := ((HB2.out.below hb2.out (by omega)).free 2)
       have g2 : w2.cell? ⟨w.heap.size + 1 + 1, 2, none⟩ = some (.slice none 0 0) := (HB2.out.below hb2.out (by omega)).cells 2
       rw [← HO.out] at ho2
       obtain ⟨A2, cap2, rfl, hc2, hR2, hO2⟩ := ho2.form
       have HOW := Lib.hid ho2
       clear ho1 ho2 hg1 hg2))
  all_goals
    have hbs := Lib.hid (bel_tr hbl (by rw [hsz]; exact hb2.out))
    have HC2 := Lib.hid ((HB2.out.below hb2.out (by omega)).set 2 (.slice A2 out.length cap2))
    have HC1 := Lib.hid ((HB1.out.below hb2.out (by omega)).far (p := ⟨w.heap.size + 1 + 1, 2, none⟩) (by show _ ≠ w.heap.size + 1 + 1; omega) (.slice A2 out.length cap2))
    have hb3 := Lib.hid (bel_set hbs.out (g := w.heap.size + 1 + 1) (by omega) 2 (.slice A2 out.length cap2))
    have hR3 := Lib.hid (hR2.far (g := w.heap.size + 1 + 1) (i := 2) (v := .slice A2 out.length cap2) (fun b off sp e => by have := (hO2 b off sp e).1; omega))
    have hO3 := Lib.hid (HOW.out.set (g := w.heap.size + 1 + 1) (i := 2) (u := .slice A2 out.length cap2) (by omega))
    generalize w2.setCell ⟨w.heap.size + 1 + 1, 2, none⟩ (.slice A2 out.length cap2) = w3 at *
    have hol : out.length ≤ 9223372036854775807 := by rw [HO.out, List.length_append]; have := HLK.out; omega
    have hck := Lib.hid (check_calls b bt A2 cap2 out w3 hR3.out hol)
    have hsp : o = if Tr.chk b bt out then some out else none := by rw [HW.out]; unfold Tr.with_; rw [HO.out]
    have c3 := HC2.out.cells
    simp at c3
    have HO2 := Lib.hid hO2
    clear hb1 hb2 f2 g2 hO2 hR2 hbs HB0 HB1 HB2 HT c0 c2 hbl hsz HW HOW
    by_cases hc : Tr.chk b bt out = true
    · rw [if_pos hc] at hsp
      rw [hc] at hck
      have HS := Lib.hid hsp
      clear hsp hc
      go_wp2_with fail
      refine hck.out.mono ?_
      rintro e w4 ⟨rfl, hb4⟩
      have c4 := (HC2.out.bel hb4).cells
      simp at c4
      have hB4 := Lib.hid (HC1.out.bel hb4)
      have d4 := hB4.out.cells
      have f4 := hB4.out.free
      have hR4 := Lib.hid (hR3.out.bel hb4)
      have hO4 := Lib.hid (hO3.out.kept hb4)
      have hw4 := Lib.hid (bel_tr hb3.out hb4)
      have hlt := Lib.hid hb4
      clear hb4 c3 HC2 HC1
      go_wp2_with fail
      refine bodyPost_ret (v := .tuple #[trV b bt A2 out.length cap2, .bool true]) (by simp [results, Tryz.results90, go_sem, d4]) rfl ⟨⟨_, rfl, ?_⟩, ?_⟩
      · rw [HS.out]
        exact ⟨A2, cap2, rfl, OwnE.low (OwnE.set (OwnE.set (OwnE.set hO4.out (by omega)) (by omega)) (by omega)) (by omega)⟩
      · repeat refine Below.setCell ?_ (by simp) _
        exact hw4.out
    · simp only [Bool.not_eq_true] at hc
      rw [hc] at hsp hck
      rw [if_neg (by simp)] at hsp
      subst hsp
      go_wp2_with fail
      refine hck.out.mono ?_
      rintro e w4 ⟨rfl, hb4⟩
      have hB4 := Lib.hid (HC1.out.bel hb4)
      have d4 := hB4.out.cells
      have f4 := hB4.out.free
      have hw4 := Lib.hid (bel_tr hb3.out hb4)
      clear hb4 c3 HC2 HC1
      go_wp2_with fail
      refine bodyPost_ret (v := .tuple #[trV 0 0 none 0 0, .bool false]) (by simp [results, Tryz.results90, go_sem, d4]) rfl ⟨⟨_, rfl, rfl⟩, ?_⟩
      repeat refine Below.setCell ?_ (by simp) _
      exact hw4.out
end Go.Proofs.YtdladjgdhnkkcaaGreat

/-
  Contracts of the package trail: Append, Cut, Slice.
  Conditions: the entries can be read.
-/
namespace Go.Proofs.YtdladjgdhnkkcaaGreat
open Go.RowKit
set_option linter.unusedVariables false
set_option linter.unusedSimpArgs false

/-- since w; blocks that hold what they were made with -/
def SW (w : World) (l : List (Nat × TypeId × Array Value)) (W : World) : Prop := Below w.heap.size w W ∧ ∀ x ∈ l, Blk W x.1 x.2.1 x.2.2
theorem SW.bel {w W W' : World} {l : List (Nat × TypeId × Array Value)} (h : SW w l W) (hb : Below W.heap.size W W') : SW w l W' := ⟨bel_tr h.1 hb, fun x hx => (h.2 x hx).bel hb⟩
theorem SW.drew {w W : World} {l : List (Nat × TypeId × Array Value)} (h : SW w l W) : SW w l W.drew := ⟨bel_drew h.1, fun x hx => (h.2 x hx).drewN 1⟩
theorem SW.keep {w : World} {l : List (Nat × TypeId × Array Value)} : ∀ W W', SW w l W → Below W.heap.size W W' → SW w l W' := fun _ _ h hb => h.bel hb
theorem SW.nil (w : World) : SW w [] w := ⟨Below.refl _ _, fun x hx => by cases hx⟩
theorem SW.new {w W : World} {l : List (Nat × TypeId × Array Value)} (h : SW w l W) (t : TypeId) (cs : Array Value) (g : Nat) (hg : g = W.heap.size) : SW w (l ++ [(g, t, cs)]) (W.alloc (.cells cs t)) := by
  subst hg
  refine ⟨bel_new h.1 _, fun x hx => ?_⟩
  rcases List.mem_append.1 hx with hx | hx
  · exact (h.2 x hx).alloc _
  · simp at hx
    subst hx
    exact Blk.new _ _ _
theorem SW.at_ {w W : World} {l : List (Nat × TypeId × Array Value)} (h : SW w l W) (i : Nat) {g : Nat} {t : TypeId} {cs : Array Value} (hx : l[i]? = some (g, t, cs)) : Blk W g t cs := h.2 _ (List.mem_of_getElem? hx)
abbrev zT : Array Value := #[.int .i64 0, .int .i64 0, .slice none 0 0]
/-- three cells written to a block of the call's own -/
abbrev put3 (W : World) (g : Nat) (b bt : Int) (v : Value) : World := ((W.setCell ⟨g, 0, none⟩ (.int .i64 b)).setCell ⟨g, 1, none⟩ (.int .i64 bt)).setCell ⟨g, 2, none⟩ v
theorem put3_bel {w W : World} {g : Nat} {b bt : Int} {v : Value} (h : Below w.heap.size w W) (hg : w.heap.size ≤ g) : Below w.heap.size w (put3 W g b bt v) := bel_set (bel_set (bel_set h hg _ _) hg _ _) hg _ _
theorem put3_own {W : World} {g base base' : Nat} {b bt : Int} {v : Value} {x : Value} {es : List En} (h : OwnE W base' x es) (hg : g < base') (hb : base ≤ base') : OwnE (put3 W g b bt v) base x es := OwnE.low (OwnE.set (OwnE.set (OwnE.set h hg) hg) hg) hb
theorem chk_with {b bt : Int} {es : List En} (h : Tr.chk b bt es = true) : Tr.with_ b bt es es.length [] = some es := by
  unfold Tr.with_
  simp [h]

set_option maxRecDepth 20000 in
set_option maxHeartbeats 1000000 in
theorem append_calls (b bt et : Int) (s : ByteArray) (A : Option Addr) (cap : Nat) (es : List En) (w : World) (hR : RdE w A es) (hlen : es.length ≤ 2 ^ 47) (hcap : es.length ≤ cap) :
    Calls Tryz.prog 86 #[trV b bt A es.length cap, .agg #[.int .i64 et, .string s]] w fun e w' => (∃ v, e = .returned v ∧ ResT w.heap.size b bt (if Tr.chk b bt es then Tr.with_ b bt es es.length [(et, s)] else none) v w') ∧ Below w.heap.size w w' := by
  obtain ⟨o, ho⟩ : ∃ o, o = (if Tr.chk b bt es then Tr.with_ b bt es es.length [(et, s)] else none) := ⟨_, rfl⟩
  rw [← ho]
  have hck := Lib.hid (fun W hb => check_calls b bt A cap es W (hR.bel hb) (by omega))
  have HR := Lib.hid hR
  by_cases hc : Tr.chk b bt es = true
  · rw [if_pos hc] at ho
    have hr := Tr.chk_rim hc
    rw [hc] at hck
    have hwc := Lib.hid (fun (B : Option Addr) (W : World) hb hm => with_calls b bt A cap es.length es B 1 [(et, s)] W (HR.out.bel hb) hm (by omega) hcap (Nat.le_refl _) (by simp))
    have HW := Lib.hid ho
    have hS := Lib.hid (((SW.nil w).new 25 #[.int .i64 b, .int .i64 bt, .slice A es.length cap] w.heap.size rfl).new 68 #[.int .i64 et, .string s] (w.heap.size + 1) (by simp) |>.new 25 zT (w.heap.size + 1 + 1) (by simp))
    clear hc hR hr ho
    go_enter Tryz.func86, Tryz.ntmps86
    go_wp2_with fail
    refine (hck.out _ hS.out.1).mono ?_
    rintro e w1 ⟨rfl, hb1⟩
    have hs1 := Lib.hid (hS.out.bel hb1)
    have c0 := (hs1.out.at_ 0 rfl).cells
    have c1 := (hs1.out.at_ 1 rfl).cells
    clear hb1 hS
    go_wp2_with fail
    have hs2 := Lib.hid (hs1.out.new 68 #[.int .i64 et, .string s] w1.heap.size rfl)
    have hm : RdE (w1.alloc (.cells #[.int .i64 et, .string s] 68)) (some ⟨w1.heap.size, 0, none⟩) [(et, s)] := fun i hi => by
      obtain rfl : i = 0 := by simpa using hi
      have hB := Blk.new w1 68 #[.int .i64 et, .string s]
      exact ⟨_, 0, rfl, hB.lt, hB.cells 0, hB.cells 1⟩
    refine (hwc.out _ _ hs2.out.1 hm).mono ?_
    rintro e w2 ⟨⟨v, rfl, hv⟩, hb2⟩
    have hs3 := Lib.hid (hs2.out.bel hb2)
    have hg := hs2.out.1.size
    have hgl := (hs2.out.at_ 2 rfl).lt
    have hB := (hs3.out.at_ 2 rfl)
    have c2 := hB.cells
    have f2 := hB.free
    clear hb2 hs2 hs1 c0 c1 hm
    generalize Tr.with_ b bt es es.length [(et, s)] = o' at *
    obtain rfl := HW.out
    rcases o with _ | out
    · obtain rfl := hv
      go_wp2_with fail
      refine bodyPost_ret (v := .tuple #[trV 0 0 none 0 0, .bool false]) (by simp [results, Tryz.results86, go_sem, c2]) rfl ⟨⟨_, rfl, rfl⟩, put3_bel hs3.out.1 (by omega)⟩
    · obtain ⟨A2, cap2, rfl, qo⟩ := hv
      go_wp2_with fail
      refine bodyPost_ret (v := .tuple #[trV b bt A2 out.length cap2, .bool true]) (by simp [results, Tryz.results86, go_sem, c2]) rfl ⟨⟨_, rfl, ⟨A2, cap2, rfl, put3_own qo (by omega) (by omega)⟩⟩, put3_bel hs3.out.1 (by omega)⟩
  · rw [if_neg hc] at ho
    simp only [Bool.not_eq_true] at hc
    rw [hc] at hck
    subst ho
    have hS := Lib.hid (((SW.nil w).new 25 #[.int .i64 b, .int .i64 bt, .slice A es.length cap] w.heap.size rfl).new 68 #[.int .i64 et, .string s] (w.heap.size + 1) (by simp) |>.new 25 zT (w.heap.size + 1 + 1) (by simp))
    clear hc hR
    go_enter Tryz.func86, Tryz.ntmps86
    go_wp2_with fail
    refine (hck.out _ hS.out.1).mono ?_
    rintro e w1 ⟨rfl, hb1⟩
    have hs1 := Lib.hid (hS.out.bel hb1)
    have hB := (hs1.out.at_ 2 rfl)
    have c2 := hB.cells
    have f2 := hB.free
    clear hb1 hS
    go_wp2_with fail
    refine bodyPost_ret (v := .tuple #[trV 0 0 none 0 0, .bool false]) (by simp [results, Tryz.results86, go_sem, c2]) rfl ⟨⟨_, rfl, rfl⟩, put3_bel hs1.out.1 (by omega)⟩
end Go.Proofs.YtdladjgdhnkkcaaGreat

/-
  Contracts of the package trail: Cut, Slice.
  Conditions: the entries can be read.
-/
namespace Go.Proofs.YtdladjgdhnkkcaaGreat
open Go.RowKit
set_option linter.unusedVariables false
set_option linter.unusedSimpArgs false

theorem RdE.take {w : World} {A : Option Addr} {es : List En} (h : RdE w A es) (k : Nat) : RdE w A (es.take k) := fun i hi => by
  have hi' : i < k ∧ i < es.length := by simp at hi; omega
  obtain ⟨b, off, e, hlt, h1, h2⟩ := h i hi'.2
  have e1 : (es.take k).getD i default = es.getD i default := Tr.getD_take _ _ _ _ hi'.1
  rw [e1]
  exact ⟨b, off, e, hlt, h1, h2⟩

set_option maxRecDepth 20000 in
set_option maxHeartbeats 1000000 in
theorem cut_calls (b bt to : Int) (A : Option Addr) (cap : Nat) (es : List En) (w : World) (hR : RdE w A es) (hlen : es.length ≤ 2 ^ 47) (hcap : es.length ≤ cap) :
    Calls Tryz.prog 67 #[trV b bt A es.length cap, .int .i64 to] w fun e w' => (∃ v, e = .returned v ∧ ResT w.heap.size to (Tr.trm b bt es to) (if Tr.has b bt es to then some (es.drop (to - b).toNat) else none) v w') ∧ Below w.heap.size w w' := by
  have ht := Lib.hid (fun W hb => term2_calls b bt to A cap es W (hR.bel hb) (by omega))
  have HR := Lib.hid hR
  have hS := Lib.hid (((SW.nil w).new 25 #[.int .i64 b, .int .i64 bt, .slice A es.length cap] w.heap.size rfl).new 25 zT (w.heap.size + 1) (by simp))
  by_cases hc : Tr.has b bt es to = true
  · rw [hc] at ht
    simp only [if_true] at ht
    rw [if_pos hc]
    obtain ⟨hc1, h2, h3⟩ := Tr.has_chk hc
    have hr := Tr.chk_rim hc1
    generalize Tr.trm b bt es to = x at *
    obtain ⟨k, rfl⟩ : ∃ k : Nat, to = b + k := ⟨(to - b).toNat, by omega⟩
    have e1 : b + (k : Int) - b = (k : Int) := by omega
    rw [e1, Int.toNat_natCast]
    have k1 : (k : Int) ≤ (es.length : Int) := by omega
    have k2 : -9223372036854775808 ≤ b + (k : Int) - b ∧ b + (k : Int) - b ≤ 9223372036854775807 := by omega
    have hdl : es.length - k = (es.drop k).length := by simp
    have HL := Lib.hid hr
    have hcl := Lib.hid (fun W hb => clone_calls (if cap = k then A else A.map (·.add (k * 2))) (cap - k) (es.drop k) W ((HR.out.bel hb).drop k cap hcap) (by have := HL.out; simp; omega))
    rw [← hdl] at hcl
    have HD := Lib.hid hdl
    clear hc hc1 h2 h3 hr hdl k2 hR
    by_cases hck : cap = k
    · subst hck
      have hz : es.length - cap = 0 := by omega
      rw [if_pos rfl, Nat.sub_self, hz] at hcl
      rw [hz] at HD
      go_enter Tryz.func67, Tryz.ntmps67
      go_wp2_with fail
      refine (ht.out _ hS.out.1).mono ?_
      rintro e w1 ⟨rfl, hb1⟩
      have hs1 := Lib.hid (hS.out.bel hb1)
      have c0 := (hs1.out.at_ 0 rfl).cells
      clear hb1 hS ht
      go_wp2_with fail
      refine (hcl.out _ hs1.out.1).mono ?_
      rintro e w2 ⟨⟨A2, cap2, rfl, qo⟩, hb2⟩
      have hs2 := Lib.hid (hs1.out.bel hb2)
      have hg := (hs1.out.at_ 1 rfl).lt
      have hB := hs2.out.at_ 1 rfl
      have c2 := hB.cells
      have f2 := hB.free
      have hsz := hs1.out.1.size
      clear hb2 c0
      go_wp2_with fail
      refine bodyPost_ret (v := .tuple #[trV (b + cap) x A2 0 cap2, .bool true]) (by simp [results, Tryz.results67, go_sem, c2]) rfl ⟨⟨_, rfl, ⟨A2, cap2, (by rw [← HD.out]), (by rw [← HD.out]; exact put3_own qo (by omega) (by omega))⟩⟩, put3_bel hs2.out.1 (by omega)⟩
    · rw [if_neg hck] at hcl
      go_enter Tryz.func67, Tryz.ntmps67
      go_wp2_with fail
      refine (ht.out _ hS.out.1).mono ?_
      rintro e w1 ⟨rfl, hb1⟩
      have hs1 := Lib.hid (hS.out.bel hb1)
      have c0 := (hs1.out.at_ 0 rfl).cells
      clear hb1 hS ht
      go_wp2_with fail
      refine (hcl.out _ hs1.out.1).mono ?_
      rintro e w2 ⟨⟨A2, cap2, rfl, qo⟩, hb2⟩
      have hs2 := Lib.hid (hs1.out.bel hb2)
      have hg := (hs1.out.at_ 1 rfl).lt
      have hB := hs2.out.at_ 1 rfl
      have c2 := hB.cells
      have f2 := hB.free
      have hsz := hs1.out.1.size
      clear hb2 c0
      rw [HD.out] at qo ⊢
      go_wp2_with fail
      refine bodyPost_ret (v := .tuple #[trV (b + k) x A2 (es.drop k).length cap2, .bool true]) (by simp [results, Tryz.results67, go_sem, c2]) rfl ⟨⟨_, rfl, ⟨A2, cap2, rfl, put3_own qo (by omega) (by omega)⟩⟩, put3_bel hs2.out.1 (by omega)⟩
  · rw [if_neg hc]
    simp only [Bool.not_eq_true] at hc
    rw [hc] at ht
    simp only [Bool.false_eq_true, if_false] at ht
    clear hR hc
    go_enter Tryz.func67, Tryz.ntmps67
    go_wp2_with fail
    refine (ht.out _ hS.out.1).mono ?_
    rintro e w1 ⟨rfl, hb1⟩
    have hs1 := Lib.hid (hS.out.bel hb1)
    have hB := hs1.out.at_ 1 rfl
    have c2 := hB.cells
    have f2 := hB.free
    clear hb1 hS
    go_wp2_with fail
    refine bodyPost_ret (v := .tuple #[trV 0 0 none 0 0, .bool false]) (by simp [results, Tryz.results67, go_sem, c2]) rfl ⟨⟨_, rfl, rfl⟩, put3_bel hs1.out.1 (by omega)⟩

set_option maxRecDepth 20000 in
set_option maxHeartbeats 1000000 in
theorem slice_calls2 (b bt from_ most : Int) (A : Option Addr) (cap : Nat) (es : List En) (w : World) (hR : RdE w A es) (hlen : es.length ≤ 2 ^ 47) (hcap : es.length ≤ cap) :
    Calls Tryz.prog 88 #[trV b bt A es.length cap, .int .i64 from_, .int .i64 most] w fun e w' => (∃ A' cap', e = .returned (.slice A' (Tr.cutFrom b bt es from_ most).length cap') ∧ OwnE w' w.heap.size (.slice A' (Tr.cutFrom b bt es from_ most).length cap') (Tr.cutFrom b bt es from_ most)) ∧ Below w.heap.size w w' := by
  have hck := Lib.hid (fun W hb => check_calls b bt A cap es W (hR.bel hb) (by omega))
  have HR := Lib.hid hR
  have hS := Lib.hid (((SW.nil w).new 25 #[.int .i64 b, .int .i64 bt, .slice A es.length cap] w.heap.size rfl))
  obtain ⟨o, ho⟩ : ∃ o, o = Tr.cutFrom b bt es from_ most := ⟨_, rfl⟩
  rw [← ho]
  unfold Tr.cutFrom at ho
  by_cases hc : Tr.chk b bt es = true
  · have hr := Tr.chk_rim hc
    rw [hc] at hck ho
    rw [Bool.true_and] at ho
    have hl := Lib.hid (fun W => last_calls b bt A es.length cap W (by omega) (by omega))
    clear hc hR
    by_cases h1 : from_ ≤ b + es.length
    · by_cases h2 : 0 < most
      · rw [dec_t h1, dec_t h2] at ho
        simp only [Bool.and_self, if_true] at ho
        have HL := Lib.hid hr
        have p1 : 0 ≤ b := by omega
        have p2 : b ≤ 1099511627776 := by omega
        by_cases hf : b + 1 < from_
        · obtain ⟨k, hk⟩ : ∃ k : Nat, (k : Int) = from_ - b - 1 := ⟨(from_ - b - 1).toNat, by omega⟩
          rw [show (max from_ (b + 1) - b - 1).toNat = k from by omega] at ho
          have e1 : from_ - b - 1 = (k : Int) := hk.symm
          have k1 : (k : Int) ≤ (es.length : Int) := by omega
          have k2 : from_ - b ≤ 9223372036854775807 := by omega
          have k3 : ¬ from_ < b + 1 := by omega
          have hk0 := hk
          by_cases hck2 : cap = k
          · exfalso; omega
          · clear hk hr
            by_cases hm : most ≤ (es.length - k : Nat)
            · obtain ⟨m, rfl⟩ : ∃ m : Nat, most = (m : Int) := ⟨most.toNat, by omega⟩
              rw [Int.toNat_natCast] at ho
              have HN : Hid (m = o.length) := Lib.hid (by rw [ho]; simp; omega)
              have HOO := Lib.hid ho
              have m1 : (m : Int) ≤ ((cap - k : Nat) : Int) := by omega
              clear ho
              have hcl := Lib.hid (fun W (hb : Below w.heap.size w W) => clone_calls (A.map (·.add (k * 2))) (cap - k) o W (by have := (HR.out.bel hb).part k (k + m) cap (by omega) (by omega); rw [if_neg hck2, List.drop_take, Nat.add_sub_cancel_left, ← HOO.out] at this; exact this) (by have := HL.out; rw [← HN.out]; omega))
              rw [← HN.out] at hcl ⊢
              clear hk0
              go_enter Tryz.func88, Tryz.ntmps88
              go_wp2_with fail
              refine (hck.out _ hS.out.1).mono ?_
              rintro e w1 ⟨rfl, hb1⟩
              have hs1 := Lib.hid (hS.out.bel hb1)
              have c0 := (hs1.out.at_ 0 rfl).cells
              clear hb1 hS hck
              go_wp2_with fail
              refine (hl.out _).mono ?_
              rintro e w2 ⟨rfl, hb2⟩
              have hs2 := Lib.hid (hs1.out.bel hb2)
              have c2 := (hs2.out.at_ 0 rfl).cells
              clear hb2 hs1 hl c0
              go_wp2_with fail
              try simp only [show Option.map ((fun x : Addr => x) ∘ fun x => x) A = A from by cases A <;> rfl]
              refine (hcl.out _ hs2.out.1).mono ?_
              rintro e w3 ⟨⟨A2, cap2, rfl, qo⟩, hb3⟩
              have hs3 := hs2.out.bel hb3
              clear hb3 c2
              go_wp2_with fail
              go_ret
              exact ⟨⟨A2, cap2, rfl, qo.low hs2.out.1.size⟩, hs3.1⟩
            · have hoe : o = es.drop k := by rw [ho, List.take_of_length_le (by simp; omega)]
              have HN : Hid (es.length - k = o.length) := Lib.hid (by rw [hoe]; simp)
              have HOO := Lib.hid hoe
              have m1 : ((es.length - k : Nat) : Int) ≤ ((cap - k : Nat) : Int) := by omega
              have m2 : ((es.length - k : Nat) : Int) < most := by omega
              clear ho hoe hm
              have hcl := Lib.hid (fun W (hb : Below w.heap.size w W) => clone_calls (A.map (·.add (k * 2))) (cap - k) o W (by have := (HR.out.bel hb).drop k cap hcap; rw [if_neg hck2, ← HOO.out] at this; exact this) (by have := HL.out; rw [← HN.out]; omega))
              rw [← HN.out] at hcl ⊢
              clear hk0
              go_enter Tryz.func88, Tryz.ntmps88
              go_wp2_with fail
              refine (hck.out _ hS.out.1).mono ?_
              rintro e w1 ⟨rfl, hb1⟩
              have hs1 := Lib.hid (hS.out.bel hb1)
              have c0 := (hs1.out.at_ 0 rfl).cells
              clear hb1 hS hck
              go_wp2_with fail
              refine (hl.out _).mono ?_
              rintro e w2 ⟨rfl, hb2⟩
              have hs2 := Lib.hid (hs1.out.bel hb2)
              have c2 := (hs2.out.at_ 0 rfl).cells
              clear hb2 hs1 hl c0
              go_wp2_with fail
              try simp only [show Option.map ((fun x : Addr => x) ∘ fun x => x) A = A from by cases A <;> rfl]
              refine (hcl.out _ hs2.out.1).mono ?_
              rintro e w3 ⟨⟨A2, cap2, rfl, qo⟩, hb3⟩
              have hs3 := hs2.out.bel hb3
              clear hb3 c2
              go_wp2_with fail
              go_ret
              exact ⟨⟨A2, cap2, rfl, qo.low hs2.out.1.size⟩, hs3.1⟩
        · rw [show (max from_ (b + 1) - b - 1).toNat = 0 from by omega, List.drop_zero] at ho
          rcases Int.lt_or_eq_of_le (Int.not_lt.1 hf) with hf2 | rfl
          · have e1 : b + 1 - b = 1 := by omega
            have k2 : b + 1 ≤ 9223372036854775807 := by omega
            have hk0 := hf
            clear hr
            by_cases hm : most ≤ (es.length : Int)
            · obtain ⟨m, rfl⟩ : ∃ m : Nat, most = (m : Int) := ⟨most.toNat, by omega⟩
              rw [Int.toNat_natCast] at ho
              have HN : Hid (m = o.length) := Lib.hid (by rw [ho]; simp; omega)
              have HOO := Lib.hid ho
              have m1 : (m : Int) ≤ (cap : Int) := by omega
              clear ho
              have hcl := Lib.hid (fun W (hb : Below w.heap.size w W) => clone_calls A cap o W (HOO.out ▸ (HR.out.bel hb).take m) (by have := HL.out; rw [← HN.out]; omega))
              rw [← HN.out] at hcl ⊢
              clear hk0
              go_enter Tryz.func88, Tryz.ntmps88
              go_wp2_with fail
              refine (hck.out _ hS.out.1).mono ?_
              rintro e w1 ⟨rfl, hb1⟩
              have hs1 := Lib.hid (hS.out.bel hb1)
              have c0 := (hs1.out.at_ 0 rfl).cells
              clear hb1 hS hck
              go_wp2_with fail
              refine (hl.out _).mono ?_
              rintro e w2 ⟨rfl, hb2⟩
              have hs2 := Lib.hid (hs1.out.bel hb2)
              have c2 := (hs2.out.at_ 0 rfl).cells
              clear hb2 hs1 hl c0
              go_wp2_with fail
              try simp only [show Option.map ((fun x : Addr => x) ∘ fun x => x) A = A from by cases A <;> rfl]
              refine (hcl.out _ hs2.out.1).mono ?_
              rintro e w3 ⟨⟨A2, cap2, rfl, qo⟩, hb3⟩
              have hs3 := hs2.out.bel hb3
              clear hb3 c2
              go_wp2_with fail
              go_ret
              exact ⟨⟨A2, cap2, rfl, qo.low hs2.out.1.size⟩, hs3.1⟩
            · have hoe : o = es := by rw [ho, List.take_of_length_le (by omega)]
              have HN : Hid (es.length = o.length) := Lib.hid (by rw [hoe])
              have HOO := Lib.hid hoe
              have m1 : (es.length : Int) ≤ (cap : Int) := by omega
              have m2 : (es.length : Int) < most := by omega
              clear ho hoe hm
              by_cases hz : cap = 0
              · subst hz
                obtain rfl := List.eq_nil_of_length_eq_zero (show es.length = 0 by omega)
                simp only [List.length_nil] at HN hck hl hS
                have hoz : o = [] := List.eq_nil_of_length_eq_zero HN.out.symm
                subst hoz
                simp only [List.length_nil]
                clear hcap h1 m1 m2 hlen
                have hcl := Lib.hid (fun W (hb : Below w.heap.size w W) => clone_calls A 0 ([] : List En) W (RdE.nil _ _) (by simp))
                simp only [List.length_nil] at hcl
                clear hk0
                go_enter Tryz.func88, Tryz.ntmps88
                go_wp2_with fail
                refine (hck.out _ hS.out.1).mono ?_
                rintro e w1 ⟨rfl, hb1⟩
                have hs1 := Lib.hid (hS.out.bel hb1)
                have c0 := (hs1.out.at_ 0 rfl).cells
                clear hb1 hS hck
                go_wp2_with fail
                refine (hl.out _).mono ?_
                rintro e w2 ⟨rfl, hb2⟩
                have hs2 := Lib.hid (hs1.out.bel hb2)
                have c2 := (hs2.out.at_ 0 rfl).cells
                clear hb2 hs1 hl c0
                go_wp2_with fail
                try simp only [show Option.map ((fun x : Addr => x) ∘ fun x => x) A = A from by cases A <;> rfl]
                refine (hcl.out _ hs2.out.1).mono ?_
                rintro e w3 ⟨⟨A2, cap2, rfl, qo⟩, hb3⟩
                have hs3 := hs2.out.bel hb3
                clear hb3 c2
                go_wp2_with fail
                go_ret
                exact ⟨⟨A2, cap2, rfl, qo.low hs2.out.1.size⟩, hs3.1⟩
              · have hz' : 0 < cap := by omega
                have hcl := Lib.hid (fun W (hb : Below w.heap.size w W) => clone_calls A cap o W (HOO.out ▸ HR.out.bel hb) (by have := HL.out; rw [← HN.out]; omega))
                rw [← HN.out] at hcl ⊢
                clear hk0
                go_enter Tryz.func88, Tryz.ntmps88
                go_wp2_with fail
                refine (hck.out _ hS.out.1).mono ?_
                rintro e w1 ⟨rfl, hb1⟩
                have hs1 := Lib.hid (hS.out.bel hb1)
                have c0 := (hs1.out.at_ 0 rfl).cells
                clear hb1 hS hck
                go_wp2_with fail
                refine (hl.out _).mono ?_
                rintro e w2 ⟨rfl, hb2⟩
                have hs2 := Lib.hid (hs1.out.bel hb2)
                have c2 := (hs2.out.at_ 0 rfl).cells
                clear hb2 hs1 hl c0
                go_wp2_with fail
                try simp only [show Option.map ((fun x : Addr => x) ∘ fun x => x) A = A from by cases A <;> rfl]
                refine (hcl.out _ hs2.out.1).mono ?_
                rintro e w3 ⟨⟨A2, cap2, rfl, qo⟩, hb3⟩
                have hs3 := hs2.out.bel hb3
                clear hb3 c2
                go_wp2_with fail
                go_ret
                exact ⟨⟨A2, cap2, rfl, qo.low hs2.out.1.size⟩, hs3.1⟩
          · have e1 : b + 1 - b = 1 := by omega
            have k2 : b + 1 ≤ 9223372036854775807 := by omega
            have hk0 := hf
            clear hr
            by_cases hm : most ≤ (es.length : Int)
            · obtain ⟨m, rfl⟩ : ∃ m : Nat, most = (m : Int) := ⟨most.toNat, by omega⟩
              rw [Int.toNat_natCast] at ho
              have HN : Hid (m = o.length) := Lib.hid (by rw [ho]; simp; omega)
              have HOO := Lib.hid ho
              have m1 : (m : Int) ≤ (cap : Int) := by omega
              clear ho
              have hcl := Lib.hid (fun W (hb : Below w.heap.size w W) => clone_calls A cap o W (HOO.out ▸ (HR.out.bel hb).take m) (by have := HL.out; rw [← HN.out]; omega))
              rw [← HN.out] at hcl ⊢
              clear hk0
              go_enter Tryz.func88, Tryz.ntmps88
              go_wp2_with fail
              refine (hck.out _ hS.out.1).mono ?_
              rintro e w1 ⟨rfl, hb1⟩
              have hs1 := Lib.hid (hS.out.bel hb1)
              have c0 := (hs1.out.at_ 0 rfl).cells
              clear hb1 hS hck
              go_wp2_with fail
              refine (hl.out _).mono ?_
              rintro e w2 ⟨rfl, hb2⟩
              have hs2 := Lib.hid (hs1.out.bel hb2)
              have c2 := (hs2.out.at_ 0 rfl).cells
              clear hb2 hs1 hl c0
              go_wp2_with fail
              try simp only [show Option.map ((fun x : Addr => x) ∘ fun x => x) A = A from by cases A <;> rfl]
              refine (hcl.out _ hs2.out.1).mono ?_
              rintro e w3 ⟨⟨A2, cap2, rfl, qo⟩, hb3⟩
              have hs3 := hs2.out.bel hb3
              clear hb3 c2
              go_wp2_with fail
              go_ret
              exact ⟨⟨A2, cap2, rfl, qo.low hs2.out.1.size⟩, hs3.1⟩
            · have hoe : o = es := by rw [ho, List.take_of_length_le (by omega)]
              have HN : Hid (es.length = o.length) := Lib.hid (by rw [hoe])
              have HOO := Lib.hid hoe
              have m1 : (es.length : Int) ≤ (cap : Int) := by omega
              have m2 : (es.length : Int) < most := by omega
              clear ho hoe hm
              by_cases hz : cap = 0
              · exfalso; omega
              · have hz' : 0 < cap := by omega
                have hcl := Lib.hid (fun W (hb : Below w.heap.size w W) => clone_calls A cap o W (HOO.out ▸ HR.out.bel hb) (by have := HL.out; rw [← HN.out]; omega))
                rw [← HN.out] at hcl ⊢
                clear hk0
                go_enter Tryz.func88, Tryz.ntmps88
                go_wp2_with fail
                refine (hck.out _ hS.out.1).mono ?_
                rintro e w1 ⟨rfl, hb1⟩
                have hs1 := Lib.hid (hS.out.bel hb1)
                have c0 := (hs1.out.at_ 0 rfl).cells
                clear hb1 hS hck
                go_wp2_with fail
                refine (hl.out _).mono ?_
                rintro e w2 ⟨rfl, hb2⟩
                have hs2 := Lib.hid (hs1.out.bel hb2)
                have c2 := (hs2.out.at_ 0 rfl).cells
                clear hb2 hs1 hl c0
                go_wp2_with fail
                try simp only [show Option.map ((fun x : Addr => x) ∘ fun x => x) A = A from by cases A <;> rfl]
                refine (hcl.out _ hs2.out.1).mono ?_
                rintro e w3 ⟨⟨A2, cap2, rfl, qo⟩, hb3⟩
                have hs3 := hs2.out.bel hb3
                clear hb3 c2
                go_wp2_with fail
                go_ret
                exact ⟨⟨A2, cap2, rfl, qo.low hs2.out.1.size⟩, hs3.1⟩
      · rw [dec_t h1, dec_f h2] at ho
        simp only [Bool.and_false, Bool.false_eq_true, if_false] at ho
        have m1 : most ≤ 0 := by omega
        clear hr
        subst ho
        go_enter Tryz.func88, Tryz.ntmps88
        go_wp2_with fail
        refine (hck.out _ hS.out.1).mono ?_
        rintro e w1 ⟨rfl, hb1⟩
        have hs1 := Lib.hid (hS.out.bel hb1)
        have c0 := (hs1.out.at_ 0 rfl).cells
        clear hb1 hS hck
        go_wp2_with fail
        refine (hl.out _).mono ?_
        rintro e w2 ⟨rfl, hb2⟩
        have hs2 := Lib.hid (hs1.out.bel hb2)
        go_wp2_with fail
        go_ret
        exact ⟨⟨none, 0, rfl, OwnE.nil _ _⟩, hs2.out.1⟩
    · rw [dec_f h1] at ho
      simp only [Bool.false_and, Bool.false_eq_true, if_false] at ho
      have m1 : b + (es.length : Int) < from_ := by omega
      clear hr
      subst ho
      go_enter Tryz.func88, Tryz.ntmps88
      go_wp2_with fail
      refine (hck.out _ hS.out.1).mono ?_
      rintro e w1 ⟨rfl, hb1⟩
      have hs1 := Lib.hid (hS.out.bel hb1)
      have c0 := (hs1.out.at_ 0 rfl).cells
      clear hb1 hS hck
      go_wp2_with fail
      refine (hl.out _).mono ?_
      rintro e w2 ⟨rfl, hb2⟩
      have hs2 := Lib.hid (hs1.out.bel hb2)
      go_wp2_with fail
      go_ret
      exact ⟨⟨none, 0, rfl, OwnE.nil _ _⟩, hs2.out.1⟩
  · simp only [Bool.not_eq_true] at hc
    rw [hc] at hck ho
    simp only [Bool.false_and, Bool.false_eq_true, if_false] at ho
    subst ho
    go_enter Tryz.func88, Tryz.ntmps88
    go_wp2_with fail
    refine (hck.out _ hS.out.1).mono ?_
    rintro e w1 ⟨rfl, hb1⟩
    have hs1 := Lib.hid (hS.out.bel hb1)
    have c0 := (hs1.out.at_ 0 rfl).cells
    clear hb1 hS hck
    go_wp2_with fail
    go_ret
    exact ⟨⟨none, 0, rfl, OwnE.nil _ _⟩, hs1.out.1⟩
end Go.Proofs.YtdladjgdhnkkcaaGreat
