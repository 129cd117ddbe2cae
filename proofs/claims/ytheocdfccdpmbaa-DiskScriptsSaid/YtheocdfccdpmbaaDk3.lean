/-
  Contracts: a disk's names; a disk just made.
  Conditions: stated lemma by lemma.
-/
import Derived.Test.YtheocdfccdpmbaaDk2
namespace Go.Proofs.Ytheocdfccdpmbaa
open Go.RowKit Go.Maps
set_option linter.unusedVariables false
set_option linter.unusedSimpArgs false
set_option maxHeartbeats 8000000

theorem collectN {F out : List ByteArray} {left : Lit → Bool} (hid : F.Nodup) (h : out.Perm (F.filter fun n => !left (kS n))) {y : ByteArray} (hy : y ∈ F) (hl : left (kS y) = true) :
    (out ++ [y]).Perm (F.filter fun n => !(left (kS n) && !(kS n).sameKey (kS y))) := by
  have hk : ∀ x : ByteArray, (kS x).sameKey (kS y) = decide (x = y) := fun x => by
    by_cases c : x = y
    · rw [c, decide_eq_true rfl]; simp [Lit.sameKey]
    · rw [Maps.sameKey_ne (kS_ne c), decide_eq_false c]
  have e1 : (F.filter fun x => !(left (kS x) && !(kS x).sameKey (kS y))) = F.filter fun x => (!left (kS x)) || decide (x = y) := List.filter_congr fun x _ => by
    rw [hk x]
    cases left (kS x) <;> cases decide (x = y) <;> rfl
  rw [e1]
  have key : ∀ {F : List ByteArray}, F.Nodup → y ∈ F → ((F.filter fun n => !left (kS n)) ++ [y]).Perm (F.filter fun x => (!left (kS x)) || decide (x = y)) := by
    intro F
    induction F with
    | nil => intro _ h; cases h
    | cons a F ih =>
      intro hd hm
      rw [List.nodup_cons] at hd
      by_cases c : a = y
      · subst c
        rw [List.filter_cons_of_neg (by simp [hl]), List.filter_cons_of_pos (by simp)]
        have e2 : (F.filter fun x => (!left (kS x)) || decide (x = a)) = F.filter fun n => !left (kS n) := List.filter_congr fun x hx => by
          have : x ≠ a := fun e => by subst e; exact hd.1 hx
          simp [this]
        rw [e2]
        exact List.perm_append_comm
      · have hm2 : y ∈ F := by
          rcases List.mem_cons.1 hm with e | e
          · exact absurd e.symm c
          · exact e
        cases hla : left (kS a) with
        | true =>
          rw [List.filter_cons_of_neg (by simp [hla]), List.filter_cons_of_neg (by simp [hla, c])]
          exact ih hd.2 hm2
        | false =>
          rw [List.filter_cons_of_pos (by simp [hla]), List.filter_cons_of_pos (by simp [hla]), List.cons_append]
          exact (ih hd.2 hm2).cons a
  exact (h.append_right _).trans (key hid hy)
theorem wpList_appO8 {α : Type} [Inhabited α] {L : Lay α} {P : Program} {e : TypeId} {ops : Array Oper} {rest : List Oper} {o : Oper} {a : Act} {Q : Exit → Act → World → Prop} {w : World} (t : TypeId) (z : Value) (bytes : Nat) (ht : P.underlying t = some (.slice e))
    (hinfo : (P.info? e).map (fun i => (i.zero, i.size, i.bytes)) = some (some z, L.k, bytes)) (hz : z.cells.size = L.k) (hgd : o.guard = none) (s x : Operand)
    (ho : o.op = .call { callee := .builtin .append, args := #[s, x], argTypes := #[t, t] })
    (base : Nat) (v : Value) (xs : List α) (hs : a.eval s = v) (hown : OwnL L e w base v xs) (A : Option Addr) (n c : Nat) (ys : List α) (hx : a.eval x = .slice A n c) (hn : n = ys.length) (hr : RdL L w A ys)
    (hm : xs.length + ys.length ≤ maxLen) (hb : (xs.length + ys.length) * bytes ≤ 140737488355328) (hbase : base ≤ w.heap.size)
    (h : ∀ v' w', OwnL L e w' base v' (xs ++ ys) → w.grownBy w' v.ownBlock → (v'.ownBlock = v.ownBlock ∨ v'.ownBlock = some w.heap.size) → wpList P ops Q rest (a.put o.dst v') w') : wpList P ops Q (o :: rest) a w := by
  rcases A with _ | A
  · have hy : ys = [] := by
      rcases Nat.eq_zero_or_pos ys.length with h0 | h0
      · exact List.eq_nil_of_length_eq_zero h0
      · obtain ⟨_, _, e, _⟩ := hr 0 h0
        cases e
    subst hy
    refine wpList_plain hgd fun K hK => ?_
    subst hn
    obtain ⟨i0, hi0, hz0, hz1, hz2⟩ := info_parts hinfo
    have hu := run_underlying ht
    have hrun : (Builtin.append_ #[t, t] o.type #[v, .slice none 0 c]).run P w = .ok v w := by
      obtain ⟨_, hv⟩ := hown
      rcases hv with ⟨rfl, _⟩ | ⟨g, cap, cur, rfl, _, _, hnc, _⟩
      · simp [Builtin.append_, hu, sizeOf, typeInfo, hi0, Builtin.lenOf, Builtin.firstCells]
      · simp [Builtin.append_, hu, sizeOf, typeInfo, hi0, Builtin.lenOf, Builtin.firstCells, hnc, storeCells]
    unfold Oper.wp execOp
    simp only [ho, resolve, invoke, builtin, Sem.run_bind, Sem.run_pure, Result.andThen_ok, List.map_toArray, List.map_cons, List.map_nil, hs, hx, List.length_nil, hrun]
    exact hK _ _ (h v w (by rw [List.append_nil]; exact hown) (World.grownBy.refl w _) (.inl rfl))
  · exact wpList_appAt t z bytes ht hinfo hz hgd s x ho base v xs hs hown A n c ys hx hn hr hm hb hbase h
theorem rdL_litN (w : World) (n : ByteArray) : RdL layN (w.alloc (.cells #[.string n] 9)) (some ⟨w.heap.size, 0, none⟩) [n] := fun i hi => by
  have h0 : i = 0 := by simp at hi; omega
  subst h0
  refine ⟨w.heap.size, 0, rfl, by unfold World.alloc; simp, fun r u hu => ?_⟩
  have := (Blk.new w 9 #[.string n]).cells (0 + 0 * layN.k + r)
  rw [this]
  simp only [Nat.zero_mul, Nat.zero_add]
  simpa [layN] using hu
/-- while names are gone through -/
structure NmS (w : World) (mb : Nat) (D : DataW Value) (F : List ByteArray) (left : Lit → Bool) (cnt : Nat) (v : Value) (out : List ByteArray) (W : World) : Prop where
  rg : W.ranges Try.prog 9 RH mb w.heap.size (Maps.size D) D left cnt
  own : OwnL layN 9 W (w.heap.size + 1) v out
  perm : out.Perm (F.filter fun n => !left (kS n))
  bel : Below w.heap.size w W
  lt : w.heap.size + 1 ≤ W.heap.size
theorem NmS.step {w w1 w2 : World} {mb : Nat} {D : DataW Value} {F : List ByteArray} {left : Lit → Bool} {cnt cnt1 : Nat} {v v2 : Value} {out : List ByteArray} {W : World} (h : NmS w mb D F left cnt v out W) (hmb : mb < w.heap.size) (hd : F.Nodup) {y : ByteArray}
    (hy : y ∈ F) (hlx : left (kS y) = true) (hrg1 : w1.ranges Try.prog 9 RH mb w.heap.size (Maps.size D) D (fun z => left z && !z.sameKey (kS y)) cnt1) (hg1 : W.grownBy w1 (some w.heap.size))
    {o : Obj} (ho2 : OwnL layN 9 w2 (w.heap.size + 1) v2 (out ++ [y])) (hg2 : (w1.alloc o).grownBy w2 v.ownBlock) :
    NmS w mb D F (fun z => left z && !z.sameKey (kS y)) cnt1 v2 (out ++ [y]) w2 := by
  have hv : ∀ b, v.ownBlock = some b → w.heap.size + 1 ≤ b := fun b e => (World.ownsRow.lt h.own b e).1
  refine ⟨(hrg1.alloc o).kept hg2 (fun e => by have := hv mb e.symm; omega) (fun e => by have := hv _ e.symm; omega), ho2, collectN hd h.perm hy hlx, ?_, ?_⟩
  · have b1 : Below w.heap.size w w1 := h.bel.grown hg1 h.bel.size (fun j hj => by injection hj with hj; omega)
    exact (bel_new b1 o).grown hg2 (bel_new b1 o).size (fun j hj => by have := hv j hj; omega)
  · have h1 := h.lt
    have h2 := hg1.size
    have h3 := hg2.size
    have h4 : w1.heap.size ≤ (w1.alloc o).heap.size := by unfold World.alloc; simp
    omega
section
variable {w0 w : World} {g : Nat} {F : List ByteArray} {fl : ByteArray → List UInt8} {ws : List (ByteArray × Nat)} {tot : Int} {l : List Thing}
set_option maxRecDepth 20000 in
theorem names_calls (H : Hid (Sp w0 (dskT g F fl ws tot :: l) w)) (h64 : Hid (F.length ≤ 64)) :
    Calls Try.prog 32 #[.pointer (some ⟨g, 0, none⟩)] w fun e w' => ∃ v, e = .returned v ∧ OwnL layN 9 w' w.heap.size v (Dk.srt F) ∧ Below w.heap.size w w' := by
  obtain ⟨⟨mb, D, sv, wv⟩, hx, hd⟩ := H.out.opend
  have c0 : ∀ i, w.cell? ⟨g, i, none⟩ = (#[.map (some mb), wv, .int .i64 tot] : Array Value)[i]? := (DkS.of hd).blk.cells
  have HM := Lib.hid (DkS.of hd).map
  have HF := Lib.hid hx
  simp only at HM HF
  clear hd hx
  go_enter Try.func32, Try.ntmps32
  go_wp2_with (at_range; refine wpList_range_own _ rfl _ 82 rfl 9 47 kLawS Try.underlying82 RH mb _ D rfl HM.out ?_; intro w0 hrg0 hg0 hs0)
  go_frame
  have HS0 : Hid (NmS w mb D F (Maps.has D) (Maps.size D) (.slice none 0 0) [] w0) := Lib.hid ⟨hrg0, OwnL.nil _ _, by
    rw [List.filter_eq_nil_iff.2 (fun x hx => by
      rw [HF.out.has]
      simp [hx])], ⟨hg0.os, hg0.tape, hg0.output, hg0.size, fun k hk => hg0.block k hk (by simp)⟩, by omega⟩
  have HMB := Lib.hid (HM.out.lt)
  clear hrg0 hg0 hs0 c0
  go_loopg [3] (Maps.size D) (fun n v3 W => ∃ (A : Option Addr) (cap : Nat) (out : List ByteArray) (left : Lit → Bool), v3 = .slice A out.length cap ∧ Hid (NmS w mb D F left n (.slice A out.length cap) out W))
  case atStart => exact ⟨none, 0, [], Maps.has D, rfl, HS0⟩
  case round =>
    clear HS0
    obtain ⟨A, cap, out, left, rfl, HR⟩ := hrel
    have HOL : Hid (out.length ≤ 64) := Lib.hid (by rw [HR.out.perm.length_eq]; exact Nat.le_trans (List.length_filter_le _ _) h64.out)
    go_wp2_with (at_next; refine wpList_next_ranges (α := ByteArray) (β := Value) _ rfl _ rfl 9 kLawS RH Value.string (fun v => v) (fun key kl hk => by obtain ⟨s, rfl, -, -⟩ := Go.WideMaps.string_of_keyOf Try.underlying9 hk; exact ⟨s, rfl⟩) (fun v y _ => ⟨v, rfl⟩) mb w.heap.size _ _ _ _ rfl HR.out.rg ?_ ?_)
    · intro _ hl0
      have HL0 := Lib.hid hl0
      clear hl0
      have HO : Hid (OwnL layN 9 wr (w.heap.size + 1) (.slice A out.length cap) out) := Lib.hid HR.out.own
      go_wp2_with fail
      refine (sortN_calls HO (by have := HOL.out; omega)).mono ?_
      rintro e w5 ⟨rfl, ho5, hg5⟩
      have hperm : out.Perm F := by
        have h1 := HR.out.perm
        rwa [List.filter_eq_self.2 (fun x hx => by rw [HL0.out]; rfl)] at h1
      have HB5 : Hid (Below w.heap.size w w5) := Lib.hid (HR.out.bel.grown hg5 HR.out.bel.size (fun j hj => by have := (World.ownsRow.lt HR.out.own j hj).1; omega))
      have HO5 := Lib.hid ho5
      have HP := Lib.hid hperm
      clear hperm ho5 hg5
      go_wp2_with fail
      go_ret
      have h9 := HO5.out.low (Nat.le_succ w.heap.size)
      rw [Dk.srt_eq HP.out] at h9
      exact ⟨_, rfl, h9, HB5.out⟩
    · intro y c kl z zp w1 cnt1 hkx hlx hvx hat hrg1 hlt hg1 hs1 hen
      obtain ⟨s', es, ekl, hsz⟩ := Go.WideMaps.string_of_keyOf Try.underlying9 hkx
      injection es with es
      subst es
      subst ekl
      have hyF : y ∈ F := by
        have h1 := Maps.has_true_of_atKey hat
        have h2 := HF.out.has y
        rw [show Maps.has D (kS y) = true from h1] at h2
        simpa using h2.symm
      have HOO : Hid (OwnL layN 9 (w1.alloc (.cells #[.string y] 9)) (w.heap.size + 1) (.slice A out.length cap) out) := Lib.hid ((HR.out.own.turn (.grown hg1) (fun b e e2 => by have := (World.ownsRow.lt HR.out.own b e).1; injection e2 with e2; omega)).kept (bel_new (Below.refl _ _) _))
      have HBS : Hid (w.heap.size + 1 ≤ (w1.alloc (.cells #[.string y] 9)).heap.size) := Lib.hid (by
        have h1 := HR.out.lt
        have h2 := hg1.size
        have h4 : w1.heap.size ≤ (w1.alloc (.cells #[.string y] 9)).heap.size := by unfold World.alloc; simp
        omega)
      have HST : Hid (∀ (v2 : Value) (w2 : World), OwnL layN 9 w2 (w.heap.size + 1) v2 (out ++ [y]) → (w1.alloc (.cells #[.string y] 9)).grownBy w2 (Value.slice A out.length cap).ownBlock → ∃ A2 cap2, v2 = .slice A2 (out ++ [y]).length cap2 ∧ NmS w mb D F (fun z => left z && !z.sameKey (kS y)) cnt1 (.slice A2 (out ++ [y]).length cap2) (out ++ [y]) w2) := Lib.hid (fun v2 w2 ho2 hg2 => by
        obtain ⟨A2, cap2, rfl, -, -, -, -⟩ := ho2.form
        exact ⟨A2, cap2, rfl, HR.out.step HMB.out HF.out.nd hyF hlx hrg1 hg1 ho2 hg2⟩)
      have HLT := Lib.hid hlt
      have HRD := Lib.hid (rdL_litN w1 y)
      clear hkx hlx hvx hat hrg1 hlt hg1 hs1 hyF hsz
      go_wp2_with (at_builtin; refine wpList_appO8 (L := layN) 43 _ 16 Try.underlying43 infoN rfl rfl (.tmp 16) (.tmp 18) rfl (w.heap.size + 1) (.slice A out.length cap) out rfl HOO.out (some ⟨w1.heap.size, 0, none⟩) 1 1 [y] rfl rfl HRD.out (by have := HOL.out; simp [maxLen]; omega) (by have := HOL.out; simp; omega) HBS.out ?_; intro v2 w2 ho2 hg2 h32; obtain ⟨A2, cap2, rfl, hst⟩ := HST.out v2 w2 ho2 hg2; have HN2 := Lib.hid hst; clear ho2 hg2 h32 hst)
      go_roundg cnt1
      case rel => exact ⟨A2, cap2, out ++ [y], _, by rw [List.length_append]; rfl, HN2⟩
      case measure => exact HLT.out
end
/-- a disk just made -/
theorem new_calls (w : World) :
    Calls Try.prog 21 #[] w fun e w' => ∃ g, e = .returned (.pointer (some ⟨g, 0, none⟩)) ∧ Sp w [dskT g [] (fun _ => []) [] 0] w' := by
  have hmm := @run_makeMap Try.prog
  go_enter Try.func21, Try.ntmps21
  go_wp2_with fail
  go_ret
  have hm := World.ownsMap_made (H := Value) w Try.prog 9 RH
  have s0 := Sp.nil w
  have s1 : Sp w [ownT layD 92 (.slice none 0 0) ([] : List (ByteArray × Nat))] w := s0.row0
  have s2 : Sp w [mapDk w.heap.size (.map []), ownT layD 92 (.slice none 0 0) ([] : List (ByteArray × Nat))] (w.alloc (.map #[] 0)) :=
    s1.new (r := mapDk w.heap.size (.map [])) (bel_new (Below.refl _ _) _) (A := fun b => b = w.heap.size) ⟨hm, fun b => Iff.rfl⟩ (fun b e => by omega)
  have s3 := s2.alloc #[.map (some w.heap.size), .slice none 0 0, .int .i64 0] 85
  have hsz : (w.alloc (.map #[] 0)).heap.size = w.heap.size + 1 := by unfold World.alloc; simp
  rw [hsz] at s3
  exact ⟨_, rfl, Sp.closed (x := ⟨w.heap.size, .map [], fun _ => .slice none 0 0, .slice none 0 0⟩) (FileIs.nil _) s3⟩
end Go.Proofs.Ytheocdfccdpmbaa
