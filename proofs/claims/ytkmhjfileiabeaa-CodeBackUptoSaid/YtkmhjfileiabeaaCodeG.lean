/-
  Contracts of the package code: Encode.
  Conditions: the fields can be read; their bytes are at most 2^38.
-/
import Derived.Test.YtkmhjfileiabeaaCodeH
namespace Go.Proofs.Ytkmhjfileiabeaa
open Go.RowKit
set_option linter.unusedVariables false
set_option linter.unusedSimpArgs false

theorem step_app8s {ops : Array Oper} {o : Oper} {a : Act} {K : Act → World → Prop} {Q : Exit → Act → World → Prop} {E : Prop} {w : World} (hgd : o.guard = none) (s x : Operand)
    (ho : o.op = .call { callee := .builtin .append, args := #[s, x], argTypes := #[22, 9] })
    (base : Nat) (v : Value) (xs : List Nat) (hs : a.eval s = v) (hown : Own8 w base v xs) (st : ByteArray) (hx : a.eval x = .string st)
    (hb : xs.length + st.size ≤ 2 ^ 40) (hbase : base ≤ w.heap.size)
    (h : ∀ v' w', Own8 w' base v' (xs ++ sb st) → w.grownBy w' v.ownBlock → K (a.put o.dst v') w') :
    if Region.wanted o (yielded ops a.tmps) = true then Oper.wp Try.prog o a w K Q else E := by
  have hw : Region.wanted o (yielded ops a.tmps) = true := by simp [Region.wanted, hgd]
  rw [if_pos hw]
  obtain ⟨v', w', hrun, h2, h3⟩ := run_app8s w o.type base v xs hown st hb hbase
  unfold Oper.wp execOp
  simp only [ho, resolve, invoke, builtin, Sem.run_bind, Sem.run_pure, Result.andThen_ok, List.map_toArray, List.map_cons, List.map_nil, hs, hx, hrun]
  exact h v' w' h2 h3

/-- bytes made, or an error -/
def ResB (base : Nat) (o : Option (List Nat)) (v : Value) (w : World) : Prop :=
  match o with
  | none => v = .tuple #[.slice none 0 0, .int .i64 1]
  | some x => ∃ u, v = .tuple #[u, .int .i64 0] ∧ Own8 w base u x
theorem Own8.nil (w : World) (base : Nat) : Own8 w base (.slice none 0 0) [] := ⟨World.ownsRow_nil w base _ 1, fun x hx => by cases hx⟩

set_option maxRecDepth 20000 in
set_option maxHeartbeats 4000000 in
theorem encode_calls (A : Option Addr) (cap : Nat) (fs : List Fi) (w : World) (hR : RdF w A fs) (hlen : fs.length ≤ 9223372036854775807) (hn : ∀ f ∈ fs, -9223372036854775808 ≤ f.2.1 ∧ f.2.1 ≤ 9223372036854775807)
    (hsm : ∀ k x, k ≤ fs.length → Code.enc (fs.take k) = some x → x.length ≤ 2 ^ 38) :
    Calls Try.prog 26 #[.slice A fs.length cap] w fun e w' => (∃ v, e = .returned v ∧ ResB w.heap.size (Code.enc fs) v w') ∧ Below w.heap.size w w' := by
  obtain ⟨o, ho⟩ : ∃ o, o = Code.enc fs := ⟨_, rfl⟩
  rw [← ho]
  have HO := Lib.hid ho
  have HR := Lib.hid hR
  have HN := Lib.hid hn
  have HSM := Lib.hid hsm
  clear ho hR hn hsm
  go_enter Try.func26, Try.ntmps26
  go_wp2_with fail
  go_loopg [4, 6, 9] fs.length (fun g v4 v6 v9 W => Below w.heap.size w W ∧ ∃ k : Nat, v9 = .int .i64 k ∧ Hid (k + g = fs.length ∧ ∃ x, Code.enc (fs.take k) = some x ∧ Own8 W w.heap.size v4 x))
  case atStart => exact ⟨Below.refl _ _, 0, rfl, Lib.hid ⟨by omega, [], rfl, Own8.nil _ _⟩⟩
  case round =>
    obtain ⟨hb, k, rfl, HI⟩ := hrel
    by_cases hlt : k < fs.length
    · have hg : 0 < gk := by have := HI.out.1; omega
      have hl : (k : Int) < (fs.length : Int) := by omega
      obtain ⟨hkg, x, hx, hOw⟩ := HI.out
      have HKG := Lib.hid hkg
      have HX := Lib.hid hx
      have HOW := Lib.hid hOw
      have HXL := Lib.hid (HSM.out k x (by omega) hx)
      obtain ⟨b, off, rfl, hbl, c1, c2, c3⟩ := HR.out k hlt
      have d1 := (hb.cell (p := ⟨b, off + k * 3, none⟩) hbl).trans c1
      have d2 := (hb.cell (p := ⟨b, off + k * 3 + 1, none⟩) hbl).trans c2
      have d3 := (hb.cell (p := ⟨b, off + k * 3 + 2, none⟩) hbl).trans c3
      have hnn := HN.out (fs.getD k default) (by simp only [List.getD, List.getElem?_eq_getElem hlt, Option.getD_some]; exact List.getElem_mem hlt)
      have hst := Lib.hid (enc_step hlt hx)
      have hbad := Lib.hid (enc_bad hlt hx)
      generalize fs.getD k default = f at *
      obtain ⟨kd, n, s⟩ := f
      simp only at d1 d2 d3 hnn
      obtain ⟨n0, n1⟩ := hnn
      clear hkg hx hOw HI c1 c2 c3
      by_cases h1 : kd = 1
      · subst h1
        by_cases hp : 0 ≤ n
        · obtain ⟨m, rfl⟩ : ∃ m : Nat, n = (m : Int) := ⟨n.toNat, by omega⟩
          have he : Code.enc1 (1, (m : Int), s) = some (Code.vb m) := by unfold Code.enc1; rw [if_pos ⟨rfl, hp⟩]; simp
          have hn2 := Lib.hid (hst.out.trans (by rw [he]; rfl) : Code.enc (fs.take (k + 1)) = some (x ++ Code.vb m))
          have HM : Hid (m < 2 ^ 64) := Lib.hid (by omega)
          clear he hbad hst
          go_wp2_with fail
          refine (put_calls w.heap.size u4 x m _ HM (HOW.out.kept (bel_new (Below.refl _ _) _)) (bel_new hb _).size (Lib.hid (by have := HXL.out; omega))).mono ?_
          rintro e w2 ⟨⟨v2, rfl, ho2⟩, hb2⟩
          have hb3 := Lib.hid ((bel_new hb _).trans hb2)
          clear hb2
          go_wp2_with fail
          go_roundg (gk - 1)
          case rel => exact ⟨hb3.out, k + 1, by go_num, Lib.hid ⟨by have := HKG.out; omega, _, hn2.out, ho2⟩⟩
          case measure => omega
        · have hp2 : n < 0 := by omega
          have he : Code.enc1 (1, n, s) = none := by unfold Code.enc1; simp only; rw [if_neg (by omega), if_neg (by omega), if_neg (by omega)]
          have ho : o = none := by rw [HO.out]; exact hbad.out he
          subst ho
          clear he
          go_wp2_with fail
          go_ret2
          exact ⟨⟨_, rfl, rfl⟩, bel_new hb _⟩
      · have e1 : (kd == 1) = false := by simpa using h1
        by_cases h2 : kd = 2
        · subst h2
          have hz := zz_code n n0 n1
          have HZ := Lib.hid hz
          clear hz
          have he : Code.enc1 (2, n, s) = some (Code.vb (Code.zz n)) := by unfold Code.enc1; simp
          have hn2 := Lib.hid (hst.out.trans (by rw [he]; rfl) : Code.enc (fs.take (k + 1)) = some (x ++ Code.vb (Code.zz n)))
          have HM : Hid (Code.zz n < 2 ^ 64) := Lib.hid (by unfold Code.zz; split <;> omega)
          clear he hbad hst
          go_wp2_with fail
          rw [HZ.out]
          refine (put_calls w.heap.size u4 x (Code.zz n) _ HM (HOW.out.kept (bel_new (Below.refl _ _) _)) (bel_new hb _).size (Lib.hid (by have := HXL.out; omega))).mono ?_
          rintro e w2 ⟨⟨v2, rfl, ho2⟩, hb2⟩
          have hb3 := Lib.hid ((bel_new hb _).trans hb2)
          clear hb2
          go_wp2_with fail
          go_roundg (gk - 1)
          case rel => exact ⟨hb3.out, k + 1, by go_num, Lib.hid ⟨by have := HKG.out; omega, _, hn2.out, ho2⟩⟩
          case measure => omega
        · have e2 : (kd == 2) = false := by simpa using h2
          by_cases h3 : kd = 3
          · subst h3
            by_cases hsz : s.size ≤ 65536
            · have hsi : (s.size : Int) ≤ 65536 := by omega
              have he : Code.enc1 (3, n, s) = some (Code.vb s.size ++ sb s) := by unfold Code.enc1; simp [hsz]
              have hn2 := Lib.hid (hst.out.trans (by rw [he]; rfl) : Code.enc (fs.take (k + 1)) = some (x ++ (Code.vb s.size ++ sb s)))
              have HM : Hid (s.size < 2 ^ 64) := Lib.hid (by omega)
              clear he hbad hst
              go_wp2_with fail
              have hB := Blk.new wr 48 #[.int .i64 3, .int .i64 n, .string s]
              have HOW1 := Lib.hid (HOW.out.kept (bel_new (Below.refl _ _) (.cells #[.int .i64 3, .int .i64 n, .string s] 48)))
              have hb1 := Lib.hid (bel_new hb (.cells #[.int .i64 3, .int .i64 n, .string s] 48))
              have HNE : Hid (∀ k, u4.ownBlock = some k → k < wr.heap.size) := Lib.hid (fun k hk => (HOW.out.1.lt k hk).2)
              generalize wr.alloc (.cells #[.int .i64 3, .int .i64 n, .string s] 48) = W1 at *
              generalize wr.heap.size = gb at *
              have hgb := hB.lt
              have q0 : W1.cell? ⟨gb, 2, none⟩ = some (.string s) := hB.cells 2
              have q1 : (W1.drew).cell? ⟨gb, 2, none⟩ = some (.string s) := q0
              have hln : (x ++ Code.vb s.size).length + s.size ≤ 2 ^ 40 := by have := HXL.out; have := Code.vb_len 2 s.size (by omega); simp; omega
              have HLN := Lib.hid hln
              clear hln
              have q2 : IntKind.u64.wrap (s.size : Int) = (s.size : Int) := by simp [IntKind.wrap, IntKind.bits, IntKind.signed]; omega
              have HS := Lib.hid hsz
              clear hsz hB q1

              have ho0 := HOW1.out.kept (Below.refl W1.heap.size W1).drew
              have hbb : w.heap.size ≤ W1.drew.heap.size := hb1.out.size
              have hll : Hid (x.length ≤ 2 ^ 39) := Lib.hid (by have := HXL.out; omega)
              have hpc := put_calls2 w.heap.size u4 x s.size W1.drew HM ho0 hbb hll
              have hkc : ∀ w2 v2, Kept8 W1.drew w2 u4 v2 → w2.cell? ⟨gb, 2, none⟩ = some (.string s) ∧ some gb ≠ v2.ownBlock ∧ gb < w2.heap.size := fun w2 v2 hk2 =>
                ⟨(World.cell?_of_block (w := W1) (a := ⟨gb, 2, none⟩) (hk2.1.block gb hgb (fun e => by have := HNE.out gb e.symm; omega))).trans q0, fun e => by
                  rcases hk2.2 with h | ⟨r, h, hr⟩
                  · have := HNE.out gb (h.symm.trans e.symm); omega
                  · rw [h] at e; injection e with e; rw [← e] at hr; exact absurd hr (by show ¬ W1.heap.size ≤ gb; omega), Nat.lt_of_lt_of_le hgb hk2.1.size⟩
              have HPC := Lib.hid hpc
              have HKC := Lib.hid hkc
              clear hpc hkc ho0 hbb hll
              go_region_held3 (fun w' => w'.cell? ⟨gb, 2, none⟩ = some (.string s)) (go_keep)
                (first
                | (go_at_call 36
                   refine HPC.out.mono ?_
                   rintro e w2 ⟨⟨v2, rfl, ho2, hk2⟩, hb2⟩
                   have hc2 := (HKC.out w2 v2 hk2).1
                   have hb2' := Lib.hid (hb1.out.drew.trans hb2))
                | (refine step_app8s rfl (.tmp 57) (.tmp 59) rfl w.heap.size v2 (x ++ Code.vb s.size) rfl ho2 s rfl HLN.out hb2'.out.size ?_
                   intro v3 w3 ho3 hg3
                   have hb3 := Lib.hid (Own8.grown ho2 hb2'.out hb2'.out.size hg3)
                   have hc3 : w3.cell? ⟨gb, 2, none⟩ = some (.string s) := (World.cell?_of_block (w := w2) (a := ⟨gb, 2, none⟩) (hg3.block gb (HKC.out w2 v2 hk2).2.2 (HKC.out w2 v2 hk2).2.1)).trans hc2))
              clear hc2 hc3 hk2 ho2 hg3
              go_wp2_with fail
              go_roundg (gk - 1)
              case rel => exact ⟨hb3.out, k + 1, by go_num, Lib.hid ⟨by have := HKG.out; omega, _, hn2.out, by rw [List.append_assoc] at ho3; exact ho3⟩⟩
              case measure => omega
            · have hsi : ¬ (s.size : Int) ≤ 65536 := by omega
              have he : Code.enc1 (3, n, s) = none := by unfold Code.enc1; simp only; rw [if_neg (by omega), if_neg (by omega), if_neg (by omega)]
              have ho : o = none := by rw [HO.out]; exact hbad.out he
              subst ho
              clear he
              go_wp2_with fail
              go_ret2
              exact ⟨⟨_, rfl, rfl⟩, bel_new hb _⟩
          · have e3 : (kd == 3) = false := by simpa using h3
            have he : Code.enc1 (kd, n, s) = none := by unfold Code.enc1; simp only; rw [if_neg (by omega), if_neg (by omega), if_neg (by omega)]
            have ho : o = none := by rw [HO.out]; exact hbad.out he
            subst ho
            clear he
            go_wp2_with fail
            go_ret2
            exact ⟨⟨_, rfl, rfl⟩, bel_new hb _⟩
    · have hl : ¬ (k : Int) < (fs.length : Int) := by omega
      obtain ⟨hkg, x, hx, hOw⟩ := HI.out
      have hke : k = fs.length := by omega
      have ho : o = some x := by rw [HO.out, ← hx, hke, List.take_length]
      subst ho
      clear hkg hx HI hlt hke
      go_wp2_with fail
      go_ret2
      exact ⟨⟨_, rfl, ⟨_, rfl, hOw⟩⟩, hb⟩
end Go.Proofs.Ytkmhjfileiabeaa
