/-
  Contract: a crash.
  Conditions: stated lemma by lemma.
-/
import Derived.Test.YtheocdfccdpmbaaDk6
import Derived.Test.YtheocdfccdpmbaaDkU
import Derived.Test.YtheocdfccdpmbaaDkR
import Derived.Lib.MinMax
namespace Go.Proofs.Ytheocdfccdpmbaa
open Go.RowKit Go.Maps
set_option linter.unusedVariables false
set_option linter.unusedSimpArgs false
set_option maxHeartbeats 8000000

theorem OwnL.cut {α : Type} [Inhabited α] {L : Lay α} {e : TypeId} {w : World} {base : Nat} {A : Option Addr} {n c : Nat} {xs : List α} (h : OwnL L e w base (.slice A n c) xs) {m : Nat} (hm : m ≤ xs.length) : OwnL L e w base (.slice A m c) (xs.take m) := by
  have hl : (xs.take m).length = m := by rw [List.length_take]; omega
  rcases h.2 with ⟨e, h0⟩ | ⟨g, cap, cur, e, h1, h2, h3, h4, h5, h6⟩
  · injection e with e1 e2 e3
    subst e1; subst e3
    have : m = 0 := by omega
    subst this
    exact ⟨Lay.flat_len _ _, .inl ⟨rfl, by simp⟩⟩
  · injection e with e1 e2 e3
    subst e1; subst e3
    refine ⟨Lay.flat_len _ _, .inr ⟨g, c, cur, by rw [hl], h1, h2, by omega, h4, h5, ?_⟩⟩
    have := congrArg (List.take (m * L.k)) h6
    rw [List.take_take, Nat.min_eq_left (Nat.mul_le_mul_right _ hm)] at this
    rw [hl, this]
    have e1 : L.flat xs = L.flat (xs.take m) ++ L.flat (xs.drop m) := by rw [← Lay.flat_app, List.take_append_drop]
    rw [e1, List.take_left' (by rw [Lay.flat_len, hl])]
section
variable {w0 W W' : World} {l : List Thing} {g : Nat} {F : List ByteArray} {fl : ByteArray → List UInt8} {ws : List (ByteArray × Nat)} {x : DkX} {c2 : Value} {c3 : Int} {s : ByteArray}
/-- nothing waits any more -/
theorem DkS.noWaits (h : DkS w0 g F fl ws c2 c3 x l W) : DkS w0 g F fl [] c2 c3 ⟨x.mb, x.D, x.sv, .slice none 0 0⟩ l W := by
  have p : ∀ (a b c : Thing) (r : List Thing), (a :: b :: c :: r).Perm (c :: a :: b :: r) := fun a b c r => ((List.Perm.swap c b r).cons a).trans (List.Perm.swap ..)
  exact Sp.perm (Sp.row0 (Sp.perm h (p _ _ _ _)).tail) (p _ _ _ _).symm
/-- a file's slice is cut: it is stored in the map -/
theorem DkS.cut (h : DkS w0 g F fl ws c2 c3 x l W) (hx : FileIs x.D F x.sv) (h64 : F.length ≤ 64) (hs : s.size ≤ maxLen) (hF : s ∈ F) {A : Option Addr} {n c : Nat} (hv : x.sv s = .slice A n c) {m : Nat} (hm : m ≤ (fl s).length) :
    ∃ w5, (Instr.mapUpdate 82 (.map (some x.mb)) (.string s) (.slice A m c)).run Try.prog W = .ok () w5 ∧ ∃ D5, FileIs D5 F (updF x.sv s (.slice A m c)) ∧ DkS w0 g F (updL fl s ((fl s).take m)) ws c2 c3 ⟨x.mb, D5, updF x.sv s (.slice A m c), x.wv⟩ l w5 := by
  have h1 := h.take hF hx.nd
  rw [hv] at h1
  have ho := (Sp.own h1 (List.mem_cons_self ..)).cut hm
  have h2 := Sp.turnRow h1 ho (.refl _ _) (by cases A <;> exact .inl rfl)
  obtain ⟨w5, hrun, D5, k1, k2⟩ := DkS.mapped hx.nd hx h64 hs h2
  have e : addF F s = F := if_pos hF
  rw [e] at k1 k2
  exact ⟨w5, hrun, D5, k1, k2⟩
end
theorem mapUpd_in {H : Type} {P : Program} {w w' : World} {ops : Array Oper} {rest : List Oper} {o : Oper} {a : Act} {Q : Exit → Act → World → Prop} (hg : o.guard = none) (m x v : Operand) (t : TypeId) (hop : o.op = Op.mapUpdate t m x v)
    (mv key val : Value) (hm : a.eval m = mv) (hx : a.eval x = key) (hv : a.eval v = val) (hrun : (Instr.mapUpdate t mv key val).run P w = .ok () w') (hK : wpList P ops Q rest (a.put o.dst undef) w') : wpList P ops Q (o :: rest) a w := by
  refine wpList_plain hg fun K' hK' => ?_
  unfold Oper.wp
  simp [execOp, hop, hm, hx, hv, hrun, Result.andThen]
  exact hK' _ _ hK
/-- while a crash goes on -/
structure CrS (w0 : World) (g : Nat) (F : List ByteArray) (L M : List Wri) (mb : Nat) (wv : Value) (l : List Thing) (D : DataW Value) (sv : ByteArray → Value) (W : World) : Prop where
  fi : FileIs D F sv
  st : DkS w0 g F (fun n => Dk.content n M) (Dk.waits L) wv (Dk.total M) ⟨mb, D, sv, wv⟩ l W
section
variable {w0 w : World} {g : Nat} {F : List ByteArray} {L : List Wri} {l : List Thing}
set_option maxRecDepth 20000 in
theorem crash_calls (H : Hid (Sp w0 (dskT g F (fun n => Dk.content n L) (Dk.waits L) (Dk.total L) :: l) w)) (ho : Hid (Dk.Ord L)) (hin : Hid (∀ x ∈ L, x.name ∈ F)) (h64 : F.length ≤ 64) (hnm : Hid (∀ n ∈ F, n.size ≤ 16)) (htt : Hid (Dk.total L ≤ 1048576)) (hws : Dk.uns L ≤ 1000000) (keep torn : Int) :
    Calls Try.prog 33 #[.pointer (some ⟨g, 0, none⟩), .int .i64 keep, .int .i64 torn] w fun e w' => e = .returned (.tuple #[]) ∧ Sp w0 (dskT g F (fun n => Dk.content n (Dk.crash keep.toNat torn.toNat L)) [] (Dk.total (Dk.crash keep.toNat torn.toNat L)) :: l) w' := by
  obtain ⟨⟨mb, D, sv, wv⟩, hx, hd⟩ := H.out.opend
  obtain ⟨Aw, cw, hwv, -, -, -, -⟩ := (DkS.of hd).waits.form
  simp only at hwv
  subst hwv
  have HS0 : Hid (CrS w0 g F L L mb (.slice Aw (Dk.waits L).length cw) l D sv w) := Lib.hid ⟨hx, DkS.of hd⟩
  clear hx hd
  have hwl : (Dk.waits L).length = Dk.uns L := Dk.waits_len L
  have HWL := Lib.hid hwl
  have HWS := Lib.hid hws
  have H64 := Lib.hid h64
  obtain ⟨kp, hkp⟩ : ∃ kp, kp = min keep.toNat (Dk.uns L) := ⟨_, rfl⟩
  have hmm : min (max keep 0) (((Dk.waits L).length : Nat) : Int) = (kp : Int) := by rw [hwl]; omega
  have HKP : Hid (kp = min keep.toNat (Dk.uns L)) := Lib.hid hkp
  have HMM : Hid (kp ≤ Dk.uns L) := Lib.hid (by omega)
  have hn1 : IntKind.i64.wrap (((Dk.waits L).length : Int) - 1) = ((Dk.waits L).length : Int) - 1 := IntWalk.i64_in _ (by rw [hwl]; omega)
  have c0 : ∀ i, w.cell? ⟨g, i, none⟩ = (#[.map (some mb), .slice Aw (Dk.waits L).length cw, .int .i64 (Dk.total L)] : Array Value)[i]? := HS0.out.st.blk.cells
  clear hkp hwl hws h64
  obtain ⟨nw, hnw⟩ : ∃ nw, nw = (Dk.waits L).length := ⟨_, rfl⟩
  rw [← hnw] at hmm hn1 c0 HS0
  have HNW := Lib.hid hnw
  clear hnw
  go_enter Try.func33, Try.ntmps33
  go_wp2_with fail
  go_loopg [6, 7, 8, 9] (nw - kp) (fun n v6 v7 v8 v9 W => ∃ (k : Nat) (M : List Wri) (D : DataW Value) (sv : ByteArray → Value), v6 = .int .i64 ((k : Int) - 1) ∧ n + kp = k ∧ k ≤ nw ∧ Hid (CrS w0 g F L M mb (.slice Aw nw cw) l D sv W) ∧ Hid (Dk.Upto L kp torn.toNat k M))
  case atStart => exact ⟨nw, L, D, sv, rfl, by have := HMM.out; have := HNW.out; have := HWL.out; omega, Nat.le_refl _, HS0, Lib.hid (by
    have h1 := HNW.out
    rw [HWL.out] at h1
    rw [h1]
    exact Dk.Upto.start L torn.toNat HMM.out)⟩
  case round =>
    clear HS0 c0 hn1
    obtain ⟨k, M, D, sv, rfl, hnk, hkw, HC, HU⟩ := hrel
    by_cases hlt : kp < k
    · obtain ⟨j, rfl⟩ : ∃ j, k = j + 1 := ⟨k - 1, by omega⟩
      rw [show (((j + 1 : Nat) : Int) - 1) = (j : Int) from by omega]
      obtain ⟨nm, sz, hw1, hnmF, hsz, hrd⟩ := HU.out.round ho.out (by omega) (by have := HNW.out; have := HWL.out; omega)
      have hg : 0 < gk := by omega
      have hjw : j < (Dk.waits L).length := by have := HNW.out; omega
      have cD : ∀ i, wr.cell? ⟨g, i, none⟩ = (#[.map (some mb), .slice Aw nw cw, .int .i64 (Dk.total M)] : Array Value)[i]? := HC.out.st.blk.cells
      have hwr := HC.out.st.waits
      simp only at hwr
      obtain ⟨Aw', cw', hAw, -, -, hwrd, -⟩ := hwr.form
      have hAw2 : Aw = Aw' := by injection hAw
      clear hAw
      subst hAw2
      obtain ⟨bw, ow, hAe, hbl, e0, e1⟩ := hwrd.wrt j hjw
      have hgd : (Dk.waits L).getD j default = (nm, sz) := by simp [List.getD, hw1]
      rw [hgd] at e0 e1
      subst hAe
      simp only at e0 e1
      have hjn : (j : Int) < (nw : Int) := by have := HNW.out; omega
      have hkj : (kp : Int) ≤ (j : Int) := by omega
      have HJ := Lib.hid (And.intro hnk hkw)
      have HJK : Hid (kp ≤ j) := Lib.hid (by omega)
      have HSZ := Lib.hid hsz
      have HRD := Lib.hid hrd
      have hF : nm ∈ F := by obtain ⟨y, hy, e⟩ := hnmF; rw [← e]; exact hin.out y hy
      have HF := Lib.hid hF
      have HG := Lib.hid hg
      have htm : Dk.total M ≤ 1048576 := Nat.le_trans (HU.out.total (by omega)) htt.out
      have HTM := Lib.hid htm
      have hszt : sz ≤ 1048576 := Nat.le_trans hsz (Nat.le_trans (Dk.content_le_total _ _) htm)
      have hcl : (Dk.content nm M).length ≤ 1048576 := Nat.le_trans (Dk.content_le_total _ _) htm
      clear hw1 hnmF hsz hrd hjw hwr hwrd hbl hgd hnk hkw hlt hF hg htm
      go_upto_region 6 with (fail)
      have HB1 := Lib.hid (bel_new (Below.refl wr.heap.size wr) (.cells #[.string nm, .int .i64 (sz : Int)] 92))
      have HK1 := Lib.hid (Blk.new wr 92 #[.string nm, .int .i64 (sz : Int)])
      have HC1 : Hid (CrS w0 g F L M mb (.slice (some ⟨bw, ow, none⟩) nw cw) l D sv _) := Lib.hid ⟨HC.out.fi, HC.out.st.keep HB1.out⟩
      clear HC cD e0 e1
      generalize wr.heap.size = gz at *
      generalize wr.alloc (.cells #[.string nm, .int .i64 (sz : Int)] 92) = w1 at *
      have z0 : w1.cell? ⟨gz, 0, none⟩ = some (.string nm) := HK1.out.cells 0
      have z1 : w1.cell? ⟨gz, 1, none⟩ = some (.int .i64 (sz : Int)) := HK1.out.cells 1
      obtain ⟨lost, hlost⟩ : ∃ lost, lost = sz - (if j = kp then torn.toNat else 0) := ⟨_, rfl⟩
      obtain ⟨M', hU', hcM, htM⟩ := HRD.out lost hlost
      have HU' := Lib.hid hU'
      have HCM := Lib.hid hcM
      have HTM' := Lib.hid htM
      have hls : lost ≤ sz := by omega
      have cD : ∀ i, w1.cell? ⟨g, i, none⟩ = (#[.map (some mb), .slice (some ⟨bw, ow, none⟩) nw cw, .int .i64 (Dk.total M)] : Array Value)[i]? := HC1.out.st.blk.cells
      have fD : ∀ i, w1.frozen? ⟨g, i, none⟩ = false := HC1.out.st.blk.free
      have HNM : Hid (nm.size ≤ maxLen) := Lib.hid (by have := hnm.out nm HF.out; unfold maxLen; omega)
      have hlen : IntKind.i64.wrap (((Dk.content nm M).length : Int) - (lost : Int)) = (((Dk.content nm M).length - lost : Nat) : Int) := by
        have := HSZ.out
        rw [IntWalk.i64_in _ (by omega)]
        omega
      have htot : IntKind.i64.wrap ((Dk.total M : Int) - (lost : Int)) = (Dk.total M' : Int) := by
        have := HTM.out
        rw [IntWalk.i64_in _ (by omega)]
        omega
      have HLO := Lib.hid hlost
      have hm1 : (Dk.content nm M).length - lost ≤ (Dk.content nm M).length := Nat.sub_le _ _
      have HLS := Lib.hid (And.intro hls hszt)
      have hjm : IntKind.i64.wrap ((j : Int) - 1) = (j : Int) - 1 := IntWalk.i64_in _ (by have := HJ.out; have := HNW.out; have := HWL.out; have := HWS.out; omega)
      have lk : ∀ n, (Instr.lookup 82 (.map (some mb)) (.string nm) false).run Try.prog (w1.drewN n) = .ok (sv nm) (w1.drewN n) := fun n => by
        obtain ⟨v, -, h2, h3⟩ := look_file HC1.out.st.map HC1.out.fi HNM.out (w1.drewN n) rfl
        rw [if_pos HF.out] at h3
        subst h3
        exact h2
      clear hlost hU' hcM htM hls hszt
      have hown := HC1.out.st.file HF.out
      simp only at hown
      have hcase : ∃ Af cf, sv nm = .slice Af (Dk.content nm M).length cf ∧ (Dk.content nm M).length ≤ cf ∧ ((Af = none ∧ (Dk.content nm M).length = 0) ∨ ∃ gf, Af = some ⟨gf, 0, none⟩) := by
        rcases hown.2 with ⟨e, h0⟩ | ⟨gf, cap, cur, e, -, -, h3, -⟩
        · exact ⟨none, 0, by rw [e, h0], by omega, .inl ⟨rfl, h0⟩⟩
        · exact ⟨_, cap, e, h3, .inr ⟨gf, rfl⟩⟩
      obtain ⟨Af, cf, hsv, hcap, hA⟩ := hcase
      rw [hsv] at lk
      have HSV := Lib.hid hsv
      clear hown hsv
      have HFN : Hid (updL (fun n => Dk.content n M) nm ((Dk.content nm M).take ((Dk.content nm M).length - lost)) = fun n => Dk.content n M') := Lib.hid (by
        funext n
        rw [HCM.out n]
        unfold updL
        by_cases e : n = nm
        · subst e; rw [if_pos rfl]; try rw [if_pos rfl]
        · rw [if_neg e, if_neg e])
      obtain ⟨m, hm⟩ : ∃ m, m = (Dk.content nm M).length - lost := ⟨_, rfl⟩
      rw [← hm] at hlen hm1 HFN
      have hmc : m ≤ cf := by omega
      have HM1 := Lib.hid hm1
      clear hm hm1 hcap
      rcases hA with ⟨rfl, -⟩ | ⟨gf, rfl⟩
      all_goals
        by_cases c : j = kp
        · have b1 : ((j : Int) == (kp : Int)) = true := by simp [c]
          have hlo : IntKind.i64.wrap ((sz : Int) - min (max torn 0) (sz : Int)) = (lost : Int) := by
            have h1 := HLO.out
            have h2 := HLS.out
            rw [if_pos c] at h1
            rw [IntWalk.i64_in _ (by omega)]
            omega
          clear c
          go_upto_region 9 with (fail)
          go_quiet (fail)
          have HC2 : Hid (CrS w0 g F L M mb (.slice (some ⟨bw, ow, none⟩) nw cw) l D sv _) := Lib.hid ⟨HC1.out.fi, HC1.out.st.keep (bel_drewN (Below.refl w1.heap.size w1) nq)⟩
          have HK2 := Lib.hid (HK1.out.drewN nq)
          clear z0 z1 cD fD lk HC1 HK1
          generalize w1.drewN nq = w2 at *
          have z0 : w2.cell? ⟨gz, 0, none⟩ = some (.string nm) := HK2.out.cells 0
          have z1 : w2.cell? ⟨gz, 1, none⟩ = some (.int .i64 (sz : Int)) := HK2.out.cells 1
          have cD : ∀ i, w2.cell? ⟨g, i, none⟩ = (#[.map (some mb), .slice (some ⟨bw, ow, none⟩) nw cw, .int .i64 (Dk.total M)] : Array Value)[i]? := HC2.out.st.blk.cells
          obtain ⟨w5, hrun5, D5, hx5, hd5⟩ := DkS.cut (x := ⟨mb, D, sv, .slice (some ⟨bw, ow, none⟩) nw cw⟩) (HC2.out.st.keep (bel_drew (Below.refl _ _))) HC2.out.fi H64.out HNM.out HF.out HSV.out HM1.out
          simp only at hrun5
          rw [HFN.out] at hd5
          have c5 : ∀ i, w5.cell? ⟨g, i, none⟩ = (#[.map (some mb), .slice (some ⟨bw, ow, none⟩) nw cw, .int .i64 (Dk.total M)] : Array Value)[i]? := hd5.blk.cells
          have f5 : ∀ i, w5.frozen? ⟨g, i, none⟩ = false := hd5.blk.free
          have H5 : Hid (CrS w0 g F L M' mb (.slice (some ⟨bw, ow, none⟩) nw cw) l D5 _ (w5.setCell ⟨g, 2, none⟩ (.int .i64 (Dk.total M')))) := Lib.hid ⟨hx5, hd5.sett _⟩
          clear hx5 hd5 HC2 HK2
          go_upto_region 10 with (fail)
          go_still_tail 12, (by kernel_rfl)
          change wpList _ _ _ _ _ w2.drew
          go_wp2_with fail
          go_roundg (gk - 1)
          case rel => exact ⟨j, M', D5, _, by go_num, by have := HJ.out; have := HG.out; omega, by have := HJ.out; omega, H5, HU'⟩
          case measure => have := HG.out; omega
        · have b1 : ((j : Int) == (kp : Int)) = false := by rw [beq_eq_false_iff_ne]; omega
          obtain rfl : sz = lost := by have h1 := HLO.out; rw [if_neg c] at h1; omega
          clear c
          go_upto_region 9 with (fail)
          go_quiet (fail)
          have HC2 : Hid (CrS w0 g F L M mb (.slice (some ⟨bw, ow, none⟩) nw cw) l D sv _) := Lib.hid ⟨HC1.out.fi, HC1.out.st.keep (bel_drewN (Below.refl w1.heap.size w1) nq)⟩
          have HK2 := Lib.hid (HK1.out.drewN nq)
          clear z0 z1 cD fD lk HC1 HK1
          generalize w1.drewN nq = w2 at *
          have z0 : w2.cell? ⟨gz, 0, none⟩ = some (.string nm) := HK2.out.cells 0
          have z1 : w2.cell? ⟨gz, 1, none⟩ = some (.int .i64 (sz : Int)) := HK2.out.cells 1
          have cD : ∀ i, w2.cell? ⟨g, i, none⟩ = (#[.map (some mb), .slice (some ⟨bw, ow, none⟩) nw cw, .int .i64 (Dk.total M)] : Array Value)[i]? := HC2.out.st.blk.cells
          obtain ⟨w5, hrun5, D5, hx5, hd5⟩ := DkS.cut (x := ⟨mb, D, sv, .slice (some ⟨bw, ow, none⟩) nw cw⟩) (HC2.out.st.keep (bel_drew (Below.refl _ _))) HC2.out.fi H64.out HNM.out HF.out HSV.out HM1.out
          simp only at hrun5
          rw [HFN.out] at hd5
          have c5 : ∀ i, w5.cell? ⟨g, i, none⟩ = (#[.map (some mb), .slice (some ⟨bw, ow, none⟩) nw cw, .int .i64 (Dk.total M)] : Array Value)[i]? := hd5.blk.cells
          have f5 : ∀ i, w5.frozen? ⟨g, i, none⟩ = false := hd5.blk.free
          have H5 : Hid (CrS w0 g F L M' mb (.slice (some ⟨bw, ow, none⟩) nw cw) l D5 _ (w5.setCell ⟨g, 2, none⟩ (.int .i64 (Dk.total M')))) := Lib.hid ⟨hx5, hd5.sett _⟩
          clear hx5 hd5 HC2 HK2
          go_upto_region 10 with (fail)
          go_still_tail 12, (by kernel_rfl)
          change wpList _ _ _ _ _ w2.drew
          go_wp2_with fail
          go_roundg (gk - 1)
          case rel => exact ⟨j, M', D5, _, by go_num, by have := HJ.out; have := HG.out; omega, by have := HJ.out; omega, H5, HU'⟩
          case measure => have := HG.out; omega
    · have hke : k = kp := by omega
      subst hke
      have ht : ¬ (k : Int) ≤ (k : Int) - 1 := by omega
      have cD : ∀ i, wr.cell? ⟨g, i, none⟩ = (#[.map (some mb), .slice Aw nw cw, .int .i64 (Dk.total M)] : Array Value)[i]? := HC.out.st.blk.cells
      have fD : ∀ i, wr.frozen? ⟨g, i, none⟩ = false := HC.out.st.blk.free
      have hM : M = Dk.mu (Dk.left keep.toNat torn.toNat) 0 L := by
        rw [HU.out.2 rfl, HKP.out]
        exact Dk.mu_left_min _ _ _
      have HEND : Hid (Sp w0 (dskT g F (fun n => Dk.content n (Dk.crash keep.toNat torn.toNat L)) [] (Dk.total (Dk.crash keep.toNat torn.toNat L)) :: l) (wr.setCell ⟨g, 1, none⟩ (.slice none 0 0))) := Lib.hid (by
        have h1 := DkS.to (x := ⟨mb, D, sv, .slice none 0 0⟩) HC.out.fi (HC.out.st.noWaits.setw (.slice none 0 0))
        have e1 : (fun n => Dk.content n (Dk.crash keep.toNat torn.toNat L)) = fun n => Dk.content n M := by
          funext n
          rw [Dk.crash_content, hM]
        have e2 : Dk.total (Dk.crash keep.toNat torn.toNat L) = Dk.total M := by
          unfold Dk.crash
          rw [Dk.total_synAll, hM]
        rw [e1, e2]
        exact h1)
      clear hM
      go_wp2_with fail
      go_end0
      exact ⟨rfl, HEND.out⟩
end
end Go.Proofs.Ytheocdfccdpmbaa
