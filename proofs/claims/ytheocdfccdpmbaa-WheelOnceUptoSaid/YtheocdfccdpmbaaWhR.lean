/-
  Contract: an item is put into the reference of a wheel.
  Conditions: the reference holds R, in order.
-/
import Derived.Test.YtheocdfccdpmbaaWhQ
import Derived.Deep.RegionHeld3
import Derived.Deep.RegionLaw
namespace Go.Proofs.Ytheocdfccdpmbaa
open Go.RowKit Go.Maps
set_option linter.unusedVariables false
set_option linter.unusedSimpArgs false
set_option maxHeartbeats 8000000

/-- the reference: its block, its list -/
structure RfS (base rg : Nat) (rn : Int) (v : Value) (R : List Itm) (W : World) : Prop where
  blk : Blk W rg 64 #[.int .i64 rn, v]
  own : OwnL layW 31 W base v R
  ne : ∀ b, v.ownBlock = some b → b ≠ rg
  lo : base ≤ rg
theorem RfS.turn {base rg : Nat} {rn : Int} {v : Value} {R : List Itm} {W W' : World} {B : Nat → Prop} (h : RfS base rg rn v R W) (t : Turn B W W') (hB : ¬ B rg) (hv : ∀ b, v.ownBlock = some b → ¬ B b) : RfS base rg rn v R W' :=
  { h with blk := h.blk.turn t hB, own := h.own.turn t hv }
theorem RfS.bel {base rg : Nat} {rn : Int} {v : Value} {R : List Itm} {W W' : World} (h : RfS base rg rn v R W) (hb : Below W.heap.size W W') : RfS base rg rn v R W' := h.turn (B := fun _ => False) (.bel hb) (fun e => e) (fun _ _ e => e)
/-- the reference as it became -/
def RTo (base rg : Nat) (v : Value) (W : World) (rn : Int) (R : List Itm) (W' : World) : Prop :=
  ∃ v', RfS base rg rn v' R W' ∧ Turn (fun b => b = rg ∨ v.ownBlock = some b) W W' ∧ ∀ b, v'.ownBlock = some b → v.ownBlock = some b ∨ W.heap.size ≤ b
theorem RTo.refl {base rg : Nat} {rn : Int} {v : Value} {R : List Itm} {W W' : World} (h : RfS base rg rn v R W) (hb : Below W.heap.size W W') : RTo base rg v W rn R W' := ⟨v, h.bel hb, .bel hb, fun b e => .inl e⟩
/-- another slice is stored -/
theorem RfS.put {base rg : Nat} {rn : Int} {v : Value} {R : List Itm} {W : World} (h : RfS base rg rn v R W) {v' : Value} {R' : List Itm} {W' : World} (ho : OwnL layW 31 W' base v' R') (t : Turn (fun b => v.ownBlock = some b) W W') (hv : ∀ b, v'.ownBlock = some b → v.ownBlock = some b ∨ W.heap.size ≤ b) :
    RfS base rg rn v' R' (W'.setCell ⟨rg, 1, none⟩ v') ∧ Turn (fun b => b = rg ∨ v.ownBlock = some b) W (W'.setCell ⟨rg, 1, none⟩ v') := by
  have hne : ∀ b, v'.ownBlock = some b → b ≠ rg := fun b e => by
    rcases hv b e with e | e
    · exact h.ne b e
    · have := h.blk.lt; omega
  have hb : Blk W' rg 64 #[.int .i64 rn, v] := h.blk.turn t (fun e => h.ne rg e rfl)
  refine ⟨⟨?_, ho.turn (Turn.set W' ⟨rg, 1, none⟩ v') (fun b e => hne b e), hne, h.lo⟩, (t.mono (B' := fun b => b = rg ∨ v.ownBlock = some b) fun b _ e => .inr e).trans (Turn.set W' ⟨rg, 1, none⟩ v') (fun b e => .inl (.inl e))⟩
  have := hb.set 1 v'
  simpa only [List.setIfInBounds_toArray, List.set_cons_succ, List.set_cons_zero] using this
theorem OwnL.cut0 {W : World} {base : Nat} {A : Option Addr} {cap : Nat} {R : List Itm} (h : OwnL layW 31 W base (.slice A R.length cap) R) {i : Nat} (hi : i ≤ R.length) : OwnL layW 31 W base (.slice A i cap) (R.take i) := by
  rcases h.2 with ⟨e, e2⟩ | ⟨g, cap', cur, e, _⟩
  · injection e with e1 e3 e4
    subst e1; subst e4
    have : i = 0 := by omega
    subst this
    exact OwnL.nil _ _
  · injection e with e1 e3 e4
    subst e1
    exact (h.cutW i hi []).1
theorem ownB (A : Option Addr) (n m c d : Nat) : (Value.slice A n c).ownBlock = (Value.slice A m d).ownBlock := by cases A <;> rfl
/-- a loop's state in Insert -/
structure RIn (w : World) (R : List Itm) (i : Itm) (k : Nat) (W : World) : Prop where
  bel : Below w.heap.size w W
  no : ∀ j, j < k → (R.getD j default).id ≠ i.id
  box : Blk W w.heap.size 31 #[.int .i64 i.id, .int .i64 i.at_]
set_option maxRecDepth 20000 in
theorem rinsert_calls {base rg : Nat} {rn : Int} {v : Value} {R : List Itm} {w : World} (H : Hid (RfS base rg rn v R w)) (hs : Hid (R.Pairwise Wh.before)) (hl : R.length ≤ 4096) (n0 : 0 ≤ rn) (i : Itm) :
    Calls Try.prog 35 #[.pointer (some ⟨rg, 0, none⟩), itmV i] w fun e w' => e = .returned (.int .i64 (Wh.insE rn R i)) ∧ RTo base rg v w rn (Wh.insS rn R i) w' := by
  obtain ⟨er, her⟩ : ∃ er, er = Wh.insE rn R i := ⟨_, rfl⟩
  rw [← her]
  have HE := Lib.hid her
  have HL := Lib.hid hl
  clear her hl
  obtain ⟨id, a⟩ := i
  have HB1 := Lib.hid (bel_new (Below.refl w.heap.size w) (.cells #[.int .i64 id, .int .i64 a] 31))
  have HI1 := Lib.hid (Blk.new w 31 #[.int .i64 id, .int .i64 a])
  obtain ⟨A, cap, rfl, hcap, hcap2, -, hA⟩ := H.out.own.form
  have HCP := Lib.hid hcap
  have HC2 := Lib.hid hcap2
  have HAA := Lib.hid hA
  clear hcap hcap2 hA
  go_enter Try.func35, Try.ntmps35
  go_upto_region 1 with (fail)
  generalize hgi : w.heap.size = gi at *
  have HGI := Lib.hid hgi
  generalize w.alloc (.cells #[.int .i64 id, .int .i64 a] 31) = w1 at *
  have N1 := Lib.hid (H.out.bel (by rw [hgi]; exact HB1.out))
  have i1 : ∀ i, w1.cell? ⟨gi, i, none⟩ = (#[.int .i64 id, .int .i64 a] : Array Value)[i]? := HI1.out.cells
  have c0 : ∀ i, w1.cell? ⟨rg, i, none⟩ = (#[.int .i64 rn, .slice A R.length cap] : Array Value)[i]? := N1.out.blk.cells
  clear hgi
  by_cases b1 : a ≤ rn
  · have d1 : decide (a ≤ rn) = true := by simpa using b1
    go_quiet (fail)
    go_wp2_with fail
    go_ret
    have e1 : er = 30 := by rw [HE.out]; unfold Wh.insE; rw [if_neg (fun h => by have := h.1; simp only at this; omega)]
    have e2 : Wh.insS rn R ⟨id, a⟩ = R := by unfold Wh.insS; rw [← HE.out, e1, if_neg (by decide)]
    rw [e2, e1]
    exact ⟨rfl, RTo.refl H.out (by rw [HGI.out]; exact bel_drewN HB1.out nq)⟩
  have d1 : decide (a ≤ rn) = false := by simpa using b1
  by_cases b2 : 226157759 < a
  · have d2 : decide (226157759 < a) = true := by simpa using b2
    go_quiet (fail)
    go_wp2_with fail
    go_ret
    have e1 : er = 30 := by rw [HE.out]; unfold Wh.insE; rw [if_neg (fun h => by have := h.2.1; simp only at this; omega)]
    have e2 : Wh.insS rn R ⟨id, a⟩ = R := by unfold Wh.insS; rw [← HE.out, e1, if_neg (by decide)]
    rw [e2, e1]
    exact ⟨rfl, RTo.refl H.out (by rw [HGI.out]; exact bel_drewN HB1.out nq)⟩
  have d2 : decide (226157759 < a) = false := by simpa using b2
  have hw : IntKind.i64.wrap (a - rn) = a - rn := IntWalk.i64_in _ (by omega)
  by_cases b3 : 262144 < a - rn
  · have d3 : decide (262144 < a - rn) = true := by simpa using b3
    go_quiet (fail)
    go_wp2_with fail
    go_ret
    have e1 : er = 30 := by rw [HE.out]; unfold Wh.insE; rw [if_neg (fun h => by have := h.2.2; simp only at this; omega)]
    have e2 : Wh.insS rn R ⟨id, a⟩ = R := by unfold Wh.insS; rw [← HE.out, e1, if_neg (by decide)]
    rw [e2, e1]
    exact ⟨rfl, RTo.refl H.out (by rw [HGI.out]; exact bel_drewN HB1.out nq)⟩
  have d3 : decide (262144 < a - rn) = false := by simpa using b3
  have HOK : Hid (Wh.okT rn ⟨id, a⟩) := Lib.hid ⟨by simp only; omega, by simp only; omega, by simp only; omega⟩
  go_quiet (fail)
  go_upto_region 3 with (fail)
  have HS0 : Hid (RIn w R ⟨id, a⟩ 0 (w1.drewN nq)) := Lib.hid ⟨by rw [HGI.out]; exact bel_drewN HB1.out nq, fun j hj => absurd hj (Nat.not_lt_zero _), by rw [HGI.out]; exact HI1.out.drewN nq⟩
  clear N1 i1 c0 d1 d2 d3 hw b1 b2 b3
  generalize w1.drewN nq = w2 at *
  go_wp2_with fail
  go_loopg [5, 6] R.length (fun n v5 v6 W => ∃ (k : Nat), v6 = .int .i64 k ∧ v5 = .int .i64 (Wh.ahead ⟨id, a⟩ (R.take k)) ∧ n + k = R.length ∧ Hid (RIn w R ⟨id, a⟩ k W))
  case atStart => exact ⟨0, rfl, rfl, rfl, HS0⟩
  case round =>
    clear HS0
    obtain ⟨k, rfl, rfl, hnk, HI⟩ := hrel
    have HN := Lib.hid hnk
    have N2 := Lib.hid (H.out.bel HI.out.bel)
    have c0 : ∀ i, wr.cell? ⟨rg, i, none⟩ = (#[.int .i64 rn, .slice A R.length cap] : Array Value)[i]? := N2.out.blk.cells
    have i1 : ∀ i, wr.cell? ⟨gi, i, none⟩ = (#[.int .i64 id, .int .i64 a] : Array Value)[i]? := by
      have := HI.out.box.cells
      rwa [HGI.out] at this
    by_cases hk : k < R.length
    · have hki : (k : Int) < (R.length : Int) := by omega
      obtain ⟨n, rfl⟩ : ∃ n, gk = n + 1 := ⟨gk - 1, by omega⟩
      have hst := Wh.ahead_step (i := ⟨id, a⟩) hs.out hk
      obtain ⟨A', cap', hsl, -, -, hrd, -⟩ := N2.out.own.form
      injection hsl with hA' _ hc'
      subst hA'
      subst hc'
      obtain ⟨b, off, hAe, hbl, e0, e1⟩ := hrd.itm k hk
      obtain ⟨⟨xid, xa⟩, hx⟩ : ∃ x, x = R.getD k default := ⟨_, rfl⟩
      rw [← hx] at e0 e1 hst
      have HST := Lib.hid hst
      have HX := Lib.hid hx
      have HAE := Lib.hid hAe
      have hwk : IntKind.i64.wrap (k : Int) = (k : Int) := IntWalk.i64_in _ (by have := HL.out; omega)
      have HBL := Lib.hid hbl
      clear hst hx hrd hbl hnk hAe
      rw [HAE.out] at c0
      by_cases hxi : xid = id
      · have hb : (xid == id) = true := by simpa using hxi
        have e15 : er = 150 := by
          rw [HE.out]
          unfold Wh.insE
          rw [if_pos HOK.out, if_pos]
          exact List.any_eq_true.2 ⟨⟨xid, xa⟩, by rw [HX.out]; have e : R.getD k default = R[k] := by { simp [List.getD, hk] }; rw [e]; exact List.getElem_mem hk, by simpa using hxi⟩
        have E15 := Lib.hid e15
        clear e15 hxi
        go_wp2_with fail
        go_quiet (fail)
        go_wp2_with fail
        go_ret
        have e2 : Wh.insS rn R ⟨id, a⟩ = R := by unfold Wh.insS; rw [← HE.out, E15.out, if_neg (by decide)]
        rw [e2, E15.out]
        exact ⟨rfl, RTo.refl H.out (bel_drewN HI.out.bel nq)⟩
      · have hb : (xid == id) = false := by simpa using hxi
        have HXI := Lib.hid hxi
        clear hxi
        go_wp2_with fail
        go_quiet (fail)
        go_upto_region 9 with (fail)
        have HBQ := Lib.hid (bel_drewN (Below.refl wr.heap.size wr) nq)
        have c0' : ∀ i, (wr.drewN nq).cell? ⟨rg, i, none⟩ = (#[.int .i64 rn, .slice (some ⟨b, off, none⟩) R.length cap] : Array Value)[i]? := c0
        have i1' : ∀ i, (wr.drewN nq).cell? ⟨gi, i, none⟩ = (#[.int .i64 id, .int .i64 a] : Array Value)[i]? := i1
        have e0' : (wr.drewN nq).cell? ⟨b, off + k * 2, none⟩ = some (.int .i64 xid) := e0
        have e1' : (wr.drewN nq).cell? ⟨b, off + k * 2 + 1, none⟩ = some (.int .i64 xa) := e1
        have z0 := c0' 1
        have z1 := i1' 0
        have z2 := i1' 1
        have HI3 : Hid (Below w.heap.size w (wr.drewN nq)) := Lib.hid (bel_drewN HI.out.bel nq)
        have HB3 : Hid (Blk (wr.drewN nq) w.heap.size 31 #[.int .i64 id, .int .i64 a]) := Lib.hid (HI.out.box.drewN nq)
        have HNO := Lib.hid HI.out.no
        have L0 : Hid (rg < (wr.drewN nq).heap.size) := Lib.hid N2.out.blk.lt
        have L1 : Hid (gi < (wr.drewN nq).heap.size) := Lib.hid (by have := HI.out.box.lt; rw [HGI.out] at this; exact this)
        have L2 : Hid (b < (wr.drewN nq).heap.size) := Lib.hid HBL.out
        have Z0 := Lib.hid z0
        have Z1 := Lib.hid z1
        have Z2 := Lib.hid z2
        have Z3 := Lib.hid e0'
        have Z4 := Lib.hid e1'
        clear c0 i1 e0 e1 c0' i1' N2 HI HBQ
        generalize wr.drewN nq = w3 at *
        go_region_held3 (fun W => W.cell? ⟨rg, 1, none⟩ = some (.slice (some ⟨b, off, none⟩) R.length cap) ∧ W.cell? ⟨gi, 0, none⟩ = some (.int .i64 id) ∧ W.cell? ⟨gi, 1, none⟩ = some (.int .i64 a) ∧ W.cell? ⟨b, off + k * 2, none⟩ = some (.int .i64 xid) ∧ W.cell? ⟨b, off + k * 2 + 1, none⟩ = some (.int .i64 xa)) (go_keep) (first
          | (go_at_call 39; refine (before_calls ⟨xid, xa⟩ ⟨id, a⟩ _).mono ?_; rintro e w4 ⟨rfl, hb4⟩; have HB4 := Lib.hid hb4; have z0 := (hb4.cell (p := ⟨rg, 1, none⟩) L0.out).trans Z0.out; have z1 := (hb4.cell (p := ⟨gi, 0, none⟩) L1.out).trans Z1.out; have z2 := (hb4.cell (p := ⟨gi, 1, none⟩) L1.out).trans Z2.out; have e0' := (hb4.cell (p := ⟨b, off + k * 2, none⟩) L2.out).trans Z3.out; have e1' := (hb4.cell (p := ⟨b, off + k * 2 + 1, none⟩) L2.out).trans Z4.out; clear hb4))
        have HI4 : Hid (RIn w R ⟨id, a⟩ (k + 1) w4) := Lib.hid ⟨bel_tr (bel_drew HI3.out) HB4.out, fun j hj => by
          rcases Nat.lt_succ_iff_lt_or_eq.1 hj with h | rfl
          · exact HNO.out j h
          · rw [← HX.out]; exact HXI.out, (show Blk w3.drew w.heap.size 31 #[.int .i64 id, .int .i64 a] from HB3.out).bel HB4.out⟩
        clear HB4 HI3 HB3 HNO z0 z1 z2 e0' e1'
        have hk2 : (k : Int) + 1 ≤ 9223372036854775807 := (by have := HL.out; omega)
        clear hwk
        by_cases hbf : Wh.before ⟨xid, xa⟩ ⟨id, a⟩
        · rw [decide_eq_true hbf]
          have hst := HST.out
          rw [if_pos hbf] at hst
          have HST2 := Lib.hid hst
          clear hst hbf
          go_wp2_with fail
          go_roundg n
          case rel => exact ⟨k + 1, by go_num, by rw [HST2.out]; go_num, by have := HN.out; omega, HI4⟩
          case measure => omega
        · rw [decide_eq_false hbf]
          have hst := HST.out
          rw [if_neg hbf] at hst
          have HST2 := Lib.hid hst
          clear hst hbf
          go_wp2_with fail
          go_roundg n
          case rel => exact ⟨k + 1, by go_num, by rw [HST2.out], by have := HN.out; omega, HI4⟩
          case measure => omega
    · have hki : ¬ (k : Int) < (R.length : Int) := by omega
      have hke : k = R.length := by omega
      subst hke
      have HAS := Lib.hid (Wh.ins_split (i := ⟨id, a⟩) hs.out)
      have hal := Wh.ahead_le ⟨id, a⟩ R
      rw [List.take_length]
      generalize Wh.ahead ⟨id, a⟩ R = at_ at *
      have HID : Hid (Wh.hasId R id = false) := Lib.hid (List.any_eq_false.2 fun x hx => by
        obtain ⟨j, hj, e⟩ := List.mem_iff_getElem.1 hx
        have := HI.out.no j hj
        have e2 : R.getD j default = R[j] := by simp [List.getD, hj]
        rw [e2, e] at this
        simpa using this)
      clear hnk hk HN
      by_cases b4 : 4096 ≤ R.length
      · have b4i : (4096 : Int) ≤ (R.length : Int) := by omega
        have e3 : er = 3 := by
          rw [HE.out]
          unfold Wh.insE
          rw [if_pos HOK.out, HID.out, if_neg (by decide), if_pos b4]
        have E3 := Lib.hid e3
        clear e3 b4
        go_wp2_with fail
        go_ret
        have e2 : Wh.insS rn R ⟨id, a⟩ = R := by unfold Wh.insS; rw [← HE.out, E3.out, if_neg (by decide)]
        rw [e2, E3.out]
        exact ⟨rfl, RTo.refl H.out HI.out.bel⟩
      · have b4i : ¬ (4096 : Int) ≤ (R.length : Int) := by omega
        have e0 : er = 0 := by
          rw [HE.out]
          unfold Wh.insE
          rw [if_pos HOK.out, HID.out, if_neg (by decide), if_neg b4]
        have E0 := Lib.hid e0
        have HRS : Hid (Wh.insS rn R ⟨id, a⟩ = R.take at_ ++ ⟨id, a⟩ :: R.drop at_) := Lib.hid (by
          unfold Wh.insS
          rw [← HE.out, e0, if_pos rfl, HAS.out])
        have HAL := Lib.hid hal
        clear e0 b4 hal
        go_upto_region 13 with (fail)
        have HLIT := Lib.hid (OwnL.lit (L := layW) (e := 31) wr wr.heap.size (Nat.le_refl _) [] (by simp) #[] rfl)
        have HRD : Hid (RdL layW (wr.alloc (.cells #[] 31)) A R) := Lib.hid (by
          have h3 := N2.out.own.kept (bel_new (Below.refl wr.heap.size wr) (.cells #[] 31))
          obtain ⟨A', cap', hsl, -, -, hrd, -⟩ := h3.form
          injection hsl with hA' _ _
          subst hA'
          exact hrd)
        have c1 : ∀ i, (wr.alloc (.cells #[] 31)).cell? ⟨rg, i, none⟩ = (#[.int .i64 rn, .slice A R.length cap] : Array Value)[i]? := (N2.out.blk.alloc _).cells
        have hA3 : ∀ b off sp, A = some ⟨b, off, sp⟩ → sp = none := fun b off sp e => (HAA.out b off sp e).2.2
        have HA3 := Lib.hid hA3
        have hm1 : ([] : List Itm).length + (R.drop at_).length ≤ maxLen := by have := HL.out; unfold maxLen; simp; omega
        have hm2 : (([] : List Itm).length + (R.drop at_).length) * 16 ≤ 140737488355328 := by have := HL.out; simp; omega
        have hbn := Lib.hid (bel_new (Below.refl wr.heap.size wr) (.cells #[] 31))
        clear hA3
        go_upto_region 14 with (first
          | (refine wpList_from (L := layW) (t := 22) (e := 31) Try.underlying22 (by kernel_rfl) infoW rfl (.tmp 71) (.tmp 72) rfl A R.length cap R rfl at_ rfl rfl HAL.out HCP.out HRD.out HA3.out ?_; intro A2 hA2; have HA2 := Lib.hid hA2; clear hA2)
          | (at_builtin; refine wpList_appO (L := layW) 22 _ 16 Try.underlying22 infoW rfl rfl (.tmp 67) (.tmp 73) rfl wr.heap.size _ [] rfl HLIT.out A2 (R.length - at_) (cap - at_) (R.drop at_) rfl (by simp) HA2.out hm1 hm2 (by simp) ?_; intro v1 w5 ho1 hg1 h31; have hb5 := Lib.hid (OwnL.grown HLIT.out hbn.out (by simp) hg1); rw [List.nil_append] at ho1; obtain ⟨A4, cp4, rfl, -, -, hr4, hl4⟩ := ho1.form; have HR4 := Lib.hid hr4; have HL4 := Lib.hid hl4; clear ho1 hg1 h31 hr4 hl4))
        have HB5 := Lib.hid (bel_tr HI.out.bel hb5.out)
        have HK5 := Lib.hid (HI.out.box.bel hb5.out)
        have N5 := Lib.hid (N2.out.bel hb5.out)
        have HSZ5 := Lib.hid hb5.out.size
        have HFR : Hid (∀ b, b = rg ∨ (Value.slice A R.length cap).ownBlock = some b → b < wr.heap.size) := Lib.hid (fun b hb => by
          rcases hb with rfl | e
          · exact N2.out.blk.lt
          · exact N2.out.own.lt2 b e)
        clear c1 hb5 hbn HRD HLIT HA2 N2 HI c0 i1 hm1 hm2
        have HOC := Lib.hid (N5.out.own.cut0 HAL.out)
        have c0 : w5.cell? ⟨rg, 1, none⟩ = some (.slice A R.length cap) := N5.out.blk.cells 1
        have f0 : w5.frozen? ⟨rg, 1, none⟩ = false := N5.out.blk.free 1
        have i1 : ∀ i, w5.cell? ⟨gi, i, none⟩ = (#[.int .i64 id, .int .i64 a] : Array Value)[i]? := by
          have := HK5.out.cells
          rwa [HGI.out] at this
        have hrl : rg < w5.heap.size := N5.out.blk.lt
        have hgl : gi < w5.heap.size := by have := HK5.out.lt; rw [HGI.out] at this; exact this
        have hac : (at_ : Int) ≤ (cap : Int) := by have := HAL.out; have := HCP.out; omega
        have har : (at_ : Int) ≤ (R.length : Int) := by have := HAL.out; omega
        have hm1 : (R.take at_).length + [(⟨id, a⟩ : Itm)].length ≤ maxLen := by have := HL.out; unfold maxLen; simp; omega
        have hm2 : ((R.take at_).length + [(⟨id, a⟩ : Itm)].length) * 16 ≤ 140737488355328 := by have := HL.out; simp; omega
        have hbs : base ≤ w5.heap.size := by have := N5.out.lo; omega
        have HBS := Lib.hid hbs
        have HM1 := Lib.hid hm1
        have HM2 := Lib.hid hm2
        clear hm1 hm2 hbs
        go_region_law (first
          | (refine step_to (L := layW) (t := 22) (e := 31) Try.underlying22 (by kernel_rfl) infoW rfl (.tmp 79) (.tmp 80) rfl A R.length cap rfl at_ rfl (by have := HAL.out; have := HCP.out; omega) HA3.out ?_)
          | (refine step_appAt 22 _ 16 Try.underlying22 infoW rfl rfl (.tmp 81) (.tmp 83) rfl base (.slice A at_ cap) (R.take at_) rfl (HOC.out.kept (bel_drew (bel_new (Below.refl _ w5) (.cells #[.int .i64 id, .int .i64 a] 31)))) ⟨w5.heap.size, 0, none⟩ 1 1 [⟨id, a⟩] rfl rfl (rdL_lit w5 _ _ (by simp [maxLen]) _ rfl) HM1.out HM2.out (by have := HBS.out; simp; omega) ?_
             intro v6 w6 ho6 hg6 h36
             obtain ⟨X, hX⟩ : ∃ X, X = R.take at_ ++ [(⟨id, a⟩ : Itm)] := ⟨_, rfl⟩
             rw [← hX] at ho6
             have HXX := Lib.hid hX
             clear hX
             obtain ⟨A6, cp6, rfl, -, -, -, -⟩ := ho6.form
             have hbn := bel_drew (bel_new (Below.refl w5.heap.size w5) (.cells #[.int .i64 id, .int .i64 a] 31))
             have HPT := Lib.hid ((N5.out.bel hbn).put ho6 (.grown (by rwa [ownB A at_ R.length cap cap] at hg6)) (fun b e => by rw [ownB A at_ R.length cap cap] at h36; rcases h36 with h | h; exact .inl (by rw [← e, h]); exact .inr (by rw [h] at e; injection e with e; omega)))
             have hbl := ((N5.out.bel hbn).blk.turn (.grown (by rwa [ownB A at_ R.length cap cap] at hg6)) (fun e => N5.out.ne rg e rfl))
             have cr6 : w6.cell? ⟨rg, 1, none⟩ = some (.slice A R.length cap) := hbl.cells 1
             have fr6 : w6.frozen? ⟨rg, 1, none⟩ = false := hbl.free 1
             have HZ6 : Hid (∀ b, (Value.slice A6 X.length cp6).ownBlock = some b → (Value.slice A R.length cap).ownBlock = some b ∨ w5.heap.size ≤ b) := Lib.hid (fun b e => by rw [ownB A at_ R.length cap cap] at h36; rcases h36 with h | h; exact .inl (by rw [← e, h]); exact .inr (by rw [h] at e; injection e with e; subst e; exact hbn.size))
             have HTB : Hid (Turn (fun _ => False) w5 (w5.alloc (.cells #[.int .i64 id, .int .i64 a] 31)).drew) := Lib.hid (.bel hbn)
             have HR6 := Lib.hid (HR4.out.bel hbn)
             clear hbn ho6 hg6 h36 hbl))
        all_goals
          go_upto_region 15 with (fail)
          have HF4 : Hid (∀ b off, A4 = some ⟨b, off, none⟩ → ¬ (b = rg ∨ (Value.slice A R.length cap).ownBlock = some b)) := Lib.hid (fun b off e h => by
            have h1 := (HL4.out b off none e).1
            have h2 := HFR.out b h
            omega)
          clear cr6 fr6 c0 f0 i1 hrl hgl
          have HR7 := Lib.hid (HR6.out.turn HPT.out.2 HF4.out)
          have HT7 : Hid (Turn (fun b => b = rg ∨ (Value.slice A R.length cap).ownBlock = some b) w (w6.setCell ⟨rg, 1, none⟩ (.slice A6 X.length cp6))) := Lib.hid (((Turn.bel HB5.out).trans HTB.out (fun b e => e.elim)).trans HPT.out.2 (fun b e => .inl e))
          have HZ7 : Hid (∀ b, (Value.slice A6 X.length cp6).ownBlock = some b → (Value.slice A R.length cap).ownBlock = some b ∨ w.heap.size ≤ b) := Lib.hid (fun b e => (HZ6.out b e).imp (fun h => h) (Nat.le_trans HB5.out.size))
          have HP7 := Lib.hid HPT.out.1
          clear HPT HR6 HTB HR4
          generalize w6.setCell ⟨rg, 1, none⟩ (.slice A6 X.length cp6) = w7 at *
          have c0 : w7.cell? ⟨rg, 1, none⟩ = some (.slice A6 X.length cp6) := HP7.out.blk.cells 1
          have f0 : w7.frozen? ⟨rg, 1, none⟩ = false := HP7.out.blk.free 1
          have hXl : X.length ≤ 4097 := by rw [HXX.out]; have := HL.out; simp; omega
          have HM7 : Hid (X.length + (R.drop at_).length ≤ maxLen) := Lib.hid (by have := HL.out; unfold maxLen; simp; omega)
          have HN7 : Hid ((X.length + (R.drop at_).length) * 16 ≤ 140737488355328) := Lib.hid (by have := HL.out; simp; omega)
          have HB7 : Hid (base ≤ w7.heap.size) := Lib.hid (by have := HP7.out.lo; have := HP7.out.blk.lt; omega)
          clear hXl
          go_wp2_with (at_builtin; refine wpList_appO (L := layW) 22 _ 16 Try.underlying22 infoW rfl rfl (.tmp 91) (.tmp 92) rfl base (.slice A6 X.length cp6) X rfl HP7.out.own A4 (R.length - at_) cp4 (R.drop at_) rfl (by simp) HR7.out HM7.out HN7.out HB7.out ?_; intro v8 w8 ho8 hg8 h38; obtain ⟨Y, hY⟩ : ∃ Y, Y = X ++ R.drop at_ := ⟨_, rfl⟩; rw [← hY] at ho8; have HYY := Lib.hid hY; clear hY; obtain ⟨A8, cp8, rfl, -, -, -, -⟩ := ho8.form; have HP8 := Lib.hid (HP7.out.put ho8 (.grown hg8) (fun b e => by rcases h38 with h | h; exact .inl (by rw [← e, h]); exact .inr (by rw [h] at e; injection e with e; omega))); have HZ8 : Hid (∀ b, (Value.slice A8 Y.length cp8).ownBlock = some b → (Value.slice A6 X.length cp6).ownBlock = some b ∨ w7.heap.size ≤ b) := Lib.hid (fun b e => by rcases h38 with h | h; exact .inl (by rw [← e, h]); exact .inr (by rw [h] at e; injection e with e; omega)); have hbl := HP7.out.blk.turn (.grown hg8) (fun e => HP7.out.ne rg e rfl); have c0 : w8.cell? ⟨rg, 1, none⟩ = some (.slice A6 X.length cp6) := hbl.cells 1; have f0 : w8.frozen? ⟨rg, 1, none⟩ = false := hbl.free 1; clear ho8 hg8 h38 hbl)
          go_ret
          have hY : Wh.insS rn R ⟨id, a⟩ = Y := by rw [HRS.out, HYY.out, HXX.out]; simp
          rw [hY, E0.out]
          refine ⟨rfl, .slice A8 Y.length cp8, HP8.out.1, HT7.out.trans HP8.out.2 (fun b e => ?_), fun b e => ?_⟩
          · rcases e with e | e
            · exact .inl (.inl e)
            · exact (HZ7.out b e).imp (fun h => .inr h) (fun h => h)
          · rcases HZ8.out b e with e | e
            · exact HZ7.out b e
            · exact .inr (Nat.le_trans HT7.out.size e)
end Go.Proofs.Ytheocdfccdpmbaa
