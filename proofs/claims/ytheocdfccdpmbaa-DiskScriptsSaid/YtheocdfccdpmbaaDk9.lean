/-
  The law's helpers on disks: one step of a script, two lists of names; a script as an argument; bytes as a string.
  Conditions: stated lemma by lemma.
-/
import Derived.Test.YtheocdfccdpmbaaDk8
import Derived.Test.YtheocdfccdpmbaaOpen
namespace Go.Proofs.Ytheocdfccdpmbaa
open Go.ChangeShapes Go.WideShapes Go.ChangeAt Go.RowKit Go.Deep Go.Maps
set_option linter.unusedVariables false
set_option linter.unusedSimpArgs false
set_option maxHeartbeats 8000000

theorem convB {w : World} {A : Option Addr} {xs : List UInt8} (h : RdL layB w A xs) (c : Nat) : (convert 47 9 (.slice A xs.length c)).run Try.prog w = .ok (.string (Dk.mkB xs)) w := by
  rcases Nat.eq_zero_or_pos xs.length with h0 | h0
  · have hx : xs = [] := List.eq_nil_of_length_eq_zero h0
    subst hx
    rcases A with _ | ⟨b, off, spot⟩
    · exact run_convert_bytes_nil (P := Try.prog) w 47 5 Try.underlying47 Try.underlying5 0 c 9 Try.underlying9
    · exact run_convert_bytes_back w 47 9 5 _ c [] Try.underlying47 Try.underlying5 Try.underlying9 (fun j hj => absurd hj (Nat.not_lt_zero _))
  · obtain ⟨b, off, rfl, _, _⟩ := h 0 h0
    refine run_convert_bytes_back w 47 9 5 _ c xs Try.underlying47 Try.underlying5 Try.underlying9 (fun j hj => ?_)
    refine h.cells j _ ?_
    have h1 := layB.flat_get xs j 0 hj (by decide)
    have hk : layB.k = 1 := rfl
    rw [hk, Nat.mul_one, Nat.add_zero] at h1
    rw [h1]
    simp [layB, List.getD, hj]
theorem RdL.nm {w : World} {A : Option Addr} {xs : List ByteArray} (h : RdL layN w A xs) (i : Nat) (hi : i < xs.length) : ∃ b off, A = some ⟨b, off, none⟩ ∧ b < w.heap.size ∧ w.cell? ⟨b, off + i, none⟩ = some (.string (xs.getD i default)) := by
  obtain ⟨b, off, e, hb, hc⟩ := h i hi
  have := hc 0 _ rfl
  exact ⟨b, off, e, hb, by simpa [layN] using this⟩
theorem texts_calls (A B : Option Addr) (c d : Nat) (xs ys : List ByteArray) (w : World) (hA : Hid (RdL layN w A xs)) (hB : Hid (RdL layN w B ys)) (hl : xs.length ≤ 1000000) (hl2 : ys.length ≤ 1000000) :
    Calls Try.prog 31 #[.slice A xs.length c, .slice B ys.length d] w fun e w' => e = .returned (.bool (decide (xs = ys))) ∧ Below w.heap.size w w' := by
  have HB0 := Lib.hid (Below.refl w.heap.size w)
  obtain ⟨r, hr⟩ : ∃ r, r = decide (xs = ys) := ⟨_, rfl⟩
  rw [← hr]
  have HR := Lib.hid hr
  clear hr
  by_cases hlen : xs.length = ys.length
  · have hb : ((xs.length : Int) != (ys.length : Int)) = false := by rw [hlen]; simp
    have HLN := Lib.hid hlen
    have HL := Lib.hid (And.intro hl hl2)
    clear hlen hl hl2
    go_enter Try.func31, Try.ntmps31
    go_wp2_with fail
    go_loopg [5] xs.length (fun n v5 W => ∃ m : Nat, v5 = .int .i64 m ∧ n + m = xs.length ∧ Hid (Below w.heap.size w W) ∧ Hid (∀ j, j < m → xs.getD j default = ys.getD j default))
    case atStart => exact ⟨0, rfl, rfl, HB0, Lib.hid (fun j hj => by omega)⟩
    case round =>
      clear HB0
      obtain ⟨m, rfl, hm, HI, HE⟩ := hrel
      have HM := Lib.hid hm
      clear hm
      by_cases hml : m < xs.length
      · have hmi : (m : Int) < (xs.length : Int) := by omega
        have hmy : (m : Int) < (ys.length : Int) := by have := HLN.out; omega
        obtain ⟨ab, ao, hAe, -, ac⟩ := (hA.out.bel HI.out).nm m hml
        obtain ⟨bb, bo, hBe, -, bc⟩ := (hB.out.bel HI.out).nm m (by have := HLN.out; omega)
        have hwm : IntKind.i64.wrap (m : Int) = (m : Int) := IntWalk.i64_in _ (by have := HL.out; omega)
        have hm1 : (m : Int) + 1 ≤ 9223372036854775807 := by have := HL.out; omega
        obtain ⟨x, hx⟩ : ∃ x, x = xs.getD m default := ⟨_, rfl⟩
        obtain ⟨y, hy⟩ : ∃ y, y = ys.getD m default := ⟨_, rfl⟩
        rw [← hx] at ac
        rw [← hy] at bc
        have HX := Lib.hid hx
        have HY := Lib.hid hy
        clear hx hy
        subst hAe
        subst hBe
        have HG : Hid (0 < gk) := Lib.hid (by have := HM.out; omega)
        by_cases c : x = y
        · subst c
          have HN : Hid (∀ j, j < m + 1 → xs.getD j default = ys.getD j default) := Lib.hid (fun j hj => by
            rcases Nat.lt_or_ge j m with h | h
            · exact HE.out j h
            · rw [show j = m from by omega, ← HX.out, ← HY.out])
          have hne : (x.toList != x.toList) = false := by simp
          go_wp2_with fail
          go_quiet (fail)
          go_wp2_with fail
          have HIn := Lib.hid (bel_drewN HI.out nq)
          go_roundg (gk - 1)
          case rel => exact ⟨m + 1, by go_num, by have := HM.out; have := HG.out; omega, HIn, HN⟩
          case measure => have := HG.out; omega
        · have HF : Hid (r = false) := Lib.hid (by
            rw [HR.out, decide_eq_false]
            intro e
            apply c
            rw [HX.out, HY.out, e])
          have hne : (x.toList != y.toList) = true := by rw [bne, toList_ne c]; rfl
          have hne2 : (x.toList == y.toList) = false := toList_ne c
          clear c
          go_wp2_with fail
          go_quiet (fail)
          go_wp2_with fail
          go_ret
          exact ⟨ret_bool HF.out.symm, bel_drewN HI.out _⟩
      · have hmi : ¬ (m : Int) < (xs.length : Int) := by omega
        have HF : Hid (r = true) := Lib.hid (by
          rw [HR.out, decide_eq_true]
          apply List.ext_getElem HLN.out
          intro i h1 h2
          have := HE.out i (by have := HM.out; omega)
          simpa [List.getD, h1, h2] using this)
        go_wp2_with fail
        go_ret
        exact ⟨ret_bool HF.out.symm, HI.out⟩
  · have hb : ((xs.length : Int) != (ys.length : Int)) = true := by rw [bne_iff_ne]; omega
    have HF : Hid (r = false) := Lib.hid (by
      rw [HR.out, decide_eq_false]
      intro e
      exact hlen (by rw [e]))
    clear hlen
    go_enter Try.func31, Try.ntmps31
    go_wp2_with fail
    go_ret
    exact ⟨ret_bool HF.out.symm, HB0.out⟩
/-- a step of a script -/
structure DoG where
  kd : Int
  nm : ByteArray
  A : Option Addr
  c : Nat
  b : List UInt8
  kp : Int
  tn : Int
instance : Inhabited DoG := ⟨⟨0, ByteArray.empty, none, 0, [], 0, 0⟩⟩
def DoG.cells (d : DoG) : List Value := [.int .i64 d.kd, .string d.nm, .slice d.A d.b.length d.c, .int .i64 d.kp, .int .i64 d.tn]
abbrev DoG.v (d : DoG) : Value := .agg #[.int .i64 d.kd, .string d.nm, .slice d.A d.b.length d.c, .int .i64 d.kp, .int .i64 d.tn]
def layDo : Lay DoG := ⟨5, DoG.cells, fun _ => rfl, by decide, fun x u hu => by
  simp only [DoG.cells, List.mem_cons, List.not_mem_nil, or_false] at hu
  rcases hu with rfl | rfl | rfl | rfl | rfl <;> rfl⟩
structure DoG.Ok (w : World) (d : DoG) : Prop where
  rd : RdL layB w d.A d.b
  bl : d.b.length ≤ 140737488355328
  bc : d.b.length ≤ d.c
  nl : d.nm.size ≤ 140737488355328
theorem DoG.Ok.bel {w w' : World} {d : DoG} (h : d.Ok w) (hb : Below w.heap.size w w') : d.Ok w' := { h with rd := h.rd.bel hb }
theorem DoG.Ok.nm2 {w : World} {d : DoG} (h : d.Ok w) : d.nm.size ≤ maxLen := by have := h.nl; unfold maxLen; omega
namespace DkG
def does (S : DkG) (d : DoG) : DkG := if d.kd = 0 then S.app d.nm d.b else if d.kd = 1 then S.sync d.nm else if d.kd = 2 then S.rem d.nm else S.crash d.kp d.tn
def doE (S : DkG) (d : DoG) : Int := if d.kd = 0 then S.appE d.nm d.b.length else if d.kd = 1 then Dk.thereE S.F d.nm else if d.kd = 2 then Dk.thereE S.F d.nm else 0
theorem uns_does (S : DkG) (d : DoG) : (S.does d).uns ≤ S.uns + 1 := by
  unfold does
  by_cases c0 : d.kd = 0
  · rw [if_pos c0]; exact uns_app _ _ _
  · rw [if_neg c0]
    by_cases c1 : d.kd = 1
    · rw [if_pos c1]; have := uns_sync S d.nm; omega
    · rw [if_neg c1]
      by_cases c2 : d.kd = 2
      · rw [if_pos c2]; have := uns_rem S d.nm; omega
      · rw [if_neg c2, uns_crash]; omega
end DkG
theorem does_g {w0 w : World} {g : Nat} {S : DkG} {l : List Thing} (H : Hid (Sp w0 (dkT g S :: l) w)) (d : DoG) (hd : Hid (d.Ok w)) (hu : S.uns ≤ 900000) :
    Calls Try.prog 26 #[.pointer (some ⟨g, 0, none⟩), d.v] w fun e w' => e = .returned (.int .i64 (S.doE d)) ∧ Sp w0 (dkT g (S.does d) :: l) w' := by
  have HU := Lib.hid hu
  clear hu
  obtain ⟨kd, nm, A, c, b, kp, tn⟩ := d
  have HB1 := Lib.hid (bel_new (Below.refl w.heap.size w) (.cells #[.int .i64 kd, .string nm, .slice A b.length c, .int .i64 kp, .int .i64 tn] 49))
  have HK1 := Lib.hid (Blk.new w 49 #[.int .i64 kd, .string nm, .slice A b.length c, .int .i64 kp, .int .i64 tn])
  have H1 := Lib.hid (H.out.keep HB1.out)
  have HD1 := Lib.hid (hd.out.bel HB1.out)
  obtain ⟨er, her⟩ : ∃ er, er = S.doE ⟨kd, nm, A, c, b, kp, tn⟩ := ⟨_, rfl⟩
  obtain ⟨S2, hS2⟩ : ∃ S2, S2 = S.does ⟨kd, nm, A, c, b, kp, tn⟩ := ⟨_, rfl⟩
  rw [← her, ← hS2]
  unfold DkG.does at hS2
  unfold DkG.doE at her
  simp only at hS2 her
  have HER := Lib.hid her
  have HS2 := Lib.hid hS2
  clear her hS2
  have hbl := HD1.out.bl
  have hnl := HD1.out.nl
  simp only at hbl hnl
  have HBN := Lib.hid (And.intro hbl hnl)
  clear hbl hnl
  go_enter Try.func26, Try.ntmps26
  go_upto_region 1 with (fail)
  have k1 : ∀ i, (w.alloc (.cells #[.int .i64 kd, .string nm, .slice A b.length c, .int .i64 kp, .int .i64 tn] 49)).cell? ⟨w.heap.size, i, none⟩ = (#[.int .i64 kd, .string nm, .slice A b.length c, .int .i64 kp, .int .i64 tn] : Array Value)[i]? := HK1.out.cells
  clear HK1 HB1
  generalize w.heap.size = gz at *
  generalize w.alloc (.cells #[.int .i64 kd, .string nm, .slice A b.length c, .int .i64 kp, .int .i64 tn] 49) = w1 at *
  by_cases c0 : kd = 0
  · subst c0
    go_wp2_with fail
    refine (append_g H1 nm (by have := HBN.out; omega) A c b (Lib.hid HD1.out.rd) (by have := HBN.out; omega) (by have := HU.out; omega)).mono ?_
    rintro e w2 ⟨rfl, h2⟩
    have H2 := Lib.hid h2
    clear h2
    go_wp2_with fail
    go_ret
    rw [HER.out, HS2.out]
    exact ⟨rfl, H2.out⟩
  · have b0 : (kd == 0) = false := by simpa using c0
    have HER1 := Lib.hid (HER.out.trans (if_neg c0))
    have HS21 := Lib.hid (HS2.out.trans (if_neg c0))
    clear HER HS2
    by_cases c1 : kd = 1
    · subst c1
      clear c0
      go_wp2_with fail
      refine (sync_g H1 nm HD1.out.nm2 (by have := HU.out; omega)).mono ?_
      rintro e w2 ⟨rfl, h2⟩
      have H2 := Lib.hid h2
      clear h2
      go_wp2_with fail
      go_ret
      rw [HER1.out, HS21.out]
      exact ⟨rfl, H2.out⟩
    · have b1 : (kd == 1) = false := by simpa using c1
      have HER2 := Lib.hid (HER1.out.trans (if_neg c1))
      have HS22 := Lib.hid (HS21.out.trans (if_neg c1))
      clear HER1 HS21
      by_cases c2 : kd = 2
      · subst c2
        clear c0 c1
        go_wp2_with fail
        refine (remove_g H1 nm HD1.out.nm2 (by have := HU.out; omega)).mono ?_
        rintro e w2 ⟨rfl, h2⟩
        have H2 := Lib.hid h2
        clear h2
        go_wp2_with fail
        go_ret
        rw [HER2.out, HS22.out]
        exact ⟨rfl, H2.out⟩
      · have b2 : (kd == 2) = false := by simpa using c2
        have HER3 := Lib.hid (HER2.out.trans (if_neg c2))
        have HS23 := Lib.hid (HS22.out.trans (if_neg c2))
        clear HER2 HS22
        clear c0 c1 c2
        go_wp2_with fail
        refine (crash_g H1 (by have := HU.out; omega) kp tn).mono ?_
        rintro e w2 ⟨rfl, h2⟩
        have H2 := Lib.hid h2
        clear h2
        go_wp2_with fail
        go_ret
        rw [HER3.out, HS23.out]
        exact ⟨rfl, H2.out⟩
section
variable {H : Type} {enc : TypeId × Value → H} {w : World} {base : Nat} {held : Bool}
/-- elements that are read one by one -/
theorem rdL_of {α : Type} [Inhabited α] {L : Lay α} {A : Option Addr} {len cap : Nat} (hlc : len ≤ cap) {G : α → Prop}
    (hx : ∀ i, i < cap → ∃ x : α, G x ∧ ∃ b off, A = some ⟨b, off, none⟩ ∧ b < w.heap.size ∧ ∀ r u, (L.cells x)[r]? = some u → w.cell? ⟨b, off + i * L.k + r, none⟩ = some u) :
    ∃ xs : List α, xs.length = len ∧ RdL L w A xs ∧ ∀ i, i < xs.length → G (xs.getD i default) := by
  have e0 : ∀ i, i < len → ((List.range len).map fun i => if hi : i < cap then (hx i hi).choose else default).getD i default = if hi : i < cap then (hx i hi).choose else default := fun i hi => by
    simp [List.getD, hi]
  refine ⟨(List.range len).map fun i => if hi : i < cap then (hx i hi).choose else default, by simp, fun i hi => ?_, fun i hi => ?_⟩
  · have hi' : i < len := by simpa using hi
    obtain ⟨_, b, off, e, hb, hc⟩ := (hx i (by omega)).choose_spec
    rw [e0 i hi', dif_pos (show i < cap by omega)]
    exact ⟨b, off, e, hb, hc⟩
  · have hi' : i < len := by simpa using hi
    rw [e0 i hi', dif_pos (show i < cap by omega)]
    exact (hx i (by omega)).choose_spec.1
theorem at_list {w : World} {b n : Nat} {vs : List Value} (hc : ∀ j v, vs[j]? = some v → w.cell? ⟨b, n + j, none⟩ = some v) {l : List Value} (hl : l = vs) : ∀ r u, l[r]? = some u → w.cell? ⟨b, n + r, none⟩ = some u := fun r u hu => hc r u (by rw [← hl]; exact hu)
set_option maxRecDepth 100000 in
theorem leaf_bytes {ts : List TypeId} {vs : List Value} (h : Leaf enc Try.prog w base (fun _ => true) held (47 :: ts) vs) :
    ∃ A xs cap vs', vs = .slice A (List.length xs) cap :: vs' ∧ List.length xs ≤ cap ∧ cap ≤ 140737488355328 ∧ RdL layB w A xs ∧ Leaf enc Try.prog w base (fun _ => true) held ts vs' := by
  cases vs with
  | nil => simp [Leaf] at h
  | cons v vs =>
    obtain ⟨⟨m, y, hy, hw'⟩, hr⟩ := h
    obtain ⟨A, len, cap, e1, h1, _, h2, h4⟩ := open_elems (n := 1) (ts := [5]) Try.underlying47 (by kernel_rfl) (by kernel_rfl) (by simp) hy hw'
    injection e1 with e1
    subst e1
    obtain ⟨xs, rfl, hR, -⟩ := rdL_of (L := layB) (w := w) (A := A) h1 (G := fun _ => True) (fun i hi => by
      obtain ⟨b, off, vs, rfl, hb, _, hc, hl⟩ := h4 i hi
      obtain ⟨n, vs', rfl, hn, hl⟩ := leaf_int Try.underlying5 hl
      obtain rfl := leaf_nil hl
      have hr : 0 ≤ n ∧ n ≤ 255 := by have := hn; simp [Lit.wf, IntKind.min, IntKind.max, IntKind.signed, IntKind.bits] at this; omega
      refine ⟨UInt8.ofNat n.toNat, trivial, b, off, rfl, hb, at_list hc ?_⟩
      have : ((UInt8.ofNat n.toNat).toNat : Int) = n := by
        rw [UInt8.toNat_ofNat']
        omega
      simp only [layB, this])
    exact ⟨A, xs, cap, vs, rfl, h1, by rw [show Try.prog.bytesOf 5 = 1 from by kernel_rfl] at h2; unfold reachBytes at h2; omega, hR, hr⟩
set_option maxRecDepth 100000 in
/-- a script as an argument -/
theorem script_arg {b0 : Nat} {v : Value} {d : DataW H} {p : List MemPlace}
    (hv : Value.okWide Try.prog w .any b0 39 v) (h : DataW.Trod enc Try.prog w base (fun _ => true) held 39 v d p) (hw : (d.weights Try.prog 39).all (· ≤ reachBytes) = true) :
    ∃ A xs cap, v = .slice A (List.length xs) cap ∧ List.length xs ≤ cap ∧ cap ≤ 20000000000000 ∧ RdL layDo w A xs ∧ ∀ i, i < xs.length → (xs.getD i default).Ok w := by
  obtain ⟨A, len, cap, rfl, h1, _, h2, h4⟩ := open_arg_slice (n := 3) (ts := [3, 9, 47, 3, 3]) Try.underlying39 (by kernel_rfl) (by kernel_rfl) (by simp) hv h hw
  obtain ⟨xs, rfl, hR, hG⟩ := rdL_of (L := layDo) (w := w) (A := A) h1 (G := fun d => d.Ok w) (fun i hi => by
    obtain ⟨b, off, vs, rfl, hb, _, hc, hl⟩ := h4 i hi
    obtain ⟨kd, vs, rfl, _, hl⟩ := leaf_int Try.underlying3 hl
    obtain ⟨nm, vs, rfl, _, hs, hl⟩ := leaf_string Try.underlying9 hl
    obtain ⟨B, bs, bc, vs, rfl, e1, e2, e3, hl⟩ := leaf_bytes hl
    obtain ⟨kp, vs, rfl, _, hl⟩ := leaf_int Try.underlying3 hl
    obtain ⟨tn, vs, rfl, _, hl⟩ := leaf_int Try.underlying3 hl
    obtain rfl := leaf_nil hl
    exact ⟨⟨kd, nm, B, bc, bs, kp, tn⟩, ⟨e3, by show bs.length ≤ _; omega, e1, by unfold reachBytes at hs; show nm.size ≤ _; omega⟩, b, off, rfl, hb, at_list hc rfl⟩)
  exact ⟨A, xs, cap, rfl, h1, by rw [show Try.prog.bytesOf 49 = 64 from by kernel_rfl] at h2; unfold reachBytes at h2; omega, hR, hG⟩
end
end Go.Proofs.Ytheocdfccdpmbaa
