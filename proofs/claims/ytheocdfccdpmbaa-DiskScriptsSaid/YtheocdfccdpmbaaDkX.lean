/-
  Contract of the document's disk: bytes behind a file's.
  Conditions: stated lemma by lemma.
-/
import Derived.Test.YtheocdfccdpmbaaDkW
import Derived.Deep.DeepCutAuto
namespace Go.Proofs.Ytheocdfccdpmbaa
open Go.RowKit Go.Maps
set_option linter.unusedVariables false
set_option linter.unusedSimpArgs false
set_option maxHeartbeats 8000000

def ltN (a b : ByteArray) : Prop := a.data.toList < b.data.toList
theorem less_lists : ∀ (x y : List UInt8), Op.bytesLess x y = decide (x < y)
  | [], [] => by simp [Op.bytesLess]
  | _ :: _, [] => by simp [Op.bytesLess]
  | [], _ :: _ => by simp [Op.bytesLess]
  | a :: x, b :: y => by
    rw [Op.bytesLess, less_lists x y]
    simp only [List.cons_lt_cons_iff]
    by_cases h1 : a < b <;> by_cases h2 : a = b <;> by_cases h3 : x < y <;> simp [h1, h2, h3]
theorem less_t {a b : ByteArray} (h : ltN a b) : Op.bytesLess a.toList b.toList = true := by
  rw [less_lists, ByteArray.toList_eq, ByteArray.toList_eq, decide_eq_true]
  exact h
theorem less_f {a b : ByteArray} (h : ¬ ltN a b) : Op.bytesLess a.toList b.toList = false := by
  rw [less_lists, ByteArray.toList_eq, ByteArray.toList_eq, decide_eq_false]
  exact h
/-- where a name comes to stand -/
def InsAt (xs : List ByteArray) (s : ByteArray) (ys : List ByteArray) : Prop :=
  (s ∈ xs ∧ ys = xs) ∨ (s ∉ xs ∧ ∃ p, p ≤ xs.length ∧ (∀ j, j < p → ltN (xs.getD j default) s) ∧ (p < xs.length → ¬ ltN (xs.getD p default) s) ∧ ys = xs.take p ++ s :: xs.drop p)
theorem InsAt.srt {F ys : List ByteArray} {s : ByteArray} (h : InsAt (Dk.srt F) s ys) : ys = Dk.srt (addF F s) := by
  rcases h with ⟨h1, rfl⟩ | ⟨h1, p, hp, h2, h3, rfl⟩
  · have : s ∈ F := DkG.mem_srt.1 h1
    unfold addF
    rw [if_pos this]
  · have hF : s ∉ F := fun e => h1 (DkG.mem_srt.2 e)
    unfold addF
    rw [if_neg hF]
    have hs := Dk.srt_sorted F
    refine Dk.sorted_eq ?_ (Dk.srt_sorted _) ?_
    · have e : Dk.srt F = (Dk.srt F).take p ++ (Dk.srt F).drop p := (List.take_append_drop p _).symm
      have hs2 := hs
      rw [e, List.pairwise_append] at hs2
      obtain ⟨q1, q2, q3⟩ := hs2
      refine List.pairwise_append.2 ⟨q1, List.pairwise_cons.2 ⟨fun b hb => ?_, q2⟩, fun a ha b hb => ?_⟩
      · obtain ⟨i, hi, e2⟩ := List.getElem_of_mem hb
        rw [List.length_drop] at hi
        rw [List.getElem_drop] at e2
        have h4 : p < (Dk.srt F).length := by omega
        have h5 := h3 h4
        have h6 : Dk.leN s ((Dk.srt F).getD p default) := List.not_lt.1 h5
        rcases Nat.eq_zero_or_pos i with rfl | h0
        · rw [← e2]
          simpa [List.getD, h4] using h6
        · have h7 := List.pairwise_iff_getElem.1 hs p (p + i) h4 (by omega) (by omega)
          rw [← e2]
          have h8 : Dk.leN s (Dk.srt F)[p] := by simpa [List.getD, h4] using h6
          exact List.le_trans h8 h7
      · obtain ⟨i, hi, e2⟩ := List.getElem_of_mem ha
        have hi2 : i < p ∧ i < (Dk.srt F).length := by rw [List.length_take] at hi; omega
        rw [List.getElem_take] at e2
        have h4 := h2 i hi2.1
        have h5 : ltN a s := by rw [← e2]; simpa [List.getD, hi2.2] using h4
        rcases List.mem_cons.1 hb with rfl | hb
        · exact List.le_of_lt h5
        · exact q3 a ha b hb
    · refine List.Perm.trans ?_ (Dk.srt_perm _).symm
      refine List.perm_middle.trans ?_
      rw [List.take_append_drop]
      exact ((Dk.srt_perm F).cons s).trans (List.perm_append_comm (l₁ := [s]) (l₂ := F))
theorem ownB (A : Option Addr) (n m c d : Nat) : (Value.slice A n c).ownBlock = (Value.slice A m d).ownBlock := by cases A <;> rfl
theorem OwnL.cut0 {α : Type} [Inhabited α] {L : Lay α} {e : TypeId} {w : World} {base : Nat} {A : Option Addr} {n c : Nat} {xs : List α} (h : OwnL L e w base (.slice A n c) xs) {m : Nat} (hm : m ≤ xs.length) : OwnL L e w base (.slice A m c) (xs.take m) := by
  have hl : (xs.take m).length = m := by rw [List.length_take]; omega
  rcases h.2 with ⟨e, h0⟩ | ⟨g, cap, cur, e, h1, h2, h3, h4, h5, h6⟩
  · injection e with e1 e2 e3
    subst e1; subst e3
    have : m = 0 := by omega
    subst this
    exact ⟨Lay.flat_len _ _, .inl ⟨rfl, by simp⟩⟩
  · injection e with e1 e2 e3
    subst e1; subst e3
    refine ⟨Lay.flat_len _ _, .inr ⟨g, c, cur, by rw [hl], h1, h2, by omega, h4, h5, ?_⟩⟩
    have := congrArg (List.take (m * L.k)) h6
    rw [List.take_take, Nat.min_eq_left (Nat.mul_le_mul_right _ hm)] at this
    rw [hl, this]
    have e1 : L.flat xs = L.flat (xs.take m) ++ L.flat (xs.drop m) := by rw [← Lay.flat_app, List.take_append_drop]
    rw [e1, List.take_left' (by rw [Lay.flat_len, hl])]
theorem infoR : (Try.prog.info? 88).map (fun i => (i.zero, i.size, i.bytes)) = some (some (.agg #[.string ⟨#[]⟩, .string ⟨#[]⟩, .bool false]), 3, 40) := by kernel_rfl
/-- what an Append of the document's disk leaves -/
def RAppTo (w0 : World) (g : Nat) (xs : List ByteArray) (L : List Wri) (l : List Thing) (s : ByteArray) (b : List UInt8) (w' : World) : Prop :=
  if Dk.appE xs (Dk.total L) s b.length = 0 then ∃ ys, InsAt xs s ys ∧ Sp w0 (refT g ys (Dk.app s b L) :: l) w' else Sp w0 (refT g xs L :: l) w'
section
variable {w0 w : World} {g : Nat} {xs : List ByteArray} {L : List Wri} {l : List Thing}
set_option maxRecDepth 20000 in
theorem rappend_calls (H : Hid (Sp w0 (refT g xs L :: l) w)) (s : ByteArray) (hs : s.size ≤ 4611686018427387904) (A0 : Option Addr) (cb : Nat) (b : List UInt8) (hR : Hid (RdL layB w0 A0 b)) (hb : b.length ≤ 4611686018427387904) (h64 : xs.length ≤ 64) (hl : L.length ≤ 1000000) (ht : Dk.total L ≤ 1048576) :
    Calls Try.prog 22 #[.pointer (some ⟨g, 0, none⟩), .string s, .slice A0 b.length cb] w fun e w' => e = .returned (.int .i64 (Dk.appE xs (Dk.total L) s b.length)) ∧ RAppTo w0 g xs L l s b w' := by
  obtain ⟨er, her⟩ : ∃ er, er = Dk.appE xs (Dk.total L) s b.length := ⟨_, rfl⟩
  rw [← her]
  have HE := Lib.hid her
  have H64 := Lib.hid h64
  have HLL := Lib.hid hl
  have HTT := Lib.hid ht
  have HBL := Lib.hid hb
  have HNO : Hid (er ≠ 0 → RAppTo w0 g xs L l s b w) := Lib.hid (fun h => by
    unfold RAppTo
    rw [← her, if_neg h]
    exact H.out)
  have HYES : Hid (er = 0 → ∀ ys w', InsAt xs s ys → Sp w0 (refT g ys (Dk.app s b L) :: l) w' → RAppTo w0 g xs L l s b w') := Lib.hid (fun h ys w' h1 h2 => by
    unfold RAppTo
    rw [← her, if_pos h]
    exact ⟨ys, h1, h2⟩)
  have HHAS := Lib.hid (has_calls H s (by omega))
  have HTOT := Lib.hid (total_calls H hl ht)
  clear her h64 hl ht hb
  obtain ⟨A, c, B, d, hr⟩ := H.out.openr
  have c0 : ∀ i, w.cell? ⟨g, i, none⟩ = (#[.slice A xs.length c, .slice B L.length d] : Array Value)[i]? := hr.blk.cells
  have HR := Lib.hid hr
  have HVB : Hid (∀ W, Below w0.heap.size w0 W → (convert 47 9 (.slice A0 b.length cb)).run Try.prog W = .ok (.string (Dk.mkB b)) W) := Lib.hid (fun W hW => convB (hR.out.bel hW) cb)
  clear hr
  go_enter Try.func22, Try.ntmps22
  go_wp2_with fail
  refine (rnamed_calls s hs w).mono ?_
  rintro e w1 ⟨rfl, rfl⟩
  obtain ⟨nm, hnm⟩ : ∃ nm, nm = Dk.named s := ⟨_, rfl⟩
  rw [← hnm]
  cases nm with
  | false =>
    have HE2 : Hid (er = 1) := Lib.hid (by rw [HE.out]; unfold Dk.appE; rw [← hnm]; rfl)
    clear hnm
    go_wp2_with fail
    go_ret
    exact ⟨ret_int HE2.out.symm, HNO.out (by rw [HE2.out]; decide)⟩
  | true =>
    have HNM := Lib.hid hnm
    clear hnm
    go_wp2_with fail
    refine HHAS.out.mono ?_
    rintro e w1 ⟨rfl, rfl⟩
    obtain ⟨th, hth⟩ : ∃ th, th = decide (s ∈ xs) := ⟨_, rfl⟩
    rw [← hth]
    have HTH := Lib.hid hth
    clear hth
    obtain ⟨tt, htt⟩ : ∃ tt : Nat, tt = Dk.total L := ⟨_, rfl⟩
    have HT2 := Lib.hid htt
    rw [← htt] at HTOT
    have htl : tt ≤ 1048576 := by rw [htt]; exact HTT.out
    have hbl := HBL.out
    have hwr : IntKind.i64.wrap ((tt : Int) + (b.length : Int)) = (tt : Int) + (b.length : Int) := IntWalk.i64_in _ (by omega)
    have HL3 : Hid ((th = false ∧ 64 ≤ xs.length) ∨ 1048576 < (tt : Int) + (b.length : Int) → er = 3) := Lib.hid (fun h => by
      rw [HE.out]; unfold Dk.appE; rw [← HNM.out, if_pos rfl, ← HT2.out, if_pos]
      rcases h with ⟨h1, h2⟩ | h
      · exact .inl ⟨by have := HTH.out; rw [h1] at this; simpa using this.symm, h2⟩
      · exact .inr h)
    have HL0 : Hid (¬ ((th = false ∧ 64 ≤ xs.length) ∨ 1048576 < (tt : Int) + (b.length : Int)) → er = 0) := Lib.hid (fun h => by
      rw [HE.out]; unfold Dk.appE; rw [← HNM.out, if_pos rfl, ← HT2.out, if_neg]
      rintro (⟨h1, h2⟩ | h3)
      · exact h (.inl ⟨by have := HTH.out; rw [this]; simpa using h1, h2⟩)
      · exact h (.inr h3))
    clear htl hbl htt
    by_cases hfull : th = false ∧ 64 ≤ xs.length
    · have HE3 := Lib.hid (HL3.out (.inl hfull))
      obtain ⟨rfl, h64⟩ := hfull
      have h64i : (64 : Int) ≤ (xs.length : Int) := by omega
      go_wp2_with fail
      go_ret
      exact ⟨ret_int HE3.out.symm, HNO.out (by rw [HE3.out]; decide)⟩
    have hck : th = true ∨ (th = false ∧ ¬ (64 : Int) ≤ (xs.length : Int)) := by
      cases th with
      | true => exact .inl rfl
      | false => exact .inr ⟨rfl, by have : ¬ 64 ≤ xs.length := fun e => hfull ⟨rfl, e⟩
                                     omega⟩
    have HFU := Lib.hid hfull
    clear hfull
    obtain ⟨mn, hmn⟩ : ∃ mn, mn = decide (1048576 < (tt : Int) + (b.length : Int)) := ⟨_, rfl⟩
    have HMN := Lib.hid hmn
    go_upto_region 4 with (fail)
    go_cut [33] (fun s W => s = .bool mn ∧ W = w)
    case first =>
      rcases hck with rfl | ⟨rfl, h64i⟩
      · go_wp2_with fail
        refine HTOT.out.mono ?_
        rintro e w1 ⟨rfl, rfl⟩
        go_wp2_with fail
        go_meet
        exact ⟨by rw [hmn], rfl⟩
      · have HD64 : Hid (decide ((64 : Int) ≤ (xs.length : Int)) = false) := Lib.hid (decide_eq_false (by omega))
        go_wp2_with fail
        refine HTOT.out.mono ?_
        rintro e w1 ⟨rfl, rfl⟩
        go_wp2_with fail
        go_meet
        exact ⟨by rw [hmn, HD64.out, Bool.false_or], rfl⟩
    case rest =>
      obtain ⟨rfl, rfl⟩ := hcut
      clear hck hmn
      cases mn with
      | true =>
        have HE3 := Lib.hid (HL3.out (.inr (by have := HMN.out; simpa using this.symm)))
        go_wp2_with fail
        go_ret
        exact ⟨ret_int HE3.out.symm, HNO.out (by rw [HE3.out]; decide)⟩
      | false =>
        have HE0 := Lib.hid (HL0.out (fun h => h.elim HFU.out (fun h2 => by have := HMN.out; simp at this; omega)))
        go_upto_if 35 with (fail)
        go_cut [8, 9] (fun v8 v9 W => ∃ (ys : List ByteArray) (A' : Option Addr) (c' : Nat), Hid (InsAt xs s ys) ∧ Hid (RfP w0 g (.slice A' ys.length c') (.slice B L.length d) (.slice A' ys.length c') ys (.slice B L.length d) L l W))
        case first =>
          cases th with
          | true =>
            have HIN : Hid (InsAt xs s xs) := Lib.hid (.inl ⟨by have := HTH.out; simpa using this.symm, rfl⟩)
            go_wp2_with fail
            go_meet
            exact ⟨xs, A, c, HIN, HR⟩
          | false =>
            have HNI : Hid (s ∉ xs) := Lib.hid (by have := HTH.out; simpa using this.symm)
            clear c0
            go_wp2_with fail
            go_loopg [8] xs.length (fun n v8 W => ∃ k : Nat, v8 = .int .i64 k ∧ n + k = xs.length ∧ Hid (RfP w0 g (.slice A xs.length c) (.slice B L.length d) (.slice A xs.length c) xs (.slice B L.length d) L l W) ∧ Hid (∀ j, j < k → ltN (xs.getD j default) s))
            case atStart => exact ⟨0, rfl, rfl, HR, Lib.hid (fun j h => absurd h (Nat.not_lt_zero _))⟩
            case round =>
              clear HR
              obtain ⟨k, rfl, hnk, HP, HI⟩ := hrel
              have c1 : ∀ i, wr.cell? ⟨g, i, none⟩ = (#[.slice A xs.length c, .slice B L.length d] : Array Value)[i]? := HP.out.blk.cells
              have hrd : RdL layN wr A xs := Sp.rd HP.out (e := 9) (n := xs.length) (c := c) (by simp)
              have HRD0 := Lib.hid hrd
              by_cases hc : k < xs.length ∧ ltN (xs.getD k default) s
              · have hki : (k : Int) < (xs.length : Int) := by omega
                have hk1 : (k : Int) + 1 ≤ 9223372036854775807 := by have := H64.out; omega
                have hg : 0 < gk := by omega
                obtain ⟨b1, o1, hAe, -, e0⟩ := hrd.nm k hc.1
                obtain ⟨x, hx⟩ : ∃ x, x = xs.getD k default := ⟨_, rfl⟩
                rw [← hx] at e0
                have hless : Op.bytesLess x.toList s.toList = true := less_t (by rw [hx]; exact hc.2)
                have HI2 : Hid (∀ j, j < k + 1 → ltN (xs.getD j default) s) := Lib.hid (fun j hj => by
                  rcases Nat.lt_or_ge j k with h | h
                  · exact HI.out j h
                  · rw [show j = k from by omega]; exact hc.2)
                have HN := Lib.hid hnk
                have HAE := Lib.hid hAe
                clear hx hnk hc hAe hrd
                rw [HAE.out] at c1
                go_wp2_with fail
                go_roundg (gk - 1)
                case rel => exact ⟨k + 1, by go_num, by have := HN.out; omega, HP, HI2⟩
                case measure => omega
              · have HKL : Hid (k ≤ xs.length) := Lib.hid (by omega)
                have HIN : Hid (InsAt xs s (xs.take k ++ s :: xs.drop k)) := Lib.hid (.inr ⟨HNI.out, k, HKL.out, HI.out, fun h e => hc ⟨h, e⟩, rfl⟩)
                have htest : (xs.length ≤ k) ∨ (k < xs.length ∧ ¬ ltN (xs.getD k default) s) := by
                  rcases Nat.lt_or_ge k xs.length with h | h
                  · exact .inr ⟨h, fun e => hc ⟨h, e⟩⟩
                  · exact .inl h
                clear hc hnk hrd
                go_upto_region 8 with (fail)
                go_cut [53] (fun s53 W => s53 = .bool false ∧ Hid (RfP w0 g (.slice A xs.length c) (.slice B L.length d) (.slice A xs.length c) xs (.slice B L.length d) L l W))
                case first =>
                  rcases htest with h | ⟨h, h2⟩
                  · have hki : ¬ (k : Int) < (xs.length : Int) := by omega
                    go_wp2_with fail
                    go_meet
                    exact ⟨rfl, HP⟩
                  · have hki : (k : Int) < (xs.length : Int) := by omega
                    obtain ⟨b1, o1, hAe, -, e0⟩ := HRD0.out.nm k h
                    have hless : Op.bytesLess (xs.getD k default).toList s.toList = false := less_f h2
                    generalize xs.getD k default = x at *
                    have HAE := Lib.hid hAe
                    clear hAe h h2
                    rw [HAE.out] at c1
                    go_wp2_with fail
                    go_meet
                    exact ⟨rfl, HP⟩
                case rest =>
                  obtain ⟨rfl, HRP⟩ := hcut
                  clear HP HRD0 c1 htest
                  have hform := HRP.out.files.form
                  have HCP : Hid (xs.length ≤ c) := Lib.hid (by
                    obtain ⟨A', c', e, h1, -, -, -⟩ := hform
                    obtain ⟨-, -, q3⟩ := Value.slice.inj e
                    rw [q3]; exact h1)
                  have HA3 : Hid (∀ b off sp, A = some ⟨b, off, sp⟩ → sp = none) := Lib.hid (by
                    obtain ⟨A', c', e, -, -, -, h1⟩ := hform
                    obtain ⟨q1, -, -⟩ := Value.slice.inj e
                    intro b off sp h
                    rw [q1] at h
                    exact (h1 b off sp h).2.2)
                  have hln : ∃ ln, ln = (xs.drop k).length := ⟨_, rfl⟩
                  obtain ⟨ln, hln⟩ := hln
                  have HLN := Lib.hid hln
                  have hlnk : ln = xs.length - k := by rw [hln, List.length_drop]
                  have HLK := Lib.hid hlnk
                  have HLIT := Lib.hid (OwnL.lit (L := layN) (e := 9) wc wc.heap.size (Nat.le_refl _) [] (by simp) #[] rfl)
                  have HA := Lib.hid (HRP.out.keep (bel_new (Below.refl wc.heap.size wc) (.cells #[] 9)))
                  have HRD : Hid (RdL layN (wc.alloc (.cells #[] 9)) A xs) := Lib.hid (Sp.rd HA.out (e := 9) (n := xs.length) (c := c) (by simp))
                  have c1 : ∀ i, (wc.alloc (.cells #[] 9)).cell? ⟨g, i, none⟩ = (#[.slice A xs.length c, .slice B L.length d] : Array Value)[i]? := HA.out.blk.cells
                  have hm1 : Hid (([] : List ByteArray).length + (xs.drop k).length ≤ maxLen) := Lib.hid (by have := H64.out; rw [← hln, hlnk]; simp only [List.length_nil]; unfold maxLen; omega)
                  have hm2 : Hid ((([] : List ByteArray).length + (xs.drop k).length) * 16 ≤ 140737488355328) := Lib.hid (by have := H64.out; rw [← hln, hlnk]; simp only [List.length_nil]; omega)
                  have hbn := Lib.hid (bel_new (Below.refl wc.heap.size wc) (.cells #[] 9))
                  clear hform hln hlnk
                  go_upto_region 11 with (first
                    | (refine wpList_from (L := layN) (t := 43) (e := 9) Try.underlying43 (by kernel_rfl) infoN rfl (.tmp 60) (.tmp 61) rfl A xs.length c xs rfl k rfl rfl HKL.out HCP.out HRD.out HA3.out ?_; intro A2 hA2; have HA2 := Lib.hid hA2; clear hA2)
                    | (at_builtin; refine wpList_appO8 (L := layN) 43 _ 16 Try.underlying43 infoN rfl rfl (.tmp 56) (.tmp 62) rfl wc.heap.size _ [] rfl HLIT.out A2 (xs.length - k) (c - k) (xs.drop k) rfl (by simp) HA2.out hm1.out hm2.out (by simp) ?_; intro v1 w5 ho1 hg1 h31; have hb5 := Lib.hid (OwnL.grown HLIT.out hbn.out (by simp) hg1); rw [List.nil_append] at ho1; obtain ⟨A4, c4, rfl⟩ := ho1.formN (n := ln) HLN.out.symm; have HO4 := Lib.hid ho1; clear ho1 hg1 h31))
                  have H5 : Hid (RfP w0 g (.slice A xs.length c) (.slice B L.length d) (.slice A xs.length c) xs (.slice B L.length d) L (ownT layN 9 (.slice A4 ln c4) (xs.drop k) :: l) w5) := Lib.hid (Sp.perm (Sp.row HRP.out hb5.out HO4.out) (List.perm_middle (l₁ := [_, _, _])).symm)
                  have H6 : Hid (RfP w0 g (.slice A xs.length c) (.slice B L.length d) (.slice A k c) (xs.take k) (.slice B L.length d) L (ownT layN 9 (.slice A4 ln c4) (xs.drop k) :: l) (w5.alloc (.cells #[.string s] 9))) := Lib.hid ((H5.out.appF (H5.out.files.cut0 HKL.out) (World.grownBy.refl _ _) (.inl (ownB _ _ _ _ _))).keep (bel_new (Below.refl w5.heap.size w5) _))
                  have c5 : ∀ i, w5.cell? ⟨g, i, none⟩ = (#[.slice A xs.length c, .slice B L.length d] : Array Value)[i]? := H5.out.blk.cells
                  have hkc : k ≤ c := by have := HKL.out; have := HCP.out; omega
                  have HTL : Hid ((xs.take k).length = k) := Lib.hid (by rw [List.length_take]; have := HKL.out; omega)
                  have HRS := Lib.hid (rdL_litN w5 s)
                  have HKC := Lib.hid hkc
                  clear c1 HLIT HA HRD hm1 hm2 hbn hb5 HO4 HA2 H5
                  go_upto_region 12 with (first
                    | (refine wpList_to (L := layN) (t := 43) (e := 9) Try.underlying43 (by kernel_rfl) infoN rfl (.tmp 68) (.tmp 69) rfl A xs.length c rfl k rfl HKC.out HA3.out ?_)
                    | (at_builtin; refine wpList_appO8 (L := layN) 43 _ 16 Try.underlying43 infoN rfl rfl (.tmp 70) (.tmp 72) rfl w0.heap.size (.slice A k c) (xs.take k) rfl H6.out.files (some ⟨w5.heap.size, 0, none⟩) 1 1 [s] rfl rfl HRS.out (by have := HTL.out; have := HKL.out; have := H64.out; simp only [List.length_singleton]; unfold maxLen; omega) (by have := HTL.out; have := HKL.out; have := H64.out; simp only [List.length_singleton]; omega) (Sp.size H6.out) ?_; intro v6 w6 ho6 hg6 h36; obtain ⟨A6, c6, rfl⟩ := ho6.formN (n := k + 1) (by rw [List.length_append, HTL.out]; rfl); have H7 := Lib.hid (H6.out.appF ho6 hg6 h36); have c7 : ∀ i, w6.cell? ⟨g, i, none⟩ = (#[.slice A xs.length c, .slice B L.length d] : Array Value)[i]? := H7.out.blk.cells; have f7 : ∀ i, w6.frozen? ⟨g, i, none⟩ = false := H7.out.blk.free; clear ho6 hg6 h36))
                  have H8 := Lib.hid (H7.out.set0 (.slice A6 (k + 1) c6))
                  clear c5 c7 f7 H6 HRS H7 hkc
                  generalize w6.setCell ⟨g, 0, none⟩ (.slice A6 (k + 1) c6) = w8 at *
                  have c8 : ∀ i, w8.cell? ⟨g, i, none⟩ = (#[.slice A6 (k + 1) c6, .slice B L.length d] : Array Value)[i]? := H8.out.blk.cells
                  have HR8 : Hid (RdL layN w8 A4 (xs.drop k)) := Lib.hid (Sp.rd H8.out (e := 9) (n := ln) (c := c4) (by simp))
                  have HYL : Hid ((xs.take k ++ [s] ++ xs.drop k).length = xs.length + 1) := Lib.hid (by simp only [List.length_append, HTL.out, List.length_singleton, ← HLN.out, HLK.out]; have := HKL.out; omega)
                  have HYE : Hid (xs.take k ++ [s] ++ xs.drop k = xs.take k ++ s :: xs.drop k) := Lib.hid (by simp)
                  go_wp2_with (at_builtin; refine wpList_appO8 (L := layN) 43 _ 16 Try.underlying43 infoN rfl rfl (.tmp 80) (.tmp 81) rfl w0.heap.size (.slice A6 (k + 1) c6) (xs.take k ++ [s]) rfl H8.out.files A4 ln c4 (xs.drop k) rfl HLN.out HR8.out (by have := HTL.out; have := HKL.out; have := H64.out; have := HLK.out; rw [← HLN.out]; simp only [List.length_append, List.length_singleton]; unfold maxLen; omega) (by have := HTL.out; have := HKL.out; have := H64.out; have := HLK.out; rw [← HLN.out]; simp only [List.length_append, List.length_singleton]; omega) (Sp.size H8.out) ?_; intro v9 w9 ho9 hg9 h39; obtain ⟨A9, c9, rfl⟩ := ho9.formN (n := xs.length + 1) HYL.out; have H9 := Lib.hid (H8.out.appF ho9 hg9 h39); have c9' : ∀ i, w9.cell? ⟨g, i, none⟩ = (#[.slice A6 (k + 1) c6, .slice B L.length d] : Array Value)[i]? := H9.out.blk.cells; have f9 : ∀ i, w9.frozen? ⟨g, i, none⟩ = false := H9.out.blk.free; clear ho9 hg9 h39)
                  have H10 : Hid (RfP w0 g (.slice A9 (xs.take k ++ s :: xs.drop k).length c9) (.slice B L.length d) (.slice A9 (xs.take k ++ s :: xs.drop k).length c9) (xs.take k ++ s :: xs.drop k) (.slice B L.length d) L l (w9.setCell ⟨g, 0, none⟩ (.slice A9 (xs.length + 1) c9))) := Lib.hid (by
                    have h := H9.out.set0 (.slice A9 (xs.length + 1) c9)
                    rw [HYE.out] at h
                    have hy := HYL.out
                    rw [HYE.out] at hy
                    rw [hy]
                    have h2 := (Sp.perm h (List.perm_middle (l₁ := [_, _, _])))
                    exact h2.tail)
                  go_meet
                  exact ⟨_, A9, c9, HIN, H10⟩
        case rest =>
          obtain ⟨ys, A', c', HIN, HR2⟩ := hcut
          have HVB2 := Lib.hid (HVB.out wc.drew (bel_drew (Sp.bel HR2.out)))
          have vb := HVB2.out
          have c2 : ∀ i, wc.cell? ⟨g, i, none⟩ = (#[.slice A' ys.length c', .slice B L.length d] : Array Value)[i]? := HR2.out.blk.cells
          have hgl : g < wc.heap.size := HR2.out.blk.lt
          have HKP := Lib.hid (HR2.out.keep (bel_drew (bel_new (Below.refl wc.heap.size wc) (.cells #[.string s, .string (Dk.mkB b), .bool false] 88))))
          have HRW := Lib.hid (rdL_lit (L := layR) wc 88 [(⟨s, b, false⟩ : Wri)] (by simp [maxLen]) #[.string s, .string (Dk.mkB b), .bool false] rfl)
          clear HR HVB
          go_upto_region 13 with (fail)
          go_region_law (first
            | (refine step_appAt (L := layR) 44 _ 40 Try.underlying44 infoR rfl rfl (.tmp 89) (.tmp 94) rfl w0.heap.size (.slice B L.length d) L rfl HKP.out.list (some ⟨wc.heap.size, 0, none⟩) 1 1 [(⟨s, b, false⟩ : Wri)] rfl rfl HRW.out (by have := HLL.out; simp only [List.length_singleton]; unfold maxLen; omega) (by have := HLL.out; simp only [List.length_singleton]; omega) (Sp.size HKP.out) ?_
               intro v6 w6 ho6 hg6 h36
               obtain ⟨A6, c6, rfl⟩ := ho6.formN (n := L.length + 1) (by simp)
               have H7 := Lib.hid (HKP.out.appL ho6 hg6 h36)
               have c7 : ∀ i, w6.cell? ⟨g, i, none⟩ = (#[.slice A' ys.length c', .slice B L.length d] : Array Value)[i]? := H7.out.blk.cells
               have f7 : ∀ i, w6.frozen? ⟨g, i, none⟩ = false := H7.out.blk.free
               clear ho6 hg6 h36))
          all_goals
            have H8 : Hid (Sp w0 (refT g ys (Dk.app s b L) :: l) (w6.setCell ⟨g, 1, none⟩ (.slice A6 (L.length + 1) c6))) := Lib.hid (RfP.close (H7.out.set1 (.slice A6 (L.length + 1) c6)))
            clear c7 f7 H7 c2 vb hgl
            go_wp2_with fail
            go_ret
            exact ⟨ret_int HE0.out.symm, HYES.out HE0.out _ _ HIN.out H8.out⟩
end
end Go.Proofs.Ytheocdfccdpmbaa
