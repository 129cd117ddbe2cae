/-
  Contract of the document's disk: a crash.
  Conditions: stated lemma by lemma.
-/
import Derived.Test.YtheocdfccdpmbaaDka
import Derived.Test.YtheocdfccdpmbaaDkR
import Derived.Deep.DeepCutAuto
namespace Go.Proofs.Ytheocdfccdpmbaa
open Go.RowKit Go.Maps
set_option linter.unusedVariables false
set_option linter.unusedSimpArgs false
set_option maxHeartbeats 8000000

namespace Dk
theorem crash_snoc (kp tn : Nat) {L : List Wri} {k : Nat} (hk : k < L.length) : crash kp tn (L.take (k + 1)) = crash kp tn (L.take k) ++ [⟨(L.getD k default).name, if (L.getD k default).syn then (L.getD k default).b else left kp tn (uns (L.take k)) (L.getD k default).b, true⟩] := by
  rw [take_snocG hk]
  unfold crash
  rw [mu_app, List.map_append, Nat.zero_add]
  congr 1
  generalize L.getD k default = x
  by_cases h : x.syn = true
  · rw [mu_syn h, mu_nil, h]; rfl
  · rw [mu_wait h, mu_nil, if_neg h]; rfl
theorem crash_len (kp tn : Nat) : ∀ (L : List Wri), (crash kp tn L).length = L.length := fun L => by
  unfold crash
  rw [List.length_map]
  have h : ∀ (n : Nat) (L : List Wri), (mu (left kp tn) n L).length = L.length := by
    intro n L
    induction L generalizing n with
    | nil => rfl
    | cons x L ih =>
      by_cases h : x.syn = true
      · rw [mu_syn h, List.length_cons, List.length_cons, ih]
      · rw [mu_wait h, List.length_cons, List.length_cons, ih]
  exact h 0 L
theorem uns_snoc {L : List Wri} {k : Nat} (hk : k < L.length) : uns (L.take (k + 1)) = uns (L.take k) + (if (L.getD k default).syn then 0 else 1) := by
  rw [take_snocG hk, uns_app]
  congr 1
  generalize L.getD k default = x
  unfold uns
  by_cases h : x.syn = true <;> simp [h]
end Dk
theorem extract_mkB (b : List UInt8) (t : Nat) : (Dk.mkB b).extract 0 t = Dk.mkB (b.take t) := by
  apply ByteArray.ext
  rw [ByteArray.data_extract]
  apply Array.toList_inj.1
  simp only [Dk.mkB, Array.toList_extract]
  rw [List.extract_eq_take_drop]
  simp
theorem RfP.setX {w0 W : World} {g gz : Nat} {t : TypeId} {cs : Array Value} {c1 c2 fv lv : Value} {xs : List ByteArray} {L : List Wri} {l : List Thing} (h : RfP w0 g c1 c2 fv xs lv L (blkT gz t cs :: l) W) (i : Nat) (u : Value) : RfP w0 g c1 c2 fv xs lv L (blkT gz t (cs.setIfInBounds i u) :: l) (W.setCell ⟨gz, i, none⟩ u) :=
  Sp.perm (Sp.set (Sp.perm h (List.perm_middle (l₁ := [_, _, _]))) i u) (List.perm_middle (l₁ := [_, _, _])).symm
theorem RfP.allocX {w0 W : World} {g : Nat} {c1 c2 fv lv : Value} {xs : List ByteArray} {L : List Wri} {l : List Thing} (h : RfP w0 g c1 c2 fv xs lv L l W) (t : TypeId) (cs : Array Value) : RfP w0 g c1 c2 fv xs lv L (blkT W.heap.size t cs :: l) (W.alloc (.cells cs t)) :=
  Sp.perm (Sp.alloc h cs t) (List.perm_middle (l₁ := [_, _, _])).symm
theorem RfP.dropX {w0 W : World} {g : Nat} {c1 c2 fv lv : Value} {xs : List ByteArray} {L : List Wri} {l : List Thing} {r : Thing} (h : RfP w0 g c1 c2 fv xs lv L (r :: l) W) : RfP w0 g c1 c2 fv xs lv L l W :=
  (Sp.perm h (List.perm_middle (l₁ := [_, _, _]))).tail
theorem RfP.swapX {w0 W : World} {g : Nat} {c1 c2 fv lv : Value} {xs : List ByteArray} {L : List Wri} {l : List Thing} {r r2 : Thing} (h : RfP w0 g c1 c2 fv xs lv L (r :: r2 :: l) W) : RfP w0 g c1 c2 fv xs lv L (r2 :: r :: l) W :=
  Sp.perm h ((((List.Perm.swap ..).cons _).cons _).cons _)
section
variable {w0 w : World} {g : Nat} {xs : List ByteArray} {L : List Wri} {l : List Thing}
set_option maxRecDepth 20000 in
theorem rcrash_calls (H : Hid (Sp w0 (refT g xs L :: l) w)) (hl : L.length ≤ 1000000) (keep torn : Int) :
    Calls Try.prog 25 #[.pointer (some ⟨g, 0, none⟩), .int .i64 keep, .int .i64 torn] w fun e w' => e = .returned (.tuple #[]) ∧ Sp w0 (refT g xs (Dk.crash keep.toNat torn.toNat L) :: l) w' := by
  have HLL := Lib.hid hl
  obtain ⟨A, c, B, d, hr⟩ := H.out.openr
  have HR : Hid (RfP w0 g (.slice A xs.length c) (.slice B L.length d) (.slice A xs.length c) xs (.slice B L.length d) L (ownT layR 88 (.slice none 0 0) (Dk.crash keep.toNat torn.toNat (L.take 0)) :: l) w) := Lib.hid hr.nilX
  obtain ⟨kp, hkp⟩ : ∃ kp, kp = keep.toNat := ⟨_, rfl⟩
  obtain ⟨tn, htn⟩ : ∃ tn, tn = torn.toNat := ⟨_, rfl⟩
  rw [← hkp, ← htn] at HR
  rw [← hkp, ← htn]
  have HKP := Lib.hid hkp
  have HTN := Lib.hid htn
  clear hr hl hkp htn
  go_enter Try.func25, Try.ntmps25
  go_upto_if 11 with (fail)
  go_cut [2] (fun v2 W => v2 = .int .i64 (tn : Int) ∧ W = w)
  case first =>
    by_cases h : torn < 0
    · have h2 : tn = 0 := by rw [HTN.out]; omega
      subst h2
      go_wp2_with fail
      go_meet
      exact ⟨rfl, rfl⟩
    · have h2 : torn = (tn : Int) := by rw [HTN.out]; omega
      subst h2
      go_wp2_with fail
      go_meet
      exact ⟨rfl, rfl⟩
  case rest =>
    obtain ⟨rfl, rfl⟩ := hcut
    go_upto_if 13 with (fail)
    go_cut [1] (fun v1 W => v1 = .int .i64 (kp : Int) ∧ W = wc)
    case first =>
      by_cases h : keep < 0
      · have h2 : kp = 0 := by rw [HKP.out]; omega
        subst h2
        go_wp2_with fail
        go_meet
        exact ⟨rfl, rfl⟩
      · have h2 : keep = (kp : Int) := by rw [HKP.out]; omega
        subst h2
        go_wp2_with fail
        go_meet
        exact ⟨rfl, rfl⟩
    case rest =>
      obtain ⟨rfl, rfl⟩ := hcut
      clear HKP HTN
      go_wp2_with fail
      go_loopg [6, 7, 8, 9] L.length (fun n v6 v7 v8 v9 W => ∃ (k u : Nat) (A6 : Option Addr) (c6 : Nat), v8 = .int .i64 k ∧ v7 = .int .i64 u ∧ v6 = .slice A6 k c6 ∧ n + k = L.length ∧ u ≤ k ∧ Hid (u = Dk.uns (L.take k)) ∧ Hid (RfP w0 g (.slice A xs.length c) (.slice B L.length d) (.slice A xs.length c) xs (.slice B L.length d) L (ownT layR 88 (.slice A6 k c6) (Dk.crash kp tn (L.take k)) :: l) W))
      case atStart => exact ⟨0, 0, none, 0, rfl, rfl, rfl, rfl, Nat.le_refl _, Lib.hid rfl, HR⟩
      case round =>
        clear HR
        obtain ⟨k, u, A6, c6, rfl, rfl, rfl, hnk, huk, HU, HP⟩ := hrel
        have c1 : ∀ i, wr.cell? ⟨g, i, none⟩ = (#[.slice A xs.length c, .slice B L.length d] : Array Value)[i]? := HP.out.blk.cells
        by_cases hlt : k < L.length
        · have hki : (k : Int) < (L.length : Int) := by omega
          have hk1 : (k : Int) + 1 ≤ 9223372036854775807 := by have := HLL.out; omega
          have hu1 : (u : Int) + 1 ≤ 9223372036854775807 := by have := HLL.out; omega
          have hg : 0 < gk := by omega
          obtain ⟨b1, o1, hBe, -, e0, e1, e2⟩ := (Sp.rd HP.out (L := layR) (e := 88) (A := B) (n := L.length) (c := d) (xs := L) (by simp)).wri k hlt
          have hst := Dk.crash_snoc kp tn hlt
          have hun := Dk.uns_snoc hlt
          obtain ⟨⟨xn, xb, xsy⟩, hx⟩ : ∃ x, x = L.getD k default := ⟨_, rfl⟩
          rw [← hx] at e0 e1 e2 hst hun
          simp only at e0 e1 e2 hst hun
          rw [← HU.out] at hst hun
          have HST := Lib.hid hst
          have HUN := Lib.hid hun
          have HBE := Lib.hid hBe
          have HN := Lib.hid (And.intro hnk huk)
          have HLT := Lib.hid hlt
          have HX1 := Lib.hid (HP.out.allocX 88 #[.string xn, .string (Dk.mkB xb), .bool xsy])
          clear hx hBe hnk huk hlt hst hun HP
          rw [HBE.out] at c1
          go_upto_region 10 with (fail)
          generalize wr.heap.size = gz at *
          generalize wr.alloc (.cells #[.string xn, .string (Dk.mkB xb), .bool xsy] 88) = w2 at *
          have z2 : ∀ i, w2.cell? ⟨gz, i, none⟩ = (#[.string xn, .string (Dk.mkB xb), .bool xsy] : Array Value)[i]? := (Sp.blk HX1.out (g := gz) (t := 88) (by simp)).cells
          have f2 : ∀ i, w2.frozen? ⟨gz, i, none⟩ = false := (Sp.blk HX1.out (g := gz) (t := 88) (cs := #[.string xn, .string (Dk.mkB xb), .bool xsy]) (by simp)).free
          clear c1 e0 e1 e2
          obtain ⟨nb, hnb⟩ : ∃ nb, nb = (if xsy then xb else Dk.left kp tn u xb) := ⟨_, rfl⟩
          have HNB := Lib.hid hnb
          rw [← hnb] at HST
          clear hnb
          go_upto_if 32 with (fail)
          go_cut [7] (fun v7 W => ∃ u2 : Nat, v7 = .int .i64 (u2 : Int) ∧ Hid (u2 = u + (if xsy then 0 else 1)) ∧ Hid (RfP w0 g (.slice A xs.length c) (.slice B L.length d) (.slice A xs.length c) xs (.slice B L.length d) L (blkT gz 88 #[.string xn, .string (Dk.mkB nb), .bool xsy] :: ownT layR 88 (.slice A6 k c6) (Dk.crash kp tn (L.take k)) :: l) W))
          case first =>
            cases xsy with
            | true =>
              have HX3 : Hid (RfP w0 g (.slice A xs.length c) (.slice B L.length d) (.slice A xs.length c) xs (.slice B L.length d) L (blkT gz 88 #[.string xn, .string (Dk.mkB nb), .bool true] :: ownT layR 88 (.slice A6 k c6) (Dk.crash kp tn (L.take k)) :: l) w2) := Lib.hid (by rw [HNB.out]; exact HX1.out)
              simp only [Bool.not_true]
              go_wp2_with fail
              go_meet
              exact ⟨u, rfl, Lib.hid rfl, HX3⟩
            | false =>
              simp only [Bool.not_false]
              rcases Nat.lt_trichotomy u kp with h | h | h
              · have h1 : ¬ (kp : Int) < (u : Int) := by omega
                have h2 : ((u : Int) == (kp : Int)) = false := by rw [beq_eq_false_iff_ne]; omega
                have e : nb = xb := by rw [HNB.out]; show Dk.left kp tn u xb = xb; unfold Dk.left; rw [if_neg (by omega), if_neg (by omega)]
                subst e
                go_wp2_with fail
                go_meet
                exact ⟨u + 1, by go_num, Lib.hid rfl, HX1⟩
              · subst h
                have h1 : ¬ (u : Int) < (u : Int) := by omega
                have h2 : ((u : Int) == (u : Int)) = true := by simp
                have e : nb = xb.take tn := by rw [HNB.out]; show Dk.left u tn u xb = _; unfold Dk.left; rw [if_neg (by omega), if_pos rfl]
                have hsz : (Dk.mkB xb).size = xb.length := by simp [Dk.mkB, ByteArray.size]
                have hex : (Dk.mkB xb).extract 0 tn = Dk.mkB nb := by rw [extract_mkB, e]
                by_cases h3 : tn < xb.length
                · have HX3 : Hid (RfP w0 g (.slice A xs.length c) (.slice B L.length d) (.slice A xs.length c) xs (.slice B L.length d) L (blkT gz 88 #[.string xn, .string (Dk.mkB nb), .bool false] :: ownT layR 88 (.slice A6 k c6) (Dk.crash u tn (L.take k)) :: l) (w2.setCell ⟨gz, 1, none⟩ (.string (Dk.mkB nb)))) := Lib.hid (HX1.out.setX 1 (.string (Dk.mkB nb)))
                  generalize Dk.mkB xb = sb at *
                  generalize Dk.mkB nb = sn at *
                  have h4 : (tn : Int) < (sb.size : Int) := by omega
                  have h5 : (tn : Int) ≤ (sb.size : Int) := by omega
                  clear h3 hsz e
                  go_wp2_with fail
                  go_meet
                  exact ⟨u + 1, by go_num, Lib.hid rfl, HX3⟩
                · have e2 : nb = xb := by rw [e]; exact List.take_of_length_le (by omega)
                  subst e2
                  have h4 : ¬ (tn : Int) < ((Dk.mkB nb).size : Int) := by omega
                  clear e hex h3 hsz
                  generalize Dk.mkB nb = sn at *
                  go_wp2_with fail
                  go_meet
                  exact ⟨u + 1, by go_num, Lib.hid rfl, HX1⟩
              · have h1 : (kp : Int) < (u : Int) := by omega
                have h2 : ((u : Int) == (kp : Int)) = false := by rw [beq_eq_false_iff_ne]; omega
                have e : nb = [] := by rw [HNB.out]; show Dk.left kp tn u xb = []; unfold Dk.left; rw [if_pos h]
                have HX3 : Hid (RfP w0 g (.slice A xs.length c) (.slice B L.length d) (.slice A xs.length c) xs (.slice B L.length d) L (blkT gz 88 #[.string xn, .string (Dk.mkB nb), .bool false] :: ownT layR 88 (.slice A6 k c6) (Dk.crash kp tn (L.take k)) :: l) (w2.setCell ⟨gz, 1, none⟩ (.string ⟨#[]⟩))) := Lib.hid (by rw [e]; exact HX1.out.setX 1 (.string ⟨#[]⟩))
                clear e h
                go_wp2_with fail
                go_meet
                exact ⟨u + 1, by go_num, Lib.hid rfl, HX3⟩
          case rest =>
            obtain ⟨u2, rfl, HU2, HX4⟩ := hcut
            clear HX1 z2 f2 HNB
            have z4 : ∀ i, wc.cell? ⟨gz, i, none⟩ = (#[.string xn, .string (Dk.mkB nb), .bool xsy] : Array Value)[i]? := (Sp.blk HX4.out (g := gz) (t := 88) (by simp)).cells
            have f4 : ∀ i, wc.frozen? ⟨gz, i, none⟩ = false := (Sp.blk HX4.out (g := gz) (t := 88) (cs := #[.string xn, .string (Dk.mkB nb), .bool xsy]) (by simp)).free
            have HX5 : Hid (RfP w0 g (.slice A xs.length c) (.slice B L.length d) (.slice A xs.length c) xs (.slice B L.length d) L (blkT gz 88 #[.string xn, .string (Dk.mkB nb), .bool true] :: ownT layR 88 (.slice A6 k c6) (Dk.crash kp tn (L.take k)) :: l) (wc.setCell ⟨gz, 2, none⟩ (.bool true))) := Lib.hid (HX4.out.setX 2 (.bool true))
            go_upto_region 17 with (fail)
            clear z4 f4 HX4
            generalize wc.setCell ⟨gz, 2, none⟩ (.bool true) = w5 at *
            have z5 : ∀ i, w5.cell? ⟨gz, i, none⟩ = (#[.string xn, .string (Dk.mkB nb), .bool true] : Array Value)[i]? := (Sp.blk HX5.out (g := gz) (t := 88) (by simp)).cells
            have HX6 : Hid (RfP w0 g (.slice A xs.length c) (.slice B L.length d) (.slice A xs.length c) xs (.slice B L.length d) L (ownT layR 88 (.slice A6 k c6) (Dk.crash kp tn (L.take k)) :: l) (w5.alloc (.cells #[.string xn, .string (Dk.mkB nb), .bool true] 88))) := Lib.hid (HX5.out.dropX.keep (bel_new (Below.refl w5.heap.size w5) _))
            have HRX := Lib.hid (rdL_lit (L := layR) w5 88 [(⟨xn, nb, true⟩ : Wri)] (by simp [maxLen]) #[.string xn, .string (Dk.mkB nb), .bool true] rfl)
            have HCL : Hid ((Dk.crash kp tn (L.take k)).length = k) := Lib.hid (by rw [Dk.crash_len, List.length_take]; have := HLT.out; omega)
            clear HX5
            go_wp2_with (at_builtin; refine wpList_appO8 (L := layR) 44 _ 40 Try.underlying44 infoR rfl rfl (.tmp 55) (.tmp 57) rfl w0.heap.size (.slice A6 k c6) (Dk.crash kp tn (L.take k)) rfl (Sp.own HX6.out (by simp)) (some ⟨w5.heap.size, 0, none⟩) 1 1 [(⟨xn, nb, true⟩ : Wri)] rfl rfl HRX.out (by have := HLL.out; have := HCL.out; have := HLT.out; simp only [List.length_singleton]; unfold maxLen; omega) (by have := HLL.out; have := HCL.out; have := HLT.out; simp only [List.length_singleton]; omega) (Sp.size HX6.out) ?_; intro v8 w8 ho8 hg8 h38; obtain ⟨A8, c8, hv8⟩ := ho8.formN (n := k + 1) (by rw [List.length_append, HCL.out]; rfl); subst hv8; have H8 := Lib.hid (HX6.out.appX ho8 hg8 h38); clear ho8 hg8 h38)
            rw [← HST.out] at H8
            go_roundg (gk - 1)
            case rel => exact ⟨k + 1, u2, A8, c8, by go_num, rfl, rfl, by have := HN.out; omega, by have h1 := HN.out; have h2 := HU2.out; cases xsy <;> simp at h2 <;> omega, Lib.hid (by rw [HUN.out]; exact HU2.out), H8⟩
            case measure => omega
        · have hki : ¬ (k : Int) < (L.length : Int) := by omega
          have f1 : ∀ i, wr.frozen? ⟨g, i, none⟩ = false := HP.out.blk.free
          have hke : k = L.length := by omega
          have HF : Hid (Sp w0 (refT g xs (Dk.crash kp tn L) :: l) (wr.setCell ⟨g, 1, none⟩ (.slice A6 k c6))) := Lib.hid (by
            have h := HP.out
            rw [List.take_of_length_le (by omega)] at h
            exact ((h.set1 (.slice A6 k c6)).swapL).close)
          clear hnk hlt HP hke
          go_wp2_with fail
          go_end0
          exact ⟨rfl, HF.out⟩
end
end Go.Proofs.Ytheocdfccdpmbaa
