/-
  Contract: bytes behind a file's.
  Conditions: stated lemma by lemma.
-/
import Derived.Test.YtheocdfccdpmbaaDkU
import Derived.Deep.RegionLaw
import Derived.Deep.DeepCutAuto
namespace Go.Proofs.Ytheocdfccdpmbaa
open Go.RowKit Go.Maps
set_option linter.unusedVariables false
set_option linter.unusedSimpArgs false
set_option maxHeartbeats 8000000

namespace Dk
def appE (F : List ByteArray) (tot : Int) (s : ByteArray) (n : Nat) : Int := if named s then (if (s ∉ F ∧ 64 ≤ F.length) ∨ 1048576 < tot + n then 3 else 0) else 1
end Dk
/-- what an Append leaves -/
def AppTo (w0 : World) (g : Nat) (F : List ByteArray) (fl : ByteArray → List UInt8) (ws : List (ByteArray × Nat)) (tot : Int) (l : List Thing) (s : ByteArray) (b : List UInt8) (w' : World) : Prop :=
  if Dk.appE F tot s b.length = 0 then Sp w0 (dskT g (addF F s) (updL fl s (fl s ++ b)) (ws ++ [(s, b.length)]) (tot + b.length) :: l) w' else Sp w0 (dskT g F fl ws tot :: l) w'
section
variable {w0 w : World} {g : Nat} {F : List ByteArray} {fl : ByteArray → List UInt8} {ws : List (ByteArray × Nat)} {tot : Int} {l : List Thing}
set_option maxRecDepth 20000 in
theorem append_calls (H : Hid (Sp w0 (dskT g F fl ws tot :: l) w)) (s : ByteArray) (hs : s.size ≤ 4611686018427387904) (A : Option Addr) (c : Nat) (b : List UInt8) (hR : Hid (RdL layB w A b)) (hb : b.length ≤ 4611686018427387904)
    (h64 : F.length ≤ 64) (ht0 : 0 ≤ tot) (ht1 : tot ≤ 1048576) (hws : ws.length ≤ 1000000) (hfl : Hid ((∀ n, n ∉ F → fl n = []) ∧ ∀ n, (fl n).length ≤ 1048576)) :
    Calls Try.prog 44 #[.pointer (some ⟨g, 0, none⟩), .string s, .slice A b.length c] w fun e w' => e = .returned (.int .i64 (Dk.appE F tot s b.length)) ∧ AppTo w0 g F fl ws tot l s b w' := by
  obtain ⟨er, her⟩ : ∃ er, er = Dk.appE F tot s b.length := ⟨_, rfl⟩
  rw [← her]
  have HE := Lib.hid her
  have HS := Lib.hid hs
  have H64 := Lib.hid h64
  have HWS := Lib.hid hws
  have HBL := Lib.hid hb
  have HT := Lib.hid (And.intro ht0 ht1)
  clear her hs h64 hws
  go_enter Try.func44, Try.ntmps44
  go_wp2_with fail
  refine (named_calls s HS.out w).mono ?_
  rintro e w1 ⟨rfl, hb1⟩
  have HB1 := Lib.hid hb1
  have H1 := Lib.hid (H.out.keep hb1)
  have HR1 := Lib.hid (hR.out.bel hb1)
  clear hb1
  obtain ⟨nm, hnm⟩ : ∃ nm, nm = Dk.named s := ⟨_, rfl⟩
  rw [← hnm]
  cases nm with
  | false =>
    have HE2 : Hid (er = 1) := Lib.hid (by rw [HE.out]; unfold Dk.appE; rw [← hnm]; rfl)
    clear hnm
    go_wp2_with fail
    go_ret
    refine ⟨ret_int HE2.out.symm, ?_⟩
    unfold AppTo
    rw [← HE.out, HE2.out, if_neg (by decide)]
    exact H1.out
  | true =>
    have HNM := Lib.hid hnm
    clear hnm
    have hsm : s.size ≤ maxLen := by
      have h1 := HNM.out
      unfold Dk.named at h1
      simp only [Bool.true_eq, Bool.and_eq_true, decide_eq_true_eq] at h1
      unfold maxLen; omega
    have HSM := Lib.hid hsm
    obtain ⟨⟨mb, D, sv, wv⟩, hx, hd⟩ := H1.out.opend
    have c0 : ∀ i, w1.cell? ⟨g, i, none⟩ = (#[.map (some mb), wv, .int .i64 tot] : Array Value)[i]? := (DkS.of hd).blk.cells
    obtain ⟨v, hv1, -, hv3⟩ := look_file (DkS.of hd).map hx hsm w1 rfl
    have hln : ∀ ty, (Builtin.len_ #[82] ty #[.map (some mb)]).run Try.prog w1 = .ok (.int .i64 (F.length : Int)) w1 := fun ty => by
      have := (DkS.of hd).map.len Try.underlying82 ty
      rw [hx.size] at this
      exact this
    have HX := Lib.hid hx
    have HD := Lib.hid (DkS.of hd)
    have HV3 : Hid (v = oldV F sv s) := Lib.hid hv3
    simp only at hv1 HX HD
    obtain ⟨th, hth⟩ : ∃ th, th = decide (s ∈ F) := ⟨_, rfl⟩
    rw [← hth] at hv1
    have HTH := Lib.hid hth
    clear hx hd hth hv3 hsm
    have hwr : IntKind.i64.wrap (tot + (b.length : Int)) = tot + (b.length : Int) := IntWalk.i64_in _ (by omega)
    have HL3 : Hid ((th = false ∧ 64 ≤ F.length) ∨ 1048576 < tot + (b.length : Int) → er = 3) := Lib.hid (fun h => by
      rw [HE.out]; unfold Dk.appE; rw [← HNM.out, if_pos rfl, if_pos]
      rcases h with ⟨h1, h2⟩ | h
      · exact .inl ⟨by have := HTH.out; rw [h1] at this; simpa using this.symm, h2⟩
      · exact .inr h)
    have HL0 : Hid (¬ ((th = false ∧ 64 ≤ F.length) ∨ 1048576 < tot + (b.length : Int)) → er = 0) := Lib.hid (fun h => by
      rw [HE.out]; unfold Dk.appE; rw [← HNM.out, if_pos rfl, if_neg]
      rintro (⟨h1, h2⟩ | h3)
      · exact h (.inl ⟨by have := HTH.out; rw [this]; simpa using h1, h2⟩)
      · exact h (.inr h3))
    have HFULL : Hid (er = 3 → AppTo w0 g F fl ws tot l s b w1) := Lib.hid (fun h => by
      unfold AppTo
      rw [← HE.out, h, if_neg (by decide)]
      exact H1.out)
    by_cases hfull : th = false ∧ 64 ≤ F.length
    · have HE3 := Lib.hid (HL3.out (.inl hfull))
      obtain ⟨rfl, h64⟩ := hfull
      have h64i : (64 : Int) ≤ (F.length : Int) := by omega
      go_wp2_with fail
      go_ret
      exact ⟨ret_int HE3.out.symm, HFULL.out HE3.out⟩
    by_cases hmany : 1048576 < tot + (b.length : Int)
    · have HE3 := Lib.hid (HL3.out (.inr hmany))
      cases th with
      | true =>
        go_wp2_with fail
        go_ret
        exact ⟨ret_int HE3.out.symm, HFULL.out HE3.out⟩
      | false =>
        have h64i : ¬ (64 : Int) ≤ (F.length : Int) := by have : ¬ 64 ≤ F.length := fun e => hfull ⟨rfl, e⟩
                                                          omega
        go_wp2_with fail
        go_ret
        exact ⟨ret_int HE3.out.symm, HFULL.out HE3.out⟩
    have HE0 := Lib.hid (HL0.out (fun h => h.elim hfull hmany))
    have hck : th = true ∨ (th = false ∧ ¬ (64 : Int) ≤ (F.length : Int)) := by
      cases th with
      | true => exact .inl rfl
      | false => exact .inr ⟨rfl, by have : ¬ 64 ≤ F.length := fun e => hfull ⟨rfl, e⟩
                                     omega⟩
    clear hfull
    have HP : Hid (Sp w0 (ownT layB 5 v (fl s) :: blkT g 85 #[.map (some mb), wv, .int .i64 tot] :: mapDk mb D :: ownT layD 92 wv ws :: (filesT (outF F s) sv fl ++ l)) w1.drew) := Lib.hid (by
      rw [HV3.out]
      exact Sp.keep (HD.out.pre HX.out.nd s (hfl.out.1 s)) (bel_drew (Below.refl _ _)))
    have HRD := Lib.hid (HR1.out.bel (bel_drew (Below.refl w1.heap.size w1)))
    have HFL := Lib.hid (hfl.out.2 s)
    clear HD HV3
    go_upto_region 4 with (fail)
    go_cut [44] (fun s W => s = .bool false ∧ W = w1)
    case first =>
      rcases hck with rfl | ⟨rfl, h64i⟩
      all_goals
        go_wp2_with fail
        go_meet
        exact ⟨by simp [hmany, *], rfl⟩
    case rest =>
      obtain ⟨rfl, rfl⟩ := hcut
      clear hck
      go_upto_region 6 with (fail)
      go_cut [52] (fun s52 W => ∃ (v1 : Value) (D5 : DataW Value), Hid (FileIs D5 (addF F s) (updF sv s v1)) ∧ Hid (DkS w0 g (addF F s) (updL fl s (fl s ++ b)) ws wv tot ⟨mb, D5, updF sv s v1, wv⟩ l W))
      case first =>
        go_region_law (first
          | (refine step_appAt (L := layB) 47 _ 1 Try.underlying47 infoB rfl rfl (.tmp 50) (.tmp 51) rfl w0.heap.size v (fl s) rfl (Sp.own HP.out (List.mem_cons_self ..)) A b.length c b rfl rfl HRD.out (by have := HFL.out; have := HBL.out; unfold maxLen; omega) (by have := HFL.out; have := HT.out; omega) (Sp.size HP.out) ?_
             intro v1 w3 ho1 hg1 h31
             obtain ⟨A1, cp1, rfl, -, -, -, -⟩ := ho1.form
             have hsp := Sp.app HP.out ho1 hg1 h31
             have c3 : ∀ i, w3.cell? ⟨g, i, none⟩ = (#[.map (some mb), wv, .int .i64 tot] : Array Value)[i]? := (Sp.blk hsp (g := g) (t := 85) (cs := #[.map (some mb), wv, .int .i64 tot]) (by simp)).cells
             obtain ⟨w5, hrun5, D5, hx5, hd5⟩ := DkS.mapped (x := ⟨mb, D, sv, wv⟩) HX.out.nd HX.out H64.out HSM.out hsp
             simp only [List.length_append] at hrun5
             have HX5 := Lib.hid hx5
             have HD5 := Lib.hid hd5
             have c5 : ∀ i, w5.cell? ⟨g, i, none⟩ = (#[.map (some mb), wv, .int .i64 tot] : Array Value)[i]? := hd5.blk.cells
             have f5 : ∀ i, w5.frozen? ⟨g, i, none⟩ = false := hd5.blk.free
             clear ho1 hg1 h31 hsp hx5 hd5))
        all_goals
          go_wp2_with fail
          go_meet
          exact ⟨_, _, HX5, HD5⟩
      case rest =>
        obtain ⟨v1, D5, HX5, HD5⟩ := hcut
        have c5 : ∀ i, wc.cell? ⟨g, i, none⟩ = (#[.map (some mb), wv, .int .i64 tot] : Array Value)[i]? := HD5.out.blk.cells
        have f5 : ∀ i, wc.frozen? ⟨g, i, none⟩ = false := HD5.out.blk.free
        go_upto_region 8 with (fail)
        have HD6 := Lib.hid (HD5.out.sett (tot + (b.length : Int)))
        clear HD5 c5 f5
        generalize wc.setCell ⟨g, 2, none⟩ (.int .i64 (tot + (b.length : Int))) = w6 at *
        have c6 : ∀ i, w6.cell? ⟨g, i, none⟩ = (#[.map (some mb), wv, .int .i64 (tot + (b.length : Int))] : Array Value)[i]? := HD6.out.blk.cells
        have HA6 := Lib.hid (HD6.out.keep (bel_new (Below.refl _ _) (.cells #[.string s, .int .i64 (b.length : Int)] 92)))
        go_wp2_with (at_builtin; refine wpList_appAt (L := layD) 83 _ 24 Try.underlying83 infoD rfl rfl (.tmp 66) (.tmp 71) rfl w0.heap.size wv ws rfl HA6.out.waits ⟨w6.heap.size, 0, none⟩ 1 1 [(s, b.length)] rfl rfl (rdL_lit w6 _ _ (by simp [maxLen]) _ rfl) (by have := HWS.out; simp [maxLen]; omega) (by have := HWS.out; simp; omega) HA6.out.lo ?_; intro v7 w7 ho7 hg7 h37; obtain ⟨A7, cp7, rfl, -, -, -, -⟩ := ho7.form; have HD7 := Lib.hid (HA6.out.appw ho7 hg7 h37); have f7 : ∀ i, w7.frozen? ⟨g, i, none⟩ = false := HD7.out.blk.free; have c7 : ∀ i, w7.cell? ⟨g, i, none⟩ = (#[.map (some mb), wv, .int .i64 (tot + (b.length : Int))] : Array Value)[i]? := HD7.out.blk.cells; clear ho7 hg7 h37)
        go_ret
        refine ⟨ret_int HE0.out.symm, ?_⟩
        unfold AppTo
        rw [← HE.out, HE0.out, if_pos rfl]
        have h9 := HD7.out.setw (.slice A7 (ws ++ [(s, b.length)]).length cp7)
        simp only [List.length_append] at h9
        exact DkS.to (x := ⟨mb, D5, updF sv s v1, .slice A7 (ws ++ [(s, b.length)]).length cp7⟩) HX5.out (by simp only [List.length_append]; exact h9)
end
end Go.Proofs.Ytheocdfccdpmbaa
