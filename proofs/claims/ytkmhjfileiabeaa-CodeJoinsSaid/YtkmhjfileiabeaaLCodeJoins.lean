/-
  CodeJoins: fields one behind the other are written as their bytes one behind the other; unlike lists of one length and the same kinds are written unlike.
  No condition.
-/
import Derived.Test.YtkmhjfileiabeaaCodeW
import Derived.Test.YtkmhjfileiabeaaFrame
import Derived.Test.YtkmhjfileiabeaaRows
import Derived.Laws.Strings
import Derived.BigQuiet
namespace Go.Proofs.Ytkmhjfileiabeaa.lawCodeJoins
open Go.RowKit Go.ChangeShapes Go.WideShapes Go.ChangeAt Go.Deep Go.Proofs.Ytkmhjfileiabeaa
set_option linter.unusedVariables false
set_option linter.unusedSimpArgs false

theorem take_map {α β : Type} [Inhabited α] (f : α → β) (l : List α) (k : Nat) (h : k < l.length) : (l.take (k + 1)).map f = (l.take k).map f ++ [f (l.getD k default)] := by
  rw [List.take_succ_eq_append_getElem h, List.map_append]
  simp [List.getD, h]
theorem same_step {a b : List Fi} {k : Nat} (ha : k < a.length) (hb : k < b.length) :
    (a.take (k + 1)).map Code.nm = (b.take (k + 1)).map Code.nm ↔ (a.take k).map Code.nm = (b.take k).map Code.nm ∧ Code.nm (a.getD k default) = Code.nm (b.getD k default) := by
  rw [take_map _ _ _ ha, take_map _ _ _ hb]
  constructor
  · intro h
    have := List.append_inj' h rfl
    exact ⟨this.1, by simpa using this.2⟩
  · rintro ⟨h1, h2⟩
    rw [h1, h2]
theorem kind_step {a b : List Fi} {k : Nat} (ha : k < a.length) (hb : k < b.length) (h : (a.take k).map (fun f => f.1) = (b.take k).map (fun f => f.1)) (h2 : (a.getD k default).1 = (b.getD k default).1) :
    (a.take (k + 1)).map (fun f => f.1) = (b.take (k + 1)).map (fun f => f.1) := by
  rw [take_map _ _ _ ha, take_map _ _ _ hb, h, h2]
theorem nm3 (n m : Int) (s u : ByteArray) : Code.nm (3, n, s) = Code.nm (3, m, u) ↔ s = u := by simp [Code.nm]
theorem nmN (k n m : Int) (s u : ByteArray) (h : k ≠ 3) : Code.nm (k, n, s) = Code.nm (k, m, u) ↔ n = m := by simp [Code.nm, h]

theorem st0 {a b : List Fi} {k : Nat} (ha : k < a.length) (hb : k < b.length) (h : false = true ↔ (a.take k).map Code.nm = (b.take k).map Code.nm) : false = true ↔ (a.take (k + 1)).map Code.nm = (b.take (k + 1)).map Code.nm :=
  ⟨fun h => (nomatch h), fun h2 => h.2 ((same_step ha hb).1 h2).1⟩
theorem st1 {a b : List Fi} {k : Nat} (ha : k < a.length) (hb : k < b.length) (h : true = true ↔ (a.take k).map Code.nm = (b.take k).map Code.nm) (hn : Code.nm (a.getD k default) = Code.nm (b.getD k default)) : true = true ↔ (a.take (k + 1)).map Code.nm = (b.take (k + 1)).map Code.nm :=
  ⟨fun _ => (same_step ha hb).2 ⟨h.1 rfl, hn⟩, fun _ => rfl⟩
theorem st2 {a b : List Fi} {k : Nat} (ha : k < a.length) (hb : k < b.length) (hn : Code.nm (a.getD k default) ≠ Code.nm (b.getD k default)) : false = true ↔ (a.take (k + 1)).map Code.nm = (b.take (k + 1)).map Code.nm :=
  ⟨fun h => (nomatch h), fun h2 => absurd ((same_step ha hb).1 h2).2 hn⟩
theorem toList_ne {s u : ByteArray} (h : s ≠ u) : (s.toList == u.toList) = false := by
  rw [beq_eq_false_iff_ne]
  intro e
  rw [ByteArray.toList_eq, ByteArray.toList_eq] at e
  exact h (bytes_inj e)
theorem res_pair {base : Nat} {o : Option (List Nat)} {v : Value} {w : World} (h : ResB base o v w) : ∃ u e : Value, v = .tuple #[u, e] := by
  cases o with
  | none => exact ⟨_, _, h⟩
  | some x => obtain ⟨u, h, _⟩ := h; exact ⟨_, _, h⟩
theorem res_none {base : Nat} {u e : Value} {w : World} (h : ResB base none (.tuple #[u, e]) w) : u = .slice none 0 0 ∧ e = .int .i64 1 := by
  have h' : Value.tuple #[u, e] = .tuple #[.slice none 0 0, .int .i64 1] := h
  injection h' with h'
  simpa using h'
theorem res_some {base : Nat} {u e : Value} {x : List Nat} {w : World} (h : ResB base (some x) (.tuple #[u, e]) w) : e = .int .i64 0 ∧ Own8 w base u x := by
  obtain ⟨u', h', ho⟩ := h
  injection h' with h'
  obtain ⟨rfl, rfl⟩ : u = u' ∧ e = _ := by simpa using h'
  exact ⟨rfl, ho⟩

set_option maxRecDepth 20000 in
set_option maxHeartbeats 8000000 in
theorem walk (A : Option Addr) (cap : Nat) (a : List Fi) (B : Option Addr) (capB : Nat) (b : List Fi) (w : World) (hR : Hid (RdF w A a)) (hla : a.length ≤ 9223372036854775807) (hM : Hid (RdF w B b)) (hlb : b.length ≤ 9223372036854775807) (hoa : Hid (Code.ok a)) (hob : Hid (Code.ok b)) :
    Calls Try.prog 10 #[.slice A a.length cap, .slice B b.length capB] w fun e w' => e = .returned (.bool true) ∧ Below w.heap.size w w' := by
  by_cases ha4 : a.length ≤ 4096
  rotate_left
  · have hai : (4096 : Int) < (a.length : Int) := by omega
    go_enter Try.func10, Try.ntmps10
    go_wp2_with fail
    refine (code_awake _).mono ?_
    rintro e w1 ⟨rfl, hb1⟩
    have HB1 := Lib.hid hb1
    clear hb1
    go_wp2_with fail
    go_ret
    exact ⟨rfl, HB1.out⟩
  have hai : ¬ (4096 : Int) < (a.length : Int) := by omega
  by_cases hb4 : b.length ≤ 4096
  rotate_left
  · have hbi : (4096 : Int) < (b.length : Int) := by omega
    go_enter Try.func10, Try.ntmps10
    go_wp2_with fail
    refine (code_awake _).mono ?_
    rintro e w1 ⟨rfl, hb1⟩
    have HB1 := Lib.hid hb1
    clear hb1
    go_wp2_with fail
    go_ret
    exact ⟨rfl, HB1.out⟩
  have hbi : ¬ (4096 : Int) < (b.length : Int) := by omega
  have HA4 := Lib.hid ha4
  have HB4 := Lib.hid hb4
  have HOAB : Hid (Code.ok (a ++ b)) := Lib.hid (fun f hf => by
    rcases List.mem_append.1 hf with h | h
    · exact hoa.out f h
    · exact hob.out f h)
  have HSAB := Lib.hid (Code.small HOAB.out (by rw [List.length_append]; omega))
  have HSA := Lib.hid (Code.small hoa.out (by omega))
  have HSB := Lib.hid (Code.small hob.out (by omega))
  have HLAB : Hid ((a ++ b).length ≤ 8192) := Lib.hid (by rw [List.length_append]; omega)
  clear ha4 hb4
  go_enter Try.func10, Try.ntmps10
  go_wp2_with fail
  refine (code_awake _).mono ?_
  rintro e w1 ⟨rfl, hb1⟩
  have HW1 := Lib.hid hb1
  clear hb1
  go_wp2_with fail
  refine (encode_calls A cap a w1 (hR.out.bel HW1.out) hla hoa.out HSA.out).mono ?_
  rintro e w2 ⟨⟨v2, rfl, hv2⟩, hb2⟩
  have HW2 := Lib.hid (bel_tr HW1.out hb2)
  -- the value that Encode gave is a pair
  obtain ⟨u2, e2, rfl⟩ := res_pair hv2
  have HV2 := Lib.hid hv2
  clear hb2 hv2
  go_wp2_with fail
  refine (encode_calls B capB b w2 (hM.out.bel HW2.out) hlb hob.out HSB.out).mono ?_
  rintro e w3 ⟨⟨v3, rfl, hv3⟩, hb3⟩
  have HW3 := Lib.hid (bel_tr HW2.out hb3)
  obtain ⟨u3, e3, rfl⟩ := res_pair hv3
  have HV3 := Lib.hid hv3
  have HK2 : Hid (∀ (v : Value) (x : List Nat), Own8 w2 w1.heap.size v x → Own8 w3 w1.heap.size v x) := Lib.hid (fun v x h => h.kept hb3)
  have hbn := Lib.hid (bel_new (Below.refl w3.heap.size w3) (.cells #[] 48))
  have HLIT := Lib.hid (OwnL.lit (L := layF) (e := 48) w3 w3.heap.size (Nat.le_refl _) [] (by simp) #[] rfl)
  clear hb3 hv3
  go_wp2_with (first
    | (at_builtin
       refine wpList_appL 37 _ 32 Try.underlying37 infoF rfl rfl (.tmp 34) (.tmp 35) rfl w3.heap.size _ [] rfl HLIT.out A a.length cap a rfl rfl (((hR.out.bel HW3.out).toL).bel hbn.out) (by have := HA4.out; simp [maxLen]; omega) (by have := HA4.out; simp; omega) (by simp) ?_
       intro v4 w4 ho4 hg4
       have hb4 := Lib.hid (OwnL.grown HLIT.out hbn.out (by simp) hg4)
       rw [List.nil_append] at ho4
       clear hg4)
    | (at_builtin
       refine wpList_appL 37 _ 32 Try.underlying37 infoF rfl rfl (.tmp 37) (.tmp 38) rfl w3.heap.size _ a rfl ho4 B b.length capB b rfl rfl (((hM.out.bel HW3.out).toL).bel hb4.out) (by have := HA4.out; have := HB4.out; simp [maxLen]; omega) (by have := HA4.out; have := HB4.out; omega) hb4.out.size ?_
       intro v5 w5 ho5 hg5
       have hb5 := Lib.hid (OwnL.grown ho4 hb4.out hb4.out.size hg5)
       clear hg5 ho4))
  obtain ⟨A5, c5, rfl, _, _, hR5, _⟩ := ho5.form
  have HR5 := Lib.hid hR5.toF
  have HW5 := Lib.hid (bel_tr HW3.out hb5.out)
  have HK3 : Hid (∀ (v : Value) (x : List Nat) (base : Nat), Own8 w3 base v x → Own8 w5 base v x) := Lib.hid (fun v x base h => h.kept hb5.out)
  have HAB := Lib.hid (show Code.enc a ≠ none → Code.enc b ≠ none → Code.enc (a ++ b) = some ((Code.enc a).getD [] ++ (Code.enc b).getD []) from fun h1 h2 => by
    rcases hx : Code.enc a with _ | x
    · exact absurd hx h1
    · rcases hy : Code.enc b with _ | y
      · exact absurd hy h2
      · rw [enc_app hx, hy]; rfl)
  have HAN := Lib.hid (show Code.enc a = none → Code.enc (a ++ b) = none from fun h => enc_app_none h)
  have HBN := Lib.hid (show Code.enc b = none → Code.enc (a ++ b) = none from fun h => by
    rcases hx : Code.enc a with _ | x
    · exact enc_app_none hx
    · rw [enc_app hx, h]; rfl)
  have henc := encode_calls A5 c5 (a ++ b) w5 HR5.out (by have := HLAB.out; omega) HOAB.out HSAB.out
  have HENC := Lib.hid henc
  clear henc ho5 hR5
  go_wp2_with fail
  refine HENC.out.mono ?_
  rintro e w6 ⟨⟨v6, rfl, hv6⟩, hb6⟩
  have HW6 := Lib.hid (bel_tr HW5.out hb6)
  have HK5 : Hid (∀ (v : Value) (x : List Nat) (base : Nat), Own8 w5 base v x → Own8 w6 base v x) := Lib.hid (fun v x base h => h.kept hb6)
  clear hb6 HENC
  have hv2 := HV2.out
  have hv3 := HV3.out
  clear HV2 HV3
  obtain ⟨u6, e6, rfl⟩ := res_pair hv6
  rcases hea : Code.enc a with _ | x
  · rw [HAN.out hea] at hv6
    rw [hea] at hv2
    obtain ⟨rfl, rfl⟩ := res_none hv2
    obtain ⟨rfl, rfl⟩ := res_none hv6
    clear hv2 hv3 hv6
    go_wp2_with fail
    go_ret
    exact ⟨rfl, HW6.out⟩
  rcases heb : Code.enc b with _ | y
  · rw [HBN.out heb] at hv6
    rw [heb] at hv3
    rw [hea] at hv2
    obtain ⟨rfl, rfl⟩ := res_none hv3
    obtain ⟨rfl, rfl⟩ := res_none hv6
    obtain ⟨rfl, _⟩ := res_some hv2
    clear hv2 hv3 hv6
    go_wp2_with fail
    go_ret
    exact ⟨rfl, HW6.out⟩
  have hab := HAB.out (by rw [hea]; simp) (by rw [heb]; simp)
  rw [hea, heb] at hab
  simp only [Option.getD_some] at hab
  rw [hab] at hv6
  rw [hea] at hv2
  rw [heb] at hv3
  obtain ⟨rfl, ho2⟩ := res_some hv2
  obtain ⟨rfl, ho3⟩ := res_some hv3
  obtain ⟨rfl, ho6⟩ := res_some hv6
  obtain ⟨A2, c2, rfl, _, hR2, _⟩ := (HK5.out _ _ _ (HK3.out _ _ _ (HK2.out _ _ ho2))).form
  obtain ⟨A3, c3, rfl, _, hR3, _⟩ := (HK5.out _ _ _ (HK3.out _ _ _ ho3)).form
  obtain ⟨A6, c6, rfl, _, hR6, _⟩ := ho6.form
  have hcv2 := conv8 hR2 c2
  have hcv3 := conv8 hR3 c3
  have hcv6 := conv8 hR6 c6
  rw [bs_app] at hcv6
  have HSM := Lib.hid (fun hk => Code.enc_same hea heb hoa.out hob.out hk)
  have hbsi : Hid (bs x = bs y ↔ x = y) := Lib.hid ⟨fun h => bs_inj hR2.lt hR3.lt h, fun h => by rw [h]⟩
  have HCV : Hid (∀ W, Below w6.heap.size w6 W → (convert 22 9 (.slice A2 x.length c2)).run Try.prog W = .ok (.string (bs x)) W ∧ (convert 22 9 (.slice A3 y.length c3)).run Try.prog W = .ok (.string (bs y)) W) :=
    Lib.hid (fun W hW => ⟨conv8 (hR2.bel hW) c2, conv8 (hR3.bel hW) c3⟩)
  have hxl : (x ++ y).length = x.length + y.length := List.length_append
  rw [hxl] at hcv6
  clear hv2 hv3 hv6 ho2 ho3 ho6 hR2 hR3 hR6 hab HAB HAN HBN hxl
  have hss : ¬ 9223372036854775807 < (bs x).size + (bs y).size := by
    have h1 := HSA.out a.length x (Nat.le_refl _) (by rw [List.take_length]; exact hea)
    have h2 := HSB.out b.length y (Nat.le_refl _) (by rw [List.take_length]; exact heb)
    rw [bs_size, bs_size]
    omega
  clear hea heb
  by_cases hll : a.length = b.length
  rotate_left
  · have hli : ((a.length : Int) != (b.length : Int)) = true := by rw [bne_iff_ne]; omega
    clear hll
    go_wp2_with fail
    go_ret
    exact ⟨rfl, HW6.out⟩
  have hli : ((a.length : Int) != (b.length : Int)) = false := by rw [hll]; simp
  have HLL := Lib.hid hll
  clear hll
  go_wp2_with fail
  go_loopg [12, 13] a.length (fun g v12 v13 W => Below w.heap.size w W ∧ Below w6.heap.size w6 W ∧ ∃ k : Nat, v13 = .int .i64 k ∧ ∃ sm : Bool, v12 = .bool sm ∧
    Hid (k + g = a.length ∧ (a.take k).map (fun f => f.1) = (b.take k).map (fun f => f.1) ∧ (sm = true ↔ (a.take k).map Code.nm = (b.take k).map Code.nm)))
  case atStart => exact ⟨HW6.out, Below.refl _ _, 0, rfl, true, rfl, Lib.hid ⟨by omega, by simp, by simp⟩⟩
  case round =>
    obtain ⟨hb1, hb2, k, rfl, sm, rfl, HI⟩ := hrel
    by_cases hlt : k < a.length
    · have hg : 0 < gk := by have := HI.out.1; omega
      have hl : (k : Int) < (a.length : Int) := by omega
      have hlb' : (k : Int) < (b.length : Int) := by have := HLL.out; omega
      have hltb : k < b.length := by have := HLL.out; omega
      obtain ⟨hkg, hks, hsm⟩ := HI.out
      have HKG := Lib.hid hkg
      have HSMK := Lib.hid hsm
      obtain ⟨b1, o1, rfl, hbl1, p1, p2, p3⟩ := hR.out k hlt
      obtain ⟨b2, o2, rfl, hbl2, q1, q2, q3⟩ := hM.out k hltb
      have hw := hb1
      replace p1 := (hw.cell (p := ⟨b1, o1 + k * 3, none⟩) hbl1).trans p1
      replace p2 := (hw.cell (p := ⟨b1, o1 + k * 3 + 1, none⟩) hbl1).trans p2
      replace p3 := (hw.cell (p := ⟨b1, o1 + k * 3 + 2, none⟩) hbl1).trans p3
      replace q1 := (hw.cell (p := ⟨b2, o2 + k * 3, none⟩) hbl2).trans q1
      replace q2 := (hw.cell (p := ⟨b2, o2 + k * 3 + 1, none⟩) hbl2).trans q2
      replace q3 := (hw.cell (p := ⟨b2, o2 + k * 3 + 2, none⟩) hbl2).trans q3
      obtain ⟨fa, hfa⟩ : ∃ fa, a.getD k default = fa := ⟨_, rfl⟩
      obtain ⟨fb, hfb⟩ : ∃ fb, b.getD k default = fb := ⟨_, rfl⟩
      rw [hfa] at p1 p2 p3
      rw [hfb] at q1 q2 q3
      obtain ⟨ka, na, sa⟩ := fa
      obtain ⟨kb, nb, sb'⟩ := fb
      simp only at p1 p2 p3 q1 q2 q3
      have HFA := Lib.hid hfa
      have HFB := Lib.hid hfb
      by_cases hkk : ka = kb
      rotate_left
      · have hki : (ka != kb) = true := by rw [bne_iff_ne]; exact hkk
        clear hkk hkg hks hsm hfa hfb HI hw
        go_wp2_with fail
        go_quiet (fail)
        go_wp2_with fail
        go_ret
        exact ⟨rfl, bel_drewN hb1 _⟩
      subst hkk
      have HKS2 := Lib.hid (kind_step hlt hltb hks (by rw [hfa, hfb]))
      clear hkg hks hsm hfa hfb HI hw
      rcases sm with _ | _
      · have HPF := Lib.hid (st0 hlt hltb HSMK.out)
        clear HSMK
        go_wp2_with fail
        go_quiet (fail)
        go_wp2_with fail
        go_quiet (fail)
        go_wp2_with fail
        go_roundg (gk - 1)
        case rel => exact ⟨bel_drewN hb1 _, bel_drewN hb2 _, k + 1, by go_num, false, rfl, Lib.hid ⟨by have := HKG.out; omega, HKS2.out, by simpa using HPF.out⟩⟩
        case measure => omega
      · by_cases h3 : ka = 3
        · subst h3
          by_cases hss' : sa = sb'
          · subst hss'
            have HPF := Lib.hid (st1 hlt hltb HSMK.out (by rw [HFA.out, HFB.out]; exact (nm3 _ _ _ _).2 rfl))
            clear HSMK
            go_wp2_with fail
            go_quiet (fail)
            go_wp2_with fail
            go_quiet (fail)
            go_wp2_with fail
            go_roundg (gk - 1)
            case rel => exact ⟨bel_drewN hb1 _, bel_drewN hb2 _, k + 1, by go_num, true, rfl, Lib.hid ⟨by have := HKG.out; omega, HKS2.out, by simpa using HPF.out⟩⟩
            case measure => omega
          · have hse := toList_ne hss'
            have HPF := Lib.hid (st2 hlt hltb (by rw [HFA.out, HFB.out]; exact fun e => hss' ((nm3 _ _ _ _).1 e)))
            clear HSMK hss'
            go_wp2_with fail
            go_quiet (fail)
            go_wp2_with fail
            go_quiet (fail)
            go_wp2_with fail
            go_roundg (gk - 1)
            case rel => exact ⟨bel_drewN hb1 _, bel_drewN hb2 _, k + 1, by go_num, false, rfl, Lib.hid ⟨by have := HKG.out; omega, HKS2.out, by simpa using HPF.out⟩⟩
            case measure => omega
        · have h3i : (ka == 3) = false := by rw [beq_eq_false_iff_ne]; exact h3
          have h3j : (ka != 3) = true := by rw [bne_iff_ne]; exact h3
          by_cases hnn : na = nb
          · subst hnn
            have HPF := Lib.hid (st1 hlt hltb HSMK.out (by rw [HFA.out, HFB.out]; exact (nmN _ _ _ _ _ h3).2 rfl))
            clear HSMK h3
            go_wp2_with fail
            go_quiet (fail)
            go_wp2_with fail
            go_quiet (fail)
            go_wp2_with fail
            go_roundg (gk - 1)
            case rel => exact ⟨bel_drewN hb1 _, bel_drewN hb2 _, k + 1, by go_num, true, rfl, Lib.hid ⟨by have := HKG.out; omega, HKS2.out, by simpa using HPF.out⟩⟩
            case measure => omega
          · have hnni : (na == nb) = false := by rw [beq_eq_false_iff_ne]; exact hnn
            have HPF := Lib.hid (st2 hlt hltb (by rw [HFA.out, HFB.out]; exact fun e => hnn ((nmN _ _ _ _ _ h3).1 e)))
            clear HSMK h3 hnn
            go_wp2_with fail
            go_quiet (fail)
            go_wp2_with fail
            go_quiet (fail)
            go_wp2_with fail
            go_roundg (gk - 1)
            case rel => exact ⟨bel_drewN hb1 _, bel_drewN hb2 _, k + 1, by go_num, false, rfl, Lib.hid ⟨by have := HKG.out; omega, HKS2.out, by simpa using HPF.out⟩⟩
            case measure => omega
    · have hl : ¬ (k : Int) < (a.length : Int) := by omega
      obtain ⟨hkg, hks, hsm⟩ := HI.out
      have hke : k = a.length := by omega
      rw [hke, List.take_length, HLL.out, List.take_length] at hks hsm
      have hiff := HSM.out hks
      have hxy := hiff.trans hsm.symm
      obtain ⟨r1, r2⟩ := HCV.out wr hb2
      have HHX := Lib.hid hxy
      have HBI := hbsi
      clear hkg hks hsm hiff hxy HI hke hlt
      rcases sm with _ | _
      · have hne : ((bs x).toList == (bs y).toList) = false := by
          refine toList_ne fun h => ?_
          have := HHX.out.1 (HBI.out.1 h)
          cases this
        go_wp2_with fail
        go_ret
        exact ⟨rfl, hb1⟩
      · have he : x = y := HHX.out.2 rfl
        subst he
        go_wp2_with fail
        go_ret
        exact ⟨rfl, hb1⟩

set_option maxRecDepth 100000 in
theorem walks {H : Type} (enc : TypeId × Value → H) : Walks enc Try.prog 10 Try.f10 := by
  intro W base args ds ps hval hA hwt
  rw [Try.params10] at hA hval hwt
  obtain ⟨v0, vs0, d0, ds0, p0, q0, hargs, rfl, rfl, h0, r0⟩ := trodAll_cons hA
  obtain ⟨v1, vs1, d1, ds1, p1, q1, rfl, rfl, rfl, h1, r1⟩ := trodAll_cons r0
  obtain ⟨rfl, rfl, rfl⟩ := trodAll_nil r1
  obtain rfl : args = #[v0, v1] := by cases args; simp_all
  obtain ⟨A, a, cap, rfl, c1, c2, hR, hoa⟩ := fields_arg (hval 0 37 v0 rfl rfl) h0 (weightsEach_at (i := 0) hwt rfl rfl)
  obtain ⟨B, b, capB, rfl, c3, c4, hM, hob⟩ := fields_arg (hval 1 37 v1 rfl rfl) h1 (weightsEach_at (i := 1) hwt rfl rfl)
  exact walk A cap a B capB b W (Lib.hid hR) (by omega) (Lib.hid hM) (by omega) (Lib.hid hoa) (Lib.hid hob)

set_option maxRecDepth 100000 in
theorem lifted (os : Os) (started : os.Started) (H : Type) (enc : TypeId × Value → H) :
    ReturnsInHanded {} Try.checked os 10 .any (Rows.codeJoinsSpec.pre6 enc Try.prog Try.f10 Rows.codeJoinsRow.domain false) (Rows.codeJoinsSpec.post enc Try.prog Try.f10 false true false false) :=
  frame_lifted (C := Try.checked) own started (by kernel_rfl) Try.func10
    (ChangeSpec.witness6 (enc := enc) (C := Try.checked) false ⟨#[], #[.slice none 0 0, .slice none 0 0], []⟩ 8 (by kernel_rfl) (by kernel_rfl) (by kernel_rfl) (by kernel_rfl)) laidOut (by kernel_rfl) rfl (by rfl) Try.underlying4
    (fun ds h => match ds, h with | [d0, d1], _ => ⟨rfl, rfl, rfl⟩) (walks enc)

theorem over : Rows.codeJoinsRow.holds Try.pinned (OpenSpec.ofChange Rows.codeJoinsSpec) :=
  OpenClaim.holds_of_wide 10 Try.f10 rfl rfl rfl rfl rfl rfl rfl ⟨rfl, rfl, rfl, rfl, rfl⟩ rfl rfl rfl rfl rfl (by kernel_rfl) Try.func10 (by kernel_rfl)
    (of_decide_eq_true (by kernel_rfl)) (by unfold Func.isWrapper; first | (rw [if_pos (by decide +kernel)]; kernel_rfl) | (rw [if_neg (by decide +kernel)]; exact ⟨rfl, rfl⟩))
    (fun os started H enc _ => lifted os started H enc)

/-- the statement -/
theorem proved : Rows.CodeJoinsSaid := over
end Go.Proofs.Ytkmhjfileiabeaa.lawCodeJoins
