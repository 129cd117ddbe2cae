/-
  Fields read from bytes: the reference's Decode.
  Conditions: kinds and bytes can be read; not more than 2^40 bytes.
-/
import Derived.Test.YtkmhjfileiabeaaCodeQ
import Derived.Test.YtkmhjfileiabeaaCodeW
namespace Go.Proofs.Ytkmhjfileiabeaa
open Go.RowKit
set_option linter.unusedVariables false
set_option linter.unusedSimpArgs false

theorem heap_last (w : World) (o : Obj) (n : Nat) (h : n = w.heap.size) : (w.alloc o).heap[n]? = some o := by
  subst h
  exact heap_alloc_new w o

set_option maxRecDepth 20000 in
set_option maxHeartbeats 8000000 in
theorem rdecode_calls (K : Option Addr) (kcap : Nat) (ks : List Int) (A : Option Addr) (cap : Nat) (xs : List Nat) (w : World) (hK : Hid (RdL (layI .i64) w K ks)) (hkl : ks.length ≤ 9223372036854775807) (hR : Hid (Rd8 w A xs)) (hlen : xs.length ≤ cap) (hcap : cap ≤ 9223372036854775807) (hx : Hid (xs.length ≤ 2 ^ 40)) :
    Calls Try.prog 22 #[.slice K ks.length kcap, .slice A xs.length cap] w fun e w' => (∃ v, e = .returned (.tuple #[v, .int .i64 (Code.dec ks xs).2]) ∧ OwnL layF 48 w' w.heap.size v (Code.dec ks xs).1) ∧ Below w.heap.size w w' := by
  obtain ⟨r, hr⟩ : ∃ r, r = Code.dec ks xs := ⟨_, rfl⟩
  rw [← hr]
  have HR := Lib.hid hr
  have hx40 : xs.length ≤ 1099511627776 := hx.out
  clear hr
  go_enter Try.func22, Try.ntmps22
  go_wp2_with fail
  go_loopg [6, 7, 8, 9, 10, 11, 12] ks.length (fun g v6 v7 v8 v9 v10 v11 v12 W => Below w.heap.size w W ∧ ∃ k : Nat, v8 = .int .i64 k ∧ ∃ p : Nat, v7 = .int .i64 p ∧ p ≤ xs.length ∧
    Hid (k + g = ks.length ∧ ∃ fs, r = Code.ahead fs (Code.dec (ks.drop k) (xs.drop p)) ∧ OwnL layF 48 W w.heap.size v6 fs ∧ fs.length ≤ p))
  case atStart => exact ⟨Below.refl _ _, 0, rfl, 0, rfl, Nat.zero_le _, Lib.hid ⟨by omega, [], by rw [Code.ahead_nil]; exact HR.out, OwnL.nil _ _, by simp⟩⟩
  case round =>
    obtain ⟨hb, k, rfl, p, rfl, hpl, HI⟩ := hrel
    by_cases hlt : k < ks.length
    · have hg : 0 < gk := by have := HI.out.1; omega
      have hl : (k : Int) < (ks.length : Int) := by omega
      obtain ⟨hkg, fs, hfs, hown, hfl⟩ := HI.out
      have HKG := Lib.hid hkg
      have HOW := Lib.hid hown
      have HFL := Lib.hid hfl
      obtain ⟨b, off, rfl, hbl, hc⟩ := hK.out k hlt
      have d1 := (hb.cell (p := ⟨b, off + k * 1 + 0, none⟩) hbl).trans (hc 0 _ rfl)
      have hdr : ks.drop k = ks.getD k default :: ks.drop (k + 1) := by rw [List.drop_eq_getElem_cons hlt]; simp [List.getD, hlt]
      generalize ks.getD k default = kd at *
      simp only [Nat.mul_one, Nat.add_zero] at d1
      have HSTEP := Lib.hid (fun h => (hfs.trans (by rw [hdr])).trans (Code.ahead_step fs kd (ks.drop (k + 1)) (xs.drop p) h))
      have HBAD := Lib.hid (fun h => (hfs.trans (by rw [hdr])).trans (Code.ahead_bad fs kd (ks.drop (k + 1)) (xs.drop p) h))
      have HYX : Hid (∀ x ∈ xs.drop p, x < 256) := Lib.hid (fun x hx' => hR.out.lt x (List.mem_of_mem_drop hx'))
      clear hkg hown hfl HI hc hfs hdr
      by_cases hk : kd ≠ 1 ∧ kd ≠ 2 ∧ kd ≠ 3
      · have hfd : Code.fd kd (xs.drop p) = ((kd, 0, bs []), 0, 1) := by unfold Code.fd; rw [if_pos hk]
        have hbad := HBAD.out (by rw [hfd]; first | exact he | simp)
        rw [hfd] at hbad
        have HB2 := Lib.hid hbad
        clear hbad hfd HSTEP HBAD
        by_cases hk1 : kd < 1
        · clear hk
          go_wp2_with fail
          go_ret2
          rw [HB2.out]
          exact ⟨⟨_, rfl, OwnL.nil _ _⟩, bel_new hb _⟩
        · have hk3 : 3 < kd := by omega
          clear hk
          go_wp2_with fail
          go_ret2
          rw [HB2.out]
          exact ⟨⟨_, rfl, OwnL.nil _ _⟩, bel_new hb _⟩
      · have hk13 : kd = 1 ∨ kd = 2 ∨ kd = 3 := by omega
        obtain ⟨v, sz, e, ht⟩ : ∃ v sz e, Code.tk 0 0 (xs.drop p) = (v, sz, e) := ⟨_, _, _, rfl⟩
        have HT := Lib.hid ht
        have HK := Lib.hid hk
        have hdl : (xs.drop p).length = xs.length - p := List.length_drop
        have HDL := Lib.hid hdl
        clear hk hdl
        by_cases he : e = 0
        rotate_left
        · have hei : ((e : Int) != 0) = true := by rw [bne_iff_ne]; omega
          have hfd : Code.fd kd (xs.drop p) = ((kd, 0, bs []), 0, e) := by unfold Code.fd; rw [if_neg HK.out, HT.out, if_pos (show (v, sz, e).2.2 ≠ 0 from he)]
          have hbad := HBAD.out (by rw [hfd]; first | exact he | simp)
          rw [hfd] at hbad
          have HB2 := Lib.hid hbad
          clear hbad hfd HSTEP HBAD
          rcases hk13 with rfl | rfl | rfl
          · have hnum := number_calls A cap xs p (wr.alloc (.cells #[.int .i64 1, .int .i64 0, .string ⟨#[]⟩] 48)) (Lib.hid ((hR.out.bel hb).bel (bel_new (Below.refl _ wr) _))) (by omega) hpl
            rw [HT.out] at hnum
            simp only [if_neg he] at hnum
            have HNUM := Lib.hid hnum
            clear hnum ht
            go_wp2_with fail
            refine HNUM.out.mono ?_
            rintro e2 w2 ⟨rfl, rfl⟩
            go_wp2_with fail
            go_ret2
            rw [HB2.out]
            exact ⟨⟨_, rfl, OwnL.nil _ _⟩, bel_new hb _⟩
          · have hnum := number_calls A cap xs p (wr.alloc (.cells #[.int .i64 2, .int .i64 0, .string ⟨#[]⟩] 48)) (Lib.hid ((hR.out.bel hb).bel (bel_new (Below.refl _ wr) _))) (by omega) hpl
            rw [HT.out] at hnum
            simp only [if_neg he] at hnum
            have HNUM := Lib.hid hnum
            clear hnum ht
            go_wp2_with fail
            refine HNUM.out.mono ?_
            rintro e2 w2 ⟨rfl, rfl⟩
            go_wp2_with fail
            go_ret2
            rw [HB2.out]
            exact ⟨⟨_, rfl, OwnL.nil _ _⟩, bel_new hb _⟩
          · have hnum := number_calls A cap xs p (wr.alloc (.cells #[.int .i64 3, .int .i64 0, .string ⟨#[]⟩] 48)) (Lib.hid ((hR.out.bel hb).bel (bel_new (Below.refl _ wr) _))) (by omega) hpl
            rw [HT.out] at hnum
            simp only [if_neg he] at hnum
            have HNUM := Lib.hid hnum
            clear hnum ht
            go_wp2_with fail
            refine HNUM.out.mono ?_
            rintro e2 w2 ⟨rfl, rfl⟩
            go_wp2_with fail
            go_ret2
            rw [HB2.out]
            exact ⟨⟨_, rfl, OwnL.nil _ _⟩, bel_new hb _⟩
        subst he
        have hvlt : v < 18446744073709551616 := (Code.tk_inv0 HYX.out ht).2.2
        have hszl : p + sz ≤ xs.length := by
          have h1 := (Code.tk_inv0 HYX.out ht)
          have h2 := congrArg List.length h1.1
          rw [List.length_append, ← h1.2.1] at h2
          simp only [List.length_drop] at h2
          have := (Code.vb_pos v)
          omega
        rcases hk13 with rfl | rfl | rfl
        · by_cases h63 : 9223372036854775808 ≤ v
          · have hvi : (9223372036854775807 : Int) < (v : Int) := by omega
            have hfd : Code.fd 1 (xs.drop p) = ((1, 0, bs []), 0, 21) := by unfold Code.fd; rw [if_neg HK.out, HT.out, if_neg (by simp), if_pos rfl, if_pos (by simpa using h63)]
            have hbad := HBAD.out (by rw [hfd]; first | exact he | simp)
            rw [hfd] at hbad
            have HB2 := Lib.hid hbad
            clear hbad hfd HSTEP HBAD
            clear h63
            have hnum := number_calls A cap xs p (wr.alloc (.cells #[.int .i64 1, .int .i64 0, .string ⟨#[]⟩] 48)) (Lib.hid ((hR.out.bel hb).bel (bel_new (Below.refl _ wr) _))) (by omega) hpl
            rw [HT.out] at hnum
            simp only [ite_true] at hnum
            have HNUM := Lib.hid hnum
            clear hnum ht
            go_wp2_with fail
            refine HNUM.out.mono ?_
            rintro e2 w2 ⟨rfl, rfl⟩
            go_wp2_with fail
            go_ret2
            rw [HB2.out]
            exact ⟨⟨_, rfl, OwnL.nil _ _⟩, bel_new hb _⟩
          · have hvi : ¬ (9223372036854775807 : Int) < (v : Int) := by omega
            have hfd : Code.fd 1 (xs.drop p) = (((1, ((v : Nat) : Int), ⟨#[]⟩) : Fi), sz, 0) := by unfold Code.fd; rw [if_neg HK.out, HT.out, if_neg (by simp), if_pos rfl, if_neg (by simpa using h63)]; rfl
            have hst := HSTEP.out (by rw [hfd])
            rw [hfd] at hst
            simp only [List.drop_drop] at hst
            have HST := Lib.hid hst
            have hfsz := Code.fd_size 1 (xs.drop p) HYX.out (by rw [hfd])
            rw [hfd, HDL.out] at hfsz
            simp only at hfsz
            have HFS := Lib.hid hfsz
            clear h63 hst hfd HSTEP HBAD hfsz
            have hnum := number_calls A cap xs p (wr.alloc (.cells #[.int .i64 1, .int .i64 0, .string ⟨#[]⟩] 48)) (Lib.hid ((hR.out.bel hb).bel (bel_new (Below.refl _ wr) _))) (by omega) hpl
            rw [HT.out] at hnum
            simp only [ite_true] at hnum
            have HNUM := Lib.hid hnum
            clear hnum ht
            go_wp2_with fail
            refine HNUM.out.mono ?_
            rintro e2 w2 ⟨rfl, rfl⟩
            go_wp2_with (first
              | (at_builtin
                 go_loud (refine wpList_appL 37 _ 32 Try.underlying37 infoF rfl rfl (.tmp 90) (.tmp 92) rfl w.heap.size u6 fs rfl (HOW.out.kept (by repeat (first | exact Below.refl _ _ | refine bel_new ?_ _ | refine bel_set ?_ (Nat.le_refl _) _ _))) (some ⟨wr.heap.size + 1, 0, none⟩) 1 1 [((1, ((v : Nat) : Int), ⟨#[]⟩) : Fi)] rfl rfl (RdL.oneF _ ((1, ((v : Nat) : Int), ⟨#[]⟩) : Fi) _ (0, 0) (heap_last _ _ _ (by simp))) (by have := HFL.out; simp [maxLen]; omega) (by have := HFL.out; simp; omega) (Below.size (w := w) (by repeat (first | exact hb | refine bel_new ?_ _ | refine bel_set ?_ hb.size _ _))) ?_)
                 intro v2 w3 ho3 hg3
                 have hb3 := Lib.hid (OwnL.grown (w0 := w) (HOW.out.kept (by repeat (first | exact Below.refl _ _ | refine bel_new ?_ _ | refine bel_set ?_ (Nat.le_refl _) _ _))) (by repeat (first | exact hb | refine bel_new ?_ _ | refine bel_set ?_ hb.size _ _)) (Below.size (w := w) (by repeat (first | exact hb | refine bel_new ?_ _ | refine bel_set ?_ hb.size _ _))) hg3)))
            go_roundg (gk - 1)
            case rel => exact ⟨hb3.out, k + 1, by go_num, p + sz, by go_num, by have := HFS.out; omega, Lib.hid ⟨by have := HKG.out; omega, fs ++ [((1, ((v : Nat) : Int), ⟨#[]⟩) : Fi)], HST.out, ho3, by have := HFL.out; have := HFS.out; simp; omega⟩⟩
            case measure => omega
        · by_cases hodd : v % 2 = 1
          · have hoi : (v : Int) % 2 = 1 := by omega
            have hv2 : (v : Int) / 2 ≤ 9223372036854775807 := by omega
            have hfd : Code.fd 2 (xs.drop p) = (((2, -((v : Int) / 2) - 1, ⟨#[]⟩) : Fi), sz, 0) := by unfold Code.fd; rw [if_neg HK.out, HT.out, if_neg (by simp), if_neg (by omega), if_pos rfl]; unfold Code.uz; rw [if_pos hodd]; rfl
            have hst := HSTEP.out (by rw [hfd])
            rw [hfd] at hst
            simp only [List.drop_drop] at hst
            have HST := Lib.hid hst
            have hfsz := Code.fd_size 2 (xs.drop p) HYX.out (by rw [hfd])
            rw [hfd, HDL.out] at hfsz
            simp only at hfsz
            have HFS := Lib.hid hfsz
            clear hodd hst hfd HSTEP HBAD hfsz
            have hnum := number_calls A cap xs p (wr.alloc (.cells #[.int .i64 2, .int .i64 0, .string ⟨#[]⟩] 48)) (Lib.hid ((hR.out.bel hb).bel (bel_new (Below.refl _ wr) _))) (by omega) hpl
            rw [HT.out] at hnum
            simp only [ite_true] at hnum
            have HNUM := Lib.hid hnum
            clear hnum ht
            go_wp2_with fail
            refine HNUM.out.mono ?_
            rintro e2 w2 ⟨rfl, rfl⟩
            go_wp2_with (first
              | (at_builtin
                 go_loud (refine wpList_appL 37 _ 32 Try.underlying37 infoF rfl rfl (.tmp 90) (.tmp 92) rfl w.heap.size u6 fs rfl (HOW.out.kept (by repeat (first | exact Below.refl _ _ | refine bel_new ?_ _ | refine bel_set ?_ (Nat.le_refl _) _ _))) (some ⟨wr.heap.size + 1, 0, none⟩) 1 1 [((2, -((v : Int) / 2) - 1, ⟨#[]⟩) : Fi)] rfl rfl (RdL.oneF _ ((2, -((v : Int) / 2) - 1, ⟨#[]⟩) : Fi) _ (0, 0) (heap_last _ _ _ (by simp))) (by have := HFL.out; simp [maxLen]; omega) (by have := HFL.out; simp; omega) (Below.size (w := w) (by repeat (first | exact hb | refine bel_new ?_ _ | refine bel_set ?_ hb.size _ _))) ?_)
                 intro v2 w3 ho3 hg3
                 have hb3 := Lib.hid (OwnL.grown (w0 := w) (HOW.out.kept (by repeat (first | exact Below.refl _ _ | refine bel_new ?_ _ | refine bel_set ?_ (Nat.le_refl _) _ _))) (by repeat (first | exact hb | refine bel_new ?_ _ | refine bel_set ?_ hb.size _ _)) (Below.size (w := w) (by repeat (first | exact hb | refine bel_new ?_ _ | refine bel_set ?_ hb.size _ _))) hg3)))
            go_roundg (gk - 1)
            case rel => exact ⟨hb3.out, k + 1, by go_num, p + sz, by go_num, by have := HFS.out; omega, Lib.hid ⟨by have := HKG.out; omega, fs ++ [((2, -((v : Int) / 2) - 1, ⟨#[]⟩) : Fi)], HST.out, ho3, by have := HFL.out; have := HFS.out; simp; omega⟩⟩
            case measure => omega
          · have hoi : (v : Int) % 2 = 0 := by omega
            have hv2 : (v : Int) / 2 ≤ 9223372036854775807 := by omega
            have hfd : Code.fd 2 (xs.drop p) = (((2, (v : Int) / 2, ⟨#[]⟩) : Fi), sz, 0) := by unfold Code.fd; rw [if_neg HK.out, HT.out, if_neg (by simp), if_neg (by omega), if_pos rfl]; unfold Code.uz; rw [if_neg hodd]; rfl
            have hst := HSTEP.out (by rw [hfd])
            rw [hfd] at hst
            simp only [List.drop_drop] at hst
            have HST := Lib.hid hst
            have hfsz := Code.fd_size 2 (xs.drop p) HYX.out (by rw [hfd])
            rw [hfd, HDL.out] at hfsz
            simp only at hfsz
            have HFS := Lib.hid hfsz
            clear hodd hst hfd HSTEP HBAD hfsz
            have hnum := number_calls A cap xs p (wr.alloc (.cells #[.int .i64 2, .int .i64 0, .string ⟨#[]⟩] 48)) (Lib.hid ((hR.out.bel hb).bel (bel_new (Below.refl _ wr) _))) (by omega) hpl
            rw [HT.out] at hnum
            simp only [ite_true] at hnum
            have HNUM := Lib.hid hnum
            clear hnum ht
            go_wp2_with fail
            refine HNUM.out.mono ?_
            rintro e2 w2 ⟨rfl, rfl⟩
            go_wp2_with (first
              | (at_builtin
                 go_loud (refine wpList_appL 37 _ 32 Try.underlying37 infoF rfl rfl (.tmp 90) (.tmp 92) rfl w.heap.size u6 fs rfl (HOW.out.kept (by repeat (first | exact Below.refl _ _ | refine bel_new ?_ _ | refine bel_set ?_ (Nat.le_refl _) _ _))) (some ⟨wr.heap.size + 1, 0, none⟩) 1 1 [((2, (v : Int) / 2, ⟨#[]⟩) : Fi)] rfl rfl (RdL.oneF _ ((2, (v : Int) / 2, ⟨#[]⟩) : Fi) _ (0, 0) (heap_last _ _ _ (by simp))) (by have := HFL.out; simp [maxLen]; omega) (by have := HFL.out; simp; omega) (Below.size (w := w) (by repeat (first | exact hb | refine bel_new ?_ _ | refine bel_set ?_ hb.size _ _))) ?_)
                 intro v2 w3 ho3 hg3
                 have hb3 := Lib.hid (OwnL.grown (w0 := w) (HOW.out.kept (by repeat (first | exact Below.refl _ _ | refine bel_new ?_ _ | refine bel_set ?_ (Nat.le_refl _) _ _))) (by repeat (first | exact hb | refine bel_new ?_ _ | refine bel_set ?_ hb.size _ _)) (Below.size (w := w) (by repeat (first | exact hb | refine bel_new ?_ _ | refine bel_set ?_ hb.size _ _))) hg3)))
            go_roundg (gk - 1)
            case rel => exact ⟨hb3.out, k + 1, by go_num, p + sz, by go_num, by have := HFS.out; omega, Lib.hid ⟨by have := HKG.out; omega, fs ++ [((2, (v : Int) / 2, ⟨#[]⟩) : Fi)], HST.out, ho3, by have := HFL.out; have := HFS.out; simp; omega⟩⟩
            case measure => omega
        · by_cases h6 : 65536 < v
          · have h6i : (65536 : Int) < (v : Int) := by omega
            have hfd : Code.fd 3 (xs.drop p) = ((3, 0, bs []), 0, 21) := by unfold Code.fd; rw [if_neg HK.out, HT.out, if_neg (by simp), if_neg (by omega), if_neg (by omega), if_pos h6]
            have hbad := HBAD.out (by rw [hfd]; first | exact he | simp)
            rw [hfd] at hbad
            have HB2 := Lib.hid hbad
            clear hbad hfd HSTEP HBAD
            have hnum := number_calls A cap xs p (wr.alloc (.cells #[.int .i64 3, .int .i64 0, .string ⟨#[]⟩] 48)) (Lib.hid ((hR.out.bel hb).bel (bel_new (Below.refl _ wr) _))) (by omega) hpl
            rw [HT.out] at hnum
            simp only [ite_true] at hnum
            have HNUM := Lib.hid hnum
            clear hnum ht
            go_wp2_with fail
            refine HNUM.out.mono ?_
            rintro e2 w2 ⟨rfl, rfl⟩
            go_wp2_with fail
            go_ret2
            rw [HB2.out]
            exact ⟨⟨_, rfl, OwnL.nil _ _⟩, bel_new hb _⟩
          · have h6i : ¬ (65536 : Int) < (v : Int) := by omega
            by_cases hs : xs.length < p + sz + v
            · have hsi : (xs.length : Int) - ((p : Int) + (sz : Int)) < (v : Int) := by omega
              have hfd : Code.fd 3 (xs.drop p) = ((3, 0, bs []), 0, 20) := by unfold Code.fd; rw [if_neg HK.out, HT.out, if_neg (by simp), if_neg (by omega), if_neg (by omega), if_neg h6, if_pos (show (xs.drop p).length < sz + v by rw [HDL.out]; omega)]
              have hbad := HBAD.out (by rw [hfd]; first | exact he | simp)
              rw [hfd] at hbad
              have HB2 := Lib.hid hbad
              clear hbad hfd HSTEP HBAD
              have hnum := number_calls A cap xs p (wr.alloc (.cells #[.int .i64 3, .int .i64 0, .string ⟨#[]⟩] 48)) (Lib.hid ((hR.out.bel hb).bel (bel_new (Below.refl _ wr) _))) (by omega) hpl
              rw [HT.out] at hnum
              simp only [ite_true] at hnum
              have HNUM := Lib.hid hnum
              clear hnum ht
              go_wp2_with fail
              refine HNUM.out.mono ?_
              rintro e2 w2 ⟨rfl, rfl⟩
              go_wp2_with fail
              go_ret2
              rw [HB2.out]
              exact ⟨⟨_, rfl, OwnL.nil _ _⟩, bel_new hb _⟩
            · have hsi : ¬ (xs.length : Int) - ((p : Int) + (sz : Int)) < (v : Int) := by omega
              have hr3 : Rd8 wr A xs := hR.out.bel hb
              have hl0 : 0 < xs.length := by
                have h1 := (Code.tk_inv0 HYX.out ht)
                have := Code.vb_pos v
                omega
              obtain ⟨bx, ox, rfl, _⟩ := hr3.some hl0
              have hlv : ((xs.drop (p + sz)).take v).length = v := by rw [List.length_take, List.length_drop]; omega
              by_cases hcs : cap = p + sz
              · subst hcs
                have hv0 : v = 0 := by omega
                subst hv0
                have hcv := conv8 (w := wr.alloc (.cells #[.int .i64 3, .int .i64 0, .string ⟨#[]⟩] 48)) (A := some ⟨bx, ox, none⟩) (xs := []) (fun i hi => absurd hi (Nat.not_lt_zero _)) 0
                rw [show ([] : List Nat).length = 0 from rfl] at hcv
                clear hlv
                have hfd : Code.fd 3 (xs.drop p) = (((3, 0, bs []) : Fi), sz + 0, 0) := by unfold Code.fd; rw [if_neg HK.out, HT.out, if_neg (by simp), if_neg (by omega), if_neg (by omega), if_neg h6, if_neg (show ¬ (xs.drop p).length < sz + 0 by rw [HDL.out]; omega), List.drop_drop]; simp
                have hst := HSTEP.out (by rw [hfd])
                rw [hfd] at hst
                simp only [List.drop_drop] at hst
                have HST := Lib.hid hst
                have hfsz := Code.fd_size 3 (xs.drop p) HYX.out (by rw [hfd])
                rw [hfd, HDL.out] at hfsz
                simp only at hfsz
                have HFS := Lib.hid hfsz
                clear hst hfd HSTEP HBAD hfsz
                have hnum := number_calls (some ⟨bx, ox, none⟩) (p + sz) xs p (wr.alloc (.cells #[.int .i64 3, .int .i64 0, .string ⟨#[]⟩] 48)) (Lib.hid ((hR.out.bel hb).bel (bel_new (Below.refl _ wr) _))) (by omega) hpl
                rw [HT.out] at hnum
                simp only [ite_true] at hnum
                have HNUM := Lib.hid hnum
                clear hnum ht
                go_wp2_with fail
                refine HNUM.out.mono ?_
                rintro e2 w2 ⟨rfl, rfl⟩
                go_wp2_with (first
                  | (at_builtin
                     go_loud (refine wpList_appL 37 _ 32 Try.underlying37 infoF rfl rfl (.tmp 90) (.tmp 92) rfl w.heap.size u6 fs rfl (HOW.out.kept (by repeat (first | exact Below.refl _ _ | refine bel_new ?_ _ | refine bel_set ?_ (Nat.le_refl _) _ _))) (some ⟨wr.heap.size + 1, 0, none⟩) 1 1 [((3, 0, bs []) : Fi)] rfl rfl (RdL.oneF _ ((3, 0, bs []) : Fi) _ (0, 0) (heap_last _ _ _ (by simp))) (by have := HFL.out; simp [maxLen]; omega) (by have := HFL.out; simp; omega) (Below.size (w := w) (by repeat (first | exact hb | refine bel_new ?_ _ | refine bel_set ?_ hb.size _ _))) ?_)
                     intro v2 w3 ho3 hg3
                     have hb3 := Lib.hid (OwnL.grown (w0 := w) (HOW.out.kept (by repeat (first | exact Below.refl _ _ | refine bel_new ?_ _ | refine bel_set ?_ (Nat.le_refl _) _ _))) (by repeat (first | exact hb | refine bel_new ?_ _ | refine bel_set ?_ hb.size _ _)) (Below.size (w := w) (by repeat (first | exact hb | refine bel_new ?_ _ | refine bel_set ?_ hb.size _ _))) hg3)))
                go_roundg (gk - 1)
                case rel => exact ⟨hb3.out, k + 1, by go_num, p + sz, by go_num, by have := HFS.out; omega, Lib.hid ⟨by have := HKG.out; omega, fs ++ [((3, 0, bs []) : Fi)], by simpa using HST.out, ho3, by have := HFL.out; have := HFS.out; simp; omega⟩⟩
                case measure => omega
              · have hcv := conv8 (((hr3.bel (bel_new (Below.refl _ wr) (.cells #[.int .i64 3, .int .i64 0, .string ⟨#[]⟩] 48))).drop (p + sz)).take v) (cap - (p + sz))
                rw [hlv] at hcv
                have hcs' : ¬ p + sz = cap := fun e => hcs e.symm
                clear hlv
                have hfd : Code.fd 3 (xs.drop p) = (((3, 0, bs ((xs.drop (p + sz)).take v)) : Fi), sz + v, 0) := by unfold Code.fd; rw [if_neg HK.out, HT.out, if_neg (by simp), if_neg (by omega), if_neg (by omega), if_neg h6, if_neg (show ¬ (xs.drop p).length < sz + v by rw [HDL.out]; omega), List.drop_drop]
                have hst := HSTEP.out (by rw [hfd])
                rw [hfd] at hst
                simp only [List.drop_drop] at hst
                have HST := Lib.hid hst
                have hfsz := Code.fd_size 3 (xs.drop p) HYX.out (by rw [hfd])
                rw [hfd, HDL.out] at hfsz
                simp only at hfsz
                have HFS := Lib.hid hfsz
                clear hst hfd HSTEP HBAD hfsz
                have hnum := number_calls (some ⟨bx, ox, none⟩) cap xs p (wr.alloc (.cells #[.int .i64 3, .int .i64 0, .string ⟨#[]⟩] 48)) (Lib.hid ((hR.out.bel hb).bel (bel_new (Below.refl _ wr) _))) (by omega) hpl
                rw [HT.out] at hnum
                simp only [ite_true] at hnum
                have HNUM := Lib.hid hnum
                clear hnum ht
                go_wp2_with fail
                refine HNUM.out.mono ?_
                rintro e2 w2 ⟨rfl, rfl⟩
                go_wp2_with (first
                  | (at_builtin
                     go_loud (refine wpList_appL 37 _ 32 Try.underlying37 infoF rfl rfl (.tmp 90) (.tmp 92) rfl w.heap.size u6 fs rfl (HOW.out.kept (by repeat (first | exact Below.refl _ _ | refine bel_new ?_ _ | refine bel_set ?_ (Nat.le_refl _) _ _))) (some ⟨wr.heap.size + 1, 0, none⟩) 1 1 [((3, 0, bs ((xs.drop (p + sz)).take v)) : Fi)] rfl rfl (RdL.oneF _ ((3, 0, bs ((xs.drop (p + sz)).take v)) : Fi) _ (0, 0) (heap_last _ _ _ (by simp))) (by have := HFL.out; simp [maxLen]; omega) (by have := HFL.out; simp; omega) (Below.size (w := w) (by repeat (first | exact hb | refine bel_new ?_ _ | refine bel_set ?_ hb.size _ _))) ?_)
                     intro v2 w3 ho3 hg3
                     have hb3 := Lib.hid (OwnL.grown (w0 := w) (HOW.out.kept (by repeat (first | exact Below.refl _ _ | refine bel_new ?_ _ | refine bel_set ?_ (Nat.le_refl _) _ _))) (by repeat (first | exact hb | refine bel_new ?_ _ | refine bel_set ?_ hb.size _ _)) (Below.size (w := w) (by repeat (first | exact hb | refine bel_new ?_ _ | refine bel_set ?_ hb.size _ _))) hg3)))
                go_roundg (gk - 1)
                case rel => exact ⟨hb3.out, k + 1, by go_num, p + sz + v, by go_num, by have := HFS.out; omega, Lib.hid ⟨by have := HKG.out; omega, fs ++ [((3, 0, bs ((xs.drop (p + sz)).take v)) : Fi)], by have := HST.out; rwa [← Nat.add_assoc] at this, ho3, by have := HFL.out; have := HFS.out; simp; omega⟩⟩
                case measure => omega
    · have hl : ¬ (k : Int) < (ks.length : Int) := by omega
      obtain ⟨hkg, fs, hfs, hown, hfl⟩ := HI.out
      have hke : k = ks.length := by omega
      rw [hke, List.drop_length] at hfs
      have HFS := Lib.hid hfs
      have HOW := Lib.hid hown
      clear hkg hfs hown HI hlt hke hfl
      by_cases hy : p < xs.length
      · have hyl : (p : Int) < (xs.length : Int) := by omega
        have hne : xs.drop p ≠ [] := fun e => by
          have := congrArg List.length e
          rw [List.length_drop] at this
          simp at this
          omega
        have HFS2 : Hid (r = ([], 21)) := Lib.hid (by rw [HFS.out]; simp only [Code.dec, if_neg hne]; rfl)
        clear hne
        go_wp2_with fail
        go_ret2
        rw [HFS2.out]
        exact ⟨⟨_, rfl, OwnL.nil _ _⟩, hb⟩
      · have hyl : ¬ (p : Int) < (xs.length : Int) := by omega
        have hne : xs.drop p = [] := List.drop_eq_nil_of_le (by omega)
        have HFS2 : Hid (r = (fs, 0)) := Lib.hid (by rw [HFS.out]; simp only [Code.dec, if_pos hne]; simp [Code.ahead])
        clear hne
        go_wp2_with fail
        go_ret2
        rw [HFS2.out]
        exact ⟨⟨_, rfl, HOW.out⟩, hb⟩
end Go.Proofs.Ytkmhjfileiabeaa
