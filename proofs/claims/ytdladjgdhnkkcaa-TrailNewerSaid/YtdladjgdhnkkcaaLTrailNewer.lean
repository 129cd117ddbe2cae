/-
  The statement TrailNewer: of two right logs one is as new as the other or newer; each as new as itself.
  No condition.
-/
import Derived.Test.YtdladjgdhnkkcaaTrW
namespace Go.Proofs.Ytdladjgdhnkkcaa.lawTrailNewer
open Go.ChangeShapes Go.WideShapes Go.ChangeAt Go.RowKit
set_option linter.unusedVariables false
set_option linter.unusedSimpArgs false

theorem plain (n x m y : Int) : ((decide (x < y) || (decide (y = x) && decide (n ≤ m))) || (decide (y < x) || (decide (x = y) && decide (m ≤ n)))) = true ∧
    (decide (x < x) || (decide (x = x) && decide (n ≤ n))) = true ∧
    ((((decide (x < y) || (decide (y = x) && decide (n ≤ m))) && (decide (y < x) || (decide (x = y) && decide (m ≤ n)))) == (decide (n = m) && decide (x = y))) = true) := by
  refine ⟨?_, ?_, ?_⟩
  · simp; omega
  · simp
  · rw [beq_iff_eq, Bool.eq_iff_iff]
    simp
    omega

set_option maxRecDepth 20000 in
set_option maxHeartbeats 4000000 in
theorem walk (b bt c ct : Int) (A B : Option Addr) (cap cap' : Nat) (es ls : List En) (w : World) (hR : RdE w A es) (hM : RdE w B ls) (hlen : es.length ≤ 2 ^ 47) (hll : ls.length ≤ 2 ^ 47) :
    Calls Try.prog 5 #[trV b bt A es.length cap, trV c ct B ls.length cap'] w fun e w' => e = .returned (.bool true) ∧ Below w.heap.size w w' := by
  have hck1 := Lib.hid (fun W hb => check_calls b bt A cap es W (hR.bel hb) (by omega))
  have hck2 := Lib.hid (fun W hb => check_calls c ct B cap' ls W (hM.bel hb) (by omega))
  have hl1 := Lib.hid (fun W hb => last2_calls b bt A cap es W (hR.bel hb) (by omega))
  have hl2 := Lib.hid (fun W hb => last2_calls c ct B cap' ls W (hM.bel hb) (by omega))
  have hS := Lib.hid (((SW.nil w).new 24 #[.int .i64 b, .int .i64 bt, .slice A es.length cap] w.heap.size rfl).new 24 #[.int .i64 c, .int .i64 ct, .slice B ls.length cap'] (w.heap.size + 1) (by simp))
  by_cases h1 : Tr.chk b bt es = true
  · by_cases h2 : Tr.chk c ct ls = true
    · obtain ⟨n, hn⟩ : ∃ n, n = Tr.lastN b bt es := ⟨_, rfl⟩
      obtain ⟨x, hx⟩ : ∃ x, x = Tr.lastT b bt es := ⟨_, rfl⟩
      obtain ⟨m, hm⟩ : ∃ m, m = Tr.lastN c ct ls := ⟨_, rfl⟩
      obtain ⟨y, hy⟩ : ∃ y, y = Tr.lastT c ct ls := ⟨_, rfl⟩
      have hn1 := Lib.hid (fun W hb => newer_calls b bt m y A cap es W (hR.bel hb) (by omega))
      have hn2 := Lib.hid (fun W hb => newer_calls c ct n x B cap' ls W (hM.bel hb) (by omega))
      have hn3 := Lib.hid (fun W hb => newer_calls b bt n x A cap es W (hR.bel hb) (by omega))
      have e1 : ∀ p q, Tr.newer b bt es p q = (decide (x < q) || (decide (q = x) && decide (n ≤ p))) := fun p q => by unfold Tr.newer; rw [h1, ← hx, ← hn, Bool.true_and]
      have e2 : ∀ p q, Tr.newer c ct ls p q = (decide (y < q) || (decide (q = y) && decide (m ≤ p))) := fun p q => by unfold Tr.newer; rw [h2, ← hy, ← hm, Bool.true_and]
      rw [e1] at hn1 hn3
      rw [e2] at hn2
      rw [h1] at hck1
      rw [h2] at hck2
      rw [← hn, ← hx] at hl1
      rw [← hm, ← hy] at hl2
      obtain ⟨p1, p2, p3⟩ := plain n x m y
      have en : (n == m) = decide (n = m) := by rw [Bool.eq_iff_iff]; simp
      have ex : (x == y) = decide (x = y) := by rw [Bool.eq_iff_iff]; simp
      rw [← en, ← ex] at p3
      generalize hu : (decide (x < y) || (decide (y = x) && decide (n ≤ m))) = u at *
      generalize hd : (decide (y < x) || (decide (x = y) && decide (m ≤ n))) = d at *
      generalize hz : (decide (x < x) || (decide (x = x) && decide (n ≤ n))) = z at *
      subst p2
      generalize hen : (n == m) = q1 at *
      generalize hex : (x == y) = q2 at *
      have HEN := Lib.hid hen
      have HEX := Lib.hid hex
      have P1 := Lib.hid p1
      have P3 := Lib.hid p3
      clear hn hx hm hy e1 e2 h1 h2 hR hM hu hd hz p1 p3 en ex hen hex
      go_enter Try.func5, Try.ntmps5
      go_wp2_with fail
      refine (trail_awake _).mono ?_
      rintro e w0 ⟨rfl, hb0⟩
      have hs0 := Lib.hid (hS.out.bel hb0)
      have c0 := (hs0.out.at_ 0 rfl).cells
      have d0 := (hs0.out.at_ 1 rfl).cells
      clear hb0 hS
      go_wp2_with fail
      refine (hck1.out _ hs0.out.1).mono ?_
      rintro e w1 ⟨rfl, hb1⟩
      have hs1 := Lib.hid (hs0.out.bel hb1)
      have c1 := (hs1.out.at_ 0 rfl).cells
      have d1 := (hs1.out.at_ 1 rfl).cells
      clear hb1 hs0 c0 d0 hck1
      go_wp2_with fail
      refine (hck2.out _ hs1.out.1).mono ?_
      rintro e w2 ⟨rfl, hb2⟩
      have hs2 := Lib.hid (hs1.out.bel hb2)
      have c2 := (hs2.out.at_ 0 rfl).cells
      have d2 := (hs2.out.at_ 1 rfl).cells
      clear hb2 hs1 c1 d1 hck2
      go_wp2_with fail
      refine (hl1.out _ hs2.out.1).mono ?_
      rintro e w3 ⟨rfl, hb3⟩
      have hs3 := Lib.hid (hs2.out.bel hb3)
      have c3 := (hs3.out.at_ 0 rfl).cells
      have d3 := (hs3.out.at_ 1 rfl).cells
      clear hb3 hs2 c2 d2 hl1
      go_wp2_with fail
      refine (hl2.out _ hs3.out.1).mono ?_
      rintro e w4 ⟨rfl, hb4⟩
      have hs4 := Lib.hid (hs3.out.bel hb4)
      have c4 := (hs4.out.at_ 0 rfl).cells
      have d4 := (hs4.out.at_ 1 rfl).cells
      clear hb4 hs3 c3 d3 hl2
      go_wp2_with fail
      refine (hn1.out _ hs4.out.1).mono ?_
      rintro e w5 ⟨rfl, hb5⟩
      have hs5 := Lib.hid (hs4.out.bel hb5)
      have c5 := (hs5.out.at_ 0 rfl).cells
      have d5 := (hs5.out.at_ 1 rfl).cells
      clear hb5 hs4 c4 d4 hn1
      go_wp2_with fail
      refine (hn2.out _ hs5.out.1).mono ?_
      rintro e w6 ⟨rfl, hb6⟩
      have hs6 := Lib.hid (hs5.out.bel hb6)
      have c6 := (hs6.out.at_ 0 rfl).cells
      have d6 := (hs6.out.at_ 1 rfl).cells
      clear hb6 hs5 c5 d5 hn2
      cases u <;> cases d
      all_goals first | (exfalso; have hq := P1.out; revert hq; decide) | skip
      all_goals
        go_wp2_with fail
        refine (hn3.out _ hs6.out.1).mono ?_
        rintro e w7 ⟨rfl, hb7⟩
        have hs7 := Lib.hid (hs6.out.bel hb7)
        have c7 := (hs7.out.at_ 0 rfl).cells
        have d7 := (hs7.out.at_ 1 rfl).cells
        clear hb7 hs6 c6 d6 hn3
        have hen := HEN.out
        have hex := HEX.out
        have p3 := P3.out
        cases q1 <;> cases q2
        all_goals first | (exfalso; revert p3; decide) | skip
        all_goals
          clear HEN HEX P3 P1 p3
          go_wp2_with fail
          all_goals
            go_ret
            exact ⟨rfl, hs7.out.1⟩
    · simp only [Bool.not_eq_true] at h2
      rw [h1] at hck1
      rw [h2] at hck2
      clear hl1 hl2 h1 h2
      go_enter Try.func5, Try.ntmps5
      go_wp2_with fail
      refine (trail_awake _).mono ?_
      rintro e w0 ⟨rfl, hb0⟩
      have hs0 := Lib.hid (hS.out.bel hb0)
      have c0 := (hs0.out.at_ 0 rfl).cells
      have d0 := (hs0.out.at_ 1 rfl).cells
      clear hb0 hS
      go_wp2_with fail
      refine (hck1.out _ hs0.out.1).mono ?_
      rintro e w1 ⟨rfl, hb1⟩
      have hs1 := Lib.hid (hs0.out.bel hb1)
      have c1 := (hs1.out.at_ 0 rfl).cells
      have d1 := (hs1.out.at_ 1 rfl).cells
      clear hb1 hs0 c0 d0 hck1
      go_wp2_with fail
      refine (hck2.out _ hs1.out.1).mono ?_
      rintro e w2 ⟨rfl, hb2⟩
      have hs2 := Lib.hid (hs1.out.bel hb2)
      have c2 := (hs2.out.at_ 0 rfl).cells
      have d2 := (hs2.out.at_ 1 rfl).cells
      clear hb2 hs1 c1 d1 hck2
      go_wp2_with fail
      go_ret
      exact ⟨rfl, hs2.out.1⟩
  · simp only [Bool.not_eq_true] at h1
    rw [h1] at hck1
    clear hl1 hl2 h1 hck2
    go_enter Try.func5, Try.ntmps5
    go_wp2_with fail
    refine (trail_awake _).mono ?_
    rintro e w0 ⟨rfl, hb0⟩
    have hs0 := Lib.hid (hS.out.bel hb0)
    have c0 := (hs0.out.at_ 0 rfl).cells
    have d0 := (hs0.out.at_ 1 rfl).cells
    clear hb0 hS
    go_wp2_with fail
    refine (hck1.out _ hs0.out.1).mono ?_
    rintro e w1 ⟨rfl, hb1⟩
    have hs1 := Lib.hid (hs0.out.bel hb1)
    have c1 := (hs1.out.at_ 0 rfl).cells
    have d1 := (hs1.out.at_ 1 rfl).cells
    clear hb1 hs0 c0 d0 hck1
    go_wp2_with fail
    go_ret
    exact ⟨rfl, hs1.out.1⟩

set_option maxRecDepth 100000 in
theorem walks {H : Type} (enc : TypeId × Value → H) : Walks enc Try.prog 5 Try.f5 := by
  intro W base args ds ps hval hA hwt
  rw [Try.params5] at hA hval hwt
  obtain ⟨v0, vs0, d0, ds0, p0, q0, hargs, rfl, rfl, h0, r0⟩ := trodAll_cons hA
  obtain ⟨v1, vs1, d1, ds1, p1, q1, rfl, rfl, rfl, h1, r1⟩ := trodAll_cons r0
  obtain ⟨rfl, rfl, rfl⟩ := trodAll_nil r1
  obtain rfl : args = #[v0, v1] := by cases args; simp_all
  obtain ⟨b, bt, A, es, cap, rfl, _, _, c1, c2, hR⟩ := trail_arg (hval 0 24 v0 rfl rfl) h0 (weightsEach_at (i := 0) hwt rfl rfl)
  obtain ⟨c, ct, B, ls, cap', rfl, _, _, c1', c2', hM⟩ := trail_arg (hval 1 24 v1 rfl rfl) h1 (weightsEach_at (i := 1) hwt rfl rfl)
  exact walk b bt c ct A B cap cap' es ls W hR hM (by omega) (by omega)

set_option maxRecDepth 100000 in
theorem lifted (os : Os) (started : os.Started) (H : Type) (enc : TypeId × Value → H) :
    ReturnsInHanded {} Try.checked os 5 .any (Rows.trailNewerSpec.pre6 enc Try.prog Try.f5 Rows.trailNewerRow.domain false) (Rows.trailNewerSpec.post enc Try.prog Try.f5 false true false false) :=
  frame_lifted (C := Try.checked) own started (by kernel_rfl) Try.func5
    (ChangeSpec.witness6 (enc := enc) (C := Try.checked) false ⟨#[], #[.agg #[.int .i64 0, .int .i64 0, .slice none 0 0], .agg #[.int .i64 0, .int .i64 0, .slice none 0 0]], []⟩ 8 (by kernel_rfl) (by kernel_rfl) (by kernel_rfl) (by kernel_rfl)) laidOut (by kernel_rfl) rfl (by rfl) Try.underlying4
    (fun ds h => match ds, h with | [d0, d1], _ => ⟨rfl, rfl, rfl⟩) (walks enc)

theorem over : Rows.trailNewerRow.holds Try.pinned (OpenSpec.ofChange Rows.trailNewerSpec) :=
  OpenClaim.holds_of_wide 5 Try.f5 rfl rfl rfl rfl rfl rfl rfl ⟨rfl, rfl, rfl, rfl, rfl⟩ rfl rfl rfl rfl rfl (by kernel_rfl) Try.func5 (by kernel_rfl)
    (of_decide_eq_true (by kernel_rfl)) (by unfold Func.isWrapper; first | (rw [if_pos (by decide +kernel)]; kernel_rfl) | (rw [if_neg (by decide +kernel)]; exact ⟨rfl, rfl⟩))
    (fun os started H enc _ => lifted os started H enc)

/-- the statement -/
theorem proved : Rows.TrailNewerSaid := over
end Go.Proofs.Ytdladjgdhnkkcaa.lawTrailNewer
