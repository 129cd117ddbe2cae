/-
  A number read from bytes, as the reference reads it.
  Conditions: the bytes can be read.
-/
import Derived.Test.YtkmhjfileiabeaaCodeM
namespace Go.Proofs.Ytkmhjfileiabeaa
open Go.RowKit
set_option linter.unusedVariables false
set_option linter.unusedSimpArgs false

namespace Code
/-- seven bits a byte, lowest first -/
def num7 : List Nat → Nat
  | [] => 0
  | x :: l => x % 128 + 128 * num7 l
theorem num7_drop (l : List Nat) (k : Nat) : num7 (l.drop k) ≤ num7 l := by
  induction l generalizing k with
  | nil => simp [num7]
  | cons x l ih =>
    cases k with
    | zero => simp
    | succ k => simp only [List.drop_succ_cons, num7]; have := ih k; omega
theorem tk_run : ∀ (l : List Nat) (i n : Nat) (rest : List Nat), (∀ x ∈ l, 128 ≤ x) → i + l.length ≤ 9 → tk i n (l ++ rest) = tk (i + l.length) (n + num7 l * 2 ^ (7 * i)) rest
  | [], i, n, rest, _, _ => by simp [num7]
  | x :: l, i, n, rest, hx, hi => by
    simp only [List.length_cons] at hi
    have h1 := hx x (by simp)
    rw [List.cons_append, tk, if_neg (by omega), if_neg (by omega), tk_run l (i + 1) _ rest (fun y hy => hx y (by simp [hy])) (by omega)]
    have hpow : 2 ^ (7 * (i + 1)) = 2 ^ (7 * i) * 128 := by rw [show 7 * (i + 1) = 7 * i + 7 from by omega, Nat.pow_add]
    rw [hpow, num7, List.length_cons, show i + 1 + l.length = i + (l.length + 1) from by omega]
    congr 1
    rw [Nat.add_mul, Nat.mul_assoc 128, Nat.mul_comm (2 ^ (7 * i)) 128, ← Nat.mul_assoc (num7 l), Nat.mul_comm (num7 l) 128, Nat.mul_assoc 128]
    omega
theorem tk_ten (l rest : List Nat) (hx : ∀ x ∈ l, 128 ≤ x) (hl : l.length = 10) : tk 0 0 (l ++ rest) = (0, 0, 21) := by
  have e : l = l.take 9 ++ l.drop 9 := (List.take_append_drop 9 l).symm
  rw [e, List.append_assoc, tk_run _ _ _ _ (fun x h => hx x (List.mem_of_mem_take h)) (by rw [List.length_take]; omega)]
  rcases hd : l.drop 9 with _ | ⟨z, r⟩
  · have := congrArg List.length hd
    rw [List.length_drop] at this
    simp at this
    omega
  · have hz : 128 ≤ z := hx z (List.mem_of_mem_drop (i := 9) (by rw [hd]; simp))
    have h9 : 0 + (l.take 9).length = 9 := by rw [List.length_take]; omega
    rw [h9, List.cons_append, tk, if_pos (.inl ⟨rfl, by omega⟩)]
theorem tk_end (l : List Nat) (hx : ∀ x ∈ l, 128 ≤ x) (hl : l.length ≤ 9) : tk 0 0 l = (0, 0, 20) := by
  have := tk_run l 0 0 [] hx (by omega)
  rw [List.append_nil] at this
  rw [this, tk]
theorem tk_bad (l rest : List Nat) (z : Nat) (hx : ∀ x ∈ l, 128 ≤ x) (hl : l.length ≤ 9) (h : (l.length = 9 ∧ 1 < z) ∨ (0 < l.length ∧ z = 0)) : tk 0 0 (l ++ z :: rest) = (0, 0, 21) := by
  rw [tk_run l 0 0 _ hx (by omega), tk, if_pos (by omega)]
theorem tk_good (l rest : List Nat) (z : Nat) (hx : ∀ x ∈ l, 128 ≤ x) (hl : l.length ≤ 9) (hz : z < 128) (h : ¬ ((l.length = 9 ∧ 1 < z) ∨ (0 < l.length ∧ z = 0))) : tk 0 0 (l ++ z :: rest) = (num7 (l ++ [z]), l.length + 1, 0) := by
  rw [tk_run l 0 0 _ hx (by omega), tk, if_neg (by omega), if_pos hz]
  have h1 : ∀ l : List Nat, num7 (l ++ [z]) = num7 l + z % 128 * 2 ^ (7 * l.length) := by
    intro l
    induction l with
    | nil => simp [num7]
    | cons x l ih =>
      rw [List.cons_append, num7, ih, num7, List.length_cons, show 7 * (l.length + 1) = 7 + 7 * l.length from by omega, Nat.pow_add, Nat.mul_add, ← Nat.mul_assoc (z % 128), Nat.mul_comm (z % 128) (2 ^ 7), Nat.mul_assoc, ← Nat.add_assoc]
  rw [h1]
  simp

theorem split3 (xs : List Nat) (p q : Nat) (h1 : p ≤ q) (h2 : q < xs.length) : xs.drop p = (xs.take q).drop p ++ xs.getD q 0 :: xs.drop (q + 1) := by
  have e : xs.drop p = (xs.drop p).take (q - p) ++ (xs.drop p).drop (q - p) := (List.take_append_drop _ _).symm
  rw [e, List.drop_drop, show p + (q - p) = q from by omega, List.drop_eq_getElem_cons h2, List.drop_take]
  simp [List.getD, h2]
theorem mid (xs : List Nat) (p q : Nat) (h : ∀ k, p ≤ k → k < q → 128 ≤ xs.getD k 0) (h2 : q ≤ xs.length) : ∀ x ∈ (xs.take q).drop p, 128 ≤ x := fun x hx => by
  obtain ⟨i, hi, e⟩ := List.getElem_of_mem hx
  rw [List.length_drop, List.length_take] at hi
  have := h (p + i) (by omega) (by omega)
  rw [List.getElem_drop, List.getElem_take] at e
  simp only [List.getD, List.getElem?_eq_getElem (show p + i < xs.length by omega), Option.getD_some, e] at this
  exact this
theorem mid_len (xs : List Nat) (p q : Nat) (h2 : q ≤ xs.length) : ((xs.take q).drop p).length = q - p := by
  rw [List.length_drop, List.length_take]; omega
/-- the bytes of one number, the last g of them left off -/
theorem num_step (xs : List Nat) (p q g : Nat) (h1 : p + g ≤ q) (h2 : q < xs.length) : num7 ((xs.take (q + 1)).drop (p + g)) = xs.getD (p + g) 0 % 128 + 128 * num7 ((xs.take (q + 1)).drop (p + g + 1)) := by
  have hl : p + g < (xs.take (q + 1)).length := by rw [List.length_take]; omega
  rw [List.drop_eq_getElem_cons hl, num7, List.getElem_take]
  simp [List.getD, show p + g < xs.length by omega]
end Code

set_option maxRecDepth 20000 in
set_option maxHeartbeats 4000000 in
theorem number_calls (A : Option Addr) (cap : Nat) (xs : List Nat) (p : Nat) (w : World) (hR : Hid (Rd8 w A xs)) (hlen : xs.length ≤ 4611686018427387904) (hp : p ≤ xs.length) :
    Calls Try.prog 33 #[.slice A xs.length cap, .int .i64 p] w fun e w' => e = .returned (.tuple #[.int .u64 (Code.tk 0 0 (xs.drop p)).1, .int .i64 (if (Code.tk 0 0 (xs.drop p)).2.2 = 0 then p + (Code.tk 0 0 (xs.drop p)).2.1 else 0 : Nat), .int .i64 (Code.tk 0 0 (xs.drop p)).2.2]) ∧ w = w' := by
  obtain ⟨r, hr⟩ : ∃ r, r = Code.tk 0 0 (xs.drop p) := ⟨_, rfl⟩
  rw [← hr]
  obtain ⟨N, hN⟩ : ∃ N, N = (if r.2.2 = 0 then p + r.2.1 else 0 : Nat) := ⟨_, rfl⟩
  rw [← hN]
  have HN := Lib.hid hN
  have HR := Lib.hid hr
  clear hr hN
  have hpi : (p : Int) ≤ (xs.length : Int) := by omega
  have hcell : Hid (∀ q, q < xs.length → ∃ b off, A = some ⟨b, off, none⟩ ∧ xs.getD q 0 < 256 ∧ w.cell? ⟨b, off + q, none⟩ = some (.int .u8 (xs.getD q 0 : Nat))) := Lib.hid (fun q hq => by
    obtain ⟨b, off, e, _, h2, h3⟩ := hR.out q hq
    exact ⟨b, off, e, h2, h3⟩)
  go_enter Try.func33, Try.ntmps33
  go_wp2_with fail
  go_loopg [7] (xs.length - p) (fun g v7 W => W = w ∧ ∃ q : Nat, v7 = .int .i64 q ∧ p ≤ q ∧ q + g = xs.length ∧ q ≤ p + 9 ∧ Hid (∀ k, p ≤ k → k < q → 128 ≤ xs.getD k 0))
  case atStart => exact ⟨rfl, p, rfl, by omega, by omega, by omega, Lib.hid (fun k h1 h2 => by omega)⟩
  case round =>
    obtain ⟨rfl, q, rfl, hpq, hqg, hq9, HQ⟩ := hrel
    by_cases hlt : q < xs.length
    · have hg : 0 < gk := by omega
      have hl : (q : Int) < (xs.length : Int) := by omega
      obtain ⟨b, off, rfl, hx, hcl⟩ := hcell.out q hlt
      obtain ⟨z, hz⟩ : ∃ z, z = xs.getD q 0 := ⟨_, rfl⟩
      rw [← hz] at hx hcl
      have HZ := Lib.hid hz
      have HG := Lib.hid hqg
      clear hz hqg
      by_cases h127 : 127 < z
      · have hzi : (127 : Int) < (z : Int) := by omega
        by_cases h10 : q = p + 9
        · have hr2 : r = (0, 0, 21) := by
            rw [HR.out, Code.split3 xs p q hpq hlt]
            have e : (xs.take q).drop p ++ xs.getD q 0 :: xs.drop (q + 1) = ((xs.take q).drop p ++ [xs.getD q 0]) ++ xs.drop (q + 1) := by simp
            rw [e]
            refine Code.tk_ten _ _ (fun x hx => ?_) (by rw [List.length_append, Code.mid_len xs p q (by omega)]; simp; omega)
            rcases List.mem_append.1 hx with h | h
            · exact Code.mid xs p q HQ.out (by omega) x h
            · have : x = xs.getD q 0 := by simpa using h
              rw [this, ← HZ.out]; omega
          have HR2 := Lib.hid hr2
          have hq1 : ¬ (q : Int) + 1 - (p : Int) ≤ 9 := by omega
          have hq2 : (9 : Int) < (q : Int) + 1 - (p : Int) := by omega
          clear hr2 h10
          go_wp2_with fail
          go_ret3
          rw [HR2.out, show N = 0 from by rw [HN.out, HR2.out]; rfl]
          exact ⟨rfl, rfl⟩
        · have hq2 : ¬ (9 : Int) < (q : Int) + 1 - (p : Int) := by omega
          go_wp2_with fail
          go_roundg (gk - 1)
          case rel => exact ⟨rfl, q + 1, by go_num, by omega, by have := HG.out; omega, by omega, Lib.hid (fun k h1 h2 => by
            rcases Nat.lt_or_ge k q with h | h
            · exact HQ.out k h1 h
            · have : k = q := by omega
              rw [this, ← HZ.out]; omega)⟩
          case measure => omega
      · have hzi : ¬ (127 : Int) < (z : Int) := by omega
        have hql : ((q : Int) == (xs.length : Int)) = false := by rw [beq_eq_false_iff_ne]; omega
        have hmid := Code.mid xs p q HQ.out (by omega)
        have hmlen := Code.mid_len xs p q (by omega)
        by_cases hbad : (q - p = 9 ∧ 1 < z) ∨ (0 < q - p ∧ z = 0)
        · have hr2 : r = (0, 0, 21) := by
            rw [HR.out, Code.split3 xs p q hpq hlt]
            exact Code.tk_bad _ _ _ hmid (by rw [hmlen]; omega) (by rw [hmlen, ← HZ.out]; exact hbad)
          have HR2 := Lib.hid hr2
          clear hr2 hmid hmlen
          rcases hbad with ⟨h9, h1⟩ | ⟨h0, rfl⟩
          · have a1 : (p : Int) < (q : Int) := by omega
            have a2 : (q : Int) - (p : Int) = 9 := by omega
            have a3 : (1 : Int) < (z : Int) := by omega
            have a4 : ((z : Int) == 0) = false := by rw [beq_eq_false_iff_ne]; omega
            go_wp2_with fail
            go_ret3
            rw [HR2.out, show N = 0 from by rw [HN.out, HR2.out]; rfl]
            exact ⟨rfl, rfl⟩
          · have a1 : (p : Int) < (q : Int) := by omega
            go_wp2_with fail
            go_ret3
            rw [HR2.out, show N = 0 from by rw [HN.out, HR2.out]; rfl]
            exact ⟨rfl, rfl⟩
        · have hr2 : r = (Code.num7 ((xs.take (q + 1)).drop p), q - p + 1, 0) := by
            rw [HR.out, Code.split3 xs p q hpq hlt, Code.tk_good _ _ _ hmid (by rw [hmlen]; omega) (by rw [← HZ.out]; omega) (by rw [hmlen, ← HZ.out]; exact hbad), hmlen]
            have e : (xs.take q).drop p ++ [xs.getD q 0] = (xs.take (q + 1)).drop p := by
              rw [take_snoc' xs q hlt, List.drop_append_of_le_length (by rw [List.length_take]; omega)]
            rw [e]
          have HR2 := Lib.hid hr2
          have hv : Code.num7 ((xs.take (q + 1)).drop p) < 2 ^ 64 := by
            have h1 : Code.tk 0 0 (xs.drop p) = (Code.num7 ((xs.take (q + 1)).drop p), q - p + 1, 0) := by rw [← HR.out]; exact HR2.out
            exact (Code.tk_inv0 (fun x hx => hR.out.lt x (List.mem_of_mem_drop hx)) h1).2.2
          have HV := Lib.hid hv
          have HBAD := Lib.hid hbad
          clear hr2 hv hmid hmlen HQ hzi
          by_cases hqp : q = p
          · have a1 : ¬ (p : Int) < (q : Int) := by omega
            have a2 : ((q : Int) - (p : Int) == 9) = false := by rw [beq_eq_false_iff_ne]; omega
            clear hbad hqp
            generalize gk = gk0 at *
            go_wp2_with fail
            go_loopg [8, 10] (q - p + 1) (fun g v8 v10 W => W = wr ∧ ∃ i : Int, v10 = .int .i64 i ∧ Hid (i = (p : Int) + g - 1) ∧ g ≤ q - p + 1 ∧ ∃ m : Nat, v8 = .int .u64 m ∧ Hid (m = Code.num7 ((xs.take (q + 1)).drop (p + g))))
            case atStart => exact ⟨rfl, q, rfl, Lib.hid (by omega), Nat.le_refl _, 0, rfl, Lib.hid (by rw [List.drop_eq_nil_of_le (by rw [List.length_take]; omega)]; rfl)⟩
            case round =>
              obtain ⟨rfl, i, rfl, HI, hgl, m, rfl, HM⟩ := hrel
              rcases gk with _ | g
              · have hi : ¬ (p : Int) ≤ i := by have := HI.out; omega
                have hi2 : i < (p : Int) := by omega
                have hN : N = q + 1 := by rw [HN.out, HR2.out]; simp; omega
                have hm : m = r.1 := by rw [HM.out, HR2.out]; rfl
                have HN2 := Lib.hid hN
                have HM2 := Lib.hid hm
                have hr22 : r.2.2 = 0 := by rw [HR2.out]
                have HR22 := Lib.hid hr22
                have hq1 : (q : Int) + 1 ≤ 9223372036854775807 := by omega
                clear hN hm hr22
                go_wp2_with fail
                go_ret3
                rw [HN2.out, ← HM2.out, HR22.out]
                exact ⟨rfl, rfl⟩
              · obtain ⟨j, hj⟩ : ∃ j, j = p + g := ⟨_, rfl⟩
                have hij : i = (j : Int) := by have := HI.out; push_cast at this; omega
                subst hij
                have hpj : (p : Int) ≤ (j : Int) := by omega
                have hjl : j < xs.length := by omega
                have hjl2 : (j : Int) < (xs.length : Int) := by omega
                obtain ⟨b2, off2, e2, y1, y2⟩ := hcell.out j hjl
                injection e2 with e2
                injection e2 with e3 e4 _
                subst e3; subst e4
                obtain ⟨y, hy⟩ : ∃ y, y = xs.getD j 0 := ⟨_, rfl⟩
                rw [← hy] at y1 y2
                have hst := Code.num_step xs p q g (by omega) (by omega)
                rw [← hj, ← hy, show j + 1 = p + (g + 1) from by omega, ← HM.out] at hst
                have hle : Code.num7 ((xs.take (q + 1)).drop j) ≤ Code.num7 ((xs.take (q + 1)).drop p) := by
                  have := Code.num7_drop ((xs.take (q + 1)).drop p) g
                  rwa [List.drop_drop, ← hj] at this
                have hb : m * 128 + y % 128 < 18446744073709551616 := by have := HV.out; omega
                have hb1 : (m : Int) * 128 < 18446744073709551616 := by omega
                have hb2 : (m : Int) * 128 + (y : Int) % 128 < 18446744073709551616 := by omega
                have HST := Lib.hid hst
                have HJ := Lib.hid hj
                clear hst hle hj hy HI HM hb
                go_wp2_with fail
                go_roundg g
                case rel => exact ⟨rfl, (j : Int) - 1, rfl, Lib.hid (by have := HJ.out; omega), by omega, m * 128 + y % 128, by push_cast; rfl, Lib.hid (by rw [← HJ.out, HST.out]; omega)⟩
                case measure => omega
          · have a1 : (p : Int) < (q : Int) := by omega
            have hz0 : z ≠ 0 := by omega
            have a4 : ((z : Int) == 0) = false := by rw [beq_eq_false_iff_ne]; omega
            by_cases h9 : q = p + 9
            · have hz1 : z = 1 := by omega
              have a2 : (q : Int) - (p : Int) = 9 := by omega
              subst hz1
              clear hbad h9 hqp hz0
              generalize gk = gk0 at *
              go_wp2_with fail
              go_loopg [8, 10] (q - p + 1) (fun g v8 v10 W => W = wr ∧ ∃ i : Int, v10 = .int .i64 i ∧ Hid (i = (p : Int) + g - 1) ∧ g ≤ q - p + 1 ∧ ∃ m : Nat, v8 = .int .u64 m ∧ Hid (m = Code.num7 ((xs.take (q + 1)).drop (p + g))))
              case atStart => exact ⟨rfl, q, rfl, Lib.hid (by omega), Nat.le_refl _, 0, rfl, Lib.hid (by rw [List.drop_eq_nil_of_le (by rw [List.length_take]; omega)]; rfl)⟩
              case round =>
                obtain ⟨rfl, i, rfl, HI, hgl, m, rfl, HM⟩ := hrel
                rcases gk with _ | g
                · have hi : ¬ (p : Int) ≤ i := by have := HI.out; omega
                  have hi2 : i < (p : Int) := by omega
                  have hN : N = q + 1 := by rw [HN.out, HR2.out]; simp; omega
                  have hm : m = r.1 := by rw [HM.out, HR2.out]; rfl
                  have HN2 := Lib.hid hN
                  have HM2 := Lib.hid hm
                  have hr22 : r.2.2 = 0 := by rw [HR2.out]
                  have HR22 := Lib.hid hr22
                  have hq1 : (q : Int) + 1 ≤ 9223372036854775807 := by omega
                  clear hN hm hr22
                  go_wp2_with fail
                  go_ret3
                  rw [HN2.out, ← HM2.out, HR22.out]
                  exact ⟨rfl, rfl⟩
                · obtain ⟨j, hj⟩ : ∃ j, j = p + g := ⟨_, rfl⟩
                  have hij : i = (j : Int) := by have := HI.out; push_cast at this; omega
                  subst hij
                  have hpj : (p : Int) ≤ (j : Int) := by omega
                  have hjl : j < xs.length := by omega
                  have hjl2 : (j : Int) < (xs.length : Int) := by omega
                  obtain ⟨b2, off2, e2, y1, y2⟩ := hcell.out j hjl
                  injection e2 with e2
                  injection e2 with e3 e4 _
                  subst e3; subst e4
                  obtain ⟨y, hy⟩ : ∃ y, y = xs.getD j 0 := ⟨_, rfl⟩
                  rw [← hy] at y1 y2
                  have hst := Code.num_step xs p q g (by omega) (by omega)
                  rw [← hj, ← hy, show j + 1 = p + (g + 1) from by omega, ← HM.out] at hst
                  have hle : Code.num7 ((xs.take (q + 1)).drop j) ≤ Code.num7 ((xs.take (q + 1)).drop p) := by
                    have := Code.num7_drop ((xs.take (q + 1)).drop p) g
                    rwa [List.drop_drop, ← hj] at this
                  have hb : m * 128 + y % 128 < 18446744073709551616 := by have := HV.out; omega
                  have hb1 : (m : Int) * 128 < 18446744073709551616 := by omega
                  have hb2 : (m : Int) * 128 + (y : Int) % 128 < 18446744073709551616 := by omega
                  have HST := Lib.hid hst
                  have HJ := Lib.hid hj
                  clear hst hle hj hy HI HM hb
                  go_wp2_with fail
                  go_roundg g
                  case rel => exact ⟨rfl, (j : Int) - 1, rfl, Lib.hid (by have := HJ.out; omega), by omega, m * 128 + y % 128, by push_cast; rfl, Lib.hid (by rw [← HJ.out, HST.out]; omega)⟩
                  case measure => omega
            · have a2 : ((q : Int) - (p : Int) == 9) = false := by rw [beq_eq_false_iff_ne]; omega
              clear hbad h9 hqp hz0
              generalize gk = gk0 at *
              go_wp2_with fail
              go_loopg [8, 10] (q - p + 1) (fun g v8 v10 W => W = wr ∧ ∃ i : Int, v10 = .int .i64 i ∧ Hid (i = (p : Int) + g - 1) ∧ g ≤ q - p + 1 ∧ ∃ m : Nat, v8 = .int .u64 m ∧ Hid (m = Code.num7 ((xs.take (q + 1)).drop (p + g))))
              case atStart => exact ⟨rfl, q, rfl, Lib.hid (by omega), Nat.le_refl _, 0, rfl, Lib.hid (by rw [List.drop_eq_nil_of_le (by rw [List.length_take]; omega)]; rfl)⟩
              case round =>
                obtain ⟨rfl, i, rfl, HI, hgl, m, rfl, HM⟩ := hrel
                rcases gk with _ | g
                · have hi : ¬ (p : Int) ≤ i := by have := HI.out; omega
                  have hi2 : i < (p : Int) := by omega
                  have hN : N = q + 1 := by rw [HN.out, HR2.out]; simp; omega
                  have hm : m = r.1 := by rw [HM.out, HR2.out]; rfl
                  have HN2 := Lib.hid hN
                  have HM2 := Lib.hid hm
                  have hr22 : r.2.2 = 0 := by rw [HR2.out]
                  have HR22 := Lib.hid hr22
                  have hq1 : (q : Int) + 1 ≤ 9223372036854775807 := by omega
                  clear hN hm hr22
                  go_wp2_with fail
                  go_ret3
                  rw [HN2.out, ← HM2.out, HR22.out]
                  exact ⟨rfl, rfl⟩
                · obtain ⟨j, hj⟩ : ∃ j, j = p + g := ⟨_, rfl⟩
                  have hij : i = (j : Int) := by have := HI.out; push_cast at this; omega
                  subst hij
                  have hpj : (p : Int) ≤ (j : Int) := by omega
                  have hjl : j < xs.length := by omega
                  have hjl2 : (j : Int) < (xs.length : Int) := by omega
                  obtain ⟨b2, off2, e2, y1, y2⟩ := hcell.out j hjl
                  injection e2 with e2
                  injection e2 with e3 e4 _
                  subst e3; subst e4
                  obtain ⟨y, hy⟩ : ∃ y, y = xs.getD j 0 := ⟨_, rfl⟩
                  rw [← hy] at y1 y2
                  have hst := Code.num_step xs p q g (by omega) (by omega)
                  rw [← hj, ← hy, show j + 1 = p + (g + 1) from by omega, ← HM.out] at hst
                  have hle : Code.num7 ((xs.take (q + 1)).drop j) ≤ Code.num7 ((xs.take (q + 1)).drop p) := by
                    have := Code.num7_drop ((xs.take (q + 1)).drop p) g
                    rwa [List.drop_drop, ← hj] at this
                  have hb : m * 128 + y % 128 < 18446744073709551616 := by have := HV.out; omega
                  have hb1 : (m : Int) * 128 < 18446744073709551616 := by omega
                  have hb2 : (m : Int) * 128 + (y : Int) % 128 < 18446744073709551616 := by omega
                  have HST := Lib.hid hst
                  have HJ := Lib.hid hj
                  clear hst hle hj hy HI HM hb
                  go_wp2_with fail
                  go_roundg g
                  case rel => exact ⟨rfl, (j : Int) - 1, rfl, Lib.hid (by have := HJ.out; omega), by omega, m * 128 + y % 128, by push_cast; rfl, Lib.hid (by rw [← HJ.out, HST.out]; omega)⟩
                  case measure => omega
    · have hl : ¬ (q : Int) < (xs.length : Int) := by omega
      have hke : q = xs.length := by omega
      have hr2 : r = (0, 0, 20) := by
        rw [HR.out]
        have e : xs.drop p = (xs.take q).drop p := by rw [hke, List.take_length]
        rw [e]
        exact Code.tk_end _ (Code.mid xs p q HQ.out (by omega)) (by rw [Code.mid_len xs p q (by omega)]; omega)
      have HR2 := Lib.hid hr2
      clear hr2 hlt
      subst hke
      go_wp2_with fail
      generalize gk = gk0 at *
      go_loopg [9] (xs.length - (p + 1)) (fun g v9 W => W = wr ∧ ∃ i : Nat, v9 = .int .i64 i ∧ p + 1 ≤ i ∧ i ≤ xs.length + 1 ∧ g = xs.length - i)
      case atStart => exact ⟨rfl, p + 1, by go_num, Nat.le_refl _, by omega, rfl⟩
      case round =>
        obtain ⟨rfl, i, rfl, hpi', hil, hgi⟩ := hrel
        by_cases hlt : i < xs.length
        · have hl2 : (i : Int) < (xs.length : Int) := by omega
          obtain ⟨b, off, rfl, y1, y2⟩ := hcell.out i hlt
          obtain ⟨y, hy⟩ : ∃ y, y = xs.getD i 0 := ⟨_, rfl⟩
          rw [← hy] at y1 y2
          have hy128 : 128 ≤ y := by rw [hy]; exact HQ.out i (by omega) hlt
          have q1 : ((y : Int) == 0) = false := by rw [beq_eq_false_iff_ne]; omega
          have q2 : ((i : Int) - (p : Int) == 9) = false := by rw [beq_eq_false_iff_ne]; omega
          have HGI := Lib.hid hgi
          clear hy hgi
          go_wp2_with fail
          go_roundg (gk - 1)
          case rel => exact ⟨rfl, i + 1, by go_num, by omega, by omega, by have := HGI.out; omega⟩
          case measure => have := HGI.out; omega
        · have hl2 : ¬ (i : Int) < (xs.length : Int) := by omega
          clear hgi
          go_wp2_with fail
          go_ret3
          rw [HR2.out, show N = 0 from by rw [HN.out, HR2.out]; rfl]
          exact ⟨rfl, rfl⟩
end Go.Proofs.Ytkmhjfileiabeaa
