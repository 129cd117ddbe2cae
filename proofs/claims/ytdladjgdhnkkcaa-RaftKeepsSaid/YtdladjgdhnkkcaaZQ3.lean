
/-
  slices.Sort of at most twelve numbers, whole.
  Conditions: not more than 12 numbers.
-/
import Derived.Test.YtdladjgdhnkkcaaZQ2
namespace Go.Proofs.Ytdladjgdhnkkcaa
open Go.RowKit
set_option linter.unusedVariables false
set_option linter.unusedSimpArgs false

theorem isort0I_calls (A : Option Addr) (cap : Nat) (w : World) :
    Calls Try.prog 105 #[.slice A 0 cap, .int .i64 0, .int .i64 0] w fun e w' => e = .returned (.tuple #[]) ∧ w = w' := by
  go_enter Try.func105, Try.ntmps105
  go_wp2_with fail
  go_loopg [6, 7] 1 (fun n v6 v7 W => W = w ∧ v6 = .int .i64 1)
  case atStart => exact ⟨rfl, rfl⟩
  case round =>
    obtain ⟨rfl, rfl⟩ := hrel
    go_wp2_with fail
    go_end0
    exact ⟨rfl, rfl⟩
set_option maxRecDepth 20000 in
set_option maxHeartbeats 4000000 in
theorem pdqI_calls (A : Option Addr) (cap n : Nat) (lim : Int) (w : World) (R : Ending → World → Prop) (hn : n ≤ 12)
    (hI : Hid (Calls Try.prog 105 #[.slice A n cap, .int .i64 0, .int .i64 n] w fun e w' => e = .returned (.tuple #[]) ∧ R e w')) :
    Calls Try.prog 97 #[.slice A n cap, .int .i64 0, .int .i64 n, .int .i64 lim] w fun e w' => e = .returned (.tuple #[]) ∧ R e w' := by
  have h12 : (n : Int) ≤ 12 := by omega
  go_enter Try.func97, Try.ntmps97
  go_wp2_with fail
  go_loopg [1, 2, 3, 8, 9] 1 (fun g v1 v2 v3 v8 v9 W => W = w ∧ v1 = .int .i64 0 ∧ v2 = .int .i64 n)
  case atStart => exact ⟨rfl, rfl, rfl⟩
  case round =>
    obtain ⟨rfl, rfl, rfl⟩ := hrel
    go_wp2_with fail
    refine hI.out.mono ?_
    rintro e w' ⟨rfl, hr⟩
    go_wp2_with fail
    first | go_end0 | (simp only [Exit.inBlock, Exit.then]; refine bodyPost_ret (results_none rfl _ _ _) rfl ?_) | refine bodyPost_ret (results_none rfl _ _ _) rfl ?_
    exact ⟨rfl, hr⟩
theorem sort0I_calls (A : Option Addr) (cap : Nat) (w : World) :
    Calls Try.prog 77 #[.slice A 0 cap] w fun e w' => e = .returned (.tuple #[]) ∧ w = w' := by
  have hl := Lib.hid (len_calls 0)
  have hp := Lib.hid (fun lim => pdqI_calls A cap 0 lim w (fun _ w' => w = w') (by decide) (Lib.hid (isort0I_calls A cap w)))
  go_enter Try.func77, Try.ntmps77
  go_wp2_with fail
  refine (hl.out w (by decide) (by decide)).mono ?_
  rintro e w' ⟨⟨i, rfl⟩, rfl⟩
  go_wp2_with fail
  refine (hp.out i).mono ?_
  rintro e w' ⟨rfl, rfl⟩
  go_wp2_with fail
  go_end0
  exact ⟨rfl, rfl⟩
theorem sortI_calls (base : Nat) (v : Value) (xs : List Int) (w : World) (hO : Hid (OwnL (layI .i64) 3 w base v xs)) (hlen : xs.length ≤ 12) :
    Calls Try.prog 77 #[v] w fun e w' => e = .returned (.tuple #[]) ∧ ∃ ys, ys.Perm xs ∧ ys.Pairwise (· ≤ ·) ∧ OwnL (layI .i64) 3 w' base v ys ∧ w.grownBy w' v.ownBlock := by
  rcases Nat.eq_zero_or_pos xs.length with h0 | h0
  · have hx : xs = [] := List.eq_nil_of_length_eq_zero h0
    subst hx
    obtain ⟨A, cap, rfl, _⟩ := hO.out.form
    refine (sort0I_calls A cap w).mono ?_
    rintro e w' ⟨rfl, rfl⟩
    exact ⟨rfl, [], List.Perm.refl _, List.Pairwise.nil, hO.out, World.grownBy.refl w _⟩
  · obtain ⟨g, cap, rfl, _, _, _, _⟩ := hO.out.block h0
    have hl := Lib.hid (fun w => len_calls xs.length w (by omega) (by omega))
    have hp := Lib.hid (fun lim => pdqI_calls (some ⟨g, 0, none⟩) cap xs.length lim w _ hlen (Lib.hid (isortI_calls base g cap xs w hO hlen)))
    have q2 : IntKind.u64.wrap (xs.length : Int) = (xs.length : Int) := by simp [IntKind.wrap, IntKind.bits, IntKind.signed]; omega
    go_enter Try.func77, Try.ntmps77
    go_wp2_with fail
    refine (hl.out w).mono ?_
    rintro e w' ⟨⟨i, rfl⟩, rfl⟩
    go_wp2_with fail
    refine (hp.out i).mono ?_
    rintro e w' ⟨rfl, hr⟩
    go_wp2_with fail
    go_end0
    exact ⟨rfl, hr⟩

theorem isort0L_calls (A : Option Addr) (cap : Nat) (w : World) :
    Calls Try.prog 116 #[.slice A 0 cap, .int .i64 0, .int .i64 0] w fun e w' => e = .returned (.tuple #[]) ∧ w = w' := by
  go_enter Try.func116, Try.ntmps116
  go_wp2_with fail
  go_loopg [6, 7] 1 (fun n v6 v7 W => W = w ∧ v6 = .int .i64 1)
  case atStart => exact ⟨rfl, rfl⟩
  case round =>
    obtain ⟨rfl, rfl⟩ := hrel
    go_wp2_with fail
    go_end0
    exact ⟨rfl, rfl⟩
set_option maxRecDepth 20000 in
set_option maxHeartbeats 4000000 in
theorem pdqL_calls (A : Option Addr) (cap n : Nat) (lim : Int) (w : World) (R : Ending → World → Prop) (hn : n ≤ 12)
    (hI : Hid (Calls Try.prog 116 #[.slice A n cap, .int .i64 0, .int .i64 n] w fun e w' => e = .returned (.tuple #[]) ∧ R e w')) :
    Calls Try.prog 99 #[.slice A n cap, .int .i64 0, .int .i64 n, .int .i64 lim] w fun e w' => e = .returned (.tuple #[]) ∧ R e w' := by
  have h12 : (n : Int) ≤ 12 := by omega
  go_enter Try.func99, Try.ntmps99
  go_wp2_with fail
  go_loopg [1, 2, 3, 8, 9] 1 (fun g v1 v2 v3 v8 v9 W => W = w ∧ v1 = .int .i64 0 ∧ v2 = .int .i64 n)
  case atStart => exact ⟨rfl, rfl, rfl⟩
  case round =>
    obtain ⟨rfl, rfl, rfl⟩ := hrel
    go_wp2_with fail
    refine hI.out.mono ?_
    rintro e w' ⟨rfl, hr⟩
    go_wp2_with fail
    first | go_end0 | (simp only [Exit.inBlock, Exit.then]; refine bodyPost_ret (results_none rfl _ _ _) rfl ?_) | refine bodyPost_ret (results_none rfl _ _ _) rfl ?_
    exact ⟨rfl, hr⟩
theorem sort0L_calls (A : Option Addr) (cap : Nat) (w : World) :
    Calls Try.prog 78 #[.slice A 0 cap] w fun e w' => e = .returned (.tuple #[]) ∧ w = w' := by
  have hl := Lib.hid (len_calls 0)
  have hp := Lib.hid (fun lim => pdqL_calls A cap 0 lim w (fun _ w' => w = w') (by decide) (Lib.hid (isort0L_calls A cap w)))
  go_enter Try.func78, Try.ntmps78
  go_wp2_with fail
  refine (hl.out w (by decide) (by decide)).mono ?_
  rintro e w' ⟨⟨i, rfl⟩, rfl⟩
  go_wp2_with fail
  refine (hp.out i).mono ?_
  rintro e w' ⟨rfl, rfl⟩
  go_wp2_with fail
  go_end0
  exact ⟨rfl, rfl⟩
theorem sortL_calls (base : Nat) (v : Value) (xs : List Int) (w : World) (hO : Hid (OwnL (layI .i64) 2 w base v xs)) (hlen : xs.length ≤ 12) :
    Calls Try.prog 78 #[v] w fun e w' => e = .returned (.tuple #[]) ∧ ∃ ys, ys.Perm xs ∧ ys.Pairwise (· ≤ ·) ∧ OwnL (layI .i64) 2 w' base v ys ∧ w.grownBy w' v.ownBlock := by
  rcases Nat.eq_zero_or_pos xs.length with h0 | h0
  · have hx : xs = [] := List.eq_nil_of_length_eq_zero h0
    subst hx
    obtain ⟨A, cap, rfl, _⟩ := hO.out.form
    refine (sort0L_calls A cap w).mono ?_
    rintro e w' ⟨rfl, rfl⟩
    exact ⟨rfl, [], List.Perm.refl _, List.Pairwise.nil, hO.out, World.grownBy.refl w _⟩
  · obtain ⟨g, cap, rfl, _, _, _, _⟩ := hO.out.block h0
    have hl := Lib.hid (fun w => len_calls xs.length w (by omega) (by omega))
    have hp := Lib.hid (fun lim => pdqL_calls (some ⟨g, 0, none⟩) cap xs.length lim w _ hlen (Lib.hid (isortL_calls base g cap xs w hO hlen)))
    have q2 : IntKind.u64.wrap (xs.length : Int) = (xs.length : Int) := by simp [IntKind.wrap, IntKind.bits, IntKind.signed]; omega
    go_enter Try.func78, Try.ntmps78
    go_wp2_with fail
    refine (hl.out w).mono ?_
    rintro e w' ⟨⟨i, rfl⟩, rfl⟩
    go_wp2_with fail
    refine (hp.out i).mono ?_
    rintro e w' ⟨rfl, hr⟩
    go_wp2_with fail
    go_end0
    exact ⟨rfl, hr⟩
end Go.Proofs.Ytdladjgdhnkkcaa
