/-
  Contract: two items compared.
  No condition.
-/
import Derived.Test.YtheocdfccdpmbaaWh5
import Derived.Deep.RegionHeld3
import Derived.Shelf.SlSortCmp.WholeK
import Derived.Shelf.SlSortCmp.NoneTotal
import Derived.Ground.SlsfProg
namespace Go.Proofs.Ytheocdfccdpmbaa
open Go.RowKit Go.Maps
set_option linter.unusedVariables false
set_option linter.unusedSimpArgs false
set_option maxHeartbeats 4000000

def cmpI (x y : Int) : Int := if x < y then -1 else if y < x then 1 else 0
theorem nan64_calls (x : Int) (w : World) : Calls Try.prog 78 #[.int .i64 x] w fun e w' => e = .returned (.bool false) ∧ w = w' := by
  have hx : (x != x) = false := by simp
  go_enter Try.func78, Try.ntmps78
  go_wp2_with fail
  go_ret
  exact ⟨ret_bool (by simp), rfl⟩
theorem nan_calls (x : Int) (w : World) : Calls Try.prog 79 #[.int .i64 x] w fun e w' => e = .returned (.bool false) ∧ w = w' := by
  have hx : (x != x) = false := by simp
  go_enter Try.func79, Try.ntmps79
  go_wp2_with fail
  go_ret
  exact ⟨ret_bool (by simp), rfl⟩
theorem cmp64_calls (x y : Int) (w : World) : Calls Try.prog 61 #[.int .i64 x, .int .i64 y] w fun e w' => e = .returned (.int .i64 (cmpI x y)) ∧ w = w' := by
  have H1 := Lib.hid (fun z W => nan64_calls z W)
  by_cases c1 : x < y
  · go_enter Try.func61, Try.ntmps61
    go_wp2_with (go_at_call 78; refine (H1.out _ _).mono ?_; rintro e w' ⟨rfl, rfl⟩)
    go_ret
    exact ⟨ret_int (by unfold cmpI; rw [if_pos (by omega)]), rfl⟩
  · by_cases c2 : y < x
    · go_enter Try.func61, Try.ntmps61
      go_wp2_with (go_at_call 78; refine (H1.out _ _).mono ?_; rintro e w' ⟨rfl, rfl⟩)
      go_ret
      exact ⟨ret_int (by unfold cmpI; rw [if_neg (by omega), if_pos (by omega)]), rfl⟩
    · go_enter Try.func61, Try.ntmps61
      go_wp2_with (go_at_call 78; refine (H1.out _ _).mono ?_; rintro e w' ⟨rfl, rfl⟩)
      go_ret
      exact ⟨ret_int (by unfold cmpI; rw [if_neg (by omega), if_neg (by omega)]), rfl⟩
theorem cmp_calls (x y : Int) (w : World) : Calls Try.prog 62 #[.int .i64 x, .int .i64 y] w fun e w' => e = .returned (.int .i64 (cmpI x y)) ∧ w = w' := by
  have H1 := Lib.hid (fun z W => nan_calls z W)
  by_cases c1 : x < y
  · go_enter Try.func62, Try.ntmps62
    go_wp2_with (go_at_call 79; refine (H1.out _ _).mono ?_; rintro e w' ⟨rfl, rfl⟩)
    go_ret
    exact ⟨ret_int (by unfold cmpI; rw [if_pos (by omega)]), rfl⟩
  · by_cases c2 : y < x
    · go_enter Try.func62, Try.ntmps62
      go_wp2_with (go_at_call 79; refine (H1.out _ _).mono ?_; rintro e w' ⟨rfl, rfl⟩)
      go_ret
      exact ⟨ret_int (by unfold cmpI; rw [if_neg (by omega), if_pos (by omega)]), rfl⟩
    · go_enter Try.func62, Try.ntmps62
      go_wp2_with (go_at_call 79; refine (H1.out _ _).mono ?_; rintro e w' ⟨rfl, rfl⟩)
      go_ret
      exact ⟨ret_int (by unfold cmpI; rw [if_neg (by omega), if_neg (by omega)]), rfl⟩
theorem or_calls (g : Nat) (a b : Int) (w : World) (h0 : w.cell? ⟨g, 0, none⟩ = some (.int .i64 a)) (h1 : w.cell? ⟨g, 1, none⟩ = some (.int .i64 b)) :
    Calls Try.prog 60 #[.slice (some ⟨g, 0, none⟩) 2 2] w fun e w' => e = .returned (.int .i64 (if a = 0 then b else a)) ∧ w = w' := by
  by_cases ca : a = 0
  · subst ca
    by_cases cb : b = 0
    · subst cb
      go_enter Try.func60, Try.ntmps60
      go_wp2_with fail
      refine wp_loop_rounds 3 ?_
      rw [rounds_succ]
      go_wp2_with fail
      rw [rounds_succ]
      go_wp2_with fail
      rw [rounds_succ]
      go_wp2_with fail
      go_ret
      exact ⟨rfl, rfl⟩
    · have b1 : (b != 0) = true := by simp [cb]
      clear cb
      go_enter Try.func60, Try.ntmps60
      go_wp2_with fail
      refine wp_loop_rounds 2 ?_
      rw [rounds_succ]
      go_wp2_with fail
      rw [rounds_succ]
      go_wp2_with fail
      go_ret
      exact ⟨rfl, rfl⟩
  · have b1 : (a != 0) = true := by simp [ca]
    have HC := Lib.hid ca
    clear ca
    go_enter Try.func60, Try.ntmps60
    go_wp2_with fail
    refine wp_loop_rounds 1 ?_
    rw [rounds_succ]
    go_wp2_with fail
    go_ret
    exact ⟨ret_int (by first | rfl | rw [if_neg HC.out]), rfl⟩
/-- how two items stand to each other -/
def cfW (x y : Itm) : Int := if cmpI x.at_ y.at_ = 0 then cmpI x.id y.id else cmpI x.at_ y.at_
theorem compare_calls (x y : Itm) (w : World) : Calls Try.prog 43 #[itmV x, itmV y] w fun e w' => e = .returned (.int .i64 (cfW x y)) ∧ ∃ q os', w' = Sort.grow (w.drewN q) os' := by
  obtain ⟨xi, xa⟩ := x
  obtain ⟨yi, ya⟩ := y
  have H1 := Lib.hid (fun W => cmp64_calls xa ya W)
  have H2 := Lib.hid (fun W => cmp_calls xi yi W)
  unfold cfW
  simp only
  generalize cmpI xa ya = c1 at *
  generalize cmpI xi yi = c2 at *
  have H3 := Lib.hid (fun g W h0 h1 => or_calls g c1 c2 W h0 h1)
  generalize (if c1 = 0 then c2 else c1) = cr at *
  have HX := Lib.hid ((Blk.new w 31 #[.int .i64 xi, .int .i64 xa]).alloc (.cells #[.int .i64 yi, .int .i64 ya] 31))
  have HY := Lib.hid (Blk.new (w.alloc (.cells #[.int .i64 xi, .int .i64 xa] 31)) 31 #[.int .i64 yi, .int .i64 ya])
  have hsz : (w.alloc (.cells #[.int .i64 xi, .int .i64 xa] 31)).heap.size = w.heap.size + 1 := by unfold World.alloc; simp
  rw [hsz] at HY
  clear hsz
  go_enter Try.func43, Try.ntmps43
  go_upto_region 1 with (fail)
  have HG : Hid ((w.alloc (.cells #[.int .i64 xi, .int .i64 xa] 31)).alloc (.cells #[.int .i64 yi, .int .i64 ya] 31) = Sort.grow w #[.cells #[.int .i64 xi, .int .i64 xa] 31, .cells #[.int .i64 yi, .int .i64 ya] 31]) := Lib.hid (by rw [Sort.alloc_eq_grow, Sort.alloc_eq_grow, Sort.grow_grow]; rfl)
  generalize (w.alloc (.cells #[.int .i64 xi, .int .i64 xa] 31)).alloc (.cells #[.int .i64 yi, .int .i64 ya] 31) = w1 at *
  go_region_held3 (fun W => W.cell? ⟨w.heap.size, 0, none⟩ = some (.int .i64 xi) ∧ W.cell? ⟨w.heap.size, 1, none⟩ = some (.int .i64 xa) ∧ W.cell? ⟨w.heap.size + 1, 0, none⟩ = some (.int .i64 yi) ∧ W.cell? ⟨w.heap.size + 1, 1, none⟩ = some (.int .i64 ya)) (first | exact ⟨HX.out.cells 0, HX.out.cells 1, HY.out.cells 0, HY.out.cells 1⟩ | exact ⟨(HX.out.alloc _).cells 0, (HX.out.alloc _).cells 1, (HY.out.alloc _).cells 0, (HY.out.alloc _).cells 1⟩ | go_keep)
    (first
      | (go_at_call 61; refine (H1.out _).mono ?_; rintro e w' ⟨rfl, rfl⟩)
      | (go_at_call 62; refine (H2.out _).mono ?_; rintro e w' ⟨rfl, rfl⟩)
      | (go_at_call 60; refine (H3.out w1.heap.size (w1.alloc (.cells #[.int .i64 c1, .int .i64 c2] 3)).drew ((Blk.new w1 3 #[.int .i64 c1, .int .i64 c2]).cells 0) ((Blk.new w1 3 #[.int .i64 c1, .int .i64 c2]).cells 1)).mono ?_; rintro e w' ⟨rfl, rfl⟩))
  all_goals
    go_wp2_with fail
    go_ret
    refine ⟨rfl, ?_⟩
    rw [HG.out, Sort.alloc_eq_grow, Sort.grow_grow]
    exact ⟨1, _, rfl⟩
end Go.Proofs.Ytheocdfccdpmbaa
