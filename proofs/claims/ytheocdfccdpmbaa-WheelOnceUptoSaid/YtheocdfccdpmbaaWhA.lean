/-
  Contracts: a new wheel; what waits in a wheel.
  Conditions: stated lemma by lemma.
-/
import Derived.Test.YtheocdfccdpmbaaWh9
namespace Go.Proofs.Ytheocdfccdpmbaa
open Go.RowKit Go.Maps
set_option linter.unusedVariables false
set_option linter.unusedSimpArgs false
set_option maxHeartbeats 8000000

theorem zeroW : Try.zeroCells77 = (.int .i64 0 :: (List.replicate 256 (.slice none 0 0) ++ [.map none]) : List Value).toArray := by kernel_rfl
theorem zc (n : Nat) (a b c x y : Value) : (((a :: (List.replicate n b ++ [c]) : List Value).toArray.setIfInBounds 0 x).setIfInBounds (n + 1) y).size = n + 2 ∧
    (((a :: (List.replicate n b ++ [c]) : List Value).toArray.setIfInBounds 0 x).setIfInBounds (n + 1) y)[0]? = some x ∧
    (∀ j, j < n → (((a :: (List.replicate n b ++ [c]) : List Value).toArray.setIfInBounds 0 x).setIfInBounds (n + 1) y)[j + 1]? = some b) ∧
    (((a :: (List.replicate n b ++ [c]) : List Value).toArray.setIfInBounds 0 x).setIfInBounds (n + 1) y)[n + 1]? = some y := by
  refine ⟨by simp, ?_, fun j hj => ?_, ?_⟩
  · rw [Array.getElem?_setIfInBounds_ne (by omega)]; simp
  · rw [Array.getElem?_setIfInBounds_ne (by omega), Array.getElem?_setIfInBounds_ne (by omega)]
    simp only [List.getElem?_toArray, List.getElem?_cons_succ]
    rw [List.getElem?_append_left (by simp; omega), List.getElem?_replicate, if_pos hj]
  · rw [Array.getElem?_setIfInBounds_self_of_lt (by simp)]
/-- a wheel just made -/
theorem one_new (now : Int) (w : World) (h0 : 0 ≤ now) (h1 : now ≤ 226157759) :
    One w (w.heap.size + 1) w.heap.size now [] ((w.alloc (.map #[] 0)).alloc (.cells ((Try.zeroCells77.setIfInBounds 0 (.int .i64 now)).setIfInBounds 257 (.map (some w.heap.size))) 77)) := by
  have hm := World.ownsMap_made (H := Unit) w Try.prog 3 (plainElem Try.prog 2)
  have hsz : (w.alloc (.map #[] 0)).heap.size = w.heap.size + 1 := by unfold World.alloc; simp
  have hb := Blk.new (w.alloc (.map #[] 0)) 77 ((Try.zeroCells77.setIfInBounds 0 (.int .i64 now)).setIfInBounds 257 (.map (some w.heap.size)))
  rw [hsz] at hb
  have hw : ∀ b, WB (w.heap.size + 1) w.heap.size (fun _ => .slice none 0 0) b → w.heap.size ≤ b := fun b hb => by
    rcases hb with e | e | ⟨j, _, e⟩
    · omega
    · omega
    · cases e
  refine ⟨fun _ => .slice none 0 0, ⟨⟨fun _ => [], .map [], ⟨⟨_, hb, ?_, ?_, fun j hj => ?_, ?_⟩, fun j hj => OwnL.nil _ _, fun i j hi hj hij b e => (by cases e), fun j hj b e => (by cases e), hm.alloc _, by omega⟩, Wh.Inv.new now, mapIs_nil⟩, by simp, h0, h1, fun x hx => by cases hx⟩, bel_new (bel_new (Below.refl _ _) _) _, hw⟩
  · rw [zeroW]; exact (zc 256 _ _ _ _ _).1
  · rw [zeroW]; exact (zc 256 _ _ _ _ _).2.1
  · rw [zeroW]; exact (zc 256 _ _ _ _ _).2.2.1 j hj
  · rw [zeroW]; exact (zc 256 _ _ _ _ _).2.2.2
/-- what New answers -/
def NewTo (now : Int) (w : World) (e : Ending) (w' : World) : Prop := if 0 ≤ now ∧ now ≤ 226157759 then ∃ g mb, e = .returned (.tuple #[.pointer (some ⟨g, 0, none⟩), .int .i64 0]) ∧ One w g mb now [] w' else e = .returned (.tuple #[.pointer none, .int .i64 30]) ∧ w = w'
set_option maxRecDepth 100000 in
theorem new_calls (now : Int) (w : World) :
    Calls Try.prog 14 #[.int .i64 now] w (NewTo now w) := by
  have hmm := @run_makeMap Try.prog
  by_cases b1 : now < 0
  · have HN : Hid (¬ (0 ≤ now ∧ now ≤ 226157759)) := Lib.hid (by omega)
    go_enter Try.func14, Try.ntmps14
    go_wp2_with fail
    go_ret2
    unfold NewTo
    rw [if_neg HN.out]
    exact ⟨rfl, rfl⟩
  · by_cases b2 : 226157759 < now
    · have HN : Hid (¬ (0 ≤ now ∧ now ≤ 226157759)) := Lib.hid (by omega)
      go_enter Try.func14, Try.ntmps14
      go_wp2_with fail
      go_ret2
      unfold NewTo
      rw [if_neg HN.out]
      exact ⟨rfl, rfl⟩
    · have HN : Hid (0 ≤ now ∧ now ≤ 226157759) := Lib.hid (by omega)
      go_enter Try.func14, Try.ntmps14
      go_upto_region 3 with (fail)
      go_wp2_with fail
      go_ret2
      unfold NewTo
      rw [if_pos HN.out]
      exact ⟨w.heap.size + 1, w.heap.size, rfl, one_new now w HN.out.1 HN.out.2⟩

theorem OwnL.low2 {α : Type} [Inhabited α] {L : Lay α} {e : TypeId} {w : World} {b b' : Nat} {v : Value} {xs : List α} (h : OwnL L e w b' v xs) (hb : b ≤ b') : OwnL L e w b v xs := by
  refine ⟨h.1, ?_⟩
  rcases h.2 with hn | ⟨g, cap, cur, rfl, hg, rest⟩
  · exact .inl hn
  · exact .inr ⟨g, cap, cur, rfl, Nat.le_trans hb hg, rest⟩
/-- while what waits is gone through -/
structure WtS (w : World) (mb : Nat) (D : DataW Unit) (S : List Itm) (left : Lit → Bool) (cnt : Nat) (v : Value) (out : List Itm) (W : World) : Prop where
  rg : W.ranges Try.prog 3 (plainElem Try.prog 2) mb w.heap.size (Maps.size D) D left cnt
  own : OwnL layW 31 W (w.heap.size + 1) v out
  perm : out.Perm (S.filter fun x => !left (kI x.id))
  bel : Below w.heap.size w W
  lt : w.heap.size + 1 ≤ W.heap.size
theorem MapIs.find {D : DataW Unit} {S : List Itm} (h : MapIs D S) {x c : Int} (hat : ∀ zd, D.atKey (kI x) zd = .lit (.int .i64 c)) : ∃ y ∈ S, y.id = x ∧ y.at_ = c := by
  have h1 := Maps.has_true_of_atKey hat
  rw [h.has x, List.any_eq_true] at h1
  obtain ⟨y, hy, hid⟩ := h1
  have hid' : y.id = x := by simpa using hid
  refine ⟨y, hy, hid', ?_⟩
  have h2 := h.at_ y hy (.lit (.int .i64 0))
  rw [hid'] at h2
  exact litI_inj (h2.symm.trans (hat _))
theorem WtS.step {w w1 w2 : World} {mb : Nat} {D : DataW Unit} {S : List Itm} {left : Lit → Bool} {cnt cnt1 : Nat} {v v2 : Value} {out : List Itm} {W : World} (h : WtS w mb D S left cnt v out W) (hmb : mb < w.heap.size) (hM : MapIs D S) (ids : S.Pairwise (fun a b => a.id ≠ b.id)) {x c : Int}
    (hlx : left (kI x) = true) (hat : ∀ zd, D.atKey (kI x) zd = .lit (.int .i64 c)) (hrg1 : w1.ranges Try.prog 3 (plainElem Try.prog 2) mb w.heap.size (Maps.size D) D (fun z => left z && !z.sameKey (kI x)) cnt1) (hg1 : W.grownBy w1 (some w.heap.size))
    {o : Obj} (ho2 : OwnL layW 31 w2 (w.heap.size + 1) v2 (out ++ [⟨x, c⟩])) (hg2 : (w1.alloc o).grownBy w2 v.ownBlock) :
    WtS w mb D S (fun z => left z && !z.sameKey (kI x)) cnt1 v2 (out ++ [⟨x, c⟩]) w2 := by
  have hv : ∀ b, v.ownBlock = some b → w.heap.size + 1 ≤ b := fun b e => (World.ownsRow.lt h.own b e).1
  obtain ⟨y, hy, rfl, rfl⟩ := hM.find hat
  refine ⟨(hrg1.alloc o).kept hg2 (fun e => by have := hv mb e.symm; omega) (fun e => by have := hv _ e.symm; omega), ho2, collect_step ids h.perm hy hlx, ?_, ?_⟩
  · have b1 : Below w.heap.size w w1 := h.bel.grown hg1 h.bel.size (fun j hj => by injection hj with hj; omega)
    exact (bel_new b1 o).grown hg2 (bel_new b1 o).size (fun j hj => by have := hv j hj; omega)
  · have h1 := h.lt
    have h2 := hg1.size
    have h3 := hg2.size
    have h4 : w1.heap.size ≤ (w1.alloc o).heap.size := by unfold World.alloc; simp
    omega
set_option maxRecDepth 20000 in
theorem waiting_calls {g mb : Nat} {pv : Nat → Value} {now : Int} {S : List Itm} {w : World} (H : Hid (WhS g mb pv now S w)) :
    Calls Try.prog 18 #[.pointer (some ⟨g, 0, none⟩)] w fun e w' => ∃ A cap, e = .returned (.slice A S.length cap) ∧ OwnL layW 31 w' w.heap.size (.slice A S.length cap) S ∧ Below w.heap.size w w' := by
  obtain ⟨pl, D, hW, hV, hM⟩ := H.out.ex
  have cm : w.cell? ⟨g, 257, none⟩ = some (.map (some mb)) := hW.cm.1
  have HW := Lib.hid hW
  have HM := Lib.hid hM
  clear hW hV hM
  have hS := H.out.len
  go_enter Try.func18, Try.ntmps18
  go_wp2_with (at_range; refine wpList_range_own _ rfl _ 73 rfl 3 2 kLaw Try.underlying73 (plainElem Try.prog 2) mb _ D rfl HW.out.map ?_; intro w0 hrg0 hg0 hs0)
  go_frame
  have HS0 : Hid (WtS w mb D S (Maps.has D) (Maps.size D) (.slice none 0 0) [] w0) := Lib.hid ⟨hrg0, OwnL.nil _ _, by
    rw [List.filter_eq_nil_iff.2 (fun x hx => by
      rw [HM.out.has]
      have : (S.any fun y => decide (y.id = x.id)) = true := List.any_eq_true.2 ⟨x, hx, by simp⟩
      rw [this]; simp)], ⟨hg0.os, hg0.tape, hg0.output, hg0.size, fun k hk => hg0.block k hk (by simp)⟩, by omega⟩
  have hmb : mb < w.heap.size := HW.out.map.lt
  have HMB := Lib.hid hmb
  clear hrg0 hg0 hs0 cm hmb
  go_loopg [3] (Maps.size D) (fun n v3 W => ∃ (A : Option Addr) (cap : Nat) (out : List Itm) (left : Lit → Bool), v3 = .slice A out.length cap ∧ Hid (WtS w mb D S left n (.slice A out.length cap) out W))
  case atStart => exact ⟨none, 0, [], Maps.has D, rfl, HS0⟩
  case round =>
    clear HS0
    obtain ⟨A, cap, out, left, rfl, HR⟩ := hrel
    have hol : out.length ≤ 4096 := by rw [HR.out.perm.length_eq]; exact Nat.le_trans (List.length_filter_le _ _) hS
    go_wp2_with (at_next; refine wpList_next_ranges_ii _ rfl _ rfl 3 2 .i64 .i64 kLaw Try.underlying3 Try.underlying2 mb w.heap.size _ _ _ _ rfl HR.out.rg ?_ ?_)
    · intro _ hl0
      have HL0 := Lib.hid hl0
      clear hl0
      have HO : Hid (OwnL layW 31 wr (w.heap.size + 1) (.slice A out.length cap) out) := Lib.hid HR.out.own
      go_wp2_with fail
      refine (sort_calls HO (by omega)).mono ?_
      rintro e w5 ⟨rfl, ⟨T, ht1, ht2, ht3⟩, hg5⟩
      have hperm : out.Perm S := by
        have h1 := HR.out.perm
        rwa [List.filter_eq_self.2 (fun x hx => by rw [HL0.out]; rfl)] at h1
      have hTS : T = S := Wh.sorted_eq ht2 H.out.sorted (ht1.trans hperm)
      have HLE := Lib.hid hperm.length_eq
      subst hTS
      have HB5 : Hid (Below w.heap.size w w5) := Lib.hid (HR.out.bel.grown hg5 HR.out.bel.size (fun j hj => by have := (World.ownsRow.lt HR.out.own j hj).1; omega))
      have HO5 := Lib.hid ht3
      clear hperm ht1 ht2 ht3 hg5 hol
      go_wp2_with fail
      go_ret
      have h9 := HO5.out.low2 (Nat.le_succ w.heap.size)
      rw [HLE.out] at h9
      exact ⟨A, cap, by rw [← HLE.out]; rfl, h9, HB5.out⟩
    · intro x c w1 cnt1 hwx hwc hlx hat hrg1 hlt hg1 hs1 hen
      have HOO : Hid (OwnL layW 31 (w1.alloc (.cells #[.int .i64 x, .int .i64 c] 31)) (w.heap.size + 1) (.slice A out.length cap) out) := Lib.hid ((HR.out.own.turn (.grown hg1) (fun b e e2 => by have := (World.ownsRow.lt HR.out.own b e).1; injection e2 with e2; omega)).kept (bel_new (Below.refl _ _) _))
      have HBS : Hid (w.heap.size + 1 ≤ (w1.alloc (.cells #[.int .i64 x, .int .i64 c] 31)).heap.size) := Lib.hid (by
        have h1 := HR.out.lt
        have h2 := hg1.size
        have h4 : w1.heap.size ≤ (w1.alloc (.cells #[.int .i64 x, .int .i64 c] 31)).heap.size := by unfold World.alloc; simp
        omega)
      have HST : Hid (∀ (v2 : Value) (w2 : World), OwnL layW 31 w2 (w.heap.size + 1) v2 (out ++ [(⟨x, c⟩ : Itm)]) → (w1.alloc (.cells #[.int .i64 x, .int .i64 c] 31)).grownBy w2 (Value.slice A out.length cap).ownBlock → ∃ A2 cap2, v2 = .slice A2 (out ++ [(⟨x, c⟩ : Itm)]).length cap2 ∧ WtS w mb D S (fun z => left z && !z.sameKey (kI x)) cnt1 (.slice A2 (out ++ [(⟨x, c⟩ : Itm)]).length cap2) (out ++ [(⟨x, c⟩ : Itm)]) w2) := Lib.hid (fun v2 w2 ho2 hg2 => by
        obtain ⟨A2, cap2, rfl, -, -, -, -⟩ := ho2.form
        exact ⟨A2, cap2, rfl, HR.out.step HMB.out HM.out H.out.ids hlx hat hrg1 hg1 ho2 hg2⟩)
      have HLT := Lib.hid hlt
      have hA1 : out.length + [(⟨x, c⟩ : Itm)].length ≤ maxLen := by simp [maxLen]; omega
      have hA2 : (out.length + [(⟨x, c⟩ : Itm)].length) * 16 ≤ 140737488355328 := by simp; omega
      clear hwx hwc hlx hat hrg1 hlt hg1 hs1
      go_wp2_with (at_builtin; refine wpList_appO (L := layW) 22 _ 16 Try.underlying22 infoW rfl rfl (.tmp 18) (.tmp 22) rfl (w.heap.size + 1) (.slice A out.length cap) out rfl HOO.out (some ⟨w1.heap.size, 0, none⟩) 1 1 [⟨x, c⟩] rfl rfl (rdL_lit w1 _ _ (by simp [maxLen]) _ rfl) hA1 hA2 HBS.out ?_; intro v2 w2 ho2 hg2 h32; obtain ⟨A2, cap2, rfl, hst⟩ := HST.out v2 w2 ho2 hg2; have HN2 := Lib.hid hst; clear ho2 hg2 h32 hst)
      go_roundg cnt1
      case rel => exact ⟨A2, cap2, out ++ [⟨x, c⟩], _, by rw [List.length_append]; rfl, HN2⟩
      case measure => exact HLT.out
end Go.Proofs.Ytheocdfccdpmbaa
