/-
  Contracts of the package trail: Append, Cut, Slice.
  Conditions: the entries can be read.
-/
import Derived.Test.YtdladjgdhnkkcaaTr5
namespace Go.Proofs.Ytdladjgdhnkkcaa
open Go.RowKit
set_option linter.unusedVariables false
set_option linter.unusedSimpArgs false

/-- since w; blocks that hold what they were made with -/
def SW (w : World) (l : List (Nat × TypeId × Array Value)) (W : World) : Prop := Below w.heap.size w W ∧ ∀ x ∈ l, Blk W x.1 x.2.1 x.2.2
theorem SW.bel {w W W' : World} {l : List (Nat × TypeId × Array Value)} (h : SW w l W) (hb : Below W.heap.size W W') : SW w l W' := ⟨bel_tr h.1 hb, fun x hx => (h.2 x hx).bel hb⟩
theorem SW.drew {w W : World} {l : List (Nat × TypeId × Array Value)} (h : SW w l W) : SW w l W.drew := ⟨bel_drew h.1, fun x hx => (h.2 x hx).drewN 1⟩
theorem SW.keep {w : World} {l : List (Nat × TypeId × Array Value)} : ∀ W W', SW w l W → Below W.heap.size W W' → SW w l W' := fun _ _ h hb => h.bel hb
theorem SW.nil (w : World) : SW w [] w := ⟨Below.refl _ _, fun x hx => by cases hx⟩
theorem SW.new {w W : World} {l : List (Nat × TypeId × Array Value)} (h : SW w l W) (t : TypeId) (cs : Array Value) (g : Nat) (hg : g = W.heap.size) : SW w (l ++ [(g, t, cs)]) (W.alloc (.cells cs t)) := by
  subst hg
  refine ⟨bel_new h.1 _, fun x hx => ?_⟩
  rcases List.mem_append.1 hx with hx | hx
  · exact (h.2 x hx).alloc _
  · simp at hx
    subst hx
    exact Blk.new _ _ _
theorem SW.at_ {w W : World} {l : List (Nat × TypeId × Array Value)} (h : SW w l W) (i : Nat) {g : Nat} {t : TypeId} {cs : Array Value} (hx : l[i]? = some (g, t, cs)) : Blk W g t cs := h.2 _ (List.mem_of_getElem? hx)
abbrev zT : Array Value := #[.int .i64 0, .int .i64 0, .slice none 0 0]
/-- three cells written to a block of the call's own -/
abbrev put3 (W : World) (g : Nat) (b bt : Int) (v : Value) : World := ((W.setCell ⟨g, 0, none⟩ (.int .i64 b)).setCell ⟨g, 1, none⟩ (.int .i64 bt)).setCell ⟨g, 2, none⟩ v
theorem put3_bel {w W : World} {g : Nat} {b bt : Int} {v : Value} (h : Below w.heap.size w W) (hg : w.heap.size ≤ g) : Below w.heap.size w (put3 W g b bt v) := bel_set (bel_set (bel_set h hg _ _) hg _ _) hg _ _
theorem put3_rd {W : World} {g : Nat} {b bt : Int} {v : Value} {A : Option Addr} {es : List En} (h : RdE W A es) (hg : ∀ b off sp, A = some ⟨b, off, sp⟩ → b ≠ g) : RdE (put3 W g b bt v) A es := RdE.far (RdE.far (RdE.far h hg) hg) hg
theorem chk_with {b bt : Int} {es : List En} (h : Tr.chk b bt es = true) : Tr.with_ b bt es es.length [] = some es := by
  unfold Tr.with_
  simp [h]

set_option maxRecDepth 20000 in
set_option maxHeartbeats 1000000 in
theorem append_calls (b bt et : Int) (s : ByteArray) (A : Option Addr) (cap : Nat) (es : List En) (w : World) (hR : RdE w A es) (hlen : es.length ≤ 2 ^ 47) (hcap : es.length ≤ cap) :
    Calls Try.prog 25 #[trV b bt A es.length cap, .agg #[.int .i64 et, .string s]] w fun e w' => (∃ v, e = .returned v ∧ ResT w.heap.size b bt (if Tr.chk b bt es then Tr.with_ b bt es es.length [(et, s)] else none) v w') ∧ Below w.heap.size w w' := by
  obtain ⟨o, ho⟩ : ∃ o, o = (if Tr.chk b bt es then Tr.with_ b bt es es.length [(et, s)] else none) := ⟨_, rfl⟩
  rw [← ho]
  have hck := Lib.hid (fun W hb => check_calls b bt A cap es W (hR.bel hb) (by omega))
  have HR := Lib.hid hR
  by_cases hc : Tr.chk b bt es = true
  · rw [if_pos hc] at ho
    have hr := Tr.chk_rim hc
    rw [hc] at hck
    have hwc := Lib.hid (fun (B : Option Addr) (W : World) hb hm => with_calls b bt A cap es.length es B 1 [(et, s)] W (HR.out.bel hb) hm (by omega) hcap (Nat.le_refl _) (by simp))
    have HW := Lib.hid ho
    have hS := Lib.hid (((SW.nil w).new 24 #[.int .i64 b, .int .i64 bt, .slice A es.length cap] w.heap.size rfl).new 32 #[.int .i64 et, .string s] (w.heap.size + 1) (by simp) |>.new 24 zT (w.heap.size + 1 + 1) (by simp))
    clear hc hR hr ho
    go_enter Try.func25, Try.ntmps25
    go_wp2_with fail
    refine (hck.out _ hS.out.1).mono ?_
    rintro e w1 ⟨rfl, hb1⟩
    have hs1 := Lib.hid (hS.out.bel hb1)
    have c0 := (hs1.out.at_ 0 rfl).cells
    have c1 := (hs1.out.at_ 1 rfl).cells
    clear hb1 hS
    go_wp2_with fail
    have hs2 := Lib.hid (hs1.out.new 32 #[.int .i64 et, .string s] w1.heap.size rfl)
    have hm : RdE (w1.alloc (.cells #[.int .i64 et, .string s] 32)) (some ⟨w1.heap.size, 0, none⟩) [(et, s)] := fun i hi => by
      obtain rfl : i = 0 := by simpa using hi
      have hB := Blk.new w1 32 #[.int .i64 et, .string s]
      exact ⟨_, 0, rfl, hB.lt, hB.cells 0, hB.cells 1⟩
    refine (hwc.out _ _ hs2.out.1 hm).mono ?_
    rintro e w2 ⟨⟨v, rfl, hv⟩, hb2⟩
    have hs3 := Lib.hid (hs2.out.bel hb2)
    have hg := hs2.out.1.size
    have hgl := (hs2.out.at_ 2 rfl).lt
    have hB := (hs3.out.at_ 2 rfl)
    have c2 := hB.cells
    have f2 := hB.free
    clear hb2 hs2 hs1 c0 c1 hm
    generalize Tr.with_ b bt es es.length [(et, s)] = o' at *
    obtain rfl := HW.out
    rcases o with _ | out
    · obtain rfl := hv
      go_wp2_with fail
      refine bodyPost_ret (v := .tuple #[trV 0 0 none 0 0, .bool false]) (by simp [results, Try.results25, go_sem, c2]) rfl ⟨⟨_, rfl, rfl⟩, put3_bel hs3.out.1 (by omega)⟩
    · obtain ⟨A2, cap2, rfl, h1, h2, h3⟩ := hv
      go_wp2_with fail
      refine bodyPost_ret (v := .tuple #[trV b bt A2 out.length cap2, .bool true]) (by simp [results, Try.results25, go_sem, c2]) rfl ⟨⟨_, rfl, ⟨A2, cap2, rfl, h1, put3_rd h2 ?_, fun g off sp e => ?_⟩⟩, put3_bel hs3.out.1 (by omega)⟩
      · intro g off sp e
        have := h3 g off sp e
        omega
      · have := h3 g off sp e
        omega
  · rw [if_neg hc] at ho
    simp only [Bool.not_eq_true] at hc
    rw [hc] at hck
    subst ho
    have hS := Lib.hid (((SW.nil w).new 24 #[.int .i64 b, .int .i64 bt, .slice A es.length cap] w.heap.size rfl).new 32 #[.int .i64 et, .string s] (w.heap.size + 1) (by simp) |>.new 24 zT (w.heap.size + 1 + 1) (by simp))
    clear hc hR
    go_enter Try.func25, Try.ntmps25
    go_wp2_with fail
    refine (hck.out _ hS.out.1).mono ?_
    rintro e w1 ⟨rfl, hb1⟩
    have hs1 := Lib.hid (hS.out.bel hb1)
    have hB := (hs1.out.at_ 2 rfl)
    have c2 := hB.cells
    have f2 := hB.free
    clear hb1 hS
    go_wp2_with fail
    refine bodyPost_ret (v := .tuple #[trV 0 0 none 0 0, .bool false]) (by simp [results, Try.results25, go_sem, c2]) rfl ⟨⟨_, rfl, rfl⟩, put3_bel hs1.out.1 (by omega)⟩
end Go.Proofs.Ytdladjgdhnkkcaa
