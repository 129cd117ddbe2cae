/-
  Contracts of the document's disk: a sync, a removal.
  Conditions: stated lemma by lemma.
-/
import Derived.Test.YtheocdfccdpmbaaDkV
import Derived.Test.YtheocdfccdpmbaaDkU
namespace Go.Proofs.Ytheocdfccdpmbaa
open Go.RowKit Go.Maps
set_option linter.unusedVariables false
set_option linter.unusedSimpArgs false
set_option maxHeartbeats 8000000

theorem layR_cons (x : Wri) (xs : List Wri) : layR.flat (x :: xs) = .string x.name :: .string (Dk.mkB x.b) :: .bool x.syn :: layR.flat xs := by simp [Lay.flat, layR]
theorem layR_set : ∀ (xs : List Wri) (k : Nat), k < xs.length → layR.flat (xs.set k { xs.getD k default with syn := true }) = (layR.flat xs).set (k * 3 + 2) (.bool true)
  | [], k, h => absurd h (Nat.not_lt_zero _)
  | x :: xs, 0, h => by
    rw [List.set_cons_zero, layR_cons, layR_cons]
    rfl
  | x :: xs, k + 1, h => by
    have e : (x :: xs).getD (k + 1) default = xs.getD k default := by simp [List.getD]
    rw [List.set_cons_succ, layR_cons, layR_cons, e, layR_set xs k (by simpa using h), show (k + 1) * 3 + 2 = k * 3 + 2 + 1 + 1 + 1 from by omega]
    rfl
theorem own_lenR {w : World} {base g n cap : Nat} {xs : List Wri} (h : OwnL layR 88 w base (.slice (some ⟨g, 0, none⟩) n cap) xs) : n = xs.length := by
  rcases h.2 with ⟨e, _⟩ | ⟨g', cap', cur, e, _⟩
  · cases e
  · injection e
theorem putR {w : World} {base g n cap : Nat} {xs : List Wri} (h : OwnL layR 88 w base (.slice (some ⟨g, 0, none⟩) n cap) xs) {k : Nat} (hk : k < xs.length) :
    OwnL layR 88 (w.setCell ⟨g, k * 3 + 2, none⟩ (.bool true)) base (.slice (some ⟨g, 0, none⟩) n cap) (xs.set k { xs.getD k default with syn := true }) ∧ w.grownBy (w.setCell ⟨g, k * 3 + 2, none⟩ (.bool true)) (some g) ∧
    w.frozen? ⟨g, k * 3 + 2, none⟩ = false := by
  have hn := own_lenR h
  subst hn
  have h1 := World.ownsRow.stored h (k * 3 + 2) (.bool true)
  refine ⟨?_, h1.2, World.ownsRow.frozenAt h _⟩
  unfold OwnL
  rw [layR_set xs k hk, List.length_set]
  exact h1.1
namespace Dk
theorem sync_app (s : ByteArray) (A B : List Wri) : sync s (A ++ B) = sync s A ++ sync s B := by simp [sync]
theorem sync_len (s : ByteArray) (A : List Wri) : (sync s A).length = A.length := by simp [sync]
theorem mid_get (s : ByteArray) {L : List Wri} {k : Nat} (hk : k < L.length) : (sync s (L.take k) ++ L.drop k).getD k default = L.getD k default := by
  have h1 : (sync s (L.take k)).length = k := by rw [sync_len, List.length_take]; omega
  unfold List.getD
  rw [List.getElem?_append_right (by omega), h1, Nat.sub_self, List.getElem?_drop, Nat.add_zero]
theorem drop_at' {L : List Wri} {k : Nat} (hk : k < L.length) : L.drop k = L.getD k default :: L.drop (k + 1) := by
  rw [List.drop_eq_getElem_cons hk]
  congr 1
  simp [List.getD, hk]
theorem mid_next (s : ByteArray) {L : List Wri} {k : Nat} (hk : k < L.length) : sync s (L.take (k + 1)) ++ L.drop (k + 1) = sync s (L.take k) ++ (if (L.getD k default).name = s then { L.getD k default with syn := true } else L.getD k default) :: L.drop (k + 1) := by
  rw [take_snocG hk, sync_app, List.append_assoc]
  rfl
theorem mid_set (s : ByteArray) {L : List Wri} {k : Nat} (hk : k < L.length) (hn : (L.getD k default).name = s) : (sync s (L.take k) ++ L.drop k).set k { (sync s (L.take k) ++ L.drop k).getD k default with syn := true } = sync s (L.take (k + 1)) ++ L.drop (k + 1) := by
  have h1 : (sync s (L.take k)).length = k := by rw [sync_len, List.length_take]; omega
  rw [mid_get s hk, mid_next s hk, if_pos hn, drop_at' hk, List.set_append_right _ _ (by omega), h1, Nat.sub_self]
  rfl
theorem mid_same (s : ByteArray) {L : List Wri} {k : Nat} (hk : k < L.length) (hn : (L.getD k default).name ≠ s) : sync s (L.take k) ++ L.drop k = sync s (L.take (k + 1)) ++ L.drop (k + 1) := by
  rw [mid_next s hk, if_neg hn, drop_at' hk]
end Dk
section
variable {w0 w : World} {g : Nat} {xs : List ByteArray} {L : List Wri} {l : List Thing}
set_option maxRecDepth 20000 in
theorem rsync_calls (H : Hid (Sp w0 (refT g xs L :: l) w)) (s : ByteArray) (h64 : xs.length ≤ 64) (hl : L.length ≤ 1000000) :
    Calls Try.prog 23 #[.pointer (some ⟨g, 0, none⟩), .string s] w fun e w' => e = .returned (.int .i64 (Dk.thereE xs s)) ∧ Sp w0 (refT g xs (if s ∈ xs then Dk.sync s L else L) :: l) w' := by
  have HHAS := Lib.hid (has_calls H s (by omega))
  have HLL := Lib.hid hl
  by_cases cm : s ∈ xs
  · have HE : Hid (Dk.thereE xs s = 0) := Lib.hid (if_pos cm)
    rw [decide_eq_true cm] at HHAS
    rw [if_pos cm]
    generalize Dk.thereE xs s = er at *
    obtain rfl := HE.out
    obtain ⟨A, c, B, d, hr⟩ := H.out.openr
    have HR : Hid (RfP w0 g (.slice A xs.length c) (.slice B L.length d) (.slice A xs.length c) xs (.slice B L.length d) (Dk.sync s (L.take 0) ++ L.drop 0) l w) := Lib.hid hr
    clear cm hr h64 hl
    go_enter Try.func23, Try.ntmps23
    go_wp2_with fail
    refine HHAS.out.mono ?_
    rintro e w1 ⟨rfl, rfl⟩
    go_wp2_with fail
    go_loopg [5] L.length (fun n v5 W => ∃ k : Nat, v5 = .int .i64 k ∧ n + k = L.length ∧ Hid (RfP w0 g (.slice A xs.length c) (.slice B L.length d) (.slice A xs.length c) xs (.slice B L.length d) (Dk.sync s (L.take k) ++ L.drop k) l W))
    case atStart => exact ⟨0, rfl, rfl, HR⟩
    case round =>
      clear HR
      obtain ⟨k, rfl, hnk, HP⟩ := hrel
      have c1 : ∀ i, wr.cell? ⟨g, i, none⟩ = (#[.slice A xs.length c, .slice B L.length d] : Array Value)[i]? := HP.out.blk.cells
      by_cases hlt : k < L.length
      · have hki : (k : Int) < (L.length : Int) := by omega
        have hk1 : (k : Int) + 1 ≤ 9223372036854775807 := by have := HLL.out; omega
        have hg : 0 < gk := by omega
        have hml : (Dk.sync s (L.take k) ++ L.drop k).length = L.length := by rw [List.length_append, Dk.sync_len, List.length_take, List.length_drop]; omega
        obtain ⟨gb, rfl⟩ : ∃ gb, B = some ⟨gb, 0, none⟩ := by
          rcases HP.out.list.2 with ⟨e, h0⟩ | ⟨g9, cap9, cur9, e, -⟩
          · omega
          · obtain ⟨q1, -, -⟩ := Value.slice.inj e
            exact ⟨g9, q1⟩
        obtain ⟨b1, o1, hBe, -, e0, e1, e2⟩ := (Sp.rd HP.out (L := layR) (e := 88) (A := some ⟨gb, 0, none⟩) (n := L.length) (c := d) (xs := Dk.sync s (L.take k) ++ L.drop k) (by simp)).wri k (by rw [hml]; exact hlt)
        obtain ⟨q1, q2, -⟩ := Addr.mk.inj (Option.some.inj hBe)
        subst q1; subst q2
        rw [Dk.mid_get s hlt] at e0 e1 e2
        rw [Nat.zero_add] at e0 e1 e2
        obtain ⟨x, hx⟩ : ∃ x, x = L.getD k default := ⟨_, rfl⟩
        have HX := Lib.hid hx
        rw [← hx] at e0 e1 e2
        have HN := Lib.hid hnk
        have HLT := Lib.hid hlt
        have hput := putR HP.out.list (k := k) (by rw [hml]; exact hlt)
        by_cases hc : x.name = s
        · have f2 := hput.2.2
          have HP2 : Hid (RfP w0 g (.slice A xs.length c) (.slice (some ⟨gb, 0, none⟩) L.length d) (.slice A xs.length c) xs (.slice (some ⟨gb, 0, none⟩) L.length d) (Dk.sync s (L.take (k + 1)) ++ L.drop (k + 1)) l (wr.setCell ⟨gb, k * 3 + 2, none⟩ (.bool true))) := Lib.hid (by
            have h := HP.out.appL hput.1 hput.2.1 (.inl rfl)
            rwa [Dk.mid_set s hlt (by rw [← hx]; exact hc)] at h)
          obtain ⟨xn, xb, xs'⟩ := x
          simp only at hc e0 e1 e2
          subst hc
          have hee : (xn.toList == xn.toList) = true := by simp
          clear hx hnk hlt hBe hml hput HP
          go_wp2_with fail
          go_roundg (gk - 1)
          case rel => exact ⟨k + 1, by go_num, by have := HN.out; omega, HP2⟩
          case measure => omega
        · have HP2 : Hid (RfP w0 g (.slice A xs.length c) (.slice (some ⟨gb, 0, none⟩) L.length d) (.slice A xs.length c) xs (.slice (some ⟨gb, 0, none⟩) L.length d) (Dk.sync s (L.take (k + 1)) ++ L.drop (k + 1)) l wr) := Lib.hid (by
            have h := HP.out
            rwa [Dk.mid_same s hlt (by rw [← hx]; exact hc)] at h)
          obtain ⟨xn, xb, xs'⟩ := x
          simp only at hc e0 e1 e2
          have hee : (xn.toList == s.toList) = false := toList_ne hc
          clear hx hnk hlt hBe hml hput HP hc
          go_wp2_with fail
          go_roundg (gk - 1)
          case rel => exact ⟨k + 1, by go_num, by have := HN.out; omega, HP2⟩
          case measure => omega
      · have hki : ¬ (k : Int) < (L.length : Int) := by omega
        have HF : Hid (Sp w0 (refT g xs (Dk.sync s L) :: l) wr) := Lib.hid (by
          have h := HP.out
          rw [List.take_of_length_le (by omega), List.drop_eq_nil_of_le (by omega), List.append_nil] at h
          exact h.close)
        clear hnk hlt HP
        go_wp2_with fail
        go_ret
        exact ⟨rfl, HF.out⟩
  · have HE : Hid (Dk.thereE xs s = 80) := Lib.hid (if_neg cm)
    rw [decide_eq_false cm] at HHAS
    rw [if_neg cm]
    generalize Dk.thereE xs s = er at *
    obtain rfl := HE.out
    clear cm
    go_enter Try.func23, Try.ntmps23
    go_wp2_with fail
    refine HHAS.out.mono ?_
    rintro e w1 ⟨rfl, rfl⟩
    go_wp2_with fail
    go_ret
    exact ⟨rfl, H.out⟩
end
end Go.Proofs.Ytheocdfccdpmbaa
