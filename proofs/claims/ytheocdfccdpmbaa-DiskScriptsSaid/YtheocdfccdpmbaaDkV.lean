/-
  The document's disk in memory; whether a file is there, the bytes of all, what waits.
  Conditions: stated lemma by lemma.
-/
import Derived.Test.YtheocdfccdpmbaaDkB
namespace Go.Proofs.Ytheocdfccdpmbaa
open Go.RowKit Go.Maps
set_option linter.unusedVariables false
set_option linter.unusedSimpArgs false
set_option maxHeartbeats 8000000

/-- a write, in memory -/
def layR : Lay Wri := ⟨3, fun x => [.string x.name, .string (Dk.mkB x.b), .bool x.syn], fun _ => rfl, by decide, fun x u hu => by simp at hu; rcases hu with rfl | rfl | rfl <;> rfl⟩
def refT (g : Nat) (xs : List ByteArray) (L : List Wri) : Thing :=
  some_ (fun _ : Value × Value => True) (fun p => star [blkT g 46 #[p.1, p.2], ownT layN 9 p.1 xs, ownT layR 88 p.2 L])
/-- its parts -/
def RfP (w0 : World) (g : Nat) (c1 c2 : Value) (fv : Value) (xs : List ByteArray) (lv : Value) (L : List Wri) (l : List Thing) (W : World) : Prop :=
  Sp w0 (blkT g 46 #[c1, c2] :: ownT layN 9 fv xs :: ownT layR 88 lv L :: l) W
section
variable {w0 W W' : World} {g : Nat} {c1 c2 fv lv : Value} {xs ys : List ByteArray} {L M : List Wri} {l : List Thing}
theorem Sp.openr (h : Sp w0 (refT g xs L :: l) W) : ∃ (A : Option Addr) (c : Nat) (B : Option Addr) (d : Nat), RfP w0 g (.slice A xs.length c) (.slice B L.length d) (.slice A xs.length c) xs (.slice B L.length d) L l W := by
  obtain ⟨⟨fv, lv⟩, -, h⟩ := h.open_
  have h2 := Sp.star_iff.1 h
  have h3 : Sp w0 (blkT g 46 #[fv, lv] :: ownT layN 9 fv xs :: ownT layR 88 lv L :: l) W := h2
  obtain ⟨A, c, rfl⟩ := (h3.own (L := layN) (e := 9) (v := fv) (xs := xs) (by simp)).formN rfl
  obtain ⟨B, d, rfl⟩ := (h3.own (L := layR) (e := 88) (v := lv) (xs := L) (by simp)).formN rfl
  exact ⟨A, c, B, d, h3⟩
theorem RfP.close (h : RfP w0 g fv lv fv xs lv L l W) : Sp w0 (refT g xs L :: l) W := Sp.close (a := (fv, lv)) trivial (Sp.star_iff.2 h)
theorem RfP.blk (h : RfP w0 g c1 c2 fv xs lv L l W) : Blk W g 46 #[c1, c2] := Sp.blk h (List.mem_cons_self ..)
theorem RfP.files (h : RfP w0 g c1 c2 fv xs lv L l W) : OwnL layN 9 W w0.heap.size fv xs := Sp.own h (by simp)
theorem RfP.list (h : RfP w0 g c1 c2 fv xs lv L l W) : OwnL layR 88 W w0.heap.size lv L := Sp.own h (by simp)
theorem RfP.keep (h : RfP w0 g c1 c2 fv xs lv L l W) (hb : Below W.heap.size W W') : RfP w0 g c1 c2 fv xs lv L l W' := Sp.keep h hb
theorem RfP.set0 (h : RfP w0 g c1 c2 fv xs lv L l W) (v : Value) : RfP w0 g v c2 fv xs lv L l (W.setCell ⟨g, 0, none⟩ v) := Sp.set h 0 v
theorem RfP.set1 (h : RfP w0 g c1 c2 fv xs lv L l W) (v : Value) : RfP w0 g c1 v fv xs lv L l (W.setCell ⟨g, 1, none⟩ v) := Sp.set h 1 v
theorem RfP.appF {b0 : Nat} {v' : Value} (h : RfP w0 g c1 c2 fv xs lv L l W) (ho : OwnL layN 9 W' b0 v' ys) (hg : W.grownBy W' fv.ownBlock) (h3 : v'.ownBlock = fv.ownBlock ∨ v'.ownBlock = some W.heap.size) : RfP w0 g c1 c2 v' ys lv L l W' :=
  Sp.perm (Sp.app (Sp.perm h (List.Perm.swap ..)) ho hg h3) (List.Perm.swap ..)
theorem RfP.appL {b0 : Nat} {v' : Value} (h : RfP w0 g c1 c2 fv xs lv L l W) (ho : OwnL layR 88 W' b0 v' M) (hg : W.grownBy W' lv.ownBlock) (h3 : v'.ownBlock = lv.ownBlock ∨ v'.ownBlock = some W.heap.size) : RfP w0 g c1 c2 fv xs v' M l W' := by
  have p : ∀ (a b c : Thing) (r : List Thing), (a :: b :: c :: r).Perm (c :: a :: b :: r) := fun a b c r => ((List.Perm.swap c b r).cons a).trans (List.Perm.swap ..)
  exact Sp.perm (Sp.app (Sp.perm h (p _ _ _ _)) ho hg h3) (p _ _ _ _).symm
/-- the files' row is another one -/
theorem RfP.swapF {v' : Value} (h : RfP w0 g c1 c2 fv xs lv L (ownT layN 9 v' ys :: l) W) : RfP w0 g c1 c2 v' ys lv L l W := by
  have p : ∀ (a b c d : Thing) (r : List Thing), (a :: b :: c :: d :: r).Perm (b :: a :: d :: c :: r) := fun a b c d r => (List.Perm.swap ..).trans (((List.Perm.swap ..).cons a).cons b)
  exact (Sp.perm h (p _ _ _ _ _)).tail
theorem RfP.swapL {v' : Value} (h : RfP w0 g c1 c2 fv xs lv L (ownT layR 88 v' M :: l) W) : RfP w0 g c1 c2 fv xs v' M l W := by
  have p : ∀ (a b c d : Thing) (r : List Thing), (a :: b :: c :: d :: r).Perm (c :: a :: b :: d :: r) := fun a b c d r => (((List.Perm.swap ..).cons a)).trans (List.Perm.swap ..)
  exact (Sp.perm h (p _ _ _ _ _)).tail
end
theorem RdL.wri {w : World} {A : Option Addr} {xs : List Wri} (h : RdL layR w A xs) (i : Nat) (hi : i < xs.length) : ∃ b off, A = some ⟨b, off, none⟩ ∧ b < w.heap.size ∧ w.cell? ⟨b, off + i * 3, none⟩ = some (.string (xs.getD i default).name) ∧ w.cell? ⟨b, off + i * 3 + 1, none⟩ = some (.string (Dk.mkB (xs.getD i default).b)) ∧ w.cell? ⟨b, off + i * 3 + 2, none⟩ = some (.bool (xs.getD i default).syn) := by
  obtain ⟨b, off, e, hb, hc⟩ := h i hi
  exact ⟨b, off, e, hb, hc 0 _ rfl, hc 1 _ rfl, hc 2 _ rfl⟩
section
variable {w0 w : World} {g : Nat} {xs : List ByteArray} {L : List Wri} {l : List Thing}
theorem has_calls (H : Hid (Sp w0 (refT g xs L :: l) w)) (s : ByteArray) (hl : xs.length ≤ 1000) :
    Calls Try.prog 46 #[.pointer (some ⟨g, 0, none⟩), .string s] w fun e w' => e = .returned (.bool (decide (s ∈ xs))) ∧ w = w' := by
  obtain ⟨A, c, B, d, hr⟩ := H.out.openr
  have c0 : ∀ i, w.cell? ⟨g, i, none⟩ = (#[.slice A xs.length c, .slice B L.length d] : Array Value)[i]? := hr.blk.cells
  have HRD : Hid (RdL layN w A xs) := Lib.hid (Sp.rd hr (e := 9) (n := xs.length) (c := c) (by simp))
  obtain ⟨r, hrr⟩ : ∃ r, r = decide (s ∈ xs) := ⟨_, rfl⟩
  rw [← hrr]
  have HR := Lib.hid hrr
  have HL := Lib.hid hl
  clear hr hrr hl
  go_enter Try.func46, Try.ntmps46
  go_wp2_with fail
  go_loopg [5] xs.length (fun n v5 W => W = w ∧ ∃ k : Nat, v5 = .int .i64 k ∧ n + k = xs.length ∧ Hid (∀ j, j < k → xs.getD j default ≠ s))
  case atStart => exact ⟨rfl, 0, rfl, rfl, Lib.hid (fun j h => absurd h (Nat.not_lt_zero _))⟩
  case round =>
    obtain ⟨rfl, k, rfl, hnk, HI⟩ := hrel
    by_cases hlt : k < xs.length
    · have hki : (k : Int) < (xs.length : Int) := by omega
      have hk1 : (k : Int) + 1 ≤ 9223372036854775807 := by have := HL.out; omega
      have hg : 0 < gk := by omega
      obtain ⟨b, off, hAe, -, e0⟩ := HRD.out.nm k hlt
      obtain ⟨x, hx⟩ : ∃ x, x = xs.getD k default := ⟨_, rfl⟩
      rw [← hx] at e0
      have HX := Lib.hid hx
      have HN := Lib.hid hnk
      have HLT := Lib.hid hlt
      have HAE := Lib.hid hAe
      clear hx hnk hlt hAe
      rw [HAE.out] at c0
      by_cases c : x = s
      · have HT : Hid (r = true) := Lib.hid (by
          rw [HR.out, decide_eq_true]
          rw [← c, HX.out]
          have := HLT.out
          simp [List.getD, this])
        subst c
        have hee : (x.toList == x.toList) = true := by simp
        go_wp2_with fail
        go_ret
        exact ⟨ret_bool HT.out.symm, rfl⟩
      · have HI2 : Hid (∀ j, j < k + 1 → xs.getD j default ≠ s) := Lib.hid (fun j hj => by
          rcases Nat.lt_or_ge j k with h | h
          · exact HI.out j h
          · rw [show j = k from by omega, ← HX.out]; exact c)
        have hee : (x.toList == s.toList) = false := toList_ne c
        clear c
        go_wp2_with fail
        go_roundg (gk - 1)
        case rel => exact ⟨rfl, k + 1, by go_num, by have := HN.out; omega, HI2⟩
        case measure => omega
    · have hki : ¬ (k : Int) < (xs.length : Int) := by omega
      have HF : Hid (r = false) := Lib.hid (by
        rw [HR.out, decide_eq_false]
        intro hm
        obtain ⟨j, hj, e⟩ := List.getElem_of_mem hm
        exact HI.out j (by omega) (by simp [List.getD, hj, e]))
      go_wp2_with fail
      go_ret
      exact ⟨ret_bool HF.out.symm, rfl⟩
theorem total_calls (H : Hid (Sp w0 (refT g xs L :: l) w)) (hl : L.length ≤ 1000000) (ht : Dk.total L ≤ 1048576) :
    Calls Try.prog 47 #[.pointer (some ⟨g, 0, none⟩)] w fun e w' => e = .returned (.int .i64 (Dk.total L : Nat)) ∧ w = w' := by
  obtain ⟨A, c, B, d, hr⟩ := H.out.openr
  have c0 : ∀ i, w.cell? ⟨g, i, none⟩ = (#[.slice A xs.length c, .slice B L.length d] : Array Value)[i]? := hr.blk.cells
  have HRD : Hid (RdL layR w B L) := Lib.hid (Sp.rd hr (e := 88) (n := L.length) (c := d) (by simp))
  have HL := Lib.hid hl
  have HT := Lib.hid ht
  clear hr hl ht
  go_enter Try.func47, Try.ntmps47
  go_wp2_with fail
  go_loopg [3, 4] L.length (fun n v3 v4 W => W = w ∧ ∃ k : Nat, v4 = .int .i64 k ∧ v3 = .int .i64 (Dk.total (L.take k) : Nat) ∧ n + k = L.length)
  case atStart => exact ⟨rfl, 0, rfl, rfl, rfl⟩
  case round =>
    obtain ⟨rfl, k, rfl, rfl, hnk⟩ := hrel
    by_cases hlt : k < L.length
    · have hki : (k : Int) < (L.length : Int) := by omega
      have hk1 : (k : Int) + 1 ≤ 9223372036854775807 := by have := HL.out; omega
      have hg : 0 < gk := by omega
      obtain ⟨b, off, hBe, -, e0, e1, e2⟩ := HRD.out.wri k hlt
      have hst : Dk.total (L.take (k + 1)) = Dk.total (L.take k) + (L.getD k default).b.length := by
        rw [take_snocG hlt, Dk.total_app]
        simp [Dk.total]
      have hle : Dk.total (L.take (k + 1)) ≤ Dk.total L := by
        have := congrArg Dk.total (List.take_append_drop (k + 1) L)
        rw [Dk.total_app] at this
        omega
      obtain ⟨⟨xn, xb, xsy⟩, hx⟩ : ∃ x, x = L.getD k default := ⟨_, rfl⟩
      rw [← hx] at e0 e1 e2 hst
      simp only at e0 e1 e2 hst
      obtain ⟨t1, ht1⟩ : ∃ t1, t1 = Dk.total (L.take k) := ⟨_, rfl⟩
      rw [← ht1] at hst
      rw [← ht1]
      have hsz : ((Dk.mkB xb).size : Int) = (xb.length : Int) := by simp [Dk.mkB, ByteArray.size]
      have hwr : IntKind.i64.wrap ((t1 : Int) + ((Dk.mkB xb).size : Int)) = (Dk.total (L.take (k + 1)) : Int) := by
        rw [hsz, IntWalk.i64_in _ (by have := HT.out; omega), hst]
        omega
      have HN := Lib.hid hnk
      have HBE := Lib.hid hBe
      have HST := Lib.hid hst
      generalize Dk.mkB xb = sb at *
      clear hx hnk hlt hBe ht1 hle hst hsz
      rw [HBE.out] at c0
      go_wp2_with fail
      go_roundg (gk - 1)
      case rel => exact ⟨rfl, k + 1, by go_num, rfl, by have := HN.out; omega⟩
      case measure => omega
    · have hki : ¬ (k : Int) < (L.length : Int) := by omega
      have hke : L.take k = L := List.take_of_length_le (by omega)
      rw [hke]
      clear hke
      go_wp2_with fail
      go_ret
      exact ⟨rfl, rfl⟩
theorem rwaiting_calls (H : Hid (Sp w0 (refT g xs L :: l) w)) (hl : L.length ≤ 1000000) :
    Calls Try.prog 30 #[.pointer (some ⟨g, 0, none⟩)] w fun e w' => e = .returned (.int .i64 (Dk.uns L : Nat)) ∧ w = w' := by
  obtain ⟨A, c, B, d, hr⟩ := H.out.openr
  have c0 : ∀ i, w.cell? ⟨g, i, none⟩ = (#[.slice A xs.length c, .slice B L.length d] : Array Value)[i]? := hr.blk.cells
  have HRD : Hid (RdL layR w B L) := Lib.hid (Sp.rd hr (e := 88) (n := L.length) (c := d) (by simp))
  have HL := Lib.hid hl
  clear hr hl
  go_enter Try.func30, Try.ntmps30
  go_wp2_with fail
  go_loopg [3, 4] L.length (fun n v3 v4 W => W = w ∧ ∃ k u : Nat, v4 = .int .i64 k ∧ v3 = .int .i64 u ∧ n + k = L.length ∧ u ≤ k ∧ Hid (u = Dk.uns (L.take k)))
  case atStart => exact ⟨rfl, 0, 0, rfl, rfl, rfl, Nat.le_refl _, Lib.hid rfl⟩
  case round =>
    obtain ⟨rfl, k, u, rfl, rfl, hnk, huk, HU⟩ := hrel
    by_cases hlt : k < L.length
    · have hki : (k : Int) < (L.length : Int) := by omega
      have hk1 : (k : Int) + 1 ≤ 9223372036854775807 := by have := HL.out; omega
      have hu1 : (u : Int) + 1 ≤ 9223372036854775807 := by have := HL.out; omega
      have hg : 0 < gk := by omega
      obtain ⟨b, off, hBe, -, e0, e1, e2⟩ := HRD.out.wri k hlt
      have hst : Dk.uns (L.take (k + 1)) = Dk.uns (L.take k) + (if (L.getD k default).syn then 0 else 1) := by
        rw [take_snocG hlt, Dk.uns_app]
        congr 1
        generalize L.getD k default = x
        unfold Dk.uns
        by_cases h : x.syn = true <;> simp [h]
      obtain ⟨⟨xn, xb, xsy⟩, hx⟩ : ∃ x, x = L.getD k default := ⟨_, rfl⟩
      rw [← hx] at e0 e1 e2 hst
      simp only at e0 e1 e2 hst
      have HN := Lib.hid hnk
      have HBE := Lib.hid hBe
      clear hx hnk hlt hBe
      rw [HBE.out] at c0
      cases xsy with
      | true =>
        have HU2 : Hid (u = Dk.uns (L.take (k + 1))) := Lib.hid (by rw [hst, HU.out]; simp)
        clear hst
        go_wp2_with fail
        go_roundg (gk - 1)
        case rel => exact ⟨rfl, k + 1, u, by go_num, rfl, by have := HN.out; omega, by omega, HU2⟩
        case measure => omega
      | false =>
        have HU2 : Hid (u + 1 = Dk.uns (L.take (k + 1))) := Lib.hid (by rw [hst, HU.out]; simp)
        clear hst
        go_wp2_with fail
        go_roundg (gk - 1)
        case rel => exact ⟨rfl, k + 1, u + 1, by go_num, by go_num, by have := HN.out; omega, by omega, HU2⟩
        case measure => omega
    · have hki : ¬ (k : Int) < (L.length : Int) := by omega
      have HE : Hid (u = Dk.uns L) := Lib.hid (by rw [HU.out, List.take_of_length_le (by omega)])
      go_wp2_with fail
      go_ret
      rw [HE.out]
      exact ⟨rfl, rfl⟩
end
end Go.Proofs.Ytheocdfccdpmbaa
