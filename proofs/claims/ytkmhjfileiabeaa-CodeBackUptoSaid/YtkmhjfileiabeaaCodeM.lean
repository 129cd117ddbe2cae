/-
  Fields read from bytes: the program's Decode.
  Conditions: kinds and bytes can be read; not more than 2^40 bytes.
-/
import Derived.Test.YtkmhjfileiabeaaCodeL
import Derived.Test.YtkmhjfileiabeaaRow
namespace Go.Proofs.Ytkmhjfileiabeaa
open Go.ChangeShapes Go.WideShapes Go.ChangeAt Go.RowKit Go.Deep
set_option linter.unusedVariables false
set_option linter.unusedSimpArgs false

def layF : Lay Fi := ⟨3, fun f => [.int .i64 f.1, .int .i64 f.2.1, .string f.2.2], fun _ => rfl, by decide, fun x u hu => by simp at hu; rcases hu with rfl | rfl | rfl <;> rfl⟩
theorem infoF : (Try.prog.info? 48).map (fun i => (i.zero, i.size, i.bytes)) = some (some (.agg #[.int .i64 0, .int .i64 0, .string ByteArray.empty]), 3, 32) := by kernel_rfl
theorem RdL.toF {w : World} {A : Option Addr} {fs : List Fi} (h : RdL layF w A fs) : RdF w A fs := fun i hi => by
  obtain ⟨b, off, e, hb, h1⟩ := h i hi
  exact ⟨b, off, e, hb, h1 0 _ rfl, h1 1 _ rfl, h1 2 _ rfl⟩
theorem RdF.toL {w : World} {A : Option Addr} {fs : List Fi} (h : RdF w A fs) : RdL layF w A fs := fun i hi => by
  obtain ⟨b, off, e, hb, h1, h2, h3⟩ := h i hi
  refine ⟨b, off, e, hb, fun r u hu => ?_⟩
  rcases r with _ | _ | _ | r
  · simp only [layF, List.getElem?_cons_zero, Option.some.injEq] at hu; rw [← hu]; exact h1
  · simp only [layF, List.getElem?_cons_succ, List.getElem?_cons_zero, Option.some.injEq] at hu; rw [← hu]; exact h2
  · simp only [layF, List.getElem?_cons_succ, List.getElem?_cons_zero, Option.some.injEq] at hu; rw [← hu]; exact h3
  · simp [layF] at hu
theorem RdL.oneF (w : World) (f : Fi) (g : Nat) (fr : Nat × Nat) (h : w.heap[g]? = some (.cells #[.int .i64 f.1, .int .i64 f.2.1, .string f.2.2] 48 fr)) : RdL layF w (some ⟨g, 0, none⟩) [f] := fun i hi => by
  have h0 : i = 0 := by simp at hi; omega
  subst h0
  have hg : g < w.heap.size := by
    rcases Nat.lt_or_ge g w.heap.size with hl | hl
    · exact hl
    · rw [Array.getElem?_eq_none hl] at h; cases h
  refine ⟨g, 0, rfl, hg, fun r u hu => ?_⟩
  rw [show 0 + 0 * layF.k + r = r from by simp]
  unfold World.cell?
  rw [h]
  simpa [layF] using hu

set_option maxRecDepth 100000 in
/-- numbers as an argument -/
theorem ints_arg {H : Type} {enc : TypeId × Value → H} {w : World} {base b0 : Nat} {held : Bool} {v : Value} {d : DataW H} {p : List MemPlace}
    (hv : Value.okWide Try.prog w .any b0 36 v) (h : DataW.Trod enc Try.prog w base (fun _ => true) held 36 v d p) (hw : (d.weights Try.prog 36).all (· ≤ reachBytes) = true) :
    ∃ A ks cap, v = .slice A (List.length ks) cap ∧ List.length ks ≤ cap ∧ cap ≤ 20000000000000 ∧ RdL (layI .i64) w A ks := by
  obtain ⟨A, len, cap, rfl, h1, _, h2, h4⟩ := open_arg_slice (n := 1) (ts := [3]) Try.underlying36 (by kernel_rfl) (by kernel_rfl) (by simp) hv h hw
  have hx : ∀ i, i < cap → ∃ x : Int, ∃ b off, A = some ⟨b, off, none⟩ ∧ b < w.heap.size ∧ w.cell? ⟨b, off + i * 1, none⟩ = some (.int .i64 x) := fun i hi => by
    obtain ⟨b, off, vs, rfl, hb, _, hc, hl⟩ := h4 i hi
    obtain ⟨k, vs1, rfl, _, hl⟩ := leaf_int Try.underlying3 hl
    have g0 := hc 0 _ rfl
    exact ⟨k, b, off, rfl, hb, g0⟩
  have e0 : ∀ i, i < len → ((List.range len).map fun i => if hi : i < cap then (hx i hi).choose else default).getD i default = if hi : i < cap then (hx i hi).choose else default := fun i hi => by
    simp [List.getD, hi]
  refine ⟨A, (List.range len).map fun i => if hi : i < cap then (hx i hi).choose else default, cap, by simp, by simpa using h1, by rw [show Try.prog.bytesOf 3 = 8 from by kernel_rfl] at h2; unfold reachBytes at h2; omega, fun i hi => ?_⟩
  have hi' : i < len := by simpa using hi
  obtain ⟨b, off, e, hb, g0⟩ := (hx i (by omega)).choose_spec
  rw [e0 i hi', dif_pos (show i < cap by omega)]
  refine ⟨b, off, e, hb, fun r u hu => ?_⟩
  rcases r with _ | r
  · simp only [layI, List.getElem?_cons_zero, Option.some.injEq] at hu; rw [← hu]; exact g0
  · simp [layI] at hu

namespace Code
/-- fields that were read ahead of others -/
def ahead (fs : List Fi) (r : List Fi × Nat) : List Fi × Nat := if r.2 ≠ 0 then ([], r.2) else (fs ++ r.1, 0)
theorem ahead_nil (ks : List Int) (xs : List Nat) : ahead [] (dec ks xs) = dec ks xs := by
  unfold ahead
  split
  · rename_i h
    rw [show dec ks xs = ((dec ks xs).1, (dec ks xs).2) from rfl, dec_err ks xs h]
  · rename_i h
    have h0 : (dec ks xs).2 = 0 := by omega
    rw [List.nil_append, ← h0]
theorem ahead_step (fs : List Fi) (k : Int) (ks : List Int) (xs : List Nat) (h : (fd k xs).2.2 = 0) : ahead fs (dec (k :: ks) xs) = ahead (fs ++ [(fd k xs).1]) (dec ks (xs.drop (fd k xs).2.1)) := by
  have h1 : dec (k :: ks) xs = if (dec ks (xs.drop (fd k xs).2.1)).2 ≠ 0 then ([], (dec ks (xs.drop (fd k xs).2.1)).2) else ((fd k xs).1 :: (dec ks (xs.drop (fd k xs).2.1)).1, 0) := by
    conv => lhs; unfold dec
    rw [if_neg (by omega)]
  rw [h1]
  generalize dec ks (xs.drop (fd k xs).2.1) = r
  unfold ahead
  split
  · rename_i h2
    simp [h2]
  · rename_i h2
    simp
theorem ahead_bad (fs : List Fi) (k : Int) (ks : List Int) (xs : List Nat) (h : (fd k xs).2.2 ≠ 0) : ahead fs (dec (k :: ks) xs) = ([], (fd k xs).2.2) := by
  have h1 : dec (k :: ks) xs = ([], (fd k xs).2.2) := by
    conv => lhs; unfold dec
    rw [if_pos h]
  rw [h1]
  unfold ahead
  rw [if_pos h]
/-- a field has a byte at least, and not more than there are -/
theorem fd_size (k : Int) (xs : List Nat) (hx : ∀ x ∈ xs, x < 256) (h : (fd k xs).2.2 = 0) : 0 < (fd k xs).2.1 ∧ (fd k xs).2.1 ≤ xs.length := by
  rcases hf : fd k xs with ⟨f, s, e⟩
  rw [hf] at h
  simp only at h
  subst h
  obtain ⟨a, h1, h2, h3, _⟩ := enc1_fd hx hf
  have hl := congrArg List.length h2
  rw [List.length_append] at hl
  have hp : 0 < a.length := by
    unfold enc1 at h1
    split at h1
    · injection h1 with h1; rw [← h1]; exact vb_pos _
    · split at h1
      · injection h1 with h1; rw [← h1]; exact vb_pos _
      · split at h1
        · injection h1 with h1; rw [← h1, List.length_append]; have := vb_pos f.2.2.size; omega
        · cases h1
  simp only
  omega
end Code

set_option maxRecDepth 20000 in
set_option maxHeartbeats 4000000 in
theorem decode_calls (K : Option Addr) (kcap : Nat) (ks : List Int) (A : Option Addr) (cap : Nat) (xs : List Nat) (w : World) (hK : Hid (RdL (layI .i64) w K ks)) (hkl : ks.length ≤ 9223372036854775807) (hR : Hid (Rd8 w A xs)) (hlen : xs.length ≤ cap) (hcap : cap ≤ 9223372036854775807) (hx : Hid (xs.length ≤ 2 ^ 40)) :
    Calls Try.prog 21 #[.slice K ks.length kcap, .slice A xs.length cap] w fun e w' => (∃ v, e = .returned (.tuple #[v, .int .i64 (Code.dec ks xs).2]) ∧ OwnL layF 48 w' w.heap.size v (Code.dec ks xs).1) ∧ Below w.heap.size w w' := by
  obtain ⟨r, hr⟩ : ∃ r, r = Code.dec ks xs := ⟨_, rfl⟩
  rw [← hr]
  have HR := Lib.hid hr
  clear hr
  go_enter Try.func21, Try.ntmps21
  go_wp2_with fail
  go_loopg [1, 6, 8, 9, 10, 11, 14] ks.length (fun g v1 v6 v8 v9 v10 v11 v14 W => Below w.heap.size w W ∧ ∃ k : Nat, v14 = .int .i64 k ∧ ∃ A' cap', ∃ ys : List Nat, v1 = .slice A' ys.length cap' ∧ ys.length ≤ cap' ∧ cap' ≤ 9223372036854775807 ∧
    Hid (Rd8 w A' ys) ∧ Hid (k + g = ks.length ∧ ∃ fs, r = Code.ahead fs (Code.dec (ks.drop k) ys) ∧ OwnL layF 48 W w.heap.size v6 fs ∧ fs.length + ys.length ≤ xs.length))
  case atStart => exact ⟨Below.refl _ _, 0, rfl, _, _, xs, rfl, hlen, hcap, hR, Lib.hid ⟨by omega, [], by rw [Code.ahead_nil]; exact HR.out, OwnL.nil _ _, by simp⟩⟩
  case round =>
    obtain ⟨hb, k, rfl, A', cap', ys, rfl, hl', hc', HY, HI⟩ := hrel
    by_cases hlt : k < ks.length
    · have hg : 0 < gk := by have := HI.out.1; omega
      have hl : (k : Int) < (ks.length : Int) := by omega
      obtain ⟨hkg, fs, hfs, hown, hfl⟩ := HI.out
      have HKG := Lib.hid hkg
      have HOW := Lib.hid hown
      have HFL := Lib.hid hfl
      obtain ⟨b, off, rfl, hbl, hc⟩ := hK.out k hlt
      have d1 := (hb.cell (p := ⟨b, off + k * 1 + 0, none⟩) hbl).trans (hc 0 _ rfl)
      have hdr : ks.drop k = ks.getD k default :: ks.drop (k + 1) := by rw [List.drop_eq_getElem_cons hlt]; simp [List.getD, hlt]
      generalize ks.getD k default = kd at *
      simp only [Nat.mul_one, Nat.add_zero] at d1
      clear hkg hown hfl HI hc
      have hyx : ∀ x ∈ ys, x < 256 := HY.out.lt
      obtain ⟨f, sz, er, hf⟩ : ∃ f sz er, Code.fd kd ys = (f, sz, er) := ⟨_, _, _, rfl⟩
      have HF := Lib.hid hf
      go_wp2_with fail
      refine (field_calls A' cap' kd ys _ (Lib.hid (HY.out.bel hb)) hl' hc').mono ?_
      rintro e w2 ⟨rfl, hb2⟩
      rw [HF.out]
      have hbw := Lib.hid (bel_tr hb hb2)
      have HOW2 := Lib.hid (HOW.out.kept hb2)
      by_cases he : er = 0
      · subst he
        have hsz := Code.fd_size kd ys hyx (by rw [hf])
        rw [hf] at hsz
        have hstep : r = Code.ahead (fs ++ [f]) (Code.dec (ks.drop (k + 1)) (ys.drop sz)) := by
          have h0 := Code.ahead_step fs kd (ks.drop (k + 1)) ys (by rw [hf])
          rw [hfs, hdr, h0, hf]
        have HST := Lib.hid hstep
        have HSZ := Lib.hid hsz
        simp only at hsz
        obtain ⟨s0, s1⟩ := hsz
        clear hfs hdr hyx hf hstep hb2
        have HOWA := Lib.hid (HOW2.out.kept (bel_new (bel_new (Below.refl _ w2) (.cells #[.int .i64 f.1, .int .i64 f.2.1, .string f.2.2] 48)) (.cells #[.int .i64 f.1, .int .i64 f.2.1, .string f.2.2] 48)))
        have HBA := Lib.hid (bel_new (bel_new hbw.out (.cells #[.int .i64 f.1, .int .i64 f.2.1, .string f.2.2] 48)) (.cells #[.int .i64 f.1, .int .i64 f.2.1, .string f.2.2] 48))
        have hsz2 : Hid (w.heap.size ≤ ((w2.alloc (.cells #[.int .i64 f.1, .int .i64 f.2.1, .string f.2.2] 48)).alloc (.cells #[.int .i64 f.1, .int .i64 f.2.1, .string f.2.2] 48)).heap.size) := Lib.hid HBA.out.size
        have HRF : Hid (RdL layF ((w2.alloc (.cells #[.int .i64 f.1, .int .i64 f.2.1, .string f.2.2] 48)).alloc (.cells #[.int .i64 f.1, .int .i64 f.2.1, .string f.2.2] 48)) (some ⟨w2.heap.size + 1, 0, none⟩) [f]) := Lib.hid (RdL.oneF _ f _ (0, 0) (by
          have := Blk.new (w2.alloc (.cells #[.int .i64 f.1, .int .i64 f.2.1, .string f.2.2] 48)) 48 #[.int .i64 f.1, .int .i64 f.2.1, .string f.2.2]
          rw [show (w2.alloc (.cells #[.int .i64 f.1, .int .i64 f.2.1, .string f.2.2] 48)).heap.size = w2.heap.size + 1 from by simp] at this
          exact this))
        have s1i : (sz : Int) ≤ (cap' : Int) := by omega
        by_cases hcs : sz = cap'
        · subst hcs
          have hye : ys.drop sz = [] := List.drop_eq_nil_of_le hl'
          have hyl : ys.length = sz := by omega
          unfold fval
          go_wp2_with (first
            | (at_builtin
               refine wpList_appL 37 _ 32 Try.underlying37 infoF rfl rfl (.tmp 28) (.tmp 30) rfl w.heap.size u6 fs rfl HOWA.out (some ⟨w2.heap.size + 1, 0, none⟩) 1 1 [f] rfl rfl HRF.out (by have := HFL.out; have := hx.out; simp [maxLen]; omega) (by have := HFL.out; have := hx.out; simp; omega) hsz2.out ?_
               intro v2 w3 ho3 hg3
               have hb3 := Lib.hid (OwnL.grown HOWA.out HBA.out hsz2.out hg3)))
          go_roundg (gk - 1)
          case rel => exact ⟨hb3.out, k + 1, by go_num, A', 0, [], rfl, Nat.le_refl _, by omega, Lib.hid (fun i hi => absurd hi (Nat.not_lt_zero _)), Lib.hid ⟨by have := HKG.out; omega, fs ++ [f], by rw [← hye]; exact HST.out, ho3, by have := HFL.out; have := HSZ.out.1; simp; omega⟩⟩
          case measure => omega
        · unfold fval
          go_wp2_with (first
            | (at_builtin
               refine wpList_appL 37 _ 32 Try.underlying37 infoF rfl rfl (.tmp 28) (.tmp 30) rfl w.heap.size u6 fs rfl HOWA.out (some ⟨w2.heap.size + 1, 0, none⟩) 1 1 [f] rfl rfl HRF.out (by have := HFL.out; have := hx.out; simp [maxLen]; omega) (by have := HFL.out; have := hx.out; simp; omega) hsz2.out ?_
               intro v2 w3 ho3 hg3
               have hb3 := Lib.hid (OwnL.grown HOWA.out HBA.out hsz2.out hg3)))
          go_roundg (gk - 1)
          case rel =>
            have hmp : Rd8 w (A'.map fun x => x.add sz) (ys.drop sz) := by
              obtain ⟨b2, off2, rfl, _⟩ := HY.out.some (by omega)
              have := HY.out.drop sz
              simpa [addr_add] using this
            exact ⟨hb3.out, k + 1, by go_num, A'.map fun x => x.add sz, cap' - sz, ys.drop sz, by rw [List.length_drop], by rw [List.length_drop]; omega, by omega, Lib.hid hmp, Lib.hid ⟨by have := HKG.out; omega, fs ++ [f], HST.out, ho3, by have := HFL.out; have := HSZ.out.1; simp; omega⟩⟩
          case measure => omega
      · have hei : ((er : Int) != 0) = true := by rw [bne_iff_ne]; omega
        have hbad : r = ([], er) := by
          have h0 := Code.ahead_bad fs kd (ks.drop (k + 1)) ys (by rw [hf]; exact he)
          rw [hfs, hdr, h0, hf]
        have HBAD := Lib.hid hbad
        clear hfs hdr hyx hf hbad hb2
        unfold fval
        go_wp2_with fail
        go_ret2
        rw [HBAD.out]
        exact ⟨⟨_, rfl, OwnL.nil _ _⟩, bel_new hbw.out _⟩
    · have hl : ¬ (k : Int) < (ks.length : Int) := by omega
      obtain ⟨hkg, fs, hfs, hown, hfl⟩ := HI.out
      have hke : k = ks.length := by omega
      rw [hke, List.drop_length] at hfs
      have HFS := Lib.hid hfs
      have HOW := Lib.hid hown
      clear hkg hfs hown HI hlt hke hfl
      by_cases hy : ys = []
      · subst hy
        have HFS2 : Hid (r = (fs, 0)) := Lib.hid (by rw [HFS.out]; simp [Code.dec, Code.ahead])
        go_wp2_with fail
        go_ret2
        rw [HFS2.out]
        exact ⟨⟨_, rfl, HOW.out⟩, hb⟩
      · have hyl : (0 : Int) < (ys.length : Int) := by have := List.length_pos_iff.2 hy; omega
        have HFS2 : Hid (r = ([], 21)) := Lib.hid (by rw [HFS.out]; simp [Code.dec, Code.ahead, hy])
        go_wp2_with fail
        go_ret2
        rw [HFS2.out]
        exact ⟨⟨_, rfl, OwnL.nil _ _⟩, hb⟩
end Go.Proofs.Ytkmhjfileiabeaa
