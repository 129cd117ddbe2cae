/-
  A field read from bytes: the program's field.
  Conditions: the bytes can be read; not more than 2^62 of them.
-/
import Derived.Test.YtkmhjfileiabeaaStr3
import Derived.Lib.Zigzag
namespace Go.Proofs.Ytkmhjfileiabeaa
open Go.RowKit
set_option linter.unusedVariables false
set_option linter.unusedSimpArgs false

/-- a field as a value -/
def fval (f : Fi) : Value := .agg #[.int .i64 f.1, .int .i64 f.2.1, .string f.2.2]
theorem xor_m1 (x : Nat) (hx : x < 9223372036854775808) : bits .xor .i64 (x : Int) (-1) = -(x : Int) - 1 := by
  rw [← Lib.i64_not x hx]
  show IntKind.i64.wrap ((BitVec.ofInt 64 (x : Int) ^^^ BitVec.ofInt 64 (-1)).toNat : Int) = IntKind.i64.wrap ((BitVec.ofInt 64 (-1) ^^^ BitVec.ofInt 64 (x : Int)).toNat : Int)
  rw [BitVec.xor_comm]
theorem xor_z (x : Nat) (hx : x < 9223372036854775808) : bits .xor .i64 (x : Int) 0 = (x : Int) := by
  show IntKind.i64.wrap ((BitVec.ofInt 64 (x : Int) ^^^ BitVec.ofInt 64 0).toNat : Int) = _
  have h2 : (BitVec.ofInt 64 (x : Int)).toNat = x := by
    rw [BitVec.ofInt_natCast, BitVec.toNat_ofNat]; exact Nat.mod_eq_of_lt (by omega)
  rw [BitVec.toNat_xor, h2, show (BitVec.ofInt 64 0).toNat = 0 from by decide, Nat.xor_zero, IntKind.wrap_i64]
  omega
theorem uz_code (v : Nat) (hv : v < 2 ^ 64) : bits .xor .i64 ((v : Int) / 2) (wrap64 (-wrap64 (bits .and .u64 (v : Int) 1))) = Code.uz v := by
  rw [Lib.u64_and1 _ (by omega) (by omega), show (v : Int) / 2 = ((v / 2 : Nat) : Int) from by omega]
  unfold Code.uz
  split
  · rename_i h
    rw [show (v : Int) % 2 = 1 from by omega, show wrap64 (-wrap64 1) = -1 from by unfold wrap64; omega, xor_m1 _ (by omega)]
  · rename_i h
    rw [show (v : Int) % 2 = 0 from by omega, show wrap64 (-wrap64 0) = 0 from by unfold wrap64; omega, xor_z _ (by omega)]

set_option maxRecDepth 20000 in
set_option maxHeartbeats 4000000 in
theorem field_calls (A : Option Addr) (cap : Nat) (k : Int) (xs : List Nat) (w : World) (hR : Hid (Rd8 w A xs)) (hlen : xs.length ≤ cap) (hcap : cap ≤ 9223372036854775807) :
    Calls Try.prog 32 #[.int .i64 k, .slice A xs.length cap] w fun e w' => e = .returned (.tuple #[fval (Code.fd k xs).1, .int .i64 (Code.fd k xs).2.1, .int .i64 (Code.fd k xs).2.2]) ∧ Below w.heap.size w w' := by
  obtain ⟨r, hr⟩ : ∃ r, r = Code.fd k xs := ⟨_, rfl⟩
  rw [← hr]
  have HR := Lib.hid hr
  clear hr
  by_cases hk : k ≠ 1 ∧ k ≠ 2 ∧ k ≠ 3
  · have HR2 : Hid (r = ((k, 0, bs []), 0, 1)) := Lib.hid (by rw [HR.out]; unfold Code.fd; rw [if_pos hk])
    obtain ⟨k1, k2, k3⟩ := hk
    have k1' : (k != 1) = true := by simpa using k1
    have k2' : (k != 2) = true := by simpa using k2
    have k3' : (k != 3) = true := by simpa using k3
    go_enter Try.func32, Try.ntmps32
    go_wp2_with fail
    exact bodyPost_ret (v := .tuple #[fval (k, 0, bs []), .int .i64 0, .int .i64 1]) (by simp [results, Try.results32, go_sem, fval, bs]) rfl ⟨by rw [HR2.out]; rfl, (Below.refl _ _).alloc (Nat.le_refl _) _ |>.alloc (by simp) _⟩
  · obtain ⟨v, sz, e, ht⟩ : ∃ v sz e, Code.tk 0 0 xs = (v, sz, e) := ⟨_, _, _, rfl⟩
    have HT := Lib.hid ht
    have HK := Lib.hid hk
    by_cases he : e = 0
    · subst he
      have hx : ∀ x ∈ xs, x < 256 := hR.out.lt
      obtain ⟨i1, i2, i3⟩ := Code.tk_inv0 hx ht
      have hvp := Code.vb_pos v
      have hl1 : sz ≤ xs.length := by rw [i2, i1]; simp
      have hs10 : sz ≤ 10 := by rw [i2]; exact Code.vb_len 9 v (by omega)
      have hl0 : 0 < xs.length := by omega
      obtain ⟨b, off, rfl, hbl⟩ := hR.out.some hl0
      clear i1 i2 hvp hx ht
      by_cases h1 : k = 1
      · subst h1
        by_cases h63 : 9223372036854775808 ≤ v
        · have HR2 : Hid (r = ((1, 0, bs []), 0, 21)) := Lib.hid (by rw [HR.out]; unfold Code.fd; rw [if_neg HK.out, HT.out, if_neg (by simp), if_pos rfl, if_pos h63])
          clear hk
          go_enter Try.func32, Try.ntmps32
          go_wp2_with fail
          refine (take_calls _ cap xs _ (Lib.hid (hR.out.bel (bel_new (bel_new (Below.refl _ _) _) _))) (by omega)).mono ?_
          rintro e w2 ⟨rfl, hb2⟩
          rw [HT.out]
          have B4 := ((Blk.new w 48 #[.int .i64 0, .int .i64 0, .string ⟨#[]⟩]).alloc (.cells #[.int .i64 1, .int .i64 0, .string ⟨#[]⟩] 48)).bel hb2
          have B7 := (Blk.new (w.alloc (.cells #[.int .i64 0, .int .i64 0, .string ⟨#[]⟩] 48)) 48 #[.int .i64 1, .int .i64 0, .string ⟨#[]⟩]).bel hb2
          have hb3 := Lib.hid (bel_tr (bel_new (bel_new (Below.refl _ w) _) _) hb2)
          rw [show (w.alloc (.cells #[.int .i64 0, .int .i64 0, .string ⟨#[]⟩] 48)).heap.size = w.heap.size + 1 from by simp] at B7
          have c4 := B4.cells
          have c7 := B7.cells
          have f4 := B4.free
          have f7 := B7.free
          have HB4 := Lib.hid B4
          have HB7 := Lib.hid B7
          have HRW := Lib.hid ((hR.out.bel (bel_new (bel_new (Below.refl _ _) _) _)).bel hb2)
          clear hb2 B4 B7
          go_wp2_with fail
          exact bodyPost_ret (v := .tuple #[fval (1, 0, bs []), .int .i64 0, .int .i64 21]) (by simp [results, Try.results32, go_sem, c4, fval, bs]) rfl ⟨by rw [HR2.out]; rfl, bel_set (bel_set (bel_set hb3.out (Nat.le_refl _) _ _) (Nat.le_refl _) _ _) (Nat.le_refl _) _ _⟩
        · have HR2 : Hid (r = ((1, ((v : Nat) : Int), bs []), sz, 0)) := Lib.hid (by rw [HR.out]; unfold Code.fd; rw [if_neg HK.out, HT.out, if_neg (by simp), if_pos rfl, if_neg (by simpa using h63)])
          clear hk
          go_enter Try.func32, Try.ntmps32
          go_wp2_with fail
          refine (take_calls _ cap xs _ (Lib.hid (hR.out.bel (bel_new (bel_new (Below.refl _ _) _) _))) (by omega)).mono ?_
          rintro e w2 ⟨rfl, hb2⟩
          rw [HT.out]
          have B4 := ((Blk.new w 48 #[.int .i64 0, .int .i64 0, .string ⟨#[]⟩]).alloc (.cells #[.int .i64 1, .int .i64 0, .string ⟨#[]⟩] 48)).bel hb2
          have B7 := (Blk.new (w.alloc (.cells #[.int .i64 0, .int .i64 0, .string ⟨#[]⟩] 48)) 48 #[.int .i64 1, .int .i64 0, .string ⟨#[]⟩]).bel hb2
          have hb3 := Lib.hid (bel_tr (bel_new (bel_new (Below.refl _ w) _) _) hb2)
          rw [show (w.alloc (.cells #[.int .i64 0, .int .i64 0, .string ⟨#[]⟩] 48)).heap.size = w.heap.size + 1 from by simp] at B7
          have c4 := B4.cells
          have c7 := B7.cells
          have f4 := B4.free
          have f7 := B7.free
          have HB4 := Lib.hid B4
          have HB7 := Lib.hid B7
          have HRW := Lib.hid ((hR.out.bel (bel_new (bel_new (Below.refl _ _) _) _)).bel hb2)
          clear hb2 B4 B7
          go_wp2_with fail
          exact bodyPost_ret (v := .tuple #[fval (1, ((v : Nat) : Int), bs []), .int .i64 sz, .int .i64 0]) (by simp [results, Try.results32, go_sem, c4, fval, bs]) rfl ⟨by rw [HR2.out]; rfl, bel_set (bel_set (bel_set (bel_set hb3.out (g := w.heap.size + 1) (by omega) _ _) (Nat.le_refl _) _ _) (Nat.le_refl _) _ _) (Nat.le_refl _) _ _⟩
      · by_cases h2 : k = 2
        · subst h2
          have HR2 : Hid (r = ((2, Code.uz v, bs []), sz, 0)) := Lib.hid (by rw [HR.out]; unfold Code.fd; rw [if_neg HK.out, HT.out, if_neg (by simp), if_neg (by omega), if_pos rfl])
          have HU := Lib.hid (uz_code v i3)
          clear hk
          go_enter Try.func32, Try.ntmps32
          go_wp2_with fail
          refine (take_calls _ cap xs _ (Lib.hid (hR.out.bel (bel_new (bel_new (Below.refl _ _) _) _))) (by omega)).mono ?_
          rintro e w2 ⟨rfl, hb2⟩
          rw [HT.out]
          have B4 := ((Blk.new w 48 #[.int .i64 0, .int .i64 0, .string ⟨#[]⟩]).alloc (.cells #[.int .i64 2, .int .i64 0, .string ⟨#[]⟩] 48)).bel hb2
          have B7 := (Blk.new (w.alloc (.cells #[.int .i64 0, .int .i64 0, .string ⟨#[]⟩] 48)) 48 #[.int .i64 2, .int .i64 0, .string ⟨#[]⟩]).bel hb2
          have hb3 := Lib.hid (bel_tr (bel_new (bel_new (Below.refl _ w) _) _) hb2)
          rw [show (w.alloc (.cells #[.int .i64 0, .int .i64 0, .string ⟨#[]⟩] 48)).heap.size = w.heap.size + 1 from by simp] at B7
          have c4 := B4.cells
          have c7 := B7.cells
          have f4 := B4.free
          have f7 := B7.free
          have HB4 := Lib.hid B4
          have HB7 := Lib.hid B7
          have HRW := Lib.hid ((hR.out.bel (bel_new (bel_new (Below.refl _ _) _) _)).bel hb2)
          clear hb2 B4 B7
          go_wp2_with fail
          rw [HU.out]
          exact bodyPost_ret (v := .tuple #[fval (2, Code.uz v, bs []), .int .i64 sz, .int .i64 0]) (by simp [results, Try.results32, go_sem, c4, fval, bs]) rfl ⟨by rw [HR2.out]; rfl, bel_set (bel_set (bel_set (bel_set hb3.out (g := w.heap.size + 1) (by omega) _ _) (Nat.le_refl _) _ _) (Nat.le_refl _) _ _) (Nat.le_refl _) _ _⟩
        · have h3 : k = 3 := by omega
          subst h3
          clear hk
          by_cases h6 : 65536 < v
          · have HR2 : Hid (r = ((3, 0, bs []), 0, 21)) := Lib.hid (by rw [HR.out]; unfold Code.fd; rw [if_neg HK.out, HT.out, if_neg (by simp), if_neg (by omega), if_neg (by omega), if_pos h6])
            have h6i : (65536 : Int) < (v : Int) := by omega
            go_enter Try.func32, Try.ntmps32
            go_wp2_with fail
            refine (take_calls _ cap xs _ (Lib.hid (hR.out.bel (bel_new (bel_new (Below.refl _ _) _) _))) (by omega)).mono ?_
            rintro e w2 ⟨rfl, hb2⟩
            rw [HT.out]
            have B4 := ((Blk.new w 48 #[.int .i64 0, .int .i64 0, .string ⟨#[]⟩]).alloc (.cells #[.int .i64 3, .int .i64 0, .string ⟨#[]⟩] 48)).bel hb2
            have B7 := (Blk.new (w.alloc (.cells #[.int .i64 0, .int .i64 0, .string ⟨#[]⟩] 48)) 48 #[.int .i64 3, .int .i64 0, .string ⟨#[]⟩]).bel hb2
            have hb3 := Lib.hid (bel_tr (bel_new (bel_new (Below.refl _ w) _) _) hb2)
            rw [show (w.alloc (.cells #[.int .i64 0, .int .i64 0, .string ⟨#[]⟩] 48)).heap.size = w.heap.size + 1 from by simp] at B7
            have c4 := B4.cells
            have c7 := B7.cells
            have f4 := B4.free
            have f7 := B7.free
            have HB4 := Lib.hid B4
            have HB7 := Lib.hid B7
            have HRW := Lib.hid ((hR.out.bel (bel_new (bel_new (Below.refl _ _) _) _)).bel hb2)
            clear hb2 B4 B7
            go_wp2_with fail
            exact bodyPost_ret (v := .tuple #[fval (3, 0, bs []), .int .i64 0, .int .i64 21]) (by simp [results, Try.results32, go_sem, c4, fval, bs]) rfl ⟨by rw [HR2.out]; rfl, bel_set (bel_set (bel_set hb3.out (Nat.le_refl _) _ _) (Nat.le_refl _) _ _) (Nat.le_refl _) _ _⟩
          · have h6i : ¬ (65536 : Int) < (v : Int) := by omega
            by_cases hs : xs.length < sz + v
            · have HR2 : Hid (r = ((3, 0, bs []), 0, 20)) := Lib.hid (by rw [HR.out]; unfold Code.fd; rw [if_neg HK.out, HT.out, if_neg (by simp), if_neg (by omega), if_neg (by omega), if_neg h6, if_pos hs])
              have hsi : (xs.length : Int) - (sz : Int) < (v : Int) := by omega
              go_enter Try.func32, Try.ntmps32
              go_wp2_with fail
              refine (take_calls _ cap xs _ (Lib.hid (hR.out.bel (bel_new (bel_new (Below.refl _ _) _) _))) (by omega)).mono ?_
              rintro e w2 ⟨rfl, hb2⟩
              rw [HT.out]
              have B4 := ((Blk.new w 48 #[.int .i64 0, .int .i64 0, .string ⟨#[]⟩]).alloc (.cells #[.int .i64 3, .int .i64 0, .string ⟨#[]⟩] 48)).bel hb2
              have B7 := (Blk.new (w.alloc (.cells #[.int .i64 0, .int .i64 0, .string ⟨#[]⟩] 48)) 48 #[.int .i64 3, .int .i64 0, .string ⟨#[]⟩]).bel hb2
              have hb3 := Lib.hid (bel_tr (bel_new (bel_new (Below.refl _ w) _) _) hb2)
              rw [show (w.alloc (.cells #[.int .i64 0, .int .i64 0, .string ⟨#[]⟩] 48)).heap.size = w.heap.size + 1 from by simp] at B7
              have c4 := B4.cells
              have c7 := B7.cells
              have f4 := B4.free
              have f7 := B7.free
              have HB4 := Lib.hid B4
              have HB7 := Lib.hid B7
              have HRW := Lib.hid ((hR.out.bel (bel_new (bel_new (Below.refl _ _) _) _)).bel hb2)
              clear hb2 B4 B7
              go_wp2_with fail
              exact bodyPost_ret (v := .tuple #[fval (3, 0, bs []), .int .i64 0, .int .i64 20]) (by simp [results, Try.results32, go_sem, c4, fval, bs]) rfl ⟨by rw [HR2.out]; rfl, bel_set (bel_set (bel_set hb3.out (Nat.le_refl _) _ _) (Nat.le_refl _) _ _) (Nat.le_refl _) _ _⟩
            · have HR2 : Hid (r = ((3, 0, bs ((xs.drop sz).take v)), sz + v, 0)) := Lib.hid (by rw [HR.out]; unfold Code.fd; rw [if_neg HK.out, HT.out, if_neg (by simp), if_neg (by omega), if_neg (by omega), if_neg h6, if_neg hs])
              have hsi : ¬ (xs.length : Int) - (sz : Int) < (v : Int) := by omega
              go_enter Try.func32, Try.ntmps32
              go_wp2_with fail
              refine (take_calls _ cap xs _ (Lib.hid (hR.out.bel (bel_new (bel_new (Below.refl _ _) _) _))) (by omega)).mono ?_
              rintro e w2 ⟨rfl, hb2⟩
              rw [HT.out]
              have B4 := ((Blk.new w 48 #[.int .i64 0, .int .i64 0, .string ⟨#[]⟩]).alloc (.cells #[.int .i64 3, .int .i64 0, .string ⟨#[]⟩] 48)).bel hb2
              have B7 := (Blk.new (w.alloc (.cells #[.int .i64 0, .int .i64 0, .string ⟨#[]⟩] 48)) 48 #[.int .i64 3, .int .i64 0, .string ⟨#[]⟩]).bel hb2
              have hb3 := Lib.hid (bel_tr (bel_new (bel_new (Below.refl _ w) _) _) hb2)
              rw [show (w.alloc (.cells #[.int .i64 0, .int .i64 0, .string ⟨#[]⟩] 48)).heap.size = w.heap.size + 1 from by simp] at B7
              have c4 := B4.cells
              have c7 := B7.cells
              have f4 := B4.free
              have f7 := B7.free
              have HB4 := Lib.hid B4
              have HB7 := Lib.hid B7
              have HRW := Lib.hid ((hR.out.bel (bel_new (bel_new (Below.refl _ _) _) _)).bel hb2)
              clear hb2 B4 B7
              have hlv : ((xs.drop sz).take v).length = v := by rw [List.length_take, List.length_drop]; omega
              by_cases hcs : cap = sz
              · subst hcs
                have hv0 : v = 0 := by omega
                subst hv0
                have hcv := conv8 (w := w2) (A := some ⟨b, off, none⟩) (xs := []) (fun i hi => absurd hi (Nat.not_lt_zero _)) 0
                rw [show ([] : List Nat).length = 0 from rfl, show ([] : List Nat) = (xs.drop cap).take 0 from by simp] at hcv
                clear hlv
                go_wp2_with fail
                refine bodyPost_ret (v := .tuple #[fval (3, 0, bs []), .int .i64 ((cap : Nat) : Int), .int .i64 0]) (by simp [results, Try.results32, go_sem, c4, fval]) rfl ⟨by rw [HR2.out, List.take_zero]; rfl, bel_set (bel_set (bel_set ((bel_set hb3.out (g := w.heap.size + 1) (by omega) _ _)) (Nat.le_refl _) _ _) (Nat.le_refl _) _ _) (Nat.le_refl _) _ _⟩
              · have hcv := conv8 (HRW.out.drop sz |>.take v) (cap - sz)
                rw [hlv] at hcv
                have hcs' : ¬ sz = cap := fun e => hcs e.symm
                clear hlv
                go_wp2_with fail
                refine bodyPost_ret (v := .tuple #[fval (3, 0, bs ((xs.drop sz).take v)), .int .i64 ((sz + v : Nat) : Int), .int .i64 0]) (by simp [results, Try.results32, go_sem, c4, fval]) rfl ⟨by rw [HR2.out]; rfl, bel_set (bel_set (bel_set ((bel_set hb3.out (g := w.heap.size + 1) (by omega) _ _)) (Nat.le_refl _) _ _) (Nat.le_refl _) _ _) (Nat.le_refl _) _ _⟩
    · have HR2 : Hid (r = ((k, 0, bs []), 0, e)) := Lib.hid (by rw [HR.out]; unfold Code.fd; rw [if_neg HK.out, HT.out, if_pos he])
      have hei : ((e : Int) != 0) = true := by rw [bne_iff_ne]; omega
      have hkk : k = 1 ∨ k = 2 ∨ k = 3 := by omega
      clear hk HK ht
      rcases hkk with rfl | rfl | rfl
      · go_enter Try.func32, Try.ntmps32
        go_wp2_with fail
        refine (take_calls _ cap xs _ (Lib.hid (hR.out.bel (bel_new (bel_new (Below.refl _ _) _) _))) (by omega)).mono ?_
        rintro e w2 ⟨rfl, hb2⟩
        rw [HT.out]
        have B4 := ((Blk.new w 48 #[.int .i64 0, .int .i64 0, .string ⟨#[]⟩]).alloc (.cells #[.int .i64 1, .int .i64 0, .string ⟨#[]⟩] 48)).bel hb2
        have B7 := (Blk.new (w.alloc (.cells #[.int .i64 0, .int .i64 0, .string ⟨#[]⟩] 48)) 48 #[.int .i64 1, .int .i64 0, .string ⟨#[]⟩]).bel hb2
        have hb3 := Lib.hid (bel_tr (bel_new (bel_new (Below.refl _ w) _) _) hb2)
        rw [show (w.alloc (.cells #[.int .i64 0, .int .i64 0, .string ⟨#[]⟩] 48)).heap.size = w.heap.size + 1 from by simp] at B7
        have c4 := B4.cells
        have c7 := B7.cells
        have f4 := B4.free
        have f7 := B7.free
        have HB4 := Lib.hid B4
        have HB7 := Lib.hid B7
        have HRW := Lib.hid ((hR.out.bel (bel_new (bel_new (Below.refl _ _) _) _)).bel hb2)
        clear hb2 B4 B7
        go_wp2_with fail
        exact bodyPost_ret (v := .tuple #[fval (1, 0, bs []), .int .i64 0, .int .i64 e]) (by simp [results, Try.results32, go_sem, c4, fval, bs]) rfl ⟨by rw [HR2.out]; rfl, bel_set (bel_set (bel_set hb3.out (Nat.le_refl _) _ _) (Nat.le_refl _) _ _) (Nat.le_refl _) _ _⟩
      · go_enter Try.func32, Try.ntmps32
        go_wp2_with fail
        refine (take_calls _ cap xs _ (Lib.hid (hR.out.bel (bel_new (bel_new (Below.refl _ _) _) _))) (by omega)).mono ?_
        rintro e w2 ⟨rfl, hb2⟩
        rw [HT.out]
        have B4 := ((Blk.new w 48 #[.int .i64 0, .int .i64 0, .string ⟨#[]⟩]).alloc (.cells #[.int .i64 2, .int .i64 0, .string ⟨#[]⟩] 48)).bel hb2
        have B7 := (Blk.new (w.alloc (.cells #[.int .i64 0, .int .i64 0, .string ⟨#[]⟩] 48)) 48 #[.int .i64 2, .int .i64 0, .string ⟨#[]⟩]).bel hb2
        have hb3 := Lib.hid (bel_tr (bel_new (bel_new (Below.refl _ w) _) _) hb2)
        rw [show (w.alloc (.cells #[.int .i64 0, .int .i64 0, .string ⟨#[]⟩] 48)).heap.size = w.heap.size + 1 from by simp] at B7
        have c4 := B4.cells
        have c7 := B7.cells
        have f4 := B4.free
        have f7 := B7.free
        have HB4 := Lib.hid B4
        have HB7 := Lib.hid B7
        have HRW := Lib.hid ((hR.out.bel (bel_new (bel_new (Below.refl _ _) _) _)).bel hb2)
        clear hb2 B4 B7
        go_wp2_with fail
        exact bodyPost_ret (v := .tuple #[fval (2, 0, bs []), .int .i64 0, .int .i64 e]) (by simp [results, Try.results32, go_sem, c4, fval, bs]) rfl ⟨by rw [HR2.out]; rfl, bel_set (bel_set (bel_set hb3.out (Nat.le_refl _) _ _) (Nat.le_refl _) _ _) (Nat.le_refl _) _ _⟩
      · go_enter Try.func32, Try.ntmps32
        go_wp2_with fail
        refine (take_calls _ cap xs _ (Lib.hid (hR.out.bel (bel_new (bel_new (Below.refl _ _) _) _))) (by omega)).mono ?_
        rintro e w2 ⟨rfl, hb2⟩
        rw [HT.out]
        have B4 := ((Blk.new w 48 #[.int .i64 0, .int .i64 0, .string ⟨#[]⟩]).alloc (.cells #[.int .i64 3, .int .i64 0, .string ⟨#[]⟩] 48)).bel hb2
        have B7 := (Blk.new (w.alloc (.cells #[.int .i64 0, .int .i64 0, .string ⟨#[]⟩] 48)) 48 #[.int .i64 3, .int .i64 0, .string ⟨#[]⟩]).bel hb2
        have hb3 := Lib.hid (bel_tr (bel_new (bel_new (Below.refl _ w) _) _) hb2)
        rw [show (w.alloc (.cells #[.int .i64 0, .int .i64 0, .string ⟨#[]⟩] 48)).heap.size = w.heap.size + 1 from by simp] at B7
        have c4 := B4.cells
        have c7 := B7.cells
        have f4 := B4.free
        have f7 := B7.free
        have HB4 := Lib.hid B4
        have HB7 := Lib.hid B7
        have HRW := Lib.hid ((hR.out.bel (bel_new (bel_new (Below.refl _ _) _) _)).bel hb2)
        clear hb2 B4 B7
        go_wp2_with fail
        exact bodyPost_ret (v := .tuple #[fval (3, 0, bs []), .int .i64 0, .int .i64 e]) (by simp [results, Try.results32, go_sem, c4, fval, bs]) rfl ⟨by rw [HR2.out]; rfl, bel_set (bel_set (bel_set hb3.out (Nat.le_refl _) _ _) (Nat.le_refl _) _ _) (Nat.le_refl _) _ _⟩
end Go.Proofs.Ytkmhjfileiabeaa
