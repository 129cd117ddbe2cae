
/-
  Contracts of the reference of layer 13: Put, behind a base.
  Conditions: the entries can be read.
-/
import Derived.Test.YtdladjgdhnkkcaaGreatZTrR3
namespace Go.Proofs.YtdladjgdhnkkcaaGreat
open Go.RowKit
set_option linter.unusedVariables false
set_option linter.unusedSimpArgs false

set_option maxRecDepth 20000 in
set_option maxHeartbeats 4000000 in
theorem rput_lt0 (b bt prev of fixed : Int) (A : Option Addr) (cap : Nat) (es : List En) (B : Option Addr) (cap' : Nat) (l : List En) (w : World) (o : Option (List En)) (HR : Hid (RdE w A es)) (HM : Hid (RdE w B l)) (hlen : es.length ≤ 2 ^ 47) (hcap : es.length ≤ cap) (hll : l.length ≤ 6000000000000) (hcap' : l.length ≤ cap') (hpr : prev ≤ 9223372036854775807) (HC : Hid (Tr.chk b bt es = true)) (hp : 0 ≤ prev ∧ 0 ≤ of) (HFL : Hid (Tr.fol of l = true)) (hpb : prev < b) (hls : (l.length : Int) < b - prev) (ho : o = (if (l.length : Int) < b - prev then some es else if (l.getD (b - prev - 1).toNat default).1 ≠ bt then none else Tr.put2 b bt es b bt (l.drop (b - prev).toNat) fixed)) :
    Calls Tryz.prog 73 #[trV b bt A es.length cap, .int .i64 prev, .int .i64 of, .slice B l.length cap', .int .i64 fixed] w fun e w' => (∃ v, e = .returned v ∧ ResO w.heap.size b bt o A cap es v w') ∧ Below w.heap.size w w' := by
  have hck := Lib.hid (fun W hb => rcheck_calls b bt A cap es W (HR.out.bel hb) (by omega))
  have hfo := Lib.hid (fun W hb => rfollow_calls of B cap' l W (HM.out.bel hb) (by omega))
  rw [HC.out] at hck
  rw [HFL.out] at hfo
  have hr := Tr.chk_rim HC.out
  have hS := Lib.hid (((SW.nil w).new 25 #[.int .i64 b, .int .i64 bt, .slice A es.length cap] w.heap.size rfl).new 25 zT (w.heap.size + 1) (by simp))
  have p1 : ¬ prev < 0 := by omega
  have p2 : ¬ of < 0 := by omega
  have p3 : 0 ≤ b := by omega
  have p4 : b ≤ 1099511627776 := by omega
  have p5 : es.length ≤ 4096 := by omega
  clear hp hr
  rw [if_pos hls] at ho
  subst ho
  go_enter Tryz.func73, Tryz.ntmps73
  go_wp2_with fail
  refine (hck.out _ hS.out.1).mono ?_
  rintro e w1 ⟨rfl, hb1⟩
  have hs0 := Lib.hid (show SW w [(w.heap.size, 25, #[.int .i64 b, .int .i64 bt, .slice A es.length cap]), (w.heap.size + 1, 25, zT)] _ from hS.out.bel hb1)
  clear hb1 hS
  go_wp2_with fail
  refine (hfo.out _ hs0.out.1).mono ?_
  rintro e w2 ⟨rfl, rfl⟩
  have hs1 := hs0
  clear hs0
  have c9 := (hs1.out.at_ 0 rfl).cells
  have hBz := hs1.out.at_ 1 rfl
  have cz := hBz.cells
  have fz := hBz.free
  have q1 : b - prev ≤ 9223372036854775807 := by omega
  go_wp2_with fail
  refine bodyPost_ret (v := .tuple #[trV b bt A es.length cap, .bool true]) (by simp [results, Tryz.results73, go_sem, cz]) rfl ⟨⟨_, rfl, ⟨A, cap, rfl, .inr ⟨rfl, rfl, rfl⟩⟩⟩, put3_bel hs1.out.1 (by omega)⟩

set_option maxRecDepth 20000 in
set_option maxHeartbeats 4000000 in
theorem rput_lt1 (b bt prev of fixed : Int) (A : Option Addr) (cap : Nat) (es : List En) (B : Option Addr) (cap' : Nat) (l : List En) (w : World) (o : Option (List En)) (HR : Hid (RdE w A es)) (HM : Hid (RdE w B l)) (hlen : es.length ≤ 2 ^ 47) (hcap : es.length ≤ cap) (hll : l.length ≤ 6000000000000) (hcap' : l.length ≤ cap') (hpr : prev ≤ 9223372036854775807) (HC : Hid (Tr.chk b bt es = true)) (hp : 0 ≤ prev ∧ 0 ≤ of) (HFL : Hid (Tr.fol of l = true)) (hpb : prev < b) (hls : ¬ (l.length : Int) < b - prev) (hne : ¬ (l.getD (b - prev - 1).toNat default).1 = bt) (ho : o = (if (l.length : Int) < b - prev then some es else if (l.getD (b - prev - 1).toNat default).1 ≠ bt then none else Tr.put2 b bt es b bt (l.drop (b - prev).toNat) fixed)) :
    Calls Tryz.prog 73 #[trV b bt A es.length cap, .int .i64 prev, .int .i64 of, .slice B l.length cap', .int .i64 fixed] w fun e w' => (∃ v, e = .returned v ∧ ResO w.heap.size b bt o A cap es v w') ∧ Below w.heap.size w w' := by
  have hck := Lib.hid (fun W hb => rcheck_calls b bt A cap es W (HR.out.bel hb) (by omega))
  have hfo := Lib.hid (fun W hb => rfollow_calls of B cap' l W (HM.out.bel hb) (by omega))
  rw [HC.out] at hck
  rw [HFL.out] at hfo
  have hr := Tr.chk_rim HC.out
  have hS := Lib.hid (((SW.nil w).new 25 #[.int .i64 b, .int .i64 bt, .slice A es.length cap] w.heap.size rfl).new 25 zT (w.heap.size + 1) (by simp))
  have p1 : ¬ prev < 0 := by omega
  have p2 : ¬ of < 0 := by omega
  have p3 : 0 ≤ b := by omega
  have p4 : b ≤ 1099511627776 := by omega
  have p5 : es.length ≤ 4096 := by omega
  clear hp hr
  obtain ⟨s, hs⟩ : ∃ s : Nat, b - prev = (s : Int) := ⟨(b - prev).toNat, by omega⟩
  have hs0 : 0 < s := by omega
  rw [if_neg hls, show (b - prev - 1).toNat = s - 1 from by omega, show (b - prev).toNat = s from by omega] at ho
  rw [show (b - prev - 1).toNat = s - 1 from by omega] at hne
  obtain ⟨bl, off, rfl, hbl, hcl, _⟩ := HM.out (s - 1) (by omega)
  have g1 : ¬ (l.length : Int) < (s : Int) := by omega
  have g2 : (0 : Int) < (s : Int) := by omega
  have g3 : (0 : Int) ≤ (s : Int) - 1 := by omega
  have g4 : (s : Int) - 1 < (l.length : Int) := by omega
  have g5 : (s : Int) ≤ (l.length : Int) := by omega
  have e1 : b - prev = (s : Int) := hs
  rw [if_pos (by simpa using hne)] at ho
  subst ho
  generalize (l.getD (s - 1) default).1 = y at *
  have hbb : (y != bt) = true := by simpa using hne
  clear hs hls hne
  go_enter Tryz.func73, Tryz.ntmps73
  go_wp2_with fail
  refine (hck.out _ hS.out.1).mono ?_
  rintro e w1 ⟨rfl, hb1⟩
  have hs0 := Lib.hid (show SW w [(w.heap.size, 25, #[.int .i64 b, .int .i64 bt, .slice A es.length cap]), (w.heap.size + 1, 25, zT)] _ from hS.out.bel hb1)
  clear hb1 hS
  go_wp2_with fail
  refine (hfo.out _ hs0.out.1).mono ?_
  rintro e w2 ⟨rfl, rfl⟩
  have hs1 := hs0
  clear hs0
  have c9 := (hs1.out.at_ 0 rfl).cells
  have SX : SW w [(w.heap.size, 25, #[.int .i64 b, .int .i64 bt, .slice A es.length cap]), (w.heap.size + 1, 25, zT)] _ := hs1.out.drew
  have hnemp : Nonempty (InS (SW w [(w.heap.size, 25, #[.int .i64 b, .int .i64 bt, .slice A es.length cap]), (w.heap.size + 1, 25, zT)])) := ⟨⟨_, SX⟩⟩
  have k0 : ∀ (x : InS (SW w [(w.heap.size, 25, #[.int .i64 b, .int .i64 bt, .slice A es.length cap]), (w.heap.size + 1, 25, zT)])) i, x.val.cell? ⟨w.heap.size, i, none⟩ = (#[.int .i64 b, .int .i64 bt, .slice A es.length cap] : Array Value)[i]? := fun x => (x.ok.at_ 0 rfl).cells
  have k1 : ∀ (x : InS (SW w [(w.heap.size, 25, #[.int .i64 b, .int .i64 bt, .slice A es.length cap]), (w.heap.size + 1, 25, zT)])), x.val.cell? ⟨bl, off + (s - 1) * 2, none⟩ = some (.int .i64 y) := fun x => (x.ok.1.cell (p := ⟨bl, off + (s - 1) * 2, none⟩) hbl).trans hcl
  go_wp2_with fail
  refine wp_region_in (SW w [(w.heap.size, 25, #[.int .i64 b, .int .i64 bt, .slice A es.length cap]), (w.heap.size + 1, 25, zT)]) (by kernel_rfl) (by kernel_rfl) SX ?_
  repeat (go_big_quiet_step (fail))
  first | refine wpQuiet_nil ?_ | go_big_quiet_step (fail)
  intro W hW
  have hs2 := Lib.hid (in_ok hW)
  clear hW k0 SX hnemp c9 k1
  have HSZ := hs2
  have hBz := HSZ.out.at_ 1 rfl
  have cz := hBz.cells
  have fz := hBz.free
  go_wp2_with fail
  refine bodyPost_ret (v := .tuple #[trV 0 0 none 0 0, .bool false]) (by simp [results, Tryz.results73, go_sem, cz]) rfl ⟨⟨_, rfl, rfl⟩, put3_bel HSZ.out.1 (by omega)⟩

set_option maxRecDepth 20000 in
set_option maxHeartbeats 4000000 in
theorem rput_lt2 (b bt prev of fixed : Int) (A : Option Addr) (cap : Nat) (es : List En) (B : Option Addr) (cap' : Nat) (l : List En) (w : World) (o : Option (List En)) (HR : Hid (RdE w A es)) (HM : Hid (RdE w B l)) (hlen : es.length ≤ 2 ^ 47) (hcap : es.length ≤ cap) (hll : l.length ≤ 6000000000000) (hcap' : l.length ≤ cap') (hpr : prev ≤ 9223372036854775807) (HC : Hid (Tr.chk b bt es = true)) (hp : 0 ≤ prev ∧ 0 ≤ of) (HFL : Hid (Tr.fol of l = true)) (hpb : prev < b) (hls : ¬ (l.length : Int) < b - prev) (hne : (l.getD (b - prev - 1).toNat default).1 = bt) (hcs : cap' = (b - prev).toNat) (ho : o = (if (l.length : Int) < b - prev then some es else if (l.getD (b - prev - 1).toNat default).1 ≠ bt then none else Tr.put2 b bt es b bt (l.drop (b - prev).toNat) fixed)) :
    Calls Tryz.prog 73 #[trV b bt A es.length cap, .int .i64 prev, .int .i64 of, .slice B l.length cap', .int .i64 fixed] w fun e w' => (∃ v, e = .returned v ∧ ResO w.heap.size b bt o A cap es v w') ∧ Below w.heap.size w w' := by
  have hck := Lib.hid (fun W hb => rcheck_calls b bt A cap es W (HR.out.bel hb) (by omega))
  have hfo := Lib.hid (fun W hb => rfollow_calls of B cap' l W (HM.out.bel hb) (by omega))
  rw [HC.out] at hck
  rw [HFL.out] at hfo
  have hr := Tr.chk_rim HC.out
  have hS := Lib.hid (((SW.nil w).new 25 #[.int .i64 b, .int .i64 bt, .slice A es.length cap] w.heap.size rfl).new 25 zT (w.heap.size + 1) (by simp))
  have p1 : ¬ prev < 0 := by omega
  have p2 : ¬ of < 0 := by omega
  have p3 : 0 ≤ b := by omega
  have p4 : b ≤ 1099511627776 := by omega
  have p5 : es.length ≤ 4096 := by omega
  clear hp hr
  obtain ⟨s, hs⟩ : ∃ s : Nat, b - prev = (s : Int) := ⟨(b - prev).toNat, by omega⟩
  have hs0 : 0 < s := by omega
  rw [if_neg hls, show (b - prev - 1).toNat = s - 1 from by omega, show (b - prev).toNat = s from by omega] at ho
  rw [show (b - prev - 1).toNat = s - 1 from by omega] at hne
  obtain ⟨bl, off, rfl, hbl, hcl, _⟩ := HM.out (s - 1) (by omega)
  have g1 : ¬ (l.length : Int) < (s : Int) := by omega
  have g2 : (0 : Int) < (s : Int) := by omega
  have g3 : (0 : Int) ≤ (s : Int) - 1 := by omega
  have g4 : (s : Int) - 1 < (l.length : Int) := by omega
  have g5 : (s : Int) ≤ (l.length : Int) := by omega
  have e1 : b - prev = (s : Int) := hs
  rw [show (b - prev).toNat = s from by omega] at hcs
  rw [if_neg (by simpa using hne)] at ho
  rw [hne] at hcl
  have hbb : (bt != bt) = false := by simp
  have hl2 : l.drop s = [] := List.drop_of_length_le (by omega)
  rw [hl2] at ho
  have HO := Lib.hid ho
  have hls2 : l.length = s := by omega
  subst hcs
  rw [hls2] at g1 g4 g5 hfo ⊢
  clear ho hls hl2 hs hne hcap' hll
  go_enter Tryz.func73, Tryz.ntmps73
  go_wp2_with fail
  refine (hck.out _ hS.out.1).mono ?_
  rintro e w1 ⟨rfl, hb1⟩
  have hs0 := Lib.hid (show SW w [(w.heap.size, 25, #[.int .i64 b, .int .i64 bt, .slice A es.length cap]), (w.heap.size + 1, 25, zT)] _ from hS.out.bel hb1)
  clear hb1 hS
  go_wp2_with fail
  refine (hfo.out _ hs0.out.1).mono ?_
  rintro e w2 ⟨rfl, rfl⟩
  have hs1 := hs0
  clear hs0
  have c9 := (hs1.out.at_ 0 rfl).cells
  have c9 := (hs1.out.at_ 0 rfl).cells
  have SX : SW w [(w.heap.size, 25, #[.int .i64 b, .int .i64 bt, .slice A es.length cap]), (w.heap.size + 1, 25, zT)] _ := hs1.out.drew
  have hnemp : Nonempty (InS (SW w [(w.heap.size, 25, #[.int .i64 b, .int .i64 bt, .slice A es.length cap]), (w.heap.size + 1, 25, zT)])) := ⟨⟨_, SX⟩⟩
  have k0 : ∀ (x : InS (SW w [(w.heap.size, 25, #[.int .i64 b, .int .i64 bt, .slice A es.length cap]), (w.heap.size + 1, 25, zT)])) i, x.val.cell? ⟨w.heap.size, i, none⟩ = (#[.int .i64 b, .int .i64 bt, .slice A es.length cap] : Array Value)[i]? := fun x => (x.ok.at_ 0 rfl).cells
  have k1 : ∀ (x : InS (SW w [(w.heap.size, 25, #[.int .i64 b, .int .i64 bt, .slice A es.length cap]), (w.heap.size + 1, 25, zT)])), x.val.cell? ⟨bl, off + (cap' - 1) * 2, none⟩ = some (.int .i64 bt) := fun x => (x.ok.1.cell (p := ⟨bl, off + (cap' - 1) * 2, none⟩) hbl).trans hcl
  go_wp2_with fail
  refine wp_region_in (SW w [(w.heap.size, 25, #[.int .i64 b, .int .i64 bt, .slice A es.length cap]), (w.heap.size + 1, 25, zT)]) (by kernel_rfl) (by kernel_rfl) SX ?_
  repeat (go_big_quiet_step (fail))
  first | refine wpQuiet_nil ?_ | go_big_quiet_step (fail)
  intro W hW
  have hs3 := Lib.hid (in_ok hW)
  clear hW k0 SX hnemp c9 k1
  have hs1 := hs3
  obtain ⟨l2, hl2⟩ : ∃ l2 : List En, l2 = [] := ⟨_, rfl⟩
  rw [← hl2] at HO
  have HN2 : Hid (0 = l2.length) := Lib.hid (by rw [hl2]; rfl)
  have HM2 : Hid (RdE w (some ⟨bl, off, none⟩) l2) := Lib.hid (by rw [hl2]; exact RdE.nil _ _)
  have HLL2 : Hid (0 ≤ 6000000000000) := Lib.hid (by omega)
  have c9 := (hs1.out.at_ 0 rfl).cells
  clear hl2
  have ht := Lib.hid (fun W hb => rterm2_calls b bt (b) A cap es W (HR.out.bel hb) (by omega))
  by_cases hh : Tr.has b bt es (b) = true
  · rw [hh] at ht
    simp only [if_true] at ht
    obtain ⟨_, r1, r2⟩ := Tr.has_chk hh
    obtain ⟨x, hx⟩ : ∃ x, x = Tr.trm b bt es (b) := ⟨_, rfl⟩
    rw [← hx] at ht
    by_cases hxo : x = bt
    · obtain ⟨k, hk⟩ : ∃ k : Nat, (b) - b = (k : Int) := ⟨((b) - b).toNat, by omega⟩
      have hkn : ((b) - b).toNat = k := by omega
      have hkl : k ≤ es.length := by omega
      have hto : Tr.trm b bt es (b) = bt := by rw [← hx]; exact hxo
      have hA0 := put2_A (l := l2) (fixed := fixed) hh hto
      have hB0 := put2_B (l := l2) (fixed := fixed) hh hto
      have hN0 := put2_N (l := l2) (fixed := fixed) hh hto
      rw [hkn, ← HO.out] at hA0 hB0 hN0
      have HA0 := Lib.hid hA0
      have HB0 := Lib.hid hB0
      have HN0 := Lib.hid hN0
      have HK := Lib.hid hk
      have hxo2 := hxo.symm
      subst hxo2
      clear hxo hh hx hto hkn hA0 hB0 hN0
      have c1 := (hs1.out.at_ 0 rfl).cells
      go_wp2_with fail
      refine (ht.out _ hs1.out.1).mono ?_
      rintro e w3 ⟨rfl, hb3⟩
      have hs2 := Lib.hid (show SW w [(w.heap.size, 25, #[.int .i64 b, .int .i64 bt, .slice A es.length cap]), (w.heap.size + 1, 25, zT)] _ from hs1.out.bel hb3)
      have c2' := (hs2.out.at_ 0 rfl).cells
      have hgz := (hs2.out.at_ 1 rfl).lt
      have hsz := hs2.out.1.size
      have cB := (((hs2.out.at_ 0 rfl).alloc (.cells #[.int .i64 b, .int .i64 bt, .slice A es.length cap] 25)).alloc (.cells #[] 68)).cells
      have hs2' := Lib.hid (show SW w [(w.heap.size, 25, #[.int .i64 b, .int .i64 bt, .slice A es.length cap]), (w.heap.size + 1, 25, zT), (w3.heap.size, 25, #[.int .i64 b, .int .i64 bt, .slice A es.length cap])] _ from hs2.out.new 25 #[.int .i64 b, .int .i64 bt, .slice A es.length cap] w3.heap.size rfl)
      have hL : OwnE ((w3.alloc (.cells #[.int .i64 b, .int .i64 bt, .slice A es.length cap] 25)).alloc (.cells #[] 68)) (w3.heap.size + 1) (.slice (some ⟨w3.heap.size + 1, 0, none⟩) 0 0) [] := by
        simpa using OwnE.lit (w3.alloc (.cells #[.int .i64 b, .int .i64 bt, .slice A es.length cap] 25)) (w3.heap.size + 1) (by simp) [] (by simp) #[] rfl
      have HLL := Lib.hid hL
      clear hb3 c1 hs1 ht hL
      go_wp2_with (first
        | (at_builtin
           refine wpList_appE rfl (.tmp 83) (.tmp 85) rfl (w3.heap.size + 1) _ [] rfl HLL.out A es.length cap es rfl rfl ((HR.out.bel hs2.out.1).bel (bel_new (bel_new (Below.refl _ _) _) _)) (by simp; omega) (by simp) ?_
           intro v1 w4 ho1 hg1 _
           have hb4 := Lib.hid (OwnE.grown (w0 := w3.alloc (.cells #[.int .i64 b, .int .i64 bt, .slice A es.length cap] 25)) HLL.out ((Below.refl _ _).alloc (by simp) _) (by simp) hg1)
           rw [List.nil_append] at ho1
           obtain ⟨A1, cap1, rfl, hc1, hR1, hO1⟩ := ho1.form
           have HO1 := Lib.hid ho1
           have hs4 := Lib.hid (hs2'.out.bel (hb4.out.mono (by simp)))
           have c6 := (hs4.out.at_ 2 rfl).cells
           have f6 := (hs4.out.at_ 2 rfl).free
           have HSZ4 : Hid (w3.heap.size + 1 ≤ w4.heap.size) := Lib.hid (by have := hb4.out.size; simpa using this)
           have HR1 := Lib.hid hR1
           have HOA1 := Lib.hid hO1
           clear hg1 ho1 hR1 hO1))
      have hs5 := Lib.hid (sw_set2 (v := .slice A1 es.length cap1) hs4.out (by omega) (by omega) (by omega))
      have hw5 := Lib.hid (HO1.out.setBelow (g := w3.heap.size) (i := 2) (by omega) (.slice A1 es.length cap1))
      have hr5 := Lib.hid (HR1.out.far (g := w3.heap.size) (i := 2) (v := .slice A1 es.length cap1) (fun b off sp e => by have := (HOA1.out b off sp e).1; omega))
      clear c6 f6 hs4 HO1 HR1 HLL hb4 hs2' cB c2' hs2
      generalize w4.setCell ⟨w3.heap.size, 2, none⟩ (.slice A1 es.length cap1) = w5 at *
      generalize hgT : w3.heap.size = gT at *
      clear HSZ4 hgT
      go_loopg [16, 17, 18, 19] 0 (fun g v16 v17 v18 v19 W => Hid (SW w [(w.heap.size, 25, #[.int .i64 b, .int .i64 bt, .slice A es.length cap]), (w.heap.size + 1, 25, zT), (gT, 25, #[.int .i64 b, .int .i64 bt, .slice A1 es.length cap1])] W ∧ OwnE W (gT + 1) (.slice A1 es.length cap1) es ∧ RdE W A1 es) ∧ ∃ i : Nat, v16 = .int .i64 i ∧ Hid (i + g = 0 ∧ i ≤ Tr.adv (es.drop k) l2))
      case atStart => exact ⟨Lib.hid ⟨hs5.out, hw5.out, hr5.out⟩, 0, rfl, Lib.hid ⟨by omega, Nat.zero_le _⟩⟩
      case round =>
        obtain ⟨hW, i, rfl, HI⟩ := hrel
        have hs6 := Lib.hid hW.out.1
        have hw6 := Lib.hid hW.out.2.1
        have hr6 := Lib.hid hW.out.2.2
        clear hW hs5 hw5 hr5
        have c6 := (hs6.out.at_ 0 rfl).cells
        have hav := Tr.adv_le (es.drop k) l2
        rw [List.length_drop] at hav
        have HAV := Lib.hid hav
        clear hav
        by_cases hlt : i < 0
        · exfalso; omega
        · have hli : ¬ (i : Int) < ((0 : Nat) : Int) := by omega
          have ho1 := HA0.out (by have := HI.out; have := HN2.out; omega)
          obtain ⟨out, hout⟩ : ∃ out, out = es := ⟨_, rfl⟩
          rw [← hout] at ho1
          have HCO : Hid (o = if Tr.chk b bt out then some out else none) := Lib.hid (by rw [ho1, hout, HC.out]; rfl)
          have HOL : Hid (out.length ≤ 9223372036854775807) := Lib.hid (by rw [hout]; omega)
          subst hout
          have HRES := Lib.hid (hs6.out.at_ 1 rfl)
          have HTT := Lib.hid (hs6.out.at_ 2 rfl)
          have hbl := Lib.hid hs6.out.1
          have hrl := hr6
          have HOWN := hw6
          clear hlt ho1
          have dT := HTT.out.cells
          have hk := Lib.hid (rcheck_calls b bt A1 cap1 out _ hrl.out (by have := HOL.out; omega))
          rcases hco : Tr.chk b bt out with _ | _
          · rw [hco] at hk
            have ho0 : o = none := by rw [HCO.out, hco]; rfl
            subst ho0
            clear hco
            go_wp2_with fail
            refine hk.out.mono ?_
            rintro e w8 ⟨rfl, hb8⟩
            have hw8 := Lib.hid (bel_tr hbl.out hb8)
            have hB := HRES.out.bel hb8
            have c8 := hB.cells
            have f8 := hB.free
            clear hb8
            go_wp2_with fail
            refine bodyPost_ret (v := .tuple #[trV 0 0 none 0 0, .bool false]) (by simp [results, Tryz.results73, go_sem, c8]) rfl ⟨⟨_, rfl, rfl⟩, put3_bel hw8.out (by omega)⟩
          · rw [hco] at hk
            have ho0 : o = some out := by rw [HCO.out, hco]; rfl
            subst ho0
            clear hco
            go_wp2_with fail
            refine hk.out.mono ?_
            rintro e w8 ⟨rfl, hb8⟩
            have hw8 := Lib.hid (bel_tr hbl.out hb8)
            have hB := HRES.out.bel hb8
            have c8 := hB.cells
            have f8 := hB.free
            have d8 := (HTT.out.bel hb8).cells
            have hr8 := Lib.hid (HOWN.out.kept hb8)
            clear hb8 dT
            go_wp2_with fail
            refine bodyPost_ret (v := .tuple #[trV b bt A1 out.length cap1, .bool true]) (by simp [results, Tryz.results73, go_sem, c8]) rfl ⟨⟨_, rfl, ⟨A1, cap1, rfl, .inl (put3_own hr8.out (by omega) (by omega))⟩⟩, put3_bel hw8.out (by omega)⟩
    · have hne : (x != bt) = true := by simpa using hxo
      have ho0 : o = none := by rw [HO.out]; exact put2_0 (fun _ => by rw [← hx]; exact hxo)
      subst ho0
      clear hh hx hxo
      have c1 := (hs1.out.at_ 0 rfl).cells
      go_wp2_with fail
      refine (ht.out _ hs1.out.1).mono ?_
      rintro e w3 ⟨rfl, hb3⟩
      have hs2 := Lib.hid (hs1.out.bel hb3)
      clear hb3 c1 hs1 ht
      have HSZ := hs2
      have hBz := HSZ.out.at_ 1 rfl
      have cz := hBz.cells
      have fz := hBz.free
      go_wp2_with fail
      refine bodyPost_ret (v := .tuple #[trV 0 0 none 0 0, .bool false]) (by simp [results, Tryz.results73, go_sem, cz]) rfl ⟨⟨_, rfl, rfl⟩, put3_bel HSZ.out.1 (by omega)⟩
  · have ho0 : o = none := by rw [HO.out]; exact put2_0 (fun h => absurd h hh)
    subst ho0
    simp only [Bool.not_eq_true] at hh
    rw [hh] at ht
    simp only [Bool.false_eq_true, if_false] at ht
    have c1 := (hs1.out.at_ 0 rfl).cells
    go_wp2_with fail
    refine (ht.out _ hs1.out.1).mono ?_
    rintro e w3 ⟨rfl, hb3⟩
    have hs2 := Lib.hid (hs1.out.bel hb3)
    clear hb3 c1 hs1 ht
    have HSZ := hs2
    have hBz := HSZ.out.at_ 1 rfl
    have cz := hBz.cells
    have fz := hBz.free
    go_wp2_with fail
    refine bodyPost_ret (v := .tuple #[trV 0 0 none 0 0, .bool false]) (by simp [results, Tryz.results73, go_sem, cz]) rfl ⟨⟨_, rfl, rfl⟩, put3_bel HSZ.out.1 (by omega)⟩

set_option maxRecDepth 20000 in
set_option maxHeartbeats 4000000 in
theorem rput_lt3 (b bt prev of fixed : Int) (A : Option Addr) (cap : Nat) (es : List En) (B : Option Addr) (cap' : Nat) (l : List En) (w : World) (o : Option (List En)) (HR : Hid (RdE w A es)) (HM : Hid (RdE w B l)) (hlen : es.length ≤ 2 ^ 47) (hcap : es.length ≤ cap) (hll : l.length ≤ 6000000000000) (hcap' : l.length ≤ cap') (hpr : prev ≤ 9223372036854775807) (HC : Hid (Tr.chk b bt es = true)) (hp : 0 ≤ prev ∧ 0 ≤ of) (HFL : Hid (Tr.fol of l = true)) (hpb : prev < b) (hls : ¬ (l.length : Int) < b - prev) (hne : (l.getD (b - prev - 1).toNat default).1 = bt) (hcs : ¬ cap' = (b - prev).toNat) (ho : o = (if (l.length : Int) < b - prev then some es else if (l.getD (b - prev - 1).toNat default).1 ≠ bt then none else Tr.put2 b bt es b bt (l.drop (b - prev).toNat) fixed)) :
    Calls Tryz.prog 73 #[trV b bt A es.length cap, .int .i64 prev, .int .i64 of, .slice B l.length cap', .int .i64 fixed] w fun e w' => (∃ v, e = .returned v ∧ ResO w.heap.size b bt o A cap es v w') ∧ Below w.heap.size w w' := by
  have hck := Lib.hid (fun W hb => rcheck_calls b bt A cap es W (HR.out.bel hb) (by omega))
  have hfo := Lib.hid (fun W hb => rfollow_calls of B cap' l W (HM.out.bel hb) (by omega))
  rw [HC.out] at hck
  rw [HFL.out] at hfo
  have hr := Tr.chk_rim HC.out
  have hS := Lib.hid (((SW.nil w).new 25 #[.int .i64 b, .int .i64 bt, .slice A es.length cap] w.heap.size rfl).new 25 zT (w.heap.size + 1) (by simp))
  have p1 : ¬ prev < 0 := by omega
  have p2 : ¬ of < 0 := by omega
  have p3 : 0 ≤ b := by omega
  have p4 : b ≤ 1099511627776 := by omega
  have p5 : es.length ≤ 4096 := by omega
  clear hp hr
  obtain ⟨s, hs⟩ : ∃ s : Nat, b - prev = (s : Int) := ⟨(b - prev).toNat, by omega⟩
  have hs0 : 0 < s := by omega
  rw [if_neg hls, show (b - prev - 1).toNat = s - 1 from by omega, show (b - prev).toNat = s from by omega] at ho
  rw [show (b - prev - 1).toNat = s - 1 from by omega] at hne
  obtain ⟨bl, off, rfl, hbl, hcl, _⟩ := HM.out (s - 1) (by omega)
  have g1 : ¬ (l.length : Int) < (s : Int) := by omega
  have g2 : (0 : Int) < (s : Int) := by omega
  have g3 : (0 : Int) ≤ (s : Int) - 1 := by omega
  have g4 : (s : Int) - 1 < (l.length : Int) := by omega
  have g5 : (s : Int) ≤ (l.length : Int) := by omega
  have e1 : b - prev = (s : Int) := hs
  rw [show (b - prev).toNat = s from by omega] at hcs
  rw [if_neg (by simpa using hne)] at ho
  rw [hne] at hcl
  have hbb : (bt != bt) = false := by simp
  have hrd := HM.out.drop s cap' hcap'
  rw [if_neg hcs] at hrd
  simp only [Option.map_some, addr_add] at hrd
  have HM2 := Lib.hid hrd
  have HO := Lib.hid ho
  obtain ⟨l2, hl2⟩ : ∃ l2, l2 = l.drop s := ⟨_, rfl⟩
  rw [← hl2] at HO HM2
  have HN2 : Hid (l.length - s = l2.length) := Lib.hid (by rw [hl2]; simp)
  have HLL2 : Hid (l.length - s ≤ 6000000000000) := Lib.hid (by omega)
  have hn2c : l.length - s ≤ cap' - s := by omega
  clear ho hls hs hne hl2 hrd
  go_enter Tryz.func73, Tryz.ntmps73
  go_wp2_with fail
  refine (hck.out _ hS.out.1).mono ?_
  rintro e w1 ⟨rfl, hb1⟩
  have hs0 := Lib.hid (show SW w [(w.heap.size, 25, #[.int .i64 b, .int .i64 bt, .slice A es.length cap]), (w.heap.size + 1, 25, zT)] _ from hS.out.bel hb1)
  clear hb1 hS
  go_wp2_with fail
  refine (hfo.out _ hs0.out.1).mono ?_
  rintro e w2 ⟨rfl, rfl⟩
  have hs1 := hs0
  clear hs0
  have c9 := (hs1.out.at_ 0 rfl).cells
  have c9 := (hs1.out.at_ 0 rfl).cells
  have SX : SW w [(w.heap.size, 25, #[.int .i64 b, .int .i64 bt, .slice A es.length cap]), (w.heap.size + 1, 25, zT)] _ := hs1.out.drew
  have hnemp : Nonempty (InS (SW w [(w.heap.size, 25, #[.int .i64 b, .int .i64 bt, .slice A es.length cap]), (w.heap.size + 1, 25, zT)])) := ⟨⟨_, SX⟩⟩
  have k0 : ∀ (x : InS (SW w [(w.heap.size, 25, #[.int .i64 b, .int .i64 bt, .slice A es.length cap]), (w.heap.size + 1, 25, zT)])) i, x.val.cell? ⟨w.heap.size, i, none⟩ = (#[.int .i64 b, .int .i64 bt, .slice A es.length cap] : Array Value)[i]? := fun x => (x.ok.at_ 0 rfl).cells
  have k1 : ∀ (x : InS (SW w [(w.heap.size, 25, #[.int .i64 b, .int .i64 bt, .slice A es.length cap]), (w.heap.size + 1, 25, zT)])), x.val.cell? ⟨bl, off + (s - 1) * 2, none⟩ = some (.int .i64 bt) := fun x => (x.ok.1.cell (p := ⟨bl, off + (s - 1) * 2, none⟩) hbl).trans hcl
  go_wp2_with fail
  refine wp_region_in (SW w [(w.heap.size, 25, #[.int .i64 b, .int .i64 bt, .slice A es.length cap]), (w.heap.size + 1, 25, zT)]) (by kernel_rfl) (by kernel_rfl) SX ?_
  repeat (go_big_quiet_step (fail))
  first | refine wpQuiet_nil ?_ | go_big_quiet_step (fail)
  intro W hW
  have hs3 := Lib.hid (in_ok hW)
  clear hW k0 SX hnemp c9 k1
  have hs1 := hs3
  have c9 := (hs1.out.at_ 0 rfl).cells
  clear hcl
  go_wp2_with fail
  generalize off + s * 2 = off2 at *
  generalize (some (⟨bl, off2, none⟩ : Addr)) = B3 at *
  have ht := Lib.hid (fun W hb => rterm2_calls b bt (b) A cap es W (HR.out.bel hb) (by omega))
  by_cases hh : Tr.has b bt es (b) = true
  · rw [hh] at ht
    simp only [if_true] at ht
    obtain ⟨_, r1, r2⟩ := Tr.has_chk hh
    obtain ⟨x, hx⟩ : ∃ x, x = Tr.trm b bt es (b) := ⟨_, rfl⟩
    rw [← hx] at ht
    by_cases hxo : x = bt
    · obtain ⟨k, hk⟩ : ∃ k : Nat, (b) - b = (k : Int) := ⟨((b) - b).toNat, by omega⟩
      have hkn : ((b) - b).toNat = k := by omega
      have hkl : k ≤ es.length := by omega
      have hto : Tr.trm b bt es (b) = bt := by rw [← hx]; exact hxo
      have hA0 := put2_A (l := l2) (fixed := fixed) hh hto
      have hB0 := put2_B (l := l2) (fixed := fixed) hh hto
      have hN0 := put2_N (l := l2) (fixed := fixed) hh hto
      rw [hkn, ← HO.out] at hA0 hB0 hN0
      have HA0 := Lib.hid hA0
      have HB0 := Lib.hid hB0
      have HN0 := Lib.hid hN0
      have HK := Lib.hid hk
      have hxo2 := hxo.symm
      subst hxo2
      clear hxo hh hx hto hkn hA0 hB0 hN0
      have c1 := (hs1.out.at_ 0 rfl).cells
      refine (ht.out _ hs1.out.1).mono ?_
      rintro e w3 ⟨rfl, hb3⟩
      have hs2 := Lib.hid (show SW w [(w.heap.size, 25, #[.int .i64 b, .int .i64 bt, .slice A es.length cap]), (w.heap.size + 1, 25, zT)] _ from hs1.out.bel hb3)
      have c2' := (hs2.out.at_ 0 rfl).cells
      have hgz := (hs2.out.at_ 1 rfl).lt
      have hsz := hs2.out.1.size
      have cB := (((hs2.out.at_ 0 rfl).alloc (.cells #[.int .i64 b, .int .i64 bt, .slice A es.length cap] 25)).alloc (.cells #[] 68)).cells
      have hs2' := Lib.hid (show SW w [(w.heap.size, 25, #[.int .i64 b, .int .i64 bt, .slice A es.length cap]), (w.heap.size + 1, 25, zT), (w3.heap.size, 25, #[.int .i64 b, .int .i64 bt, .slice A es.length cap])] _ from hs2.out.new 25 #[.int .i64 b, .int .i64 bt, .slice A es.length cap] w3.heap.size rfl)
      have hL : OwnE ((w3.alloc (.cells #[.int .i64 b, .int .i64 bt, .slice A es.length cap] 25)).alloc (.cells #[] 68)) (w3.heap.size + 1) (.slice (some ⟨w3.heap.size + 1, 0, none⟩) 0 0) [] := by
        simpa using OwnE.lit (w3.alloc (.cells #[.int .i64 b, .int .i64 bt, .slice A es.length cap] 25)) (w3.heap.size + 1) (by simp) [] (by simp) #[] rfl
      have HLL := Lib.hid hL
      clear hb3 c1 hs1 ht hL
      go_wp2_with (first
        | (at_builtin
           refine wpList_appE rfl (.tmp 83) (.tmp 85) rfl (w3.heap.size + 1) _ [] rfl HLL.out A es.length cap es rfl rfl ((HR.out.bel hs2.out.1).bel (bel_new (bel_new (Below.refl _ _) _) _)) (by simp; omega) (by simp) ?_
           intro v1 w4 ho1 hg1 _
           have hb4 := Lib.hid (OwnE.grown (w0 := w3.alloc (.cells #[.int .i64 b, .int .i64 bt, .slice A es.length cap] 25)) HLL.out ((Below.refl _ _).alloc (by simp) _) (by simp) hg1)
           rw [List.nil_append] at ho1
           obtain ⟨A1, cap1, rfl, hc1, hR1, hO1⟩ := ho1.form
           have HO1 := Lib.hid ho1
           have hs4 := Lib.hid (hs2'.out.bel (hb4.out.mono (by simp)))
           have c6 := (hs4.out.at_ 2 rfl).cells
           have f6 := (hs4.out.at_ 2 rfl).free
           have HSZ4 : Hid (w3.heap.size + 1 ≤ w4.heap.size) := Lib.hid (by have := hb4.out.size; simpa using this)
           have HR1 := Lib.hid hR1
           have HOA1 := Lib.hid hO1
           clear hg1 ho1 hR1 hO1))
      have hs5 := Lib.hid (sw_set2 (v := .slice A1 es.length cap1) hs4.out (by omega) (by omega) (by omega))
      have hw5 := Lib.hid (HO1.out.setBelow (g := w3.heap.size) (i := 2) (by omega) (.slice A1 es.length cap1))
      have hr5 := Lib.hid (HR1.out.far (g := w3.heap.size) (i := 2) (v := .slice A1 es.length cap1) (fun b off sp e => by have := (HOA1.out b off sp e).1; omega))
      clear c6 f6 hs4 HO1 HR1 HLL hb4 hs2' cB c2' hs2
      generalize w4.setCell ⟨w3.heap.size, 2, none⟩ (.slice A1 es.length cap1) = w5 at *
      generalize hgT : w3.heap.size = gT at *
      clear HSZ4 hgT
      go_loopg [16, 17, 18, 19] (l.length - s) (fun g v16 v17 v18 v19 W => Hid (SW w [(w.heap.size, 25, #[.int .i64 b, .int .i64 bt, .slice A es.length cap]), (w.heap.size + 1, 25, zT), (gT, 25, #[.int .i64 b, .int .i64 bt, .slice A1 es.length cap1])] W ∧ OwnE W (gT + 1) (.slice A1 es.length cap1) es ∧ RdE W A1 es) ∧ ∃ i : Nat, v16 = .int .i64 i ∧ Hid (i + g = (l.length - s) ∧ i ≤ Tr.adv (es.drop k) l2))
      case atStart => exact ⟨Lib.hid ⟨hs5.out, hw5.out, hr5.out⟩, 0, rfl, Lib.hid ⟨by omega, Nat.zero_le _⟩⟩
      case round =>
        obtain ⟨hW, i, rfl, HI⟩ := hrel
        have hs6 := Lib.hid hW.out.1
        have hw6 := Lib.hid hW.out.2.1
        have hr6 := Lib.hid hW.out.2.2
        clear hW hs5 hw5 hr5
        have c6 := (hs6.out.at_ 0 rfl).cells
        have hav := Tr.adv_le (es.drop k) l2
        rw [List.length_drop] at hav
        have HAV := Lib.hid hav
        clear hav
        by_cases hlt : i < (l.length - s)
        · have hli : (i : Int) < (((l.length - s) : Nat) : Int) := by omega
          have hg : 0 < gk := by have := HI.out.1; omega
          have m0 : b + 1 ≤ 9223372036854775807 := by have := HK.out; omega
          have m1 : b + 1 + (i : Int) ≤ 9223372036854775807 := by have := HK.out; have := HLL2.out; omega
          have m2 : -9223372036854775808 ≤ b + 1 := by omega
          obtain ⟨nn, hnn⟩ : ∃ nn : Int, nn = b + 1 + (i : Int) := ⟨_, rfl⟩
          have hnb : nn - b - 1 = ((k + i : Nat) : Int) := by have := HK.out; omega
          have ht := Lib.hid (rterm2_calls b bt nn A cap es wr (HR.out.bel hs6.out.1) (by omega))
          have HNN := Lib.hid hnn
          have HNB := Lib.hid hnb
          have htrm : Tr.trm b bt es nn = (es.getD (k + i) default).1 := by
            unfold Tr.trm
            rw [if_neg (by omega), show (nn - b - 1).toNat = k + i from by omega]
          have hhas : Tr.has b bt es nn = decide (k + i < es.length) := by
            unfold Tr.has
            rw [HC.out, Bool.true_and, Bool.eq_iff_iff]
            simp only [decide_eq_true_eq]
            omega
          rw [htrm, hhas] at ht
          rw [hnn] at ht
          obtain ⟨bl, off, rfl, hbl, hcl, _⟩ := HM2.out i (by have := HN2.out; omega)
          have hcw := (hs6.out.1.cell (p := ⟨bl, off + i * 2, none⟩) hbl).trans hcl
          clear htrm hhas hnn hnb hcl
          by_cases hx : i < Tr.adv (es.drop k) l2
          · have hkj : k + i < es.length := by have := HAV.out; omega
            have heq := Tr.adv_eq _ _ i hx
            rw [Tr.getD_drop] at heq
            rw [dec_t hkj] at ht
            simp only [if_true] at ht
            rw [heq] at ht
            generalize (l2.getD i default).1 = y at *
            have HX := Lib.hid hx
            have hyy : (y == y) = true := by simp
            clear heq hx hkj
            have HCW := Lib.hid ((hs6.out.1.cell (p := ⟨bl, off + i * 2, none⟩) hbl).symm.trans hcw)
            go_wp2_with fail
            refine ht.out.mono ?_
            rintro e w7 ⟨rfl, hb7⟩
            have hs7 := Lib.hid (hs6.out.bel hb7)
            have hw7 := Lib.hid (hw6.out.kept hb7)
            have hr7 := Lib.hid (hr6.out.bel hb7)
            have c7 := (hs7.out.at_ 0 rfl).cells
            clear hb7 c6 hs6 hw6 hr6 ht hcw
            have hcw7 := (hs7.out.1.cell (p := ⟨bl, off + i * 2, none⟩) hbl).trans (HCW.out)
            go_wp2_with fail
            go_roundg (gk - 1)
            case rel => exact ⟨Lib.hid ⟨hs7.out, hw7.out, hr7.out⟩, i + 1, by go_num, Lib.hid ⟨by have := HI.out.1; omega, HX.out⟩⟩
            case measure => omega
          · have hadv : Tr.adv (es.drop k) l2 = i := by have := HI.out.2; omega
            have hA1 := HB0.out
            have hN1 := HN0.out
            rw [hadv] at hA1 hN1
            have hng : ¬ l2.length ≤ i := by have := HN2.out; omega
            have hN2 := hN1 hng
            have hB2 := hA1 hng
            have HN3 := Lib.hid hN2
            have HB3 := Lib.hid hB2
            have HNG := Lib.hid hng
            have hkil : k + i ≤ es.length := by have := HAV.out; omega
            clear hA1 hN1 hN2 hB2 hng
            by_cases hkl2 : k + i < es.length
            · have hne2 := Tr.adv_ne (es.drop k) l2 (by rw [List.length_drop, hadv]; omega) (by rw [hadv]; have := HNG.out; omega)
              rw [hadv, Tr.getD_drop] at hne2
              rw [dec_t hkl2] at ht
              simp only [if_true] at ht
              generalize (es.getD (k + i) default).1 = y1 at *
              generalize (l2.getD i default).1 = y2 at *
              have hyy : (y1 == y2) = false := by simpa using hne2
              clear hne2 hadv hx hkl2
              have HCW := Lib.hid ((hs6.out.1.cell (p := ⟨bl, off + i * 2, none⟩) hbl).symm.trans hcw)
              go_wp2_with fail
              refine ht.out.mono ?_
              rintro e w7 ⟨rfl, hb7⟩
              have hs7 := Lib.hid (hs6.out.bel hb7)
              have hw7 := Lib.hid (hw6.out.kept hb7)
              have hr7 := Lib.hid (hr6.out.bel hb7)
              have c7 := (hs7.out.at_ 0 rfl).cells
              clear hb7 c6 hs6 hw6 hr6 ht hcw
              have hcw7 := (hs7.out.1.cell (p := ⟨bl, off + i * 2, none⟩) hbl).trans (HCW.out)
              by_cases hfx : (b) + 1 + (i : Int) ≤ fixed
              · have ho1 := HN3.out (by have := HK.out; omega)
                subst ho1
                have HSZ := hs7
                have hBz := HSZ.out.at_ 1 rfl
                have cz := hBz.cells
                have fz := hBz.free
                go_wp2_with fail
                refine bodyPost_ret (v := .tuple #[trV 0 0 none 0 0, .bool false]) (by simp [results, Tryz.results73, go_sem, cz]) rfl ⟨⟨_, rfl, rfl⟩, put3_bel HSZ.out.1 (by omega)⟩
              · have HB4 := HB3.out (by have := HK.out; omega)
                obtain ⟨q, hq⟩ : ∃ q : Nat, q = k + i + 1 := ⟨_, rfl⟩
                obtain ⟨p, hpp⟩ : ∃ p : Nat, p = k + i := ⟨_, rfl⟩
                rw [← hpp] at HB4
                obtain ⟨out, hout⟩ : ∃ out, out = es.take p ++ l2.drop i := ⟨_, rfl⟩
                have HCO : Hid (o = if Tr.chk b bt out then some out else none) := Lib.hid (by rw [HB4]; unfold Tr.with_; rw [← hout])
                have HOUT := Lib.hid hout
                have HOL : Hid (out.length ≤ 9223372036854775807) := Lib.hid (by rw [hout]; simp; have := HLL2.out; have := HN2.out; omega)
                have e5 : (b) + 1 + (i : Int) - b = (q : Int) := by have := HK.out; omega
                have e6 : (q : Int) - 1 = (p : Int) := by omega
                have hwq : IntKind.i64.wrap (q : Int) = (q : Int) := wrap_i64 _ (by omega) (by omega)
                have hwp : IntKind.i64.wrap (p : Int) = (p : Int) := wrap_i64 _ (by omega) (by omega)
                have v1 : (p : Int) ≤ (cap1 : Int) := by omega
                have v2 : p ≤ cap1 := by omega
                have v3 : (i : Int) ≤ (((l.length - s) : Nat) : Int) := by omega
                have v4 : i ≤ (l.length - s) := by omega
                have v5 : ¬ (cap' - s) = i := by omega
                have v6 : (0 : Int) ≤ (p : Int) := by omega
                have hgr := hs7.out.at_ 2 rfl
                have hgl := Lib.hid hgr.lt
                have hown := Lib.hid ((hw7.out.cutTo p (by omega)).kept ((Below.refl _ w7).drew))
                have hrd := (HM2.out.bel hs7.out.1.drew).drop i (cap' - s) (by have := HN2.out; omega)
                rw [if_neg v5] at hrd
                simp only [Option.map_some, addr_add] at hrd
                have HRD := Lib.hid hrd
                have HLN : Hid ((l.length - s) - i = (l2.drop i).length) := Lib.hid (by simp; have := HN2.out; omega)
                have HP5 : Hid (p ≤ 4096) := Lib.hid (by omega)
                have hs7d := Lib.hid hs7.out.drew
                have k0 := (hs7d.out.at_ 0 rfl).cells
                have k2 := (hs7d.out.at_ 2 rfl).cells
                clear hout hrd hpp hq HB4 hgr
                go_wp2_with fail
                go_region_law (first
                  | (refine step_appE rfl (.tmp 125) (.tmp 128) rfl (gT + 1) (.slice A1 p cap1) (es.take p) rfl hown.out _ _ _ (l2.drop i) rfl HLN.out HRD.out (by have := HP5.out; have := HLN.out; have := HLL2.out; have := HN2.out; simp; omega) hgl.out ?_
                     intro v9 w9 ho9 hg9
                     have hb9 := Lib.hid (OwnE.grown hown.out (Below.refl (gT + 1) _) hgl.out hg9)
                     have g2 : w9.cell? ⟨gT, 2, none⟩ = some (.slice A1 es.length cap1) := ((hs7d.out.at_ 2 rfl).below hb9.out (by omega)).cells 2
                     have f2 := ((hs7d.out.at_ 2 rfl).below hb9.out (by omega)).free 2
                     rw [← HOUT.out] at ho9
                     obtain ⟨A2, cap2, rfl, hcl, hR9, hO9⟩ := ho9.form
                     have HO9 := Lib.hid ho9
                     clear ho9 hg9))
                all_goals
                  have hs9 := Lib.hid (show SW w [(w.heap.size, 25, #[.int .i64 b, .int .i64 bt, .slice A es.length cap]), (w.heap.size + 1, 25, zT), (gT, 25, #[.int .i64 b, .int .i64 bt, .slice A1 es.length cap1])] w9 from ⟨hs7d.out.1.trans (hb9.out.mono (by omega)), fun x hx => (hs7d.out.2 x hx).below hb9.out (by simp only [List.mem_cons, List.not_mem_nil, or_false] at hx; rcases hx with rfl | rfl | rfl <;> simp only <;> omega)⟩)
                  have hs10 := Lib.hid (sw_set2 (v := .slice A2 out.length cap2) hs9.out (by omega) (by omega) (by omega))
                  have hrl := Lib.hid (hR9.far (g := gT) (i := 2) (v := .slice A2 out.length cap2) (fun b off sp e => by have := (hO9 b off sp e).1; omega))
                  have HOWN := Lib.hid (OwnE.set HO9.out (g := gT) (i := 2) (u := .slice A2 out.length cap2) (Nat.lt_succ_self gT))
                  clear HO9 g2 f2 hs9 hb9 hs7d k0 k2 hown hR9 hO9
                  generalize w9.setCell ⟨gT, 2, none⟩ (.slice A2 out.length cap2) = w10 at *
                  have HRES := Lib.hid (hs10.out.at_ 1 rfl)
                  have HTT := Lib.hid (hs10.out.at_ 2 rfl)
                  have hbl := Lib.hid hs10.out.1
                  have dT := HTT.out.cells
                  have hk := Lib.hid (rcheck_calls b bt A2 cap2 out _ hrl.out (by have := HOL.out; omega))
                  rcases hco : Tr.chk b bt out with _ | _
                  · rw [hco] at hk
                    have ho0 : o = none := by rw [HCO.out, hco]; rfl
                    subst ho0
                    clear hco
                    go_wp2_with fail
                    refine hk.out.mono ?_
                    rintro e w8 ⟨rfl, hb8⟩
                    have hw8 := Lib.hid (bel_tr hbl.out hb8)
                    have hB := HRES.out.bel hb8
                    have c8 := hB.cells
                    have f8 := hB.free
                    clear hb8
                    go_wp2_with fail
                    refine bodyPost_ret (v := .tuple #[trV 0 0 none 0 0, .bool false]) (by simp [results, Tryz.results73, go_sem, c8]) rfl ⟨⟨_, rfl, rfl⟩, put3_bel hw8.out (by omega)⟩
                  · rw [hco] at hk
                    have ho0 : o = some out := by rw [HCO.out, hco]; rfl
                    subst ho0
                    clear hco
                    go_wp2_with fail
                    refine hk.out.mono ?_
                    rintro e w8 ⟨rfl, hb8⟩
                    have hw8 := Lib.hid (bel_tr hbl.out hb8)
                    have hB := HRES.out.bel hb8
                    have c8 := hB.cells
                    have f8 := hB.free
                    have d8 := (HTT.out.bel hb8).cells
                    have hr8 := Lib.hid (HOWN.out.kept hb8)
                    clear hb8 dT
                    go_wp2_with fail
                    refine bodyPost_ret (v := .tuple #[trV b bt A2 out.length cap2, .bool true]) (by simp [results, Tryz.results73, go_sem, c8]) rfl ⟨⟨_, rfl, ⟨A2, cap2, rfl, .inl (put3_own hr8.out (by omega) (by omega))⟩⟩, put3_bel hw8.out (by omega)⟩
            · rw [dec_f hkl2] at ht
              simp only [Bool.false_eq_true, if_false] at ht
              clear hadv hx hkl2
              have HCW := Lib.hid ((hs6.out.1.cell (p := ⟨bl, off + i * 2, none⟩) hbl).symm.trans hcw)
              go_wp2_with fail
              refine ht.out.mono ?_
              rintro e w7 ⟨rfl, hb7⟩
              have hs7 := Lib.hid (hs6.out.bel hb7)
              have hw7 := Lib.hid (hw6.out.kept hb7)
              have hr7 := Lib.hid (hr6.out.bel hb7)
              have c7 := (hs7.out.at_ 0 rfl).cells
              clear hb7 c6 hs6 hw6 hr6 ht hcw
              by_cases hfx : (b) + 1 + (i : Int) ≤ fixed
              · have ho1 := HN3.out (by have := HK.out; omega)
                subst ho1
                have HSZ := hs7
                have hBz := HSZ.out.at_ 1 rfl
                have cz := hBz.cells
                have fz := hBz.free
                go_wp2_with fail
                refine bodyPost_ret (v := .tuple #[trV 0 0 none 0 0, .bool false]) (by simp [results, Tryz.results73, go_sem, cz]) rfl ⟨⟨_, rfl, rfl⟩, put3_bel HSZ.out.1 (by omega)⟩
              · have HB4 := HB3.out (by have := HK.out; omega)
                obtain ⟨q, hq⟩ : ∃ q : Nat, q = k + i + 1 := ⟨_, rfl⟩
                obtain ⟨p, hpp⟩ : ∃ p : Nat, p = k + i := ⟨_, rfl⟩
                rw [← hpp] at HB4
                obtain ⟨out, hout⟩ : ∃ out, out = es.take p ++ l2.drop i := ⟨_, rfl⟩
                have HCO : Hid (o = if Tr.chk b bt out then some out else none) := Lib.hid (by rw [HB4]; unfold Tr.with_; rw [← hout])
                have HOUT := Lib.hid hout
                have HOL : Hid (out.length ≤ 9223372036854775807) := Lib.hid (by rw [hout]; simp; have := HLL2.out; have := HN2.out; omega)
                have e5 : (b) + 1 + (i : Int) - b = (q : Int) := by have := HK.out; omega
                have e6 : (q : Int) - 1 = (p : Int) := by omega
                have hwq : IntKind.i64.wrap (q : Int) = (q : Int) := wrap_i64 _ (by omega) (by omega)
                have hwp : IntKind.i64.wrap (p : Int) = (p : Int) := wrap_i64 _ (by omega) (by omega)
                have v1 : (p : Int) ≤ (cap1 : Int) := by omega
                have v2 : p ≤ cap1 := by omega
                have v3 : (i : Int) ≤ (((l.length - s) : Nat) : Int) := by omega
                have v4 : i ≤ (l.length - s) := by omega
                have v5 : ¬ (cap' - s) = i := by omega
                have v6 : (0 : Int) ≤ (p : Int) := by omega
                have hgr := hs7.out.at_ 2 rfl
                have hgl := Lib.hid hgr.lt
                have hown := Lib.hid ((hw7.out.cutTo p (by omega)).kept ((Below.refl _ w7).drew))
                have hrd := (HM2.out.bel hs7.out.1.drew).drop i (cap' - s) (by have := HN2.out; omega)
                rw [if_neg v5] at hrd
                simp only [Option.map_some, addr_add] at hrd
                have HRD := Lib.hid hrd
                have HLN : Hid ((l.length - s) - i = (l2.drop i).length) := Lib.hid (by simp; have := HN2.out; omega)
                have HP5 : Hid (p ≤ 4096) := Lib.hid (by omega)
                have hs7d := Lib.hid hs7.out.drew
                have k0 := (hs7d.out.at_ 0 rfl).cells
                have k2 := (hs7d.out.at_ 2 rfl).cells
                clear hout hrd hpp hq HB4 hgr
                go_wp2_with fail
                go_region_law (first
                  | (refine step_appE rfl (.tmp 125) (.tmp 128) rfl (gT + 1) (.slice A1 p cap1) (es.take p) rfl hown.out _ _ _ (l2.drop i) rfl HLN.out HRD.out (by have := HP5.out; have := HLN.out; have := HLL2.out; have := HN2.out; simp; omega) hgl.out ?_
                     intro v9 w9 ho9 hg9
                     have hb9 := Lib.hid (OwnE.grown hown.out (Below.refl (gT + 1) _) hgl.out hg9)
                     have g2 : w9.cell? ⟨gT, 2, none⟩ = some (.slice A1 es.length cap1) := ((hs7d.out.at_ 2 rfl).below hb9.out (by omega)).cells 2
                     have f2 := ((hs7d.out.at_ 2 rfl).below hb9.out (by omega)).free 2
                     rw [← HOUT.out] at ho9
                     obtain ⟨A2, cap2, rfl, hcl, hR9, hO9⟩ := ho9.form
                     have HO9 := Lib.hid ho9
                     clear ho9 hg9))
                all_goals
                  have hs9 := Lib.hid (show SW w [(w.heap.size, 25, #[.int .i64 b, .int .i64 bt, .slice A es.length cap]), (w.heap.size + 1, 25, zT), (gT, 25, #[.int .i64 b, .int .i64 bt, .slice A1 es.length cap1])] w9 from ⟨hs7d.out.1.trans (hb9.out.mono (by omega)), fun x hx => (hs7d.out.2 x hx).below hb9.out (by simp only [List.mem_cons, List.not_mem_nil, or_false] at hx; rcases hx with rfl | rfl | rfl <;> simp only <;> omega)⟩)
                  have hs10 := Lib.hid (sw_set2 (v := .slice A2 out.length cap2) hs9.out (by omega) (by omega) (by omega))
                  have hrl := Lib.hid (hR9.far (g := gT) (i := 2) (v := .slice A2 out.length cap2) (fun b off sp e => by have := (hO9 b off sp e).1; omega))
                  have HOWN := Lib.hid (OwnE.set HO9.out (g := gT) (i := 2) (u := .slice A2 out.length cap2) (Nat.lt_succ_self gT))
                  clear HO9 g2 f2 hs9 hb9 hs7d k0 k2 hown hR9 hO9
                  generalize w9.setCell ⟨gT, 2, none⟩ (.slice A2 out.length cap2) = w10 at *
                  have HRES := Lib.hid (hs10.out.at_ 1 rfl)
                  have HTT := Lib.hid (hs10.out.at_ 2 rfl)
                  have hbl := Lib.hid hs10.out.1
                  have dT := HTT.out.cells
                  have hk := Lib.hid (rcheck_calls b bt A2 cap2 out _ hrl.out (by have := HOL.out; omega))
                  rcases hco : Tr.chk b bt out with _ | _
                  · rw [hco] at hk
                    have ho0 : o = none := by rw [HCO.out, hco]; rfl
                    subst ho0
                    clear hco
                    go_wp2_with fail
                    refine hk.out.mono ?_
                    rintro e w8 ⟨rfl, hb8⟩
                    have hw8 := Lib.hid (bel_tr hbl.out hb8)
                    have hB := HRES.out.bel hb8
                    have c8 := hB.cells
                    have f8 := hB.free
                    clear hb8
                    go_wp2_with fail
                    refine bodyPost_ret (v := .tuple #[trV 0 0 none 0 0, .bool false]) (by simp [results, Tryz.results73, go_sem, c8]) rfl ⟨⟨_, rfl, rfl⟩, put3_bel hw8.out (by omega)⟩
                  · rw [hco] at hk
                    have ho0 : o = some out := by rw [HCO.out, hco]; rfl
                    subst ho0
                    clear hco
                    go_wp2_with fail
                    refine hk.out.mono ?_
                    rintro e w8 ⟨rfl, hb8⟩
                    have hw8 := Lib.hid (bel_tr hbl.out hb8)
                    have hB := HRES.out.bel hb8
                    have c8 := hB.cells
                    have f8 := hB.free
                    have d8 := (HTT.out.bel hb8).cells
                    have hr8 := Lib.hid (HOWN.out.kept hb8)
                    clear hb8 dT
                    go_wp2_with fail
                    refine bodyPost_ret (v := .tuple #[trV b bt A2 out.length cap2, .bool true]) (by simp [results, Tryz.results73, go_sem, c8]) rfl ⟨⟨_, rfl, ⟨A2, cap2, rfl, .inl (put3_own hr8.out (by omega) (by omega))⟩⟩, put3_bel hw8.out (by omega)⟩
        · have hli : ¬ (i : Int) < (((l.length - s) : Nat) : Int) := by omega
          have ho1 := HA0.out (by have := HI.out; have := HN2.out; omega)
          obtain ⟨out, hout⟩ : ∃ out, out = es := ⟨_, rfl⟩
          rw [← hout] at ho1
          have HCO : Hid (o = if Tr.chk b bt out then some out else none) := Lib.hid (by rw [ho1, hout, HC.out]; rfl)
          have HOL : Hid (out.length ≤ 9223372036854775807) := Lib.hid (by rw [hout]; omega)
          subst hout
          have HRES := Lib.hid (hs6.out.at_ 1 rfl)
          have HTT := Lib.hid (hs6.out.at_ 2 rfl)
          have hbl := Lib.hid hs6.out.1
          have hrl := hr6
          have HOWN := hw6
          clear hlt ho1
          have dT := HTT.out.cells
          have hk := Lib.hid (rcheck_calls b bt A1 cap1 out _ hrl.out (by have := HOL.out; omega))
          rcases hco : Tr.chk b bt out with _ | _
          · rw [hco] at hk
            have ho0 : o = none := by rw [HCO.out, hco]; rfl
            subst ho0
            clear hco
            go_wp2_with fail
            refine hk.out.mono ?_
            rintro e w8 ⟨rfl, hb8⟩
            have hw8 := Lib.hid (bel_tr hbl.out hb8)
            have hB := HRES.out.bel hb8
            have c8 := hB.cells
            have f8 := hB.free
            clear hb8
            go_wp2_with fail
            refine bodyPost_ret (v := .tuple #[trV 0 0 none 0 0, .bool false]) (by simp [results, Tryz.results73, go_sem, c8]) rfl ⟨⟨_, rfl, rfl⟩, put3_bel hw8.out (by omega)⟩
          · rw [hco] at hk
            have ho0 : o = some out := by rw [HCO.out, hco]; rfl
            subst ho0
            clear hco
            go_wp2_with fail
            refine hk.out.mono ?_
            rintro e w8 ⟨rfl, hb8⟩
            have hw8 := Lib.hid (bel_tr hbl.out hb8)
            have hB := HRES.out.bel hb8
            have c8 := hB.cells
            have f8 := hB.free
            have d8 := (HTT.out.bel hb8).cells
            have hr8 := Lib.hid (HOWN.out.kept hb8)
            clear hb8 dT
            go_wp2_with fail
            refine bodyPost_ret (v := .tuple #[trV b bt A1 out.length cap1, .bool true]) (by simp [results, Tryz.results73, go_sem, c8]) rfl ⟨⟨_, rfl, ⟨A1, cap1, rfl, .inl (put3_own hr8.out (by omega) (by omega))⟩⟩, put3_bel hw8.out (by omega)⟩
    · have hne : (x != bt) = true := by simpa using hxo
      have ho0 : o = none := by rw [HO.out]; exact put2_0 (fun _ => by rw [← hx]; exact hxo)
      subst ho0
      clear hh hx hxo
      have c1 := (hs1.out.at_ 0 rfl).cells
      refine (ht.out _ hs1.out.1).mono ?_
      rintro e w3 ⟨rfl, hb3⟩
      have hs2 := Lib.hid (hs1.out.bel hb3)
      clear hb3 c1 hs1 ht
      have HSZ := hs2
      have hBz := HSZ.out.at_ 1 rfl
      have cz := hBz.cells
      have fz := hBz.free
      go_wp2_with fail
      refine bodyPost_ret (v := .tuple #[trV 0 0 none 0 0, .bool false]) (by simp [results, Tryz.results73, go_sem, cz]) rfl ⟨⟨_, rfl, rfl⟩, put3_bel HSZ.out.1 (by omega)⟩
  · have ho0 : o = none := by rw [HO.out]; exact put2_0 (fun h => absurd h hh)
    subst ho0
    simp only [Bool.not_eq_true] at hh
    rw [hh] at ht
    simp only [Bool.false_eq_true, if_false] at ht
    have c1 := (hs1.out.at_ 0 rfl).cells
    refine (ht.out _ hs1.out.1).mono ?_
    rintro e w3 ⟨rfl, hb3⟩
    have hs2 := Lib.hid (hs1.out.bel hb3)
    clear hb3 c1 hs1 ht
    have HSZ := hs2
    have hBz := HSZ.out.at_ 1 rfl
    have cz := hBz.cells
    have fz := hBz.free
    go_wp2_with fail
    refine bodyPost_ret (v := .tuple #[trV 0 0 none 0 0, .bool false]) (by simp [results, Tryz.results73, go_sem, cz]) rfl ⟨⟨_, rfl, rfl⟩, put3_bel HSZ.out.1 (by omega)⟩

set_option maxRecDepth 20000 in
set_option maxHeartbeats 4000000 in
theorem rput_own (b bt prev of fixed : Int) (A : Option Addr) (cap : Nat) (es : List En) (B : Option Addr) (cap' : Nat) (l : List En) (w : World) (hR : RdE w A es) (hM : RdE w B l) (hlen : es.length ≤ 2 ^ 47) (hcap : es.length ≤ cap) (hll : l.length ≤ 6000000000000) (hcap' : l.length ≤ cap') (hpr : prev ≤ 9223372036854775807) :
    Calls Tryz.prog 73 #[trV b bt A es.length cap, .int .i64 prev, .int .i64 of, .slice B l.length cap', .int .i64 fixed] w fun e w' => (∃ v, e = .returned v ∧ ResO w.heap.size b bt (Tr.put b bt es prev of l fixed) A cap es v w') ∧ Below w.heap.size w w' := by
  obtain ⟨o, ho⟩ : ∃ o, o = Tr.put b bt es prev of l fixed := ⟨_, rfl⟩
  rw [← ho]
  have hck := Lib.hid (fun W hb => rcheck_calls b bt A cap es W (hR.bel hb) (by omega))
  have hfo := Lib.hid (fun W hb => rfollow_calls of B cap' l W (hM.bel hb) (by omega))
  have HR := Lib.hid hR
  have HM := Lib.hid hM
  have hS := Lib.hid (((SW.nil w).new 25 #[.int .i64 b, .int .i64 bt, .slice A es.length cap] w.heap.size rfl).new 25 zT (w.heap.size + 1) (by simp))
  clear hR hM
  by_cases hc : Tr.chk b bt es = true
  · rw [hc] at hck
    by_cases hp : prev < 0 ∨ of < 0
    · have ho0 : o = none := by
        rw [ho]; unfold Tr.put
        rw [if_neg]
        simp only [Bool.and_eq_true, decide_eq_true_eq]
        omega
      subst ho0
      clear ho hc
      rcases hp with hp | hp
      all_goals
        go_enter Tryz.func73, Tryz.ntmps73
        go_wp2_with fail
        refine (hck.out _ hS.out.1).mono ?_
        rintro e w1 ⟨rfl, hb1⟩
        have hs0 := Lib.hid (show SW w [(w.heap.size, 25, #[.int .i64 b, .int .i64 bt, .slice A es.length cap]), (w.heap.size + 1, 25, zT)] _ from hS.out.bel hb1)
        clear hb1 hS
        first | skip | by_cases hp2 : prev < 0
        have HSZ := hs0
        have hBz := HSZ.out.at_ 1 rfl
        have cz := hBz.cells
        have fz := hBz.free
        go_wp2_with fail
        all_goals
          refine bodyPost_ret (v := .tuple #[trV 0 0 none 0 0, .bool false]) (by simp [results, Tryz.results73, go_sem, cz]) rfl ⟨⟨_, rfl, rfl⟩, put3_bel HSZ.out.1 (by omega)⟩
    · by_cases hf : Tr.fol of l = true
      · rw [hf] at hfo
        have HC := Lib.hid hc
        have HFL := Lib.hid hf
        unfold Tr.put at ho
        rw [if_pos (by simp [hc, hf]; omega)] at ho
        have hp' : 0 ≤ prev ∧ 0 ≤ of := by omega
        by_cases hpb : prev < b
        · rw [if_pos hpb] at ho
          by_cases hls : (l.length : Int) < b - prev
          · exact rput_lt0 b bt prev of fixed A cap es B cap' l w o HR HM hlen hcap hll hcap' hpr HC hp' HFL hpb hls ho
          · by_cases hne : (l.getD (b - prev - 1).toNat default).1 = bt
            · by_cases hcs : cap' = (b - prev).toNat
              · exact rput_lt2 b bt prev of fixed A cap es B cap' l w o HR HM hlen hcap hll hcap' hpr HC hp' HFL hpb hls hne hcs ho
              · exact rput_lt3 b bt prev of fixed A cap es B cap' l w o HR HM hlen hcap hll hcap' hpr HC hp' HFL hpb hls hne hcs ho
            · exact rput_lt1 b bt prev of fixed A cap es B cap' l w o HR HM hlen hcap hll hcap' hpr HC hp' HFL hpb hls hne ho
        · rw [if_neg hpb] at ho
          exact rput_ge b bt prev of fixed A cap es B cap' l w o HR HM hlen hcap hll hcap' hpr HC hp' HFL hpb ho
      · have ho0 : o = none := by
          rw [ho]; unfold Tr.put
          rw [if_neg]
          simp [hf]
        subst ho0
        simp only [Bool.not_eq_true] at hf
        rw [hf] at hfo
        have p1 : ¬ prev < 0 := by omega
        have p2 : ¬ of < 0 := by omega
        clear ho hc hp
        go_enter Tryz.func73, Tryz.ntmps73
        go_wp2_with fail
        refine (hck.out _ hS.out.1).mono ?_
        rintro e w1 ⟨rfl, hb1⟩
        have hs0 := Lib.hid (show SW w [(w.heap.size, 25, #[.int .i64 b, .int .i64 bt, .slice A es.length cap]), (w.heap.size + 1, 25, zT)] _ from hS.out.bel hb1)
        clear hb1 hS
        go_wp2_with fail
        refine (hfo.out _ hs0.out.1).mono ?_
        rintro e w2 ⟨rfl, rfl⟩
        have hs1 := hs0
        clear hs0
        have HSZ := hs1
        have hBz := HSZ.out.at_ 1 rfl
        have cz := hBz.cells
        have fz := hBz.free
        go_wp2_with fail
        refine bodyPost_ret (v := .tuple #[trV 0 0 none 0 0, .bool false]) (by simp [results, Tryz.results73, go_sem, cz]) rfl ⟨⟨_, rfl, rfl⟩, put3_bel HSZ.out.1 (by omega)⟩
  · have ho0 : o = none := by
      rw [ho]; unfold Tr.put
      rw [if_neg]
      simp [hc]
    subst ho0
    simp only [Bool.not_eq_true] at hc
    rw [hc] at hck
    clear ho
    go_enter Tryz.func73, Tryz.ntmps73
    go_wp2_with fail
    refine (hck.out _ hS.out.1).mono ?_
    rintro e w1 ⟨rfl, hb1⟩
    have hs0 := Lib.hid (show SW w [(w.heap.size, 25, #[.int .i64 b, .int .i64 bt, .slice A es.length cap]), (w.heap.size + 1, 25, zT)] _ from hS.out.bel hb1)
    clear hb1 hS
    have HSZ := hs0
    have hBz := HSZ.out.at_ 1 rfl
    have cz := hBz.cells
    have fz := hBz.free
    go_wp2_with fail
    refine bodyPost_ret (v := .tuple #[trV 0 0 none 0 0, .bool false]) (by simp [results, Tryz.results73, go_sem, cz]) rfl ⟨⟨_, rfl, rfl⟩, put3_bel HSZ.out.1 (by omega)⟩

end Go.Proofs.YtdladjgdhnkkcaaGreat
