
/-
  Contracts of the package trail: Put.
  Conditions: the entries can be read.
-/
import Derived.Test.YtdladjgdhnkkcaaGreatZTr5ToTr7
namespace Go.Proofs.YtdladjgdhnkkcaaGreat
open Go.RowKit
set_option linter.unusedVariables false
set_option linter.unusedSimpArgs false

section
variable {b bt prev of fixed : Int} {es l : List En}
theorem put2_0 (h : Tr.has b bt es prev = true → Tr.trm b bt es prev ≠ of) : Tr.put2 b bt es prev of l fixed = none := by
  unfold Tr.put2
  rw [if_neg]
  simp only [Bool.and_eq_true, decide_eq_true_eq]
  exact fun hh => h hh.1 hh.2
theorem put2_A (hh : Tr.has b bt es prev = true) (ht : Tr.trm b bt es prev = of) (h : l.length ≤ Tr.adv (es.drop (prev - b).toNat) l) : Tr.put2 b bt es prev of l fixed = some es := by
  unfold Tr.put2
  rw [if_pos (by simp [hh, ht])]
  simp only
  rw [if_pos h]
theorem put2_N (hh : Tr.has b bt es prev = true) (ht : Tr.trm b bt es prev = of) (h : ¬ l.length ≤ Tr.adv (es.drop (prev - b).toNat) l) (hf : b + ((prev - b).toNat + Tr.adv (es.drop (prev - b).toNat) l : Nat) + 1 ≤ fixed) : Tr.put2 b bt es prev of l fixed = none := by
  unfold Tr.put2
  rw [if_pos (by simp [hh, ht])]
  simp only
  rw [if_neg h, if_pos hf]
theorem put2_B (hh : Tr.has b bt es prev = true) (ht : Tr.trm b bt es prev = of) (h : ¬ l.length ≤ Tr.adv (es.drop (prev - b).toNat) l) (hf : ¬ b + ((prev - b).toNat + Tr.adv (es.drop (prev - b).toNat) l : Nat) + 1 ≤ fixed) : Tr.put2 b bt es prev of l fixed = Tr.with_ b bt es ((prev - b).toNat + Tr.adv (es.drop (prev - b).toNat) l) (l.drop (Tr.adv (es.drop (prev - b).toNat) l)) := by
  unfold Tr.put2
  rw [if_pos (by simp [hh, ht])]
  simp only
  rw [if_neg h, if_neg hf]
end

set_option maxRecDepth 20000 in
set_option maxHeartbeats 8000000 in
theorem put_lt0 (b bt prev of fixed : Int) (A : Option Addr) (cap : Nat) (es : List En) (B : Option Addr) (cap' : Nat) (l : List En) (w : World) (o : Option (List En)) (HR : Hid (RdE w A es)) (HM : Hid (RdE w B l)) (hlen : es.length ≤ 2 ^ 47) (hcap : es.length ≤ cap) (hll : l.length ≤ 6000000000000) (hcap' : l.length ≤ cap') (hpr : prev ≤ 9223372036854775807) (HC : Hid (Tr.chk b bt es = true)) (hp : 0 ≤ prev ∧ 0 ≤ of) (HFL : Hid (Tr.fol of l = true)) (hpb : prev < b) (hls : (l.length : Int) < b - prev) (ho : o = (if (l.length : Int) < b - prev then some es else if (l.getD (b - prev - 1).toNat default).1 ≠ bt then none else Tr.put2 b bt es b bt (l.drop (b - prev).toNat) fixed)) :
    Calls Tryz.prog 65 #[trV b bt A es.length cap, .int .i64 prev, .int .i64 of, .slice B l.length cap', .int .i64 fixed] w fun e w' => (∃ v, e = .returned v ∧ ResT w.heap.size b bt o v w') ∧ Below w.heap.size w w' := by
  have hck := Lib.hid (fun W hb => check_calls b bt A cap es W (HR.out.bel hb) (by omega))
  have hfo := Lib.hid (fun W hb => follow_calls of B cap' l W (HM.out.bel hb) (by omega))
  rw [HC.out] at hck
  rw [HFL.out] at hfo
  have hr := Tr.chk_rim HC.out
  have hS := Lib.hid (((SW.nil w).new 25 #[.int .i64 b, .int .i64 bt, .slice A es.length cap] w.heap.size rfl).new 25 zT (w.heap.size + 1) (by simp))
  have hwA := Lib.hid (fun W hb => with_calls b bt A cap es.length es none 0 [] W (HR.out.bel hb) (RdE.nil _ _) (by omega) hcap (Nat.le_refl _) (by simp))
  have hwB := Lib.hid (fun (k : Nat) (Bj : Option Addr) (cj : Nat) (m : List En) (W : World) hb hm hk hml => with_calls b bt A cap k es Bj cj m W (HR.out.bel hb) hm (by omega) hcap hk hml)
  have p1 : ¬ prev < 0 := by omega
  have p2 : ¬ of < 0 := by omega
  have p3 : 0 ≤ b := by omega
  have p4 : b ≤ 1099511627776 := by omega
  have p5 : es.length ≤ 4096 := by omega
  clear hp hr
  obtain ⟨s, hs⟩ : ∃ s : Nat, b - prev = (s : Int) := ⟨(b - prev).toNat, by omega⟩
  have hs0 : 0 < s := by omega
  rw [if_pos hls] at ho
  subst ho
  have g1 : (l.length : Int) < b - prev := by omega
  have g2 : 0 < b - prev := by omega
  clear hs hls hs0
  go_enter Tryz.func65, Tryz.ntmps65
  go_wp2_with fail
  refine (hck.out _ hS.out.1).mono ?_
  rintro e w1 ⟨rfl, hb1⟩
  have hs0 := Lib.hid (hS.out.bel hb1)
  clear hb1 hS
  go_wp2_with fail
  refine (hfo.out _ hs0.out.1).mono ?_
  rintro e w2 ⟨rfl, hb2⟩
  have hs1 := Lib.hid (hs0.out.bel hb2)
  clear hb2 hs0
  have c0 := (hs1.out.at_ 0 rfl).cells
  clear hfo hck
  go_wp2_with fail
  refine (hwA.out _ hs1.out.1).mono ?_
  rintro e w4 ⟨⟨v, rfl, hv⟩, hb4⟩
  have hs4 := Lib.hid (hs1.out.bel hb4)
  have hg1 := (hs1.out.at_ 1 rfl).lt
  have hg2 := hs1.out.1.size
  clear hb4 c0
  rw [chk_with HC.out] at hv
  obtain ⟨A4, cap4, rfl, qo⟩ := hv
  have hBz := hs4.out.at_ 1 rfl
  have cz := hBz.cells
  have fz := hBz.free
  go_wp2_with fail
  refine bodyPost_ret (v := .tuple #[trV b bt A4 es.length cap4, .bool true]) (by simp [results, Tryz.results65, go_sem, cz]) rfl ⟨⟨_, rfl, ⟨A4, cap4, rfl, put3_own qo (by omega) (by omega)⟩⟩, put3_bel hs4.out.1 (by omega)⟩

set_option maxRecDepth 20000 in
set_option maxHeartbeats 8000000 in
theorem put_lt1 (b bt prev of fixed : Int) (A : Option Addr) (cap : Nat) (es : List En) (B : Option Addr) (cap' : Nat) (l : List En) (w : World) (o : Option (List En)) (HR : Hid (RdE w A es)) (HM : Hid (RdE w B l)) (hlen : es.length ≤ 2 ^ 47) (hcap : es.length ≤ cap) (hll : l.length ≤ 6000000000000) (hcap' : l.length ≤ cap') (hpr : prev ≤ 9223372036854775807) (HC : Hid (Tr.chk b bt es = true)) (hp : 0 ≤ prev ∧ 0 ≤ of) (HFL : Hid (Tr.fol of l = true)) (hpb : prev < b) (hls : ¬ (l.length : Int) < b - prev) (hne : ¬ (l.getD (b - prev - 1).toNat default).1 = bt) (ho : o = (if (l.length : Int) < b - prev then some es else if (l.getD (b - prev - 1).toNat default).1 ≠ bt then none else Tr.put2 b bt es b bt (l.drop (b - prev).toNat) fixed)) :
    Calls Tryz.prog 65 #[trV b bt A es.length cap, .int .i64 prev, .int .i64 of, .slice B l.length cap', .int .i64 fixed] w fun e w' => (∃ v, e = .returned v ∧ ResT w.heap.size b bt o v w') ∧ Below w.heap.size w w' := by
  have hck := Lib.hid (fun W hb => check_calls b bt A cap es W (HR.out.bel hb) (by omega))
  have hfo := Lib.hid (fun W hb => follow_calls of B cap' l W (HM.out.bel hb) (by omega))
  rw [HC.out] at hck
  rw [HFL.out] at hfo
  have hr := Tr.chk_rim HC.out
  have hS := Lib.hid (((SW.nil w).new 25 #[.int .i64 b, .int .i64 bt, .slice A es.length cap] w.heap.size rfl).new 25 zT (w.heap.size + 1) (by simp))
  have hwA := Lib.hid (fun W hb => with_calls b bt A cap es.length es none 0 [] W (HR.out.bel hb) (RdE.nil _ _) (by omega) hcap (Nat.le_refl _) (by simp))
  have hwB := Lib.hid (fun (k : Nat) (Bj : Option Addr) (cj : Nat) (m : List En) (W : World) hb hm hk hml => with_calls b bt A cap k es Bj cj m W (HR.out.bel hb) hm (by omega) hcap hk hml)
  have p1 : ¬ prev < 0 := by omega
  have p2 : ¬ of < 0 := by omega
  have p3 : 0 ≤ b := by omega
  have p4 : b ≤ 1099511627776 := by omega
  have p5 : es.length ≤ 4096 := by omega
  clear hp hr
  obtain ⟨s, hs⟩ : ∃ s : Nat, b - prev = (s : Int) := ⟨(b - prev).toNat, by omega⟩
  have hs0 : 0 < s := by omega
  rw [if_neg (by omega), show (b - prev - 1).toNat = s - 1 from by omega, show (b - prev).toNat = s from by omega] at ho
  rw [show (b - prev - 1).toNat = s - 1 from by omega] at hne
  obtain ⟨bl, off, rfl, hbl, hcl, _⟩ := HM.out (s - 1) (by omega)
  have g1 : ¬ (l.length : Int) < (s : Int) := by omega
  have g2 : (0 : Int) < (s : Int) := by omega
  have g3 : (0 : Int) ≤ (s : Int) - 1 := by omega
  have g4 : (s : Int) - 1 < (l.length : Int) := by omega
  have g5 : (s : Int) ≤ (l.length : Int) := by omega
  have e1 : b - prev = (s : Int) := hs
  rw [if_pos (by simpa using hne)] at ho
  subst ho
  generalize (l.getD (s - 1) default).1 = y at *
  have hbb : (y != bt) = true := by simpa using hne
  clear hs hls hne
  go_enter Tryz.func65, Tryz.ntmps65
  go_wp2_with fail
  refine (hck.out _ hS.out.1).mono ?_
  rintro e w1 ⟨rfl, hb1⟩
  have hs0 := Lib.hid (hS.out.bel hb1)
  clear hb1 hS
  go_wp2_with fail
  refine (hfo.out _ hs0.out.1).mono ?_
  rintro e w2 ⟨rfl, hb2⟩
  have hs1 := Lib.hid (hs0.out.bel hb2)
  clear hb2 hs0
  have c9 := (hs1.out.at_ 0 rfl).cells
  have SX : SW w [(w.heap.size, 25, #[.int .i64 b, .int .i64 bt, .slice A es.length cap]), (w.heap.size + 1, 25, zT)] _ := hs1.out.drew
  have hnemp : Nonempty (InS (SW w [(w.heap.size, 25, #[.int .i64 b, .int .i64 bt, .slice A es.length cap]), (w.heap.size + 1, 25, zT)])) := ⟨⟨_, SX⟩⟩
  have k0 : ∀ (x : InS (SW w [(w.heap.size, 25, #[.int .i64 b, .int .i64 bt, .slice A es.length cap]), (w.heap.size + 1, 25, zT)])) i, x.val.cell? ⟨w.heap.size, i, none⟩ = (#[.int .i64 b, .int .i64 bt, .slice A es.length cap] : Array Value)[i]? := fun x => (x.ok.at_ 0 rfl).cells
  have k1 : ∀ (x : InS (SW w [(w.heap.size, 25, #[.int .i64 b, .int .i64 bt, .slice A es.length cap]), (w.heap.size + 1, 25, zT)])), x.val.cell? ⟨bl, off + (s - 1) * 2, none⟩ = some (.int .i64 y) := fun x => (x.ok.1.cell (p := ⟨bl, off + (s - 1) * 2, none⟩) hbl).trans hcl
  go_wp2_with fail
  refine wp_region_in (SW w [(w.heap.size, 25, #[.int .i64 b, .int .i64 bt, .slice A es.length cap]), (w.heap.size + 1, 25, zT)]) (by kernel_rfl) (by kernel_rfl) SX ?_
  repeat (go_big_quiet_step (fail))
  first | refine wpQuiet_nil ?_ | go_big_quiet_step (fail)
  intro W hW
  have hs2 := Lib.hid (in_ok hW)
  clear hW k0 SX hnemp c9 k1
  have HSZ := hs2
  have hBz := HSZ.out.at_ 1 rfl
  have cz := hBz.cells
  have fz := hBz.free
  go_wp2_with fail
  refine bodyPost_ret (v := .tuple #[trV 0 0 none 0 0, .bool false]) (by simp [results, Tryz.results65, go_sem, cz]) rfl ⟨⟨_, rfl, rfl⟩, put3_bel HSZ.out.1 (by omega)⟩

set_option maxRecDepth 20000 in
set_option maxHeartbeats 8000000 in
theorem put_lt2 (b bt prev of fixed : Int) (A : Option Addr) (cap : Nat) (es : List En) (B : Option Addr) (cap' : Nat) (l : List En) (w : World) (o : Option (List En)) (HR : Hid (RdE w A es)) (HM : Hid (RdE w B l)) (hlen : es.length ≤ 2 ^ 47) (hcap : es.length ≤ cap) (hll : l.length ≤ 6000000000000) (hcap' : l.length ≤ cap') (hpr : prev ≤ 9223372036854775807) (HC : Hid (Tr.chk b bt es = true)) (hp : 0 ≤ prev ∧ 0 ≤ of) (HFL : Hid (Tr.fol of l = true)) (hpb : prev < b) (hls : ¬ (l.length : Int) < b - prev) (hne : (l.getD (b - prev - 1).toNat default).1 = bt) (hcs : cap' = (b - prev).toNat) (ho : o = (if (l.length : Int) < b - prev then some es else if (l.getD (b - prev - 1).toNat default).1 ≠ bt then none else Tr.put2 b bt es b bt (l.drop (b - prev).toNat) fixed)) :
    Calls Tryz.prog 65 #[trV b bt A es.length cap, .int .i64 prev, .int .i64 of, .slice B l.length cap', .int .i64 fixed] w fun e w' => (∃ v, e = .returned v ∧ ResT w.heap.size b bt o v w') ∧ Below w.heap.size w w' := by
  have hck := Lib.hid (fun W hb => check_calls b bt A cap es W (HR.out.bel hb) (by omega))
  have hfo := Lib.hid (fun W hb => follow_calls of B cap' l W (HM.out.bel hb) (by omega))
  rw [HC.out] at hck
  rw [HFL.out] at hfo
  have hr := Tr.chk_rim HC.out
  have hS := Lib.hid (((SW.nil w).new 25 #[.int .i64 b, .int .i64 bt, .slice A es.length cap] w.heap.size rfl).new 25 zT (w.heap.size + 1) (by simp))
  have hwA := Lib.hid (fun W hb => with_calls b bt A cap es.length es none 0 [] W (HR.out.bel hb) (RdE.nil _ _) (by omega) hcap (Nat.le_refl _) (by simp))
  have hwB := Lib.hid (fun (k : Nat) (Bj : Option Addr) (cj : Nat) (m : List En) (W : World) hb hm hk hml => with_calls b bt A cap k es Bj cj m W (HR.out.bel hb) hm (by omega) hcap hk hml)
  have p1 : ¬ prev < 0 := by omega
  have p2 : ¬ of < 0 := by omega
  have p3 : 0 ≤ b := by omega
  have p4 : b ≤ 1099511627776 := by omega
  have p5 : es.length ≤ 4096 := by omega
  clear hp hr
  obtain ⟨s, hs⟩ : ∃ s : Nat, b - prev = (s : Int) := ⟨(b - prev).toNat, by omega⟩
  have hs0 : 0 < s := by omega
  rw [if_neg (by omega), show (b - prev - 1).toNat = s - 1 from by omega, show (b - prev).toNat = s from by omega] at ho
  rw [show (b - prev - 1).toNat = s - 1 from by omega] at hne
  rw [show (b - prev).toNat = s from by omega] at hcs
  obtain ⟨bl, off, rfl, hbl, hcl, _⟩ := HM.out (s - 1) (by omega)
  have g1 : ¬ (l.length : Int) < (s : Int) := by omega
  have g2 : (0 : Int) < (s : Int) := by omega
  have g3 : (0 : Int) ≤ (s : Int) - 1 := by omega
  have g4 : (s : Int) - 1 < (l.length : Int) := by omega
  have g5 : (s : Int) ≤ (l.length : Int) := by omega
  have e1 : b - prev = (s : Int) := hs
  rw [if_neg (by simpa using hne)] at ho
  rw [hne] at hcl
  have hbb : (bt != bt) = false := by simp
  have hl2 : l.drop s = [] := List.drop_of_length_le (by omega)
  rw [hl2] at ho
  have HO := Lib.hid ho
  have hls2 : l.length = s := by omega
  subst hcs
  rw [hls2] at g1 g4 g5 hfo ⊢
  clear ho hls hl2 hs hne hcap' hll
  go_enter Tryz.func65, Tryz.ntmps65
  go_wp2_with fail
  refine (hck.out _ hS.out.1).mono ?_
  rintro e w1 ⟨rfl, hb1⟩
  have hs0 := Lib.hid (hS.out.bel hb1)
  clear hb1 hS
  go_wp2_with fail
  refine (hfo.out _ hs0.out.1).mono ?_
  rintro e w2 ⟨rfl, hb2⟩
  have hs1 := Lib.hid (hs0.out.bel hb2)
  clear hb2 hs0
  have c9 := (hs1.out.at_ 0 rfl).cells
  have SX : SW w [(w.heap.size, 25, #[.int .i64 b, .int .i64 bt, .slice A es.length cap]), (w.heap.size + 1, 25, zT)] _ := hs1.out.drew
  have hnemp : Nonempty (InS (SW w [(w.heap.size, 25, #[.int .i64 b, .int .i64 bt, .slice A es.length cap]), (w.heap.size + 1, 25, zT)])) := ⟨⟨_, SX⟩⟩
  have k0 : ∀ (x : InS (SW w [(w.heap.size, 25, #[.int .i64 b, .int .i64 bt, .slice A es.length cap]), (w.heap.size + 1, 25, zT)])) i, x.val.cell? ⟨w.heap.size, i, none⟩ = (#[.int .i64 b, .int .i64 bt, .slice A es.length cap] : Array Value)[i]? := fun x => (x.ok.at_ 0 rfl).cells
  have k1 : ∀ (x : InS (SW w [(w.heap.size, 25, #[.int .i64 b, .int .i64 bt, .slice A es.length cap]), (w.heap.size + 1, 25, zT)])), x.val.cell? ⟨bl, off + (cap' - 1) * 2, none⟩ = some (.int .i64 bt) := fun x => (x.ok.1.cell (p := ⟨bl, off + (cap' - 1) * 2, none⟩) hbl).trans hcl
  go_wp2_with fail
  refine wp_region_in (SW w [(w.heap.size, 25, #[.int .i64 b, .int .i64 bt, .slice A es.length cap]), (w.heap.size + 1, 25, zT)]) (by kernel_rfl) (by kernel_rfl) SX ?_
  repeat (go_big_quiet_step (fail))
  first | refine wpQuiet_nil ?_ | go_big_quiet_step (fail)
  intro W hW
  have hs2 := Lib.hid (in_ok hW)
  clear hW k0 SX hnemp c9 k1
  have c9 := (hs2.out.at_ 0 rfl).cells
  have SX : SW w [(w.heap.size, 25, #[.int .i64 b, .int .i64 bt, .slice A es.length cap]), (w.heap.size + 1, 25, zT)] _ := hs2.out.drew
  have hnemp : Nonempty (InS (SW w [(w.heap.size, 25, #[.int .i64 b, .int .i64 bt, .slice A es.length cap]), (w.heap.size + 1, 25, zT)])) := ⟨⟨_, SX⟩⟩
  have k0 : ∀ (x : InS (SW w [(w.heap.size, 25, #[.int .i64 b, .int .i64 bt, .slice A es.length cap]), (w.heap.size + 1, 25, zT)])) i, x.val.cell? ⟨w.heap.size, i, none⟩ = (#[.int .i64 b, .int .i64 bt, .slice A es.length cap] : Array Value)[i]? := fun x => (x.ok.at_ 0 rfl).cells
  go_wp2_with fail
  refine wp_region_in (SW w [(w.heap.size, 25, #[.int .i64 b, .int .i64 bt, .slice A es.length cap]), (w.heap.size + 1, 25, zT)]) (by kernel_rfl) (by kernel_rfl) SX ?_
  repeat (go_big_quiet_step (fail))
  first | refine wpQuiet_nil ?_ | go_big_quiet_step (fail)
  intro W hW
  have hs3 := Lib.hid (in_ok hW)
  clear hW k0 SX hnemp c9 
  have hs1 := hs3
  obtain ⟨l2, hl2⟩ : ∃ l2 : List En, l2 = [] := ⟨_, rfl⟩
  rw [← hl2] at HO
  have HN2 : Hid (0 = l2.length) := Lib.hid (by rw [hl2]; rfl)
  have HM2 : Hid (RdE w (some ⟨bl, off, none⟩) l2) := Lib.hid (by rw [hl2]; exact RdE.nil _ _)
  have HLL : Hid (0 ≤ 6000000000000) := Lib.hid (by omega)
  clear hl2
  have ht := Lib.hid (fun W hb => term2_calls b bt (b) A cap es W (HR.out.bel hb) (by omega))
  by_cases hh : Tr.has b bt es (b) = true
  · rw [hh] at ht
    simp only [if_true] at ht
    obtain ⟨_, r1, r2⟩ := Tr.has_chk hh
    obtain ⟨x, hx⟩ : ∃ x, x = Tr.trm b bt es (b) := ⟨_, rfl⟩
    rw [← hx] at ht
    by_cases hxo : x = bt
    · have hb := (x != bt)
      obtain ⟨k, hk⟩ : ∃ k : Nat, (b) - b = (k : Int) := ⟨((b) - b).toNat, by omega⟩
      have hkn : ((b) - b).toNat = k := by omega
      have hkl : k ≤ es.length := by omega
      have hto : Tr.trm b bt es (b) = bt := by rw [← hx]; exact hxo
      have hA0 := put2_A (l := l2) (fixed := fixed) hh hto
      have hB0 := put2_B (l := l2) (fixed := fixed) hh hto
      have hN0 := put2_N (l := l2) (fixed := fixed) hh hto
      rw [hkn, ← HO.out] at hA0 hB0 hN0
      have HA0 := Lib.hid hA0
      have HB0 := Lib.hid hB0
      have HN0 := Lib.hid hN0
      have e3 : (b) - b = (k : Int) := hk
      have hxo2 := hxo.symm
      subst hxo2
      clear hxo hh hx hto hkn hA0 hB0 hN0 hk
      have c1 := (hs1.out.at_ 0 rfl).cells
      go_wp2_with fail
      refine (ht.out _ hs1.out.1).mono ?_
      rintro e w2 ⟨rfl, hb2⟩
      have hs2 := Lib.hid (hs1.out.bel hb2)
      have c2' := (hs2.out.at_ 0 rfl).cells
      clear hb2 c1 hs1 ht
      go_wp2_with fail
      go_loopg [3, 15] 0 (fun g v3 v15 W => Hid (SW w [(w.heap.size, 25, #[.int .i64 b, .int .i64 bt, .slice A es.length cap]), (w.heap.size + 1, 25, zT)] W) ∧ ∃ (j : Nat) (Bj : Option Addr) (cj : Nat), v15 = .int .i64 ((k + j : Nat) : Int) ∧ v3 = .slice Bj g cj ∧ g ≤ cj ∧ Hid (j + g = 0 ∧ j ≤ Tr.adv (es.drop k) l2 ∧ RdE w Bj (l2.drop j)))
      case atStart => exact ⟨hs2, 0, _, _, by simp, rfl, by omega, Lib.hid ⟨by omega, Nat.zero_le _, HM2.out⟩⟩
      case round =>
        obtain ⟨hsr, j, Bj, cj, rfl, rfl, hcj, HI⟩ := hrel
        have hav := Tr.adv_le (es.drop k) l2
        rw [List.length_drop] at hav
        have HAV := Lib.hid hav
        have c0 := (hsr.out.at_ 0 rfl).cells
        have hjl : (l2.drop j).length = gk := by rw [List.length_drop]; have := HI.out.1; have := HN2.out; omega
        by_cases hx : j < Tr.adv (es.drop k) l2
        · have hg : 0 < gk := by have := HI.out.1; have := HN2.out; omega
          have hkj : k + j < es.length := by omega
          have heq := Tr.adv_eq _ _ j hx
          rw [Tr.getD_drop] at heq
          obtain ⟨b1, o1, hA1, hbl1, hc1, _⟩ := HR.out (k + j) hkj
          obtain ⟨b2, o2, rfl, hbl2, hc2, _⟩ := HI.out.2.2 0 (by omega)
          simp only [Tr.getD_drop, Nat.zero_mul, Nat.add_zero] at hc2
          rw [← heq] at hc2
          generalize (es.getD (k + j) default).1 = y at *
          have g1 : (0 : Int) < (gk : Int) := by omega
          have g2 : ((k + j : Nat) : Int) < (es.length : Int) := by omega
          have HX := Lib.hid hx
          have HJL := Lib.hid hjl
          have HCJ := Lib.hid hcj
          have g3 : (1 : Int) ≤ (gk : Int) := by omega
          have g4 : decide (((k + j : Nat) : Int) < (es.length : Int)) = true := dec_t (by omega)
          have g5 : (k : Int) + (j : Int) < (es.length : Int) := by omega
          have g6 : (0 : Int) ≤ ((k + j : Nat) : Int) := by omega
          clear heq hx hav hjl
          subst hA1
          have SX : SW w [(w.heap.size, 25, #[.int .i64 b, .int .i64 bt, .slice (some ⟨b1, o1, none⟩) es.length cap]), (w.heap.size + 1, 25, zT)] wr.drew := hsr.out.drew
          have hne : Nonempty (InS (SW w [(w.heap.size, 25, #[.int .i64 b, .int .i64 bt, .slice (some ⟨b1, o1, none⟩) es.length cap]), (w.heap.size + 1, 25, zT)])) := ⟨⟨_, SX⟩⟩
          have k0 : ∀ (x : InS (SW w [(w.heap.size, 25, #[.int .i64 b, .int .i64 bt, .slice (some ⟨b1, o1, none⟩) es.length cap]), (w.heap.size + 1, 25, zT)])) i, x.val.cell? ⟨w.heap.size, i, none⟩ = (#[.int .i64 b, .int .i64 bt, .slice (some ⟨b1, o1, none⟩) es.length cap] : Array Value)[i]? := fun x => (x.ok.at_ 0 rfl).cells
          have k1 : ∀ (x : InS (SW w [(w.heap.size, 25, #[.int .i64 b, .int .i64 bt, .slice (some ⟨b1, o1, none⟩) es.length cap]), (w.heap.size + 1, 25, zT)])), x.val.cell? ⟨b1, o1 + (k + j) * 2, none⟩ = some (.int .i64 y) := fun x => (x.ok.1.cell (p := ⟨b1, o1 + (k + j) * 2, none⟩) hbl1).trans hc1
          have k2 : ∀ (x : InS (SW w [(w.heap.size, 25, #[.int .i64 b, .int .i64 bt, .slice (some ⟨b1, o1, none⟩) es.length cap]), (w.heap.size + 1, 25, zT)])), x.val.cell? ⟨b2, o2, none⟩ = some (.int .i64 y) := fun x => (x.ok.1.cell (p := ⟨b2, o2, none⟩) hbl2).trans hc2
          clear hc1 hc2 c0
          go_wp2_with fail
          refine wp_region_in (SW w [(w.heap.size, 25, #[.int .i64 b, .int .i64 bt, .slice (some ⟨b1, o1, none⟩) es.length cap]), (w.heap.size + 1, 25, zT)]) (by kernel_rfl) (by kernel_rfl) SX ?_
          repeat (go_big_quiet_step (fail))
          first | refine wpQuiet_nil ?_ | go_big_quiet_step (fail)
          intro W hW
          have hs := Lib.hid (in_ok hW)
          clear hW k0 k1 k2 SX hne
          have hrd := HI.out.2.2.drop 1 cj (by have := HJL.out; have := HCJ.out; omega)
          rw [List.drop_drop] at hrd
          have HRD := Lib.hid hrd
          clear hrd
          by_cases hcj1 : cj = 1
          all_goals
            go_wp2_with fail
            go_region
            go_wp2_with fail
            go_roundg (gk - 1)
            case rel =>
              have := HRD.out
              simp only [hcj1, if_true, if_false, Nat.reduceEqDiff] at this
              refine ⟨Lib.hid hs.out.drew, j + 1, _, _, by first | (congr 1; done) | (congr 1; omega), rfl, by omega, Lib.hid ⟨by have := HI.out.1; omega, HX.out, this⟩⟩
            case measure => omega
        · have hadv : Tr.adv (es.drop k) l2 = j := by have := HI.out.2.1; omega
          have hA1 := HA0.out
          have hB1 := HB0.out
          have hN1 := HN0.out
          rw [hadv] at hA1 hB1 hN1
          have SX : SW w [(w.heap.size, 25, #[.int .i64 b, .int .i64 bt, .slice A es.length cap]), (w.heap.size + 1, 25, zT)] wr.drew := hsr.out.drew
          have hne : Nonempty (InS (SW w [(w.heap.size, 25, #[.int .i64 b, .int .i64 bt, .slice A es.length cap]), (w.heap.size + 1, 25, zT)])) := ⟨⟨_, SX⟩⟩
          have k0 : ∀ (x : InS (SW w [(w.heap.size, 25, #[.int .i64 b, .int .i64 bt, .slice A es.length cap]), (w.heap.size + 1, 25, zT)])) i, x.val.cell? ⟨w.heap.size, i, none⟩ = (#[.int .i64 b, .int .i64 bt, .slice A es.length cap] : Array Value)[i]? := fun x => (x.ok.at_ 0 rfl).cells
          by_cases hg0 : gk = 0
          · have ho1 := hA1 (by have := HI.out.1; have := HN2.out; omega)
            have hz : (gk : Int) = 0 := by omega
            subst ho1
            subst hg0
            clear hA1 hB1 hN1 hx hadv hjl c0 hz
            go_wp2_with fail
            refine wp_region_in (SW w [(w.heap.size, 25, #[.int .i64 b, .int .i64 bt, .slice A es.length cap]), (w.heap.size + 1, 25, zT)]) (by kernel_rfl) (by kernel_rfl) SX ?_
            repeat (go_big_quiet_step (fail))
            first | refine wpQuiet_nil ?_ | go_big_quiet_step (fail)
            intro W hW
            have hs := Lib.hid (in_ok hW)
            clear hW k0 SX hne
            have c0 := (hs.out.at_ 0 rfl).cells
            clear hfo hck
            go_wp2_with fail
            refine (hwA.out _ hs.out.1).mono ?_
            rintro e w4 ⟨⟨v, rfl, hv⟩, hb4⟩
            have hs4 := Lib.hid (hs.out.bel hb4)
            have hg1 := (hs.out.at_ 1 rfl).lt
            have hg2 := hs.out.1.size
            clear hb4 c0
            rw [chk_with HC.out] at hv
            obtain ⟨A4, cap4, rfl, qo⟩ := hv
            have hBz := hs4.out.at_ 1 rfl
            have cz := hBz.cells
            have fz := hBz.free
            go_wp2_with fail
            refine bodyPost_ret (v := .tuple #[trV b bt A4 es.length cap4, .bool true]) (by simp [results, Tryz.results65, go_sem, cz]) rfl ⟨⟨_, rfl, ⟨A4, cap4, rfl, put3_own qo (by omega) (by omega)⟩⟩, put3_bel hs4.out.1 (by omega)⟩
          · have hng : ¬ l2.length ≤ j := by have := HI.out.1; have := HN2.out; omega
            have hN2 := hN1 hng
            have hB2 := hB1 hng
            have g1 : (0 : Int) < (gk : Int) := by omega
            have hg : 0 < gk := by omega
            have gz : ((gk : Int) == 0) = false := by rw [beq_eq_false_iff_ne]; omega
            have hkjl : k + j ≤ es.length := by have := HI.out.2.1; omega
            have HKJ := Lib.hid hkjl
            have HN3 := Lib.hid hN2
            have HB3 := Lib.hid hB2
            have HJL := Lib.hid hjl
            have gb1 : b + ((k + j : Nat) : Int) + 1 ≤ 9223372036854775807 := by omega
            have gb2 : b + ((k + j : Nat) : Int) ≤ 9223372036854775807 := by omega
            clear hN1 hB1 hA1 hN2 hB2 hng hjl
            by_cases hkl2 : k + j < es.length
            · have hne2 := Tr.adv_ne (es.drop k) l2 (by rw [List.length_drop, hadv]; omega) (by rw [hadv]; have := HI.out.1; have := HN2.out; omega)
              rw [hadv, Tr.getD_drop] at hne2
              obtain ⟨b1, o1, hA1, hbl1, hc1, _⟩ := HR.out (k + j) hkl2
              obtain ⟨b2, o2, hB1, hbl2, hc2, _⟩ := HI.out.2.2 0 (by rw [HJL.out]; omega)
              simp only [Tr.getD_drop, Nat.zero_mul, Nat.add_zero] at hc2
              generalize (es.getD (k + j) default).1 = y1 at *
              generalize (l2.getD j default).1 = y2 at *
              have hyy : (y1 == y2) = false := by simpa using hne2
              have g4 : decide (((k + j : Nat) : Int) < (es.length : Int)) = true := dec_t (by omega)
              have g5 : (k : Int) + (j : Int) < (es.length : Int) := by omega
              have g2 : ((k + j : Nat) : Int) < (es.length : Int) := by omega
              subst hA1
              subst hB1
              have k1 : ∀ (x : InS (SW w [(w.heap.size, 25, #[.int .i64 b, .int .i64 bt, .slice (some ⟨b1, o1, none⟩) es.length cap]), (w.heap.size + 1, 25, zT)])), x.val.cell? ⟨b1, o1 + (k + j) * 2, none⟩ = some (.int .i64 y1) := fun x => (x.ok.1.cell (p := ⟨b1, o1 + (k + j) * 2, none⟩) hbl1).trans hc1
              have k2 : ∀ (x : InS (SW w [(w.heap.size, 25, #[.int .i64 b, .int .i64 bt, .slice (some ⟨b1, o1, none⟩) es.length cap]), (w.heap.size + 1, 25, zT)])), x.val.cell? ⟨b2, o2, none⟩ = some (.int .i64 y2) := fun x => (x.ok.1.cell (p := ⟨b2, o2, none⟩) hbl2).trans hc2
              clear hc1 hc2 c0 hx hadv hkl2 hne2 hav hkjl
              go_wp2_with fail
              refine wp_region_in (SW w [(w.heap.size, 25, #[.int .i64 b, .int .i64 bt, .slice (some ⟨b1, o1, none⟩) es.length cap]), (w.heap.size + 1, 25, zT)]) (by kernel_rfl) (by kernel_rfl) SX ?_
              repeat (go_big_quiet_step (fail))
              first | refine wpQuiet_nil ?_ | go_big_quiet_step (fail)
              intro W hW
              have hs := Lib.hid (in_ok hW)
              clear hW k0 k1 k2 SX hne hyy g4 g5 g2
              by_cases hfx : b + ((k + j : Nat) : Int) + 1 ≤ fixed
              · have ho1 := HN3.out hfx
                subst ho1
                have c0 := (hs.out.at_ 0 rfl).cells
                clear hfo hck
                have HSZ := hs
                have hBz := HSZ.out.at_ 1 rfl
                have cz := hBz.cells
                have fz := hBz.free
                go_wp2_with fail
                refine bodyPost_ret (v := .tuple #[trV 0 0 none 0 0, .bool false]) (by simp [results, Tryz.results65, go_sem, cz]) rfl ⟨⟨_, rfl, rfl⟩, put3_bel HSZ.out.1 (by omega)⟩
              · have HB := Lib.hid (HB3.out (by omega))
                have hm : RdE W (some ⟨b2, o2, none⟩) (l2.drop j) := HI.out.2.2.bel hs.out.1
                have hwB2 := hwB.out (k + j) (some ⟨b2, o2, none⟩) cj (l2.drop j) W hs.out.1 hm HKJ.out (by rw [HJL.out]; have := HI.out.1; have := HN2.out; omega)
                rw [HJL.out] at hwB2
                have HWB := Lib.hid hwB2
                have c0 := (hs.out.at_ 0 rfl).cells
                clear hfo hck hm hwB2
                go_wp2_with fail
                refine HWB.out.mono ?_
                rintro e w4 ⟨⟨v, rfl, hv⟩, hb4⟩
                have hs4 := Lib.hid (hs.out.bel hb4)
                have hg1 := (hs.out.at_ 1 rfl).lt
                have hg2 := hs.out.1.size
                clear hb4 c0 HWB
                generalize Tr.with_ b bt es (k + j) (l2.drop j) = o4 at *
                have hBz := hs4.out.at_ 1 rfl
                have cz := hBz.cells
                have fz := hBz.free
                obtain rfl := HB.out
                rcases o with _ | out
                · obtain rfl := hv
                  go_wp2_with fail
                  refine bodyPost_ret (v := .tuple #[trV 0 0 none 0 0, .bool false]) (by simp [results, Tryz.results65, go_sem, cz]) rfl ⟨⟨_, rfl, rfl⟩, put3_bel hs4.out.1 (by omega)⟩
                · obtain ⟨A4, cap4, rfl, qo⟩ := hv
                  go_wp2_with fail
                  refine bodyPost_ret (v := .tuple #[trV b bt A4 out.length cap4, .bool true]) (by simp [results, Tryz.results65, go_sem, cz]) rfl ⟨⟨_, rfl, ⟨A4, cap4, rfl, put3_own qo (by omega) (by omega)⟩⟩, put3_bel hs4.out.1 (by omega)⟩
            · have g4 : decide (((k + j : Nat) : Int) < (es.length : Int)) = false := dec_f (by omega)
              have g9 : decide ((k : Int) + (j : Int) < (es.length : Int)) = false := dec_f (by omega)
              clear c0 hx hadv hkl2 hav hkjl
              go_wp2_with fail
              refine wp_region_in (SW w [(w.heap.size, 25, #[.int .i64 b, .int .i64 bt, .slice A es.length cap]), (w.heap.size + 1, 25, zT)]) (by kernel_rfl) (by kernel_rfl) SX ?_
              repeat (go_big_quiet_step (fail))
              first | refine wpQuiet_nil ?_ | go_big_quiet_step (fail)
              intro W hW
              have hs := Lib.hid (in_ok hW)
              clear hW k0 SX hne g4 g9
              by_cases hfx : b + ((k + j : Nat) : Int) + 1 ≤ fixed
              · have ho1 := HN3.out hfx
                subst ho1
                have c0 := (hs.out.at_ 0 rfl).cells
                clear hfo hck
                have HSZ := hs
                have hBz := HSZ.out.at_ 1 rfl
                have cz := hBz.cells
                have fz := hBz.free
                go_wp2_with fail
                refine bodyPost_ret (v := .tuple #[trV 0 0 none 0 0, .bool false]) (by simp [results, Tryz.results65, go_sem, cz]) rfl ⟨⟨_, rfl, rfl⟩, put3_bel HSZ.out.1 (by omega)⟩
              · have HB := Lib.hid (HB3.out (by omega))
                have hm : RdE W Bj (l2.drop j) := HI.out.2.2.bel hs.out.1
                have hwB2 := hwB.out (k + j) Bj cj (l2.drop j) W hs.out.1 hm HKJ.out (by rw [HJL.out]; have := HI.out.1; have := HN2.out; omega)
                rw [HJL.out] at hwB2
                have HWB := Lib.hid hwB2
                have c0 := (hs.out.at_ 0 rfl).cells
                clear hfo hck hm hwB2
                go_wp2_with fail
                refine HWB.out.mono ?_
                rintro e w4 ⟨⟨v, rfl, hv⟩, hb4⟩
                have hs4 := Lib.hid (hs.out.bel hb4)
                have hg1 := (hs.out.at_ 1 rfl).lt
                have hg2 := hs.out.1.size
                clear hb4 c0 HWB
                generalize Tr.with_ b bt es (k + j) (l2.drop j) = o4 at *
                have hBz := hs4.out.at_ 1 rfl
                have cz := hBz.cells
                have fz := hBz.free
                obtain rfl := HB.out
                rcases o with _ | out
                · obtain rfl := hv
                  go_wp2_with fail
                  refine bodyPost_ret (v := .tuple #[trV 0 0 none 0 0, .bool false]) (by simp [results, Tryz.results65, go_sem, cz]) rfl ⟨⟨_, rfl, rfl⟩, put3_bel hs4.out.1 (by omega)⟩
                · obtain ⟨A4, cap4, rfl, qo⟩ := hv
                  go_wp2_with fail
                  refine bodyPost_ret (v := .tuple #[trV b bt A4 out.length cap4, .bool true]) (by simp [results, Tryz.results65, go_sem, cz]) rfl ⟨⟨_, rfl, ⟨A4, cap4, rfl, put3_own qo (by omega) (by omega)⟩⟩, put3_bel hs4.out.1 (by omega)⟩
    · have hne : (x != bt) = true := by simpa using hxo
      have ho0 : o = none := by rw [HO.out]; exact put2_0 (fun _ => by rw [← hx]; exact hxo)
      subst ho0
      clear hh hx hxo
      have c1 := (hs1.out.at_ 0 rfl).cells
      go_wp2_with fail
      refine (ht.out _ hs1.out.1).mono ?_
      rintro e w2 ⟨rfl, hb2⟩
      have hs2 := Lib.hid (hs1.out.bel hb2)
      clear hb2 c1 hs1 ht
      have HSZ := hs2
      have hBz := HSZ.out.at_ 1 rfl
      have cz := hBz.cells
      have fz := hBz.free
      go_wp2_with fail
      refine bodyPost_ret (v := .tuple #[trV 0 0 none 0 0, .bool false]) (by simp [results, Tryz.results65, go_sem, cz]) rfl ⟨⟨_, rfl, rfl⟩, put3_bel HSZ.out.1 (by omega)⟩
  · have ho0 : o = none := by rw [HO.out]; exact put2_0 (fun h => absurd h hh)
    subst ho0
    simp only [Bool.not_eq_true] at hh
    rw [hh] at ht
    simp only [Bool.false_eq_true, if_false] at ht
    have c1 := (hs1.out.at_ 0 rfl).cells
    go_wp2_with fail
    refine (ht.out _ hs1.out.1).mono ?_
    rintro e w2 ⟨rfl, hb2⟩
    have hs2 := Lib.hid (hs1.out.bel hb2)
    clear hb2 c1 hs1 ht
    have HSZ := hs2
    have hBz := HSZ.out.at_ 1 rfl
    have cz := hBz.cells
    have fz := hBz.free
    go_wp2_with fail
    refine bodyPost_ret (v := .tuple #[trV 0 0 none 0 0, .bool false]) (by simp [results, Tryz.results65, go_sem, cz]) rfl ⟨⟨_, rfl, rfl⟩, put3_bel HSZ.out.1 (by omega)⟩

set_option maxRecDepth 20000 in
set_option maxHeartbeats 8000000 in
theorem put_lt3 (b bt prev of fixed : Int) (A : Option Addr) (cap : Nat) (es : List En) (B : Option Addr) (cap' : Nat) (l : List En) (w : World) (o : Option (List En)) (HR : Hid (RdE w A es)) (HM : Hid (RdE w B l)) (hlen : es.length ≤ 2 ^ 47) (hcap : es.length ≤ cap) (hll : l.length ≤ 6000000000000) (hcap' : l.length ≤ cap') (hpr : prev ≤ 9223372036854775807) (HC : Hid (Tr.chk b bt es = true)) (hp : 0 ≤ prev ∧ 0 ≤ of) (HFL : Hid (Tr.fol of l = true)) (hpb : prev < b) (hls : ¬ (l.length : Int) < b - prev) (hne : (l.getD (b - prev - 1).toNat default).1 = bt) (hcs : ¬ cap' = (b - prev).toNat) (ho : o = (if (l.length : Int) < b - prev then some es else if (l.getD (b - prev - 1).toNat default).1 ≠ bt then none else Tr.put2 b bt es b bt (l.drop (b - prev).toNat) fixed)) :
    Calls Tryz.prog 65 #[trV b bt A es.length cap, .int .i64 prev, .int .i64 of, .slice B l.length cap', .int .i64 fixed] w fun e w' => (∃ v, e = .returned v ∧ ResT w.heap.size b bt o v w') ∧ Below w.heap.size w w' := by
  have hck := Lib.hid (fun W hb => check_calls b bt A cap es W (HR.out.bel hb) (by omega))
  have hfo := Lib.hid (fun W hb => follow_calls of B cap' l W (HM.out.bel hb) (by omega))
  rw [HC.out] at hck
  rw [HFL.out] at hfo
  have hr := Tr.chk_rim HC.out
  have hS := Lib.hid (((SW.nil w).new 25 #[.int .i64 b, .int .i64 bt, .slice A es.length cap] w.heap.size rfl).new 25 zT (w.heap.size + 1) (by simp))
  have hwA := Lib.hid (fun W hb => with_calls b bt A cap es.length es none 0 [] W (HR.out.bel hb) (RdE.nil _ _) (by omega) hcap (Nat.le_refl _) (by simp))
  have hwB := Lib.hid (fun (k : Nat) (Bj : Option Addr) (cj : Nat) (m : List En) (W : World) hb hm hk hml => with_calls b bt A cap k es Bj cj m W (HR.out.bel hb) hm (by omega) hcap hk hml)
  have p1 : ¬ prev < 0 := by omega
  have p2 : ¬ of < 0 := by omega
  have p3 : 0 ≤ b := by omega
  have p4 : b ≤ 1099511627776 := by omega
  have p5 : es.length ≤ 4096 := by omega
  clear hp hr
  obtain ⟨s, hs⟩ : ∃ s : Nat, b - prev = (s : Int) := ⟨(b - prev).toNat, by omega⟩
  have hs0 : 0 < s := by omega
  rw [if_neg (by omega), show (b - prev - 1).toNat = s - 1 from by omega, show (b - prev).toNat = s from by omega] at ho
  rw [show (b - prev - 1).toNat = s - 1 from by omega] at hne
  rw [show (b - prev).toNat = s from by omega] at hcs
  obtain ⟨bl, off, rfl, hbl, hcl, _⟩ := HM.out (s - 1) (by omega)
  have g1 : ¬ (l.length : Int) < (s : Int) := by omega
  have g2 : (0 : Int) < (s : Int) := by omega
  have g3 : (0 : Int) ≤ (s : Int) - 1 := by omega
  have g4 : (s : Int) - 1 < (l.length : Int) := by omega
  have g5 : (s : Int) ≤ (l.length : Int) := by omega
  have e1 : b - prev = (s : Int) := hs
  rw [if_neg (by simpa using hne)] at ho
  rw [hne] at hcl
  have hbb : (bt != bt) = false := by simp
  have hrd := HM.out.drop s cap' hcap'
  rw [if_neg hcs] at hrd
  simp only [Option.map_some, addr_add] at hrd
  have HM2 := Lib.hid hrd
  have HO := Lib.hid ho
  obtain ⟨l2, hl2⟩ : ∃ l2, l2 = l.drop s := ⟨_, rfl⟩
  rw [← hl2] at HO HM2
  have HN2 : Hid (l.length - s = l2.length) := Lib.hid (by rw [hl2]; simp)
  have HLL : Hid (l.length - s ≤ 6000000000000) := Lib.hid (by omega)
  have hn2c : l.length - s ≤ cap' - s := by omega
  clear ho hls hs hne hl2 hrd
  go_enter Tryz.func65, Tryz.ntmps65
  go_wp2_with fail
  refine (hck.out _ hS.out.1).mono ?_
  rintro e w1 ⟨rfl, hb1⟩
  have hs0 := Lib.hid (hS.out.bel hb1)
  clear hb1 hS
  go_wp2_with fail
  refine (hfo.out _ hs0.out.1).mono ?_
  rintro e w2 ⟨rfl, hb2⟩
  have hs1 := Lib.hid (hs0.out.bel hb2)
  clear hb2 hs0
  have c9 := (hs1.out.at_ 0 rfl).cells
  have SX : SW w [(w.heap.size, 25, #[.int .i64 b, .int .i64 bt, .slice A es.length cap]), (w.heap.size + 1, 25, zT)] _ := hs1.out.drew
  have hnemp : Nonempty (InS (SW w [(w.heap.size, 25, #[.int .i64 b, .int .i64 bt, .slice A es.length cap]), (w.heap.size + 1, 25, zT)])) := ⟨⟨_, SX⟩⟩
  have k0 : ∀ (x : InS (SW w [(w.heap.size, 25, #[.int .i64 b, .int .i64 bt, .slice A es.length cap]), (w.heap.size + 1, 25, zT)])) i, x.val.cell? ⟨w.heap.size, i, none⟩ = (#[.int .i64 b, .int .i64 bt, .slice A es.length cap] : Array Value)[i]? := fun x => (x.ok.at_ 0 rfl).cells
  have k1 : ∀ (x : InS (SW w [(w.heap.size, 25, #[.int .i64 b, .int .i64 bt, .slice A es.length cap]), (w.heap.size + 1, 25, zT)])), x.val.cell? ⟨bl, off + (s - 1) * 2, none⟩ = some (.int .i64 bt) := fun x => (x.ok.1.cell (p := ⟨bl, off + (s - 1) * 2, none⟩) hbl).trans hcl
  go_wp2_with fail
  refine wp_region_in (SW w [(w.heap.size, 25, #[.int .i64 b, .int .i64 bt, .slice A es.length cap]), (w.heap.size + 1, 25, zT)]) (by kernel_rfl) (by kernel_rfl) SX ?_
  repeat (go_big_quiet_step (fail))
  first | refine wpQuiet_nil ?_ | go_big_quiet_step (fail)
  intro W hW
  have hs2 := Lib.hid (in_ok hW)
  clear hW k0 SX hnemp c9 k1
  have c9 := (hs2.out.at_ 0 rfl).cells
  have SX : SW w [(w.heap.size, 25, #[.int .i64 b, .int .i64 bt, .slice A es.length cap]), (w.heap.size + 1, 25, zT)] _ := hs2.out.drew
  have hnemp : Nonempty (InS (SW w [(w.heap.size, 25, #[.int .i64 b, .int .i64 bt, .slice A es.length cap]), (w.heap.size + 1, 25, zT)])) := ⟨⟨_, SX⟩⟩
  have k0 : ∀ (x : InS (SW w [(w.heap.size, 25, #[.int .i64 b, .int .i64 bt, .slice A es.length cap]), (w.heap.size + 1, 25, zT)])) i, x.val.cell? ⟨w.heap.size, i, none⟩ = (#[.int .i64 b, .int .i64 bt, .slice A es.length cap] : Array Value)[i]? := fun x => (x.ok.at_ 0 rfl).cells
  go_wp2_with fail
  refine wp_region_in (SW w [(w.heap.size, 25, #[.int .i64 b, .int .i64 bt, .slice A es.length cap]), (w.heap.size + 1, 25, zT)]) (by kernel_rfl) (by kernel_rfl) SX ?_
  repeat (go_big_quiet_step (fail))
  first | refine wpQuiet_nil ?_ | go_big_quiet_step (fail)
  intro W hW
  have hs3 := Lib.hid (in_ok hW)
  clear hW k0 SX hnemp c9 
  have hs1 := hs3
  have ht := Lib.hid (fun W hb => term2_calls b bt (b) A cap es W (HR.out.bel hb) (by omega))
  by_cases hh : Tr.has b bt es (b) = true
  · rw [hh] at ht
    simp only [if_true] at ht
    obtain ⟨_, r1, r2⟩ := Tr.has_chk hh
    obtain ⟨x, hx⟩ : ∃ x, x = Tr.trm b bt es (b) := ⟨_, rfl⟩
    rw [← hx] at ht
    by_cases hxo : x = bt
    · have hb := (x != bt)
      obtain ⟨k, hk⟩ : ∃ k : Nat, (b) - b = (k : Int) := ⟨((b) - b).toNat, by omega⟩
      have hkn : ((b) - b).toNat = k := by omega
      have hkl : k ≤ es.length := by omega
      have hto : Tr.trm b bt es (b) = bt := by rw [← hx]; exact hxo
      have hA0 := put2_A (l := l2) (fixed := fixed) hh hto
      have hB0 := put2_B (l := l2) (fixed := fixed) hh hto
      have hN0 := put2_N (l := l2) (fixed := fixed) hh hto
      rw [hkn, ← HO.out] at hA0 hB0 hN0
      have HA0 := Lib.hid hA0
      have HB0 := Lib.hid hB0
      have HN0 := Lib.hid hN0
      have e3 : (b) - b = (k : Int) := hk
      have hxo2 := hxo.symm
      subst hxo2
      clear hxo hh hx hto hkn hA0 hB0 hN0 hk
      have c1 := (hs1.out.at_ 0 rfl).cells
      go_wp2_with fail
      refine (ht.out _ hs1.out.1).mono ?_
      rintro e w2 ⟨rfl, hb2⟩
      have hs2 := Lib.hid (hs1.out.bel hb2)
      have c2' := (hs2.out.at_ 0 rfl).cells
      clear hb2 c1 hs1 ht
      go_wp2_with fail
      go_loopg [3, 15] (l.length - s) (fun g v3 v15 W => Hid (SW w [(w.heap.size, 25, #[.int .i64 b, .int .i64 bt, .slice A es.length cap]), (w.heap.size + 1, 25, zT)] W) ∧ ∃ (j : Nat) (Bj : Option Addr) (cj : Nat), v15 = .int .i64 ((k + j : Nat) : Int) ∧ v3 = .slice Bj g cj ∧ g ≤ cj ∧ Hid (j + g = (l.length - s) ∧ j ≤ Tr.adv (es.drop k) l2 ∧ RdE w Bj (l2.drop j)))
      case atStart => exact ⟨hs2, 0, _, _, by simp, rfl, by omega, Lib.hid ⟨by omega, Nat.zero_le _, HM2.out⟩⟩
      case round =>
        obtain ⟨hsr, j, Bj, cj, rfl, rfl, hcj, HI⟩ := hrel
        have hav := Tr.adv_le (es.drop k) l2
        rw [List.length_drop] at hav
        have HAV := Lib.hid hav
        have c0 := (hsr.out.at_ 0 rfl).cells
        have hjl : (l2.drop j).length = gk := by rw [List.length_drop]; have := HI.out.1; have := HN2.out; omega
        by_cases hx : j < Tr.adv (es.drop k) l2
        · have hg : 0 < gk := by have := HI.out.1; have := HN2.out; omega
          have hkj : k + j < es.length := by omega
          have heq := Tr.adv_eq _ _ j hx
          rw [Tr.getD_drop] at heq
          obtain ⟨b1, o1, hA1, hbl1, hc1, _⟩ := HR.out (k + j) hkj
          obtain ⟨b2, o2, rfl, hbl2, hc2, _⟩ := HI.out.2.2 0 (by omega)
          simp only [Tr.getD_drop, Nat.zero_mul, Nat.add_zero] at hc2
          rw [← heq] at hc2
          generalize (es.getD (k + j) default).1 = y at *
          have g1 : (0 : Int) < (gk : Int) := by omega
          have g2 : ((k + j : Nat) : Int) < (es.length : Int) := by omega
          have HX := Lib.hid hx
          have HJL := Lib.hid hjl
          have HCJ := Lib.hid hcj
          have g3 : (1 : Int) ≤ (gk : Int) := by omega
          have g4 : decide (((k + j : Nat) : Int) < (es.length : Int)) = true := dec_t (by omega)
          have g5 : (k : Int) + (j : Int) < (es.length : Int) := by omega
          have g6 : (0 : Int) ≤ ((k + j : Nat) : Int) := by omega
          clear heq hx hav hjl
          subst hA1
          have SX : SW w [(w.heap.size, 25, #[.int .i64 b, .int .i64 bt, .slice (some ⟨b1, o1, none⟩) es.length cap]), (w.heap.size + 1, 25, zT)] wr.drew := hsr.out.drew
          have hne : Nonempty (InS (SW w [(w.heap.size, 25, #[.int .i64 b, .int .i64 bt, .slice (some ⟨b1, o1, none⟩) es.length cap]), (w.heap.size + 1, 25, zT)])) := ⟨⟨_, SX⟩⟩
          have k0 : ∀ (x : InS (SW w [(w.heap.size, 25, #[.int .i64 b, .int .i64 bt, .slice (some ⟨b1, o1, none⟩) es.length cap]), (w.heap.size + 1, 25, zT)])) i, x.val.cell? ⟨w.heap.size, i, none⟩ = (#[.int .i64 b, .int .i64 bt, .slice (some ⟨b1, o1, none⟩) es.length cap] : Array Value)[i]? := fun x => (x.ok.at_ 0 rfl).cells
          have k1 : ∀ (x : InS (SW w [(w.heap.size, 25, #[.int .i64 b, .int .i64 bt, .slice (some ⟨b1, o1, none⟩) es.length cap]), (w.heap.size + 1, 25, zT)])), x.val.cell? ⟨b1, o1 + (k + j) * 2, none⟩ = some (.int .i64 y) := fun x => (x.ok.1.cell (p := ⟨b1, o1 + (k + j) * 2, none⟩) hbl1).trans hc1
          have k2 : ∀ (x : InS (SW w [(w.heap.size, 25, #[.int .i64 b, .int .i64 bt, .slice (some ⟨b1, o1, none⟩) es.length cap]), (w.heap.size + 1, 25, zT)])), x.val.cell? ⟨b2, o2, none⟩ = some (.int .i64 y) := fun x => (x.ok.1.cell (p := ⟨b2, o2, none⟩) hbl2).trans hc2
          clear hc1 hc2 c0
          go_wp2_with fail
          refine wp_region_in (SW w [(w.heap.size, 25, #[.int .i64 b, .int .i64 bt, .slice (some ⟨b1, o1, none⟩) es.length cap]), (w.heap.size + 1, 25, zT)]) (by kernel_rfl) (by kernel_rfl) SX ?_
          repeat (go_big_quiet_step (fail))
          first | refine wpQuiet_nil ?_ | go_big_quiet_step (fail)
          intro W hW
          have hs := Lib.hid (in_ok hW)
          clear hW k0 k1 k2 SX hne
          have hrd := HI.out.2.2.drop 1 cj (by have := HJL.out; have := HCJ.out; omega)
          rw [List.drop_drop] at hrd
          have HRD := Lib.hid hrd
          clear hrd
          by_cases hcj1 : cj = 1
          all_goals
            go_wp2_with fail
            go_region
            go_wp2_with fail
            go_roundg (gk - 1)
            case rel =>
              have := HRD.out
              simp only [hcj1, if_true, if_false, Nat.reduceEqDiff] at this
              refine ⟨Lib.hid hs.out.drew, j + 1, _, _, by first | (congr 1; done) | (congr 1; omega), rfl, by omega, Lib.hid ⟨by have := HI.out.1; omega, HX.out, this⟩⟩
            case measure => omega
        · have hadv : Tr.adv (es.drop k) l2 = j := by have := HI.out.2.1; omega
          have hA1 := HA0.out
          have hB1 := HB0.out
          have hN1 := HN0.out
          rw [hadv] at hA1 hB1 hN1
          have SX : SW w [(w.heap.size, 25, #[.int .i64 b, .int .i64 bt, .slice A es.length cap]), (w.heap.size + 1, 25, zT)] wr.drew := hsr.out.drew
          have hne : Nonempty (InS (SW w [(w.heap.size, 25, #[.int .i64 b, .int .i64 bt, .slice A es.length cap]), (w.heap.size + 1, 25, zT)])) := ⟨⟨_, SX⟩⟩
          have k0 : ∀ (x : InS (SW w [(w.heap.size, 25, #[.int .i64 b, .int .i64 bt, .slice A es.length cap]), (w.heap.size + 1, 25, zT)])) i, x.val.cell? ⟨w.heap.size, i, none⟩ = (#[.int .i64 b, .int .i64 bt, .slice A es.length cap] : Array Value)[i]? := fun x => (x.ok.at_ 0 rfl).cells
          by_cases hg0 : gk = 0
          · have ho1 := hA1 (by have := HI.out.1; have := HN2.out; omega)
            have hz : (gk : Int) = 0 := by omega
            subst ho1
            subst hg0
            clear hA1 hB1 hN1 hx hadv hjl c0 hz
            go_wp2_with fail
            refine wp_region_in (SW w [(w.heap.size, 25, #[.int .i64 b, .int .i64 bt, .slice A es.length cap]), (w.heap.size + 1, 25, zT)]) (by kernel_rfl) (by kernel_rfl) SX ?_
            repeat (go_big_quiet_step (fail))
            first | refine wpQuiet_nil ?_ | go_big_quiet_step (fail)
            intro W hW
            have hs := Lib.hid (in_ok hW)
            clear hW k0 SX hne
            have c0 := (hs.out.at_ 0 rfl).cells
            clear hfo hck
            go_wp2_with fail
            refine (hwA.out _ hs.out.1).mono ?_
            rintro e w4 ⟨⟨v, rfl, hv⟩, hb4⟩
            have hs4 := Lib.hid (hs.out.bel hb4)
            have hg1 := (hs.out.at_ 1 rfl).lt
            have hg2 := hs.out.1.size
            clear hb4 c0
            rw [chk_with HC.out] at hv
            obtain ⟨A4, cap4, rfl, qo⟩ := hv
            have hBz := hs4.out.at_ 1 rfl
            have cz := hBz.cells
            have fz := hBz.free
            go_wp2_with fail
            refine bodyPost_ret (v := .tuple #[trV b bt A4 es.length cap4, .bool true]) (by simp [results, Tryz.results65, go_sem, cz]) rfl ⟨⟨_, rfl, ⟨A4, cap4, rfl, put3_own qo (by omega) (by omega)⟩⟩, put3_bel hs4.out.1 (by omega)⟩
          · have hng : ¬ l2.length ≤ j := by have := HI.out.1; have := HN2.out; omega
            have hN2 := hN1 hng
            have hB2 := hB1 hng
            have g1 : (0 : Int) < (gk : Int) := by omega
            have hg : 0 < gk := by omega
            have gz : ((gk : Int) == 0) = false := by rw [beq_eq_false_iff_ne]; omega
            have hkjl : k + j ≤ es.length := by have := HI.out.2.1; omega
            have HKJ := Lib.hid hkjl
            have HN3 := Lib.hid hN2
            have HB3 := Lib.hid hB2
            have HJL := Lib.hid hjl
            have gb1 : b + ((k + j : Nat) : Int) + 1 ≤ 9223372036854775807 := by omega
            have gb2 : b + ((k + j : Nat) : Int) ≤ 9223372036854775807 := by omega
            clear hN1 hB1 hA1 hN2 hB2 hng hjl
            by_cases hkl2 : k + j < es.length
            · have hne2 := Tr.adv_ne (es.drop k) l2 (by rw [List.length_drop, hadv]; omega) (by rw [hadv]; have := HI.out.1; have := HN2.out; omega)
              rw [hadv, Tr.getD_drop] at hne2
              obtain ⟨b1, o1, hA1, hbl1, hc1, _⟩ := HR.out (k + j) hkl2
              obtain ⟨b2, o2, hB1, hbl2, hc2, _⟩ := HI.out.2.2 0 (by rw [HJL.out]; omega)
              simp only [Tr.getD_drop, Nat.zero_mul, Nat.add_zero] at hc2
              generalize (es.getD (k + j) default).1 = y1 at *
              generalize (l2.getD j default).1 = y2 at *
              have hyy : (y1 == y2) = false := by simpa using hne2
              have g4 : decide (((k + j : Nat) : Int) < (es.length : Int)) = true := dec_t (by omega)
              have g5 : (k : Int) + (j : Int) < (es.length : Int) := by omega
              have g2 : ((k + j : Nat) : Int) < (es.length : Int) := by omega
              subst hA1
              subst hB1
              have k1 : ∀ (x : InS (SW w [(w.heap.size, 25, #[.int .i64 b, .int .i64 bt, .slice (some ⟨b1, o1, none⟩) es.length cap]), (w.heap.size + 1, 25, zT)])), x.val.cell? ⟨b1, o1 + (k + j) * 2, none⟩ = some (.int .i64 y1) := fun x => (x.ok.1.cell (p := ⟨b1, o1 + (k + j) * 2, none⟩) hbl1).trans hc1
              have k2 : ∀ (x : InS (SW w [(w.heap.size, 25, #[.int .i64 b, .int .i64 bt, .slice (some ⟨b1, o1, none⟩) es.length cap]), (w.heap.size + 1, 25, zT)])), x.val.cell? ⟨b2, o2, none⟩ = some (.int .i64 y2) := fun x => (x.ok.1.cell (p := ⟨b2, o2, none⟩) hbl2).trans hc2
              clear hc1 hc2 c0 hx hadv hkl2 hne2 hav hkjl
              go_wp2_with fail
              refine wp_region_in (SW w [(w.heap.size, 25, #[.int .i64 b, .int .i64 bt, .slice (some ⟨b1, o1, none⟩) es.length cap]), (w.heap.size + 1, 25, zT)]) (by kernel_rfl) (by kernel_rfl) SX ?_
              repeat (go_big_quiet_step (fail))
              first | refine wpQuiet_nil ?_ | go_big_quiet_step (fail)
              intro W hW
              have hs := Lib.hid (in_ok hW)
              clear hW k0 k1 k2 SX hne hyy g4 g5 g2
              by_cases hfx : b + ((k + j : Nat) : Int) + 1 ≤ fixed
              · have ho1 := HN3.out hfx
                subst ho1
                have c0 := (hs.out.at_ 0 rfl).cells
                clear hfo hck
                have HSZ := hs
                have hBz := HSZ.out.at_ 1 rfl
                have cz := hBz.cells
                have fz := hBz.free
                go_wp2_with fail
                refine bodyPost_ret (v := .tuple #[trV 0 0 none 0 0, .bool false]) (by simp [results, Tryz.results65, go_sem, cz]) rfl ⟨⟨_, rfl, rfl⟩, put3_bel HSZ.out.1 (by omega)⟩
              · have HB := Lib.hid (HB3.out (by omega))
                have hm : RdE W (some ⟨b2, o2, none⟩) (l2.drop j) := HI.out.2.2.bel hs.out.1
                have hwB2 := hwB.out (k + j) (some ⟨b2, o2, none⟩) cj (l2.drop j) W hs.out.1 hm HKJ.out (by rw [HJL.out]; have := HI.out.1; have := HN2.out; have := HLL.out; omega)
                rw [HJL.out] at hwB2
                have HWB := Lib.hid hwB2
                have c0 := (hs.out.at_ 0 rfl).cells
                clear hfo hck hm hwB2
                go_wp2_with fail
                refine HWB.out.mono ?_
                rintro e w4 ⟨⟨v, rfl, hv⟩, hb4⟩
                have hs4 := Lib.hid (hs.out.bel hb4)
                have hg1 := (hs.out.at_ 1 rfl).lt
                have hg2 := hs.out.1.size
                clear hb4 c0 HWB
                generalize Tr.with_ b bt es (k + j) (l2.drop j) = o4 at *
                have hBz := hs4.out.at_ 1 rfl
                have cz := hBz.cells
                have fz := hBz.free
                obtain rfl := HB.out
                rcases o with _ | out
                · obtain rfl := hv
                  go_wp2_with fail
                  refine bodyPost_ret (v := .tuple #[trV 0 0 none 0 0, .bool false]) (by simp [results, Tryz.results65, go_sem, cz]) rfl ⟨⟨_, rfl, rfl⟩, put3_bel hs4.out.1 (by omega)⟩
                · obtain ⟨A4, cap4, rfl, qo⟩ := hv
                  go_wp2_with fail
                  refine bodyPost_ret (v := .tuple #[trV b bt A4 out.length cap4, .bool true]) (by simp [results, Tryz.results65, go_sem, cz]) rfl ⟨⟨_, rfl, ⟨A4, cap4, rfl, put3_own qo (by omega) (by omega)⟩⟩, put3_bel hs4.out.1 (by omega)⟩
            · have g4 : decide (((k + j : Nat) : Int) < (es.length : Int)) = false := dec_f (by omega)
              have g9 : decide ((k : Int) + (j : Int) < (es.length : Int)) = false := dec_f (by omega)
              clear c0 hx hadv hkl2 hav hkjl
              go_wp2_with fail
              refine wp_region_in (SW w [(w.heap.size, 25, #[.int .i64 b, .int .i64 bt, .slice A es.length cap]), (w.heap.size + 1, 25, zT)]) (by kernel_rfl) (by kernel_rfl) SX ?_
              repeat (go_big_quiet_step (fail))
              first | refine wpQuiet_nil ?_ | go_big_quiet_step (fail)
              intro W hW
              have hs := Lib.hid (in_ok hW)
              clear hW k0 SX hne g4 g9
              by_cases hfx : b + ((k + j : Nat) : Int) + 1 ≤ fixed
              · have ho1 := HN3.out hfx
                subst ho1
                have c0 := (hs.out.at_ 0 rfl).cells
                clear hfo hck
                have HSZ := hs
                have hBz := HSZ.out.at_ 1 rfl
                have cz := hBz.cells
                have fz := hBz.free
                go_wp2_with fail
                refine bodyPost_ret (v := .tuple #[trV 0 0 none 0 0, .bool false]) (by simp [results, Tryz.results65, go_sem, cz]) rfl ⟨⟨_, rfl, rfl⟩, put3_bel HSZ.out.1 (by omega)⟩
              · have HB := Lib.hid (HB3.out (by omega))
                have hm : RdE W Bj (l2.drop j) := HI.out.2.2.bel hs.out.1
                have hwB2 := hwB.out (k + j) Bj cj (l2.drop j) W hs.out.1 hm HKJ.out (by rw [HJL.out]; have := HI.out.1; have := HN2.out; have := HLL.out; omega)
                rw [HJL.out] at hwB2
                have HWB := Lib.hid hwB2
                have c0 := (hs.out.at_ 0 rfl).cells
                clear hfo hck hm hwB2
                go_wp2_with fail
                refine HWB.out.mono ?_
                rintro e w4 ⟨⟨v, rfl, hv⟩, hb4⟩
                have hs4 := Lib.hid (hs.out.bel hb4)
                have hg1 := (hs.out.at_ 1 rfl).lt
                have hg2 := hs.out.1.size
                clear hb4 c0 HWB
                generalize Tr.with_ b bt es (k + j) (l2.drop j) = o4 at *
                have hBz := hs4.out.at_ 1 rfl
                have cz := hBz.cells
                have fz := hBz.free
                obtain rfl := HB.out
                rcases o with _ | out
                · obtain rfl := hv
                  go_wp2_with fail
                  refine bodyPost_ret (v := .tuple #[trV 0 0 none 0 0, .bool false]) (by simp [results, Tryz.results65, go_sem, cz]) rfl ⟨⟨_, rfl, rfl⟩, put3_bel hs4.out.1 (by omega)⟩
                · obtain ⟨A4, cap4, rfl, qo⟩ := hv
                  go_wp2_with fail
                  refine bodyPost_ret (v := .tuple #[trV b bt A4 out.length cap4, .bool true]) (by simp [results, Tryz.results65, go_sem, cz]) rfl ⟨⟨_, rfl, ⟨A4, cap4, rfl, put3_own qo (by omega) (by omega)⟩⟩, put3_bel hs4.out.1 (by omega)⟩
    · have hne : (x != bt) = true := by simpa using hxo
      have ho0 : o = none := by rw [HO.out]; exact put2_0 (fun _ => by rw [← hx]; exact hxo)
      subst ho0
      clear hh hx hxo
      have c1 := (hs1.out.at_ 0 rfl).cells
      go_wp2_with fail
      refine (ht.out _ hs1.out.1).mono ?_
      rintro e w2 ⟨rfl, hb2⟩
      have hs2 := Lib.hid (hs1.out.bel hb2)
      clear hb2 c1 hs1 ht
      have HSZ := hs2
      have hBz := HSZ.out.at_ 1 rfl
      have cz := hBz.cells
      have fz := hBz.free
      go_wp2_with fail
      refine bodyPost_ret (v := .tuple #[trV 0 0 none 0 0, .bool false]) (by simp [results, Tryz.results65, go_sem, cz]) rfl ⟨⟨_, rfl, rfl⟩, put3_bel HSZ.out.1 (by omega)⟩
  · have ho0 : o = none := by rw [HO.out]; exact put2_0 (fun h => absurd h hh)
    subst ho0
    simp only [Bool.not_eq_true] at hh
    rw [hh] at ht
    simp only [Bool.false_eq_true, if_false] at ht
    have c1 := (hs1.out.at_ 0 rfl).cells
    go_wp2_with fail
    refine (ht.out _ hs1.out.1).mono ?_
    rintro e w2 ⟨rfl, hb2⟩
    have hs2 := Lib.hid (hs1.out.bel hb2)
    clear hb2 c1 hs1 ht
    have HSZ := hs2
    have hBz := HSZ.out.at_ 1 rfl
    have cz := hBz.cells
    have fz := hBz.free
    go_wp2_with fail
    refine bodyPost_ret (v := .tuple #[trV 0 0 none 0 0, .bool false]) (by simp [results, Tryz.results65, go_sem, cz]) rfl ⟨⟨_, rfl, rfl⟩, put3_bel HSZ.out.1 (by omega)⟩

set_option maxRecDepth 20000 in
set_option maxHeartbeats 8000000 in
theorem put_ge (b bt prev of fixed : Int) (A : Option Addr) (cap : Nat) (es : List En) (B : Option Addr) (cap' : Nat) (l : List En) (w : World) (o : Option (List En)) (HR : Hid (RdE w A es)) (HM : Hid (RdE w B l)) (hlen : es.length ≤ 2 ^ 47) (hcap : es.length ≤ cap) (hll : l.length ≤ 6000000000000) (hcap' : l.length ≤ cap') (hpr : prev ≤ 9223372036854775807) (HC : Hid (Tr.chk b bt es = true)) (hp : 0 ≤ prev ∧ 0 ≤ of) (HFL : Hid (Tr.fol of l = true)) (hpb : ¬ prev < b) (ho : o = Tr.put2 b bt es prev of l fixed) :
    Calls Tryz.prog 65 #[trV b bt A es.length cap, .int .i64 prev, .int .i64 of, .slice B l.length cap', .int .i64 fixed] w fun e w' => (∃ v, e = .returned v ∧ ResT w.heap.size b bt o v w') ∧ Below w.heap.size w w' := by
  have hck := Lib.hid (fun W hb => check_calls b bt A cap es W (HR.out.bel hb) (by omega))
  have hfo := Lib.hid (fun W hb => follow_calls of B cap' l W (HM.out.bel hb) (by omega))
  rw [HC.out] at hck
  rw [HFL.out] at hfo
  have hr := Tr.chk_rim HC.out
  have hS := Lib.hid (((SW.nil w).new 25 #[.int .i64 b, .int .i64 bt, .slice A es.length cap] w.heap.size rfl).new 25 zT (w.heap.size + 1) (by simp))
  have hwA := Lib.hid (fun W hb => with_calls b bt A cap es.length es none 0 [] W (HR.out.bel hb) (RdE.nil _ _) (by omega) hcap (Nat.le_refl _) (by simp))
  have hwB := Lib.hid (fun (k : Nat) (Bj : Option Addr) (cj : Nat) (m : List En) (W : World) hb hm hk hml => with_calls b bt A cap k es Bj cj m W (HR.out.bel hb) hm (by omega) hcap hk hml)
  have p1 : ¬ prev < 0 := by omega
  have p2 : ¬ of < 0 := by omega
  have p3 : 0 ≤ b := by omega
  have p4 : b ≤ 1099511627776 := by omega
  have p5 : es.length ≤ 4096 := by omega
  clear hp hr
  have HO := Lib.hid ho
  clear ho
  obtain ⟨l2, rfl⟩ : ∃ l2, l2 = l := ⟨_, rfl⟩
  obtain ⟨n2, hn2⟩ : ∃ n2, n2 = l2.length := ⟨_, rfl⟩
  have HN2 := Lib.hid hn2
  have hn2c : n2 ≤ cap' := by omega
  have HLL : Hid (n2 ≤ 6000000000000) := Lib.hid (by omega)
  have HM2 := HM
  rw [← hn2] at hfo ⊢
  clear hn2 hcap' hll
  go_enter Tryz.func65, Tryz.ntmps65
  go_wp2_with fail
  refine (hck.out _ hS.out.1).mono ?_
  rintro e w1 ⟨rfl, hb1⟩
  have hs0 := Lib.hid (hS.out.bel hb1)
  clear hb1 hS
  go_wp2_with fail
  refine (hfo.out _ hs0.out.1).mono ?_
  rintro e w2 ⟨rfl, hb2⟩
  have hs1 := Lib.hid (hs0.out.bel hb2)
  clear hb2 hs0
  have c9 := (hs1.out.at_ 0 rfl).cells
  have ht := Lib.hid (fun W hb => term2_calls b bt (prev) A cap es W (HR.out.bel hb) (by omega))
  by_cases hh : Tr.has b bt es (prev) = true
  · rw [hh] at ht
    simp only [if_true] at ht
    obtain ⟨_, r1, r2⟩ := Tr.has_chk hh
    obtain ⟨x, hx⟩ : ∃ x, x = Tr.trm b bt es (prev) := ⟨_, rfl⟩
    rw [← hx] at ht
    by_cases hxo : x = of
    · have hb := (x != of)
      obtain ⟨k, hk⟩ : ∃ k : Nat, (prev) - b = (k : Int) := ⟨((prev) - b).toNat, by omega⟩
      have hkn : ((prev) - b).toNat = k := by omega
      have hkl : k ≤ es.length := by omega
      have hto : Tr.trm b bt es (prev) = of := by rw [← hx]; exact hxo
      have hA0 := put2_A (l := l2) (fixed := fixed) hh hto
      have hB0 := put2_B (l := l2) (fixed := fixed) hh hto
      have hN0 := put2_N (l := l2) (fixed := fixed) hh hto
      rw [hkn, ← HO.out] at hA0 hB0 hN0
      have HA0 := Lib.hid hA0
      have HB0 := Lib.hid hB0
      have HN0 := Lib.hid hN0
      have e3 : (prev) - b = (k : Int) := hk
      have hxo2 := hxo.symm
      subst hxo2
      clear hxo hh hx hto hkn hA0 hB0 hN0 hk
      have c1 := (hs1.out.at_ 0 rfl).cells
      go_wp2_with fail
      refine (ht.out _ hs1.out.1).mono ?_
      rintro e w2 ⟨rfl, hb2⟩
      have hs2 := Lib.hid (hs1.out.bel hb2)
      have c2' := (hs2.out.at_ 0 rfl).cells
      clear hb2 c1 hs1 ht
      go_wp2_with fail
      go_loopg [3, 15] n2 (fun g v3 v15 W => Hid (SW w [(w.heap.size, 25, #[.int .i64 b, .int .i64 bt, .slice A es.length cap]), (w.heap.size + 1, 25, zT)] W) ∧ ∃ (j : Nat) (Bj : Option Addr) (cj : Nat), v15 = .int .i64 ((k + j : Nat) : Int) ∧ v3 = .slice Bj g cj ∧ g ≤ cj ∧ Hid (j + g = n2 ∧ j ≤ Tr.adv (es.drop k) l2 ∧ RdE w Bj (l2.drop j)))
      case atStart => exact ⟨hs2, 0, _, _, by simp, rfl, by omega, Lib.hid ⟨by omega, Nat.zero_le _, HM2.out⟩⟩
      case round =>
        obtain ⟨hsr, j, Bj, cj, rfl, rfl, hcj, HI⟩ := hrel
        have hav := Tr.adv_le (es.drop k) l2
        rw [List.length_drop] at hav
        have HAV := Lib.hid hav
        have c0 := (hsr.out.at_ 0 rfl).cells
        have hjl : (l2.drop j).length = gk := by rw [List.length_drop]; have := HI.out.1; have := HN2.out; omega
        by_cases hx : j < Tr.adv (es.drop k) l2
        · have hg : 0 < gk := by have := HI.out.1; have := HN2.out; omega
          have hkj : k + j < es.length := by omega
          have heq := Tr.adv_eq _ _ j hx
          rw [Tr.getD_drop] at heq
          obtain ⟨b1, o1, hA1, hbl1, hc1, _⟩ := HR.out (k + j) hkj
          obtain ⟨b2, o2, rfl, hbl2, hc2, _⟩ := HI.out.2.2 0 (by omega)
          simp only [Tr.getD_drop, Nat.zero_mul, Nat.add_zero] at hc2
          rw [← heq] at hc2
          generalize (es.getD (k + j) default).1 = y at *
          have g1 : (0 : Int) < (gk : Int) := by omega
          have g2 : ((k + j : Nat) : Int) < (es.length : Int) := by omega
          have HX := Lib.hid hx
          have HJL := Lib.hid hjl
          have HCJ := Lib.hid hcj
          have g3 : (1 : Int) ≤ (gk : Int) := by omega
          have g4 : decide (((k + j : Nat) : Int) < (es.length : Int)) = true := dec_t (by omega)
          have g5 : (k : Int) + (j : Int) < (es.length : Int) := by omega
          have g6 : (0 : Int) ≤ ((k + j : Nat) : Int) := by omega
          clear heq hx hav hjl
          subst hA1
          have SX : SW w [(w.heap.size, 25, #[.int .i64 b, .int .i64 bt, .slice (some ⟨b1, o1, none⟩) es.length cap]), (w.heap.size + 1, 25, zT)] wr.drew := hsr.out.drew
          have hne : Nonempty (InS (SW w [(w.heap.size, 25, #[.int .i64 b, .int .i64 bt, .slice (some ⟨b1, o1, none⟩) es.length cap]), (w.heap.size + 1, 25, zT)])) := ⟨⟨_, SX⟩⟩
          have k0 : ∀ (x : InS (SW w [(w.heap.size, 25, #[.int .i64 b, .int .i64 bt, .slice (some ⟨b1, o1, none⟩) es.length cap]), (w.heap.size + 1, 25, zT)])) i, x.val.cell? ⟨w.heap.size, i, none⟩ = (#[.int .i64 b, .int .i64 bt, .slice (some ⟨b1, o1, none⟩) es.length cap] : Array Value)[i]? := fun x => (x.ok.at_ 0 rfl).cells
          have k1 : ∀ (x : InS (SW w [(w.heap.size, 25, #[.int .i64 b, .int .i64 bt, .slice (some ⟨b1, o1, none⟩) es.length cap]), (w.heap.size + 1, 25, zT)])), x.val.cell? ⟨b1, o1 + (k + j) * 2, none⟩ = some (.int .i64 y) := fun x => (x.ok.1.cell (p := ⟨b1, o1 + (k + j) * 2, none⟩) hbl1).trans hc1
          have k2 : ∀ (x : InS (SW w [(w.heap.size, 25, #[.int .i64 b, .int .i64 bt, .slice (some ⟨b1, o1, none⟩) es.length cap]), (w.heap.size + 1, 25, zT)])), x.val.cell? ⟨b2, o2, none⟩ = some (.int .i64 y) := fun x => (x.ok.1.cell (p := ⟨b2, o2, none⟩) hbl2).trans hc2
          clear hc1 hc2 c0
          go_wp2_with fail
          refine wp_region_in (SW w [(w.heap.size, 25, #[.int .i64 b, .int .i64 bt, .slice (some ⟨b1, o1, none⟩) es.length cap]), (w.heap.size + 1, 25, zT)]) (by kernel_rfl) (by kernel_rfl) SX ?_
          repeat (go_big_quiet_step (fail))
          first | refine wpQuiet_nil ?_ | go_big_quiet_step (fail)
          intro W hW
          have hs := Lib.hid (in_ok hW)
          clear hW k0 k1 k2 SX hne
          have hrd := HI.out.2.2.drop 1 cj (by have := HJL.out; have := HCJ.out; omega)
          rw [List.drop_drop] at hrd
          have HRD := Lib.hid hrd
          clear hrd
          by_cases hcj1 : cj = 1
          all_goals
            go_wp2_with fail
            go_region
            go_wp2_with fail
            go_roundg (gk - 1)
            case rel =>
              have := HRD.out
              simp only [hcj1, if_true, if_false, Nat.reduceEqDiff] at this
              refine ⟨Lib.hid hs.out.drew, j + 1, _, _, by first | (congr 1; done) | (congr 1; omega), rfl, by omega, Lib.hid ⟨by have := HI.out.1; omega, HX.out, this⟩⟩
            case measure => omega
        · have hadv : Tr.adv (es.drop k) l2 = j := by have := HI.out.2.1; omega
          have hA1 := HA0.out
          have hB1 := HB0.out
          have hN1 := HN0.out
          rw [hadv] at hA1 hB1 hN1
          have SX : SW w [(w.heap.size, 25, #[.int .i64 b, .int .i64 bt, .slice A es.length cap]), (w.heap.size + 1, 25, zT)] wr.drew := hsr.out.drew
          have hne : Nonempty (InS (SW w [(w.heap.size, 25, #[.int .i64 b, .int .i64 bt, .slice A es.length cap]), (w.heap.size + 1, 25, zT)])) := ⟨⟨_, SX⟩⟩
          have k0 : ∀ (x : InS (SW w [(w.heap.size, 25, #[.int .i64 b, .int .i64 bt, .slice A es.length cap]), (w.heap.size + 1, 25, zT)])) i, x.val.cell? ⟨w.heap.size, i, none⟩ = (#[.int .i64 b, .int .i64 bt, .slice A es.length cap] : Array Value)[i]? := fun x => (x.ok.at_ 0 rfl).cells
          by_cases hg0 : gk = 0
          · have ho1 := hA1 (by have := HI.out.1; have := HN2.out; omega)
            have hz : (gk : Int) = 0 := by omega
            subst ho1
            subst hg0
            clear hA1 hB1 hN1 hx hadv hjl c0 hz
            go_wp2_with fail
            refine wp_region_in (SW w [(w.heap.size, 25, #[.int .i64 b, .int .i64 bt, .slice A es.length cap]), (w.heap.size + 1, 25, zT)]) (by kernel_rfl) (by kernel_rfl) SX ?_
            repeat (go_big_quiet_step (fail))
            first | refine wpQuiet_nil ?_ | go_big_quiet_step (fail)
            intro W hW
            have hs := Lib.hid (in_ok hW)
            clear hW k0 SX hne
            have c0 := (hs.out.at_ 0 rfl).cells
            clear hfo hck
            go_wp2_with fail
            refine (hwA.out _ hs.out.1).mono ?_
            rintro e w4 ⟨⟨v, rfl, hv⟩, hb4⟩
            have hs4 := Lib.hid (hs.out.bel hb4)
            have hg1 := (hs.out.at_ 1 rfl).lt
            have hg2 := hs.out.1.size
            clear hb4 c0
            rw [chk_with HC.out] at hv
            obtain ⟨A4, cap4, rfl, qo⟩ := hv
            have hBz := hs4.out.at_ 1 rfl
            have cz := hBz.cells
            have fz := hBz.free
            go_wp2_with fail
            refine bodyPost_ret (v := .tuple #[trV b bt A4 es.length cap4, .bool true]) (by simp [results, Tryz.results65, go_sem, cz]) rfl ⟨⟨_, rfl, ⟨A4, cap4, rfl, put3_own qo (by omega) (by omega)⟩⟩, put3_bel hs4.out.1 (by omega)⟩
          · have hng : ¬ l2.length ≤ j := by have := HI.out.1; have := HN2.out; omega
            have hN2 := hN1 hng
            have hB2 := hB1 hng
            have g1 : (0 : Int) < (gk : Int) := by omega
            have hg : 0 < gk := by omega
            have gz : ((gk : Int) == 0) = false := by rw [beq_eq_false_iff_ne]; omega
            have hkjl : k + j ≤ es.length := by have := HI.out.2.1; omega
            have HKJ := Lib.hid hkjl
            have HN3 := Lib.hid hN2
            have HB3 := Lib.hid hB2
            have HJL := Lib.hid hjl
            have gb1 : b + ((k + j : Nat) : Int) + 1 ≤ 9223372036854775807 := by omega
            have gb2 : b + ((k + j : Nat) : Int) ≤ 9223372036854775807 := by omega
            clear hN1 hB1 hA1 hN2 hB2 hng hjl
            by_cases hkl2 : k + j < es.length
            · have hne2 := Tr.adv_ne (es.drop k) l2 (by rw [List.length_drop, hadv]; omega) (by rw [hadv]; have := HI.out.1; have := HN2.out; omega)
              rw [hadv, Tr.getD_drop] at hne2
              obtain ⟨b1, o1, hA1, hbl1, hc1, _⟩ := HR.out (k + j) hkl2
              obtain ⟨b2, o2, hB1, hbl2, hc2, _⟩ := HI.out.2.2 0 (by rw [HJL.out]; omega)
              simp only [Tr.getD_drop, Nat.zero_mul, Nat.add_zero] at hc2
              generalize (es.getD (k + j) default).1 = y1 at *
              generalize (l2.getD j default).1 = y2 at *
              have hyy : (y1 == y2) = false := by simpa using hne2
              have g4 : decide (((k + j : Nat) : Int) < (es.length : Int)) = true := dec_t (by omega)
              have g5 : (k : Int) + (j : Int) < (es.length : Int) := by omega
              have g2 : ((k + j : Nat) : Int) < (es.length : Int) := by omega
              subst hA1
              subst hB1
              have k1 : ∀ (x : InS (SW w [(w.heap.size, 25, #[.int .i64 b, .int .i64 bt, .slice (some ⟨b1, o1, none⟩) es.length cap]), (w.heap.size + 1, 25, zT)])), x.val.cell? ⟨b1, o1 + (k + j) * 2, none⟩ = some (.int .i64 y1) := fun x => (x.ok.1.cell (p := ⟨b1, o1 + (k + j) * 2, none⟩) hbl1).trans hc1
              have k2 : ∀ (x : InS (SW w [(w.heap.size, 25, #[.int .i64 b, .int .i64 bt, .slice (some ⟨b1, o1, none⟩) es.length cap]), (w.heap.size + 1, 25, zT)])), x.val.cell? ⟨b2, o2, none⟩ = some (.int .i64 y2) := fun x => (x.ok.1.cell (p := ⟨b2, o2, none⟩) hbl2).trans hc2
              clear hc1 hc2 c0 hx hadv hkl2 hne2 hav hkjl
              go_wp2_with fail
              refine wp_region_in (SW w [(w.heap.size, 25, #[.int .i64 b, .int .i64 bt, .slice (some ⟨b1, o1, none⟩) es.length cap]), (w.heap.size + 1, 25, zT)]) (by kernel_rfl) (by kernel_rfl) SX ?_
              repeat (go_big_quiet_step (fail))
              first | refine wpQuiet_nil ?_ | go_big_quiet_step (fail)
              intro W hW
              have hs := Lib.hid (in_ok hW)
              clear hW k0 k1 k2 SX hne hyy g4 g5 g2
              by_cases hfx : b + ((k + j : Nat) : Int) + 1 ≤ fixed
              · have ho1 := HN3.out hfx
                subst ho1
                have c0 := (hs.out.at_ 0 rfl).cells
                clear hfo hck
                have HSZ := hs
                have hBz := HSZ.out.at_ 1 rfl
                have cz := hBz.cells
                have fz := hBz.free
                go_wp2_with fail
                refine bodyPost_ret (v := .tuple #[trV 0 0 none 0 0, .bool false]) (by simp [results, Tryz.results65, go_sem, cz]) rfl ⟨⟨_, rfl, rfl⟩, put3_bel HSZ.out.1 (by omega)⟩
              · have HB := Lib.hid (HB3.out (by omega))
                have hm : RdE W (some ⟨b2, o2, none⟩) (l2.drop j) := HI.out.2.2.bel hs.out.1
                have hwB2 := hwB.out (k + j) (some ⟨b2, o2, none⟩) cj (l2.drop j) W hs.out.1 hm HKJ.out (by rw [HJL.out]; have := HI.out.1; have := HN2.out; have := HLL.out; omega)
                rw [HJL.out] at hwB2
                have HWB := Lib.hid hwB2
                have c0 := (hs.out.at_ 0 rfl).cells
                clear hfo hck hm hwB2
                go_wp2_with fail
                refine HWB.out.mono ?_
                rintro e w4 ⟨⟨v, rfl, hv⟩, hb4⟩
                have hs4 := Lib.hid (hs.out.bel hb4)
                have hg1 := (hs.out.at_ 1 rfl).lt
                have hg2 := hs.out.1.size
                clear hb4 c0 HWB
                generalize Tr.with_ b bt es (k + j) (l2.drop j) = o4 at *
                have hBz := hs4.out.at_ 1 rfl
                have cz := hBz.cells
                have fz := hBz.free
                obtain rfl := HB.out
                rcases o with _ | out
                · obtain rfl := hv
                  go_wp2_with fail
                  refine bodyPost_ret (v := .tuple #[trV 0 0 none 0 0, .bool false]) (by simp [results, Tryz.results65, go_sem, cz]) rfl ⟨⟨_, rfl, rfl⟩, put3_bel hs4.out.1 (by omega)⟩
                · obtain ⟨A4, cap4, rfl, qo⟩ := hv
                  go_wp2_with fail
                  refine bodyPost_ret (v := .tuple #[trV b bt A4 out.length cap4, .bool true]) (by simp [results, Tryz.results65, go_sem, cz]) rfl ⟨⟨_, rfl, ⟨A4, cap4, rfl, put3_own qo (by omega) (by omega)⟩⟩, put3_bel hs4.out.1 (by omega)⟩
            · have g4 : decide (((k + j : Nat) : Int) < (es.length : Int)) = false := dec_f (by omega)
              have g9 : decide ((k : Int) + (j : Int) < (es.length : Int)) = false := dec_f (by omega)
              clear c0 hx hadv hkl2 hav hkjl
              go_wp2_with fail
              refine wp_region_in (SW w [(w.heap.size, 25, #[.int .i64 b, .int .i64 bt, .slice A es.length cap]), (w.heap.size + 1, 25, zT)]) (by kernel_rfl) (by kernel_rfl) SX ?_
              repeat (go_big_quiet_step (fail))
              first | refine wpQuiet_nil ?_ | go_big_quiet_step (fail)
              intro W hW
              have hs := Lib.hid (in_ok hW)
              clear hW k0 SX hne g4 g9
              by_cases hfx : b + ((k + j : Nat) : Int) + 1 ≤ fixed
              · have ho1 := HN3.out hfx
                subst ho1
                have c0 := (hs.out.at_ 0 rfl).cells
                clear hfo hck
                have HSZ := hs
                have hBz := HSZ.out.at_ 1 rfl
                have cz := hBz.cells
                have fz := hBz.free
                go_wp2_with fail
                refine bodyPost_ret (v := .tuple #[trV 0 0 none 0 0, .bool false]) (by simp [results, Tryz.results65, go_sem, cz]) rfl ⟨⟨_, rfl, rfl⟩, put3_bel HSZ.out.1 (by omega)⟩
              · have HB := Lib.hid (HB3.out (by omega))
                have hm : RdE W Bj (l2.drop j) := HI.out.2.2.bel hs.out.1
                have hwB2 := hwB.out (k + j) Bj cj (l2.drop j) W hs.out.1 hm HKJ.out (by rw [HJL.out]; have := HI.out.1; have := HN2.out; have := HLL.out; omega)
                rw [HJL.out] at hwB2
                have HWB := Lib.hid hwB2
                have c0 := (hs.out.at_ 0 rfl).cells
                clear hfo hck hm hwB2
                go_wp2_with fail
                refine HWB.out.mono ?_
                rintro e w4 ⟨⟨v, rfl, hv⟩, hb4⟩
                have hs4 := Lib.hid (hs.out.bel hb4)
                have hg1 := (hs.out.at_ 1 rfl).lt
                have hg2 := hs.out.1.size
                clear hb4 c0 HWB
                generalize Tr.with_ b bt es (k + j) (l2.drop j) = o4 at *
                have hBz := hs4.out.at_ 1 rfl
                have cz := hBz.cells
                have fz := hBz.free
                obtain rfl := HB.out
                rcases o with _ | out
                · obtain rfl := hv
                  go_wp2_with fail
                  refine bodyPost_ret (v := .tuple #[trV 0 0 none 0 0, .bool false]) (by simp [results, Tryz.results65, go_sem, cz]) rfl ⟨⟨_, rfl, rfl⟩, put3_bel hs4.out.1 (by omega)⟩
                · obtain ⟨A4, cap4, rfl, qo⟩ := hv
                  go_wp2_with fail
                  refine bodyPost_ret (v := .tuple #[trV b bt A4 out.length cap4, .bool true]) (by simp [results, Tryz.results65, go_sem, cz]) rfl ⟨⟨_, rfl, ⟨A4, cap4, rfl, put3_own qo (by omega) (by omega)⟩⟩, put3_bel hs4.out.1 (by omega)⟩
    · have hne : (x != of) = true := by simpa using hxo
      have ho0 : o = none := by rw [HO.out]; exact put2_0 (fun _ => by rw [← hx]; exact hxo)
      subst ho0
      clear hh hx hxo
      have c1 := (hs1.out.at_ 0 rfl).cells
      go_wp2_with fail
      refine (ht.out _ hs1.out.1).mono ?_
      rintro e w2 ⟨rfl, hb2⟩
      have hs2 := Lib.hid (hs1.out.bel hb2)
      clear hb2 c1 hs1 ht
      have HSZ := hs2
      have hBz := HSZ.out.at_ 1 rfl
      have cz := hBz.cells
      have fz := hBz.free
      go_wp2_with fail
      refine bodyPost_ret (v := .tuple #[trV 0 0 none 0 0, .bool false]) (by simp [results, Tryz.results65, go_sem, cz]) rfl ⟨⟨_, rfl, rfl⟩, put3_bel HSZ.out.1 (by omega)⟩
  · have ho0 : o = none := by rw [HO.out]; exact put2_0 (fun h => absurd h hh)
    subst ho0
    simp only [Bool.not_eq_true] at hh
    rw [hh] at ht
    simp only [Bool.false_eq_true, if_false] at ht
    have c1 := (hs1.out.at_ 0 rfl).cells
    go_wp2_with fail
    refine (ht.out _ hs1.out.1).mono ?_
    rintro e w2 ⟨rfl, hb2⟩
    have hs2 := Lib.hid (hs1.out.bel hb2)
    clear hb2 c1 hs1 ht
    have HSZ := hs2
    have hBz := HSZ.out.at_ 1 rfl
    have cz := hBz.cells
    have fz := hBz.free
    go_wp2_with fail
    refine bodyPost_ret (v := .tuple #[trV 0 0 none 0 0, .bool false]) (by simp [results, Tryz.results65, go_sem, cz]) rfl ⟨⟨_, rfl, rfl⟩, put3_bel HSZ.out.1 (by omega)⟩

set_option maxRecDepth 20000 in
set_option maxHeartbeats 4000000 in
theorem put_calls (b bt prev of fixed : Int) (A : Option Addr) (cap : Nat) (es : List En) (B : Option Addr) (cap' : Nat) (l : List En) (w : World) (hR : RdE w A es) (hM : RdE w B l) (hlen : es.length ≤ 2 ^ 47) (hcap : es.length ≤ cap) (hll : l.length ≤ 6000000000000) (hcap' : l.length ≤ cap') (hpr : prev ≤ 9223372036854775807) :
    Calls Tryz.prog 65 #[trV b bt A es.length cap, .int .i64 prev, .int .i64 of, .slice B l.length cap', .int .i64 fixed] w fun e w' => (∃ v, e = .returned v ∧ ResT w.heap.size b bt (Tr.put b bt es prev of l fixed) v w') ∧ Below w.heap.size w w' := by
  obtain ⟨o, ho⟩ : ∃ o, o = Tr.put b bt es prev of l fixed := ⟨_, rfl⟩
  rw [← ho]
  have hck := Lib.hid (fun W hb => check_calls b bt A cap es W (hR.bel hb) (by omega))
  have hfo := Lib.hid (fun W hb => follow_calls of B cap' l W (hM.bel hb) (by omega))
  have HR := Lib.hid hR
  have HM := Lib.hid hM
  have hS := Lib.hid (((SW.nil w).new 25 #[.int .i64 b, .int .i64 bt, .slice A es.length cap] w.heap.size rfl).new 25 zT (w.heap.size + 1) (by simp))
  clear hR hM
  by_cases hc : Tr.chk b bt es = true
  · rw [hc] at hck
    by_cases hp : prev < 0 ∨ of < 0
    · have ho0 : o = none := by
        rw [ho]; unfold Tr.put
        rw [if_neg]
        simp only [Bool.and_eq_true, decide_eq_true_eq]
        omega
      subst ho0
      clear ho hc
      rcases hp with hp | hp
      all_goals
        go_enter Tryz.func65, Tryz.ntmps65
        go_wp2_with fail
        refine (hck.out _ hS.out.1).mono ?_
        rintro e w1 ⟨rfl, hb1⟩
        have hs0 := Lib.hid (hS.out.bel hb1)
        clear hb1 hS
        first | skip | by_cases hp2 : prev < 0
        have HSZ := hs0
        have hBz := HSZ.out.at_ 1 rfl
        have cz := hBz.cells
        have fz := hBz.free
        go_wp2_with fail
        all_goals
          refine bodyPost_ret (v := .tuple #[trV 0 0 none 0 0, .bool false]) (by simp [results, Tryz.results65, go_sem, cz]) rfl ⟨⟨_, rfl, rfl⟩, put3_bel HSZ.out.1 (by omega)⟩
    · by_cases hf : Tr.fol of l = true
      · rw [hf] at hfo
        have HC := Lib.hid hc
        have HFL := Lib.hid hf
        unfold Tr.put at ho
        rw [if_pos (by simp [hc, hf]; omega)] at ho
        have hp' : 0 ≤ prev ∧ 0 ≤ of := by omega
        by_cases hpb : prev < b
        · rw [if_pos hpb] at ho
          by_cases hls : (l.length : Int) < b - prev
          · exact put_lt0 b bt prev of fixed A cap es B cap' l w o HR HM hlen hcap hll hcap' hpr HC hp' HFL hpb hls ho
          · by_cases hne : (l.getD (b - prev - 1).toNat default).1 = bt
            · by_cases hcs : cap' = (b - prev).toNat
              · exact put_lt2 b bt prev of fixed A cap es B cap' l w o HR HM hlen hcap hll hcap' hpr HC hp' HFL hpb hls hne hcs ho
              · exact put_lt3 b bt prev of fixed A cap es B cap' l w o HR HM hlen hcap hll hcap' hpr HC hp' HFL hpb hls hne hcs ho
            · exact put_lt1 b bt prev of fixed A cap es B cap' l w o HR HM hlen hcap hll hcap' hpr HC hp' HFL hpb hls hne ho
        · rw [if_neg hpb] at ho
          exact put_ge b bt prev of fixed A cap es B cap' l w o HR HM hlen hcap hll hcap' hpr HC hp' HFL hpb ho
      · have ho0 : o = none := by
          rw [ho]; unfold Tr.put
          rw [if_neg]
          simp [hf]
        subst ho0
        simp only [Bool.not_eq_true] at hf
        rw [hf] at hfo
        have p1 : ¬ prev < 0 := by omega
        have p2 : ¬ of < 0 := by omega
        clear ho hc hp
        go_enter Tryz.func65, Tryz.ntmps65
        go_wp2_with fail
        refine (hck.out _ hS.out.1).mono ?_
        rintro e w1 ⟨rfl, hb1⟩
        have hs0 := Lib.hid (hS.out.bel hb1)
        clear hb1 hS
        go_wp2_with fail
        refine (hfo.out _ hs0.out.1).mono ?_
        rintro e w2 ⟨rfl, hb2⟩
        have hs1 := Lib.hid (hs0.out.bel hb2)
        clear hb2 hs0
        have HSZ := hs1
        have hBz := HSZ.out.at_ 1 rfl
        have cz := hBz.cells
        have fz := hBz.free
        go_wp2_with fail
        refine bodyPost_ret (v := .tuple #[trV 0 0 none 0 0, .bool false]) (by simp [results, Tryz.results65, go_sem, cz]) rfl ⟨⟨_, rfl, rfl⟩, put3_bel HSZ.out.1 (by omega)⟩
  · have ho0 : o = none := by
      rw [ho]; unfold Tr.put
      rw [if_neg]
      simp [hc]
    subst ho0
    simp only [Bool.not_eq_true] at hc
    rw [hc] at hck
    clear ho
    go_enter Tryz.func65, Tryz.ntmps65
    go_wp2_with fail
    refine (hck.out _ hS.out.1).mono ?_
    rintro e w1 ⟨rfl, hb1⟩
    have hs0 := Lib.hid (hS.out.bel hb1)
    clear hb1 hS
    have HSZ := hs0
    have hBz := HSZ.out.at_ 1 rfl
    have cz := hBz.cells
    have fz := hBz.free
    go_wp2_with fail
    refine bodyPost_ret (v := .tuple #[trV 0 0 none 0 0, .bool false]) (by simp [results, Tryz.results65, go_sem, cz]) rfl ⟨⟨_, rfl, rfl⟩, put3_bel HSZ.out.1 (by omega)⟩
end Go.Proofs.YtdladjgdhnkkcaaGreat
