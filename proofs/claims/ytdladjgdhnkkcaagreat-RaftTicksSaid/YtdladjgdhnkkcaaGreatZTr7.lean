
/-
  Contracts of the package trail: Cut, Slice.
  Conditions: the entries can be read.
-/
import Derived.Test.YtdladjgdhnkkcaaGreatZTr5ToTr6
namespace Go.Proofs.YtdladjgdhnkkcaaGreat
open Go.RowKit
set_option linter.unusedVariables false
set_option linter.unusedSimpArgs false

theorem RdE.take {w : World} {A : Option Addr} {es : List En} (h : RdE w A es) (k : Nat) : RdE w A (es.take k) := fun i hi => by
  have hi' : i < k ∧ i < es.length := by simp at hi; omega
  obtain ⟨b, off, e, hlt, h1, h2⟩ := h i hi'.2
  have e1 : (es.take k).getD i default = es.getD i default := Tr.getD_take _ _ _ _ hi'.1
  rw [e1]
  exact ⟨b, off, e, hlt, h1, h2⟩

set_option maxRecDepth 20000 in
set_option maxHeartbeats 1000000 in
theorem cut_calls (b bt to : Int) (A : Option Addr) (cap : Nat) (es : List En) (w : World) (hR : RdE w A es) (hlen : es.length ≤ 2 ^ 47) (hcap : es.length ≤ cap) :
    Calls Tryz.prog 67 #[trV b bt A es.length cap, .int .i64 to] w fun e w' => (∃ v, e = .returned v ∧ ResT w.heap.size to (Tr.trm b bt es to) (if Tr.has b bt es to then some (es.drop (to - b).toNat) else none) v w') ∧ Below w.heap.size w w' := by
  have ht := Lib.hid (fun W hb => term2_calls b bt to A cap es W (hR.bel hb) (by omega))
  have HR := Lib.hid hR
  have hS := Lib.hid (((SW.nil w).new 25 #[.int .i64 b, .int .i64 bt, .slice A es.length cap] w.heap.size rfl).new 25 zT (w.heap.size + 1) (by simp))
  by_cases hc : Tr.has b bt es to = true
  · rw [hc] at ht
    simp only [if_true] at ht
    rw [if_pos hc]
    obtain ⟨hc1, h2, h3⟩ := Tr.has_chk hc
    have hr := Tr.chk_rim hc1
    generalize Tr.trm b bt es to = x at *
    obtain ⟨k, rfl⟩ : ∃ k : Nat, to = b + k := ⟨(to - b).toNat, by omega⟩
    have e1 : b + (k : Int) - b = (k : Int) := by omega
    rw [e1, Int.toNat_natCast]
    have k1 : (k : Int) ≤ (es.length : Int) := by omega
    have k2 : -9223372036854775808 ≤ b + (k : Int) - b ∧ b + (k : Int) - b ≤ 9223372036854775807 := by omega
    have hdl : es.length - k = (es.drop k).length := by simp
    have HL := Lib.hid hr
    have hcl := Lib.hid (fun W hb => clone_calls (if cap = k then A else A.map (·.add (k * 2))) (cap - k) (es.drop k) W ((HR.out.bel hb).drop k cap hcap) (by have := HL.out; simp; omega))
    rw [← hdl] at hcl
    have HD := Lib.hid hdl
    clear hc hc1 h2 h3 hr hdl k2 hR
    by_cases hck : cap = k
    · subst hck
      have hz : es.length - cap = 0 := by omega
      rw [if_pos rfl, Nat.sub_self, hz] at hcl
      rw [hz] at HD
      go_enter Tryz.func67, Tryz.ntmps67
      go_wp2_with fail
      refine (ht.out _ hS.out.1).mono ?_
      rintro e w1 ⟨rfl, hb1⟩
      have hs1 := Lib.hid (hS.out.bel hb1)
      have c0 := (hs1.out.at_ 0 rfl).cells
      clear hb1 hS ht
      go_wp2_with fail
      refine (hcl.out _ hs1.out.1).mono ?_
      rintro e w2 ⟨⟨A2, cap2, rfl, qo⟩, hb2⟩
      have hs2 := Lib.hid (hs1.out.bel hb2)
      have hg := (hs1.out.at_ 1 rfl).lt
      have hB := hs2.out.at_ 1 rfl
      have c2 := hB.cells
      have f2 := hB.free
      have hsz := hs1.out.1.size
      clear hb2 c0
      go_wp2_with fail
      refine bodyPost_ret (v := .tuple #[trV (b + cap) x A2 0 cap2, .bool true]) (by simp [results, Tryz.results67, go_sem, c2]) rfl ⟨⟨_, rfl, ⟨A2, cap2, (by rw [← HD.out]), (by rw [← HD.out]; exact put3_own qo (by omega) (by omega))⟩⟩, put3_bel hs2.out.1 (by omega)⟩
    · rw [if_neg hck] at hcl
      go_enter Tryz.func67, Tryz.ntmps67
      go_wp2_with fail
      refine (ht.out _ hS.out.1).mono ?_
      rintro e w1 ⟨rfl, hb1⟩
      have hs1 := Lib.hid (hS.out.bel hb1)
      have c0 := (hs1.out.at_ 0 rfl).cells
      clear hb1 hS ht
      go_wp2_with fail
      refine (hcl.out _ hs1.out.1).mono ?_
      rintro e w2 ⟨⟨A2, cap2, rfl, qo⟩, hb2⟩
      have hs2 := Lib.hid (hs1.out.bel hb2)
      have hg := (hs1.out.at_ 1 rfl).lt
      have hB := hs2.out.at_ 1 rfl
      have c2 := hB.cells
      have f2 := hB.free
      have hsz := hs1.out.1.size
      clear hb2 c0
      rw [HD.out] at qo ⊢
      go_wp2_with fail
      refine bodyPost_ret (v := .tuple #[trV (b + k) x A2 (es.drop k).length cap2, .bool true]) (by simp [results, Tryz.results67, go_sem, c2]) rfl ⟨⟨_, rfl, ⟨A2, cap2, rfl, put3_own qo (by omega) (by omega)⟩⟩, put3_bel hs2.out.1 (by omega)⟩
  · rw [if_neg hc]
    simp only [Bool.not_eq_true] at hc
    rw [hc] at ht
    simp only [Bool.false_eq_true, if_false] at ht
    clear hR hc
    go_enter Tryz.func67, Tryz.ntmps67
    go_wp2_with fail
    refine (ht.out _ hS.out.1).mono ?_
    rintro e w1 ⟨rfl, hb1⟩
    have hs1 := Lib.hid (hS.out.bel hb1)
    have hB := hs1.out.at_ 1 rfl
    have c2 := hB.cells
    have f2 := hB.free
    clear hb1 hS
    go_wp2_with fail
    refine bodyPost_ret (v := .tuple #[trV 0 0 none 0 0, .bool false]) (by simp [results, Tryz.results67, go_sem, c2]) rfl ⟨⟨_, rfl, rfl⟩, put3_bel hs1.out.1 (by omega)⟩

set_option maxRecDepth 20000 in
set_option maxHeartbeats 1000000 in
theorem slice_calls2 (b bt from_ most : Int) (A : Option Addr) (cap : Nat) (es : List En) (w : World) (hR : RdE w A es) (hlen : es.length ≤ 2 ^ 47) (hcap : es.length ≤ cap) :
    Calls Tryz.prog 88 #[trV b bt A es.length cap, .int .i64 from_, .int .i64 most] w fun e w' => (∃ A' cap', e = .returned (.slice A' (Tr.cutFrom b bt es from_ most).length cap') ∧ OwnE w' w.heap.size (.slice A' (Tr.cutFrom b bt es from_ most).length cap') (Tr.cutFrom b bt es from_ most)) ∧ Below w.heap.size w w' := by
  have hck := Lib.hid (fun W hb => check_calls b bt A cap es W (hR.bel hb) (by omega))
  have HR := Lib.hid hR
  have hS := Lib.hid (((SW.nil w).new 25 #[.int .i64 b, .int .i64 bt, .slice A es.length cap] w.heap.size rfl))
  obtain ⟨o, ho⟩ : ∃ o, o = Tr.cutFrom b bt es from_ most := ⟨_, rfl⟩
  rw [← ho]
  unfold Tr.cutFrom at ho
  by_cases hc : Tr.chk b bt es = true
  · have hr := Tr.chk_rim hc
    rw [hc] at hck ho
    rw [Bool.true_and] at ho
    have hl := Lib.hid (fun W => last_calls b bt A es.length cap W (by omega) (by omega))
    clear hc hR
    by_cases h1 : from_ ≤ b + es.length
    · by_cases h2 : 0 < most
      · rw [dec_t h1, dec_t h2] at ho
        simp only [Bool.and_self, if_true] at ho
        have HL := Lib.hid hr
        have p1 : 0 ≤ b := by omega
        have p2 : b ≤ 1099511627776 := by omega
        by_cases hf : b + 1 < from_
        · obtain ⟨k, hk⟩ : ∃ k : Nat, (k : Int) = from_ - b - 1 := ⟨(from_ - b - 1).toNat, by omega⟩
          rw [show (max from_ (b + 1) - b - 1).toNat = k from by omega] at ho
          have e1 : from_ - b - 1 = (k : Int) := hk.symm
          have k1 : (k : Int) ≤ (es.length : Int) := by omega
          have k2 : from_ - b ≤ 9223372036854775807 := by omega
          have k3 : ¬ from_ < b + 1 := by omega
          have hk0 := hk
          by_cases hck2 : cap = k
          · exfalso; omega
          · clear hk hr
            by_cases hm : most ≤ (es.length - k : Nat)
            · obtain ⟨m, rfl⟩ : ∃ m : Nat, most = (m : Int) := ⟨most.toNat, by omega⟩
              rw [Int.toNat_natCast] at ho
              have HN : Hid (m = o.length) := Lib.hid (by rw [ho]; simp; omega)
              have HOO := Lib.hid ho
              have m1 : (m : Int) ≤ ((cap - k : Nat) : Int) := by omega
              clear ho
              have hcl := Lib.hid (fun W (hb : Below w.heap.size w W) => clone_calls (A.map (·.add (k * 2))) (cap - k) o W (by have := (HR.out.bel hb).part k (k + m) cap (by omega) (by omega); rw [if_neg hck2, List.drop_take, Nat.add_sub_cancel_left, ← HOO.out] at this; exact this) (by have := HL.out; rw [← HN.out]; omega))
              rw [← HN.out] at hcl ⊢
              clear hk0
              go_enter Tryz.func88, Tryz.ntmps88
              go_wp2_with fail
              refine (hck.out _ hS.out.1).mono ?_
              rintro e w1 ⟨rfl, hb1⟩
              have hs1 := Lib.hid (hS.out.bel hb1)
              have c0 := (hs1.out.at_ 0 rfl).cells
              clear hb1 hS hck
              go_wp2_with fail
              refine (hl.out _).mono ?_
              rintro e w2 ⟨rfl, hb2⟩
              have hs2 := Lib.hid (hs1.out.bel hb2)
              have c2 := (hs2.out.at_ 0 rfl).cells
              clear hb2 hs1 hl c0
              go_wp2_with fail
              try simp only [show Option.map ((fun x : Addr => x) ∘ fun x => x) A = A from by cases A <;> rfl]
              refine (hcl.out _ hs2.out.1).mono ?_
              rintro e w3 ⟨⟨A2, cap2, rfl, qo⟩, hb3⟩
              have hs3 := hs2.out.bel hb3
              clear hb3 c2
              go_wp2_with fail
              go_ret
              exact ⟨⟨A2, cap2, rfl, qo.low hs2.out.1.size⟩, hs3.1⟩
            · have hoe : o = es.drop k := by rw [ho, List.take_of_length_le (by simp; omega)]
              have HN : Hid (es.length - k = o.length) := Lib.hid (by rw [hoe]; simp)
              have HOO := Lib.hid hoe
              have m1 : ((es.length - k : Nat) : Int) ≤ ((cap - k : Nat) : Int) := by omega
              have m2 : ((es.length - k : Nat) : Int) < most := by omega
              clear ho hoe hm
              have hcl := Lib.hid (fun W (hb : Below w.heap.size w W) => clone_calls (A.map (·.add (k * 2))) (cap - k) o W (by have := (HR.out.bel hb).drop k cap hcap; rw [if_neg hck2, ← HOO.out] at this; exact this) (by have := HL.out; rw [← HN.out]; omega))
              rw [← HN.out] at hcl ⊢
              clear hk0
              go_enter Tryz.func88, Tryz.ntmps88
              go_wp2_with fail
              refine (hck.out _ hS.out.1).mono ?_
              rintro e w1 ⟨rfl, hb1⟩
              have hs1 := Lib.hid (hS.out.bel hb1)
              have c0 := (hs1.out.at_ 0 rfl).cells
              clear hb1 hS hck
              go_wp2_with fail
              refine (hl.out _).mono ?_
              rintro e w2 ⟨rfl, hb2⟩
              have hs2 := Lib.hid (hs1.out.bel hb2)
              have c2 := (hs2.out.at_ 0 rfl).cells
              clear hb2 hs1 hl c0
              go_wp2_with fail
              try simp only [show Option.map ((fun x : Addr => x) ∘ fun x => x) A = A from by cases A <;> rfl]
              refine (hcl.out _ hs2.out.1).mono ?_
              rintro e w3 ⟨⟨A2, cap2, rfl, qo⟩, hb3⟩
              have hs3 := hs2.out.bel hb3
              clear hb3 c2
              go_wp2_with fail
              go_ret
              exact ⟨⟨A2, cap2, rfl, qo.low hs2.out.1.size⟩, hs3.1⟩
        · rw [show (max from_ (b + 1) - b - 1).toNat = 0 from by omega, List.drop_zero] at ho
          rcases Int.lt_or_eq_of_le (Int.not_lt.1 hf) with hf2 | rfl
          · have e1 : b + 1 - b = 1 := by omega
            have k2 : b + 1 ≤ 9223372036854775807 := by omega
            have hk0 := hf
            clear hr
            by_cases hm : most ≤ (es.length : Int)
            · obtain ⟨m, rfl⟩ : ∃ m : Nat, most = (m : Int) := ⟨most.toNat, by omega⟩
              rw [Int.toNat_natCast] at ho
              have HN : Hid (m = o.length) := Lib.hid (by rw [ho]; simp; omega)
              have HOO := Lib.hid ho
              have m1 : (m : Int) ≤ (cap : Int) := by omega
              clear ho
              have hcl := Lib.hid (fun W (hb : Below w.heap.size w W) => clone_calls A cap o W (HOO.out ▸ (HR.out.bel hb).take m) (by have := HL.out; rw [← HN.out]; omega))
              rw [← HN.out] at hcl ⊢
              clear hk0
              go_enter Tryz.func88, Tryz.ntmps88
              go_wp2_with fail
              refine (hck.out _ hS.out.1).mono ?_
              rintro e w1 ⟨rfl, hb1⟩
              have hs1 := Lib.hid (hS.out.bel hb1)
              have c0 := (hs1.out.at_ 0 rfl).cells
              clear hb1 hS hck
              go_wp2_with fail
              refine (hl.out _).mono ?_
              rintro e w2 ⟨rfl, hb2⟩
              have hs2 := Lib.hid (hs1.out.bel hb2)
              have c2 := (hs2.out.at_ 0 rfl).cells
              clear hb2 hs1 hl c0
              go_wp2_with fail
              try simp only [show Option.map ((fun x : Addr => x) ∘ fun x => x) A = A from by cases A <;> rfl]
              refine (hcl.out _ hs2.out.1).mono ?_
              rintro e w3 ⟨⟨A2, cap2, rfl, qo⟩, hb3⟩
              have hs3 := hs2.out.bel hb3
              clear hb3 c2
              go_wp2_with fail
              go_ret
              exact ⟨⟨A2, cap2, rfl, qo.low hs2.out.1.size⟩, hs3.1⟩
            · have hoe : o = es := by rw [ho, List.take_of_length_le (by omega)]
              have HN : Hid (es.length = o.length) := Lib.hid (by rw [hoe])
              have HOO := Lib.hid hoe
              have m1 : (es.length : Int) ≤ (cap : Int) := by omega
              have m2 : (es.length : Int) < most := by omega
              clear ho hoe hm
              by_cases hz : cap = 0
              · subst hz
                obtain rfl := List.eq_nil_of_length_eq_zero (show es.length = 0 by omega)
                simp only [List.length_nil] at HN hck hl hS
                have hoz : o = [] := List.eq_nil_of_length_eq_zero HN.out.symm
                subst hoz
                simp only [List.length_nil]
                clear hcap h1 m1 m2 hlen
                have hcl := Lib.hid (fun W (hb : Below w.heap.size w W) => clone_calls A 0 ([] : List En) W (RdE.nil _ _) (by simp))
                simp only [List.length_nil] at hcl
                clear hk0
                go_enter Tryz.func88, Tryz.ntmps88
                go_wp2_with fail
                refine (hck.out _ hS.out.1).mono ?_
                rintro e w1 ⟨rfl, hb1⟩
                have hs1 := Lib.hid (hS.out.bel hb1)
                have c0 := (hs1.out.at_ 0 rfl).cells
                clear hb1 hS hck
                go_wp2_with fail
                refine (hl.out _).mono ?_
                rintro e w2 ⟨rfl, hb2⟩
                have hs2 := Lib.hid (hs1.out.bel hb2)
                have c2 := (hs2.out.at_ 0 rfl).cells
                clear hb2 hs1 hl c0
                go_wp2_with fail
                try simp only [show Option.map ((fun x : Addr => x) ∘ fun x => x) A = A from by cases A <;> rfl]
                refine (hcl.out _ hs2.out.1).mono ?_
                rintro e w3 ⟨⟨A2, cap2, rfl, qo⟩, hb3⟩
                have hs3 := hs2.out.bel hb3
                clear hb3 c2
                go_wp2_with fail
                go_ret
                exact ⟨⟨A2, cap2, rfl, qo.low hs2.out.1.size⟩, hs3.1⟩
              · have hz' : 0 < cap := by omega
                have hcl := Lib.hid (fun W (hb : Below w.heap.size w W) => clone_calls A cap o W (HOO.out ▸ HR.out.bel hb) (by have := HL.out; rw [← HN.out]; omega))
                rw [← HN.out] at hcl ⊢
                clear hk0
                go_enter Tryz.func88, Tryz.ntmps88
                go_wp2_with fail
                refine (hck.out _ hS.out.1).mono ?_
                rintro e w1 ⟨rfl, hb1⟩
                have hs1 := Lib.hid (hS.out.bel hb1)
                have c0 := (hs1.out.at_ 0 rfl).cells
                clear hb1 hS hck
                go_wp2_with fail
                refine (hl.out _).mono ?_
                rintro e w2 ⟨rfl, hb2⟩
                have hs2 := Lib.hid (hs1.out.bel hb2)
                have c2 := (hs2.out.at_ 0 rfl).cells
                clear hb2 hs1 hl c0
                go_wp2_with fail
                try simp only [show Option.map ((fun x : Addr => x) ∘ fun x => x) A = A from by cases A <;> rfl]
                refine (hcl.out _ hs2.out.1).mono ?_
                rintro e w3 ⟨⟨A2, cap2, rfl, qo⟩, hb3⟩
                have hs3 := hs2.out.bel hb3
                clear hb3 c2
                go_wp2_with fail
                go_ret
                exact ⟨⟨A2, cap2, rfl, qo.low hs2.out.1.size⟩, hs3.1⟩
          · have e1 : b + 1 - b = 1 := by omega
            have k2 : b + 1 ≤ 9223372036854775807 := by omega
            have hk0 := hf
            clear hr
            by_cases hm : most ≤ (es.length : Int)
            · obtain ⟨m, rfl⟩ : ∃ m : Nat, most = (m : Int) := ⟨most.toNat, by omega⟩
              rw [Int.toNat_natCast] at ho
              have HN : Hid (m = o.length) := Lib.hid (by rw [ho]; simp; omega)
              have HOO := Lib.hid ho
              have m1 : (m : Int) ≤ (cap : Int) := by omega
              clear ho
              have hcl := Lib.hid (fun W (hb : Below w.heap.size w W) => clone_calls A cap o W (HOO.out ▸ (HR.out.bel hb).take m) (by have := HL.out; rw [← HN.out]; omega))
              rw [← HN.out] at hcl ⊢
              clear hk0
              go_enter Tryz.func88, Tryz.ntmps88
              go_wp2_with fail
              refine (hck.out _ hS.out.1).mono ?_
              rintro e w1 ⟨rfl, hb1⟩
              have hs1 := Lib.hid (hS.out.bel hb1)
              have c0 := (hs1.out.at_ 0 rfl).cells
              clear hb1 hS hck
              go_wp2_with fail
              refine (hl.out _).mono ?_
              rintro e w2 ⟨rfl, hb2⟩
              have hs2 := Lib.hid (hs1.out.bel hb2)
              have c2 := (hs2.out.at_ 0 rfl).cells
              clear hb2 hs1 hl c0
              go_wp2_with fail
              try simp only [show Option.map ((fun x : Addr => x) ∘ fun x => x) A = A from by cases A <;> rfl]
              refine (hcl.out _ hs2.out.1).mono ?_
              rintro e w3 ⟨⟨A2, cap2, rfl, qo⟩, hb3⟩
              have hs3 := hs2.out.bel hb3
              clear hb3 c2
              go_wp2_with fail
              go_ret
              exact ⟨⟨A2, cap2, rfl, qo.low hs2.out.1.size⟩, hs3.1⟩
            · have hoe : o = es := by rw [ho, List.take_of_length_le (by omega)]
              have HN : Hid (es.length = o.length) := Lib.hid (by rw [hoe])
              have HOO := Lib.hid hoe
              have m1 : (es.length : Int) ≤ (cap : Int) := by omega
              have m2 : (es.length : Int) < most := by omega
              clear ho hoe hm
              by_cases hz : cap = 0
              · exfalso; omega
              · have hz' : 0 < cap := by omega
                have hcl := Lib.hid (fun W (hb : Below w.heap.size w W) => clone_calls A cap o W (HOO.out ▸ HR.out.bel hb) (by have := HL.out; rw [← HN.out]; omega))
                rw [← HN.out] at hcl ⊢
                clear hk0
                go_enter Tryz.func88, Tryz.ntmps88
                go_wp2_with fail
                refine (hck.out _ hS.out.1).mono ?_
                rintro e w1 ⟨rfl, hb1⟩
                have hs1 := Lib.hid (hS.out.bel hb1)
                have c0 := (hs1.out.at_ 0 rfl).cells
                clear hb1 hS hck
                go_wp2_with fail
                refine (hl.out _).mono ?_
                rintro e w2 ⟨rfl, hb2⟩
                have hs2 := Lib.hid (hs1.out.bel hb2)
                have c2 := (hs2.out.at_ 0 rfl).cells
                clear hb2 hs1 hl c0
                go_wp2_with fail
                try simp only [show Option.map ((fun x : Addr => x) ∘ fun x => x) A = A from by cases A <;> rfl]
                refine (hcl.out _ hs2.out.1).mono ?_
                rintro e w3 ⟨⟨A2, cap2, rfl, qo⟩, hb3⟩
                have hs3 := hs2.out.bel hb3
                clear hb3 c2
                go_wp2_with fail
                go_ret
                exact ⟨⟨A2, cap2, rfl, qo.low hs2.out.1.size⟩, hs3.1⟩
      · rw [dec_t h1, dec_f h2] at ho
        simp only [Bool.and_false, Bool.false_eq_true, if_false] at ho
        have m1 : most ≤ 0 := by omega
        clear hr
        subst ho
        go_enter Tryz.func88, Tryz.ntmps88
        go_wp2_with fail
        refine (hck.out _ hS.out.1).mono ?_
        rintro e w1 ⟨rfl, hb1⟩
        have hs1 := Lib.hid (hS.out.bel hb1)
        have c0 := (hs1.out.at_ 0 rfl).cells
        clear hb1 hS hck
        go_wp2_with fail
        refine (hl.out _).mono ?_
        rintro e w2 ⟨rfl, hb2⟩
        have hs2 := Lib.hid (hs1.out.bel hb2)
        go_wp2_with fail
        go_ret
        exact ⟨⟨none, 0, rfl, OwnE.nil _ _⟩, hs2.out.1⟩
    · rw [dec_f h1] at ho
      simp only [Bool.false_and, Bool.false_eq_true, if_false] at ho
      have m1 : b + (es.length : Int) < from_ := by omega
      clear hr
      subst ho
      go_enter Tryz.func88, Tryz.ntmps88
      go_wp2_with fail
      refine (hck.out _ hS.out.1).mono ?_
      rintro e w1 ⟨rfl, hb1⟩
      have hs1 := Lib.hid (hS.out.bel hb1)
      have c0 := (hs1.out.at_ 0 rfl).cells
      clear hb1 hS hck
      go_wp2_with fail
      refine (hl.out _).mono ?_
      rintro e w2 ⟨rfl, hb2⟩
      have hs2 := Lib.hid (hs1.out.bel hb2)
      go_wp2_with fail
      go_ret
      exact ⟨⟨none, 0, rfl, OwnE.nil _ _⟩, hs2.out.1⟩
  · simp only [Bool.not_eq_true] at hc
    rw [hc] at hck ho
    simp only [Bool.false_and, Bool.false_eq_true, if_false] at ho
    subst ho
    go_enter Tryz.func88, Tryz.ntmps88
    go_wp2_with fail
    refine (hck.out _ hS.out.1).mono ?_
    rintro e w1 ⟨rfl, hb1⟩
    have hs1 := Lib.hid (hS.out.bel hb1)
    have c0 := (hs1.out.at_ 0 rfl).cells
    clear hb1 hS hck
    go_wp2_with fail
    go_ret
    exact ⟨⟨none, 0, rfl, OwnE.nil _ _⟩, hs1.out.1⟩
theorem slice_calls (b bt from_ most : Int) (A : Option Addr) (cap : Nat) (es : List En) (w : World) (hR : RdE w A es) (hlen : es.length ≤ 2 ^ 47) (hcap : es.length ≤ cap) :
    Calls Tryz.prog 88 #[trV b bt A es.length cap, .int .i64 from_, .int .i64 most] w fun e w' => (∃ A' cap', e = .returned (.slice A' (Tr.cutFrom b bt es from_ most).length cap') ∧ RdE w' A' (Tr.cutFrom b bt es from_ most)) ∧ Below w.heap.size w w' :=
  (slice_calls2 b bt from_ most A cap es w hR hlen hcap).mono fun _ _ ⟨⟨A', cap', h1, h2⟩, h3⟩ => ⟨⟨A', cap', h1, h2.rd.2.1⟩, h3⟩
end Go.Proofs.YtdladjgdhnkkcaaGreat
