/-
  Contracts: where a wheel stands; an advance.
  Conditions: the wheel holds S.
-/
import Derived.Test.YtheocdfccdpmbaaWh8
namespace Go.Proofs.Ytheocdfccdpmbaa
open Go.RowKit Go.Maps
set_option linter.unusedVariables false
set_option linter.unusedSimpArgs false
set_option maxHeartbeats 8000000

theorem now_calls {g mb : Nat} {pv : Nat → Value} {now : Int} {S : List Itm} {w : World} (H : Hid (WhS g mb pv now S w)) :
    Calls Try.prog 19 #[.pointer (some ⟨g, 0, none⟩)] w fun e w' => e = .returned (.int .i64 now) ∧ w = w' := by
  obtain ⟨pl, D, hW, -, -⟩ := H.out.ex
  have c0 := hW.c0.1
  clear hW
  go_enter Try.func19, Try.ntmps19
  go_wp2_with fail
  go_ret
  exact ⟨rfl, rfl⟩

section
variable {α : Type} [Inhabited α] {L : Lay α}
/-- append of a row that may be nil -/
theorem run_appO {P : Program} {e : TypeId} (w : World) (t ty : TypeId) (z : Value) (bytes : Nat) (ht : P.underlying t = some (.slice e)) (hinfo : (P.info? e).map (fun i => (i.zero, i.size, i.bytes)) = some (some z, L.k, bytes)) (hz : z.cells.size = L.k)
    (base : Nat) (v : Value) (xs : List α) (hown : OwnL L e w base v xs) (A : Option Addr) (c : Nat) (ys : List α) (hr : RdL L w A ys)
    (hm : xs.length + ys.length ≤ maxLen) (hb : (xs.length + ys.length) * bytes ≤ 140737488355328) (hbase : base ≤ w.heap.size) :
    ∃ v' w', (Builtin.append_ #[t, t] ty #[v, .slice A ys.length c]).run P w = .ok v' w' ∧ OwnL L e w' base v' (xs ++ ys) ∧ w.grownBy w' v.ownBlock ∧ (v'.ownBlock = v.ownBlock ∨ v'.ownBlock = some w.heap.size) := by
  rcases A with _ | A
  · obtain ⟨i0, hi0, hz0, hz1, hz2⟩ := info_parts hinfo
    have hn : ys = [] := by
      rcases Nat.eq_zero_or_pos ys.length with h0 | h0
      · exact List.eq_nil_of_length_eq_zero h0
      · obtain ⟨_, _, e, _⟩ := hr 0 h0
        cases e
    subst hn
    have hu := run_underlying ht
    refine ⟨v, w, ?_, by simpa using hown, World.grownBy.refl w _, .inl rfl⟩
    obtain ⟨_, hv⟩ := hown
    rcases hv with ⟨rfl, _⟩ | ⟨g, cap, cur, rfl, _, _, hnc, _⟩
    · simp [Builtin.append_, hu, sizeOf, typeInfo, hi0, Builtin.lenOf, Builtin.firstCells]
    · simp [Builtin.append_, hu, sizeOf, typeInfo, hi0, Builtin.lenOf, Builtin.firstCells, hnc, storeCells]
  · exact run_appAt w t ty z bytes ht hinfo hz base v xs hown A c ys hr hm hb hbase
theorem wpList_appO {P : Program} {e : TypeId} {ops : Array Oper} {rest : List Oper} {o : Oper} {a : Act} {Q : Exit → Act → World → Prop} {w : World} (t : TypeId) (z : Value) (bytes : Nat) (ht : P.underlying t = some (.slice e))
    (hinfo : (P.info? e).map (fun i => (i.zero, i.size, i.bytes)) = some (some z, L.k, bytes)) (hz : z.cells.size = L.k) (hgd : o.guard = none) (s x : Operand)
    (ho : o.op = .call { callee := .builtin .append, args := #[s, x], argTypes := #[t, t] })
    (base : Nat) (v : Value) (xs : List α) (hs : a.eval s = v) (hown : OwnL L e w base v xs) (A : Option Addr) (n c : Nat) (ys : List α) (hx : a.eval x = .slice A n c) (hn : n = ys.length) (hr : RdL L w A ys)
    (hm : xs.length + ys.length ≤ maxLen) (hb : (xs.length + ys.length) * bytes ≤ 140737488355328) (hbase : base ≤ w.heap.size)
    (h : ∀ v' w', OwnL L e w' base v' (xs ++ ys) → w.grownBy w' v.ownBlock → (v'.ownBlock = v.ownBlock ∨ v'.ownBlock = some w.heap.size) → wpList P ops Q rest (a.put o.dst v') w') : wpList P ops Q (o :: rest) a w :=
  wpList_plain hgd fun K hK => by
    subst hn
    obtain ⟨v', w', hrun, h2, h3, h4⟩ := run_appO w t o.type z bytes ht hinfo hz base v xs hown A c ys hr hm hb hbase
    unfold Oper.wp execOp
    simp only [ho, resolve, invoke, builtin, Sem.run_bind, Sem.run_pure, Result.andThen_ok, List.map_toArray, List.map_cons, List.map_nil, hs, hx, hrun]
    exact hK _ _ (h v' w' h2 h3 h4)
end
/-- a wheel as it became, and a row in new memory -/
def WhNew (w : World) (g mb : Nat) (pv : Nat → Value) (now : Int) (S : List Itm) (v : Value) (l : List Itm) (w' : World) : Prop :=
  ∃ pv', WhS g mb pv' now S w' ∧ Turn (WB g mb pv) w w' ∧ (∀ b, WB g mb pv' b → WB g mb pv b ∨ w.heap.size ≤ b) ∧ OwnL layW 31 w' 0 v l ∧ (∀ b, v.ownBlock = some b → ¬ WB g mb pv' b) ∧ ∀ b, v.ownBlock = some b → w.heap.size ≤ b
/-- what an advance answers -/
def advE (now to : Int) : Int := if to < now ∨ 226157759 < to then 30 else 0
def AdvTo (w : World) (g mb : Nat) (pv : Nat → Value) (now to : Int) (S : List Itm) (e : Ending) (w' : World) : Prop :=
  if advE now to = 0 then ∃ A cap, e = .returned (.tuple #[.slice A (Wh.upto to S).length cap, .int .i64 0]) ∧ WhNew w g mb pv to (Wh.past to S) (.slice A (Wh.upto to S).length cap) (Wh.upto to S) w'
  else e = .returned (.tuple #[.slice none 0 0, .int .i64 30]) ∧ WTo w g mb pv now S w'
/-- what an append of a row to new memory leaves -/
theorem WhNew.app {w w1 w2 W : World} {g mb : Nat} {pv pv1 : Nat → Value} {n2 : Int} {S2 : List Itm} {v u v' : Value} {l k : List Itm} (hT1 : Turn (WB g mb pv) w w1) (hc1 : ∀ b, WB g mb pv1 b → WB g mb pv b ∨ w.heap.size ≤ b) (ho1 : OwnL layW 31 w1 0 v l) (hd1 : ∀ b, v.ownBlock = some b → ¬ WB g mb pv1 b) (hn1 : ∀ b, v.ownBlock = some b → w.heap.size ≤ b)
    (h : WhRow w1 g mb pv1 n2 S2 u k w2) (ho : OwnL layW 31 W 0 v' (l ++ k)) (hg : w2.grownBy W v.ownBlock) (h3 : v'.ownBlock = v.ownBlock ∨ v'.ownBlock = some w2.heap.size) :
    WhNew w g mb pv n2 S2 v' (l ++ k) W := by
  obtain ⟨pv2, k1, k2, k3, k4, k5, k6⟩ := h
  have hv2 : ∀ b, v.ownBlock = some b → ¬ WB g mb pv2 b := fun b e hb => by
    rcases k3 b hb with h | h
    · exact hd1 b e h
    · have := ho1.lt2 b e; omega
  have hT2 : Turn (WB g mb pv) w w2 := hT1.trans k2 hc1
  refine ⟨pv2, k1.turn (.grown hg) (fun b hb e => hv2 b e hb), hT2.trans (.grown hg) (fun b e => .inr (hn1 b e)), fun b hb => ?_, ho, fun b e hb => ?_, fun b e => ?_⟩
  · rcases k3 b hb with h | h
    · exact hc1 b h
    · exact .inr (Nat.le_trans hT1.size h)
  · rcases h3 with h3 | h3
    · exact hv2 b (h3 ▸ e) hb
    · rw [h3] at e; injection e with e; have := k1.lt b hb; omega
  · rcases h3 with h3 | h3
    · exact hn1 b (h3 ▸ e)
    · rw [h3] at e; injection e with e; have := hT2.size; omega
set_option maxRecDepth 20000 in
theorem advance_calls {g mb : Nat} {pv : Nat → Value} {now : Int} {S : List Itm} {w : World} (H : Hid (WhS g mb pv now S w)) (to : Int) :
    Calls Try.prog 16 #[.pointer (some ⟨g, 0, none⟩), .int .i64 to] w (AdvTo w g mb pv now to S) := by
  obtain ⟨pl, D, hW, -, -⟩ := H.out.ex
  have c0 := hW.c0.1
  clear hW
  by_cases b1 : to < now
  · have d1 : decide (to < now) = true := decide_eq_true b1
    have HE : Hid (advE now to = 30) := Lib.hid (by unfold advE; rw [if_pos (.inl b1)])
    clear b1
    go_enter Try.func16, Try.ntmps16
    go_wp2_with fail
    go_ret2
    unfold AdvTo
    rw [HE.out, if_neg (by decide)]
    exact ⟨rfl, WTo.refl H.out⟩
  have d1 : decide (to < now) = false := decide_eq_false b1
  by_cases b2 : 226157759 < to
  · have d2 : decide (226157759 < to) = true := decide_eq_true b2
    have HE : Hid (advE now to = 30) := Lib.hid (by unfold advE; rw [if_pos (.inr b2)])
    clear b2
    go_enter Try.func16, Try.ntmps16
    go_wp2_with fail
    go_ret2
    unfold AdvTo
    rw [HE.out, if_neg (by decide)]
    exact ⟨rfl, WTo.refl H.out⟩
  have d2 : decide (226157759 < to) = false := decide_eq_false b2
  have HE : Hid (advE now to = 0) := Lib.hid (by unfold advE; rw [if_neg (by omega)])
  have HN0 : Hid (WhNew w g mb pv now (Wh.past now S) (.slice none (Wh.upto now S).length 0) (Wh.upto now S) w) := Lib.hid (by
    have e1 := Wh.upto_none (t := now) (fun i hi => (H.out.times i hi).1) (Int.le_refl _)
    have e2 := Wh.past_all (t := now) (fun i hi => (H.out.times i hi).1) (Int.le_refl _)
    rw [e1, e2]
    exact ⟨pv, H.out, .refl _ _, fun b e => .inl e, OwnL.nil _ _, fun b e => (by cases e), fun b e => (by cases e)⟩)
  have HZ0 : Hid ((Wh.upto now S).length = 0) := Lib.hid (by rw [Wh.upto_none (t := now) (fun i hi => (H.out.times i hi).1) (Int.le_refl _)]; rfl)
  go_enter Try.func16, Try.ntmps16
  go_wp2_with fail
  go_loopg [6] (to - now).toNat (fun n v6 W => ∃ (c : Int) (A : Option Addr) (cap : Nat), v6 = .slice A (Wh.upto c S).length cap ∧ n = (to - c).toNat ∧ now ≤ c ∧ c ≤ to ∧ Hid (WhNew w g mb pv c (Wh.past c S) (.slice A (Wh.upto c S).length cap) (Wh.upto c S) W))
  case atStart => exact ⟨now, none, 0, by rw [HZ0.out], rfl, Int.le_refl _, by omega, HN0⟩
  case round =>
    clear HN0 HZ0 c0
    obtain ⟨c, A, cap, rfl, hgk, hc0, hc1, HR⟩ := hrel
    obtain ⟨pv1, k1, k2, k3, k4, k5, k6⟩ := HR.out
    have K1 := Lib.hid k1
    have K2 := Lib.hid k2
    have K3 := Lib.hid k3
    have K4 := Lib.hid k4
    have K5 := Lib.hid k5
    have K6 := Lib.hid k6
    obtain ⟨pl1, D1, hW1, hV1, hM1⟩ := k1.ex
    have W1 := Lib.hid hW1
    have V1 := Lib.hid hV1
    have M1 := Lib.hid hM1
    clear k1 k2 k3 k4 k5 k6 hW1 hV1 hM1
    have c0 : wr.cell? ⟨g, 0, none⟩ = some (.int .i64 c) := W1.out.c0.1
    have f0 : wr.frozen? ⟨g, 0, none⟩ = false := W1.out.c0.2
    have cm : wr.cell? ⟨g, 257, none⟩ = some (.map (some mb)) := W1.out.cm.1
    by_cases b3 : c < to
    · by_cases b4 : (Wh.past c S).length = 0
      · have d4 : (((Maps.size D1 : Nat) : Int) == 0) = true := by rw [M1.out.size, b4]; rfl
        have hnil : Wh.past c S = [] := List.eq_nil_of_length_eq_zero b4
        have hS1 : Wh.past to S = [] := by rw [← Wh.past_past hc1 S, hnil]; rfl
        have hS2 : Wh.upto to S = Wh.upto c S := by rw [← Wh.upto_upto hc1 H.out.sorted, hnil]; simp [Wh.upto]
        have HS1 := Lib.hid hS1
        have HS2 := Lib.hid hS2
        have V2 : Hid (Wh.Inv to pl1 []) := Lib.hid (by have := V1.out; rw [hnil] at this; exact this.jump)
        have M2 : Hid (MapIs D1 []) := Lib.hid (by have := M1.out; rwa [hnil] at this)
        clear hnil hS1 hS2 b4
        go_wp2_with (at_len; refine wpList_len_own _ rfl _ 73 rfl 3 2 Try.underlying73 _ mb _ D1 rfl W1.out.map ?_)
        go_ret2
        unfold AdvTo
        rw [HE.out, if_pos rfl, HS1.out, HS2.out]
        have t0 := Turn.set wr ⟨g, 0, none⟩ (.int .i64 to)
        exact ⟨A, cap, rfl, pv1, ⟨⟨pl1, D1, W1.out.set0 to, V2.out, M2.out⟩, by simp, by have := H.out.t0; omega, by omega, fun x hx => by cases hx⟩,
          K2.out.trans (t0.mono (B' := WB g mb pv1) fun b _ e => .inl e) K3.out, K3.out, K4.out.turn t0 (fun b e e2 => K5.out b e (.inl e2)), K5.out, K6.out⟩
      · have d4 : (((Maps.size D1 : Nat) : Int) == 0) = false := by rw [M1.out.size]; simpa using fun e : Wh.past c S = [] => b4 (by rw [e]; rfl)
        have hlu : (Wh.upto c S).length + (Wh.past c S).length ≤ 4096 := by have := Wh.split_len c S; have := H.out.len; omega
        clear b4
        go_wp2_with (at_len; refine wpList_len_own _ rfl _ 73 rfl 3 2 Try.underlying73 _ mb _ D1 rfl W1.out.map ?_)
        refine (tick_calls K1 (by omega)).mono ?_
        rintro e w2 ⟨A2, cap2, rfl, hr2⟩
        have R2 := Lib.hid hr2
        obtain ⟨pv2, q1, q2, q3, q4, q5, q6⟩ := hr2
        have HOL : Hid (OwnL layW 31 w2 0 (.slice A (Wh.upto c S).length cap) (Wh.upto c S)) := Lib.hid (K4.out.turn q2 K5.out)
        have HRD : Hid (RdL layW w2 A2 (due (c + 1) (Wh.past c S))) := Lib.hid (by
          obtain ⟨A', cap', hsl, -, -, hrd, -⟩ := q4.form
          injection hsl with hA' _ _
          rw [hA']; exact hrd)
        have hdl : (due (c + 1) (Wh.past c S)).length ≤ (Wh.past c S).length := due_len
        have HUS := Lib.hid (Wh.upto_step (now := c) H.out.sorted)
        clear q1 q2 q3 q4 q5 q6 c0 f0 cm
        have hA1 : (Wh.upto c S).length + (due (c + 1) (Wh.past c S)).length ≤ maxLen := by unfold maxLen; omega
        have hA2 : ((Wh.upto c S).length + (due (c + 1) (Wh.past c S)).length) * 16 ≤ 140737488355328 := by omega
        have HAP : Hid (∀ v' w', OwnL layW 31 w' 0 v' (Wh.upto c S ++ due (c + 1) (Wh.past c S)) → w2.grownBy w' (Value.slice A (Wh.upto c S).length cap).ownBlock → (v'.ownBlock = (Value.slice A (Wh.upto c S).length cap).ownBlock ∨ v'.ownBlock = some w2.heap.size) → ∃ A3 cap3, v' = .slice A3 (Wh.upto (c + 1) S).length cap3 ∧ WhNew w g mb pv (c + 1) (Wh.past (c + 1) S) (.slice A3 (Wh.upto (c + 1) S).length cap3) (Wh.upto (c + 1) S) w') := Lib.hid (fun v' w' ho3 hg3 h33 => by
          obtain ⟨A3, cap3, rfl, -, -, -, -⟩ := ho3.form
          have h1 := WhNew.app K2.out K3.out K4.out K5.out K6.out R2.out ho3 hg3 h33
          rw [show Wh.upto c S ++ due (c + 1) (Wh.past c S) = Wh.upto (c + 1) S from HUS.out.1, HUS.out.2] at h1
          rw [show Wh.upto c S ++ due (c + 1) (Wh.past c S) = Wh.upto (c + 1) S from HUS.out.1]
          exact ⟨A3, cap3, rfl, h1⟩)
        go_wp2_with (at_builtin; refine wpList_appO (L := layW) 22 _ 16 Try.underlying22 infoW rfl rfl (.tmp 37) (.tmp 39) rfl 0 (.slice A (Wh.upto c S).length cap) (Wh.upto c S) rfl HOL.out A2 (due (c + 1) (Wh.past c S)).length cap2 (due (c + 1) (Wh.past c S)) rfl rfl HRD.out hA1 hA2 (Nat.zero_le _) ?_; intro v1 w3 ho3 hg3 h33; obtain ⟨A3, cap3, rfl, hn3⟩ := HAP.out v1 w3 ho3 hg3 h33; have HN3 := Lib.hid hn3; clear ho3 hg3 h33 hn3)
        go_roundg (to - (c + 1)).toNat
        case rel => exact ⟨c + 1, A3, cap3, rfl, rfl, by omega, by omega, HN3⟩
        case measure => omega
    · have hct : c = to := by omega
      subst hct
      go_wp2_with fail
      go_ret2
      unfold AdvTo
      rw [HE.out, if_pos rfl]
      exact ⟨A, cap, rfl, HR.out⟩
end Go.Proofs.Ytheocdfccdpmbaa
