/-
  Contracts of the document's disk: a removal; a file's bytes.
  Conditions: stated lemma by lemma.
-/
import Derived.Test.YtheocdfccdpmbaaDkV
import Derived.Test.YtheocdfccdpmbaaDkU
import Derived.Deep.AppendSrc
namespace Go.Proofs.Ytheocdfccdpmbaa
open Go.RowKit Go.Maps
set_option linter.unusedVariables false
set_option linter.unusedSimpArgs false
set_option maxHeartbeats 8000000

theorem owns_newB {P : Program} {w : World} {base : Nat} {e : TypeId} {size : Nat} {z : Value} {cells : List Value} {n cap : Nat} (hb : base ≤ w.heap.size) (hn : n ≤ cap) (hc : cap ≤ maxLen) (hz : z.cells.size = size) (hl : cells.length = n * size) :
    (w.drew.alloc (.cells (cells.toArray ++ Builtin.zeroCells z.cells (cap - n)) e)).ownsRow base e size (.slice (some ⟨w.heap.size, 0, none⟩) n cap) n cells := by
  refine ⟨hl, .inr ⟨w.heap.size, cap, _, rfl, hb, heap_alloc_new w.drew _, hn, hc, ?_, ?_⟩⟩
  · simp only [Array.size_append, List.size_toArray, size_zeroCells, hz, hl, ← Nat.add_mul]
    congr 1
    omega
  · simp only [Array.toList_append, ← hl]
    exact List.take_left
theorem run_append_srcB {P : Program} (w : World) (base : Nat) (t tx ty e : TypeId) (i : TypeInfo) (z : Value) (size bytes : Nat) (ht : P.underlying t = some (.slice e)) (hi : P.info? e = some i) (hz : i.zero = some z)
    (hsize : i.size = size) (hby : i.bytes = bytes) (hzs : z.cells.size = size) (hsz : 0 < size)
    (v : Value) (n : Nat) (xs : List Value) (hown : w.ownsRow base e size v n xs) (x : Value) (m : Nat) (news : List Value) (hs : Src P size tx x m news w) (hm : 0 < m)
    (h63 : n + m ≤ maxLen) (hbytes : (n + m) * bytes ≤ 140737488355328) (hbase : base ≤ w.heap.size) :
    ∃ v' w', (Builtin.append_ #[t, tx] ty #[v, x]).run P w = .ok v' w' ∧ w'.ownsRow base e size v' (n + m) (xs ++ news) ∧ w.grownBy w' v.ownBlock := by
  subst hsize
  subst hby
  have h64 : ((n + m : Nat) : Int) ≤ 9223372036854775807 := by simp only [maxLen] at h63; omega
  have hlen : (xs ++ news).length = (n + m) * i.size := by rw [List.length_append, hown.1, hs.newsLen, Nat.add_mul]
  rcases hown.2 with ⟨rfl, rfl⟩ | ⟨g, cap, cur, rfl, hbg, hg, hnc, hcm, hcs, htake⟩
  · have hr := run_append_grow_src (P := P) w t tx ty e i z ht hi hz none 0 0 xs (by
      have : xs = [] := List.eq_nil_of_length_eq_zero (by simpa using hown.1)
      subst this
      simp [Builtin.firstCells]) x m news hs (by omega) h64 (growslice_fits (by omega) hbytes)
    exact ⟨_, _, hr, owns_newB (P := P) hbase (grownCap_ge w _ _ e) (grownCap_le_maxLen w _ _ e h63) hzs hlen, ⟨rfl, rfl, rfl, by simp, fun k hk _ => Below.heap_alloc w.drew _ k hk⟩⟩
  · by_cases hroom : n + m ≤ cap
    · have hfit : n * i.size + news.length ≤ cur.size := by rw [hs.newsLen, hcs, ← Nat.add_mul]; exact Nat.mul_le_mul_right _ hroom
      have hst := run_storeCells_at P g (n * i.size) e news 0 cur w hg (by simpa using hfit) hs.one
      simp only [Nat.add_zero] at hst
      have hr : (Builtin.append_ #[t, tx] ty #[.slice (some ⟨g, 0, none⟩) n cap, x]).run P w = .ok (.slice (some ⟨g, 0, none⟩) (n + m) cap) (w.setRow g (cur.toList.take (n * i.size) ++ news ++ cur.toList.drop (n * i.size + news.length)).toArray) := by
        rcases hs.kind with ⟨e', hk⟩ | hk <;> simp [Builtin.append_, run_underlying ht, run_underlying hk, sizeOf, typeInfo, hi, hs.len, hroom, hs.cells, Addr.add_lit, hst]
      refine ⟨_, _, hr, ⟨hlen, .inr ⟨g, cap, _, rfl, hbg, setRow_heap w g cur _ e _ hg, hroom, hcm, ?_, ?_⟩⟩, ⟨rfl, rfl, rfl, by simp, fun k _ hk => setRow_other w g k _ (fun e => hk (by simp [Value.ownBlock, e]))⟩⟩
      · simp only [List.size_toArray, List.length_append, List.length_take, List.length_drop, Array.length_toList]
        omega
      · have h0 : cur.toList.take (n * i.size) = xs := htake
        rw [h0, ← hlen]
        exact List.take_left
    · have hr := run_append_grow_src (P := P) w t tx ty e i z ht hi hz (some ⟨g, 0, none⟩) n cap xs
        (run_firstCells_some w.drew i.size n ⟨g, 0, none⟩ n cap xs hown.1 (by simpa using hown.cells (g := g) rfl)) x m news hs (by omega) h64 (growslice_fits (by omega) hbytes)
      exact ⟨_, _, hr, owns_newB (P := P) hbase (grownCap_ge w _ _ e) (grownCap_le_maxLen w _ _ e h63) hzs hlen, ⟨rfl, rfl, rfl, by simp, fun k hk _ => Below.heap_alloc w.drew _ k hk⟩⟩
theorem byteCells_mkB (s : List UInt8) : byteCells (Dk.mkB s) = layB.flat s := by
  induction s with
  | nil => rfl
  | cons x s ih =>
    have e : layB.flat (x :: s) = .int .u8 x.toNat :: layB.flat s := by simp [Lay.flat, layB]
    rw [e, ← ih]
    simp [byteCells, Dk.mkB]
theorem run_appBs (w : World) (ty : TypeId) (base : Nat) (v : Value) (xs : List UInt8) (hown : OwnL layB 5 w base v xs) (s : List UInt8) (hb : xs.length + s.length ≤ 2 ^ 40) (hbase : base ≤ w.heap.size) :
    ∃ v' w', (Builtin.append_ #[47, 9] ty #[v, .string (Dk.mkB s)]).run Try.prog w = .ok v' w' ∧ OwnL layB 5 w' base v' (xs ++ s) ∧ w.grownBy w' v.ownBlock := by
  obtain ⟨i0, hi0, hz0, hz1, hz2⟩ := info_parts infoB
  have hsz : (Dk.mkB s).size = s.length := by simp [Dk.mkB, ByteArray.size]
  rcases Nat.eq_zero_or_pos s.length with h0 | h0
  · have hs0 : s = [] := List.eq_nil_of_length_eq_zero h0
    subst hs0
    refine ⟨v, w, ?_, by rw [List.append_nil]; exact hown, World.grownBy.refl w _⟩
    have hu := run_underlying Try.underlying47
    have hu2 := run_underlying Try.underlying9
    have hsrc := Src.ofString (P := Try.prog) w Try.underlying9 (Dk.mkB [])
    have hbc : byteCells (Dk.mkB []) = [] := rfl
    have hcells := hsrc.cells
    rw [hbc, hsz, List.length_nil] at hcells
    obtain ⟨_, hv⟩ := hown
    rcases hv with ⟨rfl, _⟩ | ⟨g, cap, cur, rfl, _, _, hnc, _⟩
    · simp [Builtin.append_, hu, hu2, sizeOf, typeInfo, hi0, hz1, hsrc.len, hsz, hcells, storeCells]
    · simp [Builtin.append_, hu, hu2, sizeOf, typeInfo, hi0, hz1, hsrc.len, hsz, hcells, hnc, storeCells]
  · obtain ⟨v', w', hrun, h2, h3⟩ := run_append_srcB (P := Try.prog) w base 47 9 ty 5 i0 (.int .u8 0) 1 1 Try.underlying47 hi0 hz0 hz1 hz2 rfl (by omega) v xs.length (layB.flat xs) hown (.string (Dk.mkB s)) (Dk.mkB s).size (byteCells (Dk.mkB s)) (Src.ofString w Try.underlying9 (Dk.mkB s)) (by omega) (by unfold maxLen; omega) (by omega) hbase
    refine ⟨v', w', hrun, ?_, h3⟩
    unfold OwnL
    rw [hsz, byteCells_mkB, ← Lay.flat_app] at h2
    rw [List.length_append]
    exact h2
theorem wpList_appBs {ops : Array Oper} {rest : List Oper} {o : Oper} {a : Act} {Q : Exit → Act → World → Prop} {w : World} (hgd : o.guard = none) (s x : Operand)
    (ho : o.op = .call { callee := .builtin .append, args := #[s, x], argTypes := #[47, 9] })
    (base : Nat) (v : Value) (xs : List UInt8) (hs : a.eval s = v) (hown : OwnL layB 5 w base v xs) (b : List UInt8) (hx : a.eval x = .string (Dk.mkB b)) (hb : xs.length + b.length ≤ 2 ^ 40) (hbase : base ≤ w.heap.size)
    (h : ∀ v' w', OwnL layB 5 w' base v' (xs ++ b) → w.grownBy w' v.ownBlock → wpList Try.prog ops Q rest (a.put o.dst v') w') : wpList Try.prog ops Q (o :: rest) a w :=
  wpList_plain hgd fun K hK => by
    obtain ⟨v', w', hrun, h2, h3⟩ := run_appBs w o.type base v xs hown b hb hbase
    unfold Oper.wp execOp
    simp only [ho, resolve, invoke, builtin, Sem.run_bind, Sem.run_pure, Result.andThen_ok, List.map_toArray, List.map_cons, List.map_nil, hs, hx, hrun]
    exact hK _ _ (h v' w' h2 h3)
theorem RfP.appX {α : Type} [Inhabited α] {K : Lay α} {e : TypeId} {w0 W W' : World} {g : Nat} {c1 c2 fv lv v v' : Value} {xs : List ByteArray} {L : List Wri} {l : List Thing} {zs ys : List α} {b0 : Nat} (h : RfP w0 g c1 c2 fv xs lv L (ownT K e v zs :: l) W) (ho : OwnL K e W' b0 v' ys) (hg : W.grownBy W' v.ownBlock) (h3 : v'.ownBlock = v.ownBlock ∨ v'.ownBlock = some W.heap.size) :
    RfP w0 g c1 c2 fv xs lv L (ownT K e v' ys :: l) W' :=
  Sp.perm (Sp.app (Sp.perm h (List.perm_middle (l₁ := [_, _, _]))) ho hg h3) (List.perm_middle (l₁ := [_, _, _])).symm
theorem RfP.nilX {α : Type} [Inhabited α] {K : Lay α} {e : TypeId} {w0 W : World} {g : Nat} {c1 c2 fv lv : Value} {xs : List ByteArray} {L : List Wri} {l : List Thing} (h : RfP w0 g c1 c2 fv xs lv L l W) :
    RfP w0 g c1 c2 fv xs lv L (ownT K e (.slice none 0 0) ([] : List α) :: l) W := Sp.perm (Sp.row0 h) (List.perm_middle (l₁ := [_, _, _])).symm
theorem rem_snoc (s : ByteArray) {L : List Wri} {k : Nat} (hk : k < L.length) : Dk.rem s (L.take (k + 1)) = Dk.rem s (L.take k) ++ (if (L.getD k default).name = s then [] else [L.getD k default]) := by
  rw [take_snocG hk]
  unfold Dk.rem
  rw [List.filter_append]
  generalize L.getD k default = x
  by_cases c : x.name = s <;> simp [c]
theorem out_snoc (s : ByteArray) {xs : List ByteArray} {k : Nat} (hk : k < xs.length) : outF (xs.take (k + 1)) s = outF (xs.take k) s ++ (if xs.getD k default = s then [] else [xs.getD k default]) := by
  rw [take_snocG hk]
  unfold outF
  rw [List.filter_append]
  generalize xs.getD k default = x
  by_cases c : x = s <;> simp [c]
theorem infoR : (Try.prog.info? 88).map (fun i => (i.zero, i.size, i.bytes)) = some (some (.agg #[.string ⟨#[]⟩, .string ⟨#[]⟩, .bool false]), 3, 40) := by kernel_rfl
section
variable {w0 w : World} {g : Nat} {xs : List ByteArray} {L : List Wri} {l : List Thing}
set_option maxRecDepth 20000 in
theorem rread_calls (H : Hid (Sp w0 (refT g xs L :: l) w)) (s : ByteArray) (h64 : xs.length ≤ 64) (hl : L.length ≤ 1000000) (ht : Dk.total L ≤ 1048576) :
    Calls Try.prog 28 #[.pointer (some ⟨g, 0, none⟩), .string s] w fun e w' => ∃ A c n, e = .returned (.tuple #[.slice A n c, .int .i64 (Dk.thereE xs s)]) ∧ OwnL layB 5 w' w.heap.size (.slice A n c) (if s ∈ xs then Dk.content s L else []) ∧ Below w.heap.size w w' := by
  have HHAS := Lib.hid (has_calls H s (by omega))
  have HLL := Lib.hid hl
  have HTT := Lib.hid ht
  by_cases cm : s ∈ xs
  · have HE : Hid (Dk.thereE xs s = 0) := Lib.hid (if_pos cm)
    rw [decide_eq_true cm] at HHAS
    rw [if_pos cm]
    generalize Dk.thereE xs s = er at *
    obtain rfl := HE.out
    obtain ⟨A, c, B, d, hr⟩ := H.out.openr
    have c0 : ∀ i, w.cell? ⟨g, i, none⟩ = (#[.slice A xs.length c, .slice B L.length d] : Array Value)[i]? := hr.blk.cells
    have HC0 : Hid (∀ W, Below w.heap.size w W → (∀ i, W.cell? ⟨g, i, none⟩ = (#[.slice A xs.length c, .slice B L.length d] : Array Value)[i]?) ∧ RdL layR W B L) := Lib.hid (fun W hW => ⟨(hr.blk.bel hW).cells, RdL.bel (Sp.rd hr (L := layR) (e := 88) (n := L.length) (c := d) (xs := L) (by simp)) hW⟩)
    have HZ := Lib.hid (Below.refl w.heap.size w)
    have HO0 : Hid (OwnL layB 5 w w.heap.size (.slice none 0 0) (Dk.content s (L.take 0))) := Lib.hid (OwnL.nil _ _)
    clear cm hr h64 hl ht
    go_enter Try.func28, Try.ntmps28
    go_wp2_with fail
    refine HHAS.out.mono ?_
    rintro e w1 ⟨rfl, rfl⟩
    go_wp2_with fail
    clear c0
    go_loopg [6, 7] L.length (fun n v6 v7 W => ∃ (k : Nat) (A6 : Option Addr) (n6 c6 : Nat), v7 = .int .i64 k ∧ v6 = .slice A6 n6 c6 ∧ n + k = L.length ∧ Hid (OwnL layB 5 W w.heap.size (.slice A6 n6 c6) (Dk.content s (L.take k))) ∧ Hid (Below w.heap.size w W))
    case atStart => exact ⟨0, none, 0, 0, rfl, rfl, rfl, HO0, HZ⟩
    case round =>
      clear HO0 HZ
      obtain ⟨k, A6, n6, c6, rfl, rfl, hnk, HO, HB⟩ := hrel
      obtain ⟨c1, hrd⟩ := HC0.out wr HB.out
      by_cases hlt : k < L.length
      · have hki : (k : Int) < (L.length : Int) := by omega
        have hk1 : (k : Int) + 1 ≤ 9223372036854775807 := by have := HLL.out; omega
        have hg : 0 < gk := by omega
        obtain ⟨b1, o1, hBe, -, e0, e1, e2⟩ := hrd.wri k hlt
        have hst : Dk.content s (L.take (k + 1)) = Dk.content s (L.take k) ++ (if (L.getD k default).name = s then (L.getD k default).b else []) := by
          rw [take_snocG hlt, Dk.content_app, Dk.content_cons, Dk.content_nil, List.append_nil]
        have hle : (Dk.content s (L.take (k + 1))).length ≤ 1048576 := by
          have h1 := Dk.content_le_total s (L.take (k + 1))
          have h2 := congrArg Dk.total (List.take_append_drop (k + 1) L)
          rw [Dk.total_app] at h2
          have := HTT.out
          omega
        obtain ⟨⟨xn, xb, xs'⟩, hx⟩ : ∃ x, x = L.getD k default := ⟨_, rfl⟩
        rw [← hx] at e0 e1 e2 hst
        simp only at e0 e1 e2 hst
        have HBE := Lib.hid hBe
        have HN := Lib.hid hnk
        have HLE := Lib.hid hle
        clear hx hBe hnk hlt hrd hle
        rw [HBE.out] at c1
        by_cases hc : xn = s
        · subst hc
          rw [if_pos rfl] at hst
          have HST := Lib.hid hst
          have hee : (xn.toList == xn.toList) = true := by simp
          clear hst
          go_wp2_with (at_builtin; refine wpList_appBs rfl (.tmp 31) (.tmp 39) rfl w.heap.size (.slice A6 n6 c6) (Dk.content xn (L.take k)) rfl HO.out xb rfl (by have := HLE.out; rw [HST.out, List.length_append] at this; omega) HB.out.size ?_; intro v8 w8 ho8 hg8; obtain ⟨A8, c8, hv8⟩ := ho8.formN (n := (Dk.content xn (L.take k)).length + xb.length) (by rw [List.length_append]); subst hv8; have HO8 := Lib.hid ho8; have HB8 := Lib.hid (HO.out.grown HB.out HB.out.size hg8); clear ho8 hg8)
          rw [← HST.out] at HO8
          go_roundg (gk - 1)
          case rel => exact ⟨k + 1, A8, _, c8, by go_num, rfl, by have := HN.out; omega, HO8, HB8⟩
          case measure => omega
        · rw [if_neg hc, List.append_nil] at hst
          have HO2 : Hid (OwnL layB 5 wr w.heap.size (.slice A6 n6 c6) (Dk.content s (L.take (k + 1)))) := Lib.hid (by rw [hst]; exact HO.out)
          have hee : (xn.toList == s.toList) = false := toList_ne hc
          clear hst hc HO
          go_wp2_with fail
          go_roundg (gk - 1)
          case rel => exact ⟨k + 1, A6, n6, c6, by go_num, rfl, by have := HN.out; omega, HO2, HB⟩
          case measure => omega
      · have hki : ¬ (k : Int) < (L.length : Int) := by omega
        have HO2 : Hid (OwnL layB 5 wr w.heap.size (.slice A6 n6 c6) (Dk.content s L)) := Lib.hid (by
          have h := HO.out
          rwa [List.take_of_length_le (by omega)] at h)
        clear hnk hlt hrd
        go_wp2_with fail
        go_ret2
        exact ⟨A6, c6, n6, rfl, HO2.out, HB.out⟩
  · have HE : Hid (Dk.thereE xs s = 80) := Lib.hid (if_neg cm)
    rw [decide_eq_false cm] at HHAS
    rw [if_neg cm]
    generalize Dk.thereE xs s = er at *
    obtain rfl := HE.out
    clear cm
    go_enter Try.func28, Try.ntmps28
    go_wp2_with fail
    refine HHAS.out.mono ?_
    rintro e w1 ⟨rfl, rfl⟩
    go_wp2_with fail
    go_ret2
    exact ⟨none, 0, 0, rfl, OwnL.nil _ _, Below.refl _ _⟩
set_option maxRecDepth 20000 in
theorem rremove_calls (H : Hid (Sp w0 (refT g xs L :: l) w)) (s : ByteArray) (h64 : xs.length ≤ 64) (hl : L.length ≤ 1000000) :
    Calls Try.prog 24 #[.pointer (some ⟨g, 0, none⟩), .string s] w fun e w' => e = .returned (.int .i64 (Dk.thereE xs s)) ∧ (if s ∈ xs then Sp w0 (refT g (outF xs s) (Dk.rem s L) :: l) w' else Sp w0 (refT g xs L :: l) w') := by
  have HHAS := Lib.hid (has_calls H s (by omega))
  have HLL := Lib.hid hl
  have H64 := Lib.hid h64
  by_cases cm : s ∈ xs
  · have HE : Hid (Dk.thereE xs s = 0) := Lib.hid (if_pos cm)
    rw [decide_eq_true cm] at HHAS
    simp only [if_pos cm]
    generalize Dk.thereE xs s = er at *
    obtain rfl := HE.out
    obtain ⟨A, c, B, d, hr⟩ := H.out.openr
    have HR : Hid (RfP w0 g (.slice A xs.length c) (.slice B L.length d) (.slice A xs.length c) xs (.slice B L.length d) L (ownT layN 9 (.slice none 0 0) (outF (xs.take 0) s) :: l) w) := Lib.hid hr.nilX
    clear cm hr h64 hl
    go_enter Try.func24, Try.ntmps24
    go_wp2_with fail
    refine HHAS.out.mono ?_
    rintro e w1 ⟨rfl, rfl⟩
    go_wp2_with fail
    go_loopg [5, 6] xs.length (fun n v5 v6 W => ∃ (k : Nat) (A5 : Option Addr) (n5 c5 : Nat), v6 = .int .i64 k ∧ v5 = .slice A5 n5 c5 ∧ n + k = xs.length ∧ Hid (n5 = (outF (xs.take k) s).length ∧ n5 ≤ k) ∧ Hid (RfP w0 g (.slice A xs.length c) (.slice B L.length d) (.slice A xs.length c) xs (.slice B L.length d) L (ownT layN 9 (.slice A5 n5 c5) (outF (xs.take k) s) :: l) W))
    case atStart => exact ⟨0, none, 0, 0, rfl, rfl, rfl, Lib.hid ⟨rfl, Nat.le_refl _⟩, HR⟩
    case round =>
      clear HR
      obtain ⟨k, A5, n5, c5, rfl, rfl, hnk, HN5, HP⟩ := hrel
      have c1 : ∀ i, wr.cell? ⟨g, i, none⟩ = (#[.slice A xs.length c, .slice B L.length d] : Array Value)[i]? := HP.out.blk.cells
      by_cases hlt : k < xs.length
      · have hki : (k : Int) < (xs.length : Int) := by omega
        have hk1 : (k : Int) + 1 ≤ 9223372036854775807 := by have := H64.out; omega
        have hg : 0 < gk := by omega
        obtain ⟨b1, o1, hAe, -, e0⟩ := (Sp.rd HP.out (L := layN) (e := 9) (A := A) (n := xs.length) (c := c) (xs := xs) (by simp)).nm k hlt
        have hst := out_snoc s hlt
        obtain ⟨x, hx⟩ : ∃ x, x = xs.getD k default := ⟨_, rfl⟩
        rw [← hx] at e0 hst
        have HAE := Lib.hid hAe
        have HN := Lib.hid hnk
        have HLT := Lib.hid hlt
        clear hx hAe hnk hlt
        rw [HAE.out] at c1
        by_cases hc : x = s
        · subst hc
          rw [if_pos rfl, List.append_nil] at hst
          have HP2 : Hid (RfP w0 g (.slice A xs.length c) (.slice B L.length d) (.slice A xs.length c) xs (.slice B L.length d) L (ownT layN 9 (.slice A5 n5 c5) (outF (xs.take (k + 1)) x) :: l) wr) := Lib.hid (by rw [hst]; exact HP.out)
          have HN6 : Hid (n5 = (outF (xs.take (k + 1)) x).length ∧ n5 ≤ k + 1) := Lib.hid (by rw [hst]; exact ⟨HN5.out.1, Nat.le_succ_of_le HN5.out.2⟩)
          have hee : (x.toList != x.toList) = false := by simp
          clear hst HP
          go_wp2_with fail
          go_roundg (gk - 1)
          case rel => exact ⟨k + 1, A5, n5, c5, by go_num, rfl, by have := HN.out; omega, HN6, HP2⟩
          case measure => omega
        · rw [if_neg hc] at hst
          have HST := Lib.hid hst
          have hee : (x.toList != s.toList) = true := by rw [bne, toList_ne hc]; rfl
          have hee2 : (x.toList == s.toList) = false := toList_ne hc
          have HPA := Lib.hid (HP.out.keep (bel_new (Below.refl wr.heap.size wr) (.cells #[.string x] 9)))
          have HRX := Lib.hid (rdL_litN wr x)
          clear hst hc HP
          go_wp2_with (at_builtin; refine wpList_appO8 (L := layN) 43 _ 16 Try.underlying43 infoN rfl rfl (.tmp 31) (.tmp 39) rfl w0.heap.size (.slice A5 n5 c5) (outF (xs.take k) s) rfl (Sp.own HPA.out (by simp)) (some ⟨wr.heap.size, 0, none⟩) 1 1 [x] rfl rfl HRX.out (by have := H64.out; have := HN5.out; have := HLT.out; simp only [List.length_singleton]; unfold maxLen; omega) (by have := H64.out; have := HN5.out; have := HLT.out; simp only [List.length_singleton]; omega) (Sp.size HPA.out) ?_; intro v8 w8 ho8 hg8 h38; obtain ⟨A8, c8, hv8⟩ := ho8.formN (n := n5 + 1) (by rw [List.length_append, ← HN5.out.1]; rfl); subst hv8; have H8 := Lib.hid (HPA.out.appX ho8 hg8 h38); clear ho8 hg8 h38)
          have HN6 : Hid (n5 + 1 = (outF (xs.take (k + 1)) s).length ∧ n5 + 1 ≤ k + 1) := Lib.hid (by rw [HST.out, List.length_append, ← HN5.out.1]; exact ⟨rfl, by have := HN5.out.2; omega⟩)
          rw [← HST.out] at H8
          go_roundg (gk - 1)
          case rel => exact ⟨k + 1, A8, n5 + 1, c8, by go_num, rfl, by have := HN.out; omega, HN6, H8⟩
          case measure => omega
      · have hki : ¬ (k : Int) < (xs.length : Int) := by omega
        have HQ : Hid (RfP w0 g (.slice A xs.length c) (.slice B L.length d) (.slice A xs.length c) xs (.slice B L.length d) L (ownT layR 88 (.slice none 0 0) (Dk.rem s (L.take 0)) :: ownT layN 9 (.slice A5 n5 c5) (outF xs s) :: l) wr) := Lib.hid (by
          have h := HP.out
          rw [List.take_of_length_le (by omega)] at h
          exact h.nilX)
        clear hnk hlt HP HN5
        go_wp2_with fail
        go_loopg [7, 8] L.length (fun n v7 v8 W => ∃ (j : Nat) (A7 : Option Addr) (n7 c7 : Nat), v8 = .int .i64 j ∧ v7 = .slice A7 n7 c7 ∧ n + j = L.length ∧ Hid (n7 = (Dk.rem s (L.take j)).length ∧ n7 ≤ j) ∧ Hid (RfP w0 g (.slice A xs.length c) (.slice B L.length d) (.slice A xs.length c) xs (.slice B L.length d) L (ownT layR 88 (.slice A7 n7 c7) (Dk.rem s (L.take j)) :: ownT layN 9 (.slice A5 n5 c5) (outF xs s) :: l) W))
        case atStart => exact ⟨0, none, 0, 0, rfl, rfl, rfl, Lib.hid ⟨rfl, Nat.le_refl _⟩, HQ⟩
        case round =>
          clear HQ c1
          obtain ⟨j, A7, n7, c7, rfl, rfl, hnj, HN7, HP⟩ := hrel
          have c1 : ∀ i, wr.cell? ⟨g, i, none⟩ = (#[.slice A xs.length c, .slice B L.length d] : Array Value)[i]? := HP.out.blk.cells
          by_cases hlt : j < L.length
          · have hji : (j : Int) < (L.length : Int) := by omega
            have hj1 : (j : Int) + 1 ≤ 9223372036854775807 := by have := HLL.out; omega
            have hg : 0 < gk := by omega
            obtain ⟨b1, o1, hBe, -, e0, e1, e2⟩ := (Sp.rd HP.out (L := layR) (e := 88) (A := B) (n := L.length) (c := d) (xs := L) (by simp)).wri j hlt
            have hst := rem_snoc s hlt
            obtain ⟨⟨xn, xb, xsy⟩, hx⟩ : ∃ x, x = L.getD j default := ⟨_, rfl⟩
            rw [← hx] at e0 e1 e2 hst
            simp only at e0 e1 e2 hst
            have HBE := Lib.hid hBe
            have HN := Lib.hid hnj
            have HLT := Lib.hid hlt
            clear hx hBe hnj hlt
            rw [HBE.out] at c1
            by_cases hc : xn = s
            · subst hc
              rw [if_pos rfl, List.append_nil] at hst
              have HP2 : Hid (RfP w0 g (.slice A xs.length c) (.slice B L.length d) (.slice A xs.length c) xs (.slice B L.length d) L (ownT layR 88 (.slice A7 n7 c7) (Dk.rem xn (L.take (j + 1))) :: ownT layN 9 (.slice A5 n5 c5) (outF xs xn) :: l) wr) := Lib.hid (by rw [hst]; exact HP.out)
              have HN6 : Hid (n7 = (Dk.rem xn (L.take (j + 1))).length ∧ n7 ≤ j + 1) := Lib.hid (by rw [hst]; exact ⟨HN7.out.1, Nat.le_succ_of_le HN7.out.2⟩)
              have hee : (xn.toList != xn.toList) = false := by simp
              clear hst HP
              go_wp2_with fail
              go_roundg (gk - 1)
              case rel => exact ⟨j + 1, A7, n7, c7, by go_num, rfl, by have := HN.out; omega, HN6, HP2⟩
              case measure => omega
            · rw [if_neg hc] at hst
              have HST := Lib.hid hst
              have hee : (xn.toList != s.toList) = true := by rw [bne, toList_ne hc]; rfl
              have hee2 : (xn.toList == s.toList) = false := toList_ne hc
              have HPA := Lib.hid (HP.out.keep (bel_new (Below.refl wr.heap.size wr) (.cells #[.string xn, .string (Dk.mkB xb), .bool xsy] 88)))
              have HRX := Lib.hid (rdL_lit (L := layR) wr 88 [(⟨xn, xb, xsy⟩ : Wri)] (by simp [maxLen]) #[.string xn, .string (Dk.mkB xb), .bool xsy] rfl)
              clear hst hc HP
              go_wp2_with (at_builtin; refine wpList_appO8 (L := layR) 44 _ 40 Try.underlying44 infoR rfl rfl (.tmp 60) (.tmp 68) rfl w0.heap.size (.slice A7 n7 c7) (Dk.rem s (L.take j)) rfl (Sp.own HPA.out (by simp)) (some ⟨wr.heap.size, 0, none⟩) 1 1 [(⟨xn, xb, xsy⟩ : Wri)] rfl rfl HRX.out (by have := HLL.out; have := HN7.out; have := HLT.out; simp only [List.length_singleton]; unfold maxLen; omega) (by have := HLL.out; have := HN7.out; have := HLT.out; simp only [List.length_singleton]; omega) (Sp.size HPA.out) ?_; intro v8 w8 ho8 hg8 h38; obtain ⟨A8, c8, hv8⟩ := ho8.formN (n := n7 + 1) (by rw [List.length_append, ← HN7.out.1]; rfl); subst hv8; have H8 := Lib.hid (HPA.out.appX ho8 hg8 h38); clear ho8 hg8 h38)
              have HN6 : Hid (n7 + 1 = (Dk.rem s (L.take (j + 1))).length ∧ n7 + 1 ≤ j + 1) := Lib.hid (by rw [HST.out, List.length_append, ← HN7.out.1]; exact ⟨rfl, by have := HN7.out.2; omega⟩)
              rw [← HST.out] at H8
              go_roundg (gk - 1)
              case rel => exact ⟨j + 1, A8, n7 + 1, c8, by go_num, rfl, by have := HN.out; omega, HN6, H8⟩
              case measure => omega
          · have hji : ¬ (j : Int) < (L.length : Int) := by omega
            have f1 : ∀ i, wr.frozen? ⟨g, i, none⟩ = false := HP.out.blk.free
            have HF : Hid (Sp w0 (refT g (outF xs s) (Dk.rem s L) :: l) ((wr.setCell ⟨g, 0, none⟩ (.slice A5 n5 c5)).setCell ⟨g, 1, none⟩ (.slice A7 n7 c7))) := Lib.hid (by
              have h := HP.out
              rw [List.take_of_length_le (by omega)] at h
              have h2 := (h.set0 (.slice A5 n5 c5)).set1 (.slice A7 n7 c7)
              exact (h2.swapL.swapF).close)
            clear hnj hlt HP HN7
            go_wp2_with fail
            go_ret
            exact ⟨rfl, HF.out⟩
  · have HE : Hid (Dk.thereE xs s = 80) := Lib.hid (if_neg cm)
    rw [decide_eq_false cm] at HHAS
    simp only [if_neg cm]
    generalize Dk.thereE xs s = er at *
    obtain rfl := HE.out
    clear cm
    go_enter Try.func24, Try.ntmps24
    go_wp2_with fail
    refine HHAS.out.mono ?_
    rintro e w1 ⟨rfl, rfl⟩
    go_wp2_with fail
    go_ret
    exact ⟨rfl, H.out⟩
end
end Go.Proofs.Ytheocdfccdpmbaa
