
/-
  TallyTickets: its loops.
  Conditions: stated lemma by lemma.
-/
import Derived.Test.YtboiolnnhmlieaaGz2
import Derived.Test.YtboiolnnhmlieaaGe1
import Derived.Test.YtboiolnnhmlieaaGz1
import Derived.Lib.Hide
namespace Go.Proofs.Ytboiolnnhmlieaa.Gang
open Go.Conc Go.ConcN Go.RowKit Go.Conc.Lib Go.ConcR.Gen Go.ConcN.Gen
set_option linter.unusedVariables false
set_option linter.unusedSimpArgs false
/-- an element of a script -/
structure DoV where
  kind : Int
  slot : Int
  num : Int
  sl : Option Addr
  cap : Nat
  steps : List (Int × Int)
  workers : Int
  each : Int
/-- a script in memory -/
def DosAt (sl : Option Addr) (ds : List DoV) (w : World) : Prop :=
  ds ≠ [] → ∃ ar off, sl = some ⟨ar, off, none⟩ ∧ ar < w.heap.size ∧ ∀ j (h : j < ds.length),
    w.cell? ⟨ar, off + j * 6, none⟩ = some (.int .i64 (ds[j]).kind) ∧ w.cell? ⟨ar, off + j * 6 + 1, none⟩ = some (.int .i64 (ds[j]).slot) ∧ w.cell? ⟨ar, off + j * 6 + 2, none⟩ = some (.int .i64 (ds[j]).num) ∧
    w.cell? ⟨ar, off + j * 6 + 3, none⟩ = some (.slice (ds[j]).sl (ds[j]).steps.length (ds[j]).cap) ∧ w.cell? ⟨ar, off + j * 6 + 4, none⟩ = some (.int .i64 (ds[j]).workers) ∧ w.cell? ⟨ar, off + j * 6 + 5, none⟩ = some (.int .i64 (ds[j]).each)
theorem DosAt.keep {sl : Option Addr} {ds : List DoV} {w w' : World} (h : DosAt sl ds w) (hs : w.heap.size ≤ w'.heap.size) (hk : ∀ ar off, sl = some ⟨ar, off, none⟩ → ar < w.heap.size → w'.heap[ar]? = w.heap[ar]?) : DosAt sl ds w' := fun hx => by
  obtain ⟨ar, off, e, h1, h2⟩ := h hx
  refine ⟨ar, off, e, by omega, fun j hj => ?_⟩
  have hh := hk ar off e h1
  obtain ⟨c0, c1, c2, c3, c4, c5⟩ := h2 j hj
  exact ⟨(cell_heap hh).trans c0, (cell_heap hh).trans c1, (cell_heap hh).trans c2, (cell_heap hh).trans c3, (cell_heap hh).trans c4, (cell_heap hh).trans c5⟩
noncomputable def lin5 : Code := match Try.f5.body.getD .skip with | .seq _ (.seq _ (.seq _ (.seq _ (.seq _ (.seq (.seq _ (.block _ (.loop c))) _))))) => c | .seq _ (.seq _ (.seq _ (.seq _ (.seq _ (.seq _ (.seq (.block _ (.loop c)) _)))))) => c | _ => .skip
/-- the loops inside a code, the outer ones first -/
noncomputable def inl : Code → List Code
  | .seq a b => inl a ++ inl b
  | .block _ (.loop c) => c :: inl c
  | .block _ c => inl c
  | .cond _ a b => inl a ++ inl b
  | _ => []
noncomputable def inner5 : Code := (inl lin5).getD 0 .skip
set_option maxRecDepth 100000 in
set_option maxHeartbeats 8000000 in
theorem tick_loop {X : Cx} {ds : List DoV} {sl : Option Addr} {cap A N T U : Nat} {i p0 : Int} (hA : X.free A) (hN : N ≤ 16000) (hp0 : 0 ≤ p0 ∧ p0 ≤ 2305843009213693952) {K : List Item} : ∀ (m k : Nat), k + m = N → ∀ (w : World) (f : Nat → Int) (p : Int), RowKit.Hid (p = p0 + k) →
    ArrAt A N f w → (∀ j, k ≤ j → j < N → f j = p0 + 1 + j) →
    (∀ (w' : World) (q : Int) (y1 y10 y11 y12 y13 y14 y15 y16 y17 y18 y19 y20 y21 y22 y23 y24 y25 y26 y27 y28 y29 y30 y31 y32 y33 y34 y35 y36 y37 y38 y39 y40 y41 y42 y43 y44 y45 y46 y47 y48 y49 y50 y51 y52 y53 y54 y55 y56 y57 y58 y59 y60 y61 y62 y63 y64 y65 y66 y67 y68 y69 y70 y71 y72 y73 y74 y75 y76 y77 y78 y79 y80 y81 : Value), q = p0 + N → Go.Conc.Aside A w w' → Run Try.prog X (G ((base 5).at ⟨#[.slice sl ds.length cap, y1, .bool false, .pointer (some ⟨T, 0, none⟩), .pointer (some ⟨U, 0, none⟩), .int .i64 q, .int .i64 i, .slice (some ⟨A, 0, none⟩) N N, .int .i64 0, .int .i64 (N : Int), y10, y11, y12, y13, y14, y15, y16, y17, y18, y19, y20, y21, y22, y23, y24, y25, y26, y27, y28, y29, y30, y31, y32, y33, y34, y35, y36, y37, y38, y39, y40, y41, y42, y43, y44, y45, y46, y47, y48, y49, y50, y51, y52, y53, y54, y55, y56, y57, y58, y59, y60, y61, y62, y63, y64, y65, y66, y67, y68, y69, y70, y71, y72, y73, y74, y75, y76, y77, y78, y79, y80, y81], []⟩ K) []) w') → ∀ (y1 y10 y11 y12 y13 y14 y15 y16 y17 y18 y19 y20 y21 y22 y23 y24 y25 y26 y27 y28 y29 y30 y31 y32 y33 y34 y35 y36 y37 y38 y39 y40 y41 y42 y43 y44 y45 y46 y47 y48 y49 y50 y51 y52 y53 y54 y55 y56 y57 y58 y59 y60 y61 y62 y63 y64 y65 y66 y67 y68 y69 y70 y71 y72 y73 y74 y75 y76 y77 y78 y79 y80 y81 : Value),
    Run Try.prog X (G ((base 5).at ⟨#[.slice sl ds.length cap, y1, .bool false, .pointer (some ⟨T, 0, none⟩), .pointer (some ⟨U, 0, none⟩), .int .i64 p, .int .i64 i, .slice (some ⟨A, 0, none⟩) N N, .int .i64 0, .int .i64 (k : Int), y10, y11, y12, y13, y14, y15, y16, y17, y18, y19, y20, y21, y22, y23, y24, y25, y26, y27, y28, y29, y30, y31, y32, y33, y34, y35, y36, y37, y38, y39, y40, y41, y42, y43, y44, y45, y46, y47, y48, y49, y50, y51, y52, y53, y54, y55, y56, y57, y58, y59, y60, y61, y62, y63, y64, y65, y66, y67, y68, y69, y70, y71, y72, y73, y74, y75, y76, y77, y78, y79, y80, y81], []⟩ (.code inner5 :: .inLoop inner5 :: .inBlock 2 :: K)) []) w := by
  intro m
  induction m with
  | zero =>
    intro k hk w f p hp h hf hK y1 y10 y11 y12 y13 y14 y15 y16 y17 y18 y19 y20 y21 y22 y23 y24 y25 y26 y27 y28 y29 y30 y31 y32 y33 y34 y35 y36 y37 y38 y39 y40 y41 y42 y43 y44 y45 y46 y47 y48 y49 y50 y51 y52 y53 y54 y55 y56 y57 y58 y59 y60 y61 y62 y63 y64 y65 y66 y67 y68 y69 y70 y71 y72 y73 y74 y75 y76 y77 y78 y79 y80 y81
    obtain rfl : k = N := by omega
    replace hK := Lib.hid (fun y1 y10 y11 y12 y13 y14 y15 y16 y17 y18 y19 y20 y21 y22 y23 y24 y25 y26 y27 y28 y29 y30 y31 y32 y33 y34 y35 y36 y37 y38 y39 y40 y41 y42 y43 y44 y45 y46 y47 y48 y49 y50 y51 y52 y53 y54 y55 y56 y57 y58 y59 y60 y61 y62 y63 y64 y65 y66 y67 y68 y69 y70 y71 y72 y73 y74 y75 y76 y77 y78 y79 y80 y81 => hK w p y1 y10 y11 y12 y13 y14 y15 y16 y17 y18 y19 y20 y21 y22 y23 y24 y25 y26 y27 y28 y29 y30 y31 y32 y33 y34 y35 y36 y37 y38 y39 y40 y41 y42 y43 y44 y45 y46 y47 y48 y49 y50 y51 y52 y53 y54 y55 y56 y57 y58 y59 y60 y61 y62 y63 y64 y65 y66 y67 y68 y69 y70 y71 y72 y73 y74 y75 y76 y77 y78 y79 y80 y81 hp.out (Go.Conc.Aside.refl A w))
    clear hk h hf
    simp only [inner5, lin5, inl, Try.f5, Option.getD_some, List.nil_append, List.append_nil, List.cons_append, List.getD_cons_zero, List.getD_cons_succ]
    repeat first
      | refine Run.seq ?_
      | refine Run.skip ?_
      | refine Run.regionEnd ?_
      | refine Run.block ?_
      | refine Run.inBlock ?_
      | (refine Run.region ?_; simp only [List.size_toArray, List.length_cons, List.length_nil, Nat.reduceAdd, Nat.zero_add, List.range, List.range.loop])
      | (refine Run.cond rfl ?_; simp only [if_true, if_false, Bool.false_eq_true, ↓reduceIte])
      | (refine Run.unwanted rfl rfl ?_; walk_nrm)
      | (refine Run.op0 rfl rfl (by k_ne) (fun d K hK => by go_simp; exact hK) (fun d => by first | (simp [go_sem, *] <;> fail) | fail) ?_; try w_num)
      | refine Run.ret ?_
      | refine Run.fin ?_
      | refine Run.exit rfl ?_
    exact hK.out _ _ _ _ _ _ _ _ _ _ _ _ _ _ _ _ _ _ _ _ _ _ _ _ _ _ _ _ _ _ _ _ _ _ _ _ _ _ _ _ _ _ _ _ _ _ _ _ _ _ _ _ _ _ _ _ _ _ _ _ _ _ _ _ _ _ _ _ _ _ _ _ _
  | succ m ih =>
    intro k hk w f p hp h hf hK y1 y10 y11 y12 y13 y14 y15 y16 y17 y18 y19 y20 y21 y22 y23 y24 y25 y26 y27 y28 y29 y30 y31 y32 y33 y34 y35 y36 y37 y38 y39 y40 y41 y42 y43 y44 y45 y46 y47 y48 y49 y50 y51 y52 y53 y54 y55 y56 y57 y58 y59 y60 y61 y62 y63 y64 y65 y66 y67 y68 y69 y70 y71 y72 y73 y74 y75 y76 y77 y78 y79 y80 y81
    have hkN : k < N := by omega
    have hki : (k : Int) < (N : Int) := by omega
    have ek : IntKind.i64.wrap ((k : Int) + 1) = ((k + 1 : Nat) : Int) := by rw [IntKind.wrap_i64]; omega
    obtain ⟨q, hq⟩ : ∃ q, q = p + 1 := ⟨_, rfl⟩
    have ew : IntKind.i64.wrap (p + 1) = q := by
      have := hp.out
      rw [hq, IntKind.wrap_i64]
      omega
    have ck := h.cell hkN
    rw [hf k (Nat.le_refl _) hkN, show p0 + 1 + (k : Int) = q by have := hp.out; omega] at ck
    have tk := h.thaw k
    have h2 := h.set hkN (-7)
    have a2 := aside_setCell w ⟨A, k, none⟩ (.int .i64 (-7))
    have hf2 : ∀ j, k + 1 ≤ j → j < N → upd f k (-7) j = p0 + 1 + j := fun j h1 h2 => by rw [upd_ne _ _ (by omega)]; exact hf j (by omega) h2
    replace hq := Lib.hid (show q = p0 + ((k + 1 : Nat) : Int) by have := hp.out; omega)
    replace hK := Lib.hid hK
    replace ih := Lib.hid (ih (k + 1) (by omega) _ _ q hq h2 hf2 (fun w' q' y1 y10 y11 y12 y13 y14 y15 y16 y17 y18 y19 y20 y21 y22 y23 y24 y25 y26 y27 y28 y29 y30 y31 y32 y33 y34 y35 y36 y37 y38 y39 y40 y41 y42 y43 y44 y45 y46 y47 y48 y49 y50 y51 y52 y53 y54 y55 y56 y57 y58 y59 y60 y61 y62 y63 y64 y65 y66 y67 y68 y69 y70 y71 y72 y73 y74 y75 y76 y77 y78 y79 y80 y81 e ha => hK.out w' q' y1 y10 y11 y12 y13 y14 y15 y16 y17 y18 y19 y20 y21 y22 y23 y24 y25 y26 y27 y28 y29 y30 y31 y32 y33 y34 y35 y36 y37 y38 y39 y40 y41 y42 y43 y44 y45 y46 y47 y48 y49 y50 y51 y52 y53 y54 y55 y56 y57 y58 y59 y60 y61 y62 y63 y64 y65 y66 y67 y68 y69 y70 y71 y72 y73 y74 y75 y76 y77 y78 y79 y80 y81 e (aside_trans a2 ha)))
    clear h hf h2 hf2 a2 hp hq hk
    simp only [inner5, lin5, inl, Try.f5, Option.getD_some, List.nil_append, List.append_nil, List.cons_append, List.getD_cons_zero, List.getD_cons_succ] at ih ⊢
    repeat first
      | refine Run.seq ?_
      | refine Run.skip ?_
      | refine Run.regionEnd ?_
      | refine Run.block ?_
      | refine Run.inBlock ?_
      | (refine Run.region ?_; simp only [List.size_toArray, List.length_cons, List.length_nil, Nat.reduceAdd, Nat.zero_add, List.range, List.range.loop])
      | (refine Run.cond rfl ?_; simp only [if_true, if_false, Bool.false_eq_true, ↓reduceIte])
      | (refine Run.unwanted rfl rfl ?_; walk_nrm)
      | (refine Run.op0 rfl rfl (by k_ne) (fun d K hK => by go_simp; exact hK) (fun d => by first | (simp [go_sem, *] <;> fail) | fail) ?_; try w_num)
      | refine Run.ret ?_
      | refine Run.fin ?_
      | refine Run.exit rfl ?_
      | ((refine Run.op w rfl rfl (by k_ne) (fun d K hK => by go_simp; exact hK) (fun d e he => by simp [go_sem, *] at he; subst he; exact evL_free hA) ?_; try w_num))
      | ((refine Run.op (w.setCell ⟨A, k, none⟩ (.int .i64 (-7))) rfl rfl (by k_ne) (fun d K hK => by go_simp; exact hK) (fun d e he => by simp [go_sem, *] at he; subst he; exact evL_free hA) ?_; try w_num))
    first | rw [ek] | rw [show (k : Int) + 1 = ((k + 1 : Nat) : Int) by omega]
    refine Run.inLoop ?_
    exact ih.out _ _ _ _ _ _ _ _ _ _ _ _ _ _ _ _ _ _ _ _ _ _ _ _ _ _ _ _ _ _ _ _ _ _ _ _ _ _ _ _ _ _ _ _ _ _ _ _ _ _ _ _ _ _ _ _ _ _ _ _ _ _ _ _ _ _ _ _ _ _ _ _ _
/-- what the rounds keep -/
structure TkI (X0 : Cx) (w0 : World) (T : Nat) (X : Cx) (w : World) (x : Tl) (p : Int) (k : Nat) : Prop where
  next : X0.Next w0 X w
  off : Off T w0 w
  at_ : TlAt T x w
  tick : x.tick = p
  lo : 0 ≤ p
  hi : p ≤ k * 16001
set_option maxRecDepth 100000 in
set_option maxHeartbeats 8000000 in
theorem tk_loop {X0 : Cx} {w0 : World} {ds : List DoV} {sl : Option Addr} {cap T U : Nat} (hlen : ds.length ≤ 4611686018427387904) (hX0 : X0.ok w0) (hm0 : ∀ l : Loc, l.isMemory = false → X0.Sh l) (hT0 : X0.free T) (hTs : T < w0.heap.size) (hDs : DosAt sl ds w0) (hrd : X0.reads sl) (hna : ∀ ar off, sl = some ⟨ar, off, none⟩ → ar < T)
    {K : List Item} : ∀ (m k : Nat), k + m = min ds.length 100 → ∀ (X : Cx) (w : World) (x : Tl) (p : Int), TkI X0 w0 T X w x p k →
    (∀ (X' : Cx) (w' : World) (x' : Tl) (p' : Int) (k' : Nat) (y1 y7 y8 y9 y10 y11 y12 y13 y14 y15 y16 y17 y18 y19 y20 y21 y22 y23 y24 y25 y26 y27 y28 y29 y30 y31 y32 y33 y34 y35 y36 y37 y38 y39 y40 y41 y42 y43 y44 y45 y46 y47 y48 y49 y50 y51 y52 y53 y54 y55 y56 y57 y58 y59 y60 y61 y62 y63 y64 y65 y66 y67 y68 y69 y70 y71 y72 y73 y74 y75 y76 y77 y78 y79 y80 y81 : Value), TkI X0 w0 T X' w' x' p' k' → Run Try.prog X' (G ((base 5).at ⟨#[.slice sl ds.length cap, y1, .bool false, .pointer (some ⟨T, 0, none⟩), .pointer (some ⟨U, 0, none⟩), .int .i64 p', .int .i64 (k' : Int), y7, y8, y9, y10, y11, y12, y13, y14, y15, y16, y17, y18, y19, y20, y21, y22, y23, y24, y25, y26, y27, y28, y29, y30, y31, y32, y33, y34, y35, y36, y37, y38, y39, y40, y41, y42, y43, y44, y45, y46, y47, y48, y49, y50, y51, y52, y53, y54, y55, y56, y57, y58, y59, y60, y61, y62, y63, y64, y65, y66, y67, y68, y69, y70, y71, y72, y73, y74, y75, y76, y77, y78, y79, y80, y81], []⟩ K) []) w') → ∀ (y1 y7 y8 y9 y10 y11 y12 y13 y14 y15 y16 y17 y18 y19 y20 y21 y22 y23 y24 y25 y26 y27 y28 y29 y30 y31 y32 y33 y34 y35 y36 y37 y38 y39 y40 y41 y42 y43 y44 y45 y46 y47 y48 y49 y50 y51 y52 y53 y54 y55 y56 y57 y58 y59 y60 y61 y62 y63 y64 y65 y66 y67 y68 y69 y70 y71 y72 y73 y74 y75 y76 y77 y78 y79 y80 y81 : Value),
    Run Try.prog X (G ((base 5).at ⟨#[.slice sl ds.length cap, y1, .bool false, .pointer (some ⟨T, 0, none⟩), .pointer (some ⟨U, 0, none⟩), .int .i64 p, .int .i64 (k : Int), y7, y8, y9, y10, y11, y12, y13, y14, y15, y16, y17, y18, y19, y20, y21, y22, y23, y24, y25, y26, y27, y28, y29, y30, y31, y32, y33, y34, y35, y36, y37, y38, y39, y40, y41, y42, y43, y44, y45, y46, y47, y48, y49, y50, y51, y52, y53, y54, y55, y56, y57, y58, y59, y60, y61, y62, y63, y64, y65, y66, y67, y68, y69, y70, y71, y72, y73, y74, y75, y76, y77, y78, y79, y80, y81], []⟩ (.code lin5 :: .inLoop lin5 :: .inBlock 0 :: K)) []) w := by
  intro m
  induction m with
  | zero =>
    intro k hk X w x p I hK y1 y7 y8 y9 y10 y11 y12 y13 y14 y15 y16 y17 y18 y19 y20 y21 y22 y23 y24 y25 y26 y27 y28 y29 y30 y31 y32 y33 y34 y35 y36 y37 y38 y39 y40 y41 y42 y43 y44 y45 y46 y47 y48 y49 y50 y51 y52 y53 y54 y55 y56 y57 y58 y59 y60 y61 y62 y63 y64 y65 y66 y67 y68 y69 y70 y71 y72 y73 y74 y75 y76 y77 y78 y79 y80 y81
    replace hK := Lib.hid (fun y1 y7 y8 y9 y10 y11 y12 y13 y14 y15 y16 y17 y18 y19 y20 y21 y22 y23 y24 y25 y26 y27 y28 y29 y30 y31 y32 y33 y34 y35 y36 y37 y38 y39 y40 y41 y42 y43 y44 y45 y46 y47 y48 y49 y50 y51 y52 y53 y54 y55 y56 y57 y58 y59 y60 y61 y62 y63 y64 y65 y66 y67 y68 y69 y70 y71 y72 y73 y74 y75 y76 y77 y78 y79 y80 y81 => hK X w x p k y1 y7 y8 y9 y10 y11 y12 y13 y14 y15 y16 y17 y18 y19 y20 y21 y22 y23 y24 y25 y26 y27 y28 y29 y30 y31 y32 y33 y34 y35 y36 y37 y38 y39 y40 y41 y42 y43 y44 y45 y46 y47 y48 y49 y50 y51 y52 y53 y54 y55 y56 y57 y58 y59 y60 y61 y62 y63 y64 y65 y66 y67 y68 y69 y70 y71 y72 y73 y74 y75 y76 y77 y78 y79 y80 y81 I)
    clear I hDs
    simp only [lin5, Try.f5, Option.getD_some]
    by_cases hlt : k < ds.length
    · have d1 : decide ((k : Int) < (ds.length : Int)) = true := decide_eq_true (by omega)
      have d1' : decide (k < ds.length) = true := decide_eq_true hlt
      have d2 : decide ((k : Int) < 100) = false := decide_eq_false (by omega)
      clear hlt hk
      repeat first
        | refine Run.seq ?_
        | refine Run.skip ?_
        | refine Run.regionEnd ?_
        | refine Run.block ?_
        | refine Run.inBlock ?_
        | (refine Run.region ?_; simp only [List.size_toArray, List.length_cons, List.length_nil, Nat.reduceAdd, Nat.zero_add, List.range, List.range.loop])
        | (refine Run.cond rfl ?_; simp only [if_true, if_false, Bool.false_eq_true, ↓reduceIte])
        | (refine Run.unwanted rfl rfl ?_; walk_nrm)
        | (refine Run.op0 rfl rfl (by k_ne) (fun d K hK => by go_simp; exact hK) (fun d => by first | (simp [go_sem, *] <;> fail) | fail) ?_; try w_num)
        | refine Run.ret ?_
        | refine Run.fin ?_
        | refine Run.exit rfl ?_
      exact hK.out _ _ _ _ _ _ _ _ _ _ _ _ _ _ _ _ _ _ _ _ _ _ _ _ _ _ _ _ _ _ _ _ _ _ _ _ _ _ _ _ _ _ _ _ _ _ _ _ _ _ _ _ _ _ _ _ _ _ _ _ _ _ _ _ _ _ _ _ _ _ _ _ _ _ _ _
    · have d1 : decide ((k : Int) < (ds.length : Int)) = false := decide_eq_false (by omega)
      have d1' : decide (k < ds.length) = false := decide_eq_false hlt
      clear hlt hk
      repeat first
        | refine Run.seq ?_
        | refine Run.skip ?_
        | refine Run.regionEnd ?_
        | refine Run.block ?_
        | refine Run.inBlock ?_
        | (refine Run.region ?_; simp only [List.size_toArray, List.length_cons, List.length_nil, Nat.reduceAdd, Nat.zero_add, List.range, List.range.loop])
        | (refine Run.cond rfl ?_; simp only [if_true, if_false, Bool.false_eq_true, ↓reduceIte])
        | (refine Run.unwanted rfl rfl ?_; walk_nrm)
        | (refine Run.op0 rfl rfl (by k_ne) (fun d K hK => by go_simp; exact hK) (fun d => by first | (simp [go_sem, *] <;> fail) | fail) ?_; try w_num)
        | refine Run.ret ?_
        | refine Run.fin ?_
        | refine Run.exit rfl ?_
      exact hK.out _ _ _ _ _ _ _ _ _ _ _ _ _ _ _ _ _ _ _ _ _ _ _ _ _ _ _ _ _ _ _ _ _ _ _ _ _ _ _ _ _ _ _ _ _ _ _ _ _ _ _ _ _ _ _ _ _ _ _ _ _ _ _ _ _ _ _ _ _ _ _ _ _ _ _ _
  | succ m ih =>
    intro k hk X w x p I hK y1 y7 y8 y9 y10 y11 y12 y13 y14 y15 y16 y17 y18 y19 y20 y21 y22 y23 y24 y25 y26 y27 y28 y29 y30 y31 y32 y33 y34 y35 y36 y37 y38 y39 y40 y41 y42 y43 y44 y45 y46 y47 y48 y49 y50 y51 y52 y53 y54 y55 y56 y57 y58 y59 y60 y61 y62 y63 y64 y65 y66 y67 y68 y69 y70 y71 y72 y73 y74 y75 y76 y77 y78 y79 y80 y81
    have hkN : k < ds.length := by omega
    have hk100 : k < 100 := by omega
    have d1 : decide ((k : Int) < (ds.length : Int)) = true := decide_eq_true (by omega)
    have d1' : decide (k < ds.length) = true := decide_eq_true hkN
    have d2 : decide ((k : Int) < 100) = true := decide_eq_true (by omega)
    have hki : (k : Int) < (ds.length : Int) := by omega
    have ew : IntKind.i64.wrap ((k : Int) + 1) = ((k + 1 : Nat) : Int) := by rw [IntKind.wrap_i64]; omega
    have hX := I.next.ok hX0
    have hT := I.next.free hX0 hT0
    have hm : ∀ l : Loc, l.isMemory = false → X.Sh l := fun l hl => I.next.sub l (hm0 l hl)
    have hD1 : DosAt sl ds w := hDs.keep I.off.size (fun ar off e h => I.off.block ar h (by have := hna ar off e; omega))
    have hsz := I.off.size
    obtain ⟨ar, off, rfl, har, hcs⟩ := hD1 (by intro e; subst e; simp at hkN)
    obtain ⟨-, -, -, -, c4, c5⟩ := hcs k hkN
    have hAr : X.free ar := I.next.free hX0 (hrd ar off rfl)
    have hnaT : ar ≠ T := by have := hna ar off rfl; omega
    generalize (ds[k]).workers = n at c4
    generalize (ds[k]).each = e at c5
    have htlo := I.lo
    have hthi := I.hi
    have htick := I.tick
    have hDr := draw_con (n := n) (e := e) hX hm hT I.at_ (by omega) (by omega) (fun hd A => by
      obtain ⟨h1, h2, h3, h4⟩ := hd
      have : n.toNat * e.toNat ≤ 16 * 1000 := Nat.mul_le_mul (by omega) (by omega)
      exact Brd.sorts_any A _ (by omega))
    have hih : ∀ (X' : Cx) (w' : World) (x' : Tl) (p' : Int), TkI X0 w0 T X' w' x' p' (k + 1) → ∀ (y1 y7 y8 y9 y10 y11 y12 y13 y14 y15 y16 y17 y18 y19 y20 y21 y22 y23 y24 y25 y26 y27 y28 y29 y30 y31 y32 y33 y34 y35 y36 y37 y38 y39 y40 y41 y42 y43 y44 y45 y46 y47 y48 y49 y50 y51 y52 y53 y54 y55 y56 y57 y58 y59 y60 y61 y62 y63 y64 y65 y66 y67 y68 y69 y70 y71 y72 y73 y74 y75 y76 y77 y78 y79 y80 y81 : Value), Run Try.prog X' (G ((base 5).at ⟨#[.slice (some ⟨ar, off, none⟩) ds.length cap, y1, .bool false, .pointer (some ⟨T, 0, none⟩), .pointer (some ⟨U, 0, none⟩), .int .i64 p', .int .i64 ((k + 1 : Nat) : Int), y7, y8, y9, y10, y11, y12, y13, y14, y15, y16, y17, y18, y19, y20, y21, y22, y23, y24, y25, y26, y27, y28, y29, y30, y31, y32, y33, y34, y35, y36, y37, y38, y39, y40, y41, y42, y43, y44, y45, y46, y47, y48, y49, y50, y51, y52, y53, y54, y55, y56, y57, y58, y59, y60, y61, y62, y63, y64, y65, y66, y67, y68, y69, y70, y71, y72, y73, y74, y75, y76, y77, y78, y79, y80, y81], []⟩ (.code lin5 :: .inLoop lin5 :: .inBlock 0 :: K)) []) w' := fun X' w' x' p' J => ih (k + 1) (by omega) X' w' x' p' J hK
    replace hDr := Lib.hid hDr
    clear ih hK hDs hD1 hcs hrd hna
    simp only [lin5, Try.f5, Option.getD_some] at hih ⊢
    replace hih := Lib.hid hih
    repeat first
      | refine Run.seq ?_
      | refine Run.skip ?_
      | refine Run.regionEnd ?_
      | refine Run.block ?_
      | refine Run.inBlock ?_
      | (refine Run.region ?_; simp only [List.size_toArray, List.length_cons, List.length_nil, Nat.reduceAdd, Nat.zero_add, List.range, List.range.loop])
      | (refine Run.cond rfl ?_; simp only [if_true, if_false, Bool.false_eq_true, ↓reduceIte])
      | (refine Run.unwanted rfl rfl ?_; walk_nrm)
      | (refine Run.op0 rfl rfl (by k_ne) (fun d K hK => by go_simp; exact hK) (fun d => by first | (simp [go_sem, *] <;> fail) | fail) ?_; try w_num)
      | refine Run.ret ?_
      | refine Run.fin ?_
      | refine Run.exit rfl ?_
    refine Run.drawX (by k_ne) rfl (fun a' X' w' => ∃ (A' : Option Addr) (L c : Nat) (er : Int) (x' : Tl), (X.Next w X' w' ∧ Off T w w' ∧ TlAt T x' w' ∧
        ((er = 0 ∧ ∃ A, A' = some ⟨A, 0, none⟩ ∧ c = L ∧ L ≤ 16000 ∧ w.heap.size ≤ A ∧ X'.free A ∧ x'.tick = p + L ∧ ArrAt A L (fun a => p + 1 + a) w') ∨ (er = 1 ∧ A' = none ∧ L = 0 ∧ c = 0 ∧ x'.tick = p))) ∧
        ∃ (y1 y9 y10 y11 y12 y13 y14 y15 y16 y17 y18 y19 y20 y21 y22 y23 y24 y25 y26 y27 y28 y29 y30 y31 y32 y33 y34 y35 y36 y37 y38 y39 y40 y41 y42 y43 y44 y45 y46 y47 y48 y49 y50 y51 y52 y53 y54 y55 y56 y57 y58 y59 y60 y61 y62 y63 y64 y65 y66 y67 y68 y69 y70 y71 y72 y73 y74 y75 y76 y77 y78 y79 y80 y81 : Value), a' = ⟨#[.slice (some ⟨ar, off, none⟩) ds.length cap, y1, .bool false, .pointer (some ⟨T, 0, none⟩), .pointer (some ⟨U, 0, none⟩), .int .i64 p, .int .i64 (k : Int), .slice A' L c, .int .i64 er, y9, y10, y11, y12, y13, y14, y15, y16, y17, y18, y19, y20, y21, y22, y23, y24, y25, y26, y27, y28, y29, y30, y31, y32, y33, y34, y35, y36, y37, y38, y39, y40, y41, y42, y43, y44, y45, y46, y47, y48, y49, y50, y51, y52, y53, y54, y55, y56, y57, y58, y59, y60, y61, y62, y63, y64, y65, y66, y67, y68, y69, y70, y71, y72, y73, y74, y75, y76, y77, y78, y79, y80, y81], []⟩)
      (fun X' w' => X'.free ar ∧ w'.cell? ⟨ar, off + k * 6 + 4, none⟩ = some (.int .i64 n) ∧ w'.cell? ⟨ar, off + k * 6 + 5, none⟩ = some (.int .i64 e)) ?_ (fun a' X' w' hq => ?_)
    · simp only [List.size_toArray, List.length_cons, List.length_nil, Nat.reduceAdd, Nat.zero_add]
      refine anyX_take (i' := 0) rfl (by kernel_rfl) (by kernel_rfl) (by kernel_rfl) (by kernel_rfl) (fun X' w' hS => by
        obtain ⟨hf, k4, k5⟩ := hS
        exact .inl ⟨rfl, fun d => ⟨by go_simp; rfl, fun e he => by simp [go_sem, *] at he⟩⟩) ?_
      walk_nrm
      refine anyX_take (i' := 1) rfl (by kernel_rfl) (by kernel_rfl) (by kernel_rfl) (by kernel_rfl) (fun X' w' hS => by
        obtain ⟨hf, k4, k5⟩ := hS
        exact .inl ⟨rfl, fun d => ⟨by go_simp; rfl, fun e he => by simp [go_sem, *] at he⟩⟩) ?_
      walk_nrm
      refine anyX_take (i' := 2) rfl (by kernel_rfl) (by kernel_rfl) (by kernel_rfl) (by kernel_rfl) (fun X' w' hS => by
        obtain ⟨hf, k4, k5⟩ := hS
        exact .inl ⟨rfl, fun d => ⟨by go_simp; rfl, fun e he => by simp [go_sem, *] at he⟩⟩) ?_
      walk_nrm
      refine anyX_take (i' := 3) rfl (by kernel_rfl) (by kernel_rfl) (by kernel_rfl) (by kernel_rfl) (fun X' w' hS => by
        obtain ⟨hf, k4, k5⟩ := hS
        exact .inl ⟨rfl, fun d => ⟨by go_simp; rfl, fun e he => by simp [go_sem, *] at he⟩⟩) ?_
      walk_nrm
      refine anyX_take (i' := 4) rfl (by kernel_rfl) (by kernel_rfl) (by kernel_rfl) (by kernel_rfl) (fun X' w' hS => by
        obtain ⟨hf, k4, k5⟩ := hS
        exact .inl ⟨rfl, fun d => ⟨by go_simp; rfl, fun e he => by simp [go_sem, *] at he⟩⟩) ?_
      walk_nrm
      refine anyX_take (i' := 5) rfl (by kernel_rfl) (by kernel_rfl) (by kernel_rfl) (by kernel_rfl) (fun X' w' hS => by
        obtain ⟨hf, k4, k5⟩ := hS
        exact .inl ⟨rfl, fun d => ⟨by go_simp; rfl, fun e he => by simp [go_sem, *] at he; subst he; exact evL_free hf⟩⟩) ?_
      walk_nrm
      refine anyX_take (i' := 6) rfl (by kernel_rfl) (by kernel_rfl) (by kernel_rfl) (by kernel_rfl) (fun X' w' hS => by
        obtain ⟨hf, k4, k5⟩ := hS
        exact .inl ⟨rfl, fun d => ⟨by go_simp; rfl, fun e he => by simp [go_sem, *] at he⟩⟩) ?_
      walk_nrm
      refine anyX_take (i' := 7) rfl (by kernel_rfl) (by kernel_rfl) (by kernel_rfl) (by kernel_rfl) (fun X' w' hS => by
        obtain ⟨hf, k4, k5⟩ := hS
        exact .inl ⟨rfl, fun d => ⟨by go_simp; rfl, fun e he => by simp [go_sem, *] at he⟩⟩) ?_
      walk_nrm
      refine anyX_take (i' := 8) rfl (by kernel_rfl) (by kernel_rfl) (by kernel_rfl) (by kernel_rfl) (fun X' w' hS => by
        obtain ⟨hf, k4, k5⟩ := hS
        exact .inl ⟨rfl, fun d => ⟨by go_simp; rfl, fun e he => by simp [go_sem, *] at he⟩⟩) ?_
      walk_nrm
      refine anyX_take (i' := 9) rfl (by kernel_rfl) (by kernel_rfl) (by kernel_rfl) (by kernel_rfl) (fun X' w' hS => by
        obtain ⟨hf, k4, k5⟩ := hS
        exact .inl ⟨rfl, fun d => ⟨by go_simp; rfl, fun e he => by simp [go_sem, *] at he⟩⟩) ?_
      walk_nrm
      refine anyX_take (i' := 10) rfl (by kernel_rfl) (by kernel_rfl) (by kernel_rfl) (by kernel_rfl) (fun X' w' hS => by
        obtain ⟨hf, k4, k5⟩ := hS
        exact .inl ⟨rfl, fun d => ⟨by go_simp; rfl, fun e he => by simp [go_sem, *] at he; subst he; exact evL_free hf⟩⟩) ?_
      walk_nrm
      refine anyX_call (j := 11) hDr.out rfl (by kernel_rfl) (by kernel_rfl) ⟨hAr, c4, c5⟩ rfl rfl (by first | (simp only [List.map_toArray, List.map_cons, List.map_nil]; done) | (simp only [List.map_toArray, List.map_cons, List.map_nil]; rfl)) (fun X' v w' hr => ?_)
      obtain ⟨n1, o1, hc⟩ := hr
      obtain ⟨A', L, c, er, x', rfl, ht', hcase⟩ : ∃ (A' : Option Addr) (L c : Nat) (er : Int) (x' : Tl), v = .tuple #[.slice A' L c, .int .i64 er] ∧ TlAt T x' w' ∧
          ((er = 0 ∧ ∃ A, A' = some ⟨A, 0, none⟩ ∧ c = L ∧ L ≤ 16000 ∧ w.heap.size ≤ A ∧ X'.free A ∧ x'.tick = p + L ∧ ArrAt A L (fun a => p + 1 + a) w') ∨ (er = 1 ∧ A' = none ∧ L = 0 ∧ c = 0 ∧ x'.tick = p)) := by
        rcases hc with ⟨hok, A, h1, h2, h3, h4, h5, h6⟩ | ⟨hno, h1, h2⟩
        · refine ⟨_, _, _, _, _, h4, h5, .inl ⟨rfl, A, rfl, rfl, ?_, h1, h3, ?_, ?_⟩⟩
          · obtain ⟨g1, g2, g3, g4⟩ := hok
            exact Nat.mul_le_mul (show n.toNat ≤ 16 by omega) (show e.toNat ≤ 1000 by omega)
          · show x.tick + _ = _
            rw [htick]
          · rw [htick] at h6; exact h6
        · exact ⟨_, _, _, _, _, h1, h2, .inr ⟨rfl, rfl, rfl, rfl, htick⟩⟩
      have hf' : X'.free ar := n1.free hX hAr
      have c4' := (cell_heap (o1.block ar har hnaT)).trans c4
      have c5' := (cell_heap (o1.block ar har hnaT)).trans c5
      replace hcase := Lib.hid hcase
      replace hc := Lib.hid hc
      walk_nrm
      refine anyX_take (i' := 12) rfl (by kernel_rfl) (by kernel_rfl) (by kernel_rfl) (by kernel_rfl) (fun X' w' hS => by
        obtain ⟨hf, k4, k5⟩ := hS
        exact .inl ⟨rfl, fun d => ⟨by go_simp; rfl, fun e he => by simp [go_sem, *] at he⟩⟩) ?_
      walk_nrm
      refine anyX_take (i' := 13) rfl (by kernel_rfl) (by kernel_rfl) (by kernel_rfl) (by kernel_rfl) (fun X' w' hS => by
        obtain ⟨hf, k4, k5⟩ := hS
        exact .inl ⟨rfl, fun d => ⟨by go_simp; rfl, fun e he => by simp [go_sem, *] at he⟩⟩) ?_
      walk_nrm
      refine anyX_take (i' := 14) rfl (by kernel_rfl) (by kernel_rfl) (by kernel_rfl) (by kernel_rfl) (fun X' w' hS => by
        obtain ⟨hf, k4, k5⟩ := hS
        exact .inl ⟨rfl, fun d => ⟨by go_simp; rfl, fun e he => by simp [go_sem, *] at he⟩⟩) ?_
      walk_nrm
      refine anyX_take (i' := 15) rfl (by kernel_rfl) (by kernel_rfl) (by kernel_rfl) (by kernel_rfl) (fun X' w' hS => by
        obtain ⟨hf, k4, k5⟩ := hS
        exact .inl ⟨rfl, fun d => ⟨by go_simp; rfl, fun e he => by simp [go_sem, *] at he⟩⟩) ?_
      walk_nrm
      refine anyX_take (i' := 16) rfl (by kernel_rfl) (by kernel_rfl) (by kernel_rfl) (by kernel_rfl) (fun X' w' hS => by
        obtain ⟨hf, k4, k5⟩ := hS
        exact .inl ⟨rfl, fun d => ⟨by go_simp; rfl, fun e he => by simp [go_sem, *] at he⟩⟩) ?_
      walk_nrm
      exact anyX_done (by kernel_rfl) ⟨hf', c4', c5'⟩ ⟨A', L, c, er, x', ⟨n1, o1, ht', hcase.out⟩, _, _, _, _, _, _, _, _, _, _, _, _, _, _, _, _, _, _, _, _, _, _, _, _, _, _, _, _, _, _, _, _, _, _, _, _, _, _, _, _, _, _, _, _, _, _, _, _, _, _, _, _, _, _, _, _, _, _, _, _, _, _, _, _, _, _, _, _, _, _, _, _, _, _, rfl⟩
    · obtain ⟨A', L, c, er, x', ⟨n1, o1, ht', hcase⟩, z1, z9, z10, z11, z12, z13, z14, z15, z16, z17, z18, z19, z20, z21, z22, z23, z24, z25, z26, z27, z28, z29, z30, z31, z32, z33, z34, z35, z36, z37, z38, z39, z40, z41, z42, z43, z44, z45, z46, z47, z48, z49, z50, z51, z52, z53, z54, z55, z56, z57, z58, z59, z60, z61, z62, z63, z64, z65, z66, z67, z68, z69, z70, z71, z72, z73, z74, z75, z76, z77, z78, z79, z80, z81, rfl⟩ := hq
      have hX' := n1.ok hX
      have hT' := n1.free hX hT
      rcases hcase with ⟨rfl, A, rfl, rfl, hL, hAn, hA, htk', hArr⟩ | ⟨rfl, rfl, rfl, rfl, htk'⟩
      · have hLp := Lib.hid (fun (K : List Item) => tick_loop (ds := ds) (sl := some ⟨ar, off, none⟩) (cap := cap) (T := T) (U := U) (i := k) (p0 := p) (K := K) hA hL ⟨htlo, by omega⟩ c 0 (by omega) w' _ p (Lib.hid (by simp)) hArr (fun j _ _ => rfl))
        have hne : A ≠ T := by omega
        obtain ⟨r, hr⟩ : ∃ r, r = p + c + 1 := ⟨_, rfl⟩
        have htk : w64 (x'.tick + 1) = r := by rw [htk', hr]; unfold w64; omega
        replace hih := Lib.hid (fun (w1 : World) (ha1 : Go.Conc.Aside A w' w1) (w3 : World) (ht3 : TlAt T { x' with tick := w64 (x'.tick + 1) } w3) (a3 : Go.Conc.Aside T w1 w3) => hih.out X' w3 _ r ⟨(I.next.trans n1).of_same (by rw [a3.size, ha1.size]),
          ⟨a3.tape.trans (ha1.tape.trans (o1.tape.trans I.off.tape)), a3.os.trans (ha1.os.trans (o1.os.trans I.off.os)), a3.output.trans (ha1.output.trans (o1.output.trans I.off.output)), by rw [a3.size, ha1.size]; exact Nat.le_trans I.off.size o1.size, fun b hb hbT => by
            rw [a3.block b hbT, ha1.block b (by omega), o1.block b (by omega) hbT, I.off.block b hb hbT]⟩, ht3, htk, by omega, by omega⟩)
        replace hr := Lib.hid hr
        replace ht' := Lib.hid ht'
        replace hLp := hLp.out
        simp only [inner5, lin5, inl, Try.f5, Option.getD_some, List.nil_append, List.append_nil, List.cons_append, List.getD_cons_zero, List.getD_cons_succ] at hLp
        replace hLp := Lib.hid hLp
        clear hArr hAn n1 o1 hX hX' hm hX0 hm0 I
        repeat first
          | refine Run.seq ?_
          | refine Run.skip ?_
          | refine Run.regionEnd ?_
          | refine Run.block ?_
          | refine Run.inBlock ?_
          | (refine Run.region ?_; simp only [List.size_toArray, List.length_cons, List.length_nil, Nat.reduceAdd, Nat.zero_add, List.range, List.range.loop])
          | (refine Run.cond rfl ?_; simp only [if_true, if_false, Bool.false_eq_true, ↓reduceIte])
          | (refine Run.unwanted rfl rfl ?_; walk_nrm)
          | (refine Run.op0 rfl rfl (by k_ne) (fun d K hK => by go_simp; exact hK) (fun d => by first | (simp [go_sem, *] <;> fail) | fail) ?_; try w_num)
          | refine Run.ret ?_
          | refine Run.fin ?_
          | refine Run.exit rfl ?_
        refine Run.loop ?_
        refine hLp.out _ ?_ _ _ _ _ _ _ _ _ _ _ _ _ _ _ _ _ _ _ _ _ _ _ _ _ _ _ _ _ _ _ _ _ _ _ _ _ _ _ _ _ _ _ _ _ _ _ _ _ _ _ _ _ _ _ _ _ _ _ _ _ _ _ _ _ _ _ _ _ _ _ _ _ _
        clear hLp
        intro w1 q y1 y10 y11 y12 y13 y14 y15 y16 y17 y18 y19 y20 y21 y22 y23 y24 y25 y26 y27 y28 y29 y30 y31 y32 y33 y34 y35 y36 y37 y38 y39 y40 y41 y42 y43 y44 y45 y46 y47 y48 y49 y50 y51 y52 y53 y54 y55 y56 y57 y58 y59 y60 y61 y62 y63 y64 y65 y66 y67 y68 y69 y70 y71 y72 y73 y74 y75 y76 y77 y78 y79 y80 y81 hq ha1
        have ht1 : TlAt T x' w1 := by
          have := ht'.out
          unfold TlAt TalAt at this ⊢
          rw [ha1.block T (Ne.symm hne)]
          exact this
        have hTk := Lib.hid (ticket_con (X := X') hT'.1 ht1)
        have er1 : IntKind.i64.wrap (q + 1) = r := by
          have := hr.out
          rw [IntKind.wrap_i64]
          omega
        replace hih := Lib.hid (hih.out w1 ha1)
        clear ht1 ha1 hq
        repeat first
          | refine Run.seq ?_
          | refine Run.skip ?_
          | refine Run.regionEnd ?_
          | refine Run.block ?_
          | refine Run.inBlock ?_
          | (refine Run.region ?_; simp only [List.size_toArray, List.length_cons, List.length_nil, Nat.reduceAdd, Nat.zero_add, List.range, List.range.loop])
          | (refine Run.cond rfl ?_; simp only [if_true, if_false, Bool.false_eq_true, ↓reduceIte])
          | (refine Run.unwanted rfl rfl ?_; walk_nrm)
          | (refine Run.op0 rfl rfl (by k_ne) (fun d K hK => by go_simp; exact hK) (fun d => by first | (simp [go_sem, *] <;> fail) | fail) ?_; try w_num)
          | refine Run.ret ?_
          | refine Run.fin ?_
          | refine Run.exit rfl ?_
        refine Run.con hTk.out rfl rfl (by k_ne) rfl (by first | (simp only [List.map_toArray, List.map_cons, List.map_nil]; done) | (simp only [List.map_toArray, List.map_cons, List.map_nil]; rfl)) (fun X3 v w3 hr => ?_)
        obtain ⟨rfl, rfl, ht3, a3⟩ := hr
        replace hih := Lib.hid (hih.out w3 ht3 a3)
        clear ht3 a3
        first | rw [htk] | skip
        walk_nrm
        repeat first
          | refine Run.seq ?_
          | refine Run.skip ?_
          | refine Run.regionEnd ?_
          | refine Run.block ?_
          | refine Run.inBlock ?_
          | (refine Run.region ?_; simp only [List.size_toArray, List.length_cons, List.length_nil, Nat.reduceAdd, Nat.zero_add, List.range, List.range.loop])
          | (refine Run.cond rfl ?_; simp only [if_true, if_false, Bool.false_eq_true, ↓reduceIte])
          | (refine Run.unwanted rfl rfl ?_; walk_nrm)
          | (refine Run.op0 rfl rfl (by k_ne) (fun d K hK => by go_simp; exact hK) (fun d => by first | (simp [go_sem, *] <;> fail) | fail) ?_; try w_num)
          | refine Run.ret ?_
          | refine Run.fin ?_
          | refine Run.exit rfl ?_
        first | rw [ew] | rw [show (k : Int) + 1 = ((k + 1 : Nat) : Int) by omega]
        refine Run.inLoop ?_
        exact hih.out _ _ _ _ _ _ _ _ _ _ _ _ _ _ _ _ _ _ _ _ _ _ _ _ _ _ _ _ _ _ _ _ _ _ _ _ _ _ _ _ _ _ _ _ _ _ _ _ _ _ _ _ _ _ _ _ _ _ _ _ _ _ _ _ _ _ _ _ _ _ _ _ _ _ _ _
      · obtain ⟨r, hr⟩ : ∃ r, r = p + 1 := ⟨_, rfl⟩
        have htk : w64 (x'.tick + 1) = r := by rw [htk', hr]; unfold w64; omega
        have hTk := Lib.hid (ticket_con (X := X') hT'.1 ht')
        have er1 : IntKind.i64.wrap (p + 1) = r := by
          rw [IntKind.wrap_i64, hr]
          omega
        replace hih := Lib.hid (fun (w3 : World) (ht3 : TlAt T { x' with tick := w64 (x'.tick + 1) } w3) (a3 : Go.Conc.Aside T w' w3) => hih.out X' w3 _ r ⟨(I.next.trans n1).of_same a3.size,
          ⟨a3.tape.trans (o1.tape.trans I.off.tape), a3.os.trans (o1.os.trans I.off.os), a3.output.trans (o1.output.trans I.off.output), by rw [a3.size]; exact Nat.le_trans I.off.size o1.size, fun b hb hbT => by
            rw [a3.block b hbT, o1.block b (by omega) hbT, I.off.block b hb hbT]⟩, ht3, htk, by omega, by omega⟩)
        replace hr := Lib.hid hr
        clear n1 o1 hX hX' hm hX0 hm0 I ht'
        repeat first
          | refine Run.seq ?_
          | refine Run.skip ?_
          | refine Run.regionEnd ?_
          | refine Run.block ?_
          | refine Run.inBlock ?_
          | (refine Run.region ?_; simp only [List.size_toArray, List.length_cons, List.length_nil, Nat.reduceAdd, Nat.zero_add, List.range, List.range.loop])
          | (refine Run.cond rfl ?_; simp only [if_true, if_false, Bool.false_eq_true, ↓reduceIte])
          | (refine Run.unwanted rfl rfl ?_; walk_nrm)
          | (refine Run.op0 rfl rfl (by k_ne) (fun d K hK => by go_simp; exact hK) (fun d => by first | (simp [go_sem, *] <;> fail) | fail) ?_; try w_num)
          | refine Run.ret ?_
          | refine Run.fin ?_
          | refine Run.exit rfl ?_
        refine Run.loop ?_
        repeat first
          | refine Run.seq ?_
          | refine Run.skip ?_
          | refine Run.regionEnd ?_
          | refine Run.block ?_
          | refine Run.inBlock ?_
          | (refine Run.region ?_; simp only [List.size_toArray, List.length_cons, List.length_nil, Nat.reduceAdd, Nat.zero_add, List.range, List.range.loop])
          | (refine Run.cond rfl ?_; simp only [if_true, if_false, Bool.false_eq_true, ↓reduceIte])
          | (refine Run.unwanted rfl rfl ?_; walk_nrm)
          | (refine Run.op0 rfl rfl (by k_ne) (fun d K hK => by go_simp; exact hK) (fun d => by first | (simp [go_sem, *] <;> fail) | fail) ?_; try w_num)
          | refine Run.ret ?_
          | refine Run.fin ?_
          | refine Run.exit rfl ?_
        refine Run.con hTk.out rfl rfl (by k_ne) rfl (by first | (simp only [List.map_toArray, List.map_cons, List.map_nil]; done) | (simp only [List.map_toArray, List.map_cons, List.map_nil]; rfl)) (fun X3 v w3 hr => ?_)
        obtain ⟨rfl, rfl, ht3, a3⟩ := hr
        replace hih := Lib.hid (hih.out w3 ht3 a3)
        clear ht3 a3
        first | rw [htk] | skip
        walk_nrm
        repeat first
          | refine Run.seq ?_
          | refine Run.skip ?_
          | refine Run.regionEnd ?_
          | refine Run.block ?_
          | refine Run.inBlock ?_
          | (refine Run.region ?_; simp only [List.size_toArray, List.length_cons, List.length_nil, Nat.reduceAdd, Nat.zero_add, List.range, List.range.loop])
          | (refine Run.cond rfl ?_; simp only [if_true, if_false, Bool.false_eq_true, ↓reduceIte])
          | (refine Run.unwanted rfl rfl ?_; walk_nrm)
          | (refine Run.op0 rfl rfl (by k_ne) (fun d K hK => by go_simp; exact hK) (fun d => by first | (simp [go_sem, *] <;> fail) | fail) ?_; try w_num)
          | refine Run.ret ?_
          | refine Run.fin ?_
          | refine Run.exit rfl ?_
        first | rw [ew] | rw [show (k : Int) + 1 = ((k + 1 : Nat) : Int) by omega]
        refine Run.inLoop ?_
        exact hih.out _ _ _ _ _ _ _ _ _ _ _ _ _ _ _ _ _ _ _ _ _ _ _ _ _ _ _ _ _ _ _ _ _ _ _ _ _ _ _ _ _ _ _ _ _ _ _ _ _ _ _ _ _ _ _ _ _ _ _ _ _ _ _ _ _ _ _ _ _ _ _ _ _ _ _ _
end Go.Proofs.Ytboiolnnhmlieaa.Gang
