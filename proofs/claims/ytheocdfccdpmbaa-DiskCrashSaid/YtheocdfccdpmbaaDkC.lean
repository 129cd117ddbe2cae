/-
  Plain: what is synced of a file; what a crash leaves lies between that and all.
  Conditions: stated lemma by lemma.
-/
import Derived.Test.YtheocdfccdpmbaaDkB
namespace Go.Proofs.Ytheocdfccdpmbaa
open Go.RowKit Go.Maps
set_option linter.unusedVariables false
set_option linter.unusedSimpArgs false
namespace Dk
theorem gone_syn (n : ByteArray) : ∀ (m : Nat) (L : List Wri), content n (mu (gone 0) m L) = content n (L.filter fun x => x.syn)
  | _, [] => rfl
  | m, x :: L => by
    by_cases hs : x.syn = true
    · rw [mu_syn hs, List.filter_cons_of_pos (by simpa using hs), content_cons, content_cons, gone_syn n m L]
    · rw [mu_wait hs, List.filter_cons_of_neg (by simpa using hs), content_cons, gone_syn n (m + 1) L]
      show (if x.name = n then gone 0 m x.b else []) ++ _ = _
      unfold gone
      rw [if_pos (Nat.zero_le _)]
      simp
end Dk
namespace DkG
/-- what is synced of a file -/
def syn (S : DkG) (n : ByteArray) : List UInt8 := Dk.content n (S.L.filter fun x => x.syn)
theorem crash_le (S : DkG) (k t : Int) (n : ByteArray) : (S.crash k t).read n <+: S.read n := by
  show Dk.content n (Dk.crash _ _ S.L) <+: Dk.content n S.L
  rw [Dk.crash_content]
  have h := Dk.mu_prefix (c := Dk.left k.toNat t.toNat) (d := fun _ b => b) (k := k.toNat) (fun j hj b => by unfold Dk.left; rw [if_neg (by omega), if_neg (by omega)]) (fun b => by unfold Dk.left; rw [if_neg (by omega), if_pos rfl]; exact List.take_prefix _ _) (fun j hj b => by unfold Dk.left; rw [if_pos hj]) S.ok.ord n
  rwa [Dk.mu_same (fun _ b => b) 0 S.L (fun _ _ _ => rfl)] at h
theorem crash_all {S : DkG} {k : Int} (h : (S.uns : Int) ≤ k) (t : Int) (n : ByteArray) : (S.crash k t).read n = S.read n :=
  Dk.crash_all (show Dk.uns S.L ≤ k.toNat by have : (Dk.uns S.L : Int) ≤ k := h; omega) n
theorem syn_le (S : DkG) (k t : Int) (n : ByteArray) : S.syn n <+: (S.crash k t).read n := by
  show Dk.content n (S.L.filter fun x => x.syn) <+: Dk.content n (Dk.crash _ _ S.L)
  rw [Dk.crash_content, ← Dk.gone_syn n 0 S.L]
  exact Dk.gone_prefix _ 0 n 0 S.L (Nat.le_refl _) S.ok.ord
theorem crash_none {S : DkG} {k t : Int} (hk : k ≤ 0) (ht : t ≤ 0) (n : ByteArray) : (S.crash k t).read n = S.syn n := by
  show Dk.content n (Dk.crash _ _ S.L) = Dk.content n (S.L.filter fun x => x.syn)
  have e1 : k.toNat = 0 := by omega
  have e2 : t.toNat = 0 := by omega
  rw [Dk.crash_content, ← Dk.gone_syn n 0 S.L, e1, e2]
  rw [Dk.mu_content (d := Dk.gone 0) 0 S.L (fun j _ b => by
    unfold Dk.left Dk.gone
    rw [if_pos (Nat.zero_le _)]
    by_cases h : 0 < 0 + j
    · rw [if_pos h]
    · rw [if_neg h, if_pos (by omega)]; rfl)]
theorem app_F {S : DkG} {s : ByteArray} {b : List UInt8} (h : S.appE s b.length = 0) : (S.app s b).F = addF S.F s := by
  unfold app
  rw [dif_pos h]
theorem app_syn (S : DkG) (s : ByteArray) (b : List UInt8) (n : ByteArray) : (S.app s b).syn n = S.syn n := by
  unfold app
  by_cases h : S.appE s b.length = 0
  · rw [dif_pos h]
    show Dk.content n ((S.L ++ [(⟨s, b, false⟩ : Wri)]).filter fun x => x.syn) = _
    rw [List.filter_append]
    simp [syn]
  · rw [dif_neg h]
theorem syn_out {S : DkG} {n : ByteArray} (h : n ∉ S.F) : S.syn n = [] := Dk.content_mem fun x hx e => h (e ▸ S.ok.inF x (List.mem_filter.1 hx).1)
theorem sync_syn {S : DkG} {s : ByteArray} (hs : s ∈ S.F) (n : ByteArray) : (S.sync s).syn n = if n = s then S.read s else S.syn n := by
  unfold sync
  rw [if_pos hs]
  show Dk.content n ((Dk.sync s S.L).filter fun x => x.syn) = _
  have key : ∀ L : List Wri, Dk.content n ((Dk.sync s L).filter fun x => x.syn) = if n = s then Dk.content s L else Dk.content n (L.filter fun x => x.syn) := by
    intro L
    induction L with
    | nil => simp [Dk.sync, Dk.content]
    | cons x L ih =>
      have e : Dk.sync s (x :: L) = (if x.name = s then { x with syn := true } else x) :: Dk.sync s L := rfl
      rw [e]
      by_cases c : x.name = s
      · rw [if_pos c, List.filter_cons_of_pos (by simp), Dk.content_cons, ih]
        by_cases cn : n = s
        · rw [if_pos cn, if_pos cn, Dk.content_cons, if_pos c, if_pos (c.trans cn.symm)]
        · rw [if_neg cn, if_neg cn, if_neg (fun e : x.name = n => cn (e.symm.trans c))]
          by_cases hs : x.syn = true
          · rw [List.filter_cons_of_pos (by simpa using hs), Dk.content_cons, if_neg (fun e : x.name = n => cn (e.symm.trans c))]
          · rw [List.filter_cons_of_neg (by simpa using hs)]; rfl
      · rw [if_neg c]
        by_cases hs : x.syn = true
        · rw [List.filter_cons_of_pos (by simpa using hs), Dk.content_cons, ih, List.filter_cons_of_pos (by simpa using hs), Dk.content_cons, Dk.content_cons]
          by_cases cn : n = s
          · rw [if_pos cn, if_pos cn, if_neg c, if_neg (fun e : x.name = n => c (e.trans cn))]
          · rw [if_neg cn, if_neg cn]
        · rw [List.filter_cons_of_neg (by simpa using hs), ih, List.filter_cons_of_neg (by simpa using hs), Dk.content_cons, if_neg c]
          rfl
  exact key S.L
end DkG
theorem mkB_size (l : List UInt8) : (Dk.mkB l).size = l.length := by simp [Dk.mkB, ByteArray.size]
theorem mkB_pre {a b : List UInt8} (h : a <+: b) : (Dk.mkB b).extract 0 (Dk.mkB a).size = Dk.mkB a := by
  rw [mkB_size]
  apply ByteArray.ext
  rw [ByteArray.data_extract]
  apply Array.toList_inj.1
  simp only [Dk.mkB, Array.toList_extract]
  rw [List.extract_eq_take_drop]
  simpa using (List.prefix_iff_eq_take.1 h).symm
theorem perm3 {α : Type} (a b c : α) (l : List α) : (a :: b :: c :: l).Perm (c :: a :: b :: l) := ((List.Perm.swap c b l).cons a).trans (List.Perm.swap ..)
theorem perm4 {α : Type} (a b c d : α) (l : List α) : (a :: b :: c :: d :: l).Perm (d :: a :: b :: c :: l) := ((perm3 b c d l).cons a).trans (List.Perm.swap ..)
theorem layN_flat2 : ∀ xs : List ByteArray, layN.flat xs = xs.map fun x => Value.string x
  | [] => rfl
  | x :: xs => by
    have ih := layN_flat2 xs
    unfold Lay.flat at ih ⊢
    rw [List.flatMap_cons, ih]
    rfl
/-- a name in a row is written -/
theorem OwnL.putN {e : TypeId} {w : World} {base g n cap : Nat} {xs : List ByteArray} (h : OwnL layN e w base (.slice (some ⟨g, 0, none⟩) n cap) xs) (i : Nat) (s : ByteArray) :
    OwnL layN e (w.setCell ⟨g, i, none⟩ (.string s)) base (.slice (some ⟨g, 0, none⟩) n cap) (xs.set i s) ∧ w.grownBy (w.setCell ⟨g, i, none⟩ (.string s)) (some g) := by
  have hn : n = xs.length := by
    rcases h.2 with ⟨e, _⟩ | ⟨g', cap', cur, e, _⟩
    · cases e
    · injection e
  subst hn
  have h1 := World.ownsRow.stored h i (.string s)
  refine ⟨?_, h1.2⟩
  unfold OwnL
  rw [layN_flat2, List.map_set, ← layN_flat2, List.length_set]
  exact h1.1
theorem OwnL.freeN {e : TypeId} {w : World} {base g n cap : Nat} {xs : List ByteArray} (h : OwnL layN e w base (.slice (some ⟨g, 0, none⟩) n cap) xs) (i : Nat) : w.frozen? ⟨g, i, none⟩ = false := by
  have hn : n = xs.length := by
    rcases h.2 with ⟨e, _⟩ | ⟨g', cap', cur, e, _⟩
    · cases e
    · injection e
  subst hn
  exact World.ownsRow.frozenAt h i
/-- the names of the map's rows turn in one place -/
theorem map_set {F : List ByteArray} (hd : F.Nodup) {i : Nat} (hi : i < F.length) {s : ByteArray} (hs : F.getD i default = s) (f f2 : ByteArray → ByteArray) (h1 : f2 s = f2 s) (h2 : ∀ m, m ≠ s → f2 m = f m) : (F.map f).set i (f2 s) = F.map f2 := by
  apply List.ext_getElem (by simp)
  intro j h3 h4
  have hj : j < F.length := by simpa using h3
  have e : F[i] = s := by simpa [List.getD, hi] using hs
  rw [List.getElem_set]
  by_cases c : i = j
  · subst c
    rw [if_pos rfl, List.getElem_map, e]
  · rw [if_neg c, List.getElem_map, List.getElem_map]
    refine (h2 _ fun e2 => c ?_).symm
    exact (List.getElem_inj hd).1 (e.trans e2.symm)
end Go.Proofs.Ytheocdfccdpmbaa
