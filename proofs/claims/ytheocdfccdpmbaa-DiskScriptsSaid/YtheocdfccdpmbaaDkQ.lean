/-
  A disk, plain: what an append, a sync, a removal and a crash make of its files and its writes.
  Conditions: stated lemma by lemma.
-/
import Derived.Test.YtheocdfccdpmbaaDkP
namespace Go.Proofs.Ytheocdfccdpmbaa
set_option linter.unusedVariables false
set_option linter.unusedSimpArgs false
namespace Dk
def app (n : ByteArray) (b : List UInt8) (L : List Wri) : List Wri := L ++ [⟨n, b, false⟩]
def sync (n : ByteArray) (L : List Wri) : List Wri := L.map fun x => if x.name = n then { x with syn := true } else x
def rem (n : ByteArray) (L : List Wri) : List Wri := L.filter fun x => decide (x.name ≠ n)
def crash (keep torn : Nat) (L : List Wri) : List Wri := (mu (left keep torn) 0 L).map fun x => { x with syn := true }
/-- what waits, but for a file's -/
def forget (n : ByteArray) (l : List (ByteArray × Nat)) : List (ByteArray × Nat) := l.filter fun x => decide (x.1 ≠ n)
theorem content_synAll (n : ByteArray) : ∀ L : List Wri, content n (L.map fun x => { x with syn := true }) = content n L
  | [] => rfl
  | x :: L => by rw [List.map_cons, content_cons, content_cons, content_synAll n L]
theorem content_sync (n m : ByteArray) : ∀ L : List Wri, content m (sync n L) = content m L
  | [] => rfl
  | x :: L => by
    show content m ((if x.name = n then { x with syn := true } else x) :: sync n L) = _
    rw [content_cons, content_cons, content_sync n m L]
    by_cases c : x.name = n <;> simp [c]
theorem content_appd (n m : ByteArray) (b : List UInt8) (L : List Wri) : content m (app n b L) = if n = m then content m L ++ b else content m L := by
  unfold app
  rw [content_app, content_cons, content_nil, List.append_nil]
  by_cases c : n = m <;> simp [c]
theorem content_rem (n m : ByteArray) (L : List Wri) : content m (rem n L) = if n = m then [] else content m L := by
  unfold content rem
  rw [List.filter_filter]
  by_cases c : n = m
  · subst c
    rw [if_pos rfl, List.filter_eq_nil_iff.2 (fun x _ => by simp), List.flatMap_nil]
  · rw [if_neg c]
    congr 1
    refine List.filter_congr fun x _ => ?_
    by_cases e : x.name = m
    · simp [e]
      exact fun h : m = n => c h.symm
    · simp [e]
theorem waits_app (n : ByteArray) (b : List UInt8) (L : List Wri) : waits (app n b L) = waits L ++ [(n, b.length)] := by simp [waits, app]
theorem waits_cons (x : Wri) (L : List Wri) : waits (x :: L) = (if x.syn then [] else [(x.name, x.b.length)]) ++ waits L := by
  unfold waits
  by_cases c : x.syn = true
  · rw [List.filter_cons_of_neg (by simp [c]), if_pos c]; rfl
  · rw [List.filter_cons_of_pos (by simpa using c), if_neg c]; rfl
theorem waits_sync (n : ByteArray) : ∀ L : List Wri, waits (sync n L) = forget n (waits L)
  | [] => rfl
  | x :: L => by
    show waits ((if x.name = n then { x with syn := true } else x) :: sync n L) = _
    rw [waits_cons, waits_cons, waits_sync n L]
    unfold forget
    rw [List.filter_append]
    congr 1
    by_cases c : x.name = n
    · by_cases s : x.syn = true <;> simp [c, s]
    · by_cases s : x.syn = true <;> simp [c, s]
theorem waits_rem (n : ByteArray) : ∀ L : List Wri, waits (rem n L) = forget n (waits L)
  | [] => rfl
  | x :: L => by
    have ih := waits_rem n L
    unfold rem at ih ⊢
    rw [waits_cons]
    unfold forget at ih ⊢
    rw [List.filter_append, ← ih]
    by_cases c : x.name = n
    · rw [List.filter_cons_of_neg (by simp [c])]
      by_cases s : x.syn = true <;> simp [c, s]
    · rw [List.filter_cons_of_pos (by simp [c]), waits_cons]
      by_cases s : x.syn = true <;> simp [c, s]
theorem waits_crash (keep torn : Nat) (L : List Wri) : waits (crash keep torn L) = [] := by
  unfold waits crash
  rw [List.filter_eq_nil_iff.2 (fun x hx => by obtain ⟨y, _, rfl⟩ := List.mem_map.1 hx; simp)]
  rfl
theorem total_sync (n : ByteArray) (L : List Wri) : total (sync n L) = total L := by
  unfold total sync
  rw [List.map_map]
  congr 1
  refine List.map_congr_left fun x _ => ?_
  by_cases c : x.name = n <;> simp [c]
theorem total_appd (n : ByteArray) (b : List UInt8) (L : List Wri) : total (app n b L) = total L + b.length := by simp [total, app]
theorem total_rem (n : ByteArray) : ∀ L : List Wri, total (rem n L) + (content n L).length = total L
  | [] => rfl
  | x :: L => by
    have ih := total_rem n L
    unfold rem at ih ⊢
    rw [content_cons]
    by_cases c : x.name = n
    · rw [List.filter_cons_of_neg (by simp [c]), if_pos c, List.length_append]
      simp only [total, List.map_cons, List.sum_cons] at ih ⊢
      omega
    · rw [List.filter_cons_of_pos (by simp [c]), if_neg c, List.nil_append]
      simp only [total, List.map_cons, List.sum_cons] at ih ⊢
      omega
theorem total_synAll (L : List Wri) : total (L.map fun x => { x with syn := true }) = total L := by simp [total, Function.comp_def]
theorem content_le_total (n : ByteArray) (L : List Wri) : (content n L).length ≤ total L := by have := total_rem n L; omega
theorem Ord.nil : Ord [] := List.Pairwise.nil
theorem Ord.app {L : List Wri} (h : Ord L) (n : ByteArray) (b : List UInt8) : Ord (app n b L) := by
  unfold Dk.app Ord
  rw [List.pairwise_append]
  exact ⟨h, List.pairwise_singleton _ _, fun x _ y hy _ hs => by rw [List.mem_singleton] at hy; subst hy; cases hs⟩
theorem Ord.sync {L : List Wri} (h : Ord L) (n : ByteArray) : Ord (sync n L) := by
  unfold Dk.sync Ord
  rw [List.pairwise_map]
  refine h.imp fun {a b} hab => ?_
  by_cases ca : a.name = n
  · rw [if_pos ca]
    exact fun _ _ => rfl
  · rw [if_neg ca]
    by_cases cb : b.name = n
    · rw [if_pos cb]
      exact fun e _ => absurd ((show a.name = b.name from e).trans cb) ca
    · rw [if_neg cb]
      exact hab
theorem Ord.rem {L : List Wri} (h : Ord L) (n : ByteArray) : Ord (rem n L) := h.filter _
theorem Ord.crash (keep torn : Nat) (L : List Wri) : Ord (crash keep torn L) := by
  unfold Dk.crash Ord
  rw [List.pairwise_map]
  exact List.Pairwise.imp (fun _ _ _ => rfl) (List.pairwise_of_forall fun _ _ => trivial)
/-- a crash takes nothing from what is synced -/
theorem crash_content (keep torn : Nat) (n : ByteArray) (L : List Wri) : content n (crash keep torn L) = content n (mu (left keep torn) 0 L) := content_synAll n _
theorem crash_all {keep torn : Nat} {L : List Wri} (h : uns L ≤ keep) (n : ByteArray) : content n (crash keep torn L) = content n L := by
  rw [crash_content, mu_same _ _ _ (fun j hj b => by unfold left; rw [if_neg (by omega), if_neg (by omega)])]
theorem gone_prefix (d : Nat → List UInt8 → List UInt8) (k : Nat) (n : ByteArray) : ∀ (m : Nat) (B : List Wri), k ≤ m → Ord B → content n (mu (gone k) m B) <+: content n (mu d m B)
  | _, [], _, _ => List.prefix_refl _
  | m, y :: B, h, ho => by
    have ho2 : Ord B := (List.pairwise_cons.1 ho).2
    by_cases hs : y.syn = true
    · rw [mu_syn hs, mu_syn hs, content_cons, content_cons]
      exact (List.prefix_append_right_inj _).2 (gone_prefix d k n m B h ho2)
    · have hs' : y.syn = false := by simpa using hs
      rw [mu_wait hs, mu_wait hs, content_cons, content_cons]
      show (if y.name = n then gone k m y.b else []) ++ _ <+: (if y.name = n then d m y.b else []) ++ _
      by_cases hn : y.name = n
      · rw [gone_nil _ _ _ (by omega) (fun z hz e => by
          rcases hz2 : z.syn with _ | _
          · rfl
          · have := (List.pairwise_cons.1 ho).1 z hz (hn.trans e.symm) hz2; rw [hs'] at this; cases this)]
        rw [if_pos hn]
        unfold gone
        rw [if_pos h]
        exact List.nil_prefix
      · rw [if_neg hn, if_neg hn, List.nil_append, List.nil_append]
        exact gone_prefix d k n (m + 1) B (by omega) ho2
/-- a beginning of what was there -/
theorem mu_prefix {c d : Nat → List UInt8 → List UInt8} {k : Nat} (h1 : ∀ j, j < k → ∀ b, c j b = d j b) (h2 : ∀ b, c k b <+: d k b) (h3 : ∀ j, k < j → ∀ b, c j b = []) {L : List Wri} (ho : Ord L) (n : ByteArray) : content n (mu c 0 L) <+: content n (mu d 0 L) := by
  rcases Nat.lt_or_ge k (uns L) with hk | hk
  · obtain ⟨A, x, B, rfl, rfl, hx⟩ := split_at L k hk
    have hB : ∀ y ∈ B, y.name = x.name → y.syn = false := fun y hy e => by
      have h1 := (List.pairwise_append.1 ho).2.1
      rw [List.pairwise_cons] at h1
      rcases hs : y.syn with _ | _
      · rfl
      · have := h1.1 y hy e.symm hs; rw [hx] at this; cases this
    have e : ∀ f : Nat → List UInt8 → List UInt8, mu f (uns A) (x :: B) = { x with b := f (uns A) x.b } :: mu f (uns A + 1) B := fun f => mu_wait (by simp [hx])
    rw [mu_app, mu_app, Nat.zero_add, e, e, content_app, content_app, content_cons, content_cons]
    have eA : mu c 0 A = mu d 0 A := mu_content _ _ fun j hj b => by rw [Nat.zero_add]; exact h1 j hj b
    rw [eA]
    refine (List.prefix_append_right_inj _).2 ?_
    have eB : ∀ m, content n (mu c (uns A + 1) m) = content n (mu (gone (uns A + 1)) (uns A + 1) m) := fun m => by
      rw [mu_content (d := gone (uns A + 1)) _ _ (fun j hj b => by rw [h3 _ (by omega)]; unfold gone; rw [if_pos (by omega)])]
    show (if x.name = n then c (uns A) x.b else []) ++ content n (mu c (uns A + 1) B) <+: (if x.name = n then d (uns A) x.b else []) ++ content n (mu d (uns A + 1) B)
    by_cases hn : x.name = n
    · rw [if_pos hn, if_pos hn, eB, gone_nil _ _ _ (Nat.le_refl _) (fun y hy e => hB y hy (e.trans hn.symm)), List.append_nil]
      exact (h2 x.b).trans (List.prefix_append _ _)
    · rw [if_neg hn, if_neg hn, List.nil_append, List.nil_append, eB]
      exact gone_prefix _ _ _ _ _ (Nat.le_refl _) (List.pairwise_cons.1 (List.pairwise_append.1 ho).2.1).2
  · rw [mu_content (c := c) (d := d) _ _ (fun j hj b => by rw [Nat.zero_add]; exact h1 j (by omega) b)]
    exact List.prefix_refl _
end Dk
end Go.Proofs.Ytheocdfccdpmbaa
