/-
  append of whatever source (a slice, a string) onto a row of the call's own; of a string onto own bytes.
  Conditions: stated lemma by lemma.
-/
import Derived.Test.YtkmhjfileiabeaaCodeP
import Derived.Deep.AppendSrc
namespace Go.Proofs.Ytkmhjfileiabeaa
open Go.RowKit
set_option linter.unusedVariables false
set_option linter.unusedSimpArgs false

theorem owns_new {P : Program} {w : World} {base : Nat} {e : TypeId} {size : Nat} {z : Value} {cells : List Value} {n cap : Nat} (hb : base ≤ w.heap.size) (hn : n ≤ cap) (hc : cap ≤ maxLen) (hz : z.cells.size = size) (hl : cells.length = n * size) :
    (w.drew.alloc (.cells (cells.toArray ++ Builtin.zeroCells z.cells (cap - n)) e)).ownsRow base e size (.slice (some ⟨w.heap.size, 0, none⟩) n cap) n cells := by
  refine ⟨hl, .inr ⟨w.heap.size, cap, _, rfl, hb, heap_alloc_new w.drew _, hn, hc, ?_, ?_⟩⟩
  · simp only [Array.size_append, List.size_toArray, size_zeroCells, hz, hl, ← Nat.add_mul]
    congr 1
    omega
  · simp only [Array.toList_append, ← hl]
    exact List.take_left

theorem run_append_own_src {P : Program} (w : World) (base : Nat) (t tx ty e : TypeId) (i : TypeInfo) (z : Value) (size bytes : Nat) (ht : P.underlying t = some (.slice e)) (hi : P.info? e = some i) (hz : i.zero = some z)
    (hsize : i.size = size) (hby : i.bytes = bytes) (hzs : z.cells.size = size) (hsz : 0 < size)
    (v : Value) (n : Nat) (xs : List Value) (hown : w.ownsRow base e size v n xs) (x : Value) (m : Nat) (news : List Value) (hs : Src P size tx x m news w) (hm : 0 < m)
    (h63 : n + m ≤ maxLen) (hbytes : (n + m) * bytes ≤ 140737488355328) (hbase : base ≤ w.heap.size) :
    ∃ v' w', (Builtin.append_ #[t, tx] ty #[v, x]).run P w = .ok v' w' ∧ w'.ownsRow base e size v' (n + m) (xs ++ news) ∧ w.grownBy w' v.ownBlock := by
  subst hsize
  subst hby
  have h64 : ((n + m : Nat) : Int) ≤ 9223372036854775807 := by simp only [maxLen] at h63; omega
  have hlen : (xs ++ news).length = (n + m) * i.size := by rw [List.length_append, hown.1, hs.newsLen, Nat.add_mul]
  rcases hown.2 with ⟨rfl, rfl⟩ | ⟨g, cap, cur, rfl, hbg, hg, hnc, hcm, hcs, htake⟩
  · have hr := run_append_grow_src (P := P) w t tx ty e i z ht hi hz none 0 0 xs (by
      have : xs = [] := List.eq_nil_of_length_eq_zero (by simpa using hown.1)
      subst this
      simp [Builtin.firstCells]) x m news hs (by omega) h64 (growslice_fits (by omega) hbytes)
    exact ⟨_, _, hr, owns_new (P := P) hbase (grownCap_ge w _ _ e) (grownCap_le_maxLen w _ _ e h63) hzs hlen, ⟨rfl, rfl, rfl, by simp, fun k hk _ => Below.heap_alloc w.drew _ k hk⟩⟩
  · by_cases hroom : n + m ≤ cap
    · have hfit : n * i.size + news.length ≤ cur.size := by rw [hs.newsLen, hcs, ← Nat.add_mul]; exact Nat.mul_le_mul_right _ hroom
      have hst := run_storeCells_at P g (n * i.size) e news 0 cur w hg (by simpa using hfit) hs.one
      simp only [Nat.add_zero] at hst
      have hr : (Builtin.append_ #[t, tx] ty #[.slice (some ⟨g, 0, none⟩) n cap, x]).run P w = .ok (.slice (some ⟨g, 0, none⟩) (n + m) cap) (w.setRow g (cur.toList.take (n * i.size) ++ news ++ cur.toList.drop (n * i.size + news.length)).toArray) := by
        rcases hs.kind with ⟨e', hk⟩ | hk <;> simp [Builtin.append_, run_underlying ht, run_underlying hk, sizeOf, typeInfo, hi, hs.len, hroom, hs.cells, Addr.add_lit, hst]
      refine ⟨_, _, hr, ⟨hlen, .inr ⟨g, cap, _, rfl, hbg, setRow_heap w g cur _ e _ hg, hroom, hcm, ?_, ?_⟩⟩, ⟨rfl, rfl, rfl, by simp, fun k _ hk => setRow_other w g k _ (fun e => hk (by simp [Value.ownBlock, e]))⟩⟩
      · simp only [List.size_toArray, List.length_append, List.length_take, List.length_drop, Array.length_toList]
        omega
      · have h0 : cur.toList.take (n * i.size) = xs := htake
        rw [h0, ← hlen]
        exact List.take_left
    · have hr := run_append_grow_src (P := P) w t tx ty e i z ht hi hz (some ⟨g, 0, none⟩) n cap xs
        (run_firstCells_some w.drew i.size n ⟨g, 0, none⟩ n cap xs hown.1 (by simpa using hown.cells (g := g) rfl)) x m news hs (by omega) h64 (growslice_fits (by omega) hbytes)
      exact ⟨_, _, hr, owns_new (P := P) hbase (grownCap_ge w _ _ e) (grownCap_le_maxLen w _ _ e h63) hzs hlen, ⟨rfl, rfl, rfl, by simp, fun k hk _ => Below.heap_alloc w.drew _ k hk⟩⟩
end Go.Proofs.Ytkmhjfileiabeaa
