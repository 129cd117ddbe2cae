/-
  A slice of structs that the call owns, sorted by the library: from one vocabulary to the other.
  Conditions: stated lemma by lemma.
-/
import Derived.Test.YtheocdfccdpmbaaRow
import Derived.Shelf.GgSortFunc.InsertionK
import Derived.Sort.OwnSorted
namespace Go.Proofs.Ytheocdfccdpmbaa
open Go.RowKit Go.Sort Go.Proofs
set_option linter.unusedVariables false
set_option linter.unusedSimpArgs false

section
variable {α : Type} [Inhabited α] {L : Lay α} {w : World} {e : TypeId} {base : Nat} {v : Value} {xs : List α}
theorem flatK_flat (L : Lay α) (xs : List α) : (flatK L.cells L.k xs.toArray).toList = L.flat xs := by
  apply List.ext_getElem?
  intro t
  by_cases ht : t < xs.length * L.k
  · have hi : t / L.k < xs.length := by rw [Nat.div_lt_iff_lt_mul L.pos]; exact ht
    have hr : t % L.k < L.k := Nat.mod_lt _ L.pos
    have h1 := L.flat_get xs (t / L.k) (t % L.k) hi hr
    rw [show t / L.k * L.k + t % L.k = t from by rw [Nat.mul_comm]; exact Nat.div_add_mod t L.k] at h1
    rw [h1, Array.getElem?_toList]
    have hs : t < (flatK L.cells L.k xs.toArray).size := by simpa using ht
    have h2 := get_flatK L.cells L.k xs.toArray t (by simpa using ht)
    rw [getElem!_pos (flatK L.cells L.k xs.toArray) t hs] at h2
    rw [Array.getElem?_eq_getElem hs, h2]
    have e1 : (xs.toArray)[t / L.k]! = xs.getD (t / L.k) default := by simp [List.getD, hi]
    rw [e1]
    have hl : t % L.k < (L.cells (xs.getD (t / L.k) default)).length := by rw [L.len]; exact hr
    rw [List.getElem?_eq_getElem hl, getElem!_pos (L.cells (xs.getD (t / L.k) default)) _ hl]
  · rw [List.getElem?_eq_none (by simp; omega), List.getElem?_eq_none (by rw [L.flat_len]; omega)]
theorem heap_sortedV {w : World} {g n : Nat} {os : Array Obj} {cur : Array Value} {e : TypeId} {fr : Nat × Nat} (d : Array Value) (hb : w.heap[g]? = some (.cells cur e fr)) :
    (grow (putRow id (Sort.ahead w n) g 0 d) os).heap[g]? = some (.cells (putCells id 0 d cur) e fr) := by
  have hg : g < w.heap.size := (Array.getElem?_eq_some_iff.1 hb).1
  rw [heap_grow_old _ _ (by simpa using hg)]
  simp [putRow, mapBlock, Sort.ahead, Array.getElem?_modify, hb, onCells]
theorem grownBy_sortedV {w : World} {g n : Nat} {os : Array Obj} (d : Array Value) : w.grownBy (grow (putRow id (Sort.ahead w n) g 0 d) os) (some g) := by
  refine ⟨rfl, rfl, rfl, by simp, fun k hk hne => ?_⟩
  rw [heap_grow_old _ _ (by simpa using hk)]
  have : g ≠ k := fun e => hne (by rw [e])
  simp [putRow, mapBlock, Sort.ahead, Array.getElem?_modify, this]
theorem take_putCellsV (cur : Array Value) (ts : List Value) (h : ts.length ≤ cur.size) : (putCells id 0 ts.toArray cur).toList.take ts.length = ts := by
  apply List.ext_getElem?
  intro j
  by_cases hj : j < ts.length
  · rw [List.getElem?_take_of_lt hj, Array.getElem?_toList]
    simp [putCells, hj, show j < cur.size by omega]
  · rw [List.getElem?_take_eq_none (by omega), List.getElem?_eq_none (by omega)]
/-- what the sort asks, and what it leaves -/
theorem OwnL.sort (h : OwnL L e w base v xs) (h0 : 0 < xs.length) :
    ∃ g cap, v = .slice (some ⟨g, 0, none⟩) xs.length cap ∧ g < w.heap.size ∧ HoldsK L.cells L.k w g 0 xs.toArray ∧
      ∀ (ts : List α), ts.length = xs.length → ∀ n os, OwnL L e (sortWorldK L.cells L.k w g 0 n ts.toArray os) base v ts ∧ w.grownBy (sortWorldK L.cells L.k w g 0 n ts.toArray os) (some g) := by
  have hlen := h.1
  rcases h.2 with ⟨_, hz⟩ | ⟨g, cap, cur, rfl, hbase, hb, h1, h2, h3, h4⟩
  · omega
  have hk : ∀ ys : List α, (flatK L.cells L.k ys.toArray) = (L.flat ys).toArray := fun ys => by rw [← flatK_flat L ys]
  refine ⟨g, cap, rfl, (Array.getElem?_eq_some_iff.1 hb).1, ?_, fun ts hl n os => ?_⟩
  · unfold HoldsK
    rw [hk]
    intro j hj
    have hj' : j < (L.flat xs).length := by simpa using hj
    refine ⟨?_, by simp [World.frozen?, hb]⟩
    have h5 : (cur.toList.take (xs.length * L.k))[j]? = (L.flat xs)[j]? := by rw [h4]
    rw [List.getElem?_take_of_lt (by rw [← L.flat_len]; exact hj')] at h5
    simp only [World.cell?, hb, Nat.zero_add]
    simp only [Option.isSome_none, Bool.false_eq_true, if_false]
    rw [← Array.getElem?_toList, h5]
    simp [hj']
  · unfold sortWorldK putRowK
    rw [hk]
    refine ⟨⟨by rw [L.flat_len], .inr ⟨g, cap, putCells id 0 (L.flat ts).toArray cur, by rw [hl], hbase, heap_sortedV _ hb, by omega, h2, by simp [putCells, h3], ?_⟩⟩, grownBy_sortedV _⟩
    have h5 : (L.flat ts).length ≤ cur.size := by
      rw [L.flat_len, h3, hl]
      exact Nat.mul_le_mul_right _ h1
    have := take_putCellsV cur (L.flat ts) h5
    rwa [L.flat_len] at this
end
/-- the sorted list, as a list -/
theorem sorted_list {α : Type} [Inhabited α] {lt : α → α → Bool} {xs : List α} {d : Array α} (hp : PermIn 0 xs.toArray.size xs.toArray d) (hs : SortedIn lt 0 xs.toArray.size d) :
    d.toList.Perm xs ∧ d.toList.Pairwise (fun x y => lt y x = false) ∧ d = d.toList.toArray ∧ d.toList.length = xs.length := by
  obtain ⟨h1, _, h3⟩ := hp
  have hsz : d.size = xs.length := by simpa using h1
  refine ⟨?_, ?_, by simp, by simpa using hsz⟩
  · have e1 : d.extract 0 xs.toArray.size = d := by rw [show xs.toArray.size = d.size from by simp [hsz]]; simp
    have e2 : xs.toArray.extract 0 xs.toArray.size = xs.toArray := by simp
    rw [e1, e2] at h3
    simpa using h3
  · rw [List.pairwise_iff_getElem]
    intro i j hi hj hij
    have := hs i j (Nat.zero_le _) hij (by simp at hj ⊢; omega)
    have hi' : i < d.size := by simpa using hi
    have hj' : j < d.size := by simpa using hj
    rw [getElem!_pos d i hi', getElem!_pos d j hj'] at this
    simpa using this
end Go.Proofs.Ytheocdfccdpmbaa
