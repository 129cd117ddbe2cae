/-
  What an append or a cut leaves of a disk's parts.
  Conditions: stated lemma by lemma.
-/
import Derived.Test.YtheocdfccdpmbaaDk3
import Derived.Deep.RegionLaw
namespace Go.Proofs.Ytheocdfccdpmbaa
open Go.RowKit Go.Maps
set_option linter.unusedVariables false
set_option linter.unusedSimpArgs false
set_option maxHeartbeats 8000000

theorem step_appAt {α : Type} [Inhabited α] {L : Lay α} {P : Program} {e : TypeId} {ops : Array Oper} {o : Oper} {a : Act} {K : Act → World → Prop} {Q : Exit → Act → World → Prop} {E : Prop} {w : World} (t : TypeId) (z : Value) (bytes : Nat) (ht : P.underlying t = some (.slice e))
    (hinfo : (P.info? e).map (fun i => (i.zero, i.size, i.bytes)) = some (some z, L.k, bytes)) (hz : z.cells.size = L.k) (hgd : o.guard = none) (s x : Operand)
    (ho : o.op = .call { callee := .builtin .append, args := #[s, x], argTypes := #[t, t] })
    (base : Nat) (v : Value) (xs : List α) (hs : a.eval s = v) (hown : OwnL L e w base v xs) (A : Option Addr) (n c : Nat) (ys : List α) (hx : a.eval x = .slice A n c) (hn : n = ys.length) (hr : RdL L w A ys)
    (hm : xs.length + ys.length ≤ maxLen) (hb : (xs.length + ys.length) * bytes ≤ 140737488355328) (hbase : base ≤ w.heap.size)
    (h : ∀ v' w', OwnL L e w' base v' (xs ++ ys) → w.grownBy w' v.ownBlock → (v'.ownBlock = v.ownBlock ∨ v'.ownBlock = some w.heap.size) → K (a.put o.dst v') w') :
    if Region.wanted o (yielded ops a.tmps) = true then Oper.wp P o a w K Q else E := by
  have hw : Region.wanted o (yielded ops a.tmps) = true := by simp [Region.wanted, hgd]
  rw [if_pos hw]
  subst hn
  rcases A with _ | A
  · have hy : ys = [] := by
      rcases Nat.eq_zero_or_pos ys.length with h0 | h0
      · exact List.eq_nil_of_length_eq_zero h0
      · obtain ⟨_, _, e, _⟩ := hr 0 h0
        cases e
    subst hy
    obtain ⟨i0, hi0, hz0, hz1, hz2⟩ := info_parts hinfo
    have hu := run_underlying ht
    have hrun : (Builtin.append_ #[t, t] o.type #[v, .slice none 0 c]).run P w = .ok v w := by
      obtain ⟨_, hv⟩ := hown
      rcases hv with ⟨rfl, _⟩ | ⟨g, cap, cur, rfl, _, _, hnc, _⟩
      · simp [Builtin.append_, hu, sizeOf, typeInfo, hi0, Builtin.lenOf, Builtin.firstCells]
      · simp [Builtin.append_, hu, sizeOf, typeInfo, hi0, Builtin.lenOf, Builtin.firstCells, hnc, storeCells]
    unfold Oper.wp execOp
    simp only [ho, resolve, invoke, builtin, Sem.run_bind, Sem.run_pure, Result.andThen_ok, List.map_toArray, List.map_cons, List.map_nil, hs, hx, List.length_nil, hrun]
    exact h v w (by rw [List.append_nil]; exact hown) (World.grownBy.refl w _) (.inl rfl)
  · obtain ⟨v', w', hrun, h2, h3, h4⟩ := run_appAt w t o.type z bytes ht hinfo hz base v xs hown A c ys hr hm hb hbase
    unfold Oper.wp execOp
    simp only [ho, resolve, invoke, builtin, Sem.run_bind, Sem.run_pure, Result.andThen_ok, List.map_toArray, List.map_cons, List.map_nil, hs, hx, hrun]
    exact h v' w' h2 h3 h4
theorem rdL_lit {α : Type} [Inhabited α] {L : Lay α} (w : World) (e : TypeId) (xs : List α) (hm : xs.length ≤ maxLen) (cs : Array Value) (hc : cs = (L.flat xs).toArray) : RdL L (w.alloc (.cells cs e)) (some ⟨w.heap.size, 0, none⟩) xs := by
  obtain ⟨A, cap, e, _, _, h, _⟩ := (OwnL.lit (e := e) w w.heap.size (Nat.le_refl _) xs hm cs hc).form
  injection e with e
  subst e
  exact h
theorem infoD : (Try.prog.info? 92).map (fun i => (i.zero, i.size, i.bytes)) = some (some (.agg #[.string ⟨#[]⟩, .int .i64 0]), 2, 24) := by kernel_rfl
theorem outF_id {F : List ByteArray} {n : ByteArray} (h : n ∉ F) : outF F n = F := List.filter_eq_self.2 fun m hm => by
  have : m ≠ n := fun e => by subst e; exact h hm
  simpa using this
def oldV (F : List ByteArray) (sv : ByteArray → Value) (s : ByteArray) : Value := if s ∈ F then sv s else .slice none 0 0
section
variable {w0 W W' : World} {l : List Thing} {g : Nat} {F : List ByteArray} {fl : ByteArray → List UInt8} {ws : List (ByteArray × Nat)} {x : DkX} {c2 : Value} {c3 : Int} {s : ByteArray}
theorem DkS.pre (h : DkS w0 g F fl ws c2 c3 x l W) (hd : F.Nodup) (s : ByteArray) (hfl : s ∉ F → fl s = []) :
    Sp w0 (ownT layB 5 (oldV F x.sv s) (fl s) :: blkT g 85 #[.map (some x.mb), c2, .int .i64 c3] :: mapDk x.mb x.D :: ownT layD 92 x.wv ws :: (filesT (outF F s) x.sv fl ++ l)) W := by
  unfold oldV
  by_cases c : s ∈ F
  · rw [if_pos c]
    exact h.take c hd
  · rw [if_neg c, outF_id c, hfl c]
    exact Sp.row0 h
theorem DkS.post {D' : DataW Value} {v : Value} {b : List UInt8} (hd : F.Nodup)
    (h : Sp w0 (ownT layB 5 v b :: blkT g 85 #[.map (some x.mb), c2, .int .i64 c3] :: mapDk x.mb D' :: ownT layD 92 x.wv ws :: (filesT (outF F s) x.sv fl ++ l)) W) :
    DkS w0 g (addF F s) (updL fl s b) ws c2 c3 ⟨x.mb, D', updF x.sv s v, x.wv⟩ l W := by
  unfold addF
  by_cases c : s ∈ F
  · rw [if_pos c]
    exact DkS.back (x := ⟨x.mb, D', x.sv, x.wv⟩) c hd h
  · rw [if_neg c]
    rw [outF_id c] at h
    exact DkS.back_new (x := ⟨x.mb, D', x.sv, x.wv⟩) c h
/-- a file's slice has grown or has been cut: it is stored in the map -/
theorem DkS.mapped {w3 : World} {v : Value} {b : List UInt8} (hd : F.Nodup) (hx : FileIs x.D F x.sv) (h64 : F.length ≤ 64) (hs : s.size ≤ maxLen)
    (h : Sp w0 (ownT layB 5 v b :: blkT g 85 #[.map (some x.mb), c2, .int .i64 c3] :: mapDk x.mb x.D :: ownT layD 92 x.wv ws :: (filesT (outF F s) x.sv fl ++ l)) w3) :
    ∃ w5, (Instr.mapUpdate 82 (.map (some x.mb)) (.string s) v).run Try.prog w3 = .ok () w5 ∧ ∃ D5, FileIs D5 (addF F s) (updF x.sv s v) ∧ DkS w0 g (addF F s) (updL fl s b) ws c2 c3 ⟨x.mb, D5, updF x.sv s v, x.wv⟩ l w5 := by
  have hm := Sp.map h (P := Try.prog) (k := 9) (R := RH) (mb := x.mb) (D := x.D) (by simp)
  have hsz := hx.size
  obtain ⟨w5, hrun, hown, hg⟩ := hm.update kLawS Try.underlying82 (by rw [hsz]; unfold maxLen; omega) (Go.WideMaps.keyOf_string_mk Try.underlying9 hs) (val := v) (d := .held v) (ps := []) rfl
  have p : ∀ (a b c : Thing) (r : List Thing), (a :: b :: c :: r).Perm (c :: a :: b :: r) := fun a b c r => ((List.Perm.swap c b r).cons a).trans (List.Perm.swap ..)
  have h2 := Sp.setMap (Sp.perm h (p _ _ _ _)) hg hown
  exact ⟨w5, hrun, _, hx.put (hm.tidy kLawS) s v, DkS.post hd (Sp.perm h2 (p _ _ _ _).symm)⟩
end
end Go.Proofs.Ytheocdfccdpmbaa
