/-
  A disk in memory: a thing with blocks of its own. A file's slice, taken out and put back.
  Conditions: stated lemma by lemma.
-/
import Derived.Test.YtheocdfccdpmbaaDkM
namespace Go.Proofs.Ytheocdfccdpmbaa
open Go.RowKit Go.Maps
set_option linter.unusedVariables false
set_option linter.unusedSimpArgs false
set_option linter.unusedSectionVars false

/-- what lies behind a disk's cells -/
structure DkX where
  mb : Nat
  D : DataW Value
  sv : ByteArray → Value
  wv : Value
def filesT (F : List ByteArray) (sv : ByteArray → Value) (fl : ByteArray → List UInt8) : List Thing := F.map fun n => ownT layB 5 (sv n) (fl n)
abbrev mapDk (mb : Nat) (D : DataW Value) : Thing := mapT Try.prog 9 RH mb D
def dkParts (g : Nat) (F : List ByteArray) (fl : ByteArray → List UInt8) (ws : List (ByteArray × Nat)) (tot : Int) (x : DkX) : List Thing :=
  blkT g 85 #[.map (some x.mb), x.wv, .int .i64 tot] :: mapDk x.mb x.D :: ownT layD 92 x.wv ws :: filesT F x.sv fl
/-- a disk -/
def dskT (g : Nat) (F : List ByteArray) (fl : ByteArray → List UInt8) (ws : List (ByteArray × Nat)) (tot : Int) : Thing :=
  some_ (fun x : DkX => FileIs x.D F x.sv) (fun x => star (dkParts g F fl ws tot x))
section
variable {w0 W W' : World} {l : List Thing} {g : Nat} {F : List ByteArray} {fl : ByteArray → List UInt8} {ws : List (ByteArray × Nat)} {tot : Int} {x : DkX}
theorem Sp.opend (h : Sp w0 (dskT g F fl ws tot :: l) W) : ∃ x : DkX, FileIs x.D F x.sv ∧ Sp w0 (dkParts g F fl ws tot x ++ l) W := by
  obtain ⟨x, hx, h⟩ := h.open_
  exact ⟨x, hx, Sp.star_iff.1 h⟩
theorem Sp.closed (hx : FileIs x.D F x.sv) (h : Sp w0 (dkParts g F fl ws tot x ++ l) W) : Sp w0 (dskT g F fl ws tot :: l) W := Sp.close hx (Sp.star_iff.2 h)
/-- the parts of a disk, one by one -/
def DkS (w0 : World) (g : Nat) (F : List ByteArray) (fl : ByteArray → List UInt8) (ws : List (ByteArray × Nat)) (c2 : Value) (c3 : Int) (x : DkX) (l : List Thing) (W : World) : Prop :=
  Sp w0 (blkT g 85 #[.map (some x.mb), c2, .int .i64 c3] :: mapDk x.mb x.D :: ownT layD 92 x.wv ws :: (filesT F x.sv fl ++ l)) W
theorem DkS.of (h : Sp w0 (dkParts g F fl ws tot x ++ l) W) : DkS w0 g F fl ws x.wv tot x l W := h
theorem DkS.to (hx : FileIs x.D F x.sv) (h : DkS w0 g F fl ws x.wv tot x l W) : Sp w0 (dskT g F fl ws tot :: l) W := Sp.closed hx h
namespace DkS
variable {c2 : Value} {c3 : Int}
theorem blk (h : DkS w0 g F fl ws c2 c3 x l W) : Blk W g 85 #[.map (some x.mb), c2, .int .i64 c3] := Sp.blk h (List.mem_cons_self ..)
theorem map (h : DkS w0 g F fl ws c2 c3 x l W) : W.ownsMap Try.prog 9 RH x.mb (Maps.size x.D) x.D := Sp.map h (by simp)
theorem waits (h : DkS w0 g F fl ws c2 c3 x l W) : OwnL layD 92 W w0.heap.size x.wv ws := Sp.own h (by simp)
theorem file (h : DkS w0 g F fl ws c2 c3 x l W) {n : ByteArray} (hn : n ∈ F) : OwnL layB 5 W w0.heap.size (x.sv n) (fl n) := Sp.own h (by
  have : ownT layB 5 (x.sv n) (fl n) ∈ filesT F x.sv fl := List.mem_map.2 ⟨n, hn, rfl⟩
  simp [this])
theorem lo (h : DkS w0 g F fl ws c2 c3 x l W) : w0.heap.size ≤ W.heap.size := Sp.size h
theorem bel0 (h : DkS w0 g F fl ws c2 c3 x l W) : Below w0.heap.size w0 W := Sp.bel h
theorem keep (h : DkS w0 g F fl ws c2 c3 x l W) (hb : Below W.heap.size W W') : DkS w0 g F fl ws c2 c3 x l W' := Sp.keep h hb
/-- the waiting list's cell -/
theorem setw (h : DkS w0 g F fl ws c2 c3 x l W) (v : Value) : DkS w0 g F fl ws v c3 x l (W.setCell ⟨g, 1, none⟩ v) := Sp.set h 1 v
theorem sett (h : DkS w0 g F fl ws c2 c3 x l W) (t : Int) : DkS w0 g F fl ws c2 t x l (W.setCell ⟨g, 2, none⟩ (.int .i64 t)) := Sp.set h 2 (.int .i64 t)
/-- the map turns -/
theorem setm (h : DkS w0 g F fl ws c2 c3 x l W) {n : Nat} {D' : DataW Value} (hg : W.grownBy W' (some x.mb)) (hm : W'.ownsMap Try.prog 9 RH x.mb n D') : DkS w0 g F fl ws c2 c3 ⟨x.mb, D', x.sv, x.wv⟩ l W' := by
  have h1 := Sp.perm h (List.Perm.swap ..)
  exact Sp.perm (Sp.setMap h1 hg hm) (List.Perm.swap ..)
/-- the list that waits turns -/
theorem appw {b0 : Nat} (h : DkS w0 g F fl ws c2 c3 x l W) {v' : Value} {ys : List (ByteArray × Nat)} (ho : OwnL layD 92 W' b0 v' ys) (hg : W.grownBy W' x.wv.ownBlock) (h3 : v'.ownBlock = x.wv.ownBlock ∨ v'.ownBlock = some W.heap.size) :
    DkS w0 g F fl ys c2 c3 ⟨x.mb, x.D, x.sv, v'⟩ l W' := by
  have p : ∀ (a b c : Thing) (r : List Thing), (a :: b :: c :: r).Perm (c :: a :: b :: r) := fun a b c r => ((List.Perm.swap c b r).cons a).trans (List.Perm.swap ..)
  exact Sp.perm (Sp.app (Sp.perm h (p _ _ _ _)) ho hg h3) (p _ _ _ _).symm
theorem turnw {b0 : Nat} (h : DkS w0 g F fl ws c2 c3 x l W) {v' : Value} {ys : List (ByteArray × Nat)} (ho : OwnL layD 92 W' b0 v' ys) (hg : Turn (fun b => x.wv.ownBlock = some b) W W') (h3 : v'.ownBlock = x.wv.ownBlock ∨ v'.ownBlock = none) :
    DkS w0 g F fl ys c2 c3 ⟨x.mb, x.D, x.sv, v'⟩ l W' := by
  have p : ∀ (a b c : Thing) (r : List Thing), (a :: b :: c :: r).Perm (c :: a :: b :: r) := fun a b c r => ((List.Perm.swap c b r).cons a).trans (List.Perm.swap ..)
  exact Sp.perm (Sp.turnRow (Sp.perm h (p _ _ _ _)) ho hg h3) (p _ _ _ _).symm
end DkS
def outF (F : List ByteArray) (n : ByteArray) : List ByteArray := F.filter fun m => decide (m ≠ n)
theorem outF_not {F : List ByteArray} {n : ByteArray} (h : n ∈ outF F n) : False := by
  have := (List.mem_filter.1 h).2
  simp at this
theorem outF_perm {n : ByteArray} : ∀ {F : List ByteArray}, n ∈ F → F.Nodup → F.Perm (n :: outF F n)
  | [], h, _ => by cases h
  | a :: F, h, hd => by
    rw [List.nodup_cons] at hd
    unfold outF
    by_cases c : a = n
    · subst c
      rw [List.filter_cons_of_neg (by simp), List.filter_eq_self.2 (fun m hm => by
        have : m ≠ a := fun e => by subst e; exact hd.1 hm
        simpa using this)]
    · rw [List.filter_cons_of_pos (by simpa using c)]
      rcases List.mem_cons.1 h with e | h
      · exact absurd e.symm c
      · exact ((outF_perm h hd.2).cons a).trans (List.Perm.swap ..)
theorem filesT_cong {F : List ByteArray} {sv sv' : ByteArray → Value} {fl fl' : ByteArray → List UInt8} (h1 : ∀ n ∈ F, sv n = sv' n) (h2 : ∀ n ∈ F, fl n = fl' n) : filesT F sv fl = filesT F sv' fl' :=
  List.map_congr_left fun n hn => by rw [h1 n hn, h2 n hn]
theorem filesT_perm {F F' : List ByteArray} (h : F.Perm F') (sv : ByteArray → Value) (fl : ByteArray → List UInt8) : (filesT F sv fl).Perm (filesT F' sv fl) := h.map _
def updL (fl : ByteArray → List UInt8) (n : ByteArray) (b : List UInt8) : ByteArray → List UInt8 := fun m => if m = n then b else fl m
theorem files_out {F : List ByteArray} {n : ByteArray} (hn : n ∈ F) (hd : F.Nodup) (sv : ByteArray → Value) (fl : ByteArray → List UInt8) : (filesT F sv fl).Perm (ownT layB 5 (sv n) (fl n) :: filesT (outF F n) sv fl) :=
  (filesT_perm (outF_perm hn hd) sv fl)
theorem files_in {F : List ByteArray} {n : ByteArray} (hn : n ∈ F) (hd : F.Nodup) (sv : ByteArray → Value) (fl : ByteArray → List UInt8) (v : Value) (b : List UInt8) : (ownT layB 5 v b :: filesT (outF F n) sv fl).Perm (filesT F (updF sv n v) (updL fl n b)) := by
  have e : filesT (outF F n) sv fl = filesT (outF F n) (updF sv n v) (updL fl n b) := filesT_cong
    (fun m hm => by have : m ≠ n := fun e => by subst e; exact outF_not hm
                    unfold updF; rw [if_neg this])
    (fun m hm => by have : m ≠ n := fun e => by subst e; exact outF_not hm
                    unfold updL; rw [if_neg this])
  rw [e]
  have e2 : ownT layB 5 v b = ownT layB 5 (updF sv n v n) (updL fl n b n) := by unfold updF updL; rw [if_pos rfl, if_pos rfl]
  rw [e2]
  exact (filesT_perm (outF_perm hn hd) _ _).symm
/-- a file's slice comes to the front -/
theorem DkS.take {c2 : Value} {c3 : Int} (h : DkS w0 g F fl ws c2 c3 x l W) {n : ByteArray} (hn : n ∈ F) (hd : F.Nodup) :
    Sp w0 (ownT layB 5 (x.sv n) (fl n) :: blkT g 85 #[.map (some x.mb), c2, .int .i64 c3] :: mapDk x.mb x.D :: ownT layD 92 x.wv ws :: (filesT (outF F n) x.sv fl ++ l)) W := by
  refine Sp.perm h ?_
  have h1 := (((files_out hn hd x.sv fl).append_right l).cons (ownT layD 92 x.wv ws)).cons (mapDk x.mb x.D) |>.cons (blkT g 85 #[.map (some x.mb), c2, .int .i64 c3])
  refine h1.trans ?_
  simp only [List.cons_append]
  exact List.perm_middle (l₁ := [_, _, _])
/-- and goes back, turned -/
theorem DkS.back {c2 : Value} {c3 : Int} {n : ByteArray} {v : Value} {b : List UInt8} (hn : n ∈ F) (hd : F.Nodup)
    (h : Sp w0 (ownT layB 5 v b :: blkT g 85 #[.map (some x.mb), c2, .int .i64 c3] :: mapDk x.mb x.D :: ownT layD 92 x.wv ws :: (filesT (outF F n) x.sv fl ++ l)) W) :
    DkS w0 g F (updL fl n b) ws c2 c3 ⟨x.mb, x.D, updF x.sv n v, x.wv⟩ l W := by
  refine Sp.perm h ?_
  refine (List.perm_middle (l₁ := [_, _, _])).symm.trans ?_
  have h1 := (((files_in hn hd x.sv fl v b).append_right l).cons (ownT layD 92 x.wv ws)).cons (mapDk x.mb x.D) |>.cons (blkT g 85 #[.map (some x.mb), c2, .int .i64 c3])
  exact h1
/-- a new file -/
theorem DkS.back_new {c2 : Value} {c3 : Int} {n : ByteArray} {v : Value} {b : List UInt8} (hn : n ∉ F)
    (h : Sp w0 (ownT layB 5 v b :: blkT g 85 #[.map (some x.mb), c2, .int .i64 c3] :: mapDk x.mb x.D :: ownT layD 92 x.wv ws :: (filesT F x.sv fl ++ l)) W) :
    DkS w0 g (F ++ [n]) (updL fl n b) ws c2 c3 ⟨x.mb, x.D, updF x.sv n v, x.wv⟩ l W := by
  have e : filesT F x.sv fl = filesT F (updF x.sv n v) (updL fl n b) := filesT_cong
    (fun m hm => by have : m ≠ n := fun e => by subst e; exact hn hm
                    unfold updF; rw [if_neg this])
    (fun m hm => by have : m ≠ n := fun e => by subst e; exact hn hm
                    unfold updL; rw [if_neg this])
  rw [e] at h
  have e2 : ownT layB 5 v b = ownT layB 5 (updF x.sv n v n) (updL fl n b n) := by unfold updF updL; rw [if_pos rfl, if_pos rfl]
  rw [e2] at h
  refine Sp.perm h ?_
  refine (List.perm_middle (l₁ := [_, _, _])).symm.trans ?_
  simp only [List.cons_append, List.nil_append]
  refine ((List.Perm.cons _ ?_).cons _).cons _
  have e3 : filesT (F ++ [n]) (updF x.sv n v) (updL fl n b) = filesT F (updF x.sv n v) (updL fl n b) ++ [ownT layB 5 (updF x.sv n v n) (updL fl n b n)] := by simp [filesT]
  rw [e3, List.append_assoc]
  exact List.perm_middle.symm
/-- a file goes -/
theorem DkS.gone {c2 : Value} {c3 : Int} (h : DkS w0 g F fl ws c2 c3 x l W) {n : ByteArray} (hn : n ∈ F) (hd : F.Nodup) : DkS w0 g (F.filter fun m => decide (m ≠ n)) fl ws c2 c3 x l W := by
  exact (h.take hn hd).tail
end
end Go.Proofs.Ytheocdfccdpmbaa
