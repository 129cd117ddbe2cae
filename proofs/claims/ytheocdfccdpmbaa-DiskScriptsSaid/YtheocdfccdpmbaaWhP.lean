/-
  A timing wheel, plain: rings and places, what a minute makes of them, items in order.
  Conditions: stated lemma by lemma.
-/
namespace Go.Proofs.Ytheocdfccdpmbaa
set_option linter.unusedVariables false
/-- an item: its number, its time -/
structure Itm where
  id : Int
  at_ : Int
deriving DecidableEq, Inhabited
namespace Wh
/-- in which ring an item waits -/
def ring (now at_ : Int) : Nat := if at_ / 262144 ≠ now / 262144 then 3 else if at_ / 4096 ≠ now / 4096 then 2 else if at_ / 64 ≠ now / 64 then 1 else 0
def pw (k : Nat) : Int := if k = 0 then 1 else if k = 1 then 64 else if k = 2 then 4096 else 262144
def place (k : Nat) (at_ : Int) : Nat := (at_ / pw k % 64).toNat
def slot (now at_ : Int) : Nat := 64 * ring now at_ + place (ring now at_) at_
theorem place_lt (k : Nat) (a : Int) : place k a < 64 := by unfold place; omega
theorem ring_lt (n a : Int) : ring n a < 4 := by
  unfold ring
  by_cases c3 : a / 262144 = n / 262144 <;> by_cases c2 : a / 4096 = n / 4096 <;> by_cases c1 : a / 64 = n / 64 <;> simp [c3, c2, c1]
theorem slot_lt (n a : Int) : slot n a < 256 := by have := ring_lt n a; have := place_lt (ring n a) a; unfold slot; omega
/-- the order in which items come -/
def before (a b : Itm) : Prop := a.at_ < b.at_ ∨ a.at_ = b.at_ ∧ a.id < b.id
instance (a b : Itm) : Decidable (before a b) := by unfold before; infer_instance
structure Inv (now : Int) (pl : Nat → List Itm) (S : List Itm) : Prop where
  sorted : S.Pairwise before
  ids : S.Pairwise (fun a b => a.id ≠ b.id)
  times : ∀ i ∈ S, now < i.at_ ∧ i.at_ ≤ 226157759 ∧ i.at_ - now ≤ 262144
  slots : ∀ j, j < 256 → (pl j).Perm (S.filter fun i => slot now i.at_ = j)

/-- the slot of an item while the rings from k on have been looked at -/
def mid (k : Nat) (now at_ : Int) : Nat := if k ≤ ring now at_ then slot (now + 1) at_ else slot now at_
theorem mid4 (now a : Int) : mid 4 now a = slot now a := by unfold mid; rw [if_neg (by have := ring_lt now a; omega)]
theorem pw_pos (k : Nat) : 0 < pw k := by unfold pw; repeat' split <;> omega
theorem ring_eq {now a : Int} {k : Nat} (h1 : 1 ≤ k) (h3 : k ≤ 3) : ring now a = k ↔ a / pw k ≠ now / pw k ∧ (∀ j, k < j → j ≤ 3 → a / pw j = now / pw j) := by
  have hk : k = 1 ∨ k = 2 ∨ k = 3 := by omega
  unfold ring
  constructor
  · intro h
    rcases hk with rfl | rfl | rfl
    · by_cases c3 : a / 262144 = now / 262144 <;> by_cases c2 : a / 4096 = now / 4096 <;> by_cases c1 : a / 64 = now / 64 <;> simp [c3, c2, c1] at h
      exact ⟨c1, fun j j1 j3 => by rcases (by omega : j = 2 ∨ j = 3) with rfl | rfl <;> assumption⟩
    · by_cases c3 : a / 262144 = now / 262144 <;> by_cases c2 : a / 4096 = now / 4096 <;> by_cases c1 : a / 64 = now / 64 <;> simp [c3, c2, c1] at h
      all_goals exact ⟨c2, fun j j1 j3 => by rcases (by omega : j = 3) with rfl; assumption⟩
    · by_cases c3 : a / 262144 = now / 262144 <;> by_cases c2 : a / 4096 = now / 4096 <;> by_cases c1 : a / 64 = now / 64 <;> simp [c3, c2, c1] at h
      all_goals exact ⟨c3, fun j j1 j3 => by omega⟩
  · rintro ⟨h, k⟩
    rcases hk with rfl | rfl | rfl
    · have e3 : a / 262144 = now / 262144 := k 3 (by omega) (by omega)
      have e2 : a / 4096 = now / 4096 := k 2 (by omega) (by omega)
      have e1 : a / 64 ≠ now / 64 := h
      simp [e3, e2, e1]
    · have e3 : a / 262144 = now / 262144 := k 3 (by omega) (by omega)
      have e2 : a / 4096 ≠ now / 4096 := h
      simp [e3, e2]
    · have e3 : a / 262144 ≠ now / 262144 := h
      simp [e3]
theorem ring0 {now a : Int} : ring now a = 0 ↔ (a / 262144 = now / 262144 ∧ a / 4096 = now / 4096 ∧ a / 64 = now / 64) := by
  unfold ring
  by_cases c3 : a / 262144 = now / 262144 <;> by_cases c2 : a / 4096 = now / 4096 <;> by_cases c1 : a / 64 = now / 64 <;> simp [c3, c2, c1]

theorem ring_next {now a : Int} (h : now < a) (hne : ring now a = 0 ∨ a / pw (ring now a) ≠ (now + 1) / pw (ring now a)) : ring (now + 1) a = ring now a := by
  have hr := ring_lt now a
  rcases (by omega : ring now a = 0 ∨ ring now a = 1 ∨ ring now a = 2 ∨ ring now a = 3) with e | e | e | e
  · rw [e]
    have h1 := ring0.1 e
    exact ring0.2 (by omega)
  · rw [e] at hne ⊢
    have h1 := (ring_eq (by omega) (by omega)).1 e
    have h2 := h1.2 2 (by omega) (by omega)
    have h3 := h1.2 3 (by omega) (by omega)
    refine (ring_eq (by omega) (by omega)).2 ⟨by omega, fun j j1 j3 => ?_⟩
    rcases (by omega : j = 2 ∨ j = 3) with rfl | rfl
    · simp only [pw] at h2 ⊢; simp at h2 ⊢; omega
    · simp only [pw] at h3 ⊢; simp at h3 ⊢; omega
  · rw [e] at hne ⊢
    have h1 := (ring_eq (by omega) (by omega)).1 e
    have h3 := h1.2 3 (by omega) (by omega)
    refine (ring_eq (by omega) (by omega)).2 ⟨by omega, fun j j1 j3 => ?_⟩
    obtain rfl : j = 3 := by omega
    simp only [pw] at h3 ⊢; simp at h3 ⊢; omega
  · rw [e] at hne ⊢
    exact (ring_eq (by omega) (by omega)).2 ⟨by omega, fun j j1 j3 => by omega⟩
theorem pw_cases (k : Nat) (h1 : 1 ≤ k) (h3 : k ≤ 3) : (k = 1 ∧ pw k = 64) ∨ (k = 2 ∧ pw k = 4096) ∨ (k = 3 ∧ pw k = 262144) := by
  rcases (by omega : k = 1 ∨ k = 2 ∨ k = 3) with rfl | rfl | rfl <;> simp [pw]
theorem ring_cross {now a : Int} {k : Nat} (h1 : 1 ≤ k) (h3 : k ≤ 3) (hr : ring now a = k) (he : a / pw k = (now + 1) / pw k) : (now + 1) % pw k = 0 := by
  have h := ((ring_eq h1 h3).1 hr).1
  rcases pw_cases k h1 h3 with ⟨_, e⟩ | ⟨_, e⟩ | ⟨_, e⟩ <;> rw [e] at h he ⊢ <;> omega
theorem slot_ring {n a : Int} {k : Nat} {m : Int} (h : slot n a = 64 * k + place k m) : ring n a = k ∧ place k a = place k m := by
  have h1 := place_lt (ring n a) a
  have h2 := place_lt k m
  unfold slot at h
  have e : ring n a = k := by omega
  rw [e] at h
  exact ⟨e, by omega⟩
theorem slot_next {now a : Int} (h : now < a) (hne : ring now a = 0 ∨ a / pw (ring now a) ≠ (now + 1) / pw (ring now a)) : slot (now + 1) a = slot now a := by
  unfold slot
  rw [ring_next h hne]
/-- a ring that now has not come into -/
theorem mid_same {now a : Int} {k : Nat} (h1 : 1 ≤ k) (h3 : k ≤ 3) (h : now < a) (hm : (now + 1) % pw k ≠ 0) : mid k now a = mid (k + 1) now a := by
  unfold mid
  by_cases c : k + 1 ≤ ring now a
  · rw [if_pos c, if_pos (by omega)]
  · rw [if_neg c]
    by_cases c2 : k ≤ ring now a
    · have e : ring now a = k := by omega
      rw [if_pos c2]
      exact slot_next h (.inr (by rw [e]; exact fun he => hm (ring_cross h1 h3 e he)))
    · rw [if_neg c2]
theorem mid_far {now a : Int} {k : Nat} (h1 : 1 ≤ k) (h3 : k ≤ 3) (h : now < a) (hm : mid (k + 1) now a ≠ 64 * k + place k (now + 1)) : mid k now a = mid (k + 1) now a := by
  unfold mid at hm ⊢
  by_cases c : k + 1 ≤ ring now a
  · rw [if_pos c, if_pos (by omega)]
  · rw [if_neg c] at hm ⊢
    by_cases c2 : k ≤ ring now a
    · have e : ring now a = k := by omega
      rw [if_pos c2]
      refine slot_next h (.inr (by
        rw [e]
        intro he
        apply hm
        unfold slot
        rw [e]
        unfold place
        rw [he]))
    · rw [if_neg c2]
theorem mid_here {now a : Int} {k : Nat} (h1 : 1 ≤ k) (h3 : k ≤ 3) (h : now < a) (hm : mid (k + 1) now a = 64 * k + place k (now + 1)) :
    (a / pw k = (now + 1) / pw k → mid k now a = slot (now + 1) a ∧ slot (now + 1) a ≠ 64 * k + place k (now + 1)) ∧ (a / pw k ≠ (now + 1) / pw k → mid k now a = 64 * k + place k (now + 1)) := by
  unfold mid at hm ⊢
  by_cases c : k + 1 ≤ ring now a
  · rw [if_pos c] at hm
    have h2 := slot_ring hm
    have h4 := ((ring_eq h1 h3).1 h2.1).1
    refine ⟨fun he => absurd he h4, fun _ => ?_⟩
    rw [if_pos (by omega)]
    exact hm
  · rw [if_neg c] at hm
    have h2 := slot_ring hm
    rw [if_pos (by omega)]
    refine ⟨fun he => ⟨rfl, fun h5 => ?_⟩, fun he => ?_⟩
    · have h6 := slot_ring h5
      exact ((ring_eq h1 h3).1 h6.1).1 he
    · rw [slot_next h (.inr (by rw [h2.1]; exact he))]
      exact hm
theorem mid1 {now a : Int} (h : now < a) : mid 1 now a = slot (now + 1) a := by
  unfold mid
  by_cases c : 1 ≤ ring now a
  · rw [if_pos c]
  · rw [if_neg c]
    exact (slot_next h (.inl (by omega))).symm
/-- what is due now stands in one place -/
theorem due_slot {now a : Int} (h : now ≤ a) : slot now a = place 0 now ↔ a = now := by
  constructor
  · intro hs
    have h1 : ring now a = 0 ∧ place 0 a = place 0 now := slot_ring (k := 0) (by omega)
    have h2 := ring0.1 h1.1
    have h3 := h1.2
    unfold place pw at h3
    simp at h3
    omega
  · rintro rfl
    have h1 : ring a a = 0 := ring0.2 ⟨rfl, rfl, rfl⟩
    unfold slot
    rw [h1]
    omega

def upd (pl : Nat → List Itm) (p : Nat) (l : List Itm) : Nat → List Itm := fun j => if j = p then l else pl j
def add (pl : Nat → List Itm) (p : Nat) (i : Itm) : Nat → List Itm := upd pl p (pl p ++ [i])
/-- where an item of a place of ring k that now has come into goes -/
def goes (now : Int) (k : Nat) (i : Itm) : Nat := if i.at_ / pw k = now / pw k then slot now i.at_ else 64 * k + place k now
def pass (now : Int) (k : Nat) (pl : Nat → List Itm) : Nat → List Itm :=
  if now % pw k ≠ 0 then pl else (pl (64 * k + place k now)).foldl (fun q i => add q (goes now k i) i) (upd pl (64 * k + place k now) [])
def cascade (now : Int) (pl : Nat → List Itm) : Nat → List Itm := pass now 1 (pass now 2 (pass now 3 pl))
/-- each place holds the items of S whose place it is -/
def Slots (f : Int → Nat) (pl : Nat → List Itm) (S : List Itm) : Prop := ∀ j, j < 256 → (pl j).Perm (S.filter fun i => decide (f i.at_ = j))
theorem fold_add (f : Itm → Nat) : ∀ (l : List Itm) (pl : Nat → List Itm) (j : Nat), (l.foldl (fun q i => add q (f i) i) pl) j = pl j ++ l.filter (fun i => decide (f i = j))
  | [], pl, j => by simp
  | i :: l, pl, j => by
    rw [List.foldl_cons, fold_add f l]
    unfold add upd
    by_cases c : f i = j
    · subst c
      simp
    · simp only [List.filter_cons, decide_eq_true_eq, if_neg c]
      rw [if_neg (fun e => c e.symm)]
theorem filter_two (p q : Itm → Bool) : ∀ (l : List Itm), (∀ i ∈ l, ¬ (p i = true ∧ q i = true)) → (l.filter fun i => p i || q i).Perm (l.filter p ++ l.filter q)
  | [], _ => by simp
  | i :: l, h => by
    have ih := filter_two p q l (fun x hx => h x (List.mem_cons_of_mem _ hx))
    have h0 := h i (List.mem_cons_self ..)
    by_cases c : p i = true
    · have c2 : ¬ q i = true := fun e => h0 ⟨c, e⟩
      rw [List.filter_cons_of_pos (by simp [c]), List.filter_cons_of_pos c, List.filter_cons_of_neg c2, List.cons_append]
      exact ih.cons _
    · by_cases c2 : q i = true
      · rw [List.filter_cons_of_pos (by simp [c2]), List.filter_cons_of_neg c, List.filter_cons_of_pos c2]
        exact (ih.cons _).trans (List.perm_middle.symm)
      · rw [List.filter_cons_of_neg (by simp [c, c2]), List.filter_cons_of_neg c, List.filter_cons_of_neg c2]
        exact ih
theorem pass_slots {now : Int} {k : Nat} (h1 : 1 ≤ k) (h3 : k ≤ 3) {pl : Nat → List Itm} {S : List Itm} (hS : ∀ i ∈ S, now < i.at_) (h : Slots (mid (k + 1) now) pl S) : Slots (mid k now) (pass (now + 1) k pl) S := by
  intro j hj
  unfold pass
  by_cases c : (now + 1) % pw k ≠ 0
  · rw [if_pos c]
    refine (h j hj).trans (List.Perm.of_eq (List.filter_congr fun i hi => ?_))
    rw [mid_same h1 h3 (hS i hi) c]
  · rw [if_neg c]
    have hp : 64 * k + place k (now + 1) < 256 := by have := place_lt k (now + 1); omega
    generalize hpp : 64 * k + place k (now + 1) = p at hp
    rw [fold_add]
    have e1 : ((pl p).filter fun i => decide (goes (now + 1) k i = j)).Perm (S.filter fun i => decide (mid (k + 1) now i.at_ = p) && decide (goes (now + 1) k i = j)) := by
      have := (h p hp).filter (fun i => decide (goes (now + 1) k i = j))
      rw [List.filter_filter] at this
      refine this.trans (List.Perm.of_eq (List.filter_congr fun i hi => ?_))
      rw [Bool.and_comm]
    have e2 : (upd pl p [] j).Perm (S.filter fun i => decide (mid (k + 1) now i.at_ ≠ p) && decide (mid (k + 1) now i.at_ = j)) := by
      unfold upd
      by_cases cj : j = p
      · rw [if_pos cj]
        refine List.Perm.of_eq (List.filter_eq_nil_iff.2 fun i hi => ?_).symm
        subst cj
        simp
      · rw [if_neg cj]
        refine (h j hj).trans (List.Perm.of_eq (List.filter_congr fun i hi => ?_))
        by_cases cm : mid (k + 1) now i.at_ = j
        · rw [decide_eq_true cm, decide_eq_true (show mid (k + 1) now i.at_ ≠ p by rw [cm]; exact cj)]; rfl
        · rw [decide_eq_false cm, Bool.and_false]
    refine (List.Perm.append e2 e1).trans ((filter_two _ _ S fun i hi hh => ?_).symm.trans (List.Perm.of_eq (List.filter_congr fun i hi => ?_)))
    · simp only [Bool.and_eq_true, decide_eq_true_eq] at hh
      exact hh.1.1 hh.2.1
    · rw [Bool.eq_iff_iff]
      simp only [Bool.or_eq_true, Bool.and_eq_true, decide_eq_true_eq]
      by_cases cm : mid (k + 1) now i.at_ = p
      · have hh := mid_here h1 h3 (hS i hi) (by rw [hpp]; exact cm)
        unfold goes
        rw [hpp] at hh ⊢
        by_cases cd : i.at_ / pw k = (now + 1) / pw k
        · rw [if_pos cd, (hh.1 cd).1]
          constructor
          · rintro (h5 | h5)
            · exact absurd cm h5.1
            · exact h5.2
          · exact fun h5 => .inr ⟨cm, h5⟩
        · rw [if_neg cd, hh.2 cd]
          constructor
          · rintro (h5 | h5)
            · exact absurd cm h5.1
            · exact h5.2
          · exact fun h5 => .inr ⟨cm, h5⟩
      · rw [mid_far h1 h3 (hS i hi) (by rw [hpp]; exact cm)]
        constructor
        · rintro (h5 | h5)
          · exact h5.2
          · exact absurd h5.1 cm
        · exact fun h5 => .inl ⟨cm, h5⟩
theorem cascade_slots {now : Int} {pl : Nat → List Itm} {S : List Itm} (hS : ∀ i ∈ S, now < i.at_) (h : Slots (slot now) pl S) : Slots (slot (now + 1)) (cascade (now + 1) pl) S := by
  have h4 : Slots (mid 4 now) pl S := fun j hj => (h j hj).trans (List.Perm.of_eq (List.filter_congr fun i hi => by rw [mid4]))
  have h1 := pass_slots (k := 1) (by omega) (by omega) hS (pass_slots (k := 2) (by omega) (by omega) hS (pass_slots (k := 3) (by omega) (by omega) hS h4))
  exact fun j hj => (h1 j hj).trans (List.Perm.of_eq (List.filter_congr fun i hi => by rw [mid1 (hS i hi)]))

/-- the items in order -/
def ins (i : Itm) (S : List Itm) : List Itm := S.filter (fun x => decide (before x i)) ++ i :: S.filter (fun x => !decide (before x i))
def del (id : Int) (S : List Itm) : List Itm := S.filter fun x => decide (x.id ≠ id)
def upto (to : Int) (S : List Itm) : List Itm := S.filter fun x => decide (x.at_ ≤ to)
def past (to : Int) (S : List Itm) : List Itm := S.filter fun x => decide (to < x.at_)
theorem before_trans {a b c : Itm} (h : before a b) (k : before b c) : before a c := by unfold before at *; omega
theorem before_irr (a : Itm) : ¬ before a a := by unfold before; omega
theorem before_tot {a b : Itm} (h : ¬ before a b) (hid : a.id ≠ b.id) : before b a := by unfold before at *; omega
theorem sorted_eq : ∀ {a b : List Itm}, a.Pairwise (fun x y => ¬ before y x) → b.Pairwise before → a.Perm b → a = b
  | [], b, _, _, h => by rw [h.symm.eq_nil]
  | x :: a, [], _, _, h => by have := h.length_eq; simp at this
  | x :: a, y :: b, h1, h2, h => by
    rw [List.pairwise_cons] at h1 h2
    have hx : x ∈ y :: b := h.subset (List.mem_cons_self ..)
    have hy : y ∈ x :: a := h.symm.subset (List.mem_cons_self ..)
    have e : x = y := by
      rcases List.mem_cons.1 hx with e | hx
      · exact e
      · rcases List.mem_cons.1 hy with e | hy
        · exact e.symm
        · exact absurd (h2.1 x hx) (h1.1 y hy)
    subst e
    rw [sorted_eq h1.2 h2.2 h.cons_inv]
theorem ins_perm (i : Itm) (S : List Itm) : (ins i S).Perm (i :: S) := by
  unfold ins
  refine List.perm_middle.trans (List.Perm.cons _ ?_)
  exact List.filter_append_perm (fun x => decide (before x i)) S
theorem ins_sorted {i : Itm} {S : List Itm} (h : S.Pairwise before) (hid : ∀ x ∈ S, x.id ≠ i.id) : (ins i S).Pairwise before := by
  unfold ins
  rw [List.pairwise_append, List.pairwise_cons]
  refine ⟨h.filter _, ⟨fun x hx => ?_, h.filter _⟩, fun x hx y hy => ?_⟩
  · rw [List.mem_filter] at hx
    refine before_tot (a := x) (b := i) ?_ (hid x hx.1)
    have := hx.2
    simpa using this
  · rw [List.mem_filter] at hx
    have hx2 : before x i := by have := hx.2; simpa using this
    rcases List.mem_cons.1 hy with rfl | hy
    · exact hx2
    · rw [List.mem_filter] at hy
      have hy2 : ¬ before y i := by have := hy.2; simpa using this
      exact before_trans hx2 (before_tot hy2 (hid y hy.1))
theorem Inv.of {now : Int} {pl : Nat → List Itm} {S : List Itm} (h1 : S.Pairwise before) (h2 : S.Pairwise (fun a b => a.id ≠ b.id)) (h3 : ∀ i ∈ S, now < i.at_ ∧ i.at_ ≤ 226157759 ∧ i.at_ - now ≤ 262144) (h4 : Slots (slot now) pl S) : Inv now pl S := ⟨h1, h2, h3, h4⟩
theorem Inv.slot {now : Int} {pl : Nat → List Itm} {S : List Itm} (h : Inv now pl S) : Slots (slot now) pl S := h.slots
theorem Inv.new (now : Int) : Inv now (fun _ => []) [] := ⟨.nil, .nil, fun i hi => (by cases hi), fun j hj => by simp⟩
/-- an item more -/
theorem Inv.put {now : Int} {pl : Nat → List Itm} {S : List Itm} (h : Inv now pl S) {i : Itm} (hid : ∀ x ∈ S, x.id ≠ i.id) (ht : now < i.at_ ∧ i.at_ ≤ 226157759 ∧ i.at_ - now ≤ 262144) : Inv now (add pl (Wh.slot now i.at_) i) (ins i S) := by
  refine ⟨ins_sorted h.sorted hid, ?_, fun x hx => ?_, fun j hj => ?_⟩
  · have h5 : (i :: S).Pairwise (fun a b => a.id ≠ b.id) := List.pairwise_cons.2 ⟨fun x hx => fun e => hid x hx e.symm, h.ids⟩
    exact (ins_perm i S).symm.pairwise h5 (fun {a b} hab => fun e => hab e.symm)
  · rcases List.mem_cons.1 ((ins_perm i S).subset hx) with rfl | hx
    · exact ht
    · exact h.times x hx
  · have h6 := ((ins_perm i S).filter (fun x => decide (Wh.slot now x.at_ = j))).symm
    refine List.Perm.trans ?_ h6
    unfold add upd
    by_cases c : j = Wh.slot now i.at_
    · rw [if_pos c, List.filter_cons_of_pos (by simp [c])]
      refine (List.perm_append_comm).trans ?_
      rw [List.singleton_append, ← c]
      exact (h.slots j hj).cons _
    · rw [if_neg c, List.filter_cons_of_neg (by simpa using fun e => c e.symm)]
      exact h.slots j hj
/-- an item less -/
theorem Inv.cut {now : Int} {pl pl' : Nat → List Itm} {S : List Itm} (h : Inv now pl S) {id at_ : Int} (hin : ∀ x ∈ S, x.id = id → x.at_ = at_) (hpl : ∀ j, pl' j = pl j ∨ pl' j = (pl j).filter (fun x => decide (x.id ≠ id))) (hpk : ∀ k, k < 4 → pl' (64 * k + place k at_) = (pl (64 * k + place k at_)).filter (fun x => decide (x.id ≠ id))) : Inv now pl' (del id S) := by
  refine ⟨h.sorted.filter _, h.ids.filter _, fun x hx => h.times x (List.mem_filter.1 hx).1, fun j hj => ?_⟩
  have h5 : ((pl j).filter (fun x => decide (x.id ≠ id))).Perm ((del id S).filter fun i => decide (Wh.slot now i.at_ = j)) := by
    have := (h.slots j hj).filter (fun x => decide (x.id ≠ id))
    unfold del
    rw [List.filter_filter] at this ⊢
    refine this.trans (List.Perm.of_eq (List.filter_congr fun i hi => by rw [Bool.and_comm]))
  by_cases c : j = Wh.slot now at_
  · have := hpk (ring now at_) (ring_lt _ _)
    rw [show 64 * ring now at_ + place (ring now at_) at_ = j from c.symm] at this
    rw [this]
    exact h5
  · have e : (pl j).filter (fun x => decide (x.id ≠ id)) = pl j := List.filter_eq_self.2 fun x hx => by
      have hx2 := List.mem_filter.1 ((h.slots j hj).subset hx)
      rw [decide_eq_true_eq]
      intro e
      have ha := hin x hx2.1 e
      have hs : Wh.slot now x.at_ = j := by simpa using hx2.2
      exact c (by rw [← hs, ha])
    have e2 : pl' j = (pl j).filter (fun x => decide (x.id ≠ id)) := by
      rcases hpl j with e1 | e1
      · rw [e1, e]
      · exact e1
    rw [e2]
    exact h5
/-- one minute -/
theorem Inv.tick {now : Int} {pl : Nat → List Itm} {S : List Itm} (h : Inv now pl S) :
    (cascade (now + 1) pl (place 0 (now + 1))).Perm (S.filter fun x => decide (x.at_ = now + 1)) ∧ Inv (now + 1) (upd (cascade (now + 1) pl) (place 0 (now + 1)) []) (past (now + 1) S) := by
  have hS : ∀ i ∈ S, now < i.at_ := fun i hi => (h.times i hi).1
  have hc := cascade_slots hS h.slots
  have hp := place_lt 0 (now + 1)
  refine ⟨(hc _ (by omega)).trans (List.Perm.of_eq (List.filter_congr fun i hi => ?_)), h.sorted.filter _, h.ids.filter _, fun x hx => ?_, fun j hj => ?_⟩
  · rw [decide_eq_decide]
    exact due_slot (by have := hS i hi; omega)
  · obtain ⟨h1, h2⟩ := List.mem_filter.1 hx
    have h3 := h.times x h1
    have h4 : now + 1 < x.at_ := by simpa using h2
    omega
  · unfold upd past
    rw [List.filter_filter]
    by_cases c : j = place 0 (now + 1)
    · rw [if_pos c]
      refine List.Perm.of_eq (List.filter_eq_nil_iff.2 fun i hi hh => ?_).symm
      simp only [Bool.and_eq_true, decide_eq_true_eq] at hh
      have := (due_slot (now := now + 1) (a := i.at_) (by omega)).1 (by rw [hh.1, c])
      omega
    · rw [if_neg c]
      refine (hc j hj).trans (List.Perm.of_eq (List.filter_congr fun i hi => ?_))
      by_cases cs : Wh.slot (now + 1) i.at_ = j
      · have h1 := hS i hi
        have h2 : i.at_ ≠ now + 1 := fun e => c (by rw [← cs]; exact (due_slot (now := now + 1) (by omega)).2 e)
        rw [decide_eq_true cs, decide_eq_true (show now + 1 < i.at_ by omega)]; rfl
      · rw [decide_eq_false cs]; rfl
theorem Inv.jump {now to : Int} {pl : Nat → List Itm} (h : Inv now pl []) : Inv to pl [] := ⟨.nil, .nil, fun i hi => (by cases hi), fun j hj => by have := h.slots j hj; simpa using this⟩
theorem upto_step {now : Int} {S0 : List Itm} (h : S0.Pairwise before) : upto now S0 ++ (past now S0).filter (fun x => decide (x.at_ = now + 1)) = upto (now + 1) S0 ∧ past (now + 1) (past now S0) = past (now + 1) S0 := by
  constructor
  · unfold upto past
    rw [List.filter_filter]
    induction S0 with
    | nil => rfl
    | cons x S ih =>
      rw [List.pairwise_cons] at h
      have ih := ih h.2
      by_cases c1 : x.at_ ≤ now
      · rw [List.filter_cons_of_pos (by simpa using c1), List.filter_cons_of_neg (by simp; omega), List.filter_cons_of_pos (by simp; omega), List.cons_append, ih]
      · have e0 : S.filter (fun x => decide (x.at_ ≤ now)) = [] := List.filter_eq_nil_iff.2 fun y hy => by have := h.1 y hy; unfold before at this; simp; omega
        rw [List.filter_cons_of_neg (by simpa using c1), e0, List.nil_append]
        rw [e0, List.nil_append] at ih
        by_cases c2 : x.at_ = now + 1
        · rw [List.filter_cons_of_pos (by simp; omega), List.filter_cons_of_pos (by simp; omega), ih]
        · rw [List.filter_cons_of_neg (by simp; omega), List.filter_cons_of_neg (by simp; omega), ih]
  · unfold past
    rw [List.filter_filter]
    exact List.filter_congr fun i hi => by by_cases c : now + 1 < i.at_ <;> simp [c]; omega
end Wh
end Go.Proofs.Ytheocdfccdpmbaa
