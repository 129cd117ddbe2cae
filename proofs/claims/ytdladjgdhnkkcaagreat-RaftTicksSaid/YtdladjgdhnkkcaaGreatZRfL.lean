
/-
  What becomes of a right node is right; its term and what it holds for agreed on never fall.
  Conditions: stated lemma by lemma.
-/
import Derived.Test.YtdladjgdhnkkcaaGreatZRfDToRfP
namespace Go.Proofs.YtdladjgdhnkkcaaGreat
set_option linter.unusedVariables false

namespace Rf
/-- what a holds for agreed on stands in c, as far as c has it -/
def Kept (a c : Nod) : Prop := a.b ≤ c.b ∧ ∀ i : Nat, i < a.es.length → a.b + 1 + i ≤ a.commit → c.b < a.b + 1 + i → (a.b + 1 + i - c.b - 1).toNat < c.es.length ∧ c.es.getD (a.b + 1 + i - c.b - 1).toNat default = a.es.getD i default
/-- a node goes on -/
structure Go (r s : Nod) : Prop where
  base : Base s
  id : s.id = r.id
  conf : s.conf = r.conf
  term : r.term ≤ s.term
  vote : s.term = r.term → r.vote ≠ 0 → s.vote = r.vote
  com : r.commit ≤ s.commit
  kept : Kept r s
theorem Kept.of {a c : Nod} (hb : c.b = a.b) (h : ∀ i : Nat, i < a.es.length → a.b + 1 + i ≤ a.commit → i < c.es.length ∧ c.es.getD i default = a.es.getD i default) : Kept a c := by
  refine ⟨by omega, fun i hi hc hn => ?_⟩
  have e : (a.b + 1 + i - c.b - 1).toNat = i := by omega
  rw [e]
  exact h i hi hc
theorem Kept.same {a c : Nod} (hb : c.b = a.b) (he : c.es = a.es) : Kept a c := Kept.of hb fun i hi _ => by rw [he]; exact ⟨hi, rfl⟩
theorem Go.trans {a b c : Nod} (h : Go a b) (k : Go b c) : Go a c := by
  refine ⟨k.base, k.id.trans h.id, k.conf.trans h.conf, Int.le_trans h.term k.term, fun ht hv => ?_, Int.le_trans h.com k.com, Int.le_trans h.kept.1 k.kept.1, fun i hi hc hn => ?_⟩
  · have h1 := h.term
    have h2 := k.term
    have hb : b.vote = a.vote := h.vote (by omega) hv
    rw [← hb]
    exact k.vote (by omega) (by rw [hb]; exact hv)
  · have h1 := k.kept.1
    have h2 := h.com
    obtain ⟨p, q⟩ := h.kept.2 i hi hc (by omega)
    generalize hk : (a.b + 1 + i - b.b - 1).toNat = n at p q
    have e : b.b + 1 + (n : Int) = a.b + 1 + i := by omega
    obtain ⟨p', q'⟩ := k.kept.2 n p (by omega) (by omega)
    rw [e] at p' q'
    exact ⟨p', q'.trans q⟩
/-- only what stands beside the log and the term changes -/
theorem Go.light {r s : Nod} (h : Base s) (h1 : s.id = r.id) (h2 : s.conf = r.conf) (h3 : s.term = r.term) (h4 : r.vote ≠ 0 → s.vote = r.vote) (h5 : r.commit ≤ s.commit) (h6 : s.b = r.b) (h7 : s.es = r.es) : Go r s :=
  ⟨h, h1, h2, by omega, fun _ => h4, h5, .same h6 h7⟩

theorem agree_eq {r : Nod} (h : Base r) : ∃ c, agree r = { r with commit := c } ∧ r.commit ≤ c ∧ c ≤ r.b + r.es.length := by
  unfold agree
  split
  · rename_i hh
    exact ⟨_, rfl, by omega, (Tr.has_chk hh.1).2.2⟩
  · exact ⟨r.commit, rfl, Int.le_refl _, h.com1⟩
theorem agree_go {r : Nod} (h : Base r) : Go r (agree r) := by
  obtain ⟨c, e, h1, h2⟩ := agree_eq h
  rw [e]
  exact .light { h with com0 := Int.le_trans h.com0 h1, com1 := h2 } rfl rfl rfl (fun _ => rfl) h1 rfl rfl
theorem agree_lead {r : Nod} (h : Base r) (k : Lead r) (hr : r.role = 2) (hv : r.votes = []) : Role (agree r) := by
  obtain ⟨c, e, _, _⟩ := agree_eq h
  rw [e]
  exact .inr (.inr ⟨hr, hv, { k with }⟩)
theorem agree_es (r : Nod) : (agree r).b = r.b ∧ (agree r).es = r.es ∧ (agree r).term = r.term ∧ (agree r).role = r.role := by
  unfold agree; split <;> exact ⟨rfl, rfl, rfl, rfl⟩

theorem app_some {r : Nod} {s : ByteArray} {es : List En} (h : app r s = some es) : es = r.es ++ [(r.term, s)] ∧ Tr.chk r.b r.bt es = true := by
  unfold app at h
  split at h
  · unfold Tr.with_ at h
    split at h
    · rename_i h1 h2
      cases h
      rw [List.take_length] at h2 ⊢
      exact ⟨rfl, h2⟩
    · cases h
  · cases h
theorem grow_eq {r : Nod} (h : Base r) (s : ByteArray) : ∃ es, grow r s = { r with es := es } ∧ Tr.chk r.b r.bt es = true ∧ Fit r.term r.bt es ∧ r.es.length ≤ es.length ∧ ∀ i, i < r.es.length → es.getD i default = r.es.getD i default := by
  unfold grow
  cases hs : app r s with
  | none => exact ⟨r.es, rfl, h.trail, h.fit, Nat.le_refl _, fun _ _ => rfl⟩
  | some es =>
    obtain ⟨rfl, hc⟩ := app_some hs
    refine ⟨_, rfl, hc, ⟨h.fit.1, fun e he => ?_⟩, by simp, fun i hi => Tr.getD_left _ _ _ _ hi⟩
    rcases List.mem_append.1 he with he | he
    · exact h.fit.2 e he
    · obtain rfl := List.mem_singleton.1 he
      exact Int.le_refl _
theorem grow_go {r : Nod} (h : Base r) (s : ByteArray) : Go r (grow r s) := by
  obtain ⟨es, e, h1, h2, h3, h4⟩ := grow_eq h s
  rw [e]
  refine ⟨{ h with trail := h1, fit := h2, com1 := ?_ }, rfl, rfl, Int.le_refl _, fun _ _ => rfl, Int.le_refl _, .of rfl fun i hi _ => ⟨by show i < es.length; omega, h4 i hi⟩⟩
  have := h.com1
  show r.commit ≤ r.b + es.length
  omega
theorem grow_len {r : Nod} (h : Base r) (s : ByteArray) : r.b + r.es.length ≤ (grow r s).b + (grow r s).es.length := by
  obtain ⟨es, e, h1, h2, h3, h4⟩ := grow_eq h s
  rw [e]
  show r.b + r.es.length ≤ r.b + es.length
  omega
theorem idx_lt {v : Int} : ∀ {l : List Int}, v ∈ l → idx v l < l.length
  | [], h => by simp at h
  | x :: l, h => by
    unfold idx
    split
    · simp
    · rename_i hne
      have : v ∈ l := by rcases List.mem_cons.1 h with h | h; exact absurd h.symm hne; exact h
      have := idx_lt this
      simp only [List.length_cons]
      omega
theorem set_get (l : List Int) (i j : Nat) (x : Int) (hi : i < l.length) : (l.set i x).getD j 0 = if j = i then x else l.getD j 0 := by
  by_cases h : j = i
  · subst h; simp [hi]
  · rw [if_neg h]; simp [Ne.symm h]
/-- numbers of a leader, one pair new -/
theorem lead_set {r : Nod} (k : Lead r) (i : Nat) (hi : i < r.conf.length) (m n : Int) (h1 : 0 ≤ m) (h2 : m ≤ r.b + r.es.length) (h3 : m < n) (h4 : n ≤ r.b + r.es.length + 1) : Lead { r with mtch := r.mtch.set i m, next := r.next.set i n } := by
  refine ⟨k.vote, k.leader, by simpa using k.next, by simpa using k.mtch, fun j hj => ?_⟩
  simp only
  rw [set_get _ _ _ _ (by rw [k.mtch]; exact hi), set_get _ _ _ _ (by rw [k.next]; exact hi)]
  split
  · exact ⟨h1, h2, h3, h4⟩
  · exact k.nums j hj
theorem own_lead {r : Nod} (h : Base r) (k : Lead r) : Lead (own r) := by
  unfold own lastN
  rw [lastN_eq h.trail]
  have := Tr.chk_rim h.trail
  exact lead_set k _ (idx_lt h.id) _ _ (by omega) (Int.le_refl _) (by omega) (Int.le_refl _)
theorem grow_lead {r : Nod} (h : Base r) (k : Lead r) (s : ByteArray) : Lead (grow r s) := by
  obtain ⟨es, e, h1, h2, h3, h4⟩ := grow_eq h s
  rw [e]
  refine ⟨k.vote, k.leader, k.next, k.mtch, fun i hi => ?_⟩
  have := k.nums i hi
  simp only
  omega
/-- a leader's log grows: what lead and propose have in common -/
theorem more_go {r : Nod} (h : Base r) (k : Lead r) (hr : r.role = 2) (hv : r.votes = []) (s : ByteArray) : Go r (agree (own (grow r s))) ∧ Role (agree (own (grow r s))) ∧ r.b + r.es.length ≤ (agree (own (grow r s))).b + (agree (own (grow r s))).es.length := by
  have hg := grow_go h s
  have kg := grow_lead h k s
  have hl := grow_len h s
  have hgr : (grow r s).role = 2 ∧ (grow r s).votes = [] := ⟨hr, hv⟩
  generalize grow r s = q at *
  have ho : Base (own q) := { hg.base with }
  have ko := own_lead hg.base kg
  have hgo : Go q (own q) := .light ho rfl rfl rfl (fun _ => rfl) (Int.le_refl _) rfl rfl
  refine ⟨(hg.trans hgo).trans (agree_go ho), agree_lead ho ko hgr.1 hgr.2, ?_⟩
  rw [(agree_es _).1, (agree_es _).2.1]
  exact hl
theorem lead0_lead {r : Nod} (h : Base r) (hv : r.vote = r.id) : Lead (lead0 r) := by
  refine ⟨hv, rfl, by simp [lead0], by simp [lead0], fun i hi => ?_⟩
  have hi' : i < r.conf.length := hi
  have := Tr.chk_rim h.trail
  simp only [lead0, lastN, lastN_eq h.trail, List.getD_eq_getElem?_getD, List.getElem?_replicate, hi', if_true, Option.getD_some]
  omega
theorem lead_go {r : Nod} (h : Base r) (hv : r.vote = r.id) : Go r (lead r) ∧ Role (lead r) := by
  have h0 : Base (lead0 r) := { h with leader := .inr h.id, left0 := (show (0 : Int) ≤ 2 by decide), left1 := (show (2 : Int) ≤ 100 by decide) }
  have hg0 : Go r (lead0 r) := .light h0 rfl rfl rfl (fun _ => rfl) (Int.le_refl _) rfl rfl
  obtain ⟨h1, h2, _⟩ := more_go h0 (lead0_lead h hv) rfl rfl ByteArray.empty
  exact ⟨hg0.trans h1, h2⟩
theorem draw_in (d : Int) : 0 ≤ draw0 d % 10 ∧ draw0 d % 10 < 10 := ⟨Int.emod_nonneg _ (by decide), Int.emod_lt_of_pos _ (by decide)⟩
theorem stand0_go {r : Nod} (h : Base r) (ht : r.term < 1099511627776) (d : Int) : Go r (stand0 r d) := by
  have hd := draw_in d
  have h0 := h.term0
  refine ⟨?_, rfl, rfl, by show r.term ≤ r.term + 1; omega, fun e => ?_, Int.le_refl _, .same rfl rfl⟩
  · exact { h with term0 := (by show 0 ≤ r.term + 1; omega), term1 := (by show r.term + 1 ≤ 1099511627776; omega), vote := .inr h.id, leader := .inl rfl, fit := h.fit.mono (by show r.term ≤ r.term + 1; omega), left0 := (by show 0 ≤ 10 + draw0 d % 10; omega), left1 := (by show 10 + draw0 d % 10 ≤ 100; omega), wait0 := (by show 10 ≤ 10 + draw0 d % 10; omega), wait1 := (by show 10 + draw0 d % 10 < 20; omega) }
  · have : r.term + 1 = r.term := e
    exact absurd this (by omega)
theorem stand_go {r : Nod} (h : Base r) (hR : Role r) (hr : r.role ≠ 2) (d : Int) : Go r (stand r d).1 ∧ Role (stand r d).1 := by
  unfold stand
  split
  · exact ⟨.light h rfl rfl rfl (fun _ => rfl) (Int.le_refl _) rfl rfl, hR⟩
  · rename_i ht
    have hg := stand0_go h (by omega) d
    split
    · obtain ⟨h1, h2⟩ := lead_go hg.base (show (stand0 r d).vote = (stand0 r d).id from rfl)
      exact ⟨hg.trans h1, h2⟩
    · rename_i hw
      refine ⟨hg, .inr (.inl ⟨rfl, ⟨rfl, (show 0 < 1 by decide), rfl, (by show Qm.wins r.conf [r.id] = false; simpa using hw), ?_⟩, rfl, rfl⟩)⟩
      simp [vok, stand0, h.id]
/-- behind a tick -/
theorem tick_go {r : Nod} (h : Base r) (hR : Role r) (d : Int) : Go r (tick r d).1 ∧ Role (tick r d).1 ∧ (r.role = 2 → r.b + r.es.length ≤ (tick r d).1.b + (tick r d).1.es.length) := by
  have h0 := h.left0
  have h1 := h.left1
  unfold tick
  rw [if_pos ((chk_iff r).2 ⟨h, hR⟩)]
  split
  · rename_i hl
    refine ⟨.light { h with left0 := by show 0 ≤ r.left - 1; omega, left1 := by show r.left - 1 ≤ 100; omega } rfl rfl rfl (fun _ => rfl) (Int.le_refl _) rfl rfl, ?_, fun _ => Int.le_refl _⟩
    rcases hR with ⟨a, b, c, d⟩ | ⟨a, b, c, d⟩ | ⟨a, b, c⟩
    · exact .inl ⟨a, b, c, d⟩
    · exact .inr (.inl ⟨a, { b with }, c, d⟩)
    · exact .inr (.inr ⟨a, b, { c with }⟩)
  · split
    · rename_i hr
      refine ⟨.light { h with left0 := (show (0 : Int) ≤ 2 by decide), left1 := (show (2 : Int) ≤ 100 by decide) } rfl rfl rfl (fun _ => rfl) (Int.le_refl _) rfl rfl, ?_, fun _ => Int.le_refl _⟩
      rcases hR with ⟨a, b, c, d⟩ | ⟨a, b, c, d⟩ | ⟨a, b, c⟩
      · omega
      · omega
      · exact .inr (.inr ⟨a, b, { c with }⟩)
    · rename_i hr
      have hb : Base { r with left := 0 } := { h with left0 := (show (0 : Int) ≤ 0 by decide), left1 := (show (0 : Int) ≤ 100 by decide) }
      have hR' : Role { r with left := 0 } := by
        rcases hR with ⟨a, b, c, d⟩ | ⟨a, b, c, d⟩ | ⟨a, b, c⟩
        · exact .inl ⟨a, b, c, d⟩
        · exact .inr (.inl ⟨a, { b with }, c, d⟩)
        · omega
      obtain ⟨g1, g2⟩ := stand_go hb hR' hr d
      refine ⟨Go.trans (.light hb rfl rfl rfl (fun _ => rfl) (Int.le_refl _) rfl rfl) g1, g2, fun e => absurd e hr⟩

/-- what a message is that may be -/
structure Takes (r : Nod) (m : Msg) : Prop where
  k0 : 1 ≤ m.kind
  k1 : m.kind ≤ 5
  dst : m.dst = r.id
  src : m.src ≠ r.id
  mem : m.src ∈ r.conf
  t0 : 1 ≤ m.term
  t1 : m.term ≤ 1099511627776
  i0 : 0 ≤ m.index
  i1 : m.index ≤ 1099511627776
  l0 : 0 ≤ m.lterm
  l1 : m.lterm ≤ m.term
  c0 : 0 ≤ m.commit
  c1 : m.commit ≤ 1099511627776
  es : m.es.length ≤ 8
  data : m.data.size ≤ 60000
  fol : folm m.term m.lterm m.es = true
theorem takes_iff (r : Nod) (m : Msg) : takes r m = true ↔ Takes r m := by
  unfold takes takes1 takes2
  simp only [Bool.and_eq_true, decide_eq_true_eq]
  constructor
  · rintro ⟨⟨⟨⟨⟨⟨⟨⟨a1, a2⟩, a3⟩, a4⟩, a5⟩, a6⟩, a7⟩, ⟨⟨⟨⟨⟨⟨⟨b1, b2⟩, b3⟩, b4⟩, b5⟩, b6⟩, b7⟩, b8⟩⟩, c⟩
    exact ⟨a1, a2, a3, a4, a5, a6, a7, b1, b2, b3, b4, b5, b6, b7, b8, c⟩
  · rintro ⟨a1, a2, a3, a4, a5, a6, a7, b1, b2, b3, b4, b5, b6, b7, b8, c⟩
    exact ⟨⟨⟨⟨⟨⟨⟨⟨a1, a2⟩, a3⟩, a4⟩, a5⟩, a6⟩, a7⟩, ⟨⟨⟨⟨⟨⟨⟨b1, b2⟩, b3⟩, b4⟩, b5⟩, b6⟩, b7⟩, b8⟩⟩, c⟩
theorem folm_all {T : Int} : ∀ {t : Int} {l : List En}, folm T t l = true → ∀ e ∈ l, e.1 ≤ T
  | t, [], _, e, he => by simp at he
  | t, x :: l, h, e, he => by
    simp only [folm, Bool.and_eq_true, decide_eq_true_eq] at h
    rcases List.mem_cons.1 he with rfl | he
    · exact h.1.2.2.1
    · exact folm_all h.2 e he
theorem folm_fol {T : Int} (hT : T ≤ 1099511627776) : ∀ {t : Int} {l : List En}, folm T t l = true → Tr.fol t l = true
  | t, [], _ => rfl
  | t, x :: l, h => by
    simp only [folm, Bool.and_eq_true, decide_eq_true_eq] at h
    simp only [Tr.fol, Tr.ok, Bool.and_eq_true, decide_eq_true_eq]
    exact ⟨by omega, folm_fol hT h.2⟩

theorem put2_parts {b bt : Int} {es : List En} {k : Nat} {of : Int} {l : List En} {fixed : Int} {out : List En} (h : Tr.Put2 b bt es k of l fixed out) (hc : fixed ≤ b + es.length) : (∀ e ∈ out, e ∈ es ∨ e ∈ l) ∧ fixed ≤ b + out.length := by
  rcases h.res with ⟨_, rfl⟩ | ⟨h1, h2, _, rfl⟩
  · exact ⟨fun e he => .inl he, hc⟩
  · have ha := Tr.adv_le (es.drop k) l
    have hk := h.le
    rw [List.length_drop] at ha
    refine ⟨fun e he => ?_, ?_⟩
    · rcases List.mem_append.1 he with he | he
      · exact .inl (List.mem_of_mem_take he)
      · exact .inr (List.mem_of_mem_drop he)
    · simp only [List.length_append, List.length_take, List.length_drop]
      omega
theorem put_parts2 {b bt : Int} {es : List En} {prev of : Int} {l : List En} {fixed : Int} {out : List En} (h : Tr.put b bt es prev of l fixed = some out) (hc : fixed ≤ b + es.length) : (∀ e ∈ out, e ∈ es ∨ e ∈ l) ∧ fixed ≤ b + out.length := by
  obtain ⟨_, _, _, _, ⟨_, _, rfl⟩ | ⟨_, _, _, h⟩ | ⟨_, h⟩⟩ := (Tr.put_iff _ _ _ _ _ _ _ _).1 h
  · exact ⟨fun e he => .inl he, hc⟩
  · obtain ⟨p, q⟩ := put2_parts h hc
    exact ⟨fun e he => (p e he).imp id List.mem_of_mem_drop, q⟩
  · exact put2_parts h hc
theorem follow_go {r : Nod} (h : Base r) {m : Msg} (ht : Takes r m) : Base (follow r m) := { h with leader := .inr ht.mem, left0 := by have := h.wait0; show 0 ≤ r.wait; omega, left1 := by have := h.wait1; show r.wait ≤ 100; omega }
theorem take_go {r : Nod} (h : Base r) (hn : r.next = [] ∧ r.mtch = []) {m : Msg} (ht : Takes r m) (hm : m.term = r.term) : Go r (take r m).1 ∧ Role (take r m).1 := by
  have hf := follow_go h ht
  unfold take
  split
  · exact ⟨.light hf rfl rfl rfl (fun _ => rfl) (Int.le_refl _) rfl rfl, .inl ⟨rfl, rfl, hn.1, hn.2⟩⟩
  · rename_i es he
    unfold put at he
    obtain ⟨p1, p2⟩ := put_parts2 he hf.com1
    have p3 := Tr.put_chk he
    have hl := lastN_eq p3
    have c0 := h.com0
    refine ⟨⟨{ hf with trail := p3, fit := ⟨h.fit.1, fun e hee => ?_⟩, com0 := ?_, com1 := ?_ }, rfl, rfl, Int.le_refl _, fun _ _ => rfl, ?_, .of rfl fun i hi hc => ?_⟩, .inl ⟨rfl, rfl, hn.1, hn.2⟩⟩
    · rcases p1 e hee with h1 | h1
      · exact h.fit.2 e h1
      · have := folm_all ht.fol e h1
        show e.1 ≤ r.term
        omega
    · show r.b ≤ max r.commit _
      omega
    · show max r.commit (min (min m.commit (m.index + m.es.length)) (Tr.lastN r.b r.bt es)) ≤ r.b + es.length
      have hl' : Tr.lastN r.b r.bt es = r.b + es.length := hl
      have p2' : r.commit ≤ r.b + es.length := p2
      rw [hl']
      omega
    · show r.commit ≤ max r.commit _
      omega
    · have p2' : r.commit ≤ r.b + es.length := p2
      refine ⟨by show i < es.length; omega, Tr.put_keeps he i hi (.inr ?_)⟩
      exact hc
theorem cut_fit {T b bt : Int} {es : List En} (h : Fit T bt es) (n : Int) (hn : b ≤ n) (hn2 : n ≤ b + es.length) : Fit T (Tr.trm b bt es n) (es.drop (n - b).toNat) := by
  rw [Tr.trm_at _ _ _ _ hn]
  exact ⟨h.at_ _ (by omega), fun e he => h.2 e (List.mem_of_mem_drop he)⟩
theorem cut_chk {b bt : Int} {es : List En} (h : Tr.chk b bt es = true) (n : Int) (hn : b ≤ n) (hn2 : n ≤ b + es.length) : Tr.chk n (Tr.trm b bt es n) (es.drop (n - b).toNat) = true := by
  have hr := Tr.chk_rim h
  have hf := Tr.chk_fol h
  have he := Tr.trm_at b bt es n hn
  have hd := Tr.fol_drop (n - b).toNat (by omega) hf
  have hb : 0 ≤ Tr.at_ bt es (n - b).toNat ∧ Tr.at_ bt es (n - b).toNat ≤ 1099511627776 := by
    unfold Tr.at_
    split
    · omega
    · have := Tr.fol_get ((n - b).toNat - 1) (by omega) hf
      omega
  rw [he]
  refine Tr.chk_mk ?_ hd
  rw [List.length_drop]
  refine ⟨by omega, by omega, hb.1, hb.2, ?_, by omega, by omega⟩
  by_cases h0 : 0 < n
  · exact .inl h0
  · right
    have e0 : (n - b).toNat = 0 := by omega
    unfold Tr.at_
    rw [e0, if_pos rfl]
    omega
theorem cut_get (es : List En) (k i : Nat) (h : k ≤ i) (hi : i < es.length) : i - k < (es.drop k).length ∧ (es.drop k).getD (i - k) default = es.getD i default := by
  refine ⟨by rw [List.length_drop]; omega, ?_⟩
  rw [Tr.getD_drop]
  congr 1
  omega
theorem bundle_go {r : Nod} (h : Base r) (hn : r.next = [] ∧ r.mtch = []) {m : Msg} (ht : Takes r m) (hm : m.term = r.term) : Go r (bundle r m).1 ∧ Role (bundle r m).1 := by
  have hf := follow_go h ht
  have hr := Tr.chk_rim h.trail
  have c0 := h.com0
  have c1 := h.com1
  have i1 := ht.i1
  have l0 := ht.l0
  have l1 := ht.l1
  have t1 := ht.t1
  unfold bundle bundle1
  split
  · rename_i hc
    have hc : r.commit < m.index := hc
    split
    · rename_i hh
      have hh : cutHas r m = true := hh
      unfold cutHas at hh
      simp only [Bool.and_eq_true, decide_eq_true_eq] at hh
      obtain ⟨h1, h2⟩ := hh
      obtain ⟨_, h3, h4⟩ := Tr.has_chk h1
      unfold trm0 at h2
      rw [if_pos h1] at h2
      have k1 := cut_chk h.trail m.index h3 h4
      have k2 := cut_fit h.fit m.index h3 h4
      rw [h2] at k1 k2
      refine ⟨⟨{ hf with trail := k1, fit := k2, snap := ht.data, com0 := Int.le_refl _, com1 := ?_ }, rfl, rfl, Int.le_refl _, fun _ _ => rfl, ?_, ?_, fun i hi hc2 hn => ?_⟩, .inl ⟨rfl, rfl, hn.1, hn.2⟩⟩
      · show m.index ≤ m.index + ((r.es.drop (m.index - r.b).toNat).length : Int)
        omega
      · show r.commit ≤ m.index
        omega
      · show r.b ≤ m.index
        omega
      · exfalso
        have : m.index < r.b + 1 + i := hn
        omega
    · refine ⟨⟨{ hf with trail := ?_, fit := ⟨?_, by simp⟩, snap := ht.data, com0 := Int.le_refl _, com1 := ?_ }, rfl, rfl, Int.le_refl _, fun _ _ => rfl, ?_, ?_, fun i hi hc2 hn => ?_⟩, .inl ⟨rfl, rfl, hn.1, hn.2⟩⟩
      · show Tr.chk m.index m.lterm [] = true
        exact Tr.chk_mk ⟨by omega, i1, l0, by omega, .inl (by omega), by simp, by simpa using i1⟩ rfl
      · show m.lterm ≤ r.term
        omega
      · show m.index ≤ m.index + (([] : List En).length : Int)
        simp
      · show r.commit ≤ m.index
        omega
      · show r.b ≤ m.index
        omega
      · exfalso
        have : m.index < r.b + 1 + i := hn
        omega
  · exact ⟨.light hf rfl rfl rfl (fun _ => rfl) (Int.le_refl _) rfl rfl, .inl ⟨rfl, rfl, hn.1, hn.2⟩⟩
theorem ask_go {r : Nod} (h : Base r) (hR : Role r) {m : Msg} (ht : Takes r m) : Go r (ask r m).1 ∧ Role (ask r m).1 := by
  unfold ask
  by_cases hy : yes r m = true
  · rw [if_pos hy]
    unfold yes at hy
    simp only [Bool.and_eq_true, decide_eq_true_eq] at hy
    obtain ⟨⟨y1, y2⟩, _⟩ := hy
    have w0 := h.wait0
    have w1 := h.wait1
    refine ⟨.light { h with vote := .inr ht.mem, left0 := by show 0 ≤ r.wait; omega, left1 := by show r.wait ≤ 100; omega } rfl rfl rfl (fun hv => ?_) (Int.le_refl _) rfl rfl, ?_⟩
    · rcases y1 with e | e
      · exact absurd e hv
      · exact e.symm
    · rcases hR with ⟨a, b, c, d⟩ | ⟨a, _⟩ | ⟨a, _⟩
      · exact .inl ⟨a, b, c, d⟩
      · omega
      · omega
  · rw [if_neg hy]
    exact ⟨.light h rfl rfl rfl (fun _ => rfl) (Int.le_refl _) rfl rfl, hR⟩
theorem grant_go {r : Nod} (h : Base r) (hR : Role r) {m : Msg} (ht : Takes r m) : Go r (grant r m).1 ∧ Role (grant r m).1 := by
  unfold grant
  split
  · rename_i hh
    obtain ⟨h1, h2, h3⟩ := hh
    rcases hR with ⟨a, _⟩ | ⟨a, b, c, d⟩ | ⟨a, _⟩
    · omega
    · have hb : Base { r with votes := r.votes ++ [m.src] } := { h with }
      have hg : Go r { r with votes := r.votes ++ [m.src] } := .light hb rfl rfl rfl (fun _ => rfl) (Int.le_refl _) rfl rfl
      split
      · obtain ⟨g1, g2⟩ := lead_go hb b.vote
        exact ⟨hg.trans g1, g2⟩
      · rename_i hw
        refine ⟨hg, .inr (.inl ⟨a, ⟨b.vote, by simp, ?_, by simpa using hw, ?_⟩, c, d⟩)⟩
        · have h1 := b.first
          have h2 := b.some
          show (r.votes ++ [m.src]).getD 0 0 = r.id
          rw [Tr.getD_left _ _ _ _ h2]
          exact h1
        · show vok r.conf [] (r.votes ++ [m.src]) = true
          rw [vok_snoc, b.ok]
          simp [ht.mem, h3]
    · omega
  · exact ⟨.light h rfl rfl rfl (fun _ => rfl) (Int.le_refl _) rfl rfl, hR⟩
theorem ack_go {r : Nod} (h : Base r) (hR : Role r) {m : Msg} (ht : Takes r m) : Go r (ack r m).1 ∧ Role (ack r m).1 ∧ r.b + r.es.length ≤ (ack r m).1.b + (ack r m).1.es.length := by
  unfold ack
  split
  · exact ⟨.light h rfl rfl rfl (fun _ => rfl) (Int.le_refl _) rfl rfl, hR, Int.le_refl _⟩
  · rename_i hh
    have hr : r.role = 2 := by omega
    have hl : m.index ≤ r.b + r.es.length := by
      have : ¬ lastN r < m.index := fun e => hh (.inr e)
      unfold lastN at this
      rw [lastN_eq h.trail] at this
      omega
    have i0 := ht.i0
    have hi := idx_lt ht.mem
    rcases hR with ⟨a, _⟩ | ⟨a, _⟩ | ⟨a, b, c⟩
    · omega
    · omega
    · have hn := c.nums _ hi
      generalize idx m.src r.conf = i at *
      split
      · have hb : Base (ack1 r m i) := { h with }
        have hc : Lead (ack1 r m i) := lead_set c i hi _ _ (by omega) (by omega) (by omega) (by omega)
        refine ⟨Go.trans (.light hb rfl rfl rfl (fun _ => rfl) (Int.le_refl _) rfl rfl) (agree_go hb), agree_lead hb hc a b, ?_⟩
        rw [(agree_es _).1, (agree_es _).2.1]
        exact Int.le_refl _
      · have hb : Base (nack1 r m i) := { h with }
        have hc := lead_set c i hi (r.mtch.getD i 0) (max (min (m.index + 1) (r.next.getD i 0 - 1)) (r.mtch.getD i 0 + 1)) (by omega) (by omega) (by omega) (by omega)
        have he : r.mtch.set i (r.mtch.getD i 0) = r.mtch := by
          rw [List.getD_eq_getElem?_getD, List.getElem?_eq_getElem (by rw [c.mtch]; exact hi)]
          simp
        rw [he] at hc
        exact ⟨.light hb rfl rfl rfl (fun _ => rfl) (Int.le_refl _) rfl rfl, .inr (.inr ⟨a, b, hc⟩), Int.le_refl _⟩
theorem Takes.newer {r : Nod} {m : Msg} (h : Takes r m) : Takes (newer r m) m := by
  unfold Rf.newer
  split
  · exact { h with }
  · exact h
theorem newer_go {r : Nod} (h : Base r) (hR : Role r) {m : Msg} (ht : Takes r m) : Go r (newer r m) ∧ Role (newer r m) := by
  have t0 := ht.t0
  unfold newer
  split
  · rename_i hl
    refine ⟨⟨{ h with term0 := by show 0 ≤ m.term; omega, term1 := ht.t1, vote := .inl rfl, leader := .inl rfl, fit := h.fit.mono (by show r.term ≤ m.term; omega) }, rfl, rfl, by show r.term ≤ m.term; omega, fun e => ?_, Int.le_refl _, .same rfl rfl⟩, .inl ⟨rfl, rfl, rfl, rfl⟩⟩
    have : m.term = r.term := e
    omega
  · exact ⟨.light h rfl rfl rfl (fun _ => rfl) (Int.le_refl _) rfl rfl, hR⟩
theorem role_nil {r : Nod} (hR : Role r) (h : r.role ≠ 2) : r.next = [] ∧ r.mtch = [] := by
  rcases hR with ⟨a, b, c, d⟩ | ⟨a, b, c, d⟩ | ⟨a, _⟩
  · exact ⟨c, d⟩
  · exact ⟨c, d⟩
  · exact absurd a h
theorem same_go {r : Nod} (h : Base r) (hR : Role r) {m : Msg} (ht : Takes r m) (hm : m.term = r.term) : Go r (same r m).1 ∧ Role (same r m).1 ∧ (r.role = 2 → (same r m).1.role = 2 → r.b + r.es.length ≤ (same r m).1.b + (same r m).1.es.length) := by
  unfold same
  split
  · obtain ⟨a, b⟩ := ask_go h hR ht
    refine ⟨a, b, fun _ _ => ?_⟩
    unfold ask
    simp only
    split <;> exact Int.le_refl _
  · split
    · obtain ⟨a, b⟩ := grant_go h hR ht
      refine ⟨a, b, fun e _ => ?_⟩
      unfold grant
      rw [if_neg (fun hh => by have := hh.1; omega)]
      exact Int.le_refl _
    · split
      · obtain ⟨a, b, c⟩ := ack_go h hR ht
        exact ⟨a, b, fun _ _ => c⟩
      · split
        · exact ⟨.light h rfl rfl rfl (fun _ => rfl) (Int.le_refl _) rfl rfl, hR, fun _ _ => Int.le_refl _⟩
        · rename_i hr
          have hn := role_nil hR hr
          split
          · obtain ⟨a, b⟩ := take_go h hn ht hm
            exact ⟨a, b, fun e => absurd e hr⟩
          · obtain ⟨a, b⟩ := bundle_go h hn ht hm
            exact ⟨a, b, fun e => absurd e hr⟩
/-- behind a message -/
theorem handle_go {r : Nod} (h : Base r) (hR : Role r) (m : Msg) : Go r (handle r m).1 ∧ Role (handle r m).1 ∧ (r.role = 2 → (handle r m).1.role = 2 → (handle r m).1.term = r.term → r.b + r.es.length ≤ (handle r m).1.b + (handle r m).1.es.length) := by
  have hself : Go r r := .light h rfl rfl rfl (fun _ => rfl) (Int.le_refl _) rfl rfl
  unfold handle
  split
  · rename_i hh
    simp only [Bool.and_eq_true, takes_iff] at hh
    have ht := hh.2
    split
    · exact ⟨hself, hR, fun _ _ _ => Int.le_refl _⟩
    · rename_i hlt
      obtain ⟨g1, g2⟩ := newer_go h hR ht
      have hnt : m.term = (newer r m).term := by unfold newer; split; rfl; omega
      obtain ⟨k1, k2, k3⟩ := same_go g1.base g2 ht.newer hnt
      refine ⟨g1.trans k1, k2, fun e1 e2 e3 => ?_⟩
      have hc1 := k1.term
      have hle : ¬ r.term < m.term := by omega
      have hnn : newer r m = r := by unfold newer; rw [if_neg hle]
      rw [hnn] at k3 e2 ⊢
      exact k3 e1 e2
  · exact ⟨hself, hR, fun _ _ _ => Int.le_refl _⟩
/-- behind a proposal -/
theorem propose_go {r : Nod} (h : Base r) (hR : Role r) (s : ByteArray) : Go r (propose r s) ∧ Role (propose r s) ∧ r.b + r.es.length ≤ (propose r s).b + (propose r s).es.length := by
  have hself : Go r r := .light h rfl rfl rfl (fun _ => rfl) (Int.le_refl _) rfl rfl
  unfold propose
  split
  · rename_i hh
    simp only [Bool.and_eq_true, decide_eq_true_eq] at hh
    split
    · split
      · rcases hR with ⟨a, _⟩ | ⟨a, _⟩ | ⟨a, b, c⟩
        · omega
        · omega
        · exact more_go h c a b s
      · exact ⟨hself, hR, Int.le_refl _⟩
    · exact ⟨hself, hR, Int.le_refl _⟩
  · exact ⟨hself, hR, Int.le_refl _⟩
/-- behind a cut -/
theorem compact_go {r : Nod} (h : Base r) (hR : Role r) (to : Int) (s : ByteArray) : Go r (compact r to s) ∧ Role (compact r to s) ∧ r.b + r.es.length ≤ (compact r to s).b + (compact r to s).es.length := by
  have hself : Go r r := .light h rfl rfl rfl (fun _ => rfl) (Int.le_refl _) rfl rfl
  have c1 := h.com1
  unfold compact
  split
  · split
    · exact ⟨hself, hR, Int.le_refl _⟩
    · rename_i hh
      have h1 : r.b ≤ to := by omega
      have h2 : to ≤ r.commit := by omega
      have ht : trm0 r to = Tr.trm r.b r.bt r.es to := by unfold trm0; rw [if_pos (Tr.has_mk h.trail h1 (by omega))]
      have hl : to + ((r.es.drop (to - r.b).toNat).length : Int) = r.b + r.es.length := by rw [List.length_drop]; omega
      rw [ht]
      refine ⟨⟨{ h with trail := cut_chk h.trail to h1 (by omega), fit := cut_fit h.fit to h1 (by omega), snap := by show s.size ≤ 60000; omega, com0 := h2, com1 := by show r.commit ≤ to + ((r.es.drop (to - r.b).toNat).length : Int); omega }, rfl, rfl, Int.le_refl _, fun _ _ => rfl, Int.le_refl _, h1, fun i hi hc hn => ?_⟩, ?_, by show _ ≤ to + ((r.es.drop (to - r.b).toNat).length : Int); omega⟩
      · have hn : to < r.b + 1 + i := hn
        have e : (r.b + 1 + i - to - 1).toNat = i - (to - r.b).toNat := by omega
        show (r.b + 1 + i - to - 1).toNat < (r.es.drop (to - r.b).toNat).length ∧ (r.es.drop (to - r.b).toNat).getD (r.b + 1 + i - to - 1).toNat default = _
        rw [e]
        exact cut_get r.es _ i (by omega) hi
      · rcases hR with ⟨a, b, c, d⟩ | ⟨a, b, c, d⟩ | ⟨a, b, c⟩
        · exact .inl ⟨a, b, c, d⟩
        · exact .inr (.inl ⟨a, { b with }, c, d⟩)
        · refine .inr (.inr ⟨a, b, ⟨c.vote, c.leader, c.next, c.mtch, fun i hi => ?_⟩⟩)
          have := c.nums i hi
          show _ ∧ _ ≤ to + ((r.es.drop (to - r.b).toNat).length : Int) ∧ _ ∧ _ ≤ to + ((r.es.drop (to - r.b).toNat).length : Int) + 1
          rw [hl]
          exact this
  · exact ⟨hself, hR, Int.le_refl _⟩
/-- behind a restart -/
theorem restart_go {r : Nod} (h : Base r) : Base (restart r) ∧ Role (restart r) := by
  have c0 := h.com0
  have c1 := h.com1
  exact ⟨{ h with leader := .inl rfl, com0 := Int.le_refl _, com1 := by show r.b ≤ r.b + r.es.length; omega, left0 := (show (0 : Int) ≤ 10 by decide), left1 := (show (10 : Int) ≤ 100 by decide), wait0 := (show (10 : Int) ≤ 10 by decide), wait1 := (show (10 : Int) < 20 by decide) }, .inl ⟨rfl, rfl, rfl, rfl⟩⟩
end Rf
end Go.Proofs.YtdladjgdhnkkcaaGreat
