
/-
  2 texts in one.
  Conditions: stated lemma by lemma.
-/
import Derived.Test.YtdladjgdhnkkcaaGreatZTrP
import Derived.Test.YtdladjgdhnkkcaaGreatZQPToQ6
/-
  A node of a group, plain: which node is right, and what becomes of it and is sent by a tick, a message, a proposal, a cut, a restart.
  No condition.
-/
namespace Go.Proofs.YtdladjgdhnkkcaaGreat
set_option linter.unusedVariables false

/-- a node of a group -/
structure Nod where
  id : Int
  conf : List Int
  term : Int
  vote : Int
  role : Int
  leader : Int
  b : Int
  bt : Int
  es : List En
  snap : ByteArray
  commit : Int
  left : Int
  wait : Int
  votes : List Int
  next : List Int
  mtch : List Int
/-- a message -/
structure Msg where
  kind : Int
  src : Int
  dst : Int
  term : Int
  index : Int
  lterm : Int
  commit : Int
  yes : Bool
  es : List En
  data : ByteArray
instance : Inhabited Msg := ⟨⟨0, 0, 0, 0, 0, 0, 0, false, [], ByteArray.empty⟩⟩
namespace Rf
/-- votes of a configuration's nodes, no two alike -/
def vok (conf : List Int) : List Int → List Int → Bool
  | _, [] => true
  | seen, v :: vs => decide (v ∈ conf) && !decide (v ∈ seen) && vok conf (seen ++ [v]) vs
/-- a leader's numbers -/
def kn (last : Int) : List Int → List Int → Bool
  | m :: ms, n :: ns => decide (0 ≤ m ∧ m ≤ last ∧ m < n ∧ n ≤ last + 1) && kn last ms ns
  | [], [] => true
  | _, _ => false
def voted (r : Nod) : Bool := decide (r.vote = r.id) && decide (0 < r.votes.length) && decide (r.votes.getD 0 0 = r.id) && !Qm.wins r.conf r.votes && vok r.conf [] r.votes
def lens (r : Nod) : Bool := decide (r.vote = r.id ∧ r.leader = r.id ∧ r.next.length = r.conf.length ∧ r.mtch.length = r.conf.length)
def known (r : Nod) : Bool := lens r && kn (Tr.lastN r.b r.bt r.es) r.mtch r.next
def isIn (conf : List Int) (n : Int) : Bool := decide (n = 0 ∨ n ∈ conf)
/-- the first things that are asked of a node -/
def chk1 (r : Nod) : Bool := Qm.chk r.conf && decide (r.id ≠ 0) && isIn r.conf r.id && decide (0 ≤ r.term) && decide (r.term ≤ 1099511627776) && isIn r.conf r.vote && isIn r.conf r.leader && Tr.chk r.b r.bt r.es
def chk2 (r : Nod) : Bool := decide (Tr.lastT r.b r.bt r.es ≤ r.term) && decide (r.snap.size ≤ 60000) && decide (r.b ≤ r.commit) && decide (r.commit ≤ Tr.lastN r.b r.bt r.es) && decide (0 ≤ r.left) && decide (r.left ≤ 100) && decide (10 ≤ r.wait) && decide (r.wait < 20)
def chk3 (r : Nod) : Bool := (decide (r.role = 1) || decide (r.votes.length = 0)) && (decide (r.role = 2) || decide (r.next.length + r.mtch.length = 0))
def chk4 (r : Nod) : Bool := if r.role = 0 then true else if r.role = 1 then voted r else if r.role = 2 then known r else false
/-- is a node right -/
def chk (r : Nod) : Bool := chk1 r && chk2 r && chk3 r && chk4 r

/-- the term of entry n, 0 if there is none -/
def trm0 (r : Nod) (n : Int) : Int := if Tr.has r.b r.bt r.es n then Tr.trm r.b r.bt r.es n else 0
def lastN (r : Nod) : Int := Tr.lastN r.b r.bt r.es
def lastT (r : Nod) : Int := Tr.lastT r.b r.bt r.es
/-- what is sent to the node at a place -/
def push (r : Nod) (i : Nat) : Msg :=
  if r.next.getD i 0 ≤ r.b then ⟨5, r.id, r.conf.getD i 0, r.term, r.b, r.bt, 0, false, [], r.snap⟩
  else ⟨3, r.id, r.conf.getD i 0, r.term, r.next.getD i 0 - 1, trm0 r (r.next.getD i 0 - 1), r.commit, false, Tr.cutFrom r.b r.bt r.es (r.next.getD i 0) 8, ByteArray.empty⟩
/-- to n of them, from place i on -/
def pushes (r : Nod) : Nat → Nat → List Msg
  | 0, _ => []
  | n + 1, i => (if r.conf.getD i 0 = r.id then [] else [push r i]) ++ pushes r n (i + 1)
def pushAll (r : Nod) : List Msg := pushes r r.conf.length 0
def reach (r : Nod) : Int := Qm.reached r.conf (r.conf.zip r.mtch)
def agree (r : Nod) : Nod := if Tr.has r.b r.bt r.es (reach r) = true ∧ r.commit < reach r ∧ trm0 r (reach r) = r.term then { r with commit := reach r } else r
/-- a number's first place -/
def idx (v : Int) : List Int → Nat
  | [] => 0
  | x :: l => if x = v then 0 else idx v l + 1
def own (r : Nod) : Nod := { r with mtch := r.mtch.set (idx r.id r.conf) (lastN r), next := r.next.set (idx r.id r.conf) (lastN r + 1) }
def app (r : Nod) (s : ByteArray) : Option (List En) := if Tr.chk r.b r.bt r.es then Tr.with_ r.b r.bt r.es r.es.length [(r.term, s)] else none
def lead0 (r : Nod) : Nod := { r with role := 2, leader := r.id, left := 2, votes := [], next := List.replicate r.conf.length (lastN r + 1), mtch := List.replicate r.conf.length 0 }
def grow (r : Nod) (s : ByteArray) : Nod := { r with es := (app r s).getD r.es }
def lead (r : Nod) : Nod := agree (own (grow (lead0 r) ByteArray.empty))
def asks (r : Nod) : List Int → List Msg
  | [] => []
  | c :: l => (if c = r.id then [] else [⟨1, r.id, c, r.term, lastN r, lastT r, 0, false, [], ByteArray.empty⟩]) ++ asks r l
def draw0 (d : Int) : Int := if d < 0 then -(d + 1) else d
def stand0 (r : Nod) (d : Int) : Nod := { r with term := r.term + 1, vote := r.id, role := 1, leader := 0, votes := [r.id], next := [], mtch := [], wait := 10 + draw0 d % 10, left := 10 + draw0 d % 10 }
def stand (r : Nod) (d : Int) : Nod × List Msg :=
  if 1099511627776 ≤ r.term then (r, [])
  else if Qm.wins r.conf [r.id] then (lead (stand0 r d), pushAll (lead (stand0 r d)))
  else (stand0 r d, asks (stand0 r d) r.conf)
/-- a moment goes by -/
def tick (r : Nod) (d : Int) : Nod × List Msg :=
  if chk r then
    if 1 < r.left then ({ r with left := r.left - 1 }, [])
    else if r.role = 2 then ({ r with left := 2 }, pushAll { r with left := 2 })
    else stand { r with left := 0 } d
  else (r, [])
/-- entries of a message -/
def folm (mt t : Int) : List En → Bool
  | [] => true
  | e :: es => decide (t ≤ e.1 ∧ 1 ≤ e.1 ∧ e.1 ≤ mt ∧ e.2.size ≤ 4096) && folm mt e.1 es
def takes1 (r : Nod) (m : Msg) : Bool := decide (1 ≤ m.kind) && decide (m.kind ≤ 5) && decide (m.dst = r.id) && decide (m.src ≠ r.id) && decide (m.src ∈ r.conf) && decide (1 ≤ m.term) && decide (m.term ≤ 1099511627776)
def takes2 (m : Msg) : Bool := decide (0 ≤ m.index) && decide (m.index ≤ 1099511627776) && decide (0 ≤ m.lterm) && decide (m.lterm ≤ m.term) && decide (0 ≤ m.commit) && decide (m.commit ≤ 1099511627776) && decide (m.es.length ≤ 8) && decide (m.data.size ≤ 60000)
def takes (r : Nod) (m : Msg) : Bool := takes1 r m && takes2 m && folm m.term m.lterm m.es
def yes (r : Nod) (m : Msg) : Bool := decide (r.vote = 0 ∨ r.vote = m.src) && decide (r.role = 0) && Tr.newer r.b r.bt r.es m.index m.lterm
def ask (r : Nod) (m : Msg) : Nod × List Msg :=
  (if yes r m then { r with vote := m.src, left := r.wait } else r, [⟨2, r.id, m.src, r.term, 0, 0, 0, yes r m, [], ByteArray.empty⟩])
def grant (r : Nod) (m : Msg) : Nod × List Msg :=
  if r.role = 1 ∧ m.yes = true ∧ m.src ∉ r.votes then
    if Qm.wins r.conf (r.votes ++ [m.src]) then (lead { r with votes := r.votes ++ [m.src] }, pushAll (lead { r with votes := r.votes ++ [m.src] }))
    else ({ r with votes := r.votes ++ [m.src] }, [])
  else (r, [])
def follow (r : Nod) (m : Msg) : Nod := { r with role := 0, votes := [], leader := m.src, left := r.wait }
def ackM (r : Nod) (m : Msg) (y : Bool) (n : Int) : Msg := ⟨4, r.id, m.src, r.term, n, 0, 0, y, [], ByteArray.empty⟩
def put (r : Nod) (m : Msg) : Option (List En) := Tr.put r.b r.bt r.es m.index m.lterm m.es r.commit
def take1 (r : Nod) (m : Msg) (es : List En) : Nod := { r with es := es, commit := max r.commit (min (min m.commit (m.index + m.es.length)) (Tr.lastN r.b r.bt es)) }
def take (r : Nod) (m : Msg) : Nod × List Msg :=
  match put (follow r m) m with
  | none => (follow r m, [ackM r m false (min (lastN r) (max (m.index - 1) 0))])
  | some es => (take1 (follow r m) m es, [ackM r m true (max (m.index + m.es.length) r.b)])
def cutHas (r : Nod) (m : Msg) : Bool := Tr.has r.b r.bt r.es m.index && decide (trm0 r m.index = m.lterm)
def bundle1 (r : Nod) (m : Msg) : Nod :=
  if r.commit < m.index then
    if cutHas r m then { r with b := m.index, bt := m.lterm, es := r.es.drop (m.index - r.b).toNat, snap := m.data, commit := m.index }
    else { r with b := m.index, bt := m.lterm, es := [], snap := m.data, commit := m.index }
  else r
def bundle (r : Nod) (m : Msg) : Nod × List Msg := (bundle1 (follow r m) m, [ackM r m true (bundle1 (follow r m) m).commit])
def nack1 (r : Nod) (m : Msg) (i : Nat) : Nod := { r with next := r.next.set i (max (min (m.index + 1) (r.next.getD i 0 - 1)) (r.mtch.getD i 0 + 1)) }
def ack1 (r : Nod) (m : Msg) (i : Nat) : Nod := { r with mtch := r.mtch.set i (max (r.mtch.getD i 0) m.index), next := r.next.set i (max (r.mtch.getD i 0) m.index + 1) }
def ack (r : Nod) (m : Msg) : Nod × List Msg :=
  if r.role ≠ 2 ∨ lastN r < m.index then (r, [])
  else if m.yes then (agree (ack1 r m (idx m.src r.conf)), if (ack1 r m (idx m.src r.conf)).next.getD (idx m.src r.conf) 0 ≤ lastN r then [push (agree (ack1 r m (idx m.src r.conf))) (idx m.src r.conf)] else [])
  else (nack1 r m (idx m.src r.conf), [push (nack1 r m (idx m.src r.conf)) (idx m.src r.conf)])
def late (r : Nod) (m : Msg) : List Msg :=
  if m.kind = 1 then [⟨2, r.id, m.src, r.term, 0, 0, 0, false, [], ByteArray.empty⟩]
  else if m.kind = 3 ∨ m.kind = 5 then [⟨4, r.id, m.src, r.term, 0, 0, 0, false, [], ByteArray.empty⟩]
  else []
def newer (r : Nod) (m : Msg) : Nod := if r.term < m.term then { r with term := m.term, vote := 0, role := 0, leader := 0, votes := [], next := [], mtch := [] } else r
def same (r : Nod) (m : Msg) : Nod × List Msg :=
  if m.kind = 1 then ask r m else if m.kind = 2 then grant r m else if m.kind = 4 then ack r m
  else if r.role = 2 then (r, []) else if m.kind = 3 then take r m else bundle r m
/-- a message comes -/
def handle (r : Nod) (m : Msg) : Nod × List Msg :=
  if chk r && takes r m then
    if m.term < r.term then (r, late r m) else same (newer r m) m
  else (r, [])
/-- an entry more -/
def propose (r : Nod) (s : ByteArray) : Nod :=
  if chk r && decide (r.role = 2) then
    if 1 ≤ s.size ∧ s.size ≤ 4096 then if (app r s).isSome then agree (own (grow r s)) else r
    else r
  else r
/-- the log is cut -/
def compact (r : Nod) (to : Int) (s : ByteArray) : Nod :=
  if chk r then
    if to < r.b ∨ r.commit < to ∨ 60000 < s.size then r
    else { r with b := to, bt := trm0 r to, es := r.es.drop (to - r.b).toNat, snap := s }
  else r
def restart (r : Nod) : Nod := { r with role := 0, leader := 0, commit := r.b, left := 10, wait := 10, votes := [], next := [], mtch := [] }
end Rf
end Go.Proofs.YtdladjgdhnkkcaaGreat

/-
  A right node, as conditions on its parts.
  Conditions: stated lemma by lemma.
-/
namespace Go.Proofs.YtdladjgdhnkkcaaGreat
set_option linter.unusedVariables false

namespace Rf
/-- no term lies above T -/
def Fit (T bt : Int) (es : List En) : Prop := bt ≤ T ∧ ∀ e ∈ es, e.1 ≤ T
theorem fit_of {T : Int} : ∀ {bt : Int} {es : List En}, Tr.fol bt es = true → Tr.at_ bt es es.length ≤ T → Fit T bt es
  | bt, [], _, h => ⟨by simpa [Tr.at_] using h, by simp⟩
  | bt, e :: es, hf, h => by
    simp only [Tr.fol, Tr.ok, Bool.and_eq_true, decide_eq_true_eq] at hf
    have h' : Tr.at_ e.1 es es.length ≤ T := by
      cases es with
      | nil => simpa [Tr.at_] using h
      | cons x es => simpa [Tr.at_] using h
    have ih := fit_of hf.2 h'
    exact ⟨Int.le_trans hf.1.1 ih.1, fun x hx => by rcases List.mem_cons.1 hx with rfl | hx; exact ih.1; exact ih.2 x hx⟩
theorem Fit.at_ {T bt : Int} {es : List En} (h : Fit T bt es) (k : Nat) (hk : k ≤ es.length) : Tr.at_ bt es k ≤ T := by
  unfold Tr.at_
  split
  · exact h.1
  · rw [List.getD_eq_getElem?_getD, List.getElem?_eq_getElem (by omega)]
    exact h.2 _ (List.getElem_mem _)
theorem Fit.mono {T T' bt : Int} {es : List En} (h : Fit T bt es) (hT : T ≤ T') : Fit T' bt es := ⟨Int.le_trans h.1 hT, fun e he => Int.le_trans (h.2 e he) hT⟩
theorem lastN_eq {b bt : Int} {es : List En} (h : Tr.chk b bt es = true) : Tr.lastN b bt es = b + es.length := by unfold Tr.lastN; rw [if_pos h]
theorem lastT_eq {b bt : Int} {es : List En} (h : Tr.chk b bt es = true) : Tr.lastT b bt es = Tr.at_ bt es es.length := by
  unfold Tr.lastT
  rw [if_pos h, Tr.trm_at _ _ _ _ (by omega)]
  congr 1
  omega

theorem kn_iff (last : Int) : ∀ (ms ns : List Int), kn last ms ns = true ↔ ms.length = ns.length ∧ ∀ i, i < ms.length → 0 ≤ ms.getD i 0 ∧ ms.getD i 0 ≤ last ∧ ms.getD i 0 < ns.getD i 0 ∧ ns.getD i 0 ≤ last + 1
  | [], [] => by simp [kn]
  | [], _ :: _ => by simp [kn]
  | _ :: _, [] => by simp [kn]
  | m :: ms, n :: ns => by
    simp only [kn, Bool.and_eq_true, decide_eq_true_eq, kn_iff last ms ns, List.length_cons]
    constructor
    · rintro ⟨h, hl, hr⟩
      refine ⟨by omega, fun i hi => ?_⟩
      cases i with
      | zero => simpa using h
      | succ i => simpa using hr i (by omega)
    · rintro ⟨hl, hr⟩
      refine ⟨by simpa using hr 0 (by omega), by omega, fun i hi => by simpa using hr (i + 1) (by omega)⟩
theorem vok_snoc (conf : List Int) (v : Int) : ∀ (seen vs : List Int), vok conf seen (vs ++ [v]) = (vok conf seen vs && (decide (v ∈ conf) && !decide (v ∈ seen ++ vs)))
  | seen, [] => by simp [vok]
  | seen, x :: vs => by
    simp only [List.cons_append, vok, vok_snoc conf v (seen ++ [x]) vs, Bool.and_assoc, List.append_assoc, List.nil_append]

/-- whatever the role, a node is right so far -/
structure Base (r : Nod) : Prop where
  conf : Qm.chk r.conf = true
  id : r.id ∈ r.conf
  term0 : 0 ≤ r.term
  term1 : r.term ≤ 1099511627776
  vote : r.vote = 0 ∨ r.vote ∈ r.conf
  leader : r.leader = 0 ∨ r.leader ∈ r.conf
  trail : Tr.chk r.b r.bt r.es = true
  fit : Fit r.term r.bt r.es
  snap : r.snap.size ≤ 60000
  com0 : r.b ≤ r.commit
  com1 : r.commit ≤ r.b + r.es.length
  left0 : 0 ≤ r.left
  left1 : r.left ≤ 100
  wait0 : 10 ≤ r.wait
  wait1 : r.wait < 20
/-- a leader's lists -/
structure Lead (r : Nod) : Prop where
  vote : r.vote = r.id
  leader : r.leader = r.id
  next : r.next.length = r.conf.length
  mtch : r.mtch.length = r.conf.length
  nums : ∀ i, i < r.conf.length → 0 ≤ r.mtch.getD i 0 ∧ r.mtch.getD i 0 ≤ r.b + r.es.length ∧ r.mtch.getD i 0 < r.next.getD i 0 ∧ r.next.getD i 0 ≤ r.b + r.es.length + 1
/-- a candidate's votes -/
structure Cand (r : Nod) : Prop where
  vote : r.vote = r.id
  some : 0 < r.votes.length
  first : r.votes.getD 0 0 = r.id
  less : Qm.wins r.conf r.votes = false
  ok : vok r.conf [] r.votes = true
def Role (r : Nod) : Prop := (r.role = 0 ∧ r.votes = [] ∧ r.next = [] ∧ r.mtch = []) ∨ (r.role = 1 ∧ Cand r ∧ r.next = [] ∧ r.mtch = []) ∨ (r.role = 2 ∧ r.votes = [] ∧ Lead r)
theorem conf_pos {l : List Int} (h : Qm.chk l = true) (x : Int) (hx : x ∈ l) : x ≠ 0 := by
  have := Qm.asc_lt (Qm.chk_asc h).1 x hx
  omega
theorem nil_of {α : Type} {l : List α} (h : l.length = 0) : l = [] := List.eq_nil_of_length_eq_zero h
theorem chk_iff (r : Nod) : chk r = true ↔ Base r ∧ Role r := by
  constructor
  · intro h
    unfold chk at h
    simp only [Bool.and_eq_true] at h
    obtain ⟨⟨⟨h1, h2⟩, h3⟩, h4⟩ := h
    unfold chk1 at h1
    unfold chk2 at h2
    unfold chk3 at h3
    simp only [Bool.and_eq_true, Bool.or_eq_true, decide_eq_true_eq, isIn] at h1 h2 h3
    obtain ⟨⟨⟨⟨⟨⟨⟨a1, a2⟩, a3⟩, a4⟩, a5⟩, a6⟩, a7⟩, a8⟩ := h1
    obtain ⟨⟨⟨⟨⟨⟨⟨b1, b2⟩, b3⟩, b4⟩, b5⟩, b6⟩, b7⟩, b8⟩ := h2
    rw [lastT_eq a8] at b1
    rw [lastN_eq a8] at b4
    have hB : Base r := ⟨a1, by rcases a3 with h | h; exact absurd h a2; exact h, a4, a5, a6, a7, a8, fit_of (Tr.chk_fol a8) b1, b2, b3, b4, b5, b6, b7, b8⟩
    refine ⟨hB, ?_⟩
    unfold chk4 at h4
    split at h4
    · rename_i hr
      refine .inl ⟨hr, nil_of ?_, nil_of ?_, nil_of ?_⟩
      · rcases h3.1 with h | h; omega; exact h
      · rcases h3.2 with h | h; omega; omega
      · rcases h3.2 with h | h; omega; omega
    · split at h4
      · rename_i hr
        refine .inr (.inl ⟨hr, ?_, nil_of ?_, nil_of ?_⟩)
        · unfold voted at h4
          simp only [Bool.and_eq_true, decide_eq_true_eq, Bool.not_eq_true'] at h4
          obtain ⟨⟨⟨⟨c1, c2⟩, c3⟩, c4⟩, c5⟩ := h4
          exact ⟨c1, c2, c3, c4, c5⟩
        · rcases h3.2 with h | h; omega; omega
        · rcases h3.2 with h | h; omega; omega
      · split at h4
        · rename_i hr
          refine .inr (.inr ⟨hr, nil_of ?_, ?_⟩)
          · rcases h3.1 with h | h; omega; exact h
          · unfold known lens at h4
            simp only [Bool.and_eq_true, decide_eq_true_eq, kn_iff, lastN_eq a8] at h4
            obtain ⟨⟨c1, c2, c3, c4⟩, c5, c6⟩ := h4
            exact ⟨c1, c2, c3, c4, fun i hi => c6 i (by omega)⟩
        · cases h4
  · rintro ⟨hB, hR⟩
    have a8 := hB.trail
    unfold chk
    simp only [Bool.and_eq_true]
    refine ⟨⟨⟨?_, ?_⟩, ?_⟩, ?_⟩
    · unfold chk1
      simp only [Bool.and_eq_true, decide_eq_true_eq, isIn]
      exact ⟨⟨⟨⟨⟨⟨⟨hB.conf, conf_pos hB.conf _ hB.id⟩, .inr hB.id⟩, hB.term0⟩, hB.term1⟩, hB.vote⟩, hB.leader⟩, a8⟩
    · unfold chk2
      simp only [Bool.and_eq_true, decide_eq_true_eq]
      rw [lastT_eq a8, lastN_eq a8]
      exact ⟨⟨⟨⟨⟨⟨⟨hB.fit.at_ _ (Nat.le_refl _), hB.snap⟩, hB.com0⟩, hB.com1⟩, hB.left0⟩, hB.left1⟩, hB.wait0⟩, hB.wait1⟩
    · unfold chk3
      simp only [Bool.and_eq_true, Bool.or_eq_true, decide_eq_true_eq]
      rcases hR with ⟨h, h1, h2, h3⟩ | ⟨h, h1, h2, h3⟩ | ⟨h, h1, h2⟩
      · rw [h1, h2, h3]; simp
      · rw [h2, h3]; simp [h]
      · rw [h1]; simp [h]
    · unfold chk4
      rcases hR with ⟨h, h1, h2, h3⟩ | ⟨h, h1, h2, h3⟩ | ⟨h, h1, h2⟩
      · rw [if_pos h]
      · rw [if_neg (by omega), if_pos h]
        unfold voted
        simp only [Bool.and_eq_true, decide_eq_true_eq, Bool.not_eq_true']
        exact ⟨⟨⟨⟨h1.vote, h1.some⟩, h1.first⟩, h1.less⟩, h1.ok⟩
      · rw [if_neg (by omega), if_neg (by omega), if_pos h]
        unfold known lens
        simp only [Bool.and_eq_true, decide_eq_true_eq, kn_iff, lastN_eq a8]
        exact ⟨⟨h2.vote, h2.leader, h2.next, h2.mtch⟩, by rw [h2.next, h2.mtch], fun i hi => h2.nums i (by rw [← h2.mtch]; exact hi)⟩
end Rf
end Go.Proofs.YtdladjgdhnkkcaaGreat
