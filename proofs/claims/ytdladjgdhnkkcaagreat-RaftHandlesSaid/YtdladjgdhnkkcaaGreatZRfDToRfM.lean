
/-
  4 texts in one.
  Conditions: stated lemma by lemma.
-/
import Derived.Test.YtdladjgdhnkkcaaGreatZKitToTrP
import Derived.Test.YtdladjgdhnkkcaaGreatZQ4ToQ6
import Derived.Test.YtdladjgdhnkkcaaGreatZTrMToTr2
import Derived.Test.YtdladjgdhnkkcaaGreatZRowToRow2
/-
  A node of a group, plain: which node is right, and what becomes of it and is sent by a tick, a message, a proposal, a cut, a restart.
  No condition.
-/
namespace Go.Proofs.YtdladjgdhnkkcaaGreat
set_option linter.unusedVariables false

/-- a node of a group -/
structure Nod where
  id : Int
  conf : List Int
  term : Int
  vote : Int
  role : Int
  leader : Int
  b : Int
  bt : Int
  es : List En
  snap : ByteArray
  commit : Int
  left : Int
  wait : Int
  votes : List Int
  next : List Int
  mtch : List Int
/-- a message -/
structure Msg where
  kind : Int
  src : Int
  dst : Int
  term : Int
  index : Int
  lterm : Int
  commit : Int
  yes : Bool
  es : List En
  data : ByteArray
instance : Inhabited Msg := ⟨⟨0, 0, 0, 0, 0, 0, 0, false, [], ByteArray.empty⟩⟩
namespace Rf
/-- votes of a configuration's nodes, no two alike -/
def vok (conf : List Int) : List Int → List Int → Bool
  | _, [] => true
  | seen, v :: vs => decide (v ∈ conf) && !decide (v ∈ seen) && vok conf (seen ++ [v]) vs
/-- a leader's numbers -/
def kn (last : Int) : List Int → List Int → Bool
  | m :: ms, n :: ns => decide (0 ≤ m ∧ m ≤ last ∧ m < n ∧ n ≤ last + 1) && kn last ms ns
  | [], [] => true
  | _, _ => false
def voted (r : Nod) : Bool := decide (r.vote = r.id) && decide (0 < r.votes.length) && decide (r.votes.getD 0 0 = r.id) && !Qm.wins r.conf r.votes && vok r.conf [] r.votes
def lens (r : Nod) : Bool := decide (r.vote = r.id ∧ r.leader = r.id ∧ r.next.length = r.conf.length ∧ r.mtch.length = r.conf.length)
def known (r : Nod) : Bool := lens r && kn (Tr.lastN r.b r.bt r.es) r.mtch r.next
def isIn (conf : List Int) (n : Int) : Bool := decide (n = 0 ∨ n ∈ conf)
/-- the first things that are asked of a node -/
def chk1 (r : Nod) : Bool := Qm.chk r.conf && decide (r.id ≠ 0) && isIn r.conf r.id && decide (0 ≤ r.term) && decide (r.term ≤ 1099511627776) && isIn r.conf r.vote && isIn r.conf r.leader && Tr.chk r.b r.bt r.es
def chk2 (r : Nod) : Bool := decide (Tr.lastT r.b r.bt r.es ≤ r.term) && decide (r.snap.size ≤ 60000) && decide (r.b ≤ r.commit) && decide (r.commit ≤ Tr.lastN r.b r.bt r.es) && decide (0 ≤ r.left) && decide (r.left ≤ 100) && decide (10 ≤ r.wait) && decide (r.wait < 20)
def chk3 (r : Nod) : Bool := (decide (r.role = 1) || decide (r.votes.length = 0)) && (decide (r.role = 2) || decide (r.next.length + r.mtch.length = 0))
def chk4 (r : Nod) : Bool := if r.role = 0 then true else if r.role = 1 then voted r else if r.role = 2 then known r else false
/-- is a node right -/
def chk (r : Nod) : Bool := chk1 r && chk2 r && chk3 r && chk4 r

/-- the term of entry n, 0 if there is none -/
def trm0 (r : Nod) (n : Int) : Int := if Tr.has r.b r.bt r.es n then Tr.trm r.b r.bt r.es n else 0
def lastN (r : Nod) : Int := Tr.lastN r.b r.bt r.es
def lastT (r : Nod) : Int := Tr.lastT r.b r.bt r.es
/-- what is sent to the node at a place -/
def push (r : Nod) (i : Nat) : Msg :=
  if r.next.getD i 0 ≤ r.b then ⟨5, r.id, r.conf.getD i 0, r.term, r.b, r.bt, 0, false, [], r.snap⟩
  else ⟨3, r.id, r.conf.getD i 0, r.term, r.next.getD i 0 - 1, trm0 r (r.next.getD i 0 - 1), r.commit, false, Tr.cutFrom r.b r.bt r.es (r.next.getD i 0) 8, ByteArray.empty⟩
/-- to n of them, from place i on -/
def pushes (r : Nod) : Nat → Nat → List Msg
  | 0, _ => []
  | n + 1, i => (if r.conf.getD i 0 = r.id then [] else [push r i]) ++ pushes r n (i + 1)
def pushAll (r : Nod) : List Msg := pushes r r.conf.length 0
def reach (r : Nod) : Int := Qm.reached r.conf (r.conf.zip r.mtch)
def agree (r : Nod) : Nod := if Tr.has r.b r.bt r.es (reach r) = true ∧ r.commit < reach r ∧ trm0 r (reach r) = r.term then { r with commit := reach r } else r
/-- a number's first place -/
def idx (v : Int) : List Int → Nat
  | [] => 0
  | x :: l => if x = v then 0 else idx v l + 1
def own (r : Nod) : Nod := { r with mtch := r.mtch.set (idx r.id r.conf) (lastN r), next := r.next.set (idx r.id r.conf) (lastN r + 1) }
def app (r : Nod) (s : ByteArray) : Option (List En) := if Tr.chk r.b r.bt r.es then Tr.with_ r.b r.bt r.es r.es.length [(r.term, s)] else none
def lead0 (r : Nod) : Nod := { r with role := 2, leader := r.id, left := 2, votes := [], next := List.replicate r.conf.length (lastN r + 1), mtch := List.replicate r.conf.length 0 }
def grow (r : Nod) (s : ByteArray) : Nod := { r with es := (app r s).getD r.es }
def lead (r : Nod) : Nod := agree (own (grow (lead0 r) ByteArray.empty))
def asks (r : Nod) : List Int → List Msg
  | [] => []
  | c :: l => (if c = r.id then [] else [⟨1, r.id, c, r.term, lastN r, lastT r, 0, false, [], ByteArray.empty⟩]) ++ asks r l
def draw0 (d : Int) : Int := if d < 0 then -(d + 1) else d
def stand0 (r : Nod) (d : Int) : Nod := { r with term := r.term + 1, vote := r.id, role := 1, leader := 0, votes := [r.id], next := [], mtch := [], wait := 10 + draw0 d % 10, left := 10 + draw0 d % 10 }
def stand (r : Nod) (d : Int) : Nod × List Msg :=
  if 1099511627776 ≤ r.term then (r, [])
  else if Qm.wins r.conf [r.id] then (lead (stand0 r d), pushAll (lead (stand0 r d)))
  else (stand0 r d, asks (stand0 r d) r.conf)
/-- a moment goes by -/
def tick (r : Nod) (d : Int) : Nod × List Msg :=
  if chk r then
    if 1 < r.left then ({ r with left := r.left - 1 }, [])
    else if r.role = 2 then ({ r with left := 2 }, pushAll { r with left := 2 })
    else stand { r with left := 0 } d
  else (r, [])
/-- entries of a message -/
def folm (mt t : Int) : List En → Bool
  | [] => true
  | e :: es => decide (t ≤ e.1 ∧ 1 ≤ e.1 ∧ e.1 ≤ mt ∧ e.2.size ≤ 4096) && folm mt e.1 es
def takes1 (r : Nod) (m : Msg) : Bool := decide (1 ≤ m.kind) && decide (m.kind ≤ 5) && decide (m.dst = r.id) && decide (m.src ≠ r.id) && decide (m.src ∈ r.conf) && decide (1 ≤ m.term) && decide (m.term ≤ 1099511627776)
def takes2 (m : Msg) : Bool := decide (0 ≤ m.index) && decide (m.index ≤ 1099511627776) && decide (0 ≤ m.lterm) && decide (m.lterm ≤ m.term) && decide (0 ≤ m.commit) && decide (m.commit ≤ 1099511627776) && decide (m.es.length ≤ 8) && decide (m.data.size ≤ 60000)
def takes (r : Nod) (m : Msg) : Bool := takes1 r m && takes2 m && folm m.term m.lterm m.es
def yes (r : Nod) (m : Msg) : Bool := decide (r.vote = 0 ∨ r.vote = m.src) && decide (r.role = 0) && Tr.newer r.b r.bt r.es m.index m.lterm
def ask (r : Nod) (m : Msg) : Nod × List Msg :=
  (if yes r m then { r with vote := m.src, left := r.wait } else r, [⟨2, r.id, m.src, r.term, 0, 0, 0, yes r m, [], ByteArray.empty⟩])
def grant (r : Nod) (m : Msg) : Nod × List Msg :=
  if r.role = 1 ∧ m.yes = true ∧ m.src ∉ r.votes then
    if Qm.wins r.conf (r.votes ++ [m.src]) then (lead { r with votes := r.votes ++ [m.src] }, pushAll (lead { r with votes := r.votes ++ [m.src] }))
    else ({ r with votes := r.votes ++ [m.src] }, [])
  else (r, [])
def follow (r : Nod) (m : Msg) : Nod := { r with role := 0, votes := [], leader := m.src, left := r.wait }
def ackM (r : Nod) (m : Msg) (y : Bool) (n : Int) : Msg := ⟨4, r.id, m.src, r.term, n, 0, 0, y, [], ByteArray.empty⟩
def put (r : Nod) (m : Msg) : Option (List En) := Tr.put r.b r.bt r.es m.index m.lterm m.es r.commit
def take1 (r : Nod) (m : Msg) (es : List En) : Nod := { r with es := es, commit := max r.commit (min (min m.commit (m.index + m.es.length)) (Tr.lastN r.b r.bt es)) }
def take (r : Nod) (m : Msg) : Nod × List Msg :=
  match put (follow r m) m with
  | none => (follow r m, [ackM r m false (min (lastN r) (max (m.index - 1) 0))])
  | some es => (take1 (follow r m) m es, [ackM r m true (max (m.index + m.es.length) r.b)])
def cutHas (r : Nod) (m : Msg) : Bool := Tr.has r.b r.bt r.es m.index && decide (trm0 r m.index = m.lterm)
def bundle1 (r : Nod) (m : Msg) : Nod :=
  if r.commit < m.index then
    if cutHas r m then { r with b := m.index, bt := m.lterm, es := r.es.drop (m.index - r.b).toNat, snap := m.data, commit := m.index }
    else { r with b := m.index, bt := m.lterm, es := [], snap := m.data, commit := m.index }
  else r
def bundle (r : Nod) (m : Msg) : Nod × List Msg := (bundle1 (follow r m) m, [ackM r m true (bundle1 (follow r m) m).commit])
def nack1 (r : Nod) (m : Msg) (i : Nat) : Nod := { r with next := r.next.set i (max (min (m.index + 1) (r.next.getD i 0 - 1)) (r.mtch.getD i 0 + 1)) }
def ack1 (r : Nod) (m : Msg) (i : Nat) : Nod := { r with mtch := r.mtch.set i (max (r.mtch.getD i 0) m.index), next := r.next.set i (max (r.mtch.getD i 0) m.index + 1) }
def ack (r : Nod) (m : Msg) : Nod × List Msg :=
  if r.role ≠ 2 ∨ lastN r < m.index then (r, [])
  else if m.yes then (agree (ack1 r m (idx m.src r.conf)), if (ack1 r m (idx m.src r.conf)).next.getD (idx m.src r.conf) 0 ≤ lastN r then [push (agree (ack1 r m (idx m.src r.conf))) (idx m.src r.conf)] else [])
  else (nack1 r m (idx m.src r.conf), [push (nack1 r m (idx m.src r.conf)) (idx m.src r.conf)])
def late (r : Nod) (m : Msg) : List Msg :=
  if m.kind = 1 then [⟨2, r.id, m.src, r.term, 0, 0, 0, false, [], ByteArray.empty⟩]
  else if m.kind = 3 ∨ m.kind = 5 then [⟨4, r.id, m.src, r.term, 0, 0, 0, false, [], ByteArray.empty⟩]
  else []
def newer (r : Nod) (m : Msg) : Nod := if r.term < m.term then { r with term := m.term, vote := 0, role := 0, leader := 0, votes := [], next := [], mtch := [] } else r
def same (r : Nod) (m : Msg) : Nod × List Msg :=
  if m.kind = 1 then ask r m else if m.kind = 2 then grant r m else if m.kind = 4 then ack r m
  else if r.role = 2 then (r, []) else if m.kind = 3 then take r m else bundle r m
/-- a message comes -/
def handle (r : Nod) (m : Msg) : Nod × List Msg :=
  if chk r && takes r m then
    if m.term < r.term then (r, late r m) else same (newer r m) m
  else (r, [])
/-- an entry more -/
def propose (r : Nod) (s : ByteArray) : Nod :=
  if chk r && decide (r.role = 2) then
    if 1 ≤ s.size ∧ s.size ≤ 4096 then if (app r s).isSome then agree (own (grow r s)) else r
    else r
  else r
/-- the log is cut -/
def compact (r : Nod) (to : Int) (s : ByteArray) : Nod :=
  if chk r then
    if to < r.b ∨ r.commit < to ∨ 60000 < s.size then r
    else { r with b := to, bt := trm0 r to, es := r.es.drop (to - r.b).toNat, snap := s }
  else r
def restart (r : Nod) : Nod := { r with role := 0, leader := 0, commit := r.b, left := 10, wait := 10, votes := [], next := [], mtch := [] }
end Rf
end Go.Proofs.YtdladjgdhnkkcaaGreat

/-
  A right node, as conditions on its parts.
  Conditions: stated lemma by lemma.
-/
namespace Go.Proofs.YtdladjgdhnkkcaaGreat
set_option linter.unusedVariables false

namespace Rf
/-- no term lies above T -/
def Fit (T bt : Int) (es : List En) : Prop := bt ≤ T ∧ ∀ e ∈ es, e.1 ≤ T
theorem fit_of {T : Int} : ∀ {bt : Int} {es : List En}, Tr.fol bt es = true → Tr.at_ bt es es.length ≤ T → Fit T bt es
  | bt, [], _, h => ⟨by simpa [Tr.at_] using h, by simp⟩
  | bt, e :: es, hf, h => by
    simp only [Tr.fol, Tr.ok, Bool.and_eq_true, decide_eq_true_eq] at hf
    have h' : Tr.at_ e.1 es es.length ≤ T := by
      cases es with
      | nil => simpa [Tr.at_] using h
      | cons x es => simpa [Tr.at_] using h
    have ih := fit_of hf.2 h'
    exact ⟨Int.le_trans hf.1.1 ih.1, fun x hx => by rcases List.mem_cons.1 hx with rfl | hx; exact ih.1; exact ih.2 x hx⟩
theorem Fit.at_ {T bt : Int} {es : List En} (h : Fit T bt es) (k : Nat) (hk : k ≤ es.length) : Tr.at_ bt es k ≤ T := by
  unfold Tr.at_
  split
  · exact h.1
  · rw [List.getD_eq_getElem?_getD, List.getElem?_eq_getElem (by omega)]
    exact h.2 _ (List.getElem_mem _)
theorem Fit.mono {T T' bt : Int} {es : List En} (h : Fit T bt es) (hT : T ≤ T') : Fit T' bt es := ⟨Int.le_trans h.1 hT, fun e he => Int.le_trans (h.2 e he) hT⟩
theorem lastN_eq {b bt : Int} {es : List En} (h : Tr.chk b bt es = true) : Tr.lastN b bt es = b + es.length := by unfold Tr.lastN; rw [if_pos h]
theorem lastT_eq {b bt : Int} {es : List En} (h : Tr.chk b bt es = true) : Tr.lastT b bt es = Tr.at_ bt es es.length := by
  unfold Tr.lastT
  rw [if_pos h, Tr.trm_at _ _ _ _ (by omega)]
  congr 1
  omega

theorem kn_iff (last : Int) : ∀ (ms ns : List Int), kn last ms ns = true ↔ ms.length = ns.length ∧ ∀ i, i < ms.length → 0 ≤ ms.getD i 0 ∧ ms.getD i 0 ≤ last ∧ ms.getD i 0 < ns.getD i 0 ∧ ns.getD i 0 ≤ last + 1
  | [], [] => by simp [kn]
  | [], _ :: _ => by simp [kn]
  | _ :: _, [] => by simp [kn]
  | m :: ms, n :: ns => by
    simp only [kn, Bool.and_eq_true, decide_eq_true_eq, kn_iff last ms ns, List.length_cons]
    constructor
    · rintro ⟨h, hl, hr⟩
      refine ⟨by omega, fun i hi => ?_⟩
      cases i with
      | zero => simpa using h
      | succ i => simpa using hr i (by omega)
    · rintro ⟨hl, hr⟩
      refine ⟨by simpa using hr 0 (by omega), by omega, fun i hi => by simpa using hr (i + 1) (by omega)⟩
theorem vok_snoc (conf : List Int) (v : Int) : ∀ (seen vs : List Int), vok conf seen (vs ++ [v]) = (vok conf seen vs && (decide (v ∈ conf) && !decide (v ∈ seen ++ vs)))
  | seen, [] => by simp [vok]
  | seen, x :: vs => by
    simp only [List.cons_append, vok, vok_snoc conf v (seen ++ [x]) vs, Bool.and_assoc, List.append_assoc, List.nil_append]

/-- whatever the role, a node is right so far -/
structure Base (r : Nod) : Prop where
  conf : Qm.chk r.conf = true
  id : r.id ∈ r.conf
  term0 : 0 ≤ r.term
  term1 : r.term ≤ 1099511627776
  vote : r.vote = 0 ∨ r.vote ∈ r.conf
  leader : r.leader = 0 ∨ r.leader ∈ r.conf
  trail : Tr.chk r.b r.bt r.es = true
  fit : Fit r.term r.bt r.es
  snap : r.snap.size ≤ 60000
  com0 : r.b ≤ r.commit
  com1 : r.commit ≤ r.b + r.es.length
  left0 : 0 ≤ r.left
  left1 : r.left ≤ 100
  wait0 : 10 ≤ r.wait
  wait1 : r.wait < 20
/-- a leader's lists -/
structure Lead (r : Nod) : Prop where
  vote : r.vote = r.id
  leader : r.leader = r.id
  next : r.next.length = r.conf.length
  mtch : r.mtch.length = r.conf.length
  nums : ∀ i, i < r.conf.length → 0 ≤ r.mtch.getD i 0 ∧ r.mtch.getD i 0 ≤ r.b + r.es.length ∧ r.mtch.getD i 0 < r.next.getD i 0 ∧ r.next.getD i 0 ≤ r.b + r.es.length + 1
/-- a candidate's votes -/
structure Cand (r : Nod) : Prop where
  vote : r.vote = r.id
  some : 0 < r.votes.length
  first : r.votes.getD 0 0 = r.id
  less : Qm.wins r.conf r.votes = false
  ok : vok r.conf [] r.votes = true
def Role (r : Nod) : Prop := (r.role = 0 ∧ r.votes = [] ∧ r.next = [] ∧ r.mtch = []) ∨ (r.role = 1 ∧ Cand r ∧ r.next = [] ∧ r.mtch = []) ∨ (r.role = 2 ∧ r.votes = [] ∧ Lead r)
theorem conf_pos {l : List Int} (h : Qm.chk l = true) (x : Int) (hx : x ∈ l) : x ≠ 0 := by
  have := Qm.asc_lt (Qm.chk_asc h).1 x hx
  omega
theorem nil_of {α : Type} {l : List α} (h : l.length = 0) : l = [] := List.eq_nil_of_length_eq_zero h
theorem chk_iff (r : Nod) : chk r = true ↔ Base r ∧ Role r := by
  constructor
  · intro h
    unfold chk at h
    simp only [Bool.and_eq_true] at h
    obtain ⟨⟨⟨h1, h2⟩, h3⟩, h4⟩ := h
    unfold chk1 at h1
    unfold chk2 at h2
    unfold chk3 at h3
    simp only [Bool.and_eq_true, Bool.or_eq_true, decide_eq_true_eq, isIn] at h1 h2 h3
    obtain ⟨⟨⟨⟨⟨⟨⟨a1, a2⟩, a3⟩, a4⟩, a5⟩, a6⟩, a7⟩, a8⟩ := h1
    obtain ⟨⟨⟨⟨⟨⟨⟨b1, b2⟩, b3⟩, b4⟩, b5⟩, b6⟩, b7⟩, b8⟩ := h2
    rw [lastT_eq a8] at b1
    rw [lastN_eq a8] at b4
    have hB : Base r := ⟨a1, by rcases a3 with h | h; exact absurd h a2; exact h, a4, a5, a6, a7, a8, fit_of (Tr.chk_fol a8) b1, b2, b3, b4, b5, b6, b7, b8⟩
    refine ⟨hB, ?_⟩
    unfold chk4 at h4
    split at h4
    · rename_i hr
      refine .inl ⟨hr, nil_of ?_, nil_of ?_, nil_of ?_⟩
      · rcases h3.1 with h | h; omega; exact h
      · rcases h3.2 with h | h; omega; omega
      · rcases h3.2 with h | h; omega; omega
    · split at h4
      · rename_i hr
        refine .inr (.inl ⟨hr, ?_, nil_of ?_, nil_of ?_⟩)
        · unfold voted at h4
          simp only [Bool.and_eq_true, decide_eq_true_eq, Bool.not_eq_true'] at h4
          obtain ⟨⟨⟨⟨c1, c2⟩, c3⟩, c4⟩, c5⟩ := h4
          exact ⟨c1, c2, c3, c4, c5⟩
        · rcases h3.2 with h | h; omega; omega
        · rcases h3.2 with h | h; omega; omega
      · split at h4
        · rename_i hr
          refine .inr (.inr ⟨hr, nil_of ?_, ?_⟩)
          · rcases h3.1 with h | h; omega; exact h
          · unfold known lens at h4
            simp only [Bool.and_eq_true, decide_eq_true_eq, kn_iff, lastN_eq a8] at h4
            obtain ⟨⟨c1, c2, c3, c4⟩, c5, c6⟩ := h4
            exact ⟨c1, c2, c3, c4, fun i hi => c6 i (by omega)⟩
        · cases h4
  · rintro ⟨hB, hR⟩
    have a8 := hB.trail
    unfold chk
    simp only [Bool.and_eq_true]
    refine ⟨⟨⟨?_, ?_⟩, ?_⟩, ?_⟩
    · unfold chk1
      simp only [Bool.and_eq_true, decide_eq_true_eq, isIn]
      exact ⟨⟨⟨⟨⟨⟨⟨hB.conf, conf_pos hB.conf _ hB.id⟩, .inr hB.id⟩, hB.term0⟩, hB.term1⟩, hB.vote⟩, hB.leader⟩, a8⟩
    · unfold chk2
      simp only [Bool.and_eq_true, decide_eq_true_eq]
      rw [lastT_eq a8, lastN_eq a8]
      exact ⟨⟨⟨⟨⟨⟨⟨hB.fit.at_ _ (Nat.le_refl _), hB.snap⟩, hB.com0⟩, hB.com1⟩, hB.left0⟩, hB.left1⟩, hB.wait0⟩, hB.wait1⟩
    · unfold chk3
      simp only [Bool.and_eq_true, Bool.or_eq_true, decide_eq_true_eq]
      rcases hR with ⟨h, h1, h2, h3⟩ | ⟨h, h1, h2, h3⟩ | ⟨h, h1, h2⟩
      · rw [h1, h2, h3]; simp
      · rw [h2, h3]; simp [h]
      · rw [h1]; simp [h]
    · unfold chk4
      rcases hR with ⟨h, h1, h2, h3⟩ | ⟨h, h1, h2, h3⟩ | ⟨h, h1, h2⟩
      · rw [if_pos h]
      · rw [if_neg (by omega), if_pos h]
        unfold voted
        simp only [Bool.and_eq_true, decide_eq_true_eq, Bool.not_eq_true']
        exact ⟨⟨⟨⟨h1.vote, h1.some⟩, h1.first⟩, h1.less⟩, h1.ok⟩
      · rw [if_neg (by omega), if_neg (by omega), if_pos h]
        unfold known lens
        simp only [Bool.and_eq_true, decide_eq_true_eq, kn_iff, lastN_eq a8]
        exact ⟨⟨h2.vote, h2.leader, h2.next, h2.mtch⟩, by rw [h2.next, h2.mtch], fun i hi => h2.nums i (by rw [← h2.mtch]; exact hi)⟩
end Rf
end Go.Proofs.YtdladjgdhnkkcaaGreat

/-
  What becomes of a right node is right; its term and what it holds for agreed on never fall.
  Conditions: stated lemma by lemma.
-/
namespace Go.Proofs.YtdladjgdhnkkcaaGreat
set_option linter.unusedVariables false

namespace Rf
/-- what a holds for agreed on stands in c, as far as c has it -/
def Kept (a c : Nod) : Prop := a.b ≤ c.b ∧ ∀ i : Nat, i < a.es.length → a.b + 1 + i ≤ a.commit → c.b < a.b + 1 + i → (a.b + 1 + i - c.b - 1).toNat < c.es.length ∧ c.es.getD (a.b + 1 + i - c.b - 1).toNat default = a.es.getD i default
/-- a node goes on -/
structure Go (r s : Nod) : Prop where
  base : Base s
  id : s.id = r.id
  conf : s.conf = r.conf
  term : r.term ≤ s.term
  vote : s.term = r.term → r.vote ≠ 0 → s.vote = r.vote
  com : r.commit ≤ s.commit
  kept : Kept r s
theorem Kept.of {a c : Nod} (hb : c.b = a.b) (h : ∀ i : Nat, i < a.es.length → a.b + 1 + i ≤ a.commit → i < c.es.length ∧ c.es.getD i default = a.es.getD i default) : Kept a c := by
  refine ⟨by omega, fun i hi hc hn => ?_⟩
  have e : (a.b + 1 + i - c.b - 1).toNat = i := by omega
  rw [e]
  exact h i hi hc
theorem Kept.same {a c : Nod} (hb : c.b = a.b) (he : c.es = a.es) : Kept a c := Kept.of hb fun i hi _ => by rw [he]; exact ⟨hi, rfl⟩
theorem Go.trans {a b c : Nod} (h : Go a b) (k : Go b c) : Go a c := by
  refine ⟨k.base, k.id.trans h.id, k.conf.trans h.conf, Int.le_trans h.term k.term, fun ht hv => ?_, Int.le_trans h.com k.com, Int.le_trans h.kept.1 k.kept.1, fun i hi hc hn => ?_⟩
  · have h1 := h.term
    have h2 := k.term
    have hb : b.vote = a.vote := h.vote (by omega) hv
    rw [← hb]
    exact k.vote (by omega) (by rw [hb]; exact hv)
  · have h1 := k.kept.1
    have h2 := h.com
    obtain ⟨p, q⟩ := h.kept.2 i hi hc (by omega)
    generalize hk : (a.b + 1 + i - b.b - 1).toNat = n at p q
    have e : b.b + 1 + (n : Int) = a.b + 1 + i := by omega
    obtain ⟨p', q'⟩ := k.kept.2 n p (by omega) (by omega)
    rw [e] at p' q'
    exact ⟨p', q'.trans q⟩
/-- only what stands beside the log and the term changes -/
theorem Go.light {r s : Nod} (h : Base s) (h1 : s.id = r.id) (h2 : s.conf = r.conf) (h3 : s.term = r.term) (h4 : r.vote ≠ 0 → s.vote = r.vote) (h5 : r.commit ≤ s.commit) (h6 : s.b = r.b) (h7 : s.es = r.es) : Go r s :=
  ⟨h, h1, h2, by omega, fun _ => h4, h5, .same h6 h7⟩

theorem agree_eq {r : Nod} (h : Base r) : ∃ c, agree r = { r with commit := c } ∧ r.commit ≤ c ∧ c ≤ r.b + r.es.length := by
  unfold agree
  split
  · rename_i hh
    exact ⟨_, rfl, by omega, (Tr.has_chk hh.1).2.2⟩
  · exact ⟨r.commit, rfl, Int.le_refl _, h.com1⟩
theorem agree_go {r : Nod} (h : Base r) : Go r (agree r) := by
  obtain ⟨c, e, h1, h2⟩ := agree_eq h
  rw [e]
  exact .light { h with com0 := Int.le_trans h.com0 h1, com1 := h2 } rfl rfl rfl (fun _ => rfl) h1 rfl rfl
theorem agree_lead {r : Nod} (h : Base r) (k : Lead r) (hr : r.role = 2) (hv : r.votes = []) : Role (agree r) := by
  obtain ⟨c, e, _, _⟩ := agree_eq h
  rw [e]
  exact .inr (.inr ⟨hr, hv, { k with }⟩)
theorem agree_es (r : Nod) : (agree r).b = r.b ∧ (agree r).es = r.es ∧ (agree r).term = r.term ∧ (agree r).role = r.role := by
  unfold agree; split <;> exact ⟨rfl, rfl, rfl, rfl⟩

theorem app_some {r : Nod} {s : ByteArray} {es : List En} (h : app r s = some es) : es = r.es ++ [(r.term, s)] ∧ Tr.chk r.b r.bt es = true := by
  unfold app at h
  split at h
  · unfold Tr.with_ at h
    split at h
    · rename_i h1 h2
      cases h
      rw [List.take_length] at h2 ⊢
      exact ⟨rfl, h2⟩
    · cases h
  · cases h
theorem grow_eq {r : Nod} (h : Base r) (s : ByteArray) : ∃ es, grow r s = { r with es := es } ∧ Tr.chk r.b r.bt es = true ∧ Fit r.term r.bt es ∧ r.es.length ≤ es.length ∧ ∀ i, i < r.es.length → es.getD i default = r.es.getD i default := by
  unfold grow
  cases hs : app r s with
  | none => exact ⟨r.es, rfl, h.trail, h.fit, Nat.le_refl _, fun _ _ => rfl⟩
  | some es =>
    obtain ⟨rfl, hc⟩ := app_some hs
    refine ⟨_, rfl, hc, ⟨h.fit.1, fun e he => ?_⟩, by simp, fun i hi => Tr.getD_left _ _ _ _ hi⟩
    rcases List.mem_append.1 he with he | he
    · exact h.fit.2 e he
    · obtain rfl := List.mem_singleton.1 he
      exact Int.le_refl _
theorem grow_go {r : Nod} (h : Base r) (s : ByteArray) : Go r (grow r s) := by
  obtain ⟨es, e, h1, h2, h3, h4⟩ := grow_eq h s
  rw [e]
  refine ⟨{ h with trail := h1, fit := h2, com1 := ?_ }, rfl, rfl, Int.le_refl _, fun _ _ => rfl, Int.le_refl _, .of rfl fun i hi _ => ⟨by show i < es.length; omega, h4 i hi⟩⟩
  have := h.com1
  show r.commit ≤ r.b + es.length
  omega
theorem grow_len {r : Nod} (h : Base r) (s : ByteArray) : r.b + r.es.length ≤ (grow r s).b + (grow r s).es.length := by
  obtain ⟨es, e, h1, h2, h3, h4⟩ := grow_eq h s
  rw [e]
  show r.b + r.es.length ≤ r.b + es.length
  omega
theorem idx_lt {v : Int} : ∀ {l : List Int}, v ∈ l → idx v l < l.length
  | [], h => by simp at h
  | x :: l, h => by
    unfold idx
    split
    · simp
    · rename_i hne
      have : v ∈ l := by rcases List.mem_cons.1 h with h | h; exact absurd h.symm hne; exact h
      have := idx_lt this
      simp only [List.length_cons]
      omega
theorem set_get (l : List Int) (i j : Nat) (x : Int) (hi : i < l.length) : (l.set i x).getD j 0 = if j = i then x else l.getD j 0 := by
  by_cases h : j = i
  · subst h; simp [hi]
  · rw [if_neg h]; simp [Ne.symm h]
/-- numbers of a leader, one pair new -/
theorem lead_set {r : Nod} (k : Lead r) (i : Nat) (hi : i < r.conf.length) (m n : Int) (h1 : 0 ≤ m) (h2 : m ≤ r.b + r.es.length) (h3 : m < n) (h4 : n ≤ r.b + r.es.length + 1) : Lead { r with mtch := r.mtch.set i m, next := r.next.set i n } := by
  refine ⟨k.vote, k.leader, by simpa using k.next, by simpa using k.mtch, fun j hj => ?_⟩
  simp only
  rw [set_get _ _ _ _ (by rw [k.mtch]; exact hi), set_get _ _ _ _ (by rw [k.next]; exact hi)]
  split
  · exact ⟨h1, h2, h3, h4⟩
  · exact k.nums j hj
theorem own_lead {r : Nod} (h : Base r) (k : Lead r) : Lead (own r) := by
  unfold own lastN
  rw [lastN_eq h.trail]
  have := Tr.chk_rim h.trail
  exact lead_set k _ (idx_lt h.id) _ _ (by omega) (Int.le_refl _) (by omega) (Int.le_refl _)
theorem grow_lead {r : Nod} (h : Base r) (k : Lead r) (s : ByteArray) : Lead (grow r s) := by
  obtain ⟨es, e, h1, h2, h3, h4⟩ := grow_eq h s
  rw [e]
  refine ⟨k.vote, k.leader, k.next, k.mtch, fun i hi => ?_⟩
  have := k.nums i hi
  simp only
  omega
/-- a leader's log grows: what lead and propose have in common -/
theorem more_go {r : Nod} (h : Base r) (k : Lead r) (hr : r.role = 2) (hv : r.votes = []) (s : ByteArray) : Go r (agree (own (grow r s))) ∧ Role (agree (own (grow r s))) ∧ r.b + r.es.length ≤ (agree (own (grow r s))).b + (agree (own (grow r s))).es.length := by
  have hg := grow_go h s
  have kg := grow_lead h k s
  have hl := grow_len h s
  have hgr : (grow r s).role = 2 ∧ (grow r s).votes = [] := ⟨hr, hv⟩
  generalize grow r s = q at *
  have ho : Base (own q) := { hg.base with }
  have ko := own_lead hg.base kg
  have hgo : Go q (own q) := .light ho rfl rfl rfl (fun _ => rfl) (Int.le_refl _) rfl rfl
  refine ⟨(hg.trans hgo).trans (agree_go ho), agree_lead ho ko hgr.1 hgr.2, ?_⟩
  rw [(agree_es _).1, (agree_es _).2.1]
  exact hl
theorem lead0_lead {r : Nod} (h : Base r) (hv : r.vote = r.id) : Lead (lead0 r) := by
  refine ⟨hv, rfl, by simp [lead0], by simp [lead0], fun i hi => ?_⟩
  have hi' : i < r.conf.length := hi
  have := Tr.chk_rim h.trail
  simp only [lead0, lastN, lastN_eq h.trail, List.getD_eq_getElem?_getD, List.getElem?_replicate, hi', if_true, Option.getD_some]
  omega
theorem lead_go {r : Nod} (h : Base r) (hv : r.vote = r.id) : Go r (lead r) ∧ Role (lead r) := by
  have h0 : Base (lead0 r) := { h with leader := .inr h.id, left0 := (show (0 : Int) ≤ 2 by decide), left1 := (show (2 : Int) ≤ 100 by decide) }
  have hg0 : Go r (lead0 r) := .light h0 rfl rfl rfl (fun _ => rfl) (Int.le_refl _) rfl rfl
  obtain ⟨h1, h2, _⟩ := more_go h0 (lead0_lead h hv) rfl rfl ByteArray.empty
  exact ⟨hg0.trans h1, h2⟩
theorem draw_in (d : Int) : 0 ≤ draw0 d % 10 ∧ draw0 d % 10 < 10 := ⟨Int.emod_nonneg _ (by decide), Int.emod_lt_of_pos _ (by decide)⟩
theorem stand0_go {r : Nod} (h : Base r) (ht : r.term < 1099511627776) (d : Int) : Go r (stand0 r d) := by
  have hd := draw_in d
  have h0 := h.term0
  refine ⟨?_, rfl, rfl, by show r.term ≤ r.term + 1; omega, fun e => ?_, Int.le_refl _, .same rfl rfl⟩
  · exact { h with term0 := (by show 0 ≤ r.term + 1; omega), term1 := (by show r.term + 1 ≤ 1099511627776; omega), vote := .inr h.id, leader := .inl rfl, fit := h.fit.mono (by show r.term ≤ r.term + 1; omega), left0 := (by show 0 ≤ 10 + draw0 d % 10; omega), left1 := (by show 10 + draw0 d % 10 ≤ 100; omega), wait0 := (by show 10 ≤ 10 + draw0 d % 10; omega), wait1 := (by show 10 + draw0 d % 10 < 20; omega) }
  · have : r.term + 1 = r.term := e
    exact absurd this (by omega)
/-- what a message is that may be -/
structure Takes (r : Nod) (m : Msg) : Prop where
  k0 : 1 ≤ m.kind
  k1 : m.kind ≤ 5
  dst : m.dst = r.id
  src : m.src ≠ r.id
  mem : m.src ∈ r.conf
  t0 : 1 ≤ m.term
  t1 : m.term ≤ 1099511627776
  i0 : 0 ≤ m.index
  i1 : m.index ≤ 1099511627776
  l0 : 0 ≤ m.lterm
  l1 : m.lterm ≤ m.term
  c0 : 0 ≤ m.commit
  c1 : m.commit ≤ 1099511627776
  es : m.es.length ≤ 8
  data : m.data.size ≤ 60000
  fol : folm m.term m.lterm m.es = true
theorem takes_iff (r : Nod) (m : Msg) : takes r m = true ↔ Takes r m := by
  unfold takes takes1 takes2
  simp only [Bool.and_eq_true, decide_eq_true_eq]
  constructor
  · rintro ⟨⟨⟨⟨⟨⟨⟨⟨a1, a2⟩, a3⟩, a4⟩, a5⟩, a6⟩, a7⟩, ⟨⟨⟨⟨⟨⟨⟨b1, b2⟩, b3⟩, b4⟩, b5⟩, b6⟩, b7⟩, b8⟩⟩, c⟩
    exact ⟨a1, a2, a3, a4, a5, a6, a7, b1, b2, b3, b4, b5, b6, b7, b8, c⟩
  · rintro ⟨a1, a2, a3, a4, a5, a6, a7, b1, b2, b3, b4, b5, b6, b7, b8, c⟩
    exact ⟨⟨⟨⟨⟨⟨⟨⟨a1, a2⟩, a3⟩, a4⟩, a5⟩, a6⟩, a7⟩, ⟨⟨⟨⟨⟨⟨⟨b1, b2⟩, b3⟩, b4⟩, b5⟩, b6⟩, b7⟩, b8⟩⟩, c⟩
theorem folm_all {T : Int} : ∀ {t : Int} {l : List En}, folm T t l = true → ∀ e ∈ l, e.1 ≤ T
  | t, [], _, e, he => by simp at he
  | t, x :: l, h, e, he => by
    simp only [folm, Bool.and_eq_true, decide_eq_true_eq] at h
    rcases List.mem_cons.1 he with rfl | he
    · exact h.1.2.2.1
    · exact folm_all h.2 e he
theorem folm_fol {T : Int} (hT : T ≤ 1099511627776) : ∀ {t : Int} {l : List En}, folm T t l = true → Tr.fol t l = true
  | t, [], _ => rfl
  | t, x :: l, h => by
    simp only [folm, Bool.and_eq_true, decide_eq_true_eq] at h
    simp only [Tr.fol, Tr.ok, Bool.and_eq_true, decide_eq_true_eq]
    exact ⟨by omega, folm_fol hT h.2⟩

theorem put2_parts {b bt : Int} {es : List En} {k : Nat} {of : Int} {l : List En} {fixed : Int} {out : List En} (h : Tr.Put2 b bt es k of l fixed out) (hc : fixed ≤ b + es.length) : (∀ e ∈ out, e ∈ es ∨ e ∈ l) ∧ fixed ≤ b + out.length := by
  rcases h.res with ⟨_, rfl⟩ | ⟨h1, h2, _, rfl⟩
  · exact ⟨fun e he => .inl he, hc⟩
  · have ha := Tr.adv_le (es.drop k) l
    have hk := h.le
    rw [List.length_drop] at ha
    refine ⟨fun e he => ?_, ?_⟩
    · rcases List.mem_append.1 he with he | he
      · exact .inl (List.mem_of_mem_take he)
      · exact .inr (List.mem_of_mem_drop he)
    · simp only [List.length_append, List.length_take, List.length_drop]
      omega
theorem put_parts2 {b bt : Int} {es : List En} {prev of : Int} {l : List En} {fixed : Int} {out : List En} (h : Tr.put b bt es prev of l fixed = some out) (hc : fixed ≤ b + es.length) : (∀ e ∈ out, e ∈ es ∨ e ∈ l) ∧ fixed ≤ b + out.length := by
  obtain ⟨_, _, _, _, ⟨_, _, rfl⟩ | ⟨_, _, _, h⟩ | ⟨_, h⟩⟩ := (Tr.put_iff _ _ _ _ _ _ _ _).1 h
  · exact ⟨fun e he => .inl he, hc⟩
  · obtain ⟨p, q⟩ := put2_parts h hc
    exact ⟨fun e he => (p e he).imp id List.mem_of_mem_drop, q⟩
  · exact put2_parts h hc
theorem follow_go {r : Nod} (h : Base r) {m : Msg} (ht : Takes r m) : Base (follow r m) := { h with leader := .inr ht.mem, left0 := by have := h.wait0; show 0 ≤ r.wait; omega, left1 := by have := h.wait1; show r.wait ≤ 100; omega }
theorem take_go {r : Nod} (h : Base r) (hn : r.next = [] ∧ r.mtch = []) {m : Msg} (ht : Takes r m) (hm : m.term = r.term) : Go r (take r m).1 ∧ Role (take r m).1 := by
  have hf := follow_go h ht
  unfold take
  split
  · exact ⟨.light hf rfl rfl rfl (fun _ => rfl) (Int.le_refl _) rfl rfl, .inl ⟨rfl, rfl, hn.1, hn.2⟩⟩
  · rename_i es he
    unfold put at he
    obtain ⟨p1, p2⟩ := put_parts2 he hf.com1
    have p3 := Tr.put_chk he
    have hl := lastN_eq p3
    have c0 := h.com0
    refine ⟨⟨{ hf with trail := p3, fit := ⟨h.fit.1, fun e hee => ?_⟩, com0 := ?_, com1 := ?_ }, rfl, rfl, Int.le_refl _, fun _ _ => rfl, ?_, .of rfl fun i hi hc => ?_⟩, .inl ⟨rfl, rfl, hn.1, hn.2⟩⟩
    · rcases p1 e hee with h1 | h1
      · exact h.fit.2 e h1
      · have := folm_all ht.fol e h1
        show e.1 ≤ r.term
        omega
    · show r.b ≤ max r.commit _
      omega
    · show max r.commit (min (min m.commit (m.index + m.es.length)) (Tr.lastN r.b r.bt es)) ≤ r.b + es.length
      have hl' : Tr.lastN r.b r.bt es = r.b + es.length := hl
      have p2' : r.commit ≤ r.b + es.length := p2
      rw [hl']
      omega
    · show r.commit ≤ max r.commit _
      omega
    · have p2' : r.commit ≤ r.b + es.length := p2
      refine ⟨by show i < es.length; omega, Tr.put_keeps he i hi (.inr ?_)⟩
      exact hc
theorem cut_fit {T b bt : Int} {es : List En} (h : Fit T bt es) (n : Int) (hn : b ≤ n) (hn2 : n ≤ b + es.length) : Fit T (Tr.trm b bt es n) (es.drop (n - b).toNat) := by
  rw [Tr.trm_at _ _ _ _ hn]
  exact ⟨h.at_ _ (by omega), fun e he => h.2 e (List.mem_of_mem_drop he)⟩
theorem cut_chk {b bt : Int} {es : List En} (h : Tr.chk b bt es = true) (n : Int) (hn : b ≤ n) (hn2 : n ≤ b + es.length) : Tr.chk n (Tr.trm b bt es n) (es.drop (n - b).toNat) = true := by
  have hr := Tr.chk_rim h
  have hf := Tr.chk_fol h
  have he := Tr.trm_at b bt es n hn
  have hd := Tr.fol_drop (n - b).toNat (by omega) hf
  have hb : 0 ≤ Tr.at_ bt es (n - b).toNat ∧ Tr.at_ bt es (n - b).toNat ≤ 1099511627776 := by
    unfold Tr.at_
    split
    · omega
    · have := Tr.fol_get ((n - b).toNat - 1) (by omega) hf
      omega
  rw [he]
  refine Tr.chk_mk ?_ hd
  rw [List.length_drop]
  refine ⟨by omega, by omega, hb.1, hb.2, ?_, by omega, by omega⟩
  by_cases h0 : 0 < n
  · exact .inl h0
  · right
    have e0 : (n - b).toNat = 0 := by omega
    unfold Tr.at_
    rw [e0, if_pos rfl]
    omega
theorem bundle_go {r : Nod} (h : Base r) (hn : r.next = [] ∧ r.mtch = []) {m : Msg} (ht : Takes r m) (hm : m.term = r.term) : Go r (bundle r m).1 ∧ Role (bundle r m).1 := by
  have hf := follow_go h ht
  have hr := Tr.chk_rim h.trail
  have c0 := h.com0
  have c1 := h.com1
  have i1 := ht.i1
  have l0 := ht.l0
  have l1 := ht.l1
  have t1 := ht.t1
  unfold bundle bundle1
  split
  · rename_i hc
    have hc : r.commit < m.index := hc
    split
    · rename_i hh
      have hh : cutHas r m = true := hh
      unfold cutHas at hh
      simp only [Bool.and_eq_true, decide_eq_true_eq] at hh
      obtain ⟨h1, h2⟩ := hh
      obtain ⟨_, h3, h4⟩ := Tr.has_chk h1
      unfold trm0 at h2
      rw [if_pos h1] at h2
      have k1 := cut_chk h.trail m.index h3 h4
      have k2 := cut_fit h.fit m.index h3 h4
      rw [h2] at k1 k2
      refine ⟨⟨{ hf with trail := k1, fit := k2, snap := ht.data, com0 := Int.le_refl _, com1 := ?_ }, rfl, rfl, Int.le_refl _, fun _ _ => rfl, ?_, ?_, fun i hi hc2 hn => ?_⟩, .inl ⟨rfl, rfl, hn.1, hn.2⟩⟩
      · show m.index ≤ m.index + ((r.es.drop (m.index - r.b).toNat).length : Int)
        omega
      · show r.commit ≤ m.index
        omega
      · show r.b ≤ m.index
        omega
      · exfalso
        have : m.index < r.b + 1 + i := hn
        omega
    · refine ⟨⟨{ hf with trail := ?_, fit := ⟨?_, by simp⟩, snap := ht.data, com0 := Int.le_refl _, com1 := ?_ }, rfl, rfl, Int.le_refl _, fun _ _ => rfl, ?_, ?_, fun i hi hc2 hn => ?_⟩, .inl ⟨rfl, rfl, hn.1, hn.2⟩⟩
      · show Tr.chk m.index m.lterm [] = true
        exact Tr.chk_mk ⟨by omega, i1, l0, by omega, .inl (by omega), by simp, by simpa using i1⟩ rfl
      · show m.lterm ≤ r.term
        omega
      · show m.index ≤ m.index + (([] : List En).length : Int)
        simp
      · show r.commit ≤ m.index
        omega
      · show r.b ≤ m.index
        omega
      · exfalso
        have : m.index < r.b + 1 + i := hn
        omega
  · exact ⟨.light hf rfl rfl rfl (fun _ => rfl) (Int.le_refl _) rfl rfl, .inl ⟨rfl, rfl, hn.1, hn.2⟩⟩
theorem ask_go {r : Nod} (h : Base r) (hR : Role r) {m : Msg} (ht : Takes r m) : Go r (ask r m).1 ∧ Role (ask r m).1 := by
  unfold ask
  by_cases hy : yes r m = true
  · rw [if_pos hy]
    unfold yes at hy
    simp only [Bool.and_eq_true, decide_eq_true_eq] at hy
    obtain ⟨⟨y1, y2⟩, _⟩ := hy
    have w0 := h.wait0
    have w1 := h.wait1
    refine ⟨.light { h with vote := .inr ht.mem, left0 := by show 0 ≤ r.wait; omega, left1 := by show r.wait ≤ 100; omega } rfl rfl rfl (fun hv => ?_) (Int.le_refl _) rfl rfl, ?_⟩
    · rcases y1 with e | e
      · exact absurd e hv
      · exact e.symm
    · rcases hR with ⟨a, b, c, d⟩ | ⟨a, _⟩ | ⟨a, _⟩
      · exact .inl ⟨a, b, c, d⟩
      · omega
      · omega
  · rw [if_neg hy]
    exact ⟨.light h rfl rfl rfl (fun _ => rfl) (Int.le_refl _) rfl rfl, hR⟩
theorem grant_go {r : Nod} (h : Base r) (hR : Role r) {m : Msg} (ht : Takes r m) : Go r (grant r m).1 ∧ Role (grant r m).1 := by
  unfold grant
  split
  · rename_i hh
    obtain ⟨h1, h2, h3⟩ := hh
    rcases hR with ⟨a, _⟩ | ⟨a, b, c, d⟩ | ⟨a, _⟩
    · omega
    · have hb : Base { r with votes := r.votes ++ [m.src] } := { h with }
      have hg : Go r { r with votes := r.votes ++ [m.src] } := .light hb rfl rfl rfl (fun _ => rfl) (Int.le_refl _) rfl rfl
      split
      · obtain ⟨g1, g2⟩ := lead_go hb b.vote
        exact ⟨hg.trans g1, g2⟩
      · rename_i hw
        refine ⟨hg, .inr (.inl ⟨a, ⟨b.vote, by simp, ?_, by simpa using hw, ?_⟩, c, d⟩)⟩
        · have h1 := b.first
          have h2 := b.some
          show (r.votes ++ [m.src]).getD 0 0 = r.id
          rw [Tr.getD_left _ _ _ _ h2]
          exact h1
        · show vok r.conf [] (r.votes ++ [m.src]) = true
          rw [vok_snoc, b.ok]
          simp [ht.mem, h3]
    · omega
  · exact ⟨.light h rfl rfl rfl (fun _ => rfl) (Int.le_refl _) rfl rfl, hR⟩
theorem ack_go {r : Nod} (h : Base r) (hR : Role r) {m : Msg} (ht : Takes r m) : Go r (ack r m).1 ∧ Role (ack r m).1 ∧ r.b + r.es.length ≤ (ack r m).1.b + (ack r m).1.es.length := by
  unfold ack
  split
  · exact ⟨.light h rfl rfl rfl (fun _ => rfl) (Int.le_refl _) rfl rfl, hR, Int.le_refl _⟩
  · rename_i hh
    have hr : r.role = 2 := by omega
    have hl : m.index ≤ r.b + r.es.length := by
      have : ¬ lastN r < m.index := fun e => hh (.inr e)
      unfold lastN at this
      rw [lastN_eq h.trail] at this
      omega
    have i0 := ht.i0
    have hi := idx_lt ht.mem
    rcases hR with ⟨a, _⟩ | ⟨a, _⟩ | ⟨a, b, c⟩
    · omega
    · omega
    · have hn := c.nums _ hi
      generalize idx m.src r.conf = i at *
      split
      · have hb : Base (ack1 r m i) := { h with }
        have hc : Lead (ack1 r m i) := lead_set c i hi _ _ (by omega) (by omega) (by omega) (by omega)
        refine ⟨Go.trans (.light hb rfl rfl rfl (fun _ => rfl) (Int.le_refl _) rfl rfl) (agree_go hb), agree_lead hb hc a b, ?_⟩
        rw [(agree_es _).1, (agree_es _).2.1]
        exact Int.le_refl _
      · have hb : Base (nack1 r m i) := { h with }
        have hc := lead_set c i hi (r.mtch.getD i 0) (max (min (m.index + 1) (r.next.getD i 0 - 1)) (r.mtch.getD i 0 + 1)) (by omega) (by omega) (by omega) (by omega)
        have he : r.mtch.set i (r.mtch.getD i 0) = r.mtch := by
          rw [List.getD_eq_getElem?_getD, List.getElem?_eq_getElem (by rw [c.mtch]; exact hi)]
          simp
        rw [he] at hc
        exact ⟨.light hb rfl rfl rfl (fun _ => rfl) (Int.le_refl _) rfl rfl, .inr (.inr ⟨a, b, hc⟩), Int.le_refl _⟩
theorem Takes.newer {r : Nod} {m : Msg} (h : Takes r m) : Takes (newer r m) m := by
  unfold Rf.newer
  split
  · exact { h with }
  · exact h
theorem newer_go {r : Nod} (h : Base r) (hR : Role r) {m : Msg} (ht : Takes r m) : Go r (newer r m) ∧ Role (newer r m) := by
  have t0 := ht.t0
  unfold newer
  split
  · rename_i hl
    refine ⟨⟨{ h with term0 := by show 0 ≤ m.term; omega, term1 := ht.t1, vote := .inl rfl, leader := .inl rfl, fit := h.fit.mono (by show r.term ≤ m.term; omega) }, rfl, rfl, by show r.term ≤ m.term; omega, fun e => ?_, Int.le_refl _, .same rfl rfl⟩, .inl ⟨rfl, rfl, rfl, rfl⟩⟩
    have : m.term = r.term := e
    omega
  · exact ⟨.light h rfl rfl rfl (fun _ => rfl) (Int.le_refl _) rfl rfl, hR⟩
theorem role_nil {r : Nod} (hR : Role r) (h : r.role ≠ 2) : r.next = [] ∧ r.mtch = [] := by
  rcases hR with ⟨a, b, c, d⟩ | ⟨a, b, c, d⟩ | ⟨a, _⟩
  · exact ⟨c, d⟩
  · exact ⟨c, d⟩
  · exact absurd a h
theorem same_go {r : Nod} (h : Base r) (hR : Role r) {m : Msg} (ht : Takes r m) (hm : m.term = r.term) : Go r (same r m).1 ∧ Role (same r m).1 ∧ (r.role = 2 → (same r m).1.role = 2 → r.b + r.es.length ≤ (same r m).1.b + (same r m).1.es.length) := by
  unfold same
  split
  · obtain ⟨a, b⟩ := ask_go h hR ht
    refine ⟨a, b, fun _ _ => ?_⟩
    unfold ask
    simp only
    split <;> exact Int.le_refl _
  · split
    · obtain ⟨a, b⟩ := grant_go h hR ht
      refine ⟨a, b, fun e _ => ?_⟩
      unfold grant
      rw [if_neg (fun hh => by have := hh.1; omega)]
      exact Int.le_refl _
    · split
      · obtain ⟨a, b, c⟩ := ack_go h hR ht
        exact ⟨a, b, fun _ _ => c⟩
      · split
        · exact ⟨.light h rfl rfl rfl (fun _ => rfl) (Int.le_refl _) rfl rfl, hR, fun _ _ => Int.le_refl _⟩
        · rename_i hr
          have hn := role_nil hR hr
          split
          · obtain ⟨a, b⟩ := take_go h hn ht hm
            exact ⟨a, b, fun e => absurd e hr⟩
          · obtain ⟨a, b⟩ := bundle_go h hn ht hm
            exact ⟨a, b, fun e => absurd e hr⟩
/-- behind a message -/
theorem handle_go {r : Nod} (h : Base r) (hR : Role r) (m : Msg) : Go r (handle r m).1 ∧ Role (handle r m).1 ∧ (r.role = 2 → (handle r m).1.role = 2 → (handle r m).1.term = r.term → r.b + r.es.length ≤ (handle r m).1.b + (handle r m).1.es.length) := by
  have hself : Go r r := .light h rfl rfl rfl (fun _ => rfl) (Int.le_refl _) rfl rfl
  unfold handle
  split
  · rename_i hh
    simp only [Bool.and_eq_true, takes_iff] at hh
    have ht := hh.2
    split
    · exact ⟨hself, hR, fun _ _ _ => Int.le_refl _⟩
    · rename_i hlt
      obtain ⟨g1, g2⟩ := newer_go h hR ht
      have hnt : m.term = (newer r m).term := by unfold newer; split; rfl; omega
      obtain ⟨k1, k2, k3⟩ := same_go g1.base g2 ht.newer hnt
      refine ⟨g1.trans k1, k2, fun e1 e2 e3 => ?_⟩
      have hc1 := k1.term
      have hle : ¬ r.term < m.term := by omega
      have hnn : newer r m = r := by unfold newer; rw [if_neg hle]
      rw [hnn] at k3 e2 ⊢
      exact k3 e1 e2
  · exact ⟨hself, hR, fun _ _ _ => Int.le_refl _⟩
end Rf
end Go.Proofs.YtdladjgdhnkkcaaGreat

/-
  A node of a group in memory: its cells, its lists, what it sends; what other blocks' changes leave of it.
  Conditions: stated lemma by lemma.
-/
namespace Go.Proofs.YtdladjgdhnkkcaaGreat
open Go.RowKit
set_option linter.unusedVariables false
set_option linter.unusedSimpArgs false
set_option linter.unusedSectionVars false

/-- a message in memory -/
structure MsgV where
  m : Msg
  A : Option Addr
  cap : Nat
instance : Inhabited MsgV := ⟨⟨default, none, 0⟩⟩
def MsgV.cells (x : MsgV) : List Value := [.int .i64 x.m.kind, .int .i64 x.m.src, .int .i64 x.m.dst, .int .i64 x.m.term, .int .i64 x.m.index, .int .i64 x.m.lterm, .int .i64 x.m.commit, .bool x.m.yes, .slice x.A x.m.es.length x.cap, .string x.m.data]
def layM : Lay MsgV := ⟨10, MsgV.cells, fun _ => rfl, by decide, fun x u hu => by simp only [MsgV.cells, List.mem_cons, List.not_mem_nil, or_false] at hu; rcases hu with rfl | rfl | rfl | rfl | rfl | rfl | rfl | rfl | rfl | rfl <;> rfl⟩
/-- where a node's lists lie -/
structure NdX where
  cA : Option Addr
  cc : Nat
  eA : Option Addr
  ec : Nat
  vA : Option Addr
  vc : Nat
  nA : Option Addr
  nc : Nat
  mA : Option Addr
  mc : Nat
  oA : Option Addr
  oc : Nat
/-- a node as a value -/
abbrev raftV (r : Nod) (x : NdX) : Value := .agg #[.int .i64 r.id, .slice x.cA r.conf.length x.cc, .int .i64 r.term, .int .i64 r.vote, .int .i64 r.role, .int .i64 r.leader, .int .i64 r.b, .int .i64 r.bt, .slice x.eA r.es.length x.ec, .string r.snap, .int .i64 r.commit, .int .i64 r.left, .int .i64 r.wait, .slice x.vA r.votes.length x.vc, .slice x.nA r.next.length x.nc, .slice x.mA r.mtch.length x.mc]
/-- a node with what it sends, cell by cell -/
abbrev nodeC (r : Nod) (x : NdX) (n : Nat) : Array Value := #[.int .i64 r.id, .slice x.cA r.conf.length x.cc, .int .i64 r.term, .int .i64 r.vote, .int .i64 r.role, .int .i64 r.leader, .int .i64 r.b, .int .i64 r.bt, .slice x.eA r.es.length x.ec, .string r.snap, .int .i64 r.commit, .int .i64 r.left, .int .i64 r.wait, .slice x.vA r.votes.length x.vc, .slice x.nA r.next.length x.nc, .slice x.mA r.mtch.length x.mc, .slice x.oA n x.oc]

/-- whatever colour a value's own block has -/
def Col (col : Nat → Nat) (c : Nat) (v : Value) : Prop := ∀ b, v.ownBlock = some b → col b = c
/-- from block n on the colour is c -/
def recol (col : Nat → Nat) (n c : Nat) : Nat → Nat := fun b => if b < n then col b else c
theorem recol_old {col : Nat → Nat} {n c b : Nat} (h : b < n) : recol col n c b = col b := by unfold recol; rw [if_pos h]
theorem recol_new {col : Nat → Nat} {n c b : Nat} (h : n ≤ b) : recol col n c b = c := by unfold recol; rw [if_neg (by omega)]
/-- blocks of other colours than c are as they were -/
def Only (col : Nat → Nat) (c : Nat) (w w' : World) : Prop := w.heap.size ≤ w'.heap.size ∧ ∀ b, b < w.heap.size → col b ≠ c → w'.heap[b]? = w.heap[b]?
theorem Only.bel {col : Nat → Nat} {c : Nat} {w w' : World} (h : Below w.heap.size w w') : Only col c w w' := ⟨h.size, fun b hb _ => h.block b hb⟩
theorem Only.set {col : Nat → Nat} {c : Nat} {w : World} {p : Addr} (h : col p.block = c) (u : Value) : Only col c w (w.setCell p u) :=
  ⟨by simp, fun b _ hc => Below.heap_setCell _ _ _ _ (fun e => hc (by rw [e]; exact h))⟩
theorem Only.grown {col : Nat → Nat} {c : Nat} {w w' : World} {v : Value} (hc : Col col c v) (h : w.grownBy w' v.ownBlock) : Only col c w w' :=
  ⟨h.size, fun b hb hne => h.block b hb (fun e => hne (hc b e.symm))⟩
theorem Only.trans {col : Nat → Nat} {c : Nat} {a w w' : World} (h : Only col c a w) (k : Only col c w w') : Only col c a w' :=
  ⟨Nat.le_trans h.1 k.1, fun b hb hc => (k.2 b (Nat.lt_of_lt_of_le hb h.1) hc).trans (h.2 b hb hc)⟩

section
variable {α : Type} [Inhabited α] {L : Lay α} {w w' : World} {e : TypeId} {base : Nat} {v : Value} {xs : List α} {col : Nat → Nat} {c c' : Nat}
theorem OwnL.only (h : OwnL L e w base v xs) (hc : Col col c' v) (hne : c' ≠ c) (ho : Only col c w w') : OwnL L e w' base v xs := by
  refine ⟨h.1, ?_⟩
  rcases h.2 with hn | ⟨g, cap, cur, rfl, hb, hgg, rest⟩
  · exact .inl hn
  · exact .inr ⟨g, cap, cur, rfl, hb, (ho.2 g (Array.getElem?_eq_some_iff.1 hgg).1 (by rw [hc g rfl]; exact hne)).trans hgg, rest⟩
theorem OwnL.low {b' : Nat} (h : OwnL L e w b' v xs) (hb : base ≤ b') : OwnL L e w base v xs := by
  refine ⟨h.1, ?_⟩
  rcases h.2 with hn | ⟨g, cap, cur, rfl, hg, rest⟩
  · exact .inl hn
  · exact .inr ⟨g, cap, cur, rfl, Nat.le_trans hb hg, rest⟩
theorem OwnL.recol (h : OwnL L e w base v xs) (hc : Col col c' v) (n : Nat) (hn : w.heap.size ≤ n) : Col (recol col n c) c' v := fun b hb => by
  rw [recol_old (Nat.lt_of_lt_of_le (h.lt b hb).2 hn)]
  exact hc b hb
end
/-- entries as elements of a row -/
def layE : Lay En := ⟨2, fun e => [.int .i64 e.1, .string e.2], fun _ => rfl, by decide, fun x u hu => by simp only [List.mem_cons, List.not_mem_nil, or_false] at hu; rcases hu with rfl | rfl <;> rfl⟩
theorem OwnE.row {w : World} {base : Nat} {v : Value} {es : List En} : OwnE w base v es ↔ OwnL layE 68 w base v es := Iff.rfl
/-- entries that the node owns, in a block of colour 0 from base on -/
def RdZ (base : Nat) (col : Nat → Nat) (w : World) (A : Option Addr) (c : Nat) (es : List En) : Prop :=
  OwnE w base (.slice A es.length c) es ∧ Col col 0 (.slice A es.length c)
section
variable {w w' : World} {base : Nat} {A : Option Addr} {es : List En} {col : Nat → Nat} {c cp : Nat}
theorem RdZ.rd (h : RdZ base col w A cp es) : RdE w A es := h.1.rd.2.1
theorem RdZ.le (h : RdZ base col w A cp es) : es.length ≤ cp := h.1.rd.1
theorem RdZ.only (h : RdZ base col w A cp es) (hne : c ≠ 0) (ho : Only col c w w') : RdZ base col w' A cp es := ⟨OwnE.row.2 ((OwnE.row.1 h.1).only h.2 (Ne.symm hne) ho), h.2⟩
theorem RdZ.bel (h : RdZ base col w A cp es) (hb : Below w.heap.size w w') : RdZ base col w' A cp es := h.only (c := 1) (by decide) (.bel hb)
theorem RdZ.recol (h : RdZ base col w A cp es) (n : Nat) (hn : w.heap.size ≤ n) : RdZ base (recol col n c) w A cp es := ⟨h.1, (OwnE.row.1 h.1).recol h.2 n hn⟩
theorem RdZ.nil : RdZ base col w none 0 [] := ⟨OwnE.nil _ _, fun b hb => by cases hb⟩
/-- entries that a callee has made -/
theorem RdZ.new (h : OwnE w' w.heap.size (.slice A es.length cp) es) (hb : base ≤ w.heap.size) : RdZ base (Go.Proofs.YtdladjgdhnkkcaaGreat.recol col w.heap.size 0) w' A cp es :=
  ⟨h.low hb, fun b hb => recol_new (World.ownsRow.lt h b hb).1⟩
end

/-- a node's lists and what it sends, each in blocks of its own colour: entries 0, the node 1, votes 2, next 3, match 4, what is sent 5, the configuration 6 -/
structure Rest (base : Nat) (col : Nat → Nat) (r : Nod) (x : NdX) (L : List MsgV) (w : World) : Prop where
  bs : base ≤ w.heap.size
  conf : OwnL (layI .i64) 3 w base (.slice x.cA r.conf.length x.cc) r.conf
  confc : Col col 6 (.slice x.cA r.conf.length x.cc)
  es : RdZ base col w x.eA x.ec r.es
  votes : OwnL (layI .i64) 3 w base (.slice x.vA r.votes.length x.vc) r.votes
  votesc : Col col 2 (.slice x.vA r.votes.length x.vc)
  next : OwnL (layI .i64) 2 w base (.slice x.nA r.next.length x.nc) r.next
  nextc : Col col 3 (.slice x.nA r.next.length x.nc)
  mtch : OwnL (layI .i64) 2 w base (.slice x.mA r.mtch.length x.mc) r.mtch
  mtchc : Col col 4 (.slice x.mA r.mtch.length x.mc)
  out : OwnL layM 30 w base (.slice x.oA L.length x.oc) L
  outc : Col col 5 (.slice x.oA L.length x.oc)
  ents : ∀ y ∈ L, y.m.es.length ≤ y.cap ∧ RdZ base col w y.A y.cap y.m.es
section
variable {base : Nat} {col : Nat → Nat} {r : Nod} {x : NdX} {L : List MsgV} {w w' : World}
/-- a change of the node's own block -/
theorem Rest.only1 (h : Rest base col r x L w) (ho : Only col 1 w w') : Rest base col r x L w' :=
  ⟨Nat.le_trans h.bs ho.1, h.conf.only h.confc (by decide) ho, h.confc, h.es.only (by decide) ho, h.votes.only h.votesc (by decide) ho, h.votesc, h.next.only h.nextc (by decide) ho, h.nextc, h.mtch.only h.mtchc (by decide) ho, h.mtchc,
    h.out.only h.outc (by decide) ho, h.outc, fun y hy => ⟨(h.ents y hy).1, (h.ents y hy).2.only (by decide) ho⟩⟩
theorem Rest.bel (h : Rest base col r x L w) (hb : Below w.heap.size w w') : Rest base col r x L w' := h.only1 (.bel hb)
theorem Rest.set1 (h : Rest base col r x L w) {p : Addr} (hp : col p.block = 1) (u : Value) : Rest base col r x L (w.setCell p u) := h.only1 (.set hp u)
theorem Rest.recol (h : Rest base col r x L w) (c : Nat) : Rest base (recol col w.heap.size c) r x L w :=
  ⟨h.bs, h.conf, h.conf.recol h.confc _ (Nat.le_refl _), h.es.recol _ (Nat.le_refl _), h.votes, h.votes.recol h.votesc _ (Nat.le_refl _), h.next, h.next.recol h.nextc _ (Nat.le_refl _), h.mtch, h.mtch.recol h.mtchc _ (Nat.le_refl _),
    h.out, h.out.recol h.outc _ (Nat.le_refl _), fun y hy => ⟨(h.ents y hy).1, (h.ents y hy).2.recol _ (Nat.le_refl _)⟩⟩
theorem col_new {α : Type} [Inhabited α] {Ly : Lay α} {e : TypeId} {v v' : Value} {xs : List α} {c : Nat} (h : OwnL Ly e w base v xs) (hc : Col col c v) (h3 : v'.ownBlock = v.ownBlock ∨ v'.ownBlock = some w.heap.size) : Col (Go.Proofs.YtdladjgdhnkkcaaGreat.recol col w.heap.size c) c v' := fun b hb => by
  rcases h3 with h3 | h3
  · rw [h3] at hb
    rw [recol_old (h.lt b hb).2]
    exact hc b hb
  · rw [h3] at hb
    injection hb with hb
    rw [recol_new (by omega)]
/-- one message more -/
theorem Rest.out_put (h : Rest base col r x L w) {A : Option Addr} {c : Nat} {y : MsgV} (ho : OwnL layM 30 w' base (.slice A (L ++ [y]).length c) (L ++ [y])) (hg : w.grownBy w' (Value.slice x.oA L.length x.oc).ownBlock)
    (h3 : (Value.slice A (L ++ [y]).length c).ownBlock = (Value.slice x.oA L.length x.oc).ownBlock ∨ (Value.slice A (L ++ [y]).length c).ownBlock = some w.heap.size) (hy : y.m.es.length ≤ y.cap ∧ RdZ base col w y.A y.cap y.m.es) :
    Rest base (Go.Proofs.YtdladjgdhnkkcaaGreat.recol col w.heap.size 5) r { x with oA := A, oc := c } (L ++ [y]) w' := by
  have hon := Only.grown h.outc hg
  have hon' : Only (Go.Proofs.YtdladjgdhnkkcaaGreat.recol col w.heap.size 5) 5 w w' := ⟨hon.1, fun b hb hc => hon.2 b hb (by rwa [recol_old hb] at hc)⟩
  have k := h.recol 5
  exact ⟨Nat.le_trans h.bs hon.1, k.conf.only k.confc (by decide) hon', k.confc, k.es.only (by decide) hon', k.votes.only k.votesc (by decide) hon', k.votesc, k.next.only k.nextc (by decide) hon', k.nextc, k.mtch.only k.mtchc (by decide) hon', k.mtchc,
    ho, col_new h.out h.outc h3, fun z hz => by
      rcases List.mem_append.1 hz with hz | hz
      · exact ⟨(h.ents z hz).1, (k.ents z hz).2.only (by decide) hon'⟩
      · obtain rfl := List.mem_singleton.1 hz
        exact ⟨hy.1, (hy.2.recol _ (Nat.le_refl _)).only (by decide) hon'⟩⟩
/-- one vote more -/
theorem Rest.votes_put (h : Rest base col r x L w) {A : Option Addr} {c : Nat} {vs : List Int} (ho : OwnL (layI .i64) 3 w' base (.slice A vs.length c) vs) (hg : w.grownBy w' (Value.slice x.vA r.votes.length x.vc).ownBlock)
    (h3 : (Value.slice A vs.length c).ownBlock = (Value.slice x.vA r.votes.length x.vc).ownBlock ∨ (Value.slice A vs.length c).ownBlock = some w.heap.size) :
    Rest base (Go.Proofs.YtdladjgdhnkkcaaGreat.recol col w.heap.size 2) { r with votes := vs } { x with vA := A, vc := c } L w' := by
  have hon := Only.grown h.votesc hg
  have hon' : Only (Go.Proofs.YtdladjgdhnkkcaaGreat.recol col w.heap.size 2) 2 w w' := ⟨hon.1, fun b hb hc => hon.2 b hb (by rwa [recol_old hb] at hc)⟩
  have k := h.recol 2
  exact ⟨Nat.le_trans h.bs hon.1, k.conf.only k.confc (by decide) hon', k.confc, k.es.only (by decide) hon', ho, col_new h.votes h.votesc h3, k.next.only k.nextc (by decide) hon', k.nextc, k.mtch.only k.mtchc (by decide) hon', k.mtchc,
    k.out.only k.outc (by decide) hon', k.outc, fun z hz => ⟨(h.ents z hz).1, (k.ents z hz).2.only (by decide) hon'⟩⟩
/-- a number of next -/
theorem Rest.next_set (h : Rest base col r x L w) {g : Nat} {p : Addr} {u : Value} {ns : List Int} (hl : ns.length = r.next.length) (hp : x.nA = some ⟨g, 0, none⟩) (hq : p.block = g) (ho : OwnL (layI .i64) 2 (w.setCell p u) base (.slice x.nA ns.length x.nc) ns) :
    Rest base col { r with next := ns } x L (w.setCell p u) := by
  have hon : Only col 3 w (w.setCell p u) := .set (h.nextc p.block (by rw [hq, hp]; rfl)) u
  exact ⟨Nat.le_trans h.bs hon.1, h.conf.only h.confc (by decide) hon, h.confc, h.es.only (by decide) hon, h.votes.only h.votesc (by decide) hon, h.votesc, ho, by show Col col 3 (.slice x.nA ns.length x.nc); rw [hl]; exact h.nextc, h.mtch.only h.mtchc (by decide) hon, h.mtchc,
    h.out.only h.outc (by decide) hon, h.outc, fun z hz => ⟨(h.ents z hz).1, (h.ents z hz).2.only (by decide) hon⟩⟩
/-- a number of match -/
theorem Rest.mtch_set (h : Rest base col r x L w) {g : Nat} {p : Addr} {u : Value} {ms : List Int} (hl : ms.length = r.mtch.length) (hp : x.mA = some ⟨g, 0, none⟩) (hq : p.block = g) (ho : OwnL (layI .i64) 2 (w.setCell p u) base (.slice x.mA ms.length x.mc) ms) :
    Rest base col { r with mtch := ms } x L (w.setCell p u) := by
  have hon : Only col 4 w (w.setCell p u) := .set (h.mtchc p.block (by rw [hq, hp]; rfl)) u
  exact ⟨Nat.le_trans h.bs hon.1, h.conf.only h.confc (by decide) hon, h.confc, h.es.only (by decide) hon, h.votes.only h.votesc (by decide) hon, h.votesc, h.next.only h.nextc (by decide) hon, h.nextc, ho, by show Col col 4 (.slice x.mA ms.length x.mc); rw [hl]; exact h.mtchc,
    h.out.only h.outc (by decide) hon, h.outc, fun z hz => ⟨(h.ents z hz).1, (h.ents z hz).2.only (by decide) hon⟩⟩
/-- what stands beside the lists may be anything -/
theorem Rest.plain (h : Rest base col r x L w) (r' : Nod) (h1 : r'.conf = r.conf) (h2 : r'.es = r.es) (h3 : r'.votes = r.votes) (h4 : r'.next = r.next) (h5 : r'.mtch = r.mtch) : Rest base col r' x L w := by
  obtain ⟨id', conf', term', vote', role', leader', b', bt', es', snap', commit', left', wait', votes', next', mtch'⟩ := r'
  simp only at h1 h2 h3 h4 h5
  subst h1; subst h2; subst h3; subst h4; subst h5
  exact { h with }
/-- no votes -/
theorem Rest.votes0 (h : Rest base col r x L w) : Rest base col { r with votes := [] } { x with vA := none, vc := 0 } L w :=
  { h with votes := OwnL.nil _ _, votesc := fun b hb => by cases hb }
theorem Rest.next0 (h : Rest base col r x L w) : Rest base col { r with next := [] } { x with nA := none, nc := 0 } L w :=
  { h with next := OwnL.nil _ _, nextc := fun b hb => by cases hb }
theorem Rest.mtch0 (h : Rest base col r x L w) : Rest base col { r with mtch := [] } { x with mA := none, mc := 0 } L w :=
  { h with mtch := OwnL.nil _ _, mtchc := fun b hb => by cases hb }
/-- another log, made by a callee -/
theorem Rest.log (h : Rest base col r x L w) (hb : Below w.heap.size w w') {A : Option Addr} {c : Nat} {es : List En} (b bt : Int) (hO : OwnE w' w.heap.size (.slice A es.length c) es) :
    Rest base (Go.Proofs.YtdladjgdhnkkcaaGreat.recol col w.heap.size 0) { r with b := b, bt := bt, es := es } { x with eA := A, ec := c } L w' := by
  have k := (h.recol 0).bel hb
  exact { k with es := RdZ.new hO h.bs }
theorem Rest.log0 (h : Rest base col r x L w) (b bt : Int) : Rest base col { r with b := b, bt := bt, es := [] } { x with eA := none, ec := 0 } L w :=
  { h with es := RdZ.nil }
/-- votes, next, match that a callee or a literal has made -/
theorem Rest.votes_new (h : Rest base col r x L w) (hb : Below w.heap.size w w') {A : Option Addr} {c : Nat} {vs : List Int} (ho : OwnL (layI .i64) 3 w' w.heap.size (.slice A vs.length c) vs) :
    Rest base (Go.Proofs.YtdladjgdhnkkcaaGreat.recol col w.heap.size 2) { r with votes := vs } { x with vA := A, vc := c } L w' := by
  have k := (h.recol 2).bel hb
  exact { k with votes := ho.low h.bs, votesc := fun b hb => recol_new (ho.lt b hb).1 }
end
end Go.Proofs.YtdladjgdhnkkcaaGreat
