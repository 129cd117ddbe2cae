/-
  A node's log, plain: which entries follow a term, which log is right, what is told of it and what is made of it.
  No condition.
-/
import Derived.Test.YtdladjgdhnkkcaaKit3
namespace Go.Proofs.Ytdladjgdhnkkcaa
set_option linter.unusedVariables false

abbrev En := Int × ByteArray
namespace Tr
/-- the greatest number -/
def top : Int := 1099511627776
/-- an entry may stand behind a term -/
def ok (t : Int) (e : En) : Bool := decide (t ≤ e.1 ∧ 1 ≤ e.1 ∧ e.1 ≤ 1099511627776 ∧ e.2.size ≤ 4096)
/-- entries follow a term -/
def fol (t : Int) : List En → Bool
  | [] => true
  | e :: es => ok t e && fol e.1 es
/-- a log is right but for its entries' terms -/
def rim (b bt : Int) (n : Nat) : Bool := decide (0 ≤ b ∧ b ≤ 1099511627776 ∧ 0 ≤ bt ∧ bt ≤ 1099511627776 ∧ (0 < b ∨ bt = 0) ∧ n ≤ 4096 ∧ b + n ≤ 1099511627776)
/-- a log is right -/
def chk (b bt : Int) (es : List En) : Bool := rim b bt es.length && fol bt es
/-- the term of entry number n -/
def trm (b bt : Int) (es : List En) (n : Int) : Int := if n = b then bt else (es.getD (n - b - 1).toNat default).1
/-- the term behind entry number k -/
def at_ (bt : Int) (es : List En) (k : Nat) : Int := if k = 0 then bt else (es.getD (k - 1) default).1
/-- may a log that is right tell of entry n -/
def has (b bt : Int) (es : List En) (n : Int) : Bool := chk b bt es && decide (b ≤ n ∧ n ≤ b + es.length)
/-- the last number and its term -/
def lastN (b bt : Int) (es : List En) : Int := if chk b bt es then b + es.length else 0
def lastT (b bt : Int) (es : List En) : Int := if chk b bt es then trm b bt es (b + es.length) else 0
def newer (b bt : Int) (es : List En) (n t : Int) : Bool := chk b bt es && (decide (lastT b bt es < t) || (decide (t = lastT b bt es) && decide (lastN b bt es ≤ n)))
/-- entries from a number on -/
def cutFrom (b bt : Int) (es : List En) (from_ most : Int) : List En :=
  if chk b bt es && decide (from_ ≤ b + es.length) && decide (0 < most) then (es.drop (max from_ (b + 1) - b - 1).toNat).take most.toNat else []
/-- a log with other entries -/
def with_ (b bt : Int) (es : List En) (k : Nat) (more : List En) : Option (List En) := if chk b bt (es.take k ++ more) then some (es.take k ++ more) else none
/-- how far entries stand already -/
def adv : List En → List En → Nat
  | e :: es, l :: ls => if e.1 = l.1 then adv es ls + 1 else 0
  | _, _ => 0
/-- entries put behind a number that is there, or not -/
def put2 (b bt : Int) (es : List En) (prev of : Int) (l : List En) (fixed : Int) : Option (List En) :=
  if has b bt es prev && decide (trm b bt es prev = of) then
    let k := (prev - b).toNat
    let s := adv (es.drop k) l
    if l.length ≤ s then some es
    else if b + (k + s : Nat) + 1 ≤ fixed then none
    else with_ b bt es (k + s) (l.drop s)
  else none
/-- entries put -/
def put (b bt : Int) (es : List En) (prev of : Int) (l : List En) (fixed : Int) : Option (List En) :=
  if chk b bt es && decide (0 ≤ prev ∧ 0 ≤ of) && fol of l then
    if prev < b then
      if l.length < b - prev then some es
      else if (l.getD (b - prev - 1).toNat default).1 ≠ bt then none
      else put2 b bt es b bt (l.drop (b - prev).toNat) fixed
    else put2 b bt es prev of l fixed
  else none
end Tr

end Go.Proofs.Ytdladjgdhnkkcaa
