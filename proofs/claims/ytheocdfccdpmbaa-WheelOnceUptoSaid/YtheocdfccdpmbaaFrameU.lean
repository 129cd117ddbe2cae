/-
  The frame of a law's statement of the second form ('..UptoSaid'): as XFrame's, the bulk of what is read handed to the walk; a slice is no longer than its bulk.
  No condition.
-/
import Derived.Test.YtheocdfccdpmbaaFrame
import Derived.Test.YtheocdfccdpmbaaOpen
import Derived.Test.YtheocdfccdpmbaaRows
import Derived.JoinedCond
namespace Go.Proofs.Ytheocdfccdpmbaa
open Go.ChangeShapes Go.WideShapes Go.ChangeAt Go.RowKit Go.Deep
set_option linter.unusedVariables false

theorem bulk_one {H : Type} (d : DataW H) : 1 ≤ Rows.uptoBulk d := by
  cases d with
  | lit l => cases l <;> simp [Rows.uptoBulk]
  | nil => simp [Rows.uptoBulk]
  | ptr d => simp [Rows.uptoBulk]
  | slice elems spare => simp [Rows.uptoBulk]
  | agg parts => simp [Rows.uptoBulk]
  | iface t d => simp [Rows.uptoBulk]
  | map entries => simp [Rows.uptoBulk]
  | held h => simp [Rows.uptoBulk]
theorem bulk_length {H : Type} (l : List (DataW H)) : l.length ≤ Rows.uptoBulkAll l := by
  induction l with
  | nil => simp [Rows.uptoBulkAll]
  | cons x r ih => have := bulk_one x; simp only [Rows.uptoBulkAll, List.length_cons]; omega
theorem bulk_part {H : Type} {d : DataW H} {l : List (DataW H)} (h : d ∈ l) : Rows.uptoBulk d ≤ Rows.uptoBulkAll l := by
  induction l with
  | nil => cases h
  | cons x r ih =>
    simp only [Rows.uptoBulkAll]
    cases List.mem_cons.1 h with
    | inl e => subst e; omega
    | inr e => have := ih e; omega
/-- a slice is no longer than its bulk -/
theorem bulk_slice {H : Type} {enc : TypeId × Value → H} {P : Program} {w : World} {base : Nat} {held : Bool} {t e : TypeId} {A : Option Addr} {len cap : Nat} {d : DataW H} {p : List MemPlace} (ht : P.underlying t = some (.slice e))
    (h : DataW.Trod enc P w base (fun _ => true) held t (.slice A len cap) d p) : cap ≤ Rows.uptoBulk d := by
  obtain ⟨m, hm⟩ := h
  rcases open_slice ht hm with ⟨h1, h2⟩ | ⟨a, len', cap', m', n', D, Pl, h1, hb, hlc, hcm, hmm, h2, hi⟩
  · simp [Value.cells] at h1
    omega
  · simp at hmm
    subst hmm
    simp [Value.cells] at h1
    obtain ⟨_, rfl, rfl⟩ := h1
    have hd : d = .slice ((List.range len).map fun i => D i) ((List.range (cap - len)).map fun i => D (len + i)) := by
      have := congrArg Prod.fst h2
      simpa using this
    rw [hd]
    simp only [Rows.uptoBulk]
    have b1 := bulk_length ((List.range len).map fun i => D i)
    have b2 := bulk_length ((List.range (cap - len)).map fun i => D (len + i))
    simp only [List.length_map, List.length_range] at b1 b2
    omega

/-- what a law's proof owes, the bulk of what is read being small -/
def WalksU {H : Type} (enc : TypeId × Value → H) (P : Program) (f : FuncId) (fn : Func) : Prop :=
  ∀ (W : World) (base : Nat) (args : Array Value) (ds : List (DataW H)) (ps : List MemPlace),
    (∀ (j : Nat) t v, fn.params[j]? = some t → args[j]? = some v → Value.okWide P W .any base t v) →
    DataW.TrodAll enc P W 0 (fun _ => true) true fn.params.toList args.toList ds ps →
    (DataW.weightsEach P fn.params.toList ds).all (· ≤ reachBytes) = true → Rows.uptoBulkAll ds ≤ 1048576 →
    Calls P f args W fun e w' => e = .returned (.bool true) ∧ Below W.heap.size W w'

set_option maxRecDepth 100000 in
theorem frame_liftedU {H : Type} {enc : TypeId × Value → H} {C : Checked} {os : Os} {f : FuncId} {fn : Func} {s : ChangeSpec} {tb : TypeId} {F : Stop.Interp}
    (own : ownKnob C.prog.godebug = none) (started : os.Started) (noInit : C.prog.inits.idxOf? f = none) (hfn : C.prog.funcs[f]? = some fn)
    (witness : ∃ (w : World) (tape : Tape) (i : Input), w.os = os ∧ (w.forCall tape i).Shaped C.prog ∧ i.vars = [] ∧ Input.okWide C.prog (w.forCall tape i) .any w.heap.size f i ∧
      (Rows.OpenSpec.upto s).pre6 enc C.prog fn [] false (w.forCall tape i).memory i.args ∧ ({} : Assume).holds C.prog (lone (Frame.enter C.prog f i.args .normal) [] (w.forCall tape i)))
    (hl : laidOutB C.prog = true) (hread : fn.params.toList.all (fun t => C.prog.readableRec t && decide (t < C.prog.types.size)) = true)
    (hvars : s.vars = []) (hres : fn.resultTypes.toList = [tb]) (hb : C.prog.underlying tb = some .bool)
    (hspec : ∀ ds : List (DataW H), ds.length = fn.params.toList.length → (s.fn H (ds ++ [])).results = [.lit (.bool true)] ∧ (s.fn H (ds ++ [])).args = ds ∧ (s.fn H (ds ++ [])).vars = [])
    (walk : WalksU enc C.prog f fn) :
    ReturnsInHanded {} C os f .any ((Rows.OpenSpec.upto s).pre6 enc C.prog fn [] false) (((Rows.OpenSpec.upto s).at F).post enc C.prog fn false true false false) := by
  refine returnsInHanded_of_calls own started noInit witness ?_
  intro w tape i _ _ _ hok hpre _
  obtain ⟨_, _, _, fn', hfn', _, _, _, _, hval⟩ := hok
  have e : fn' = fn := Option.some.inj (hfn'.symm.trans hfn)
  subst e
  obtain ⟨ds, gs, before, hw, _, hkk⟩ := (OpenSpec.pre_some (s := Rows.OpenSpec.upto s) (k := Rows.uptoSmall) rfl [] false _ _).1 hpre.1
  have hz := hpre.2
  have hw' := DataW.Whole.of_heap (w' := w.forCall tape i) (by rfl) hw
  have hwt := hz.weights hw
  have hlt := hw'.lt
  have hw'' := hw'
  obtain ⟨p, q, hA, hV, rfl, hfz, hnd⟩ := hw'
  have hv0 : (Rows.OpenSpec.upto s).vars = [] := hvars
  rw [hv0] at hV
  obtain ⟨rfl, rfl⟩ := trodVars_none hV
  have hwt' : (DataW.weightsEach C.prog fn'.params.toList ds).all (· ≤ reachBytes) = true := by
    have e2 : (Rows.OpenSpec.upto s).bare.plain.varTypes C.prog = [] := by
      show (DataSpec.varTypes C.prog _) = []
      unfold DataSpec.varTypes
      show (s.vars.filterMap _) = []
      rw [hvars]
      rfl
    rw [e2] at hwt
    simpa using hwt
  have hbulk : Rows.uptoBulkAll ds ≤ 1048576 := by
    have h1 := of_decide_eq_true hkk
    simpa using h1
  refine (walk (w.forCall tape i) w.heap.size i.args ds p hval hA hwt' hbulk).mono fun e W' ⟨he, hbel⟩ => ?_
  subst he
  obtain ⟨h1, h2, h3⟩ := hspec ds (trodAll_len _ _ _ _ hA).2
  refine ChangeSpec.post_blind ⟨ds, [], p ++ [], [], p, [], hw'', ?_, ?_, ?_, hbel.frame _, fun h => by cases h⟩
  · show DataW.TrodAll _ _ _ _ _ _ _ _ (s.fn H (ds ++ [])).results _
    rw [h1, hres]
    have hn : fn'.resultTypes.size = 1 := by rw [← Array.length_toList, hres]; rfl
    rw [hn]
    exact trodAll_mk1 (shut_bool hb _)
  · show DataW.TrodAll _ _ _ _ _ _ _ _ (s.fn H (ds ++ [])).args _
    rw [h2]
    refine trodAll_bel hl hbel _ _ _ _ (fun t ht => ?_) hA (fun x hx => hlt x (by simpa using hx))
    have := List.all_eq_true.1 hread t ht
    simpa using this
  · show DataW.TrodVars enc C.prog W' (fun b => decide (b < (w.forCall tape i).heap.size)) s.vars (s.fn H (ds ++ [])).vars []
    rw [h3, hvars]
    rfl
end Go.Proofs.Ytheocdfccdpmbaa
