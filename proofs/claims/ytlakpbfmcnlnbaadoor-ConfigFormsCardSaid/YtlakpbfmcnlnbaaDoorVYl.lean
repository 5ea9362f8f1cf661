/-
  The law of a function that only computes, where the library's tables are laid.
-/
import Derived.Test.YtlakpbfmcnlnbaaDoorVY
import Derived.Handed
import Derived.LaidMore
import Derived.MakeChecks
import Derived.Stop.LaidErr
import Derived.Lib.LaidTab
namespace Go.Proofs.YtlakpbfmcnlnbaaDoor.VE
open Go Go.RowKit Go.ChangeShapes Go.WideShapes

/-- What a table's cells are, and that there are no more. -/
def cellsTab (g : Nat) (k : IntKind) : Nat → List Int → List (Nat × Nat × Option Value)
  | i, [] => [(g, i, none)]
  | i, z :: r => (g, i, some (.int k z)) :: cellsTab g k (i + 1) r

theorem mem_cellsTab {g : Nat} {k : IntKind} : ∀ {zs : List Int} {i : Nat} {p : Nat × Nat × Option Value}, p ∈ cellsTab g k i zs → ∃ j, p = (g, i + j, (zs[j]?).map (Value.int k))
  | [], i, p, h => by
    rw [cellsTab, List.mem_singleton] at h
    exact ⟨0, by rw [h]; rfl⟩
  | z :: r, i, p, h => by
    rcases List.mem_cons.1 h with h | h
    · exact ⟨0, by rw [h]; rfl⟩
    · obtain ⟨j, hp⟩ := mem_cellsTab h
      exact ⟨j + 1, by rw [hp, List.getElem?_cons_succ, show i + 1 + j = i + (j + 1) by omega]⟩

theorem cellsTab_mem {g : Nat} {k : IntKind} : ∀ {zs : List Int} {i j : Nat}, j ≤ zs.length → (g, i + j, (zs[j]?).map (Value.int k)) ∈ cellsTab g k i zs
  | [], i, j, h => by
    have : j = 0 := by simpa using h
    subst this
    exact List.mem_singleton.2 rfl
  | z :: r, i, 0, h => List.mem_cons_self ..
  | z :: r, i, j + 1, h => by
    have := cellsTab_mem (g := g) (k := k) (zs := r) (i := i + 1) (j := j) (by simpa using h)
    rw [show i + (j + 1) = i + 1 + j by omega, List.getElem?_cons_succ]
    exact List.mem_cons_of_mem _ this

theorem cell_lt {w : World} {b o : Nat} {v : Value} (h : w.cell? ⟨b, o, none⟩ = some v) : b < w.heap.size := by
  unfold World.cell? at h
  cases hb : w.heap[b]? with
  | none => simp [hb] at h
  | some x => exact (Array.getElem?_eq_some_iff.1 hb).1

/-- A table that reads as it was laid: its cells stand. -/
theorem laid_of_tab {P : Program} {w : World} {name : String} {k : IntKind} {zs : List Int} {g : Nat} (hT : Lib.TabIs P w name k zs) (hg : P.globalNamed name = some g) (h0 : zs ≠ []) :
    ∀ p, p ∈ cellsTab g k 0 zs → all0 w p.1 p.2.1 ∧ w.cell? ⟨p.1, p.2.1, none⟩ = p.2.2 := fun p hp => by
  obtain ⟨j, rfl⟩ := mem_cellsTab hp
  have hc : ∀ i, w.cell? ⟨g, i, none⟩ = (zs[i]?).map (Value.int k) := fun i => by
    have := World.var?_cell hg hT i
    rw [this]
    simp
  rw [Nat.zero_add]
  refine ⟨?_, hc j⟩
  cases zs with
  | nil => exact absurd rfl h0
  | cons z r => exact cell_lt (v := .int k z) (hc 0)

/-- And back: what stands is the table. -/
theorem tab_of_laid {P : Program} {w : World} {name : String} {k : IntKind} {zs : List Int} {g : Nat} {ok : Nat → Nat → Prop} (hg : P.globalNamed name = some g) (h0 : zs ≠ [])
    (h : ∀ p, p ∈ cellsTab g k 0 zs → ok p.1 p.2.1 ∧ w.cell? ⟨p.1, p.2.1, none⟩ = p.2.2) : Lib.TabIs P w name k zs := by
  have hc : ∀ i, i ≤ zs.length → w.cell? ⟨g, i, none⟩ = (zs[i]?).map (Value.int k) := fun i hi => by
    have := (h _ (cellsTab_mem (i := 0) hi)).2
    simpa using this
  unfold Lib.TabIs World.var?
  rw [hg, Option.bind_some]
  have hz := hc 0 (Nat.zero_le _)
  cases zs with
  | nil => exact absurd rfl h0
  | cons z r =>
    unfold World.cell? at hc hz
    cases hb : w.heap[g]? with
    | none => simp [hb] at hz
    | some o =>
      cases o with
      | cells cs e fr =>
        simp only [hb] at hc
        have hc' : ∀ i, i ≤ (z :: r).length → cs[i]? = ((z :: r)[i]?).map (Value.int k) := fun i hi => by simpa using hc i hi
        simp only [Option.some.injEq]
        have hsz : cs.size = (z :: r).length := by
          have h1 := hc' (z :: r).length (Nat.le_refl _)
          rw [List.getElem?_eq_none (Nat.le_refl _)] at h1
          have h2 : cs.size ≤ (z :: r).length := Array.getElem?_eq_none_iff.1 h1
          have h3 := hc' ((z :: r).length - 1) (by omega)
          rw [List.getElem?_eq_getElem (by simp)] at h3
          have h4 := (Array.getElem?_eq_some_iff.1 h3).1
          have h5 : 0 < (z :: r).length := by simp
          omega
        refine Array.ext (by simpa using hsz) fun i h1 h2 => ?_
        have := hc' i (by omega)
        rw [Array.getElem?_eq_getElem h1, List.getElem?_eq_getElem (by omega)] at this
        have e : (List.map (fun z => Value.int k z) (z :: r)).toArray[i] = Value.int k ((z :: r)[i]'(by omega)) := by
          rw [List.getElem_toArray (h := h2)]
          exact List.getElem_map ..
        rw [e]
        simpa using this
      | _ => simp [hb] at hz

/-- The row's body, for a law that takes such data, where tables are laid. -/
theorem law_laid {C : Checked} {os : Os} {H : Type} {en : TypeId × Value → H} (own : ownKnob C.prog.godebug = none) (started : os.Started) (hl : laidOutB C.prog = true) {f : FuncId} {fn : Func} (noInit : C.prog.inits.idxOf? f = none)
    (hf : C.prog.funcs[f]? = some fn) {s : ChangeSpec} {apart fresh handsOn again : Bool} {ps : List (Bool × Ty)} {tb : Nat} (hfit : fitsB C.prog fn.params.toList ps = true) (hres : fn.resultTypes = #[tb])
    (htb : C.prog.underlying tb = some .bool) (hvars : s.vars = []) (hfn : ∀ (H : Type) (ds : List (DataW H)), ds.length = ps.length → s.fn H ds = { results := [.lit (.bool true)], args := ds })
    {X : World → Prop} (hX : ∀ (w w' : World), w.heap = w'.heap → X w → X w') (hlaid : ∀ W, X W → Laid (all0 W) W)
    (witness : ∃ (w : World) (tape : Tape) (i : Input), w.os = os ∧ (w.forCall tape i).Shaped C.prog ∧ i.vars = [] ∧ Input.okWide C.prog (w.forCall tape i) .any w.heap.size f i ∧
      ((s.pre en C.prog fn [] apart (w.forCall tape i).memory i.args ∧ X (w.forCall tape i).memory) ∧ sizedMet en C.prog fn (OpenSpec.ofChange s) apart (w.forCall tape i).memory i.args) ∧
      ({} : Assume).holds C.prog (lone (Frame.enter C.prog f i.args .normal) [] (w.forCall tape i)))
    (hrun : ∀ x : Els ps, wfs ps x → Returns C.prog f (ivs ps x) (vb true)) :
    ReturnsInHanded {} C os f .any (fun w args => (s.pre en C.prog fn [] apart w args ∧ X w) ∧ sizedMet en C.prog fn (OpenSpec.ofChange s) apart w args) (s.post en C.prog fn apart fresh handsOn again) := by
  refine returnsInHanded_of_change_and (X := fun w _ => X w) (fun w w' _ hh h => hX w w' hh h) own started noInit hf witness ?_
  intro W base args ds gs before hval hW _ hwt hx _
  have hgs : gs = [] := by
    obtain ⟨p, q, _, hV, _⟩ := hW
    rw [hvars] at hV
    cases gs with
    | nil => rfl
    | cons => exact hV.elim
  subst hgs
  have hW0 := hW
  obtain ⟨p, q, hA, hV, _⟩ := hW
  have hwt' : ∀ n, n ∈ DataW.weightsEach C.prog fn.params.toList ds → n ≤ reachBytes := fun n hn => by
    have hv0 : s.plain.varTypes C.prog = [] := by
      have : s.plain.vars = [] := hvars
      unfold DataSpec.varTypes; rw [this]; rfl
    rw [hv0, List.append_nil, List.append_nil] at hwt
    have := List.all_eq_true.1 hwt n hn
    simpa using this
  obtain ⟨x, w1, l1, r1⟩ := open_all fn.params.toList ps args.toList ds p hA hfit (fun j t v ht hv => hval j t v (by simpa using ht) (by simpa using hv)) hwt'
  have hds : ds.length = ps.length := by
    have : ∀ (ts : List Nat) (vs : List Value) (ds : List (DataW H)) (q : List MemPlace), DataW.TrodAll en C.prog W 0 (fun _ => true) true ts vs ds q → ds.length = vs.length := by
      intro ts
      induction ts with
      | nil => intro vs ds q h; obtain ⟨rfl, rfl, rfl⟩ := trodAll_nil h; rfl
      | cons t ts ih => intro vs ds q h; obtain ⟨v, vs1, d, ds1, a, b, rfl, rfl, rfl, h1, h2⟩ := trodAll_cons h; simp [ih _ _ _ h2]
    rw [this _ _ _ _ hA, l1]
  refine (hrun x w1 W args (all0 W) (fun b o h => h) (hlaid W hx) (by rw [ivs_length, ← l1]; simp) (fun j c hc => ?_)).mono fun e W' ⟨v, he, hb, hv⟩ => ?_
  · have := r1 j c hc
    simpa [List.getD, Array.getD_eq_getD_getElem?] using this
  · obtain ⟨hv', _⟩ := iv_v hv
    subst hv'
    exact ⟨_, he, post_of_below hl hvars (hfn H ds hds) hfit hres htb hW0 hb⟩

end Go.Proofs.YtlakpbfmcnlnbaaDoor.VE
