/-
  A law's row where what it reads is small ('..UptoSaid').
-/
import Derived.Test.YtemkgdkkpeijfaaVY
import Derived.JoinedCond
namespace Go.Proofs.Ytemkgdkkpeijfaa.VE
open Go Go.RowKit Go.ChangeShapes

theorem law_upto {C : Checked} {os : Os} {H : Type} {en : TypeId × Value → H} (own : ownKnob C.prog.godebug = none) (started : os.Started) (hl : laidOutB C.prog = true) {f : FuncId} {fn : Func} (noInit : C.prog.inits.idxOf? f = none)
    (hf : C.prog.funcs[f]? = some fn) {s : OpenSpec} {k : (H : Type) → List (DataW H) → Bool} (hk : s.cond = some k) {F : Stop.Interp} {apart fresh handsOn again : Bool} {ps : List (Bool × Ty)} {tb : Nat} (hfit : fitsB C.prog fn.params.toList ps = true) (hres : fn.resultTypes = #[tb])
    (htb : C.prog.underlying tb = some .bool) (hvars : s.vars = []) (hvars2 : (s.at F).vars = []) (hfn : ∀ (H : Type) (ds : List (DataW H)), ds.length = ps.length → (s.at F).fn H ds = { results := [.lit (.bool true)], args := ds })
    (witness : ∃ (w : World) (tape : Tape) (i : Input), w.os = os ∧ (w.forCall tape i).Shaped C.prog ∧ i.vars = [] ∧ Input.okWide C.prog (w.forCall tape i) .any w.heap.size f i ∧
      s.pre6 en C.prog fn [] apart (w.forCall tape i).memory i.args ∧ ({} : Assume).holds C.prog (lone (Frame.enter C.prog f i.args .normal) [] (w.forCall tape i)))
    (RB : Nat) (hbulk : ∀ (ds : List (DataW H)), k H ds = true → ∀ n, n ∈ DataW.weightsEach C.prog fn.params.toList ds → n ≤ RB)
    (hrun : ∀ x : Els ps, wfsB RB ps x → Returns C.prog f (ivs ps x) (vb true)) (htab : tabCells = [] := by rfl) :
    ReturnsInHanded {} C os f .any (s.pre6 en C.prog fn [] apart) ((s.at F).post en C.prog fn apart fresh handsOn again) := by
  refine returnsInHanded_of_cond hk own started noInit hf witness ?_
  intro W base args ds gs before hval hW _ hkk _
  have hgs : gs = [] := by
    obtain ⟨p, q, _, hV, _⟩ := hW
    rw [hvars] at hV
    cases gs with
    | nil => rfl
    | cons => exact hV.elim
  subst hgs
  rw [List.append_nil] at hkk
  have hW0 : DataW.Whole en C.prog fn.params.toList (s.at F).vars apart W args.toList ds [] before := by
    rw [hvars2]; rw [hvars] at hW; exact hW
  obtain ⟨p, q, hA, hV, _⟩ := hW
  obtain ⟨x, w1, l1, r1⟩ := open_all (RB := RB) fn.params.toList ps args.toList ds p hA hfit (fun j t v ht hv => hval j t v (by simpa using ht) (by simpa using hv)) (hbulk ds hkk)
  have hds : ds.length = ps.length := by
    have : ∀ (ts : List Nat) (vs : List Value) (ds : List (DataW H)) (q : List MemPlace), DataW.TrodAll en C.prog W 0 (fun _ => true) true ts vs ds q → ds.length = vs.length := by
      intro ts
      induction ts with
      | nil => intro vs ds q h; obtain ⟨rfl, rfl, rfl⟩ := trodAll_nil h; rfl
      | cons t ts ih => intro vs ds q h; obtain ⟨v, vs1, d, ds1, a, b, rfl, rfl, rfl, h1, h2⟩ := trodAll_cons h; simp [ih _ _ _ h2]
    rw [this _ _ _ _ hA, l1]
  refine (hrun x w1 W args (all0 W) (fun b o h => h) (fun p hp => by rw [htab] at hp; cases hp) (by rw [ivs_length, ← l1]; simp) (fun j c hc => ?_)).mono fun e W' ⟨v, he, hb, hv⟩ => ?_
  · have := r1 j c hc
    simpa [List.getD, Array.getD_eq_getD_getElem?] using this
  · obtain ⟨hv', _⟩ := iv_v hv
    subst hv'
    exact ⟨_, he, post_of_below hl hvars2 (hfn H ds hds) hfit hres htb hW0 hb⟩

theorem wfB_mono {RB RB' : Nat} (h : RB ≤ RB') : ∀ (t : Ty) (x : El t), wfB RB t x → wfB RB' t x
  | .int _, _, hx => hx
  | .bool, _, hx => hx
  | .str, s, hx => Nat.le_trans hx h
  | .sl t, xs, hx => ⟨Nat.le_trans hx.1 h, fun e he => wfB_mono h t e (hx.2 e he)⟩
  | .prod a b, x, hx => ⟨wfB_mono h a x.1 hx.1, wfB_mono h b x.2 hx.2⟩
  | .pint _, _, _ => trivial

end Go.Proofs.Ytemkgdkkpeijfaa.VE
