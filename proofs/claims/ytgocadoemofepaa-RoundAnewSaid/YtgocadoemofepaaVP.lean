/-
  One operation yields one thing, whatever follows.
-/
import Derived.Test.YtgocadoemofepaaVO
namespace Go.Proofs.Ytgocadoemofepaa.VE
open Go Go.RowKit

def Det {α : Type} (F : (α → R) → R) : Prop := ∀ k r, F k = some r → ∃ out, ∀ k', F k' = k' out

theorem Det.ret {α : Type} (o : α) : Det fun k => k o := fun _ _ _ => ⟨o, fun _ => rfl⟩
theorem Det.no {α : Type} : Det (α := α) fun _ => none := fun _ _ h => by cases h
theorem Det.bind {α β : Type} {x : Option β} {F : β → (α → R) → R} (h : ∀ b, Det (F b)) : Det fun k => bindK x fun b => F b k := by
  cases x with
  | none => exact Det.no
  | some b => exact h b
theorem Det.need {α : Type} {p : Prop} [Decidable p] {F : (α → R) → R} (h : Det F) : Det fun k => VE.need p (F k) := by
  by_cases hp : p
  · simp only [VE.need, if_pos hp]; exact h
  · simp only [VE.need, if_neg hp]; exact Det.no
theorem Det.test {α : Type} {b : Bool} {F : (α → R) → R} (h : Det F) : Det fun k => VE.test b (F k) := by
  cases b
  · exact Det.no
  · exact h
theorem Det.comp {α β : Type} {F : (α → R) → R} (h : Det F) (f : α → β) : Det fun k => F fun a => k (f a) := fun k r H => by
  obtain ⟨o, ho⟩ := h _ _ H
  exact ⟨f o, fun k' => ho _⟩
theorem Det.bound {α : Type} {v : Option IV} {top other : Nat} {F : Nat → (α → R) → R} (h : ∀ n, Det (F n)) : Det fun k => boundK v top other fun n => F n k := by
  unfold boundK
  split
  · exact h _
  · exact (h _).test.test
  · exact Det.no

theorem intBin_det (op : BinOp) (K : IntKind) (a b : Int) : Det (intBin op K a b) := by
  cases op <;> first | exact Det.no | exact Det.ret _ | exact (Det.ret _).test
theorem strBin_det (op : BinOp) (a b : ByteArray) : Det (strBin op a b) := by
  cases op <;> first | exact Det.no | exact Det.ret _ | exact (Det.ret _).test
theorem eqOp_det (op : BinOp) (b : Bool) : Det (eqOp op b) := by
  cases op <;> first | exact Det.no | exact Det.ret _
theorem binK_det (ty : Nat → Option TI) (op : BinOp) (t : Nat) (x y : IV) : Det (binK ty op t x y) := by
  show Det fun k => binK ty op t x y k
  unfold binK
  repeat' split
  all_goals first
    | exact Det.no
    | exact (Det.ret _).test
    | exact (intBin_det _ _ _ _).need
    | exact strBin_det _ _ _
    | exact eqOp_det _ _
    | exact Det.bind fun _ => eqOp_det _ _
    | exact (eqOp_det _ _).need
theorem unK_det (op : UnOp) (x : IV) : Det (unK op x) := by
  show Det fun k => unK op x k
  unfold unK
  split
  all_goals first
    | exact Det.no
    | exact Det.ret _
    | exact intBin_det _ _ _ _

theorem test_true' {b : Bool} {k : R} (h : b = true) : test b k = k := by subst h; rfl

theorem callK_det {P : Program} {cfg : Cfg} (hcfg : CfgOK P cfg) (h : Nat → Option Box) (g : FuncId) (args : List IV) : Det fun k => callK cfg h k g args := by
  unfold callK
  cases hs : cfg.spec g with
  | none => exact Det.no
  | some sp =>
    refine Det.need fun k r H => ?_
    obtain ⟨res, hdet, _⟩ := (hcfg.spec _ _ hs).ret _ _ _ H
    cases hc : scalarV res with
    | true => exact ⟨⟨res, [], []⟩, fun k' => by rw [hdet, hc]; rfl⟩
    | false => exact ⟨⟨res, (argsK h sp.1 args).2.1 ++ iceUps (argsK h sp.1 args).2.2, []⟩, fun k' => by rw [hdet, hc]; rfl⟩

theorem ocallK_det {P : Program} {cfg : Cfg} (hcfg : CfgOK P cfg) (key : Nat) (h : Nat → Option Box) (g : FuncId) (args : List IV) : Det fun k => ocallK cfg key h k g args := by
  unfold ocallK
  cases hs : cfg.more.ospec g with
  | none => exact Det.no
  | some sp =>
    refine Det.need (Det.bind fun q => Det.test fun k r H => ?_)
    obtain ⟨res, bx, hdet, _⟩ := (hcfg.ospec _ _ hs).ret _ _ _ _ H
    rw [hdet] at H
    obtain ⟨ht, _⟩ := test_some H
    exact ⟨_, fun k' => by rw [hdet, test_true' ht]⟩

theorem callsK_det {P : Program} {cfg : Cfg} (hcfg : CfgOK P cfg) (key : Nat) (h : Nat → Option Box) (g : FuncId) (args : List IV) : Det fun k => callsK cfg key h k g args := by
  unfold callsK
  cases cfg.spec g with
  | some _ => exact callK_det hcfg h g args
  | none => exact ocallK_det hcfg key h g args

theorem core_det {P : Program} {cfg : Cfg} (hcfg : CfgOK P cfg) (key : Nat) (h : Nat → Option Box) (op : Op) (vals : List IV) : Det fun k => coreK cfg key h k op vals := by
  unfold coreK
  split
  all_goals try unfold pickK
  all_goals try unfold allocK
  all_goals try unfold boxK
  all_goals try unfold buildK
  all_goals try unfold buildSliceK
  all_goals try unfold loadK
  all_goals try unfold storeK
  all_goals try unfold nilCheckK
  all_goals try unfold convertK
  all_goals try unfold makeFuncK
  all_goals try unfold makeSliceK
  all_goals try unfold sliceK
  all_goals try unfold fieldAddrK
  all_goals try unfold fieldK
  all_goals try unfold indexAddrK
  all_goals try unfold indexK
  all_goals try unfold extractK
  all_goals try unfold builtinK
  all_goals try unfold lenK
  all_goals try unfold appendK
  all_goals try exact callsK_det hcfg _ _ _ _
  all_goals try exact (binK_det _ _ _ _ _).comp _
  all_goals try exact (unK_det _ _).comp _
  all_goals repeat' (first
    | exact Det.no
    | exact Det.ret _
    | (refine Det.bind fun _ => ?_)
    | (refine Det.need ?_)
    | (refine Det.test ?_)
    | (refine Det.bound fun _ => ?_)
    | split)

/-- What an operation yields is what it yields for every follower, and the model yields it too. -/
theorem core_out {P : Program} {cfg : Cfg} (hcfg : CfgOK P cfg) {M : Nat → Prop} {B key : Nat} {O : Nat → Nat → Prop} {x : Xs} {h hr : Nat → Option Box} {u : Nat → Bool} {w : World}
    (rel : HRel M B O x h u w) (hsub : ∀ i b, hr i = some b → h i = some b) {o : Oper} {a : Act} {vals : List IV} (hl : vals.length = o.op.operands.toList.length)
    (hv : ∀ j y, vals[j]? = some y → IVRel x w ((o.op.operands.toList.map a.eval).getD j undef) y) {out : Out} (H : ∀ k, coreK cfg key hr k o.op vals = k out)
    (hnew : ∀ i, i ∈ out.news → u i = false) : OpDone P M B O x h u w out o a := by
  classical
  obtain ⟨out', h1, h2⟩ := core_sound hcfg rel hsub hl hv (k := fun o' => if o' = out then some (.tup [], []) else none) (r := (.tup [], [])) (by rw [H]; simp)
  have : out' = out := Classical.byContradiction fun hne => by simp [hne] at h1
  subst this
  exact h2 hnew

end Go.Proofs.Ytgocadoemofepaa.VE
