/-
  One operation yields one thing, whatever follows.
-/
import Derived.Test.YtdoilggfajngiaaVO
namespace Go.Proofs.Ytdoilggfajngiaa.VE
open Go Go.RowKit

def Det {α : Type} (F : (α → R) → R) : Prop := ∀ k r, F k = some r → ∃ out, ∀ k', F k' = k' out

theorem Det.ret {α : Type} (o : α) : Det fun k => k o := fun _ _ _ => ⟨o, fun _ => rfl⟩
theorem Det.no {α : Type} : Det (α := α) fun _ => none := fun _ _ h => by cases h
theorem Det.bind {α β : Type} {x : Option β} {F : β → (α → R) → R} (h : ∀ b, Det (F b)) : Det fun k => bindK x fun b => F b k := by
  cases x with
  | none => exact Det.no
  | some b => exact h b
theorem Det.need {α : Type} {p : Prop} [Decidable p] {F : (α → R) → R} (h : Det F) : Det fun k => VE.need p (F k) := by
  by_cases hp : p
  · simp only [VE.need, if_pos hp]; exact h
  · simp only [VE.need, if_neg hp]; exact Det.no
theorem Det.test {α : Type} {b : Bool} {F : (α → R) → R} (h : Det F) : Det fun k => VE.test b (F k) := by
  cases b
  · exact Det.no
  · exact h
theorem Det.comp {α β : Type} {F : (α → R) → R} (h : Det F) (f : α → β) : Det fun k => F fun a => k (f a) := fun k r H => by
  obtain ⟨o, ho⟩ := h _ _ H
  exact ⟨f o, fun k' => ho _⟩
theorem Det.bound {α : Type} {v : Option IV} {top other : Nat} {F : Nat → (α → R) → R} (h : ∀ n, Det (F n)) : Det fun k => boundK v top other fun n => F n k := by
  unfold boundK
  split
  · exact h _
  · exact (h _).test.test
  · exact Det.no

theorem intBin_det (op : BinOp) (K : IntKind) (a b : Int) : Det (intBin op K a b) := by
  cases op <;> first | exact Det.no | exact Det.ret _ | exact (Det.ret _).test
theorem strBin_det (op : BinOp) (a b : ByteArray) : Det (strBin op a b) := by
  cases op <;> first | exact Det.no | exact Det.ret _ | exact (Det.ret _).test
theorem eqOp_det (op : BinOp) (b : Bool) : Det (eqOp op b) := by
  cases op <;> first | exact Det.no | exact Det.ret _
theorem binK_det (ty : Nat → Option TI) (op : BinOp) (t : Nat) (x y : IV) : Det (binK ty op t x y) := by
  show Det fun k => binK ty op t x y k
  unfold binK
  repeat' split
  all_goals first
    | exact Det.no
    | exact (Det.ret _).test
    | exact (intBin_det _ _ _ _).need
    | exact strBin_det _ _ _
    | exact eqOp_det _ _
    | exact Det.bind fun _ => eqOp_det _ _
    | exact (eqOp_det _ _).need
theorem unK_det (op : UnOp) (x : IV) : Det (unK op x) := by
  show Det fun k => unK op x k
  unfold unK
  split
  all_goals first
    | exact Det.no
    | exact Det.ret _
    | exact intBin_det _ _ _ _

theorem test_true' {b : Bool} {k : R} (h : b = true) : test b k = k := by subst h; rfl

theorem Det.cutK {α : Type} {h : Nat → Option Box} {t : Nat → IV} {F : (α → R) → R} (hF : Det F) : ∀ {l : List (Nat × LK)}, Det fun k => VE.cutK h t l (F k)
  | [] => hF
  | p :: l => by
    show Det fun k => (match cutB h p.2 (t p.1) with | some b => VE.test b (VE.cutK h t l (F k)) | none => VE.cutK h t l (F k))
    cases cutB h p.2 (t p.1) with
    | none => exact Det.cutK hF
    | some b => exact Det.test (Det.cutK hF)

theorem Det.cond {α : Type} {b : Bool} {F G : (α → R) → R} (hF : Det F) (hG : Det G) : Det fun k => _root_.cond b (F k) (G k) := by
  cases b
  · exact hG
  · exact hF

theorem Det.elemsK {α : Type} {h : Nat → Option Box} {t : Ty} {x : IV} {F : List (El t) → (α → R) → R} (hF : ∀ a, Det (F a)) : Det fun k => VE.elemsK h t x fun a => F a k := by
  unfold VE.elemsK
  repeat' (first | exact Det.no | exact hF _ | (refine Det.bind fun _ => ?_) | (refine Det.need ?_) | (refine Det.test ?_) | split)

theorem Det.viewK {α : Type} {h : Nat → Option Box} {t : Ty} {x : IV} {F : Nat → Nat → Nat → Option Nat → Nat → (α → R) → R} (hF : ∀ a b c d e, Det (F a b c d e)) : Det fun k => VE.viewK h t x fun a b c d e => F a b c d e k := by
  unfold VE.viewK
  repeat' (first | exact Det.no | exact hF _ _ _ _ _ | (refine Det.need ?_) | split)

theorem Det.rowK {α : Type} {h : Nat → Option Box} {t : Ty} {id : Nat} {F : List (El t) → (α → R) → R} (hF : ∀ a, Det (F a)) : Det fun k => VE.rowK h t id fun a => F a k := by
  unfold VE.rowK
  repeat' (first | exact Det.no | exact hF _ | (refine Det.bind fun _ => ?_) | split)

theorem writeVK_det {h : Nat → Option Box} {τ : Ty} {id lo : Nat} {ys : List (El τ)} {v : IV} : Det fun k => writeVK h k τ id lo ys v := by
  unfold writeVK
  repeat' (first | exact Det.no | exact Det.ret _ | (refine Det.bind fun _ => ?_) | (refine Det.test ?_) | split)

theorem sliceK_det {cfg : Cfg} {h : Nat → Option Box} {t : Nat} {lo hi : Bool} {x : IV} {r : List IV} : Det fun k => sliceK cfg h k t lo hi x r := by
  unfold sliceK
  repeat' (first | exact Det.no | exact Det.ret _ | (refine Det.bind fun _ => ?_) | (refine Det.need ?_) | (refine Det.test ?_) | (refine Det.bound fun _ => ?_) | split)

theorem sliceVK_det {cfg : Cfg} {h : Nat → Option Box} {t : Nat} {lo hi : Bool} {x : IV} {r : List IV} : Det fun k => sliceVK cfg h k t lo hi x r := by
  unfold sliceVK
  refine Det.bind fun _ => ?_
  split
  · exact Det.bind fun _ => Det.bind fun _ => Det.need (Det.viewK fun _ _ _ _ _ => Det.bound fun _ => Det.bound fun _ => Det.ret _)
  · exact Det.no

theorem slice3K_det {cfg : Cfg} {h : Nat → Option Box} {t : Nat} {x : IV} {r : List IV} : Det fun k => slice3K cfg h k t x r := by
  unfold slice3K
  split
  · exact Det.bind fun _ => Det.bind fun _ => Det.need (Det.viewK fun _ _ _ _ _ => Det.test (Det.test (Det.test (Det.test (Det.test (Det.test (Det.ret _)))))))
  · exact Det.no

theorem appendZK_det {cfg : Cfg} {key : Nat} {h : Nat → Option Box} {t u : Nat} {s x : IV} : Det fun k => appendZK cfg key h k t u s x := by
  unfold appendZK
  split
  · exact Det.bind fun _ => Det.bind fun _ => Det.bind fun _ => Det.need (Det.rowK fun _ => Det.test (Det.test (Det.test (Det.test (Det.ret _)))))
  · exact Det.no

theorem appendVK_det {cfg : Cfg} {key : Nat} {h : Nat → Option Box} {t u : Nat} {s x : IV} : Det fun k => appendVK cfg key h k t u s x := by
  unfold appendVK
  split
  · rename_i c _ _
    refine Det.bind fun _ => Det.bind fun _ => Det.elemsK fun _ => Det.need (Det.rowK fun _ => ?_)
    cases c with
    | none => exact Det.test writeVK_det
    | some z => exact Det.cond writeVK_det (Det.test (Det.test (Det.ret _)))
  · exact Det.no

theorem clearK_det {cfg : Cfg} {h : Nat → Option Box} {t : Nat} {x : IV} : Det fun k => clearK cfg h k t x := by
  unfold clearK
  split
  · exact Det.bind fun _ => Det.bind fun _ => Det.bind fun _ => Det.need writeVK_det
  · exact Det.no

theorem copyK_det {cfg : Cfg} {h : Nat → Option Box} {t u : Nat} {d s : IV} : Det fun k => copyK cfg h k t u d s := by
  unfold copyK
  split
  · exact Det.bind fun _ => Det.bind fun _ => Det.elemsK fun _ => Det.need writeVK_det
  · exact Det.no

theorem capK_det {cfg : Cfg} {t : Nat} {x : IV} : Det fun k => capK cfg k t x := by
  unfold capK
  split
  · exact Det.ret _
  · exact Det.no

theorem Det.mapK {α : Type} {cfg : Cfg} {h : Nat → Option Box} {t : Nat} {m x : IV} {F : (κ τ : Ty) → Nat → Ents κ τ → Nat → El κ → El τ → (α → R) → R} (hF : ∀ a b c d e f g, Det (F a b c d e f g)) :
    Det fun k => VE.mapK cfg h t m x fun a b c d e f g => F a b c d e f g k := by
  unfold VE.mapK
  split
  · split
    · exact Det.bind fun _ => Det.bind fun _ => Det.bind fun _ => Det.bind fun _ => Det.need (hF _ _ _ _ _ _ _)
    · exact Det.no
  · exact Det.no

theorem makeMapK_det {cfg : Cfg} {key t : Nat} : Det fun k => makeMapK cfg key k t := by
  unfold makeMapK
  split
  · exact Det.bind fun _ => Det.bind fun _ => Det.ret _
  · exact Det.no
theorem lookupK_det {cfg : Cfg} {h : Nat → Option Box} {t : Nat} {m x : IV} {ok : Bool} : Det fun k => lookupK cfg h k t m x ok := Det.mapK fun _ _ _ _ _ _ _ => Det.ret _
theorem mapUpdateK_det {cfg : Cfg} {h : Nat → Option Box} {t : Nat} {m x v : IV} : Det fun k => mapUpdateK cfg h k t m x v := Det.mapK fun _ _ _ _ _ _ _ => Det.bind fun _ => Det.need (Det.ret _)
theorem mapEntryK_det {cfg : Cfg} {h : Nat → Option Box} {t : Nat} {m x : IV} : Det fun k => mapEntryK cfg h k t m x := Det.mapK fun _ _ _ _ _ _ _ => Det.ret _
theorem deleteK_det {cfg : Cfg} {h : Nat → Option Box} {t : Nat} {m x : IV} : Det fun k => deleteK cfg h k t m x := Det.mapK fun _ _ _ _ _ _ _ => Det.ret _
theorem entryStoreK_det {cfg : Cfg} {h : Nat → Option Box} {t : Nat} {m s v : IV} : Det fun k => entryStoreK cfg h k t m s v := by
  unfold entryStoreK
  split
  · split
    · exact Det.bind fun _ => Det.bind fun _ => Det.need (Det.test (Det.ret _))
    · exact Det.no
  · exact Det.no

theorem appendK_det {cfg : Cfg} {key : Nat} {h : Nat → Option Box} {t u : Nat} {s x : IV} : Det fun k => appendK cfg key h k t u s x := by
  unfold appendK
  repeat' (first | exact Det.no | exact Det.ret _ | (refine Det.elemsK fun _ => ?_) | (refine Det.bind fun _ => ?_) | (refine Det.need ?_) | (refine Det.test ?_) | split)

theorem callK_det {P : Program} {cfg : Cfg} (hcfg : CfgOK P cfg) (h : Nat → Option Box) (g : FuncId) (args : List IV) : Det fun k => callK cfg h k g args := by
  unfold callK
  cases hs : cfg.spec g with
  | none => exact Det.no
  | some sp =>
    refine Det.need fun k r H => ?_
    obtain ⟨res, hdet, _⟩ := (hcfg.spec _ _ hs).ret _ _ _ H
    cases hc : scalarV res with
    | true => exact ⟨⟨res, [], []⟩, fun k' => by rw [hdet, hc]; rfl⟩
    | false => exact ⟨⟨res, (argsK h sp.1 args).2.1 ++ iceUps (argsK h sp.1 args).2.2, []⟩, fun k' => by rw [hdet, hc]; rfl⟩

theorem ocallK_det {P : Program} {cfg : Cfg} (hcfg : CfgOK P cfg) (key : Nat) (h : Nat → Option Box) (g : FuncId) (args : List IV) : Det fun k => ocallK cfg key h k g args := by
  unfold ocallK
  cases hs : cfg.more.ospec g with
  | none => exact Det.no
  | some sp =>
    refine Det.need (Det.bind fun q => Det.cutK (Det.test fun k r H => ?_))
    obtain ⟨res, bx, hdet, _⟩ := (hcfg.ospec _ _ hs).ret _ _ _ _ H
    rw [hdet] at H
    obtain ⟨ht, _⟩ := test_some H
    exact ⟨_, fun k' => by rw [hdet, test_true' ht]⟩

theorem calls2K_det {P : Program} {cfg : Cfg} (hcfg : CfgOK P cfg) (key : Nat) (h : Nat → Option Box) (g : FuncId) (args : List IV) : Det fun k => calls2K cfg key h k g args := by
  unfold calls2K
  cases cfg.spec g with
  | some _ => exact callK_det hcfg h g args
  | none => exact ocallK_det hcfg key h g args

theorem ovlK_det {h : Nat → Option Box} {args : List IV} : Det fun k => ovlK h k args := by
  unfold ovlK
  split
  · exact Det.cond (Det.ret _) Det.no
  · exact Det.no

theorem callsK_det {P : Program} {cfg : Cfg} (hcfg : CfgOK P cfg) (key : Nat) (h : Nat → Option Box) (g : FuncId) (args : List IV) : Det fun k => callsK cfg key h k g args := by
  unfold callsK
  exact Det.cond ovlK_det (calls2K_det hcfg key h g args)

theorem core_det {P : Program} {cfg : Cfg} (hcfg : CfgOK P cfg) (key : Nat) (h : Nat → Option Box) (op : Op) (vals : List IV) : Det fun k => coreK cfg key h k op vals := by
  unfold coreK
  split
  all_goals try exact Det.cond sliceVK_det sliceK_det
  all_goals try exact slice3K_det
  all_goals try exact makeMapK_det
  all_goals try exact lookupK_det
  all_goals try exact mapUpdateK_det
  all_goals try exact mapEntryK_det
  all_goals try exact entryStoreK_det
  all_goals try unfold pickK
  all_goals try unfold allocK
  all_goals try unfold boxK
  all_goals try unfold buildK
  all_goals try unfold buildSliceK
  all_goals try unfold loadK
  all_goals try unfold storeK
  all_goals try unfold nilCheckK
  all_goals try unfold convertK
  all_goals try unfold makeFuncK
  all_goals try unfold makeSliceK
  all_goals try unfold sliceK
  all_goals try unfold fieldAddrK
  all_goals try unfold fieldK
  all_goals try unfold indexAddrK
  all_goals try unfold indexK
  all_goals try unfold extractK
  all_goals try unfold builtinK
  all_goals try unfold lenK
  all_goals try exact callsK_det hcfg _ _ _ _
  all_goals try exact (binK_det _ _ _ _ _).comp _
  all_goals try exact (unK_det _ _).comp _
  all_goals repeat' (first
    | exact Det.no
    | exact Det.ret _
    | exact clearK_det
    | exact copyK_det
    | exact capK_det
    | exact deleteK_det
    | exact Det.cond (Det.cond appendZK_det appendVK_det) appendK_det
    | (refine Det.bind fun _ => ?_)
    | (refine Det.need ?_)
    | (refine Det.test ?_)
    | (refine Det.bound fun _ => ?_)
    | split)

/-- What an operation yields is what it yields for every follower, and the model yields it too. -/
theorem core_out {P : Program} {cfg : Cfg} (hcfg : CfgOK P cfg) {M : Nat → Prop} {B key : Nat} {O : Nat → Nat → Prop} {x : Xs} {h hr : Nat → Option Box} {u : Nat → Bool} {w : World}
    (rel : HRel M B O x h u w) (hsub : ∀ i b, hr i = some b → h i = some b) {o : Oper} {a : Act} {vals : List IV} (hl : vals.length = o.op.operands.toList.length)
    (hv : ∀ j y, vals[j]? = some y → IVRel x w ((o.op.operands.toList.map a.eval).getD j undef) y) {out : Out} (H : ∀ k, coreK cfg key hr k o.op vals = k out)
    (hnew : ∀ i, i ∈ out.news → u i = false) : OpDone P M B O x h u w out o a := by
  classical
  obtain ⟨out', h1, h2⟩ := core_sound hcfg rel hsub hl hv (k := fun o' => if o' = out then some (.tup [], []) else none) (r := (.tup [], [])) (by rw [H]; simp)
  have : out' = out := Classical.byContradiction fun hne => by simp [hne] at h1
  subst this
  exact h2 hnew

end Go.Proofs.Ytdoilggfajngiaa.VE
