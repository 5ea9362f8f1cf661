/-
  A function with one range over a function: what it returns, out of its iterator's contract and the loop's rounds.
-/
import Derived.Test.YtlakpbfmcnlnbaaDoorVTw
namespace Go.Proofs.YtlakpbfmcnlnbaaDoor.VE
open Go Go.RowKit

/-! ### what a round is handed goes into the loop's variables -/

def asgOf : Code → Option (List (Tmp × Tmp))
  | .region _ ops false => (match ops.toList with
    | [o] => (match o.op, o.dst, o.guard with | .assign (.tmp p), some t, none => some [(t, p)] | _, _, _ => none)
    | _ => none)
  | .seq a b => (match asgOf a, asgOf b with | some x, some y => some (x ++ y) | _, _ => none)
  | _ => none

def asgAct (l : List (Tmp × Tmp)) (a : Act) : Act := l.foldl (fun a p => a.put (some p.1) (a.eval (.tmp p.2))) a

theorem asgAct_append (l m : List (Tmp × Tmp)) (a : Act) : asgAct (l ++ m) a = asgAct m (asgAct l a) := by simp [asgAct]

theorem asgOf_sound {P : Program} (l0 d : Nat) {K : Act → World → Prop} {Q : Exit → Act → World → Prop} {w : World} : ∀ {c : Code} {l : List (Tmp × Tmp)} {a : Act}, asgOf c = some l → Q .normal (asgAct l a) w →
    c.wpIn ((FR none).inRound l0) d P Q a w
  | .region id ops false, l, a, h, hK => by
    unfold asgOf at h
    split at h
    · rename_i o ho
      split at h
      · rename_i p t h1 h2 h3
        cases h
        refine wpIn_region ?_
        have hs : ops.size = 1 := by rw [← Array.length_toList, ho]; rfl
        have h0 : ops[0]? = some o := by rw [← Array.getElem?_toList, ho]; rfl
        rw [hs, show List.range 1 = [0] from rfl, wpOpsIn_cons]
        unfold wpOpIn
        rw [h0]
        have hw : Region.wanted o (yielded ops a.tmps) = true := by simp [Region.wanted, h3]
        simp only [hw, if_true]
        unfold Oper.wpIn
        refine ⟨fun _ _ => trivial, ?_⟩
        have hnd : ∀ c, o.op ≠ .defer c := fun c e => by rw [h1] at e; cases e
        rw [Oper.semAt_eq _ _ _ hnd]
        have : (execOp a.eval o).run P w = .ok (.value (a.eval (.tmp p))) w := by simp [execOp, h1]
        rw [this]
        show Q .normal _ w
        have : asgAct [(t, p)] a = a.put o.dst (a.eval (.tmp p)) := by rw [h2]; rfl
        rw [this] at hK
        exact hK
      · cases h
    · cases h
  | .seq c1 c2, l, a, h, hK => by
    unfold asgOf at h
    split at h
    · rename_i x y hx hy
      cases h
      refine wpIn_seq (asgOf_sound (K := K) l0 d hx ?_)
      show Code.wpIn _ _ _ _ _ _ _
      refine asgOf_sound (K := K) l0 d hy ?_
      rw [asgAct_append] at hK
      exact hK
    · cases h
  | .region id ops true, l, a, h, hK => by cases h
  | .skip, _, _, h, _ => by cases h
  | .block _ _, _, _, h, _ => by cases h
  | .loop _, _, _, h, _ => by cases h
  | .scope _, _, _, h, _ => by cases h
  | .cond _ _ _, _, _, h, _ => by cases h
  | .ret, _, _, h, _ => by cases h
  | .exit _, _, _, h, _ => by cases h
  | .goto _, _, _, h, _ => by cases h
  | .label _, _, _, h, _ => by cases h
  | .rangeFunc _ _ _ _, _, _, h, _ => by cases h

def asgT (l : List (Tmp × Tmp)) (t : Nat → IV) : Nat → IV := l.foldl (fun t p => upd t p.1 (t p.2)) t
def parT (l : List (Tmp × Value)) (t : Nat → IV) : Nat → IV := l.foldl (fun t p => upd t p.1 (.c (.v p.2))) t

section
variable {x : Xs} {W : World}

def TRel (x : Xs) (W : World) (A : Array Value) (t : Nat → IV) : Prop := ∀ i, IVRel x W (A.getD i undef) (t i)

theorem TRel.set {A : Array Value} {t : Nat → IV} (h : TRel x W A t) {p : Nat} {v : Value} {iv : IV} (hv : IVRel x W v iv) (hp : p < A.size) : TRel x W (A.setIfInBounds p v) (upd t p iv) := fun i => by
  by_cases e : i = p
  · subst e
    rw [upd_same]
    have : (A.setIfInBounds i v).getD i undef = v := by simp [Array.getD_eq_getD_getElem?, hp]
    rw [this]
    exact hv
  · rw [upd_other _ _ e]
    have : (A.setIfInBounds p v).getD i undef = A.getD i undef := by
      simp only [Array.getD_eq_getD_getElem?, Array.getElem?_setIfInBounds_ne (Ne.symm e)]
    rw [this]
    exact h i

theorem asgAct_rel : ∀ {l : List (Tmp × Tmp)} {a : Act} {t : Nat → IV} {n : Nat}, a.tmps.size = n → (l.all fun p => Nat.blt p.1 n) = true → TRel x W a.tmps t →
    TRel x W (asgAct l a).tmps (asgT l t) ∧ (asgAct l a).tmps.size = n ∧ (asgAct l a).defers = a.defers
  | [], a, t, n, hs, _, h => ⟨h, hs, rfl⟩
  | p :: l, a, t, n, hs, hl, h => by
    have hl := (List.all_cons (l := l) ▸ hl)
    obtain ⟨h1, h2⟩ := Bool.and_eq_true_iff.1 hl
    have hp : p.1 < n := by simpa [Nat.blt_eq] using h1
    have := asgAct_rel (l := l) (a := a.put (some p.1) (a.eval (.tmp p.2))) (t := upd t p.1 (t p.2)) (n := n) (by simp [Act.put, hs]) h2 (h.set (h p.2) (by rw [hs]; exact hp))
    exact this

theorem params_rel : ∀ {l : List (Tmp × Value)} {A : Array Value} {t : Nat → IV} {n : Nat}, A.size = n → (∀ p, p ∈ l → p.1 < n ∧ p.2.oneCell' = true) → TRel x W A t →
    TRel x W (l.foldl (fun t p => t.setIfInBounds p.1 p.2) A) (parT l t) ∧ (l.foldl (fun t p => t.setIfInBounds p.1 p.2) A).size = n
  | [], A, t, n, hs, _, h => ⟨h, hs⟩
  | p :: l, A, t, n, hs, hl, h => by
    obtain ⟨h1, h2⟩ := hl p (List.mem_cons_self ..)
    exact params_rel (l := l) (A := A.setIfInBounds p.1 p.2) (t := upd t p.1 (.c (.v p.2))) (by simp [hs]) (fun q hq => hl q (List.mem_cons_of_mem _ hq)) (h.set (.c _ _ (.v _ h2)) (by rw [hs]; exact h1))

end

/-- An iterator's contract: whoever has its function value, and keeps what it has caught, goes through what it gives. -/
def IterOK {α : Type} (P : Program) (gf : FuncId) (caps : List IC) (encs : α → List Value) (S Sp : List α → Prop) (N : Nat) : Prop :=
  ∀ (x : Xs) (W : World) (M : Nat → Prop) (lb : Array Value), VRel x W (.func (.func gf) #[] lb) (.fn gf caps) → (∀ b o, x.okp b o → b < W.heap.size ∧ ¬ M b) →
    SeqStopsK (FR none) 2 P gf lb (fun v => (encs v).toArray) (Fr M W.heap.size) S Sp N W

abbrev RFF : Type := St → (Nat → St → R) → R
def rfF (objs : List Nat) (L : Live) (F : RFF) : RFK := fun _ σ k => keepK objs L σ fun σ' => F σ' k
/-- What is left to do behind the loop. -/
def kont (cfg : Cfg) (n : Nat) (rf : RFK) : Nat → Code → (Bool → Nat → St → R) → Option (Nat → St → R)
  | 0, _, _ => none
  | f + 1, c, k =>
    match c with
    | .seq a b => (match kont cfg n rf f a (fun u j σ' => bif Nat.beq j 0 then evalF cfg n rf f b u σ' k else k u j σ') with | some x => some x | none => kont cfg n rf f b k)
    | .block id c => kont cfg n rf f c fun u j σ' => bif Nat.beq j (id + 2) then k u 0 σ' else k u j σ'
    | .cond _ x y => (match kont cfg n rf f x k with | some x => some x | none => kont cfg n rf f y k)
    | .rangeFunc _ _ _ _ => some (k true)
    | _ => none
def endF (cfg : Cfg) (fn : Func) : Bool → Nat → St → R := fun _ j σ => test (Nat.ble j 1) (fin cfg fn.results.toList σ)
def kk (cfg : Cfg) (fn : Func) (objs : List Nat) (L : Live) (m : Nat) (c : Code) (F : RFF) : Nat → St → R := (kont cfg fn.ntmps (rfF objs L F) m c (endF cfg fn)).getD fun _ _ => none

theorem Within.trans {M : Nat → Prop} {B : Nat} {O : Nat → Nat → Prop} {M' : Nat → Prop} {B' : Nat} {O' : Nat → Nat → Prop} {M'' : Nat → Prop} {B'' : Nat} {O'' : Nat → Nat → Prop}
    (f : Within M B O M' B' O') (g : Within M' B' O' M'' B'' O'') : Within M B O M'' B'' O'' :=
  ⟨Nat.le_trans f.big g.big, fun k hk => (g.own k hk).elim (fun h => .inl (Nat.le_trans f.big h)) (f.own k), fun b o hb => by
    rcases g.ok b o hb with h | h | h
    · exact f.ok b o h
    · exact .inr (.inl (Nat.le_trans f.big h))
    · exact .inr (f.own b h)⟩

def loopBody : Code → Code
  | .rangeFunc _ _ _ b => b
  | _ => .skip
def loopAs : Code → Code
  | .rangeFunc _ _ a _ => a
  | _ => .skip

theorem objV_ofList {objs : List Nat} {l : List (Nat × IV)} (h : (l.all fun p => objV objs p.2) = true) (i : Nat) : objV objs (ofList (.c .junk) l i) = true := by
  rcases ofList_mem (d := (IV.c .junk)) (l := l) (j := i) with ⟨p, hp, rfl, p2⟩ | ⟨_, p2⟩
  · rw [p2]; exact List.all_eq_true.1 h p hp
  · rw [p2]; rfl

def noMapB : Option Box → Bool
  | some (.map _ _ _ _) => false
  | _ => true
theorem noMap_ofList {l : List (Nat × Option Box)} (h : (l.all fun p => noMapB p.2) = true) : NoMap (ofList none l) := fun id κ τ es c e => by
  rcases ofList_mem (d := (none : Option Box)) (l := l) (j := id) with ⟨p, hp, rfl, p2⟩ | ⟨_, p2⟩
  · rw [p2] at e
    have := List.all_eq_true.1 h p hp
    rw [e] at this
    cases this
  · rw [p2] at e
    cases e

theorem returns_of_range {P : Program} {cfg : Cfg} (hcfg : CfgOK P cfg) (hfin : cfg.more.fin = none) {g : FuncId} {fn : Func} {c : Code} (hf : P.funcs[g]? = some fn) (hb : fn.body = some c) {args : List IV} (hl : args.length ≤ fn.ntmps)
    {gt : Operand} {ps : Array Tmp} {as bd : Code} (hC : rfs c = [.rangeFunc gt ps as bd]) {al : List (Tmp × Tmp)} (hal : asgOf as = some al) (hpn : (ps.toList.all (fun p => Nat.blt p fn.ntmps) && al.all fun p => Nat.blt p.1 fn.ntmps) = true)
    {σ0 : St} {L0 L : Live} {gf : FuncId} {caps : List IC} {α : Type} {encs : α → List Value} {S Sp : List α → Prop} {N : Nat}
    (hg0 : VE.ev σ0 gt = .c (.fn gf caps)) (hit : IterOK P gf caps encs S Sp N) (eg : ∀ args w, (callFunc gf args).run P w = .ok (.enter gf args) w)
    (hps : ∀ v, (encs v).length = ps.size) (hone : ∀ v u, u ∈ encs v → u.oneCell' = true)
    (hlive : ∀ i, objV cfg.more.objs (σ0.t i) = true) (hs : List α → Nat → Option Box) (us : List α → Nat → Bool) (h0 : hs [] = σ0.h) (u0 : us [] = σ0.u) (hm : ∀ pre, NoMap (hs pre)) (jn : List α → Nat)
    (hround : ∀ (pre : List α) (v : α), pre.length < N → ∃ (tE : Nat → IV) (f : Nat), ∀ k : Nat → St → R,
      evalR cfg fn.ntmps f bd ⟨asgT al (parT (ps.toList.zip (encs v)) σ0.t), hs pre, us pre⟩ (fun j σ' => keepK cfg.more.objs L σ' (k j)) = k (jn (pre ++ [v])) ⟨tE, hs (pre ++ [v]), us (pre ++ [v])⟩)
    {m : Nat} {r : IV} (H1 : ∀ F : RFF, evalF cfg fn.ntmps (rfF cfg.more.objs L0 F) m c false (enter args) (endF cfg fn) = F σ0 (kk cfg fn cfg.more.objs L0 m c F))
    (H2 : ∀ (F : RFF) (pre : List α) (j : Nat), ((S pre ∧ j = 0 ∧ WentAll jn pre) ∨ (Sp pre ∧ jn pre ≠ 0 ∧ j = jn pre ∧ Went jn pre)) → kk cfg fn cfg.more.objs L0 m c F j ⟨σ0.t, hs pre, us pre⟩ = some (r, [])) : Returns P g args r := by
  classical
  obtain ⟨hpn1, hpn2⟩ := Bool.and_eq_true_iff.1 hpn
  let F : RFF := fun σ' k => if σ' = σ0 ∧ ∀ (pre : List α) (j : Nat), ((S pre ∧ j = 0 ∧ WentAll jn pre) ∨ (Sp pre ∧ jn pre ≠ 0 ∧ j = jn pre ∧ Went jn pre)) → k j ⟨σ0.t, hs pre, us pre⟩ = some (r, []) then some (r, []) else none
  have H : evalF cfg fn.ntmps (rfF cfg.more.objs L0 F) m c false (enter args) (endF cfg fn) = some (r, []) := by
    rw [H1 F]
    exact if_pos ⟨rfl, H2 F⟩
  refine returns_of_evalF (d := 3) (rf := rfF cfg.more.objs L0 F) hcfg hfin hf hb hl ?_ H
  intro w0 us0 ok hok hlaid hus ha gg ps' as' bd' hmem x σ a w k r' at0 hrf
  rw [hC] at hmem
  cases List.mem_singleton.1 hmem
  obtain ⟨M, B, O, wi, rel, hu1, hu2⟩ := at0.st
  obtain ⟨σ', x', hF, rel', ext', hgi⟩ := keepK_sound rel hrf
  by_cases hc : σ' = σ0 ∧ ∀ (pre : List α) (j : Nat), ((S pre ∧ j = 0 ∧ WentAll jn pre) ∨ (Sp pre ∧ jn pre ≠ 0 ∧ j = jn pre ∧ Went jn pre)) → k true j ⟨σ0.t, hs pre, us pre⟩ = some (r, [])
  case neg =>
    have : F σ' (k true) = none := if_neg hc
    rw [this] at hF
    cases hF
  have hFr : F σ' (k true) = some (r, []) := if_pos hc
  rw [hFr] at hF
  cases hF
  obtain ⟨rfl, hall⟩ := hc
  have relR : Rel (Owned x' σ'.h) w.heap.size x'.ok fn.ntmps x' σ' a w := ⟨rel'.size, rel'.tmps, rel'.heap.rebase, rel'.defers⟩
  have hgv := rel'.ev gt
  rw [hg0] at hgv
  obtain ⟨lb, hlb, hvr⟩ : ∃ lb, a.eval gt = .func (.func gf) #[] lb ∧ VRel x' w (.func (.func gf) #[] lb) (.fn gf caps) := by
    generalize a.eval gt = gv at hgv
    cases hgv with
    | c _ _ h =>
      have h' := h
      cases h with
      | fn _ _ cs h1 h2 => exact ⟨cs, rfl, h'⟩
  have hseq := hit x' w (Owned x' σ'.h) lb hvr fun b o hbo => ⟨rel'.heap.old b o hbo, fun ⟨id, bx, q, k1, k2, k3, k4⟩ => (rel'.heap.own id bx q b k1 k2 k3 k4).2 o hbo⟩
  have htab : ∀ p, p ∈ tabCells → p.1 < w.heap.size := fun p hp => Nat.lt_of_lt_of_le (hok _ _ (hlaid p hp).1) at0.fr.size
  have hzip : ∀ (v : α) (A : Array Value), (ps.zip (encs v).toArray).foldl (fun t (p, u) => t.setIfInBounds p u) A = (ps.toList.zip (encs v)).foldl (fun t p => t.setIfInBounds p.1 p.2) A := fun v A => by
    rw [← Array.foldl_toList, Array.toList_zip]
  have hpar : ∀ v p, p ∈ ps.toList.zip (encs v) → p.1 < fn.ntmps ∧ p.2.oneCell' = true := fun v p hp =>
    ⟨by have := List.all_eq_true.1 hpn1 _ (List.of_mem_zip hp).1; simpa [Nat.blt_eq] using this, hone v _ (List.of_mem_zip hp).2⟩
  let a0 : α → Act := fun v => { tmps := (ps.zip (encs v).toArray).foldl (fun t (p, u) => t.setIfInBounds p u) (addD a []).tmps, defers := [] }
  have ha0 : ∀ (v : α) (y : Xs) (W : World), TRel y W a.tmps σ'.t → TRel y W (a0 v).tmps (parT (ps.toList.zip (encs v)) σ'.t) ∧ (a0 v).tmps.size = fn.ntmps := fun v y W hT => by
    have := params_rel (l := ps.toList.zip (encs v)) (A := (addD a []).tmps) rel'.size (hpar v) hT
    show TRel y W ((ps.zip (encs v).toArray).foldl (fun t (p, u) => t.setIfInBounds p u) (addD a []).tmps) _ ∧ ((ps.zip (encs v).toArray).foldl (fun t (p, u) => t.setIfInBounds p u) (addD a []).tmps).size = _
    rw [hzip]
    exact this
  have hsz : ∀ v, (a0 v).tmps.size = fn.ntmps := fun v => (ha0 v x' w rel'.tmps).2
  have key := rangeFunc_rule (P := P) (cfg := cfg) (α := α) hcfg relR [] (d := 3) (by omega) (ps := ps) (assign := as) (body := bd) (lb := lb) hlb eg hseq (fun v => by simpa using hps v)
    (fun v => asgAct al (a0 v))
    (fun l v W K hK => asgOf_sound (K := K) l _ hal hK)
    (fun v => asgT al (parT (ps.toList.zip (encs v)) σ'.t))
    (fun v => let h := asgAct_rel (x := x') (W := w) (l := al) (a := a0 v) (hsz v) hpn2 (ha0 v x' w rel'.tmps).1; ⟨h.2.1, h.2.2⟩)
    (fun v y W hT => (asgAct_rel (l := al) (a := a0 v) (hsz v) hpn2 (ha0 v y W hT).1).1)
    hlive htab hs us h0 u0 hm jn L hround
  rw [addD_nil] at key
  refine wpIn_mono key ?_
  intro e A W hp
  obtain ⟨pre, j, y, D, h1, h2, h3, h4⟩ := at_loop (P := P) (M0 := fun _ => False) (B0 := w0.heap.size) (O0 := ok) hcfg at0.fr.size (wi.trans rel'.heap.within) relR (at0.ext.trans ext') at0.fr hlive hm hp
  exact ⟨true, j, y, _, a, D, h1, h2, h3, hall pre j h4⟩

/-- Where the loop is not come to. -/
theorem returns_of_direct {P : Program} {cfg : Cfg} (hcfg : CfgOK P cfg) (hfin : cfg.more.fin = none) {g : FuncId} {fn : Func} {c : Code} (hf : P.funcs[g]? = some fn) (hb : fn.body = some c) {args : List IV} (hl : args.length ≤ fn.ntmps)
    {objs : List Nat} {L0 : Live} {m : Nat} {r : IV} (H : evalF cfg fn.ntmps (rfF objs L0 fun _ _ => none) m c false (enter args) (endF cfg fn) = some (r, [])) : Returns P g args r := by
  refine returns_of_evalF (d := 3) (rf := rfF objs L0 fun _ _ => none) hcfg hfin hf hb hl ?_ H
  intro w0 us0 ok hok hlaid hus ha gg ps' as' bd' hmem x σ a w k r' at0 hrf
  obtain ⟨M, B, O, wi, rel, hu1, hu2⟩ := at0.st
  obtain ⟨σ', x', hF, _⟩ := keepK_sound rel hrf
  cases hF

end Go.Proofs.YtlakpbfmcnlnbaaDoor.VE
