/-
  A call of a function that only computes: its contract; what it is handed; and each operation, whatever it is.
-/
import Derived.Test.YtdoilggfajngiaaVLb
import Derived.Lib.Overlaps
namespace Go.Proofs.Ytdoilggfajngiaa.VE
open Go Go.RowKit

def outside (ok : Nat → Nat → Prop) (w : World) : Xs := ⟨fun _ => none, ok, fun b _ => b < w.heap.size⟩
def okNew (ok : Nat → Nat → Prop) (w w' : World) : Nat → Nat → Prop := fun b o => ok b o ∨ (w.heap.size ≤ b ∧ b < w'.heap.size)
def inside (ok : Nat → Nat → Prop) : Xs := ⟨fun _ => none, ok, ok⟩

/-- Handed such arguments, in whatever world, the function answers such a result, and turns nothing that was there. -/
def Returns (P : Program) (g : FuncId) (args : List IV) (res : IV) : Prop :=
  ∀ (w : World) (us : Array Value) (ok : Nat → Nat → Prop), (∀ b o, ok b o → b < w.heap.size) → Laid ok w → us.size = args.length →
    (∀ j c, args[j]? = some c → IVRel (outside ok w) w (us.getD j undef) c) →
    Calls P g us w fun e w' => ∃ v, e = .returned v ∧ Below w.heap.size w w' ∧ IVRel (inside (okNew ok w w')) w' v res

structure SpecOK (P : Program) (g : FuncId) (sp : ISpec) : Prop where
  call : ∀ args w, (callFunc g args).run P w = .ok (.enter g args) w
  ret : ∀ args k r, sp args k = some r → ∃ res, (∀ k', sp args k' = k' res []) ∧ Returns P g args res

/-! ### a call that is handed boxes -/

def ofB (bx : List (Nat × Box)) : Nat → Option Box := ofList none (bx.map fun e => (e.1, some e.2))
def ofU (bx : List (Nat × Box)) : Nat → Bool := ofList false (bx.map fun e => (e.1, true))

/-- Handed such arguments and such boxes, in whatever world, the function answers such a result, hands such boxes back, and turns nothing else that was there. -/
def ReturnsO (P : Program) (g : FuncId) (args : List IV) (bx : List (Nat × Box)) (res : IV) (bx' : List (Nat × Box)) : Prop :=
  ∀ (w : World) (us : Array Value) (M : Nat → Prop) (O : Nat → Nat → Prop) (x : Xs), HRel M w.heap.size O x (ofB bx) (ofU bx) w → us.size = args.length →
    (∀ j c, args[j]? = some c → IVRel x w (us.getD j undef) c) →
    Calls P g us w fun e w' => ∃ v x' u', e = .returned v ∧ Fr M w.heap.size w w' ∧ HRel M w.heap.size O x' (ofB bx') u' w' ∧ IVRel x' w' v res ∧
      ∀ n ty cs, (n, Box.cells ty cs) ∈ bx → ∀ q, x.g n = some q → x'.g n = some q

structure SpecOKO (P : Program) (g : FuncId) (sp : OSpec) : Prop where
  call : ∀ args w, (callFunc g args).run P w = .ok (.enter g args) w
  ret : ∀ args bx k r, sp args bx k = some r → ∃ res bx', (∀ k', sp args bx k' = k' res bx') ∧ ReturnsO P g args bx res bx'

/-- The library's own: do two slices overlap? -/
def OvlFn (P : Program) (g : FuncId) : Prop := ∃ fn tS tR e size, P.funcs[g]? = some fn ∧ (fn.name == "runtime.NumGoroutine") = false ∧ fn.body.isNone = true ∧ Extern.findNext fn = none ∧
  Extern.find fn = some (Extern.SlicesOverlaps.overlaps #[tS, tS] #[tR]) ∧ P.underlying tS = some (.slice e) ∧ ∀ w, (Go.sizeOf e).run P w = .ok size w

structure CfgOK (P : Program) (cfg : Cfg) : Prop where
  ty : TyOK P cfg.ty
  mixed : P.follows .mixedOrders = true
  spec : ∀ g s, cfg.spec g = some s → SpecOK P g s.2
  ospec : ∀ g s, cfg.more.ospec g = some s → SpecOKO P g s.sp
  ovl : ∀ g, g ∈ cfg.more.ovl → OvlFn P g

section
variable {P : Program} {cfg : Cfg} {M : Nat → Prop} {B key : Nat} {O : Nat → Nat → Prop} {x : Xs} {h hr : Nat → Option Box} {u : Nat → Bool} {w : World} {k : Out → R} {r : IV × List (Nat × Box)}

theorem mem_foldr_app {α β : Type} (f : α → List β) : ∀ (l : List α) (p : β), p ∈ l.foldr (fun c r => f c ++ r) [] ↔ ∃ c, c ∈ l ∧ p ∈ f c
  | [], p => by simp
  | a :: l, p => by
    simp only [List.foldr_cons, List.mem_append, mem_foldr_app f l p, List.mem_cons, or_and_right, exists_or, exists_eq_left]

theorem freezeN_fz (hsub : ∀ i b, hr i = some b → h i = some b) : ∀ (n : Nat) (c : IC) (p : Nat × Option Box), p ∈ freezeN hr n c → Fz h p
  | 0, _, _, hp => by simp [freezeN] at hp
  | n + 1, c, p, hp => by
    unfold freezeN at hp
    cases c with
    | sref i =>
      simp only at hp
      cases hb : hr i with
      | none => simp [hb] at hp
      | some b =>
        cases b with
        | cells => simp [hb] at hp
        | ice => simp [hb] at hp
        | row => simp [hb] at hp
        | map => simp [hb] at hp
        | arr ty t xs fr =>
          cases fr with
          | true => simp [hb] at hp
          | false => simp [hb] at hp; subst hp; exact ⟨ty, t, xs, false, hsub _ _ hb, rfl⟩
    | ref i off =>
      simp only at hp
      cases hb : hr i with
      | none => simp [hb] at hp
      | some b =>
        cases b with
        | arr => simp [hb] at hp
        | ice => simp [hb] at hp
        | row => simp [hb] at hp
        | map => simp [hb] at hp
        | cells ty cs =>
          simp only [hb] at hp
          obtain ⟨c, _, hc⟩ := (mem_foldr_app _ _ _).1 hp
          exact freezeN_fz hsub n c p hc
    | eref i wd j off =>
      simp only at hp
      cases hb : hr i with
      | none => simp [hb] at hp
      | some b =>
        cases b with
        | cells => simp [hb] at hp
        | ice => simp [hb] at hp
        | row => simp [hb] at hp
        | map => simp [hb] at hp
        | arr ty t xs fr =>
          cases fr with
          | true => simp [hb] at hp
          | false => simp [hb] at hp; subst hp; exact ⟨ty, t, xs, false, hsub _ _ hb, rfl⟩
    | fn f cap =>
      simp only at hp
      obtain ⟨c, _, hc⟩ := (mem_foldr_app _ _ _).1 hp
      exact freezeN_fz hsub n c p hc
    | _ => simp at hp

theorem settleN_sound (rel : HRel M B O x h u w) (hsub : ∀ i b, hr i = some b → h i = some b) {fz : List (Nat × Option Box)} {x' : Xs} (hf : Frozen x w h fz x') {K : Nat → Nat → Prop} (hold : ∀ b o, x'.okp b o → K b o)
    (hK : ∀ i b q k, hr i = some b → x.g i = some q → q.blk = some k → k < w.heap.size → ∀ o, K k o) :
    ∀ (n : Nat) (c : IC) (v : Value), (∀ p, p ∈ freezeN hr n c → p ∈ fz) → VRel x w v c → VRel ⟨fun _ => none, x'.ok, K⟩ w v (settleN hr n c) ∧ Free (settleN hr n c)
  | 0, _, v, _, _ => ⟨.junk v, .junk⟩
  | n + 1, c, v, hp, hv => by
    have hokx : ∀ b o, x.okp b o → K b o := fun b o hb => hold b o (hf.ext.okp b o hb)
    unfold freezeN at hp
    unfold settleN
    cases c with
    | v y => cases hv with | v _ h1 => exact ⟨.v _ h1, .v _⟩
    | junk => exact ⟨.junk v, .junk⟩
    | sl t xs => exact ⟨hv.free (.sl _ _) hf.ext.ok hokx, .sl _ _⟩
    | snap cs off =>
      have hfr : Free (.snap cs off) := by cases hv with | snap _ _ _ _ _ hfree => exact .snap _ _ hfree
      exact ⟨hv.free hfr hf.ext.ok hokx, hfr⟩
    | psnap cs off =>
      have hfr : Free (.psnap cs off) := by cases hv with | psnap _ _ _ _ _ hfree => exact .psnap _ _ hfree
      exact ⟨hv.free hfr hf.ext.ok hokx, hfr⟩
    | own => exact ⟨.junk v, .junk⟩
    | anew => exact ⟨.junk v, .junk⟩
    | emp => exact ⟨.junk v, .junk⟩
    | view => exact ⟨.junk v, .junk⟩
    | mref => exact ⟨.junk v, .junk⟩
    | sref i =>
      simp only at hp ⊢
      cases hb : hr i with
      | none => exact ⟨.junk v, .junk⟩
      | some b =>
        cases b with
        | cells => exact ⟨.junk v, .junk⟩
        | ice => exact ⟨.junk v, .junk⟩
        | row => exact ⟨.junk v, .junk⟩
        | map => exact ⟨.junk v, .junk⟩
        | arr ty t xs fr =>
          simp only [hb] at hp ⊢
          have h1 := hf.tell i ty t xs fr (hsub _ _ hb) (by cases fr with | true => exact .inr rfl | false => exact .inl (hp _ (by simp))) v hv
          exact ⟨h1.free (.sl _ _) (fun _ _ h => h) hold, .sl _ _⟩
    | ref i off =>
      simp only at hp ⊢
      cases hb : hr i with
      | none => exact ⟨.junk v, .junk⟩
      | some b =>
        cases b with
        | arr => exact ⟨.junk v, .junk⟩
        | row => exact ⟨.junk v, .junk⟩
        | map => exact ⟨.junk v, .junk⟩
        | ice ty cs =>
          obtain ⟨q, hq, hbr⟩ := rel.box _ _ (hsub _ _ hb)
          cases hv with
          | ref _ _ q' b hg hblk =>
            rw [hq] at hg; injection hg with hg; subst hg
            cases hbr with
            | ice _ _ b' vs e hq' hw hs hrel hfree hok =>
              rw [hblk] at hq'; injection hq' with hq'; subst hq'
              refine ⟨?_, .psnap _ _ hfree⟩
              have hgo : VRel ⟨fun _ => none, x'.ok, K⟩ w (.pointer (some ⟨b, 0 + off, none⟩)) (.psnap cs off) := by
                refine .psnap _ off b 0 (fun j => vs.getD j undef) hfree (fun j hj => ⟨by rw [Nat.zero_add]; exact hf.ext.ok _ _ (hok j hj), ?_⟩) (fun j c hc => ((hrel j c hc).ext hf.ext).free (hfree c (List.mem_of_getElem? hc)) (fun _ _ h => h) hold)
                rw [Nat.zero_add, cell_of hw]
                have : j < vs.size := by omega
                simp [Array.getD, this]
              rw [Nat.zero_add] at hgo
              exact hgo
        | cells ty cs =>
          simp only [hb] at hp ⊢
          obtain ⟨q, hq, hbr⟩ := rel.box _ _ (hsub _ _ hb)
          cases hv with
          | ref _ _ q' b hg hblk =>
            rw [hq] at hg; injection hg with hg; subst hg
            cases hbr with
            | cells _ _ b' vs e hq' hw hs hrel =>
              rw [hblk] at hq'; injection hq' with hq'; subst hq'
              have hall : ∀ c, c ∈ cs.map (settleN hr n) → Free c := by
                intro c hc
                obtain ⟨d, hd, rfl⟩ := List.mem_map.1 hc
                obtain ⟨j, hj⟩ := List.mem_iff_getElem?.1 hd
                exact (settleN_sound rel hsub hf hold hK n d _ (fun p hpd => hp p ((mem_foldr_app _ _ _).2 ⟨d, hd, hpd⟩)) (hrel j d hj)).2
              refine ⟨?_, .snap _ _ hall⟩
              have hgo : VRel ⟨fun _ => none, x'.ok, K⟩ w (.pointer (some ⟨b, 0 + off, none⟩)) (.snap (cs.map (settleN hr n)) off) := by
                refine .snap _ off b 0 (fun j => vs.getD j undef) hall (fun j hj => ⟨hK i _ q b hb hq hblk (lt_of_some hw) _, ?_⟩) (fun j c hc => ?_)
                · rw [List.length_map] at hj
                  rw [Nat.zero_add, cell_of hw]
                  have : j < vs.size := by omega
                  simp [Array.getD, this]
                · rw [List.getElem?_map] at hc
                  cases hj : cs[j]? with
                  | none => simp [hj] at hc
                  | some d =>
                    simp [hj] at hc; subst hc
                    exact (settleN_sound rel hsub hf hold hK n d _ (fun p hpd => hp p ((mem_foldr_app _ _ _).2 ⟨d, List.mem_of_getElem? hj, hpd⟩)) (hrel j d hj)).1
              rw [Nat.zero_add] at hgo
              exact hgo
    | eref i wd j off =>
      simp only at hp ⊢
      cases hb : hr i with
      | none => exact ⟨.junk v, .junk⟩
      | some b =>
        cases b with
        | cells => exact ⟨.junk v, .junk⟩
        | ice => exact ⟨.junk v, .junk⟩
        | row => exact ⟨.junk v, .junk⟩
        | map => exact ⟨.junk v, .junk⟩
        | arr ty t xs fr =>
          simp only [hb] at hp ⊢
          split
          case isFalse => exact ⟨.junk v, .junk⟩
          rename_i hwd
          subst hwd
          obtain ⟨q, hq, hbr⟩ := rel.box _ _ (hsub _ _ hb)
          have hall : ∀ c, c ∈ enc t (rdEl t xs j) → Free c := enc_free t _
          refine ⟨?_, .snap _ _ hall⟩
          cases hv with
          | eref _ _ _ _ q' b hg hblk hi =>
            rw [hq] at hg; injection hg with hg; subst hg
            cases hbr with
            | none _ _ _ g1 => rw [hblk] at g1; cases g1
            | arr _ _ _ _ b' vs e hq' hw hl hc hs hrel hfr =>
              rw [hblk] at hq'; injection hq' with hq'; subst hq'
              have hix : j < xs.length := by omega
              refine .snap _ off b (j * width t) (fun m => vs.getD (j * width t + m) undef) hall (fun m hm => ⟨hK i _ q b hb hq hblk (lt_of_some hw) _, ?_⟩) (fun m c hc' => ?_)
              · rw [enc_length] at hm
                have hlt : j * width t + m < vs.size := by
                  rw [hs]
                  have : (j + 1) * width t ≤ q.cap * width t := Nat.mul_le_mul_right _ (by omega)
                  rw [Nat.add_mul] at this; omega
                rw [cell_of hw]
                simp [Array.getD, hlt]
              · have := hrel j _ (rdEl_get hix) m c hc'
                exact (this.ext hf.ext).free (hall c (List.mem_of_getElem? hc')) (fun _ _ h => h) hold
    | fn f cap =>
      simp only at hp ⊢
      cases hv with
      | fn _ _ caps hs hel =>
        have hall : ∀ c, c ∈ cap.map (settleN hr n) → Free c := by
          intro c hc
          obtain ⟨d, hd, rfl⟩ := List.mem_map.1 hc
          obtain ⟨j, hj⟩ := List.mem_iff_getElem?.1 hd
          exact (settleN_sound rel hsub hf hold hK n d _ (fun p hpd => hp p ((mem_foldr_app _ _ _).2 ⟨d, hd, hpd⟩)) (hel j d hj)).2
        refine ⟨.fn f _ caps (by simpa using hs) fun j c hc => ?_, .fn _ _ hall⟩
        rw [List.getElem?_map] at hc
        cases hj : cap[j]? with
        | none => simp [hj] at hc
        | some d =>
          simp [hj] at hc; subst hc
          exact (settleN_sound rel hsub hf hold hK n d _ (fun p hpd => hp p ((mem_foldr_app _ _ _).2 ⟨d, List.mem_of_getElem? hj, hpd⟩)) (hel j d hj)).1

theorem settleIV_sound (rel : HRel M B O x h u w) (hsub : ∀ i b, hr i = some b → h i = some b) {fz : List (Nat × Option Box)} {x' : Xs} (hf : Frozen x w h fz x') {K : Nat → Nat → Prop} (hold : ∀ b o, x'.okp b o → K b o)
    (hK : ∀ i b q k, hr i = some b → x.g i = some q → q.blk = some k → k < w.heap.size → ∀ o, K k o)
    {a : IV} {A : Value} (hp : ∀ p, p ∈ freezeIV hr a → p ∈ fz) (ha : IVRel x w A a) : IVRel ⟨fun _ => none, x'.ok, K⟩ w A (settleIV hr a) := by
  cases ha with
  | c _ c hv => exact .c _ _ (settleN_sound rel hsub hf hold hK 6 c A hp hv).1
  | agg us cs hs hv =>
    refine .agg _ _ (by simpa using hs) fun j c hc => ?_
    rw [List.getElem?_map] at hc
    cases hj : cs[j]? with
    | none => simp [hj] at hc
    | some d =>
      simp [hj] at hc; subst hc
      exact (settleN_sound rel hsub hf hold hK 6 d _ (fun p hpd => hp p ((mem_foldr_app _ _ _).2 ⟨d, List.mem_of_getElem? hj, hpd⟩)) (hv j d hj)).1
  | tup => exact .c _ _ (.junk _)

/-- Behind a call that turns nothing that was there. -/
theorem HRel.called (rel : HRel M B O x h u w) {w' : World} (hb : Below w.heap.size w w') :
    let y : Xs := ⟨x.g, okNew x.ok w w', okNew x.okp w w'⟩
    Ext x w y w' ∧ Fr M B w w' ∧ HRel M B O y h u w' := by
  intro y
  have he : Ext x w y w' := ⟨fun _ _ h => h, fun _ _ h => .inl h, fun _ _ h => .inl h, fun b o hbo => hb.cell (p := ⟨b, o, none⟩) (hbo.elim (rel.old b o) fun h => rel.old b o (rel.okp b o h))⟩
  have hlt : ∀ i b q k, h i = some b → x.g i = some q → q.blk = some k → k < w.heap.size := by
    intro i b q k hi hq hk
    obtain ⟨q', hq', hbr⟩ := rel.box i b hi
    rw [hq] at hq'; injection hq' with hq'; subst hq'
    obtain ⟨_, hw⟩ := hbr.blk hk
    exact lt_of_some hw
  refine ⟨he, ⟨hb.os, hb.tape, hb.output, hb.size, fun k hk _ => hb.block k (by have := rel.big; omega)⟩, ?_, rel.apart, ?_, rel.used, ?_, ?_, ?_, ?_, rel.laid.ext he⟩
  · intro i b hi
    obtain ⟨q, hq, hbr⟩ := rel.box i b hi
    exact ⟨q, hq, hbr.ext he fun k hk => hb.block k (hlt i b q k hi hq hk)⟩
  · intro i bi qi k hi hh hqi hki
    obtain ⟨p1, p2⟩ := rel.own i bi qi k hi hh hqi hki
    refine ⟨p1, fun o ho => ?_⟩
    rcases ho with ho | ⟨ho, _⟩
    · exact p2 o ho
    · have := hlt i bi qi k hi hqi hki; omega
  · exact fun b o hbo => hbo.imp (rel.okp b o) fun h => h
  · intro b o hbo
    rcases hbo with hbo | ⟨_, hbo⟩
    · have h1 := rel.old b o hbo
      have h2 := hb.size
      omega
    · exact hbo
  · have h1 := rel.big
    have h2 := hb.size
    omega
  · intro b o hbo
    rcases hbo with hbo | ⟨hbo, _⟩
    · exact rel.okb b o hbo
    · have h1 := rel.big
      exact .inr (.inl (by omega))

theorem VRel.wide {x y : Xs} {K : Nat → Nat → Prop} {w : World} {u : Value} {c : IC} (h : VRel ⟨fun _ => none, x.ok, K⟩ w u c) (h1 : ∀ b o, x.ok b o → y.ok b o) : VRel ⟨fun _ => none, y.ok, K⟩ w u c := by
  have he : Ext ⟨fun _ => none, x.ok, K⟩ w ⟨fun _ => none, y.ok, K⟩ w := ⟨fun _ _ h => h, h1, fun _ _ h => h, fun _ _ _ => rfl⟩
  exact h.ext he
theorem IVRel.wide {x y : Xs} {K : Nat → Nat → Prop} {w : World} {u : Value} {c : IV} (h : IVRel ⟨fun _ => none, x.ok, K⟩ w u c) (h1 : ∀ b o, x.ok b o → y.ok b o) : IVRel ⟨fun _ => none, y.ok, K⟩ w u c := by
  have he : Ext ⟨fun _ => none, x.ok, K⟩ w ⟨fun _ => none, y.ok, K⟩ w := ⟨fun _ _ h => h, h1, fun _ _ h => h, fun _ _ _ => rfl⟩
  exact h.ext he

theorem scalarC_tell {x y : Xs} {w w' : World} {v : Value} {c : IC} (h : VRel x w v c) (hs : scalarC c = true) : VRel y w' v c := by
  cases h <;> first | exact .v _ ‹_› | cases hs
theorem scalarV_tell {x y : Xs} {w w' : World} {v : Value} {c : IV} (h : IVRel x w v c) (hs : scalarV c = true) : IVRel y w' v c := by
  cases h with
  | c u c h => exact .c _ _ (scalarC_tell h hs)
  | agg us cs hz h => exact .agg us cs hz fun j c hc => scalarC_tell (h j c hc) (List.all_eq_true.1 (show cs.all scalarC = true from hs) c (List.mem_of_getElem? hc))
  | tup us vs hz h =>
    refine .tup us vs hz fun j c hc => ?_
    have h1 := List.all_eq_true.1 (show vs.all _ = true from hs) c (List.mem_of_getElem? hc)
    have h2 := h j c hc
    cases c with
    | c c => exact .c _ _ (scalarC_tell (iv_c h2) h1)
    | agg cs =>
      generalize us.getD j undef = V at h2 ⊢
      cases h2 with
      | agg us2 _ hz2 h3 => exact .agg us2 cs hz2 fun j c hc => scalarC_tell (h3 j c hc) (List.all_eq_true.1 (show cs.all scalarC = true from h1) c (List.mem_of_getElem? hc))
    | tup => cases h1

theorem psnap_free {y : Xs} {v : Value} {cs : List IC} {off : Nat} (hv : VRel y w v (.psnap cs off)) : Free (.psnap cs off) := by
  cases hv with
  | psnap _ _ _ _ _ hfree => exact .psnap _ _ hfree

theorem iceOk_free {c : IC} (h : iceOk c = true) : Free c := by
  cases c <;> first | exact .v _ | exact .sl _ _ | cases h

/-- What is turned no more. -/
def Icy (h : Nat → Option Box) (p : Nat × Nat × List IC) : Prop := h p.1 = some (.cells p.2.1 p.2.2) ∧ ∀ c, c ∈ p.2.2 → Free c

theorem HRel.iced : ∀ (l : List (Nat × Nat × List IC)) (x : Xs) (h : Nat → Option Box), HRel M B O x h u w → (∀ p, p ∈ l → Icy h p ∨ h p.1 = some (.ice p.2.1 p.2.2)) →
    ∃ x', Ext x w x' w ∧ HRel M B O x' (updMany h (iceUps l)) u w ∧ x'.g = x.g ∧ (∀ p, p ∈ l → ∀ v off, VRel x w v (.ref p.1 off) → VRel x' w v (.psnap p.2.2 off))
  | [], x, h, r, _ => ⟨x, Ext.refl _ _, r, rfl, fun p hp => by cases hp⟩
  | p :: l, x, h, r, hl => by
    obtain ⟨i, ty, cs⟩ := p
    rcases hl _ (List.mem_cons_self ..) with hp | hp
    · obtain ⟨x1, e1, r1, s1, g1⟩ := r.ice1 hp.1 hp.2
      obtain ⟨x2, e2, r2, g2, s2⟩ := HRel.iced l x1 _ r1 (fun p' hp' => by
        by_cases he : p'.1 = i
        · rcases hl p' (List.mem_cons_of_mem _ hp') with hq | hq
          · right
            have h1 : h i = some (.cells p'.2.1 p'.2.2) := he ▸ hq.1
            have h2 : h i = some (.cells ty cs) := hp.1
            rw [h1] at h2
            injection h2 with h2
            injection h2 with h3 h4
            rw [he, upd_same, h3, h4]
          · have h1 : h i = some (.ice p'.2.1 p'.2.2) := he ▸ hq
            have h2 : h i = some (.cells ty cs) := hp.1
            rw [h1] at h2; cases h2
        · rcases hl p' (List.mem_cons_of_mem _ hp') with hq | hq
          · left
            exact ⟨by rw [upd_other _ _ he]; exact hq.1, hq.2⟩
          · right
            rw [upd_other _ _ he]; exact hq)
      refine ⟨x2, e1.trans e2, r2, g2.trans g1, fun p' hp' v off hv => ?_⟩
      rcases List.mem_cons.1 hp' with rfl | hp'
      · exact (s1 v off hv).ext e2
      · exact s2 p' hp' v off (hv.ext e1)
    · have hu : upd h i (some (.ice ty cs)) = h := by
        funext j
        by_cases h1 : j = i
        · subst h1; rw [upd_same]; exact hp.symm
        · rw [upd_other _ _ h1]
      obtain ⟨x2, e2, r2, g2, s2⟩ := HRel.iced l x h r (fun p' hp' => hl p' (List.mem_cons_of_mem _ hp'))
      refine ⟨x2, e2, by show HRel M B O x2 (updMany (upd h i (some (.ice ty cs))) (iceUps l)) u w; rw [hu]; exact r2, g2, fun p' hp' v off hv => ?_⟩
      rcases List.mem_cons.1 hp' with rfl | hp'
      · obtain ⟨q, hq, hbr⟩ := r.box _ _ hp
        cases hbr with
        | ice _ _ b vs e h1 h2 h3 h4 h5 h6 =>
          cases hv with
          | ref _ _ q' b' hq' hb' =>
            rw [hq] at hq'; injection hq' with hq'; subst hq'
            rw [h1] at hb'; injection hb' with hb'; subst hb'
            have := VRel.psnap (x := x) (w := w) cs off b 0 (fun j => vs.getD j undef) h5 (fun j hj => ⟨by rw [Nat.zero_add]; exact h6 j hj, by
              rw [Nat.zero_add, cell_of h2]
              have : j < vs.size := by rw [h3]; exact hj
              simp [Array.getD, this]⟩) h4
            rw [Nat.zero_add] at this
            exact this.ext e2
      · exact s2 p' hp' v off hv

theorem iceArg_some {b : Bool} {x : IV} {i off ty : Nat} {cs : List IC} (h : iceArg hr b x = some (i, off, ty, cs)) : x = .c (.ref i off) ∧ hr i = some (.cells ty cs) ∧ cs.all iceOk = true := by
  unfold iceArg at h
  split at h
  · cases b with
    | false => cases h
    | true =>
      simp only [cond_true] at h
      split at h
      · rename_i ty' cs' hb
        cases hc : cs'.all iceOk with
        | false => rw [hc] at h; cases h
        | true =>
          rw [hc] at h
          simp only [cond_true, Option.some.injEq, Prod.mk.injEq] at h
          obtain ⟨rfl, rfl, rfl, rfl⟩ := h
          exact ⟨rfl, hb, hc⟩
      · cases h
  · cases h

theorem argsK_length : ∀ (bs : List Bool) (args : List IV), (argsK hr bs args).1.length = args.length
  | _, [] => rfl
  | bs, x :: r => by
    simp only [argsK]
    split <;> simp [argsK_length bs.tail r]

/-- Each argument as it is told: iced, or settled. -/
theorem argsK_get : ∀ (bs : List Bool) (args : List IV) (j : Nat) (c : IV), (argsK hr bs args).1[j]? = some c → ∃ x, args[j]? = some x ∧
    ((∃ i off ty cs, x = .c (.ref i off) ∧ c = .c (.psnap cs off) ∧ (i, ty, cs) ∈ (argsK hr bs args).2.2) ∨ (c = settleIV hr x ∧ ∀ p, p ∈ freezeIV hr x → p ∈ (argsK hr bs args).2.1))
  | _, [], j, c, h => by simp [argsK] at h
  | bs, x :: r, j, c, h => by
    simp only [argsK] at h ⊢
    split at h
    · rename_i i off ty cs hi
      obtain ⟨rfl, h1, h2⟩ := iceArg_some hi
      cases j with
      | zero =>
        simp at h; subst h
        exact ⟨_, rfl, .inl ⟨i, off, ty, cs, rfl, rfl, by simp⟩⟩
      | succ j =>
        obtain ⟨y, hy, hor⟩ := argsK_get bs.tail r j c (by simpa using h)
        refine ⟨y, by simpa using hy, hor.imp (fun ⟨a, b, d, e, q1, q2, q3⟩ => ⟨a, b, d, e, q1, q2, by simp [q3]⟩) fun ⟨q1, q2⟩ => ⟨q1, q2⟩⟩
    · cases j with
      | zero =>
        simp at h; subst h
        exact ⟨_, rfl, .inr ⟨rfl, fun p hp => by simp [hp]⟩⟩
      | succ j =>
        obtain ⟨y, hy, hor⟩ := argsK_get bs.tail r j c (by simpa using h)
        refine ⟨y, by simpa using hy, hor.imp (fun ⟨a, b, d, e, q1, q2, q3⟩ => ⟨a, b, d, e, q1, q2, q3⟩) fun ⟨q1, q2⟩ => ⟨q1, fun p hp => by simp [q2 p hp]⟩⟩

theorem argsK_ups : ∀ (bs : List Bool) (args : List IV), (∀ p, p ∈ (argsK hr bs args).2.1 → ∃ x, x ∈ args ∧ p ∈ freezeIV hr x) ∧ (∀ p, p ∈ (argsK hr bs args).2.2 → hr p.1 = some (.cells p.2.1 p.2.2) ∧ p.2.2.all iceOk = true)
  | _, [] => ⟨fun p hp => by simp [argsK] at hp, fun p hp => by simp [argsK] at hp⟩
  | bs, x :: r => by
    obtain ⟨i1, i2⟩ := argsK_ups bs.tail r
    simp only [argsK]
    split
    · rename_i i off ty cs hi
      obtain ⟨rfl, h1, h2⟩ := iceArg_some hi
      refine ⟨fun p hp => ?_, fun p hp => ?_⟩
      · obtain ⟨y, hy, hp⟩ := i1 p hp
        exact ⟨y, List.mem_cons_of_mem _ hy, hp⟩
      · rcases List.mem_cons.1 hp with rfl | hp
        · exact ⟨h1, h2⟩
        · exact i2 p hp
    · refine ⟨fun p hp => ?_, i2⟩
      rcases List.mem_append.1 hp with hp | hp
      · exact ⟨x, List.mem_cons_self .., hp⟩
      · obtain ⟨y, hy, hp⟩ := i1 p hp
        exact ⟨y, List.mem_cons_of_mem _ hy, hp⟩

theorem fz_cells {fz : List (Nat × Option Box)} (hf : ∀ p, p ∈ fz → Fz h p) {i ty : Nat} {cs : List IC} (hb : h i = some (.cells ty cs)) : updMany h fz i = some (.cells ty cs) := by
  rw [updMany_other fz h i (fun p hp e => ?_)]
  · exact hb
  · obtain ⟨ty', t, xs, fr, h1, _⟩ := hf p hp
    rw [e, hb] at h1; cases h1

theorem callK_sound (hcfg : CfgOK P cfg) (rel : HRel M B O x h u w) (hsub : ∀ i b, hr i = some b → h i = some b) {g : FuncId} {args : List IV} {us : Array Value} (hs : us.size = args.length)
    (ha : ∀ j c, args[j]? = some c → IVRel x w (us.getD j undef) c) (H : callK cfg hr k g args = some r) :
    ∃ out, k out = some r ∧ out.news = [] ∧ (∀ w, (callFunc g us).run P w = .ok (.enter g us) w) ∧
      Calls P g us w fun e w' => ∃ v x', e = .returned v ∧ Ext x w x' w' ∧ Fr M B w w' ∧ HRel M B O x' (updMany h out.ups) u w' ∧ IVRel x' w' v out.v := by
  unfold callK at H
  obtain ⟨sp, hsp, H1⟩ := bindK_some H
  obtain ⟨_, H2⟩ := need_some H1
  have hS := hcfg.spec _ _ hsp
  obtain ⟨res, hdet, hret⟩ := hS.ret _ _ _ H2
  have H3 := H2
  rw [hdet] at H3
  obtain ⟨hu1, hu2⟩ := argsK_ups (hr := hr) sp.1 args
  have hfzs : ∀ p, p ∈ (argsK hr sp.1 args).2.1 → Fz h p := fun p hp => by
    obtain ⟨y, _, hp⟩ := hu1 p hp
    cases y with
    | c c => exact freezeN_fz hsub 6 c p hp
    | agg cs =>
      obtain ⟨c, _, hc⟩ := (mem_foldr_app _ _ _).1 hp
      exact freezeN_fz hsub 6 c p hc
    | tup => simp [freezeIV] at hp
  obtain ⟨x1, hfz, rel1⟩ := rel.frozen (argsK hr sp.1 args).2.1 hfzs
  obtain ⟨x2, he2, rel2, hg2, hps⟩ := HRel.iced (argsK hr sp.1 args).2.2 x1 _ rel1 (fun p hp => .inl ⟨fz_cells hfzs (hsub _ _ (hu2 p hp).1), fun c hc => iceOk_free (List.all_eq_true.1 (hu2 p hp).2 c hc)⟩)
  have hcall := hret w us x2.ok (fun b o hb => rel2.old b o (rel2.okp b o hb)) rel2.laid (by rw [argsK_length]; exact hs) (fun j c hc => by
    obtain ⟨y, hy, hor⟩ := argsK_get (hr := hr) sp.1 args j c hc
    rcases hor with ⟨i, off, ty, cs, rfl, rfl, hm⟩ | ⟨rfl, hp⟩
    · have h1 := iv_c (ha j _ hy)
      have h2 := hps _ hm (us.getD j undef) off (h1.ext hfz.ext)
      have hfr := psnap_free h2
      exact .c _ _ (h2.free hfr (fun _ _ h => h) (fun b o hb => rel2.old b o hb))
    · exact (settleIV_sound (K := fun b _ => b < w.heap.size) rel hsub hfz rel1.old (fun _ _ _ _ _ _ _ hk _ => hk) hp (ha j _ hy)).wide he2.ok)
  cases hsc : scalarV res with
  | true =>
    rw [hsc, cond_true] at H3
    refine ⟨_, H3, rfl, fun w => hS.call _ _, hcall.mono ?_⟩
    rintro e w' ⟨v, rfl, hb, hv⟩
    obtain ⟨e1, e2, e3⟩ := rel.called hb
    exact ⟨v, _, rfl, e1, e2, e3, scalarV_tell hv hsc⟩
  | false =>
    rw [hsc, cond_false] at H3
    refine ⟨_, H3, rfl, fun w => hS.call _ _, hcall.mono ?_⟩
    rintro e w' ⟨v, rfl, hb, hv⟩
    obtain ⟨e1, e2, e3⟩ := rel2.called hb
    rw [updMany_append]
    refine ⟨v, _, rfl, (hfz.ext.trans he2).trans e1, e2, e3, IVRel.ext (x' := ⟨x2.g, okNew x2.ok w w', okNew x2.okp w w'⟩) (w' := w') ?_ hv⟩
    refine ⟨fun id q h => ?_, fun _ _ h => h, fun b o h => ?_, fun _ _ _ => rfl⟩
    · simp [inside] at h
    · exact h.imp (rel2.okp b o) fun h => h

end
end Go.Proofs.Ytdoilggfajngiaa.VE
