/-
  A call of a function that only computes: its contract; what it is handed; and each operation, whatever it is.
-/
import Derived.Test.YtnmkcfcodhbanaaVL
namespace Go.Proofs.Ytnmkcfcodhbanaa.VE
open Go Go.RowKit

def outside (ok : Nat → Nat → Prop) (w : World) : Xs := ⟨fun _ => none, ok, fun b _ => b < w.heap.size⟩
def okNew (ok : Nat → Nat → Prop) (w w' : World) : Nat → Nat → Prop := fun b o => ok b o ∨ (w.heap.size ≤ b ∧ b < w'.heap.size)
def inside (ok : Nat → Nat → Prop) : Xs := ⟨fun _ => none, ok, ok⟩

/-- Handed such arguments, in whatever world, the function answers such a result, and turns nothing that was there. -/
def Returns (P : Program) (g : FuncId) (args : List IV) (res : IV) : Prop :=
  ∀ (w : World) (us : Array Value) (ok : Nat → Nat → Prop), (∀ b o, ok b o → b < w.heap.size) → us.size = args.length →
    (∀ j c, args[j]? = some c → IVRel (outside ok w) w (us.getD j undef) c) →
    Calls P g us w fun e w' => ∃ v, e = .returned v ∧ Below w.heap.size w w' ∧ IVRel (inside (okNew ok w w')) w' v res

structure SpecOK (P : Program) (g : FuncId) (sp : ISpec) : Prop where
  call : ∀ args w, (callFunc g args).run P w = .ok (.enter g args) w
  ret : ∀ args k r, sp args k = some r → ∃ res, (∀ k', sp args k' = k' res []) ∧ Returns P g args res

structure CfgOK (P : Program) (cfg : Cfg) : Prop where
  ty : TyOK P cfg.ty
  mixed : P.follows .mixedOrders = true
  spec : ∀ g s, cfg.spec g = some s → SpecOK P g s.2

section
variable {P : Program} {cfg : Cfg} {M : Nat → Prop} {B key : Nat} {O : Nat → Nat → Prop} {x : Xs} {h hr : Nat → Option Box} {u : Nat → Bool} {w : World} {k : Out → R} {r : IV × List IC}

theorem mem_foldr_app {α β : Type} (f : α → List β) : ∀ (l : List α) (p : β), p ∈ l.foldr (fun c r => f c ++ r) [] ↔ ∃ c, c ∈ l ∧ p ∈ f c
  | [], p => by simp
  | a :: l, p => by
    simp only [List.foldr_cons, List.mem_append, mem_foldr_app f l p, List.mem_cons, or_and_right, exists_or, exists_eq_left]

theorem freezeN_fz (hsub : ∀ i b, hr i = some b → h i = some b) : ∀ (n : Nat) (c : IC) (p : Nat × Option Box), p ∈ freezeN hr n c → Fz h p
  | 0, _, _, hp => by simp [freezeN] at hp
  | n + 1, c, p, hp => by
    unfold freezeN at hp
    cases c with
    | sref i =>
      simp only at hp
      cases hb : hr i with
      | none => simp [hb] at hp
      | some b =>
        cases b with
        | cells => simp [hb] at hp
        | arr ty t xs fr =>
          cases fr with
          | true => simp [hb] at hp
          | false => simp [hb] at hp; subst hp; exact ⟨ty, t, xs, false, hsub _ _ hb, rfl⟩
    | ref i off =>
      simp only at hp
      cases hb : hr i with
      | none => simp [hb] at hp
      | some b =>
        cases b with
        | arr => simp [hb] at hp
        | cells ty cs =>
          simp only [hb] at hp
          obtain ⟨c, _, hc⟩ := (mem_foldr_app _ _ _).1 hp
          exact freezeN_fz hsub n c p hc
    | eref i wd j off =>
      simp only at hp
      cases hb : hr i with
      | none => simp [hb] at hp
      | some b =>
        cases b with
        | cells => simp [hb] at hp
        | arr ty t xs fr =>
          cases fr with
          | true => simp [hb] at hp
          | false => simp [hb] at hp; subst hp; exact ⟨ty, t, xs, false, hsub _ _ hb, rfl⟩
    | fn f cap =>
      simp only at hp
      obtain ⟨c, _, hc⟩ := (mem_foldr_app _ _ _).1 hp
      exact freezeN_fz hsub n c p hc
    | _ => simp at hp

theorem settleN_sound (rel : HRel M B O x h u w) (hsub : ∀ i b, hr i = some b → h i = some b) {fz : List (Nat × Option Box)} {x' : Xs} (hf : Frozen x w h fz x') (hold : ∀ b o, x'.okp b o → b < w.heap.size) :
    ∀ (n : Nat) (c : IC) (v : Value), (∀ p, p ∈ freezeN hr n c → p ∈ fz) → VRel x w v c → VRel (outside x'.ok w) w v (settleN hr n c) ∧ Free (settleN hr n c)
  | 0, _, v, _, _ => ⟨.junk v, .junk⟩
  | n + 1, c, v, hp, hv => by
    have hokx : ∀ b o, x.okp b o → (outside x'.ok w).okp b o := fun b o hb => rel.old b o hb
    unfold freezeN at hp
    unfold settleN
    cases c with
    | v y => cases hv with | v _ h1 => exact ⟨.v _ h1, .v _⟩
    | junk => exact ⟨.junk v, .junk⟩
    | sl t xs => exact ⟨hv.free (.sl _ _) hf.ext.ok hokx, .sl _ _⟩
    | snap cs off =>
      have hfr : Free (.snap cs off) := by cases hv with | snap _ _ _ _ _ hfree => exact .snap _ _ hfree
      exact ⟨hv.free hfr hf.ext.ok hokx, hfr⟩
    | own => exact ⟨.junk v, .junk⟩
    | anew => exact ⟨.junk v, .junk⟩
    | emp => exact ⟨.junk v, .junk⟩
    | sref i =>
      simp only at hp ⊢
      cases hb : hr i with
      | none => exact ⟨.junk v, .junk⟩
      | some b =>
        cases b with
        | cells => exact ⟨.junk v, .junk⟩
        | arr ty t xs fr =>
          simp only [hb] at hp ⊢
          have h1 := hf.tell i ty t xs fr (hsub _ _ hb) (by cases fr with | true => exact .inr rfl | false => exact .inl (hp _ (by simp))) v hv
          exact ⟨h1.free (.sl _ _) (fun _ _ h => h) hold, .sl _ _⟩
    | ref i off =>
      simp only at hp ⊢
      cases hb : hr i with
      | none => exact ⟨.junk v, .junk⟩
      | some b =>
        cases b with
        | arr => exact ⟨.junk v, .junk⟩
        | cells ty cs =>
          simp only [hb] at hp ⊢
          obtain ⟨q, hq, hbr⟩ := rel.box _ _ (hsub _ _ hb)
          cases hv with
          | ref _ _ q' b hg hblk =>
            rw [hq] at hg; injection hg with hg; subst hg
            cases hbr with
            | cells _ _ b' vs e hq' hw hs hrel =>
              rw [hblk] at hq'; injection hq' with hq'; subst hq'
              have hall : ∀ c, c ∈ cs.map (settleN hr n) → Free c := by
                intro c hc
                obtain ⟨d, hd, rfl⟩ := List.mem_map.1 hc
                obtain ⟨j, hj⟩ := List.mem_iff_getElem?.1 hd
                exact (settleN_sound rel hsub hf hold n d _ (fun p hpd => hp p ((mem_foldr_app _ _ _).2 ⟨d, hd, hpd⟩)) (hrel j d hj)).2
              refine ⟨?_, .snap _ _ hall⟩
              have hgo : VRel (outside x'.ok w) w (.pointer (some ⟨b, 0 + off, none⟩)) (.snap (cs.map (settleN hr n)) off) := by
                refine .snap _ off b 0 (fun j => vs.getD j undef) hall (fun j hj => ⟨lt_of_some hw, ?_⟩) (fun j c hc => ?_)
                · rw [List.length_map] at hj
                  rw [Nat.zero_add, cell_of hw]
                  have : j < vs.size := by omega
                  simp [Array.getD, this]
                · rw [List.getElem?_map] at hc
                  cases hj : cs[j]? with
                  | none => simp [hj] at hc
                  | some d =>
                    simp [hj] at hc; subst hc
                    exact (settleN_sound rel hsub hf hold n d _ (fun p hpd => hp p ((mem_foldr_app _ _ _).2 ⟨d, List.mem_of_getElem? hj, hpd⟩)) (hrel j d hj)).1
              rw [Nat.zero_add] at hgo
              exact hgo
    | eref i wd j off =>
      simp only at hp ⊢
      cases hb : hr i with
      | none => exact ⟨.junk v, .junk⟩
      | some b =>
        cases b with
        | cells => exact ⟨.junk v, .junk⟩
        | arr ty t xs fr =>
          simp only [hb] at hp ⊢
          split
          case isFalse => exact ⟨.junk v, .junk⟩
          rename_i hwd
          subst hwd
          obtain ⟨q, hq, hbr⟩ := rel.box _ _ (hsub _ _ hb)
          have hall : ∀ c, c ∈ enc t (rdEl t xs j) → Free c := enc_free t _
          refine ⟨?_, .snap _ _ hall⟩
          cases hv with
          | eref _ _ _ _ q' b hg hblk hi =>
            rw [hq] at hg; injection hg with hg; subst hg
            cases hbr with
            | none _ _ _ g1 => rw [hblk] at g1; cases g1
            | arr _ _ _ _ b' vs e hq' hw hl hc hs hrel hfr =>
              rw [hblk] at hq'; injection hq' with hq'; subst hq'
              have hix : j < xs.length := by omega
              refine .snap _ off b (j * width t) (fun m => vs.getD (j * width t + m) undef) hall (fun m hm => ⟨lt_of_some hw, ?_⟩) (fun m c hc' => ?_)
              · rw [enc_length] at hm
                have hlt : j * width t + m < vs.size := by
                  rw [hs]
                  have : (j + 1) * width t ≤ q.cap * width t := Nat.mul_le_mul_right _ (by omega)
                  rw [Nat.add_mul] at this; omega
                rw [cell_of hw]
                simp [Array.getD, hlt]
              · have := hrel j _ (rdEl_get hix) m c hc'
                exact (this.ext hf.ext).free (hall c (List.mem_of_getElem? hc')) (fun _ _ h => h) hold
    | fn f cap =>
      simp only at hp ⊢
      cases hv with
      | fn _ _ caps hs hel =>
        have hall : ∀ c, c ∈ cap.map (settleN hr n) → Free c := by
          intro c hc
          obtain ⟨d, hd, rfl⟩ := List.mem_map.1 hc
          obtain ⟨j, hj⟩ := List.mem_iff_getElem?.1 hd
          exact (settleN_sound rel hsub hf hold n d _ (fun p hpd => hp p ((mem_foldr_app _ _ _).2 ⟨d, hd, hpd⟩)) (hel j d hj)).2
        refine ⟨.fn f _ caps (by simpa using hs) fun j c hc => ?_, .fn _ _ hall⟩
        rw [List.getElem?_map] at hc
        cases hj : cap[j]? with
        | none => simp [hj] at hc
        | some d =>
          simp [hj] at hc; subst hc
          exact (settleN_sound rel hsub hf hold n d _ (fun p hpd => hp p ((mem_foldr_app _ _ _).2 ⟨d, List.mem_of_getElem? hj, hpd⟩)) (hel j d hj)).1

theorem settleIV_sound (rel : HRel M B O x h u w) (hsub : ∀ i b, hr i = some b → h i = some b) {fz : List (Nat × Option Box)} {x' : Xs} (hf : Frozen x w h fz x') (hold : ∀ b o, x'.okp b o → b < w.heap.size)
    {a : IV} {A : Value} (hp : ∀ p, p ∈ freezeIV hr a → p ∈ fz) (ha : IVRel x w A a) : IVRel (outside x'.ok w) w A (settleIV hr a) := by
  cases ha with
  | c _ c hv => exact .c _ _ (settleN_sound rel hsub hf hold 4 c A hp hv).1
  | agg us cs hs hv =>
    refine .agg _ _ (by simpa using hs) fun j c hc => ?_
    rw [List.getElem?_map] at hc
    cases hj : cs[j]? with
    | none => simp [hj] at hc
    | some d =>
      simp [hj] at hc; subst hc
      exact (settleN_sound rel hsub hf hold 4 d _ (fun p hpd => hp p ((mem_foldr_app _ _ _).2 ⟨d, List.mem_of_getElem? hj, hpd⟩)) (hv j d hj)).1
  | tup => exact .c _ _ (.junk _)

/-- Behind a call that turns nothing that was there. -/
theorem HRel.called (rel : HRel M B O x h u w) {w' : World} (hb : Below w.heap.size w w') :
    let y : Xs := ⟨x.g, okNew x.ok w w', okNew x.okp w w'⟩
    Ext x w y w' ∧ Fr M B w w' ∧ HRel M B O y h u w' := by
  intro y
  have he : Ext x w y w' := ⟨fun _ _ h => h, fun _ _ h => .inl h, fun _ _ h => .inl h, fun b o hbo => hb.cell (p := ⟨b, o, none⟩) (hbo.elim (rel.old b o) fun h => rel.old b o (rel.okp b o h))⟩
  have hlt : ∀ i b q k, h i = some b → x.g i = some q → q.blk = some k → k < w.heap.size := by
    intro i b q k hi hq hk
    obtain ⟨q', hq', hbr⟩ := rel.box i b hi
    rw [hq] at hq'; injection hq' with hq'; subst hq'
    obtain ⟨_, _, hw⟩ := hbr.blk hk
    exact lt_of_some hw
  refine ⟨he, ⟨hb.os, hb.tape, hb.output, hb.size, fun k hk _ => hb.block k (by have := rel.big; omega)⟩, ?_, rel.apart, ?_, rel.used, ?_, ?_, ?_, ?_⟩
  · intro i b hi
    obtain ⟨q, hq, hbr⟩ := rel.box i b hi
    exact ⟨q, hq, hbr.ext he fun k hk => hb.block k (hlt i b q k hi hq hk)⟩
  · intro i bi qi k hi hh hqi hki
    obtain ⟨p1, p2⟩ := rel.own i bi qi k hi hh hqi hki
    refine ⟨p1, fun o ho => ?_⟩
    rcases ho with ho | ⟨ho, _⟩
    · exact p2 o ho
    · have := hlt i bi qi k hi hqi hki; omega
  · exact fun b o hbo => hbo.imp (rel.okp b o) fun h => h
  · intro b o hbo
    rcases hbo with hbo | ⟨_, hbo⟩
    · have h1 := rel.old b o hbo
      have h2 := hb.size
      omega
    · exact hbo
  · have h1 := rel.big
    have h2 := hb.size
    omega
  · intro b o hbo
    rcases hbo with hbo | ⟨hbo, _⟩
    · exact rel.okb b o hbo
    · have h1 := rel.big
      exact .inr (.inl (by omega))

theorem callK_sound (hcfg : CfgOK P cfg) (rel : HRel M B O x h u w) (hsub : ∀ i b, hr i = some b → h i = some b) {g : FuncId} {args : List IV} {us : Array Value} (hs : us.size = args.length)
    (ha : ∀ j c, args[j]? = some c → IVRel x w (us.getD j undef) c) (H : callK cfg hr k g args = some r) :
    ∃ out, k out = some r ∧ out.news = [] ∧ (∀ w, (callFunc g us).run P w = .ok (.enter g us) w) ∧
      Calls P g us w fun e w' => ∃ v x', e = .returned v ∧ Ext x w x' w' ∧ Fr M B w w' ∧ HRel M B O x' (updMany h out.ups) u w' ∧ IVRel x' w' v out.v := by
  unfold callK at H
  obtain ⟨sp, hsp, H1⟩ := bindK_some H
  obtain ⟨_, H2⟩ := need_some H1
  have hS := hcfg.spec _ _ hsp
  obtain ⟨res, hdet, hret⟩ := hS.ret _ _ _ H2
  have H3 := H2
  rw [hdet] at H3
  refine ⟨_, H3, rfl, fun w => hS.call _ _, ?_⟩
  obtain ⟨x1, hfz, rel1⟩ := rel.frozen (args.foldr (fun x r => freezeIV hr x ++ r) []) (fun p hp => by
    obtain ⟨y, _, hp⟩ := (mem_foldr_app _ _ _).1 hp
    cases y with
    | c c => exact freezeN_fz hsub 4 c p hp
    | agg cs =>
      obtain ⟨c, _, hc⟩ := (mem_foldr_app _ _ _).1 hp
      exact freezeN_fz hsub 4 c p hc
    | tup => simp [freezeIV] at hp)
  refine (hret w us x1.ok (fun b o hb => rel1.old b o (rel1.okp b o hb)) (by simpa using hs) (fun j c hc => ?_)).mono ?_
  · rw [List.getElem?_map] at hc
    cases hj : args[j]? with
    | none => simp [hj] at hc
    | some d =>
      simp [hj] at hc; subst hc
      exact settleIV_sound rel hsub hfz rel1.old (fun p hp => (mem_foldr_app _ _ _).2 ⟨d, List.mem_of_getElem? hj, hp⟩) (ha j d hj)
  · rintro e w' ⟨v, rfl, hb, hv⟩
    obtain ⟨e1, e2, e3⟩ := rel1.called hb
    refine ⟨v, _, rfl, hfz.ext.trans e1, e2, e3, IVRel.ext (x' := ⟨x1.g, okNew x1.ok w w', okNew x1.okp w w'⟩) (w' := w') ?_ hv⟩
    refine ⟨fun id q h => ?_, fun _ _ h => h, fun b o h => ?_, fun _ _ _ => rfl⟩
    · simp [inside] at h
    · exact h.imp (rel1.okp b o) fun h => h

end
end Go.Proofs.Ytnmkcfcodhbanaa.VE
