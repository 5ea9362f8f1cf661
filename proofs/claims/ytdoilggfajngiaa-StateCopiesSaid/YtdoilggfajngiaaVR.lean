/-
  A checkpoint: what is kept stands for what was there.
-/
import Derived.Test.YtdoilggfajngiaaVQ
namespace Go.Proofs.Ytdoilggfajngiaa.VE
open Go Go.RowKit

section
variable {M : Nat → Prop} {B : Nat} {O : Nat → Nat → Prop} {n : Nat} {x y : Xs} {h : Nat → Option Box} {u : Nat → Bool} {w : World}

/-- What lasts over a checkpoint. -/
structure Ext0 (x : Xs) (w : World) (x' : Xs) (w' : World) : Prop where
  ok : ∀ b o, x.ok b o → x'.ok b o
  okp : ∀ b o, x.okp b o → x'.okp b o
  cell : ∀ b o, x.okp b o ∨ x.ok b o → w'.cell? ⟨b, o, none⟩ = w.cell? ⟨b, o, none⟩

theorem Ext.zero {x' : Xs} {w' : World} (e : Ext x w x' w') : Ext0 x w x' w' := ⟨e.ok, e.okp, e.cell⟩
theorem Ext0.refl (x : Xs) (w : World) : Ext0 x w x w := (Ext.refl x w).zero
theorem Ext0.trans {x y z : Xs} {w u v : World} (h : Ext0 x w y u) (k : Ext0 y u z v) : Ext0 x w z v :=
  ⟨fun b o hb => k.ok b o (h.ok b o hb), fun b o hb => k.okp b o (h.okp b o hb),
   fun b o hb => (k.cell b o (hb.imp (h.okp b o) (h.ok b o))).trans (h.cell b o hb)⟩

theorem keepH_sound {k : St → R} {r : IV × List (Nat × Box)} {L : Live} {objs : List Nat} {t : Nat → IV} {a : Act} (rel : HRel M B O x h u w) (hT : ∀ i, IVRel x w (a.tmps.getD i undef) (t i)) (hs : a.tmps.size = n) (hd : a.defers = [])
    (H : keepH objs h t L k = some r) : ∃ σ' x', k σ' = some r ∧ Rel M B O n x' σ' a w ∧ x'.ok = x.ok ∧ x'.okp = x.okp ∧ ∀ i, i ∈ objs → x'.g i = x.g i := by
  unfold keepH at H
  split at H
  · rename_i ts b1 l1 b2 l2 h1 h2
    generalize hbs : b1 ++ b2 = bs at H
    generalize hls : (l1 ++ l2) ++ objs = ls at H
    cases hc : (nodup (bs.map (·.1)) && nodup (oldsOf bs) && ls.all (fun i => bs.any (keptAs i))) with
    | false => rw [hc] at H; cases H
    | true =>
      rw [hc] at H
      simp only [cond_true] at H
      obtain ⟨hcut, H⟩ := cutK_some H
      simp only [Bool.and_eq_true] at hc
      obtain ⟨⟨n1, n2⟩, n3⟩ := hc
      have m1 := nodup_spec n1
      have m2 := nodup_spec n2
      have fit : Fit x (keptX x bs) bs ls := keptFit m1 n3
      have hobj : ∀ i, i ∈ objs → (keptX x bs).g i = x.g i := fun i hi => fit.ids i (by rw [← hls]; exact List.mem_append_right _ hi)
      have fit0 : Fit x (keptX x bs) (b1 ++ b2) (l1 ++ l2) := by
        rw [hbs]
        exact ⟨fit.toNamed, fit.ent, fun i hi => fit.ids i (by rw [← hls]; exact List.mem_append_left _ hi)⟩
      obtain ⟨t1, t2⟩ := keepTmps_sound (T := fun i => a.tmps.getD i undef) rel hT L.tmps hcut h1 fit0.left
      have t3 := keepBoxes_sound rel L.boxes h2 fit0.right
      have good : ∀ e, e ∈ bs → GoodE x (keptX x bs) h w e := fun e he => by
        rw [← hbs] at he
        exact (List.mem_append.1 he).elim (t2 e) (t3 e)
      refine ⟨_, keptX x bs, H, ⟨hs, fun i => ?_, rel.kept m1 m2 good, hd⟩, rfl, rfl, hobj⟩
      show IVRel _ w _ (ofList (.c .junk) ts i)
      rcases ofList_mem (d := (IV.c .junk)) (l := ts) (j := i) with ⟨p, hp, rfl, p2⟩ | ⟨_, p2⟩
      · rw [p2]; exact t1 p hp
      · rw [p2]; exact .c _ _ (.junk _)
  · cases H

theorem keepFz_fz {σ : St} {L : Live} {p : Nat × Option Box} (hp : p ∈ keepFz σ L) : Fz σ.h p := by
  unfold keepFz at hp
  rcases List.mem_append.1 hp with hp | hp
  · obtain ⟨c, _, hc⟩ := (mem_foldr_app _ _ _).1 hp
    split at hc
    · obtain ⟨d, _, hd⟩ := mem_freezeAll.1 hc
      exact freezes_fz (fun _ _ h => h) hd
    · obtain ⟨d, _, hd⟩ := (mem_foldr_app _ _ _).1 hc
      split at hd
      · exact freezes_fz (fun _ _ h => h) hd
      · cases hd
    · cases hc
  · obtain ⟨c, _, hc⟩ := (mem_foldr_app _ _ _).1 hp
    split at hc
    · obtain ⟨d, _, hd⟩ := (mem_foldr_app _ _ _).1 hc
      split at hd
      · exact freezes_fz (fun _ _ h => h) hd
      · cases hd
    · cases hc

theorem keepK_sound {k : St → R} {r : IV × List (Nat × Box)} {L : Live} {objs : List Nat} {σ : St} {a : Act} (rel : Rel M B O n x σ a w) (H : keepK objs L σ k = some r) :
    ∃ σ' x', k σ' = some r ∧ Rel M B O n x' σ' a w ∧ Ext0 x w x' w ∧ ∀ i, i ∈ objs → x'.g i = x.g i := by
  obtain ⟨x1, e1, r1, _, g1⟩ := HRel.freezeAll (keepFz σ L) x σ.h rel.heap fun p hp => keepFz_fz hp
  obtain ⟨σ', x', h1, h2, h3, h4, h5⟩ := keepH_sound r1 (fun i => (rel.tmps i).ext e1) rel.size rel.defers H
  refine ⟨σ', x', h1, h2, ⟨fun b o h => ?_, fun b o h => ?_, fun _ _ _ => rfl⟩, fun i hi => (h5 i hi).trans (by rw [g1])⟩
  · rw [h3]; exact e1.ok b o h
  · rw [h4]; exact e1.okp b o h

end
end Go.Proofs.Ytdoilggfajngiaa.VE
