/-
  A call that is handed boxes is the model's.
-/
import Derived.Test.YtdoilggfajngiaaVMb
namespace Go.Proofs.Ytdoilggfajngiaa.VE
open Go Go.RowKit

section
variable {P : Program} {cfg : Cfg} {M : Nat → Prop} {B key : Nat} {O : Nat → Nat → Prop} {x y : Xs} {h hr : Nat → Option Box} {u : Nat → Bool} {w w' : World} {k : Out → R} {r : IV × List (Nat × Box)}

theorem plainAs_length (T : List (Nat × LK)) : ∀ (i : Nat) (l : List IV), (plainAs T i l).length = l.length
  | _, [] => rfl
  | i, a :: l => by simp [plainAs, plainAs_length T (i + 1) l]

theorem plainAs_get (T : List (Nat × LK)) : ∀ (i : Nat) (l : List IV) (j : Nat) (c : IV), (plainAs T i l)[j]? = some c → ∃ a, l[j]? = some a ∧ (c = a ∨ c = .c .junk)
  | _, [], j, c, hc => by simp [plainAs] at hc
  | i, a :: l, j, c, hc => by
    cases j with
    | zero =>
      simp only [plainAs, List.getElem?_cons_zero, Option.some.injEq] at hc
      subst hc
      refine ⟨a, rfl, ?_⟩
      cases T.any fun p => Nat.beq p.1 (800 + i) with
      | true => exact .inr rfl
      | false => exact .inl rfl
    | succ j => exact plainAs_get T (i + 1) l j c (by simpa [plainAs] using hc)

theorem toldAs_length (ts : List (Nat × IV)) : ∀ (i : Nat) (l : List IV), (toldAs ts i l).length = l.length
  | _, [] => rfl
  | i, a :: l => by simp [toldAs, toldAs_length ts (i + 1) l]

theorem toldAs_get (ts : List (Nat × IV)) : ∀ (i : Nat) (l : List IV) (j : Nat) (c : IV), (toldAs ts i l)[j]? = some c → ∃ a, l[j]? = some a ∧ (c = a ∨ ∃ p, p ∈ ts ∧ p.1 = 800 + (i + j) ∧ c = p.2)
  | _, [], j, c, hc => by simp [toldAs] at hc
  | i, a :: l, j, c, hc => by
    cases j with
    | zero =>
      simp only [toldAs, List.getElem?_cons_zero, Option.some.injEq] at hc
      refine ⟨a, rfl, ?_⟩
      split at hc
      · rename_i p hp
        exact .inr ⟨p, List.mem_of_find?_eq_some hp, by simpa using Nat.eq_of_beq_eq_true (by simpa using List.find?_some hp), hc.symm⟩
      · exact .inl hc.symm
    | succ j =>
      obtain ⟨b, hb, hor⟩ := toldAs_get ts (i + 1) l j c (by simpa [toldAs] using hc)
      exact ⟨b, by simpa using hb, hor.imp (fun h => h) fun ⟨p, p1, p2, p3⟩ => ⟨p, p1, by omega, p3⟩⟩

theorem enc_flat : ∀ {t : Ty}, flatTy t = true → ∀ (e : El t) (c : IC), c ∈ enc t e → flatC c = true
  | .int _, _, _, c, hc => by simp [enc] at hc; subst hc; rfl
  | .bool, _, _, c, hc => by simp [enc] at hc; subst hc; rfl
  | .str, _, _, c, hc => by simp [enc] at hc; subst hc; rfl
  | .sl _, h, _, _, _ => by cases h
  | .prod a b, h, e, c, hc => by
    simp only [flatTy, Bool.and_eq_true] at h
    simp only [enc, List.mem_append] at hc
    exact hc.elim (enc_flat h.1 _ c) (enc_flat h.2 _ c)
  | .pint _, h, _, _, _ => by cases h
  | .addr, h, _, _, _ => by cases h

theorem VRel.flat {x x'' : Xs} {w : World} (hg : ∀ i, x''.g i = x.g i) {u : Value} {c : IC} (hf : flatC c = true) (h : VRel x w u c) : VRel x'' w u c := by
  cases h with
  | v u h => exact .v u h
  | sref id q hq => exact .sref id q ((hg id).trans hq)
  | ref id off q b hq hb => exact .ref id off q b ((hg id).trans hq) hb
  | _ => cases hf

theorem BRel.flat {x x'' : Xs} {w : World} (hg : ∀ i, x''.g i = x.g i) {q : Gh} {b : Box} (hf : flatBx b = true) (h : BRel x w q b) : BRel x'' w q b := by
  cases h with
  | cells ty cs b vs e h1 h2 h3 h4 => exact .cells ty cs b vs e h1 h2 h3 fun j c hc => (h4 j c hc).flat hg (List.all_eq_true.1 hf c (List.mem_of_getElem? hc))
  | none ty t fr h1 h2 h3 => exact .none ty t fr h1 h2 h3
  | arr ty t xs fr b vs e h1 h2 h3 h4 h5 h6 h7 =>
    cases fr with
    | true => cases hf
    | false => exact .arr ty t xs false b vs e h1 h2 h3 h4 h5 (fun i el hi j c hc => (h6 i el hi j c hc).flat hg (enc_flat hf el c (List.mem_of_getElem? hc))) fun h => by cases h
  | _ => cases hf

theorem IVRel.flat1 {x x'' : Xs} {w : World} (hg : ∀ i, x''.g i = x.g i) {u : Value} {c : IV} (hf : (match c with | .c c => flatC c | .agg cs => cs.all flatC | .tup _ => false) = true) (h : IVRel x w u c) : IVRel x'' w u c := by
  cases h with
  | c u c h => exact .c u c (h.flat hg hf)
  | agg us cs hs h => exact .agg us cs hs fun j c hc => (h j c hc).flat hg (List.all_eq_true.1 hf c (List.mem_of_getElem? hc))
  | tup => cases hf

theorem IVRel.flat {x x'' : Xs} {w : World} (hg : ∀ i, x''.g i = x.g i) {u : Value} {c : IV} (hf : flatIV c = true) (h : IVRel x w u c) : IVRel x'' w u c := by
  cases h with
  | c u c h => exact .c u c (h.flat hg hf)
  | agg us cs hs h => exact .agg us cs hs fun j c hc => (h j c hc).flat hg (List.all_eq_true.1 hf c (List.mem_of_getElem? hc))
  | tup us vs hs h => exact .tup us vs hs fun j c hc => (h j c hc).flat1 hg (List.all_eq_true.1 hf c (List.mem_of_getElem? hc))

/-- Boxes that tell of nothing else fit without what is told elsewhere. -/
theorem HRel.thin {MB : Nat → Prop} {N : Nat} {O1 O2 : Nat → Nat → Prop} {x' : Xs} {h : Nat → Option Box} {u : Nat → Bool} {w' : World} (rel' : HRel MB N O1 x' h u w') (hf : ∀ i b, h i = some b → flatBx b = true) (hl : ∀ p, p ∈ tabCells → O2 p.1 p.2.1) :
    HRel MB N O2 ⟨x'.g, fun b o => x'.ok b o ∧ (O2 b o ∨ N ≤ b ∨ MB b), x'.okp⟩ h u w' :=
  ⟨fun id b hb => (rel'.box id b hb).imp fun q hq => ⟨hq.1, BRel.flat (x := x') (x'' := ⟨x'.g, fun b o => x'.ok b o ∧ (O2 b o ∨ N ≤ b ∨ MB b), x'.okp⟩) (fun _ => rfl) (hf id b hb) hq.2⟩, rel'.apart, rel'.own, rel'.used, fun b o hb => rel'.okp b o hb.1, rel'.old, rel'.big, fun b o hb => hb.2, fun p hp => ⟨⟨(rel'.laid p hp).1, .inl (hl p hp)⟩, (rel'.laid p hp).2⟩⟩

theorem ofB_mem : ∀ {bx : List (Nat × Box)} {i : Nat} {b : Box}, ofB bx i = some b → ∃ e, e ∈ bx ∧ e.2 = b
  | [], i, b, h => by cases h
  | e :: r, i, b, h => by
    have h : (bif Nat.beq i e.1 then some e.2 else ofB r i) = some b := h
    cases hb : Nat.beq i e.1 with
    | true => rw [hb] at h; exact ⟨e, List.mem_cons_self .., by injection h⟩
    | false =>
      rw [hb] at h
      obtain ⟨e', h1, h2⟩ := ofB_mem (bx := r) h
      exact ⟨e', List.mem_cons_of_mem _ h1, h2⟩

theorem ocallK_sound (hcfg : CfgOK P cfg) (rel : HRel M B O x h u w) (hsub : ∀ i b, hr i = some b → h i = some b) {g : FuncId} {args : List IV} {us : Array Value} (hs : us.size = args.length)
    (ha : ∀ j c, args[j]? = some c → IVRel x w (us.getD j undef) c) (H : ocallK cfg key hr k g args = some r) :
    ∃ out, k out = some r ∧ (∀ w, (callFunc g us).run P w = .ok (.enter g us) w) ∧
      ((∀ i, i ∈ out.news → u i = false) → Calls P g us w fun e w' => ∃ v x', e = .returned v ∧ Ext x w x' w' ∧ Fr M B w w' ∧ HRel M B O x' (updMany h out.ups) (updMany u (out.news.map fun i => (i, true))) w' ∧ IVRel x' w' v out.v) := by
  unfold ocallK at H
  obtain ⟨sp, hsp, H1⟩ := bindK_some H
  obtain ⟨_, H2⟩ := need_some H1
  obtain ⟨⟨ts, bs, ls⟩, hk, H3⟩ := bindK_some H2
  obtain ⟨hcut, H3⟩ := cutK_some H3
  obtain ⟨hc, H4⟩ := test_some H3
  simp only at hc H4
  simp only [Bool.and_eq_true] at hc
  obtain ⟨⟨⟨n1, n2⟩, n3⟩, n4⟩ := hc
  have m1 := nodup_spec n1
  have m2 := nodup_spec n2
  have hls : ls = [] := by simpa using n4
  subst hls
  have hS := hcfg.ospec _ _ hsp
  obtain ⟨res, bx, hdet, hret⟩ := hS.ret _ _ _ _ H4
  rw [hdet] at H4
  obtain ⟨hc2, H5⟩ := test_some H4
  simp only [Bool.and_eq_true] at hc2
  obtain ⟨⟨k1, k2⟩, k3⟩ := hc2
  refine ⟨_, H5, fun w => hS.call _ _, fun hfresh => ?_⟩
  simp only at hfresh
  generalize hA : argsK (fun i => bif (oldsOf bs).any (Nat.beq i) then none else hr i) sp.ice (plainAs (ownT 0 sp.own args) 0 args) = A at hret hfresh ⊢
  -- what is kept
  have relr := rel.sub hsub
  have fit : Fit x (keptX x bs) bs [] := keptFit m1 rfl
  obtain ⟨t1, t2⟩ := keepTmps_sound (T := fun i => us.getD (i - 800) undef) relr (fun i => by
    rw [List.getD_eq_getElem?_getD]
    cases hi : args[i - 800]? with
    | none => exact .c _ _ (.junk _)
    | some c => exact ha _ c hi) (ownT 0 sp.own args) hcut hk fit
  have relk := relr.kept m1 m2 t2
  -- what is told plainly
  have hsub' : ∀ i b, (fun i => bif (oldsOf bs).any (Nat.beq i) then none else hr i) i = some b → hr i = some b ∧ i ∉ oldsOf bs := fun i b hb => by
    simp only at hb
    cases hany : (oldsOf bs).any (Nat.beq i) with
    | true => rw [hany] at hb; cases hb
    | false =>
      rw [hany] at hb
      exact ⟨hb, fun hi => by rw [any_beq.2 hi] at hany; cases hany⟩
  have hsub2 : ∀ i b, (fun i => bif (oldsOf bs).any (Nat.beq i) then none else hr i) i = some b → h i = some b := fun i b hb => hsub _ _ (hsub' i b hb).1
  obtain ⟨hu1, hu2⟩ := argsK_ups (hr := fun i => bif (oldsOf bs).any (Nat.beq i) then none else hr i) sp.ice (plainAs (ownT 0 sp.own args) 0 args)
  have hfr1 : ∀ p, p ∈ A.2.1 → Fz (fun i => bif (oldsOf bs).any (Nat.beq i) then none else hr i) p := fun p hp => by
    obtain ⟨y, _, hp⟩ := hu1 p (by rw [hA]; exact hp)
    cases y with
    | c c => exact freezeN_fz (fun _ _ h => h) 6 c p hp
    | agg cs =>
      obtain ⟨c, _, hc⟩ := (mem_foldr_app _ _ _).1 hp
      exact freezeN_fz (fun _ _ h => h) 6 c p hc
    | tup => simp [freezeIV] at hp
  have hfzs : ∀ p, p ∈ A.2.1 → Fz h p := fun p hp => by
    obtain ⟨ty, t, xs, fr, h1, h2⟩ := hfr1 p hp
    exact ⟨ty, t, xs, fr, hsub2 _ _ h1, h2⟩
  have hice : ∀ p, p ∈ A.2.2 → h p.1 = some (.cells p.2.1 p.2.2) ∧ p.2.2.all iceOk = true ∧ p.1 ∉ oldsOf bs := fun p hp => by
    obtain ⟨h1, h2⟩ := hu2 p (by rw [hA]; exact hp)
    exact ⟨hsub2 _ _ h1, h2, (hsub' _ _ h1).2⟩
  obtain ⟨x1, hfz, rel1⟩ := rel.frozen A.2.1 hfzs
  obtain ⟨x2, he2, rel2, hg2, hps⟩ := HRel.iced A.2.2 x1 _ rel1 (fun p hp => .inl ⟨fz_cells hfzs (hice p hp).1, fun c hc => iceOk_free (List.all_eq_true.1 (hice p hp).2.1 c hc)⟩)
  have hext := hfz.ext.trans he2
  have hsame : ∀ o, o ∈ oldsOf bs → updMany (updMany h A.2.1) (iceUps A.2.2) o = h o := fun o ho => by
    rw [updMany_other (iceUps A.2.2) _ o (fun p hp e => ?_), updMany_other A.2.1 _ o (fun p hp e => ?_)]
    · obtain ⟨ty, t, xs, fr, h1, _⟩ := hfr1 p hp
      exact (hsub' _ _ h1).2 (e ▸ ho)
    · obtain ⟨q, hq, rfl⟩ := List.mem_map.1 hp
      exact (hice q hq).2.2 (e ▸ ho)
  -- the blocks that are lent
  have hbl : ∀ k, blks (keptX x bs) (ofList none (bs.map fun e => (e.1, some e.2.2))) k → ∃ e, e ∈ bs ∧ ∃ o q b, e.2.1 = some o ∧ h o = some b ∧ b.hot = true ∧ x.g o = some q ∧ q.blk = some k := fun k ⟨i, b, q, hi, hq, hkk⟩ => by
    obtain ⟨e, he, rfl, rfl⟩ := ofEnt_some hi
    rw [keptX_g m1 he] at hq
    obtain ⟨q', hq', _, h3⟩ := t2 e he
    rw [hq] at hq'; injection hq' with hq'; subst hq'
    cases ho : e.2.1 with
    | none =>
      rw [ho] at h3
      simp only at h3
      rw [h3] at hkk; cases hkk
    | some o =>
      rw [ho] at h3
      obtain ⟨b, h4, h5⟩ := h3
      have h6 := List.all_eq_true.1 n3 e he
      obtain ⟨q0, hq0, hq1⟩ := gOf_some ho hq
      exact ⟨e, he, o, q0, b, ho, hsub _ _ h4, by rw [h5]; exact h6, hq0, hq1.trans hkk⟩
  have hbl2 : ∀ k, blks (keptX x bs) (ofList none (bs.map fun e => (e.1, some e.2.2))) k → ∃ e, e ∈ bs ∧ ∃ o q b, e.2.1 = some o ∧ updMany (updMany h A.2.1) (iceUps A.2.2) o = some b ∧ b.hot = true ∧ x2.g o = some q ∧ q.blk = some k := fun k hk => by
    obtain ⟨e, he, o, q, b, h1, h2, h3, h4, h5⟩ := hbl k hk
    exact ⟨e, he, o, q, b, h1, (hsame o (mem_olds he h1)).trans h2, h3, hext.g _ _ h4, h5⟩
  have hnot : ∀ k, blks (keptX x bs) (ofList none (bs.map fun e => (e.1, some e.2.2))) k → ∀ o, ¬ x2.okp k o := fun k hk => by
    obtain ⟨e, he, o, q, b, h1, h2, h3, h4, h5⟩ := hbl2 k hk
    exact (rel2.own o b q k h2 h3 h4 h5).2
  generalize hMB : blks (keptX x bs) (ofList none (bs.map fun e => (e.1, some e.2.2))) = MB at hbl hbl2 hnot
  let K : Nat → Nat → Prop := fun b o => x2.okp b o ∨ (b < w.heap.size ∧ ¬ MB b)
  have hlend : HRel MB w.heap.size x2.ok ⟨(keptX x bs).g, x2.ok, K⟩ (ofB (bs.map fun e => (e.1, e.2.2))) (ofU (bs.map fun e => (e.1, e.2.2))) w := by
    rw [ofB_ents, ofU_ents]
    have := relk.lend (ok2 := x2.ok) (K := K) (fun b o hb => hext.ok b o hb) (fun b o hb => .inl (hext.okp b o hb)) (fun b o hb => .inl (rel2.okp b o hb)) (fun b o hb => hb.elim (rel2.old b o) (·.1)) (fun k hk o ho => by
      rw [hMB] at hk
      rcases ho with ho | ⟨_, ho⟩
      · exact hnot k hk o ho
      · exact ho hk)
    rw [hMB] at this
    exact this
  have hK : ∀ i b q k, (fun i => bif (oldsOf bs).any (Nat.beq i) then none else hr i) i = some b → x.g i = some q → q.blk = some k → k < w.heap.size → ∀ o, K k o := fun i b q k hi hq hkk hlt o => by
    refine .inr ⟨hlt, fun hm => ?_⟩
    obtain ⟨e, he, o', q', b', h1, h2, h3, h4, h5⟩ := hbl k hm
    have := rel.apart i o' b b' q q' k (hsub2 _ _ hi) h2 hq h4 hkk h5
    subst this
    exact (hsub' _ _ hi).2 (mem_olds he h1)
  -- the arguments
  have hpl : ∀ j c, (plainAs (ownT 0 sp.own args) 0 args)[j]? = some c → IVRel x w (us.getD j undef) c := fun j c hc => by
    obtain ⟨a, h1, h2 | h2⟩ := plainAs_get _ _ _ _ _ hc
    · rw [h2]; exact ha j a h1
    · rw [h2]; exact .c _ _ (.junk _)
  have hAl : A.1.length = args.length := by rw [← hA, argsK_length, plainAs_length]
  have hargs : ∀ j c, (toldAs ts 0 A.1)[j]? = some c → IVRel ⟨(keptX x bs).g, x2.ok, K⟩ w (us.getD j undef) c := fun j c hc => by
    obtain ⟨a, h1, h2 | ⟨p, hp, hp1, hp2⟩⟩ := toldAs_get _ _ _ _ _ hc
    · subst h2
      rw [← hA] at h1
      obtain ⟨y, hy, hor⟩ := argsK_get _ _ j c h1
      have hgo : IVRel ⟨fun _ => none, x2.ok, K⟩ w (us.getD j undef) c := by
        rcases hor with ⟨i, off, ty, cs, rfl, rfl, hm⟩ | ⟨rfl, hp⟩
        · have g1 := iv_c (hpl j _ hy)
          have g2 := hps _ (by rw [← hA]; exact hm) (us.getD j undef) off (g1.ext hfz.ext)
          have hfr := psnap_free g2
          exact .c _ _ (g2.free hfr (fun _ _ h => h) (fun b o hb => .inl hb))
        · exact (settleIV_sound (K := K) (fz := A.2.1) rel hsub2 hfz (fun b o hb => .inl (he2.okp b o hb)) hK (fun p hp' => by rw [← hA]; exact hp p hp') (hpl j _ hy)).wide he2.ok
      have e1 : Ext ⟨fun _ => none, x2.ok, K⟩ w ⟨(keptX x bs).g, x2.ok, K⟩ w := ⟨fun _ _ h => (by cases h), fun _ _ h => h, fun _ _ h => h, fun _ _ _ => rfl⟩
      exact hgo.ext e1
    · subst hp2
      have := t1 p hp
      rw [hp1, Nat.zero_add, Nat.add_sub_cancel_left] at this
      have e1 : Ext (keptX x bs) w ⟨(keptX x bs).g, x2.ok, K⟩ w := ⟨fun _ _ h => h, hext.ok, fun b o h => .inl (hext.okp b o h), fun _ _ _ => rfl⟩
      exact this.ext e1
  refine (hret w us MB x2.ok _ hlend (by rw [toldAs_length, hAl]; exact hs) hargs).mono ?_
  rintro e w' ⟨v, x', u', rfl, hfr, rel', hv, hobj⟩
  cases hflat : flatOut res bx with
  | true =>
    have hff := hflat
    unfold flatOut at hff
    rw [Bool.and_eq_true] at hff
    have relt := rel'.thin (O2 := x.ok) (fun i b hb => by
      obtain ⟨e, he, rfl⟩ := ofB_mem hb
      exact List.all_eq_true.1 hff.2 e he) (fun p hp => (rel.laid p hp).1)
    obtain ⟨z, z1, z2, z3, z4⟩ := rel.back hbl hfr relt (backNames_fst bs key 0 bx) (nodup_spec k1) (nodup_spec k2) (fun e he => List.all_eq_true.1 k3 e he) (fun n k o hm ho => by
      refine ⟨backNames_obj bs key 0 bx hm ho, ?_⟩
      obtain ⟨ty, cs, hbs⟩ := objOf_mem ho
      obtain ⟨q, hq, _⟩ := t2 _ hbs
      refine ⟨q, gOf_cells.symm.trans hq, hobj n ty cs (List.mem_map.2 ⟨_, hbs, rfl⟩) q ?_⟩
      exact (keptX_g m1 hbs).trans hq) (news := newNames bs (backNames bs key 0 bx)) (fun n k h1 h2 => newNames_mem h1 h2) hfresh
    refine ⟨v, z, rfl, z1, z2, ?_, z4 v res (IVRel.flat (x := x') (x'' := ⟨x'.g, fun b o => x'.ok b o ∧ (x.ok b o ∨ w.heap.size ≤ b ∨ MB b), x'.okp⟩) (fun _ => rfl) hff.1 hv)⟩
    show HRel M B O z (updMany h ([] ++ _ ++ _)) _ w'
    rw [List.nil_append, updMany_append]
    exact z3
  | false =>
  obtain ⟨z, z1, z2, z3, z4⟩ := rel2.back hbl2 hfr rel' (backNames_fst bs key 0 bx) (nodup_spec k1) (nodup_spec k2) (fun e he => List.all_eq_true.1 k3 e he) (fun n k o hm ho => by
    refine ⟨backNames_obj bs key 0 bx hm ho, ?_⟩
    obtain ⟨ty, cs, hbs⟩ := objOf_mem ho
    obtain ⟨q, hq, _⟩ := t2 _ hbs
    refine ⟨q, hext.g _ _ (gOf_cells.symm.trans hq), hobj n ty cs (List.mem_map.2 ⟨_, hbs, rfl⟩) q ?_⟩
    exact (keptX_g m1 hbs).trans hq) (news := newNames bs (backNames bs key 0 bx)) (fun n k h1 h2 => newNames_mem h1 h2) hfresh
  refine ⟨v, z, rfl, hext.trans z1, z2, ?_, z4 v res hv⟩
  show HRel M B O z (updMany h (A.2.1 ++ iceUps A.2.2 ++ _ ++ _)) _ w'
  rw [updMany_append, updMany_append, updMany_append]
  exact z3

theorem calls2K_sound (hcfg : CfgOK P cfg) (rel : HRel M B O x h u w) (hsub : ∀ i b, hr i = some b → h i = some b) {g : FuncId} {args : List IV} {us : Array Value} (hs : us.size = args.length)
    (ha : ∀ j c, args[j]? = some c → IVRel x w (us.getD j undef) c) (H : calls2K cfg key hr k g args = some r) :
    ∃ out, k out = some r ∧ (∀ w, (callFunc g us).run P w = .ok (.enter g us) w) ∧
      ((∀ i, i ∈ out.news → u i = false) → Calls P g us w fun e w' => ∃ v x', e = .returned v ∧ Ext x w x' w' ∧ Fr M B w w' ∧ HRel M B O x' (updMany h out.ups) (updMany u (out.news.map fun i => (i, true))) w' ∧ IVRel x' w' v out.v) := by
  unfold calls2K at H
  split at H
  · obtain ⟨out, h1, h2, h3, h4⟩ := callK_sound hcfg rel hsub hs ha H
    exact ⟨out, h1, h3, fun _ => by rw [h2]; exact h4⟩
  · exact ocallK_sound hcfg rel hsub hs ha H

/-- A row of one's own: its block. -/
theorem ownB_shape (rel : HRel M B O x h u w) {i : Nat} (hb : ownB (h i) = true) {q : Gh} (hq : x.g i = some q) {b : Nat} (hk : q.blk = some b) : ∃ bx vs e n, h i = some bx ∧ w.heap[b]? = some (.cells vs e (0, 0)) ∧ vs.size = q.cap * n ∧ 0 < n := by
  cases hi : h i with
  | none => rw [hi] at hb; cases hb
  | some bx =>
    obtain ⟨q', hq', hbr⟩ := rel.box _ _ hi
    rw [hq] at hq'; injection hq' with hq'; subst hq'
    rw [hi] at hb
    cases hbr with
    | none _ _ _ h1 => rw [hk] at h1; cases h1
    | arr _ t _ _ b' vs e h1 h2 h3 h4 h5 => rw [hk] at h1; injection h1 with h1; subst h1; exact ⟨_, vs, e, width t, rfl, h2, h5, width_pos t⟩
    | row0 _ _ h1 => rw [hk] at h1; cases h1
    | row _ t _ b' vs e h1 h2 h4 h5 => rw [hk] at h1; injection h1 with h1; subst h1; exact ⟨_, vs, e, width t, rfl, h2, h5, width_pos t⟩
    | cells => cases hb
    | ice => cases hb
    | map => cases hb

theorem overlaps_none {tS tR e : TypeId} (ht : P.underlying tS = some (.slice e)) {size : Nat} (hz : ∀ w, (Go.sizeOf e).run P w = .ok size w) (a b : Option Addr) (la ca lb cb : Nat) (h : a = none ∨ b = none ∨ la = 0 ∨ lb = 0) :
    (Extern.SlicesOverlaps.overlaps #[tS, tS] #[tR] #[.slice a la ca, .slice b lb cb]).run P w = .ok (.bool false) w := by
  change Sem.run P (α := Value) (do
    let some t := (#[tS, tS] : Array TypeId)[0]? | stuck "slices.overlaps: no parameter types"
    let .slice elem ← underlying t | stuck "slices.overlaps: slice type expected"
    let size ← sizeOf elem
    match a, b with
    | some a, some b =>
      if la = 0 ∨ lb = 0 ∨ size = 0 then pure (Value.bool false)
      else if a.block != b.block && (← frozen a) && (← frozen b) then unsupported .addressObserved
      else do
        if a.block != b.block then do
          noView a; noView b
          if ← mayBeOne a b then return Value.bool ((← choose (.extern "sameAddr.stringBytes" 2)) == 1)
        pure (Value.bool (a.block == b.block && a.off < b.off + lb * size && b.off < a.off + la * size))
    | _, _ => pure (Value.bool false)) w = _
  cases a with
  | none => simp [run_underlying ht, hz]
  | some a =>
    cases b with
    | none => simp [run_underlying ht, hz]
    | some b =>
      have h0 : la = 0 ∨ lb = 0 ∨ size = 0 := by
        rcases h with h | h | h | h
        · cases h
        · cases h
        · exact .inl h
        · exact .inr (.inl h)
      simp [run_underlying ht, hz, h0]

theorem ovlK_sound (rel : HRel M B O x h u w) (hsub : ∀ i b, hr i = some b → h i = some b) {g : FuncId} (ho : OvlFn P g) {args : List IV} {us : Array Value} (hs : us.size = args.length)
    (ha : ∀ j c, args[j]? = some c → IVRel x w (us.getD j undef) c) (H : ovlK hr k args = some r) : k ⟨.c (.v (.bool false)), [], []⟩ = some r ∧ (callFunc g us).run P w = .ok (.value (.bool false)) w := by
  unfold ovlK at H
  split at H
  case h_2 => cases H
  rename_i i j wd lo n c
  cases hc : (ownB (hr i) && (ownB (hr j) && !(Nat.beq i j))) with
  | false => rw [hc] at H; cases H
  | true =>
    rw [hc] at H
    refine ⟨H, ?_⟩
    simp only [Bool.and_eq_true, Bool.not_eq_true'] at hc
    obtain ⟨h1, h2, h3⟩ := hc
    have up : ∀ i, ownB (hr i) = true → ownB (h i) = true := fun i hi => by
      cases hb : hr i with
      | none => rw [hb] at hi; cases hi
      | some b => rw [hsub _ _ hb, ← hb]; exact hi
    have h1 := up _ h1
    have h2 := up _ h2
    have hij : i ≠ j := fun e => by subst e; simp at h3
    obtain ⟨fn, tS, tR, e, size, f1, f2, f3, f4, f5, f6, f7⟩ := ho
    rw [run_callFunc_extern f1 f2 f3 f4 f5]
    have e2 : us = #[us.getD 0 undef, us.getD 1 undef] := by
      match us, hs with
      | ⟨[a, b]⟩, _ => rfl
    have v1 := iv_c (ha 0 _ rfl)
    have v2 := iv_c (ha 1 _ rfl)
    rw [e2]
    generalize us.getD 0 undef = A at v1
    generalize us.getD 1 undef = C at v2
    suffices hh : (Extern.SlicesOverlaps.overlaps #[tS, tS] #[tR] #[A, C]).run P w = .ok (.bool false) w by rw [hh]; rfl
    cases v1 with
    | sref _ q1 g1 =>
      cases v2 with
      | view _ _ _ _ _ q2 o g2 hle ho' hcc =>
        cases k1 : q1.blk with
        | none => exact overlaps_none f6 f7 _ _ _ _ _ _ (.inl rfl)
        | some b1 =>
          cases k2 : q2.blk with
          | none => exact overlaps_none f6 f7 _ _ _ _ _ _ (.inr (.inl rfl))
          | some b2 =>
            obtain ⟨x1, vs1, e1, n1, p1, p2, p3, p7⟩ := ownB_shape rel h1 g1 k1
            obtain ⟨x2, vs2, e2', n2, p4, p5, p6, p8⟩ := ownB_shape rel h2 g2 k2
            have hne : b1 ≠ b2 := fun e => hij (rel.apart i j x1 x2 q1 q2 b1 p1 p4 g1 g2 k1 (by rw [k2, e]))
            by_cases hz : vs2.size = 0
            · have hcap : q2.cap = 0 := by
                rw [p6] at hz
                rcases Nat.mul_eq_zero.1 hz with h | h
                · exact h
                · omega
              have hn : n = 0 := by omega
              subst hn
              exact overlaps_none f6 f7 _ _ _ _ _ _ (.inr (.inr (.inr rfl)))
            · exact Lib.run_overlaps_apart w tS tR e f6 size f7 ⟨b1, 0, none⟩ ⟨b2, o, none⟩ _ _ _ _ hne e1 e2' vs1.size vs2.size (by simp [World.shape?, p2]) (by simp [World.shape?, p5]) hz (by simp [World.frozen?, p2]) (by simp [World.frozen?, p2])

theorem callsK_cases {g : FuncId} {args : List IV} (H : callsK cfg key hr k g args = some r) : (cfg.more.ovl.any (Nat.beq g) = true ∧ ovlK hr k args = some r) ∨ calls2K cfg key hr k g args = some r := by
  unfold callsK at H
  cases hb : cfg.more.ovl.any (Nat.beq g) with
  | true => rw [hb] at H; exact .inl ⟨rfl, H⟩
  | false => rw [hb] at H; exact .inr H
theorem ovl_mem {g : FuncId} {l : List Nat} (h : l.any (Nat.beq g) = true) : g ∈ l := by
  obtain ⟨a, ha, hb⟩ := List.any_eq_true.1 h
  rw [Nat.eq_of_beq_eq_true hb]; exact ha

end
end Go.Proofs.Ytdoilggfajngiaa.VE
