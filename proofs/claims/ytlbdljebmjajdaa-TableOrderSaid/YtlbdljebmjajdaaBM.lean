/-
  Tables: what the laws' functions come to, continued.
-/
import Derived.Test.YtlbdljebmjajdaaBL
namespace Go.Proofs.Ytlbdljebmjajdaa
open Go VE

/-! ### put in and taken out again -/

theorem filter_putIn {l : List (El THost)} {h : El THost} {i : Nat} (hn : l.any (idH h.1) = false) : (putIn l i h).filter (fun x => !idH h.1 x) = l := by
  have hid : l.filter (fun x => !idH h.1 x) = l := List.filter_eq_self.2 fun x hx => by
    have := List.any_eq_false.1 hn x hx
    simpa using this
  have hs : (l.take i).filter (fun x => !idH h.1 x) ++ (l.drop i).filter (fun x => !idH h.1 x) = l := by
    rw [← List.filter_append, List.take_append_drop, hid]
  have hh : idH h.1 h = true := by simp [idH]
  unfold putIn
  rw [List.filter_append, List.filter_cons, hh]
  exact hs

theorem any_add {l : List (El THost)} {h : El THost} (he : addE l h = 0) : (addL l h).any (idH h.1) = true := List.any_eq_true.2 ⟨h, (add_mem he h).2 (.inl rfl), by simp [idH]⟩

theorem cut_add {l : List (El THost)} {h : El THost} (he : addE l h = 0) : cutE (addL l h) h.1 = 0 ∧ cutL (addL l h) h.1 = l := by
  have hm := add_may he
  have ha := any_add he
  have hE : cutE (addL l h) h.1 = 0 := by
    unfold cutE
    rw [hm, any_lt, ha]; rfl
  refine ⟨hE, ?_⟩
  unfold cutL
  rw [hE]
  show cutOut _ _ _ = l
  rw [cut_filter (may_rises hm) ha, addL_eq he, filter_putIn (addE_ok he).2.2.1]

theorem addE_twice {l : List (El THost)} {h : El THost} (he : addE l h = 0) : addE (addL l h) h = 3 := by
  have hm := add_may he
  have hr := may_rises hm
  unfold addE
  rw [hm, (addE_ok he).2.1, there_eq hr, any_add he]; rfl

theorem lBack_R : lBack.Law := fun l h hx => by
  have hf : (fits (.sl THost) l && (fits THost h && true)) = true := hx
  simp only [Bool.and_eq_true] at hf
  obtain ⟨f1, f3, _⟩ := hf
  have a1 : (fits (.sl THost) l && true) = true := by rw [f1]; rfl
  have a3 : (fits THost h && true) = true := by rw [f3]; rfl
  have a4 : (fits (.sl THost) l && (fits THost h && true)) = true := by rw [f1, f3]; rfl
  have a5 : (fits (.sl THost) l && (true && true)) = true := by rw [f1]; rfl
  have hh : ∃ f, lBack.go f l h = some (vb true, []) := by
    refine ⟨1, ?_⟩
    rw [lBack.start, test_true (show lightT.pre (l, ()) = true from a1), test_true (show light.pre (h, ()) = true from a3)]
    by_cases hc : IntKind.i64.wrap (lightTI l + lightI h) > 0
    · rw [cond_dt hc]; rfl
    rw [cond_df hc, test_true (show mayT.pre (l, ()) = true from a1)]
    cases hm : mayTB l with
    | false => rfl
    | true =>
      rw [Bool.not_true, cond_false, test_true (show mayTR.pre (l, ()) = true from a1), cond_false, test_true (show add.pre (l, h, ()) = true from a4)]
      by_cases he : addE l h = 0
      · have g1 := fits_add f1 f3
        have b1 : (fits (.sl THost) (addL l h) && true) = true := by rw [g1]; rfl
        have b4 : (fits (.sl THost) (addL l h) && (fits THost h && true)) = true := by rw [g1, f3]; rfl
        have b5 : (fits (.sl THost) (addL l h) && (true && true)) = true := by rw [g1]; rfl
        obtain ⟨c1, c2⟩ := cut_add he
        have hm2 := add_may he
        obtain ⟨d1, d2⟩ := ix_at ((may_iff _).1 hm2).2.1 ((add_mem he h).2 (.inl rfl))
        have hb : bne (addE l h) 0 = false := by rw [he]; rfl
        rw [hb, cond_false, test_true (show add.pre (addL l h, h, ()) = true from b4), test_true (show cut.pre (addL l h, h.1, ()) = true from b5), test_true (show find.pre (addL l h, h.1, ()) = true from b5), cond_et (addE_twice he), cond_et c1, c2,
          test_true (show sameHR.pre (l, l, ()) = true by
            show (fits (.sl THost) l && (fits (.sl THost) l && true)) = true
            rw [f1]; rfl), sameHB_refl, cond_true, test_true (show mayT.pre (addL l h, ()) = true from b1), hm2, cond_true, d1, cond_true, d2]
        rcases ix_cases (addL l h) h.1 with ⟨h1, _, h3⟩ | ⟨j, h1, h2, _⟩
        · rw [any_add he] at h3; cases h3
        · rw [h1, cond_dt (by omega), test_true rfl, test_d (by omega), test_true (show sameR.pre (h, h, ()) = true by
            show (fits THost h && (fits THost h && true)) = true
            rw [f3]; rfl), sameB_refl]
          rfl
      · have hb : bne (addE l h) 0 = true := by simp [bne, he]
        rw [hb, cond_true, addL_nil he, cond_t (show ((([] : List (El THost)).length : Int) == 0) = true from rfl)]
        have hE : addE l h = bif !mayB h then 1 else bif l.any (idH h.1) then 3 else bif (l.length : Int) == 64 then 6 else 0 := by
          unfold addE
          rw [hm, there_eq (may_rises hm)]; rfl
        cases h2 : mayB h with
        | false =>
          rw [h2] at hE
          rw [cond_et (show addE l h = 1 from hE)]; rfl
        | true =>
          cases h3 : l.any (idH h.1) with
          | true =>
            rw [h2, h3] at hE
            have hE : addE l h = 3 := hE
            rw [cond_ef (by rw [hE]; decide), cond_et hE, test_true (show find.pre (l, h.1, ()) = true from a5), any_ge, h3]; rfl
          | false =>
            rw [h2, h3] at hE
            have hE : addE l h = bif (l.length : Int) == 64 then 6 else 0 := hE
            cases h4 : ((l.length : Int) == 64) with
            | true =>
              rw [h4] at hE
              have hE : addE l h = 6 := hE
              rw [cond_ef (by rw [hE]; decide), cond_ef (by rw [hE]; decide), cond_et hE]; rfl
            | false =>
              rw [h4] at hE
              exact absurd (show addE l h = 0 from hE) he
  obtain ⟨f, hf⟩ := hh
  exact lBack.ret (lightT_ok.cons' (light_ok.cons' (awake_ok.cons' (mayT_ok.cons' (mayTR_ok.cons' (find_ok.cons' (sameHR_ok.cons' (sameR_ok.cons' SpecsOK.nil)))))))) (add_ok.cons' (cut_ok.cons' .nil)) l h hf

/-! ### changes -/

/-- Two rows that rise, of the same members, are one. -/
theorem asc_ext {α : Type} (f : α → Int) : ∀ {l m : List α}, l.Pairwise (fun a b => f a < f b) → m.Pairwise (fun a b => f a < f b) → (∀ x, x ∈ l ↔ x ∈ m) → l = m
  | [], [], _, _, _ => rfl
  | [], b :: m, _, _, h => absurd ((h b).2 (List.mem_cons_self ..)) (by simp)
  | a :: l, [], _, _, h => absurd ((h a).1 (List.mem_cons_self ..)) (by simp)
  | a :: l, b :: m, hl, hm, h => by
    obtain ⟨l1, l2⟩ := List.pairwise_cons.1 hl
    obtain ⟨m1, m2⟩ := List.pairwise_cons.1 hm
    have hab : a = b := by
      rcases List.mem_cons.1 ((h a).1 (List.mem_cons_self ..)) with e | e
      · exact e
      · rcases List.mem_cons.1 ((h b).2 (List.mem_cons_self ..)) with e2 | e2
        · exact e2.symm
        · have := m1 a e
          have := l1 b e2
          omega
    subst hab
    have : l = m := asc_ext f l2 m2 fun x => by
      constructor
      · intro hx
        rcases List.mem_cons.1 ((h x).1 (List.mem_cons_of_mem _ hx)) with e | e
        · have := l1 x hx
          rw [e] at this
          exact absurd this (Int.lt_irrefl _)
        · exact e
      · intro hx
        rcases List.mem_cons.1 ((h x).2 (List.mem_cons_of_mem _ hx)) with e | e
        · have := m1 x hx
          rw [e] at this
          exact absurd this (Int.lt_irrefl _)
        · exact e
    rw [this]

theorem ids_asc {l : List (El THost)} (h : l.Pairwise fun a b => a.1 < b.1) (p : El THost → Bool) : (idsL (l.filter p)).Pairwise fun a b => a < b := by
  unfold idsL
  rw [List.pairwise_map]
  exact h.sublist List.filter_sublist

theorem stay_sym (l m : List (El THost)) : stayL l m = stayL m l := by
  unfold stayL mayCB
  cases h1 : mayTB l with
  | false => cases mayTB m <;> rfl
  | true =>
    cases h2 : mayTB m with
    | false => rfl
    | true =>
      have p1 := ((may_iff l).1 h1).2.1
      have p2 := ((may_iff m).1 h2).2.1
      show idsL _ = idsL _
      refine asc_ext (fun x => x) (ids_asc p2 _) (ids_asc p1 _) fun i => ?_
      unfold idsL
      constructor
      · intro hi
        obtain ⟨x, hx, hxi⟩ := List.mem_map.1 hi
        obtain ⟨x1, x2⟩ := List.mem_filter.1 hx
        obtain ⟨y, hy, hy1, hy2⟩ := (stays_iff p1 x).1 x2
        exact List.mem_map.2 ⟨y, List.mem_filter.2 ⟨hy, (stays_iff p2 y).2 ⟨x, x1, hy1.symm, hy2.symm⟩⟩, hy1.trans hxi⟩
      · intro hi
        obtain ⟨x, hx, hxi⟩ := List.mem_map.1 hi
        obtain ⟨x1, x2⟩ := List.mem_filter.1 hx
        obtain ⟨y, hy, hy1, hy2⟩ := (stays_iff p2 x).1 x2
        exact List.mem_map.2 ⟨y, List.mem_filter.2 ⟨hy, (stays_iff p1 y).2 ⟨x, x1, hy1.symm, hy2.symm⟩⟩, hy1.trans hxi⟩

theorem come_gone (l m : List (El THost)) : goneL m l = comeL l m := by
  rw [gone_eq]
  unfold goneR comeL mayCB
  cases mayTB l <;> cases mayTB m <;> rfl

theorem filt_both {α : Type} (p : α → Bool) : ∀ (l : List α), (l.filter fun x => !p x).length + (l.filter p).length = l.length
  | [] => rfl
  | a :: l => by
    have := filt_both p l
    rw [List.filter_cons, List.filter_cons, List.length_cons]
    cases p a <;> simp <;> omega

theorem chg_len {l m : List (El THost)} (h1 : mayTB l = true) (h2 : mayTB m = true) : (comeL l m).length + (stayL l m).length = m.length := by
  unfold comeL stayL mayCB
  rw [h1, h2]
  show (idsL _).length + (idsL _).length = _
  rw [ids_len, ids_len]
  exact filt_both _ m

theorem lChanges_R : lChanges.Law := fun l m hx => by
  have hf : (fits (.sl THost) l && (fits (.sl THost) m && true)) = true := hx
  simp only [Bool.and_eq_true] at hf
  obtain ⟨f1, f2, _⟩ := hf
  have a1 : (fits (.sl THost) l && true) = true := by rw [f1]; rfl
  have a2 : (fits (.sl THost) m && true) = true := by rw [f2]; rfl
  have a3 : (fits (.sl THost) l && (fits (.sl THost) m && true)) = true := by rw [f1, f2]; rfl
  have a4 : (fits (.sl THost) m && (fits (.sl THost) l && true)) = true := by rw [f1, f2]; rfl
  have a5 : (fits (.sl THost) l && (fits (.sl THost) l && true)) = true := by rw [f1]; rfl
  have hh : ∃ f, lChanges.go f l m = some (vb true, []) := by
    refine ⟨1, ?_⟩
    rw [lChanges.start, test_true (show lightT.pre (l, ()) = true from a1), test_true (show lightT.pre (m, ()) = true from a2)]
    by_cases hc : IntKind.i64.wrap (lightTI l + lightTI m) > 0
    · rw [cond_dt hc]; rfl
    rw [cond_df hc, test_true (show mayTR.pre (l, ()) = true from a1)]
    cases h1 : mayTB l with
    | false => rfl
    | true =>
      rw [Bool.not_true, cond_false, test_true (show mayTR.pre (m, ()) = true from a2)]
      cases h2 : mayTB m with
      | false => rfl
      | true =>
        have e1 : changeE l m = 0 := by unfold changeE mayCB; rw [h1, h2]; rfl
        have e2 : changeE m l = 0 := by unfold changeE mayCB; rw [h1, h2]; rfl
        have e3 : changeE l l = 0 := by unfold changeE mayCB; rw [h1]; rfl
        have l1 := may_len h1
        have l2 := may_len h2
        have c1 := chg_len h1 h2
        have c2 := chg_len h2 h1
        have c3 := chg_len h1 h1
        have s1 := stay_sym l m
        have g1 := come_gone l m
        have g2 := come_gone m l
        have g3 := come_gone l l
        have hcl := fits_chg (l := l) (m := m)
        have hcm := fits_chg (l := m) (m := l)
        have b1 : bne (changeE l m) 0 = false := by rw [e1]; rfl
        have b2 : bne (changeE m l) 0 = false := by rw [e2]; rfl
        have w1 : IntKind.i64.wrap (((comeL l m).length : Int) + ((stayL l m).length : Int)) = (m.length : Int) := by rw [w64] <;> omega
        have w2 : IntKind.i64.wrap (((goneL l m).length : Int) + ((stayL l m).length : Int)) = (l.length : Int) := by rw [g2, s1, w64] <;> omega
        have hcome : comeL l l = [] := by
          unfold comeL mayCB
          rw [h1]
          show idsL _ = []
          have p1 := ((may_iff l).1 h1).2.1
          have : l.filter (fun h => !staysB l h) = [] := List.filter_eq_nil_iff.2 fun x hx hx2 => by
            rw [(stays_iff p1 x).2 ⟨x, hx, rfl, rfl⟩] at hx2
            exact absurd hx2 (by decide)
          rw [this]; rfl
        have hgone : goneL l l = [] := g3.trans hcome
        have i1 : ints.pre (comeL l m, goneL m l, ()) = true := by
          show (fits (.sl (.int .i64)) (comeL l m) && (fits (.sl (.int .i64)) (goneL m l) && true)) = true
          rw [hcl.1, hcm.2.1]; rfl
        have i2 : ints.pre (goneL l m, comeL m l, ()) = true := by
          show (fits (.sl (.int .i64)) (goneL l m) && (fits (.sl (.int .i64)) (comeL m l) && true)) = true
          rw [hcl.2.1, hcm.1]; rfl
        have i3 : ints.pre (stayL l m, stayL m l, ()) = true := by
          show (fits (.sl (.int .i64)) (stayL l m) && (fits (.sl (.int .i64)) (stayL m l) && true)) = true
          rw [hcl.2.2.1, hcm.2.2.1]; rfl
        have q1 : eqIs (comeL l m) (goneL m l) = true := by rw [g1, eqIs_refl]
        have q2 : eqIs (goneL l m) (comeL m l) = true := by rw [g2, eqIs_refl]
        have q3 : eqIs (stayL l m) (stayL m l) = true := by rw [s1, eqIs_refl]
        rw [Bool.not_true, cond_false, test_true (show change.pre (l, m, ()) = true from a3), test_true (show change.pre (m, l, ()) = true from a4), b1, b2, cond_false, cond_false, w1, cond_nf rfl, w2, cond_nf rfl,
          test_true i1, q1, Bool.not_true, cond_false, test_true i2, q2, Bool.not_true, cond_false, test_true i3, q3, Bool.not_true, cond_false, test_true (show change.pre (l, l, ()) = true from a5), cond_et e3, hcome, hgone, cond_et (by decide), cond_et (by rw [hcome] at c3; simp at c3; omega)]
        rfl
  obtain ⟨f, hf⟩ := hh
  exact lChanges.ret (lightT_ok.cons' (awake_ok.cons' (mayTR_ok.cons' (ints_ok.cons' SpecsOK.nil)))) (change_ok.cons' .nil) l m hf

/-! ### full -/

theorem may_id {h : El THost} (hm : mayB h = true) {i : Int} (h1 : 1 ≤ i) (h2 : i ≤ 1000000) : mayB (i, h.2) = true := by
  unfold mayB at hm ⊢
  simp only [Bool.and_eq_true] at hm ⊢
  obtain ⟨r, ⟨_, _⟩, w⟩ := hm
  exact ⟨r, ⟨dec_t h1, dec_t h2⟩, w⟩

structure FInv (h : El THost) (l : List (El THost)) (k : Nat) : Prop where
  may : mayTB l = true
  len : l.length = min k 64
  mem : ∀ x, x ∈ l → x.1 ≤ (k : Int) ∧ x.2 = h.2
  top : ∀ x, x ∈ l → x.1 ≤ (64 : Int)

theorem none_id {l : List (El THost)} {b i : Int} (h : ∀ x, x ∈ l → x.1 ≤ b) (hi : b < i) : l.any (idH i) = false := List.any_eq_false.2 fun x hx => by
  have := h x hx
  have : ¬ x.1 = i := fun e => by rw [e] at this; exact absurd this (Int.not_le.2 hi)
  simpa [idH] using this

theorem FInv.fits {h : El THost} {l : List (El THost)} {k : Nat} (H : FInv h l k) (hh : fits THost h = true) : VE.fits (.sl THost) l = true := fits_hosts (by
  have := may_len H.may
  omega) fun x hx => by
    obtain ⟨a, b⟩ := x
    have : b = h.2 := (H.mem _ hx).2
    subst this
    obtain ⟨c, d⟩ := h
    exact fits_mk (a := .int .i64) (x := a) rfl (fits_prod hh).2

theorem full_loop (h : El THost) (hm : mayB h = true) (hh : fits THost h = true) (n : Nat) (hn : n ≤ 66) : ∀ (d k : Nat) (l : List (El THost)) (i0 : Int), n = k + d → FInv h l k → lFull.l1 (d + 1) n l n k i0 h.2.1 h.2.2.1 h.2.2.2.1 h.2.2.2.2.1 h.2.2.2.2.2 = some (vb true, [])
  | 0, k, l, i0, hk, H => by
    have hl := H.len
    have hkn : k = n := by omega
    subst hkn
    have hw : IntKind.i64.wrap ((k : Int) + 1) = ((k + 1 : Nat) : Int) := by rw [w64] <;> omega
    have hc : cutE l ((k + 1 : Nat) : Int) = 4 := by
      unfold cutE
      rw [H.may, any_lt, none_id (b := (k : Int)) (fun x hx => (H.mem x hx).1) (by omega)]; rfl
    rw [lFull.s1, cond_df (by omega), hw, test_true (show cut.pre (l, ((k + 1 : Nat) : Int), ()) = true by
      show (VE.fits (.sl THost) l && (true && true)) = true
      rw [H.fits hh]; rfl), hc, cond_et (by split <;> omega)]
    rfl
  | d + 1, k, l, i0, hk, H => by
    have hl := H.len
    have hw : IntKind.i64.wrap ((1 : Int) + (k : Int)) = ((k + 1 : Nat) : Int) := by rw [w64] <;> omega
    have hmk : mayB (((k + 1 : Nat) : Int), h.2) = true := may_id hm (by omega) (by omega)
    have hfk : fits THost (((k + 1 : Nat) : Int), h.2) = true := fits_mk (a := .int .i64) (x := ((k + 1 : Nat) : Int)) rfl (fits_prod hh).2
    have hno : l.any (idH ((k + 1 : Nat) : Int)) = false := none_id (b := (k : Int)) (fun x hx => (H.mem x hx).1) (by omega)
    have hp : add.pre (l, (((k + 1 : Nat) : Int), h.2), ()) = true := by
      show (VE.fits (.sl THost) l && (VE.fits THost (((k + 1 : Nat) : Int), h.2) && true)) = true
      rw [H.fits hh, hfk]; rfl
    by_cases h64 : k < 64
    · have he : addE l (((k + 1 : Nat) : Int), h.2) = 0 := addE_of H.may hmk hno (by omega)
      have ih := full_loop h hm hh n hn d (k + 1) (addL l (((k + 1 : Nat) : Int), h.2)) ((k + 1 : Nat) : Int) (by omega) ⟨add_may he, by rw [add_len he]; omega, fun x hx => by
        rcases (add_mem he x).1 hx with e | e
        · rw [e]; exact ⟨Int.le_refl _, rfl⟩
        · have := H.mem x e
          exact ⟨Int.le_trans this.1 (show (k : Int) ≤ ((k + 1 : Nat) : Int) by omega), this.2⟩, fun x hx => by
        rcases (add_mem he x).1 hx with e | e
        · rw [e]; show ((k + 1 : Nat) : Int) ≤ 64; omega
        · exact H.top x e⟩
      have hb : bne (addE l (((k + 1 : Nat) : Int), h.2)) 0 = false := by rw [he]; rfl
      rw [lFull.s1, cond_dt (by omega), hw, w64s (by omega)]
      refine (test_true hp).trans ((cond_f ?_).trans ((cond_f hb).trans ((cond_et he).trans ih)))
      show (!((addE l (((k + 1 : Nat) : Int), h.2) == 0) == decide ((k : Int) < 64))) = false
      rw [he, dec_t (by omega)]; rfl
    · have he : addE l (((k + 1 : Nat) : Int), h.2) = 6 := by
        have h5 : ((l.length : Int) == 64) = true := by simp; omega
        unfold addE
        rw [H.may, hmk, there_eq (may_rises H.may), hno, h5]; rfl
      have ih := full_loop h hm hh n hn d (k + 1) l ((k + 1 : Nat) : Int) (by omega) ⟨H.may, by omega, fun x hx => by
        have := H.mem x hx
        exact ⟨Int.le_trans this.1 (show (k : Int) ≤ ((k + 1 : Nat) : Int) by omega), this.2⟩, H.top⟩
      have hb : bne (addE l (((k + 1 : Nat) : Int), h.2)) 0 = true := by rw [he]; rfl
      have hb6 : bne (addE l (((k + 1 : Nat) : Int), h.2)) 6 = false := by rw [he]; rfl
      rw [lFull.s1, cond_dt (by omega), hw, w64s (by omega)]
      refine (test_true hp).trans ((cond_f ?_).trans ((cond_t hb).trans ((cond_f hb6).trans ((cond_ef (by rw [show addE l (((k + 1 : Nat) : Int), h.2.1, h.2.2.1, h.2.2.2.1, h.2.2.2.2.1, h.2.2.2.2.2) = 6 from he]; decide)).trans ih))))
      show (!((addE l (((k + 1 : Nat) : Int), h.2) == 0) == decide ((k : Int) < 64))) = false
      rw [he, dec_f (by omega)]; rfl

theorem mod67 (k : Int) : ∃ n : Nat, IntKind.i64.wrap (Int.tmod (IntKind.u64.wrap k) 67) = (n : Int) ∧ n ≤ 66 := by
  have hk : 0 ≤ IntKind.u64.wrap k := (wrap_within .u64 k).1
  rw [Int.tmod_eq_emod_of_nonneg hk]
  have h2 := Int.emod_nonneg (IntKind.u64.wrap k) (show (67 : Int) ≠ 0 by omega)
  have h3 := Int.emod_lt_of_pos (IntKind.u64.wrap k) (show (0 : Int) < 67 by omega)
  rw [w64 (n := IntKind.u64.wrap k % 67) (by omega) (by omega)]
  exact ⟨(IntKind.u64.wrap k % 67).toNat, by omega, by omega⟩

theorem lFull_R : lFull.Law := fun h n hx => by
  have hf : (fits THost h && (true && true)) = true := hx
  simp only [Bool.and_eq_true] at hf
  obtain ⟨f3, _⟩ := hf
  have a3 : (fits THost h && true) = true := by rw [f3]; rfl
  have hh : ∃ f, lFull.go f h n = some (vb true, []) := by
    obtain ⟨k, hk, hk2⟩ := mod67 n
    refine ⟨k + 2, ?_⟩
    rw [lFull.start, test_true (show light.pre (h, ()) = true from a3)]
    by_cases hc : lightI h > 0
    · rw [cond_dt hc]; rfl
    rw [cond_df hc, test_true (show mayR.pre (h, ()) = true from a3)]
    cases hm : mayB h with
    | false => rfl
    | true =>
      rw [Bool.not_true, cond_false, hk]
      exact full_loop h hm f3 k hk2 k 0 [] h.1 (by omega) ⟨rfl, by simp, fun x hx => (by cases hx), fun x hx => (by cases hx)⟩
  obtain ⟨f, hf⟩ := hh
  exact lFull.ret (light_ok.cons' (awake_ok.cons' (mayR_ok.cons' SpecsOK.nil))) (add_ok.cons' (cut_ok.cons' .nil)) h n hf

end Go.Proofs.Ytlbdljebmjajdaa
