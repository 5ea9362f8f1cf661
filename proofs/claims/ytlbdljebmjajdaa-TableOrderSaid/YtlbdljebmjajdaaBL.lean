/-
  Tables: what the laws' functions come to.
-/
import Derived.Test.YtlbdljebmjajdaaBD
import Derived.Test.YtlbdljebmjajdaaBG
import Derived.Laws.Closers25b
namespace Go.Proofs.Ytlbdljebmjajdaa
open Go VE

/-! ### alike -/

theorem pairEq_refl (p : El TPair) : pairEq p p = true := by unfold pairEq; simp
theorem samePs_refl : ∀ (l : List (El TPair)), samePs l l = true
  | [] => rfl
  | a :: l => by show (pairEq a a && samePs l l) = true; rw [pairEq_refl, samePs_refl l]; rfl
theorem sameB_refl (h : El THost) : sameB h h = true := by unfold sameB; rw [samePs_refl]; simp
theorem sameHB_refl (l : List (El THost)) : sameHB l l = true := by
  unfold sameHB
  rw [dec_t rfl, anyN_false.2 fun k _ _ => by show (!sameB (rdEl THost l k) (rdEl THost l k)) = false; rw [sameB_refl]; rfl]
  rfl
theorem eqIs_refl : ∀ (l : List Int), eqIs l l = true
  | [] => rfl
  | a :: l => by show ((a == a) && eqIs l l) = true; rw [eqIs_refl l]; simp

/-! ### what is answered may be -/

theorem rises_of {l : List (El THost)} (h : l.Pairwise fun a b => a.1 < b.1) : risesK (keysL l) = true := by
  induction l with
  | nil => rfl
  | cons a l ih =>
    cases l with
    | nil => rfl
    | cons b l =>
      obtain ⟨h1, h2⟩ := List.pairwise_cons.1 h
      show (ltK (a.1, 0) (b.1, 0) && risesK (keysL (b :: l))) = true
      rw [keys_lt, dec_t (h1 b (List.mem_cons_self ..)), ih h2]; rfl

theorem may_iff (l : List (El THost)) : mayTB l = true ↔ l.length ≤ 64 ∧ l.Pairwise (fun a b => a.1 < b.1) ∧ ∀ h, h ∈ l → mayB h = true := by
  have hn : (!l.any nmB) = true ↔ ∀ h, h ∈ l → mayB h = true := by
    rw [Bool.not_eq_true', List.any_eq_false]
    constructor
    · intro h x hx
      have := h x hx
      unfold nmB at this
      simpa using this
    · intro h x hx
      unfold nmB
      rw [h x hx]; decide
  unfold mayTB
  rw [Bool.and_eq_true, Bool.and_eq_true, hn, decide_eq_true_eq]
  exact ⟨fun h => ⟨h.1, rises_pair h.2.1, h.2.2⟩, fun h => ⟨h.1, rises_of h.2.1, h.2.2⟩⟩

theorem mem_putIn {α : Type} {l : List α} {i : Nat} {t x : α} : x ∈ putIn l i t ↔ x = t ∨ x ∈ l := by
  unfold putIn
  rw [List.mem_append, List.mem_cons]
  constructor
  · rintro (h | h | h)
    · exact .inr (List.mem_of_mem_take h)
    · exact .inl h
    · exact .inr (List.mem_of_mem_drop h)
  · rintro (h | h)
    · exact .inr (.inl h)
    · rw [← List.take_append_drop i l, List.mem_append] at h
      exact h.elim .inl fun h => .inr (.inr h)

theorem addE_ok {l : List (El THost)} {h : El THost} (he : addE l h = 0) : mayTB l = true ∧ mayB h = true ∧ l.any (idH h.1) = false ∧ l.length < 64 := by
  unfold addE at he
  cases h1 : mayTB l with
  | false => rw [h1] at he; exact absurd (show (1 : Int) = 0 from he) (by decide)
  | true =>
    rw [h1] at he
    cases h2 : mayB h with
    | false => rw [h2] at he; exact absurd (show (1 : Int) = 0 from he) (by decide)
    | true =>
      rw [h2, there_eq (may_rises h1)] at he
      cases h3 : l.any (idH h.1) with
      | true => rw [h3] at he; exact absurd (show (3 : Int) = 0 from he) (by decide)
      | false =>
        rw [h3] at he
        have := may_len h1
        cases h4 : ((l.length : Int) == 64) with
        | true => rw [h4] at he; exact absurd (show (6 : Int) = 0 from he) (by decide)
        | false =>
          have h4 : ¬ (l.length : Int) = 64 := by simpa using h4
          exact ⟨rfl, rfl, rfl, by omega⟩

theorem addE_of {l : List (El THost)} {h : El THost} (h1 : mayTB l = true) (h2 : mayB h = true) (h3 : l.any (idH h.1) = false) (h4 : l.length < 64) : addE l h = 0 := by
  have h5 : ((l.length : Int) == 64) = false := by simp; omega
  unfold addE
  rw [h1, h2, there_eq (may_rises h1), h3, h5]; rfl

theorem put_rises {l : List (El THost)} {h : El THost} (hr : risesK (keysL l) = true) (hn : l.any (idH h.1) = false) : (putIn l (placeK (keysL l) (h.1, 0)) h).Pairwise fun a b => a.1 < b.1 := by
  have hp := rises_pair hr
  have hpl := place_le (keysL l) (h.1, 0)
  rw [keys_len] at hpl
  have hat := hp
  rw [← List.take_append_drop (placeK (keysL l) (h.1, 0)) l] at hat
  obtain ⟨p1, p2, p3⟩ := List.pairwise_append.1 hat
  have hlow : ∀ x, x ∈ l.take (placeK (keysL l) (h.1, 0)) → x.1 < h.1 := fun x hx => by
    obtain ⟨k, hk, rfl⟩ := List.mem_iff_getElem.1 hx
    rw [List.length_take] at hk
    have := place_id hr h.1 (k := k) (by omega)
    rw [dec_t (show k < _ by omega)] at this
    have e : rdEl THost l k = (l.take (placeK (keysL l) (h.1, 0)))[k]'(by rw [List.length_take]; omega) := by simp [rdEl, List.getD, show k < l.length by omega]
    rw [← e]
    exact of_decide_eq_true this
  have hhigh : ∀ x, x ∈ l.drop (placeK (keysL l) (h.1, 0)) → h.1 < x.1 := fun x hx => by
    have hxl : x ∈ l := List.mem_of_mem_drop hx
    obtain ⟨k, hk, rfl⟩ := List.mem_iff_getElem.1 hx
    rw [List.length_drop] at hk
    have := place_id hr h.1 (k := placeK (keysL l) (h.1, 0) + k) (by omega)
    rw [dec_f (show ¬ placeK (keysL l) (h.1, 0) + k < placeK (keysL l) (h.1, 0) by omega)] at this
    have e : rdEl THost l (placeK (keysL l) (h.1, 0) + k) = (l.drop (placeK (keysL l) (h.1, 0)))[k]'(by rw [List.length_drop]; omega) := by simp [rdEl, List.getD, show placeK (keysL l) (h.1, 0) + k < l.length by omega]
    rw [← e] at hxl ⊢
    have h1 := of_decide_eq_false this
    have h2 := List.any_eq_false.1 hn _ hxl
    have h2 : ¬ (rdEl THost l (placeK (keysL l) (h.1, 0) + k)).1 = h.1 := by simpa [idH] using h2
    exact Int.lt_iff_le_and_ne.2 ⟨Int.not_lt.1 h1, fun e => h2 e.symm⟩
  unfold putIn
  refine List.pairwise_append.2 ⟨p1, List.pairwise_cons.2 ⟨hhigh, p2⟩, fun a hA b hB => ?_⟩
  rcases List.mem_cons.1 hB with hB | hB
  · rw [hB]; exact hlow a hA
  · exact p3 a hA b hB

theorem addL_eq {l : List (El THost)} {h : El THost} (he : addE l h = 0) : addL l h = putIn l (placeK (keysL l) (h.1, 0)) h := by
  unfold addL
  rw [he]; rfl
theorem addL_nil {l : List (El THost)} {h : El THost} (he : addE l h ≠ 0) : addL l h = [] := by
  unfold addL
  rw [beq_eq_false_iff_ne.2 he]; rfl

theorem add_mem {l : List (El THost)} {h : El THost} (he : addE l h = 0) (x : El THost) : x ∈ addL l h ↔ x = h ∨ x ∈ l := by
  rw [addL_eq he, mem_putIn]
theorem add_len {l : List (El THost)} {h : El THost} (he : addE l h = 0) : (addL l h).length = l.length + 1 := by
  have := place_le (keysL l) (h.1, 0)
  rw [keys_len] at this
  rw [addL_eq he, putIn_len this]
theorem add_may {l : List (El THost)} {h : El THost} (he : addE l h = 0) : mayTB (addL l h) = true := by
  obtain ⟨h1, h2, h3, h4⟩ := addE_ok he
  refine (may_iff _).2 ⟨by rw [add_len he]; omega, ?_, fun x hx => ?_⟩
  · rw [addL_eq he]
    exact put_rises (may_rises h1) h3
  · rcases (add_mem he x).1 hx with hx | hx
    · rw [hx]; exact h2
    · exact ((may_iff l).1 h1).2.2 x hx

theorem fits_hosts {l : List (El THost)} (h64 : l.length ≤ 65) (h : ∀ x, x ∈ l → fits THost x = true) : fits (.sl THost) l = true := fits_sl (t := THost) (by
  have hR : reachBytes = 140737488351232 := rfl
  show l.length * 80 ≤ _; omega) h

theorem fits_add {l : List (El THost)} {h : El THost} (hl : fits (.sl THost) l = true) (hh : fits THost h = true) : fits (.sl THost) (addL l h) = true := by
  by_cases he : addE l h = 0
  · obtain ⟨h1, _, _, h4⟩ := addE_ok he
    refine fits_hosts (by rw [add_len he]; omega) fun x hx => ?_
    rcases (add_mem he x).1 hx with hx | hx
    · rw [hx]; exact hh
    · exact fits_mem (t := THost) hl hx
  · rw [addL_nil he]; rfl

theorem fits_cut {l : List (El THost)} {i : Int} (hl : fits (.sl THost) l = true) : fits (.sl THost) (cutL l i) = true := by
  unfold cutL
  by_cases hc : cutE l i = 0
  · rw [beq_iff_eq.2 hc, cond_true]
    have h1 : mayTB l = true := by
      unfold cutE at hc
      cases h : mayTB l with
      | false => rw [h] at hc; exact absurd (show (1 : Int) = 0 from hc) (by decide)
      | true => rfl
    have := may_len h1
    have hlen : (cutOut l (ixOf (idH i) l).toNat ((ixOf (idH i) l).toNat + 1)).length ≤ l.length := by
      unfold cutOut
      rw [List.length_append, List.length_take, List.length_drop]; omega
    refine fits_hosts (by omega) fun x hx => fits_mem (t := THost) hl ?_
    unfold cutOut at hx
    rcases List.mem_append.1 hx with hx | hx
    · exact List.mem_of_mem_take hx
    · exact List.mem_of_mem_drop hx
  · rw [beq_eq_false_iff_ne.2 hc]; rfl

theorem filt_len (p : El THost → Bool) {l : List (El THost)} (h : mayTB l = true) : (idsL (l.filter p)).length ≤ 64 := by
  rw [ids_len]
  exact Nat.le_trans (List.length_filter_le _ _) (may_len h)

theorem fits_chg {l m : List (El THost)} : fits (.sl (.int .i64)) (comeL l m) = true ∧ fits (.sl (.int .i64)) (goneL l m) = true ∧ fits (.sl (.int .i64)) (stayL l m) = true ∧ fits (.sl (.int .i64)) (goneR l m) = true := by
  unfold comeL goneL stayL goneR mayCB
  cases h1 : mayTB l with
  | false => exact ⟨rfl, rfl, rfl, rfl⟩
  | true =>
    cases h2 : mayTB m with
    | false => exact ⟨rfl, rfl, rfl, rfl⟩
    | true => exact ⟨fits_ints (filt_len _ h2), fits_ints (filt_len _ h1), fits_ints (filt_len _ h2), fits_ints (filt_len _ h1)⟩

/-! ### who stays -/

theorem ix_at {l : List (El THost)} (hp : l.Pairwise fun a b => a.1 < b.1) {x : El THost} (hx : x ∈ l) : decide (ixOf (idH x.1) l ≥ 0) = true ∧ rdEl THost l (ixOf (idH x.1) l).toNat = x := by
  have ha : l.any (idH x.1) = true := List.any_eq_true.2 ⟨x, hx, by simp [idH]⟩
  refine ⟨by rw [any_ge, ha], ?_⟩
  rcases ix_cases l x.1 with ⟨_, _, h3⟩ | ⟨j, h1, h2, h3, h4, h5⟩
  · rw [ha] at h3; cases h3
  · rw [h1, toNat_cast]
    have e2 : l.take (j + 1) = l.take j ++ [l[j]] := List.take_succ_eq_append_getElem h2
    have hk : idH x.1 l[j] = true := by
      rw [e2, List.filter_append] at h4
      have := congrArg List.length h4
      rw [List.length_append, h3] at this
      cases hp : idH x.1 l[j] with
      | true => rfl
      | false => rw [List.filter_cons, hp] at this; simp at this
    have hk : l[j].1 = x.1 := by simpa [idH] using hk
    have e : rdEl THost l j = l[j] := by simp [rdEl, List.getD, h2]
    rw [e]
    obtain ⟨i, hi, rfl⟩ := List.mem_iff_getElem.1 hx
    have hpp := List.pairwise_iff_getElem.1 hp
    rcases Nat.lt_trichotomy i j with hij | hij | hij
    · have := hpp i j hi h2 hij
      rw [hk] at this
      exact absurd this (Int.lt_irrefl _)
    · subst hij; rfl
    · have := hpp j i h2 hi hij
      rw [hk] at this
      exact absurd this (Int.lt_irrefl _)

/-- It stays: one of the same number and address is there. -/
theorem stays_iff {l : List (El THost)} (hp : l.Pairwise fun a b => a.1 < b.1) (h : El THost) : staysB l h = true ↔ ∃ x, x ∈ l ∧ x.1 = h.1 ∧ x.2.1.toList = h.2.1.toList := by
  unfold staysB
  constructor
  · intro hs
    rw [Bool.and_eq_true] at hs
    obtain ⟨h1, h2⟩ := hs
    rw [any_ge] at h1
    obtain ⟨x, hx, hi⟩ := List.any_eq_true.1 h1
    have hi : x.1 = h.1 := by simpa [idH] using hi
    obtain ⟨_, h4⟩ := ix_at hp hx
    rw [← hi, h4] at h2
    exact ⟨x, hx, hi, by simpa using h2⟩
  · rintro ⟨x, hx, hi, ha⟩
    obtain ⟨h3, h4⟩ := ix_at hp hx
    rw [← hi, h3, h4, ha]; simp

theorem gone_eq (l m : List (El THost)) : goneL l m = goneR l m := by
  unfold goneL goneR mayCB
  cases h1 : mayTB l with
  | false => rfl
  | true =>
    cases h2 : mayTB m with
    | false => rfl
    | true =>
      have p1 := ((may_iff l).1 h1).2.1
      have p2 := ((may_iff m).1 h2).2.1
      show idsL _ = idsL _
      congr 1
      refine List.filter_congr fun h hh => ?_
      congr 1
      rw [Bool.eq_iff_iff, stays_iff p2, List.any_eq_true]
      constructor
      · rintro ⟨i, hi, he⟩
        have he : h.1 = i := by simpa [intEq] using he
        unfold idsL at hi
        obtain ⟨x, hx, hxi⟩ := List.mem_map.1 hi
        obtain ⟨hx1, hx2⟩ := List.mem_filter.1 hx
        obtain ⟨y, hy, hy1, hy2⟩ := (stays_iff p1 x).1 hx2
        have hyh : y = h := by
          have a := (ix_at p1 hy).2
          have b := (ix_at p1 hh).2
          have e : y.1 = h.1 := hy1.trans (hxi.trans he.symm)
          rw [e] at a
          exact a.symm.trans b
        exact ⟨x, hx1, hxi.trans he.symm, by rw [← hy2, hyh]⟩
      · rintro ⟨x, hx, hi, ha⟩
        refine ⟨h.1, ?_, by simp [intEq]⟩
        unfold idsL
        exact List.mem_map.2 ⟨x, List.mem_filter.2 ⟨hx, (stays_iff p1 x).2 ⟨h, hh, hi.symm, ha.symm⟩⟩, hi⟩

/-! ### the laws -/

theorem lForms_R : lForms.Law := fun l m h i hx => by
  have hf : (fits (.sl THost) l && (fits (.sl THost) m && (fits THost h && (true && true)))) = true := hx
  simp only [Bool.and_eq_true] at hf
  obtain ⟨f1, f2, f3, _⟩ := hf
  have a1 : (fits (.sl THost) l && true) = true := by rw [f1]; rfl
  have a2 : (fits (.sl THost) m && true) = true := by rw [f2]; rfl
  have a3 : (fits THost h && true) = true := by rw [f3]; rfl
  have a4 : (fits (.sl THost) l && (fits THost h && true)) = true := by rw [f1, f3]; rfl
  have a5 : (fits (.sl THost) l && (true && true)) = true := by rw [f1]; rfl
  have a6 : (fits (.sl THost) l && (fits (.sl THost) m && true)) = true := by rw [f1, f2]; rfl
  have a7 : sameHR.pre (addL l h, addL l h, ()) = true := by
    show (fits (.sl THost) (addL l h) && (fits (.sl THost) (addL l h) && true)) = true
    rw [fits_add f1 f3]; rfl
  have a8 : sameHR.pre (cutL l i, cutL l i, ()) = true := by
    show (fits (.sl THost) (cutL l i) && (fits (.sl THost) (cutL l i) && true)) = true
    rw [fits_cut f1]; rfl
  have hc := fits_chg (l := l) (m := m)
  have a9 : ints.pre (comeL l m, comeL l m, ()) = true := by
    show (fits (.sl (.int .i64)) (comeL l m) && (fits (.sl (.int .i64)) (comeL l m) && true)) = true
    rw [hc.1]; rfl
  have a10 : ints.pre (goneR l m, goneR l m, ()) = true := by
    show (fits (.sl (.int .i64)) (goneR l m) && (fits (.sl (.int .i64)) (goneR l m) && true)) = true
    rw [hc.2.2.2]; rfl
  have a11 : ints.pre (stayL l m, stayL l m, ()) = true := by
    show (fits (.sl (.int .i64)) (stayL l m) && (fits (.sl (.int .i64)) (stayL l m) && true)) = true
    rw [hc.2.2.1]; rfl
  have hh : ∃ f, lForms.go f l m h i = some (vb true, []) := by
    refine ⟨1, ?_⟩
    rw [lForms.start, test_true (show lightT.pre (l, ()) = true from a1), test_true (show lightT.pre (m, ()) = true from a2), test_true (show light.pre (h, ()) = true from a3)]
    by_cases hc : IntKind.i64.wrap (IntKind.i64.wrap (lightTI l + lightTI m) + lightI h) > 0
    · rw [cond_dt hc]; rfl
    · rw [cond_df hc, test_true (show add.pre (l, h, ()) = true from a4), test_true (show addR.pre (l, h, ()) = true from a4), test_true (show cut.pre (l, i, ()) = true from a5), test_true (show cutR.pre (l, i, ()) = true from a5),
        test_true (show change.pre (l, m, ()) = true from a6), test_true (show changeR.pre (l, m, ()) = true from a6), test_true a7, sameHB_refl, cond_true, cond_et rfl, test_true a8, sameHB_refl, cond_true, cond_et rfl, test_true a9, eqIs_refl, cond_true,
        gone_eq, test_true a10, eqIs_refl, cond_true, test_true a11, eqIs_refl, cond_true, cond_et rfl, test_true (show mayT.pre (l, ()) = true from a1), test_true (show mayTR.pre (l, ()) = true from a1), cond_t (show (mayTB l == mayTB l) = true by simp),
        test_true (show find.pre (l, i, ()) = true from a5), test_true (show findR.pre (l, i, ()) = true from a5), cond_et rfl]
      rfl
  obtain ⟨f, hf⟩ := hh
  exact lForms.ret (lightT_ok.cons' (light_ok.cons' (awake_ok.cons' (sameHR_ok.cons' (ints_ok.cons' (mayT_ok.cons' (mayTR_ok.cons' (find_ok.cons' (findR_ok.cons' SpecsOK.nil))))))))) (add_ok.cons' (addR_ok.cons' (cut_ok.cons' (cutR_ok.cons' (change_ok.cons' (changeR_ok.cons' .nil)))))) l m h i hf

end Go.Proofs.Ytlbdljebmjajdaa
