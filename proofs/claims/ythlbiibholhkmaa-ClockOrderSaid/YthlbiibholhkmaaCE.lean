/-
  Timers: the clock plays as the document's does.
-/
import Derived.Test.YthlbiibholhkmaaCD
import Derived.Test.YthlbiibholhkmaaCT
namespace Go.Proofs.Ythlbiibholhkmaa
open Go VE

theorem place_front {l : List Tm} (ha : l.Pairwise fun a b => ltT a b = true) (t : Tm) : frontT t l = placeT l t := by
  induction l with
  | nil => rfl
  | cons a l ih =>
    obtain ⟨h1, h2⟩ := List.pairwise_cons.1 ha
    have ih := ih h2
    unfold placeT at *
    rw [List.filter_cons]
    show (bif ltT a t then frontT t l + 1 else 0) = _
    cases hp : ltT a t with
    | true => rw [if_pos rfl, List.length_cons, cond_true, ih]
    | false =>
      rw [if_neg (by decide)]
      have hnone : l.filter (fun x => ltT x t) = [] := List.filter_eq_nil_iff.2 fun x hx hx2 => by
        have := ltT_trans (h1 x hx) hx2
        rw [hp] at this; cases this
      rw [hnone]; rfl

theorem cutRC_eq {c : El TClock} {k : Nat} (h : Cok c k) (a i : Int) : cutRC c a i = cutC c a i := by
  unfold cutRC cutC
  rw [cut_drop h.key]; rfl

theorem setRC_eq {c : El TClock} {k : Nat} (h : Cok c k) (t : El TTimer) : setRC c t = setC c t := by
  unfold setRC setC
  have e : dropR t.2.1 t.2.2 c.2 = cutT c.2 t.2.1 t.2.2 := (cut_drop h.key _ _).symm
  have e2 : frontT t (cutT c.2 t.2.1 t.2.2) = placeT (cutT c.2 t.2.1 t.2.2) t := place_front (h.cut t.2.1 t.2.2).asc t
  rw [e, e2]

theorem drop_any (a i : Int) : ∀ (l : List (El TTimer)), (l.any (keyK a i) = true ∧ (dropR a i l).length < l.length) ∨ (l.any (keyK a i) = false ∧ dropR a i l = l)
  | [] => .inr ⟨rfl, rfl⟩
  | x :: l => by
    unfold dropR
    rw [List.any_cons, List.filter_cons]
    cases hx : keyK a i x with
    | true =>
      refine .inl ⟨rfl, ?_⟩
      have := dropR_len a i l
      unfold dropR at this
      show (l.filter _).length < l.length + 1
      omega
    | false =>
      rcases drop_any a i l with ⟨h1, h2⟩ | ⟨h1, h2⟩
      · unfold dropR at h2
        exact .inl ⟨h1, by show (l.filter _).length + 1 < l.length + 1; omega⟩
      · unfold dropR at h2
        exact .inr ⟨h1, by show x :: l.filter _ = x :: l; rw [h2]⟩

theorem cutRB_eq (c : El TClock) (a i : Int) : cutRB c a i = hasK c.2 a i := by
  rw [hasK_any]
  unfold cutRB
  rcases drop_any a i c.2 with ⟨h1, h2⟩ | ⟨h1, h2⟩
  · rw [h1]; simp [bne]; omega
  · rw [h1, h2]; simp [bne]

theorem ixOf_find (p : El TTimer → Bool) : ∀ (l : List (El TTimer)), (bif !decide (ixOf p l < 0) then (rdEl TTimer l (ixOf p l).toNat).1 else 0) = (match l.find? p with | some t => t.1 | none => 0) := fun l => by
  rcases VE.ixOf_cases p l with ⟨h1, _, h3⟩ | ⟨j, h1, h2, h3, h4, h5⟩
  · rw [h1, List.find?_eq_none.2 fun x hx => by have := List.any_eq_false.1 h3 x hx; simpa using this]; rfl
  · have h1 : ixOf p l = (j : Int) := h1
    have e2 : l.take (j + 1) = l.take j ++ [l[j]] := List.take_succ_eq_append_getElem h2
    have hk : p l[j] = true := by
      rw [e2, List.filter_append] at h4
      have := congrArg List.length h4
      rw [List.length_append, h3] at this
      cases hp : p l[j] with
      | true => rfl
      | false => rw [List.filter_cons, hp] at this; simp at this
    have hs : l = l.take j ++ (l[j] :: l.drop (j + 1)) := by rw [← List.drop_eq_getElem_cons h2, List.take_append_drop]
    have hf : (l.take j).find? p = none := List.find?_eq_none.2 fun x hx hpx => by
      rw [← h3] at hx
      have := (List.mem_filter.1 hx).2
      rw [hpx] at this; cases this
    have e1 : l.find? p = some l[j] := by
      conv => lhs; rw [hs]
      rw [List.find?_append, hf, List.find?_cons, hk]; rfl
    rw [h1, dec_f (by omega), toNat_cast, e1]
    have e3 : rdEl TTimer l j = l[j] := by simp [rdEl, List.getD, h2]
    rw [e3]; rfl

theorem atRI_eq (c : El TClock) (a i : Int) : atRI c a i = atI c a i := by
  unfold atI atRI hasK
  exact (ixOf_find _ _).symm

theorem eqT_refl (a : El TTimer) : eqT a a = true := by unfold eqT; simp
theorem eqTs_refl : ∀ (l : List (El TTimer)), eqTs l l = true
  | [] => rfl
  | a :: l => by show (eqT a a && eqTs l l) = true; rw [eqT_refl, eqTs_refl l]; rfl

theorem cond_nn {α : Type} {a b : Bool} {x y : α} (h : a = b) : cond (Bool.not (a == b)) x y = y := by subst h; cases a <;> rfl

theorem plays_tail {c : El TClock} {k : Nat} (h : Cok c k) (hk : k ≤ 1000) {F1 F2 X r : R} (hX : X = r) :
    test (now.pre (c, ())) (cond (bne c.1 c.1) F1 (test (allT.pre (c, ())) (test (sameTs.pre (c.2, c.2, ())) (cond (Bool.not (eqTs c.2 c.2)) F2 X)))) = r := by
  have hb : bne c.1 c.1 = false := by simp [bne]
  have hf := (fits_prod (h.fits hk)).2
  rw [test_true (now_pre h hk), hb, cond_false, test_true (show allT.pre (c, ()) = true from now_pre h hk), eqTs_refl, test_true (show sameTs.pre (c.2, c.2, ()) = true from by
    show (fits (.sl TTimer) c.2 && (fits (.sl TTimer) c.2 && true)) = true
    rw [hf]; rfl)]
  exact hX

theorem plays_loop (l : List (Int × El TTimer)) (h150 : l.length ≤ 150) : ∀ (d p : Nat) (c : El TClock), l.length = p + d → Cok c p → ∃ m, lPlays.l1 m l l.length p c.1 c.2 c.1 c.2 = some (vb true, [])
  | 0, p, c, h, hc => ⟨1, by rw [lPlays.s1, cond_df (by omega)]; rfl⟩
  | d + 1, p, c, h, hc => by
    have ih : ∀ c' : El TClock, Cok c' (p + 1) → ∃ m, lPlays.l1 m l l.length (IntKind.i64.wrap ((p : Int) + 1)) c'.1 c'.2 c'.1 c'.2 = some (vb true, []) := fun c' hc' => by
      rw [w64s (by omega)]
      exact plays_loop l h150 d (p + 1) c' (by omega) hc'
    obtain ⟨x, hx⟩ : ∃ x, rdEl (.prod (.int .i64) TTimer) l p = x := ⟨_, rfl⟩
    have hc1 := hc.mono (show p ≤ p + 1 by omega)
    have hp0 : ∀ {a i : Int}, (fits TClock c && (true && (true && true))) = true := fun {a i} => by rw [hc.fits (by omega)]; rfl
    by_cases h0 : x.1 = 0
    · have hc2 := hc.put x.2
      obtain ⟨m, hm⟩ := ih _ hc2
      refine ⟨m + 1, ?_⟩
      rw [lPlays.s1, cond_dt (by omega), test_d (by omega), test_d (by omega), toNat_cast, hx, setRC_eq (c := (c.1, c.2)) hc]
      refine (cond_et h0).trans ((test_true (put_pre hc (by omega) x.2)).trans ((test_true (show putR.pre (c, x.2, ()) = true from by
        show (fits TClock c && (fits TTimer x.2 && true)) = true
        rw [hc.fits (by omega)]; rfl)).trans ((cond_nn rfl).trans ?_)))
      exact plays_tail hc2 (by omega) hm
    by_cases h1 : x.1 = 1
    · have hc2 := hc1.cut x.2.2.1 x.2.2.2
      obtain ⟨m, hm⟩ := ih _ hc2
      refine ⟨m + 1, ?_⟩
      rw [lPlays.s1, cond_dt (by omega), test_d (by omega), test_d (by omega), toNat_cast, hx, cutRC_eq (c := (c.1, c.2)) hc, cutRB_eq]
      refine (cond_ef h0).trans ((cond_et h1).trans ((test_true (show cut.pre (c, x.2.2.1, x.2.2.2, ()) = true from hp0 (a := 0) (i := 0))).trans ((test_true (show cutR.pre (c, x.2.2.1, x.2.2.2, ()) = true from hp0 (a := 0) (i := 0))).trans ((cond_nn rfl).trans ?_))))
      exact plays_tail hc2 (by omega) hm
    by_cases h2 : x.1 = 2
    · have hc2 := hc1.due x.2.1
      obtain ⟨m, hm⟩ := ih _ hc2
      refine ⟨m + 1, ?_⟩
      rw [lPlays.s1, cond_dt (by omega), test_d (by omega), test_d (by omega), toNat_cast, hx]
      refine (cond_ef h0).trans ((cond_ef h1).trans ((cond_et h2).trans ((test_true (show due.pre (c, x.2.1, ()) = true from due_pre hc (by omega))).trans ((test_true (show dueR.pre (c, x.2.1, ()) = true from due_pre hc (by omega))).trans ((cond_t (eqT_refl _)).trans ((cond_nn rfl).trans ?_))))))
      exact plays_tail hc2 (by omega) hm
    by_cases h3 : x.1 = 3
    · have hc2 := hc1.goTo x.2.1
      obtain ⟨m, hm⟩ := ih _ hc2
      refine ⟨m + 1, ?_⟩
      rw [lPlays.s1, cond_dt (by omega), test_d (by omega), test_d (by omega), toNat_cast, hx]
      refine (cond_ef h0).trans ((cond_ef h1).trans ((cond_ef h2).trans ((cond_et h3).trans ((test_true (show goTo.pre (c, x.2.1, ()) = true from due_pre hc (by omega))).trans ((test_true (show goToR.pre (c, x.2.1, ()) = true from due_pre hc (by omega))).trans ((cond_nn rfl).trans ?_))))))
      exact plays_tail hc2 (by omega) hm
    · obtain ⟨m, hm⟩ := ih _ hc1
      refine ⟨m + 1, ?_⟩
      rw [lPlays.s1, cond_dt (by omega), test_d (by omega), test_d (by omega), toNat_cast, hx, atRI_eq, hasK_any]
      refine (cond_ef h0).trans ((cond_ef h1).trans ((cond_ef h2).trans ((cond_ef h3).trans ((test_true (show when.pre (c, x.2.2.1, x.2.2.2, ()) = true from hp0 (a := 0) (i := 0))).trans ((test_true (show whenR.pre (c, x.2.2.1, x.2.2.2, ()) = true from hp0 (a := 0) (i := 0))).trans ((cond_et rfl).trans ((cond_nn rfl).trans ?_)))))))
      exact plays_tail hc1 (by omega) hm

theorem timeC_ok (n : Int) : Cok (timeC n, []) 0 := cok_new (by unfold timeC top; split <;> (try split) <;> omega) (by unfold timeC top; split <;> (try split) <;> omega)

theorem lPlays_R : lPlays.Law := fun n l hx => by
  have hh : ∃ m, lPlays.go m n l = some (vb true, []) := by
    by_cases h1 : (l.length : Int) > 150
    · exact ⟨1, by rw [lPlays.start, cond_dt h1]; rfl⟩
    · obtain ⟨m, hm⟩ := plays_loop l (by omega) l.length 0 (timeC n, []) (by omega) (timeC_ok n)
      exact ⟨m + 1, by rw [lPlays.start, cond_df h1]; exact hm⟩
  obtain ⟨m, hm⟩ := hh
  exact lPlays.ret (awake_ok.cons' (now_ok.cons' (whenR_ok.cons' (sameTs_ok.cons' SpecsOK.nil)))) (new_ok.cons' (put_ok.cons' (cut_ok.cons' (due_ok.cons' (goTo_ok.cons' (when_ok.cons' (allT_ok.cons' (newR_ok.cons' (putR_ok.cons' (cutR_ok.cons' (dueR_ok.cons' (goToR_ok.cons' .nil)))))))))))) n l hm

end Go.Proofs.Ythlbiibholhkmaa
