/-
  Who may be picked: what the laws' functions come to.
-/
import Derived.Test.YtemkgdkkpeijfaaFB
import Derived.Test.YtemkgdkkpeijfaaU
import Derived.Laws.Closers25b
namespace Go.Proofs.Ytemkgdkkpeijfaa
open Go VE

theorem pSt {l : List (El TStatus)} (h : fits (.sl TStatus) l = true) : (fits (.sl TStatus) l && true) = true := by rw [h]; rfl
theorem pStI {l : List (El TStatus)} (h : fits (.sl TStatus) l = true) : (fits (.sl TStatus) l && (true && true)) = true := by rw [h]; rfl
theorem pStL {l : List (El TStatus)} {no : List Int} (h : fits (.sl TStatus) l = true) (h2 : fits (.sl (.int .i64)) no = true) : (fits (.sl TStatus) l && (fits (.sl (.int .i64)) no && true)) = true := by rw [h, h2]; rfl
theorem pStP {l : List (El TStatus)} {c : List (El TPair)} (h : fits (.sl TStatus) l = true) (h2 : fits (.sl TPair) c = true) : (fits (.sl TStatus) l && (fits (.sl TPair) c && (true && true))) = true := by rw [h, h2]; rfl
theorem pSS {l m : List (El TStatus)} (h : fits (.sl TStatus) l = true) (h2 : fits (.sl TStatus) m = true) : (fits (.sl TStatus) l && (fits (.sl TStatus) m && true)) = true := by rw [h, h2]; rfl
theorem fits_ofL {l : List (El TStatus)} (h : fits (.sl TStatus) l = true) (c : List (El TPair)) (b : Bool) : fits (.sl TStatus) (ofL l c b) = true := by
  unfold ofL
  cases ((((l.filter memB).filter (pOf c)).length : Int) == 0) && b
  · exact fits_filter (fits_filter h)
  · exact fits_filter h
theorem pLi {c : List (El TPair)} (h : fits (.sl TPair) c = true) : (fits THost (((0 : Int), ((⟨#[]⟩ : ByteArray), ((0 : Int), ((⟨#[]⟩ : ByteArray), ((0 : Int), c)))))) && true) = true := by
  rw [fits_bareS h (by kernel_rfl) (by kernel_rfl)]; rfl

theorem lForms_R : lForms.Law := fun l c fb pr lm no hx => by
  have h : (fits (.sl TStatus) l && (fits (.sl TPair) c && (fits .bool fb && (true && (true && (fits (.sl (.int .i64)) no && true)))))) = true := hx
  simp only [Bool.and_eq_true] at h
  obtain ⟨hl, hc, _, _, _, hn, _⟩ := h
  refine lForms.ret (lightS16_ok.cons' (light_ok.cons' (awake_ok.cons' (fOf_ok.cons' (fGr_ok.cons' (fFr_ok.cons' (fWo_ok.cons' (fBe_ok.cons' (rOf_ok.cons' (rGr_ok.cons' (rFr_ok.cons' (rWo_ok.cons' (rBe_ok.cons' (sameSR_ok.cons' SpecsOK.nil)))))))))))))) l c fb pr lm no (m := 1) ?_
  rw [lForms.start]
  refine (test_true (pSt hl)).trans ((test_true (pLi hc)).trans ?_)
  by_cases h1 : (IntKind.i64.wrap (lightL l + lightI ((0 : Int), ((⟨#[]⟩ : ByteArray), ((0 : Int), ((⟨#[]⟩ : ByteArray), ((0 : Int), c))))))) > 0
  · rw [cond_dt h1]; rfl
  rw [cond_df h1]
  by_cases h2 : (no.length : Int) > 100
  · rw [cond_dt h2]; rfl
  rw [cond_df h2]
  have ho := fits_ofL hl c fb
  refine (test_true (pStP hl hc)).trans ((test_true (pStP hl hc)).trans ((test_true (pSS ho ho)).trans ((cond_t (sameSB_self _)).trans ?_)))
  refine (test_true (pStI hl)).trans ((test_true (pStI hl)).trans ((test_true (pSS (fits_filter hl) (fits_filter hl))).trans ((cond_t (sameSB_self _)).trans ?_)))
  refine (test_true (pSt hl)).trans ((test_true (pSt hl)).trans ((test_true (pSS (fits_filter hl) (fits_filter hl))).trans ((cond_t (sameSB_self _)).trans ?_)))
  refine (test_true (pStL hl hn)).trans ((test_true (pStL hl hn)).trans ((test_true (pSS (fits_filter hl) (fits_filter hl))).trans ((cond_t (sameSB_self _)).trans ?_)))
  refine (test_true (pStI hl)).trans ((test_true (pStI hl)).trans ((test_true (pSS (fits_filter hl) (fits_filter hl))).trans ((cond_t (sameSB_self _)).trans ?_)))
  rfl

/-! ### a lower limit -/

theorem below_sub {a b : Int} (h : a ≤ b) (l : List (El TStatus)) : (l.filter (pBe b)).filter (pBe a) = l.filter (pBe a) := by
  rw [List.filter_filter]
  refine List.filter_congr fun s _ => ?_
  unfold pBe
  by_cases h1 : sAct s < a
  · rw [dec_t h1, dec_t (by omega)]; rfl
  · rw [dec_f h1]; rfl
theorem below_len {a b : Int} (h : a ≤ b) (l : List (El TStatus)) : (l.filter (pBe a)).length ≤ (l.filter (pBe b)).length := by
  rw [← below_sub h l]; exact List.length_filter_le _ _

theorem lBelow_R : lBelow.Law := fun l a b hx => by
  have h : (fits (.sl TStatus) l && (true && (true && true))) = true := hx
  simp only [Bool.and_eq_true] at h
  have hl := h.1
  refine lBelow.ret (lightS16_ok.cons' (awake_ok.cons' (fBe_ok.cons' (sameSR_ok.cons' SpecsOK.nil)))) l a b (m := 1) ?_
  rw [lBelow.start]
  refine (test_true (pSt hl)).trans ?_
  by_cases h1 : lightL l > 0
  · rw [cond_dt h1]; rfl
  rw [cond_df h1]
  by_cases h2 : a > b
  · rw [cond_dt h2]
    refine (test_true (pStI hl)).trans ((test_true (pStI hl)).trans ((test_true (pStI (fits_filter hl))).trans ((test_true (pSS (fits_filter (fits_filter hl)) (fits_filter hl))).trans ((cond_t (by rw [below_sub (by omega)]; exact sameSB_self _)).trans ?_))))
    have := below_len (show b ≤ a by omega) l
    rw [cond_dt (by omega)]; rfl
  · rw [cond_df h2]
    refine (test_true (pStI hl)).trans ((test_true (pStI hl)).trans ((test_true (pStI (fits_filter hl))).trans ((test_true (pSS (fits_filter (fits_filter hl)) (fits_filter hl))).trans ((cond_t (by rw [below_sub (by omega)]; exact sameSB_self _)).trans ?_))))
    have := below_len (show a ≤ b by omega) l
    rw [cond_dt (by omega)]; rfl

/-! ### a subset -/

theorem fits_more {c : List (El TPair)} {p : El TPair} (hc : fits (.sl TPair) c = true) (hp : fits TPair p = true) (hn : c.length ≤ 268435456) : fits (.sl TPair) (c ++ [p]) = true := fits_sl (t := TPair) (by
    have e : bytesTy TPair = 32 := rfl
    have hr : reachBytes = 140737488351232 := rfl
    rw [e, hr, List.length_append, List.length_cons, List.length_nil]; omega) fun e he => by
    rcases List.mem_append.1 he with he | he
    · exact fits_mem hc he
    · rw [List.mem_singleton] at he
      subst he
      exact hp

theorem has_more (h : El THost) (c : List (El TPair)) (p : El TPair) (hh : hasB h (c ++ [p]) = true) : hasB h c = true := by
  unfold hasB at *
  rw [List.all_append, Bool.and_eq_true] at hh
  exact hh.1

theorem of_more (M : List (El TStatus)) (c : List (El TPair)) (p : El TPair) : (M.filter (pOf (c ++ [p]))).length ≤ (M.filter (pOf c)).length := by
  have : M.filter (pOf (c ++ [p])) = (M.filter (pOf c)).filter (pOf (c ++ [p])) := by
    rw [List.filter_filter]
    refine List.filter_congr fun s _ => ?_
    unfold pOf
    cases hp : hasB s.1 (c ++ [p]) with
    | true => rw [has_more _ _ _ hp]; rfl
    | false => rfl
  rw [this]; exact List.length_filter_le _ _

theorem ofL_false (l : List (El TStatus)) (c : List (El TPair)) : ofL l c false = (l.filter memB).filter (pOf c) := by
  unfold ofL; rw [Bool.and_false]; rfl

theorem sub_loop (l : List (El TStatus)) (c : List (El TPair)) (hc : fits (.sl TPair) c = true) (A B C : List (El TStatus)) (hA : fits (.sl TStatus) A = true) (hin : ∀ s, s ∈ A → sDrains s = false ∧ hasB s.1 c = true) {r : R}
    (K : ∃ m, lSubset.l1 m l c A B C A A.length A.length = r) : ∀ (n k : Nat), A.length = k + n → ∃ m, lSubset.l1 m l c A B C A A.length k = r
  | 0, k, h => by
    have : k = A.length := by omega
    rw [this]; exact K
  | n + 1, k, h => by
    obtain ⟨m, hm⟩ := sub_loop l c hc A B C hA hin K n (k + 1) (by omega)
    have hb := stat_len hA
    have hr := reach_lt
    have hk : k < A.length := by omega
    have hf := fits_rd hA hk
    have hi := hin (rdEl TStatus A k) (by rw [show rdEl TStatus A k = A[k] by simp [rdEl, List.getD, hk]]; exact List.getElem_mem hk)
    refine ⟨m + 1, ?_⟩
    rw [lSubset.s1, cond_dt (by omega), test_d (by omega), test_d (by omega), w64s (by omega), toNat_cast]
    refine (cond_f hi.1).trans ((test_true (show (fits THost (rdEl TStatus A k).1 && (fits (.sl TPair) c && true)) = true by rw [fits_stat hf, hc]; rfl)).trans ((cond_f (by rw [hi.2]; rfl)).trans hm))

theorem lSubset_R : lSubset.Law := fun l c p hx => by
  have h : (fits (.sl TStatus) l && (fits (.sl TPair) c && (fits TPair p && (decide (List.length c ≤ 268435456) && true)))) = true := hx
  simp only [Bool.and_eq_true, decide_eq_true_eq] at h
  obtain ⟨hl, hc, hp, hn, _⟩ := h
  have hh : ∃ m, lSubset.go m l c p = some (vb true, []) := by
    have hlim : lim 32 = 4398046511104 := by simp [lim]
    have hc2 := fits_more hc hp hn
    have t1 : ([] : List (El TPair)).length + c.length ≤ lim 32 := by rw [hlim, List.length_nil]; omega
    have t2 : (([] : List (El TPair)) ++ c).length + (p :: ([] : List (El TPair))).length ≤ lim 32 := by rw [hlim, List.nil_append, List.length_cons, List.length_nil]; omega
    by_cases h1 : (IntKind.i64.wrap (lightL l + lightI ((0 : Int), ((⟨#[]⟩ : ByteArray), ((0 : Int), ((⟨#[]⟩ : ByteArray), ((0 : Int), c ++ [p]))))))) > 0
    · refine ⟨1, ?_⟩
      rw [lSubset.start]
      refine (test_true (pSt hl)).trans ?_
      rw [test_d t1, test_d t2, List.nil_append]
      refine (test_true (pLi hc2)).trans ?_
      rw [cond_dt h1]; rfl
    have hM := fits_filter (p := memB) hl
    have hA : fits (.sl TStatus) (ofL l c false) = true := fits_ofL hl c false
    have hB : fits (.sl TStatus) (ofL l c true) = true := fits_ofL hl c true
    have eA := ofL_false l c
    have eC := ofL_false l (c ++ [p])
    have hCA : (ofL l (c ++ [p]) false).length ≤ (ofL l c false).length := by rw [eA, eC]; exact of_more _ _ _
    have hK : ∃ m, lSubset.l1 m l c (ofL l c false) (ofL l c true) (ofL l (c ++ [p]) false) (ofL l c false) (ofL l c false).length (ofL l c false).length = some (vb true, []) := by
      refine ⟨1, ?_⟩
      rw [lSubset.s1, cond_df (by omega)]
      by_cases h0 : ((ofL l c false).length : Int) = 0
      · have eB : ofL l c true = l.filter memB := by
          rw [eA] at h0
          unfold ofL
          rw [beq_iff_eq.2 h0]; rfl
        refine (cond_et h0).trans ((test_true (pSt hl)).trans ((test_true (pSS hB hM)).trans ((cond_t (by rw [eB]; exact sameSB_self _)).trans ?_)))
        exact (cond_et (show ((ofL l (c ++ [p]) false).length : Int) = 0 by omega)).trans rfl
      · have eB : ofL l c true = ofL l c false := by
          rw [eA]
          rw [eA] at h0
          unfold ofL
          rw [beq_eq_false_iff_ne.2 h0]; rfl
        refine (cond_ef h0).trans ((test_true (pSS hA hB)).trans ((cond_t (by rw [eB]; exact sameSB_self _)).trans ?_))
        rw [cond_dt (by omega)]
        have eN : ofL l [] false = l.filter memB := by
          rw [ofL_false]
          exact List.filter_eq_self.2 fun s _ => rfl
        have hN : fits (.sl TPair) ([] : List (El TPair)) = true := by kernel_rfl
        refine (test_true (pStP hl hN)).trans ((test_true (pSt hl)).trans ((test_true (pSS (fits_ofL hl [] false) hM)).trans ((cond_t (by rw [eN]; exact sameSB_self _)).trans rfl)))
    obtain ⟨m, hm⟩ := sub_loop l c hc (ofL l c false) (ofL l c true) (ofL l (c ++ [p]) false) hA (fun s hs => by
      rw [eA] at hs
      obtain ⟨h1, h2⟩ := List.mem_filter.1 hs
      have h3 := (List.mem_filter.1 h1).2
      unfold memB at h3
      exact ⟨by simpa using h3, h2⟩) hK (ofL l c false).length 0 (by omega)
    refine ⟨m + 1, ?_⟩
    rw [lSubset.start]
    refine (test_true (pSt hl)).trans ?_
    rw [test_d t1, test_d t2, List.nil_append]
    refine (test_true (pLi hc2)).trans ?_
    rw [cond_df h1]
    refine (test_true (pStP hl hc)).trans ((test_true (pStP hl hc)).trans ?_)
    rw [test_d t1]
    have t3 : c.length + (p :: ([] : List (El TPair))).length ≤ lim 32 := t2
    rw [test_d t3]
    exact (test_true (pStP hl hc2)).trans hm
  obtain ⟨m, hm⟩ := hh
  exact lSubset.ret (lightS16_ok.cons' (light_ok.cons' (awake_ok.cons' (fOf_ok.cons' (sameSR_ok.cons' (membersR_ok.cons' (hasR_ok.cons' SpecsOK.nil))))))) l c p hm

theorem lSubset_pre (l : List (El TStatus)) (c : List (El TPair)) (p : El TPair) (hx : wfsB 8589934592 [(false, .sl TStatus), (false, .sl TPair), (true, TPair)] (l, c, p, ())) : lSubset.pre (l, c, p, ()) = true := by
  obtain ⟨h1, h2, h3, _⟩ := hx
  have b3 : List.length c * 32 ≤ 8589934592 := h2.1
  show (fits (.sl TStatus) l && (fits (.sl TPair) c && (fits TPair p && (decide (List.length c ≤ 268435456) && true)))) = true
  rw [fits_of_wf _ _ (wfB_mono (by simp [reachBytes]) _ _ h1), fits_of_wf _ _ (wfB_mono (by simp [reachBytes]) _ _ h2), fits_of_wf _ _ (wfB_mono (by simp [reachBytes]) _ _ h3), dec_t (by omega)]
  rfl

end Go.Proofs.Ytemkgdkkpeijfaa
