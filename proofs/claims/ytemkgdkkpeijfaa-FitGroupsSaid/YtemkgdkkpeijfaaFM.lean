/-
  Who may be picked: whoever is left passes each; groups.
-/
import Derived.Test.YtemkgdkkpeijfaaFL
namespace Go.Proofs.Ytemkgdkkpeijfaa
open Go VE

theorem rd_mem {l : List (El TStatus)} {k : Nat} (hk : k < l.length) : rdEl TStatus l k ∈ l := by
  rw [show rdEl TStatus l k = l[k] by simp [rdEl, List.getD, hk]]; exact List.getElem_mem hk
theorem take_rdS {l : List (El TStatus)} {k : Nat} (hk : k < l.length) : l.take (k + 1) = l.take k ++ [rdEl TStatus l k] := by
  rw [List.take_succ_eq_append_getElem hk]
  simp [rdEl, List.getD, hk]
theorem any_next (no : List Int) (x : Int) {j : Nat} (hj : j < no.length) : (no.take (j + 1)).any (intEq x) = ((no.take j).any (intEq x) || intEq x (rdEl (.int .i64) no j)) := by
  have e2 : no.take (j + 1) = no.take j ++ [no[j]] := List.take_succ_eq_append_getElem hj
  have e3 : rdEl (.int .i64) no j = no[j] := by simp [rdEl, List.getD, hj]
  rw [e2, List.any_append, e3]
  simp only [List.any_cons, List.any_nil, Bool.or_false]

/-! ### whoever is left passes each -/

def pAll (pr lm : Int) (no : List Int) (s : El TStatus) : Bool := (pGr pr s && freeB s && pBe lm s) && pWo no s

theorem all_one (pr lm : Int) (no : List Int) (l : List (El TStatus)) : (((l.filter (pGr pr)).filter freeB).filter (pWo no)).filter (pBe lm) = l.filter (pAll pr lm no) := by
  simp only [List.filter_filter]
  refine List.filter_congr fun s _ => ?_
  unfold pAll
  cases pGr pr s <;> cases freeB s <;> cases pWo no s <;> cases pBe lm s <;> rfl
theorem all_two (pr lm : Int) (no : List Int) (l : List (El TStatus)) : (((l.filter (pWo no)).filter (pBe lm)).filter freeB).filter (pGr pr) = l.filter (pAll pr lm no) := by
  simp only [List.filter_filter]
  refine List.filter_congr fun s _ => ?_
  unfold pAll
  cases pGr pr s <;> cases freeB s <;> cases pWo no s <;> cases pBe lm s <;> rfl

/-- The round over those that are excluded, with a member in hand. -/
noncomputable def pR (m : Nat) (pr lm : Int) (no : List Int) (A : List (El TStatus)) (n : Int) (b : Bool) (l : List (El TStatus)) (ln k len j : Int) (s : El TStatus) : R := lPasses.l2 m pr lm no A n b l ln k no len j s.1.1 s.1.2.1 s.1.2.2.1 s.1.2.2.2.1 s.1.2.2.2.2.1 s.1.2.2.2.2.2 s.2.1.1 s.2.1.2.1 s.2.1.2.2.1 s.2.1.2.2.2 s.2.2.1 s.2.2.2.1.1 s.2.2.2.1.2 s.2.2.2.2.1.1 s.2.2.2.2.1.2.1 s.2.2.2.2.1.2.2.1 s.2.2.2.2.1.2.2.2 s.2.2.2.2.2.1 s.2.2.2.2.2.2.1 s.2.2.2.2.2.2.2.1 s.2.2.2.2.2.2.2.2
theorem pR_step (m : Nat) (pr lm : Int) (no : List Int) (A : List (El TStatus)) (n : Int) (b : Bool) (l : List (El TStatus)) (ln k len j : Int) (s : El TStatus) : pR (m + 1) pr lm no A n b l ln k len j s =
    cond (decide (j < len)) (test (decide ((0 : Int) ≤ j)) (test (decide (j < (no.length : Int))) (cond b (pR m pr lm no A n (bne (rdEl (.int .i64) no j.toNat) s.1.1) l ln k len (IntKind.i64.wrap (j + 1)) s) (pR m pr lm no A n false l ln k len (IntKind.i64.wrap (j + 1)) s))))
      (cond b (cond (decide (n ≥ (A.length : Int))) (some (vb false, [])) (test (decide ((0 : Int) ≤ n)) (test (decide (n < (A.length : Int))) (test (sameOR.pre (rdEl TStatus A n.toNat, s, ())) (cond (!sameOB (rdEl TStatus A n.toNat) s) (some (vb false, []))
        (lPasses.l1 m pr lm no A (IntKind.i64.wrap (n + 1)) l ln (IntKind.i64.wrap (k + 1))))))))
        (lPasses.l1 m pr lm no A n l ln (IntKind.i64.wrap (k + 1)))) := lPasses.s2 ..

theorem pR_loop (pr lm : Int) (no : List Int) (hn : no.length ≤ 100) (A : List (El TStatus)) (n : Int) (l : List (El TStatus)) (ln k : Int) (s : El TStatus) (M : Nat) (b0 : Bool) {r : R}
    (K : cond (b0 && pWo no s) (cond (decide (n ≥ (A.length : Int))) (some (vb false, [])) (test (decide ((0 : Int) ≤ n)) (test (decide (n < (A.length : Int))) (test (sameOR.pre (rdEl TStatus A n.toNat, s, ())) (cond (!sameOB (rdEl TStatus A n.toNat) s) (some (vb false, []))
        (lPasses.l1 M pr lm no A (IntKind.i64.wrap (n + 1)) l ln (IntKind.i64.wrap (k + 1))))))))
        (lPasses.l1 M pr lm no A n l ln (IntKind.i64.wrap (k + 1))) = r) :
    ∀ (d j : Nat) (b : Bool), no.length = j + d → b = (b0 && !(no.take j).any (intEq (sId s))) → pR (M + 1 + d) pr lm no A n b l ln k no.length j s = r
  | 0, j, b, h, hb => by
    have : j = no.length := by omega
    subst this
    rw [List.take_length] at hb
    show pR (M + 1) _ _ _ _ _ _ _ _ _ _ _ _ = _
    rw [pR_step, cond_df (by omega), hb]
    exact K
  | d + 1, j, b, h, hb => by
    have ht := any_next no (sId s) (show j < no.length by omega)
    have e : ∀ a c : Int, bne a c = !(c == a) := fun a c => by
      show (!(a == c)) = _
      congr 1
      rw [Bool.eq_iff_iff, beq_iff_eq, beq_iff_eq]; exact eq_comm
    show pR (M + 1 + d + 1) _ _ _ _ _ _ _ _ _ _ _ _ = _
    rw [pR_step, cond_dt (by omega), test_d (by omega), test_d (by omega), w64s (by omega), toNat_cast]
    cases b with
    | true =>
      refine pR_loop pr lm no hn A n l ln k s M b0 K d (j + 1) _ (by omega) ?_
      rw [ht, e]
      have hb' : (b0 && !(no.take j).any (intEq (sId s))) = true := hb.symm
      rw [Bool.and_eq_true] at hb'
      have h2 : (no.take j).any (intEq (sId s)) = false := by simpa using hb'.2
      rw [hb'.1, h2]; rfl
    | false =>
      refine pR_loop pr lm no hn A n l ln k s M b0 K d (j + 1) _ (by omega) ?_
      rw [ht, Bool.not_or, ← Bool.and_assoc, ← hb]; rfl

theorem passes_loop (pr lm : Int) (no : List Int) (hn : no.length ≤ 100) (l : List (El TStatus)) (hl : fits (.sl TStatus) l = true) : ∀ (d k : Nat) (n : Nat), l.length = k + d → n = ((l.take k).filter (pAll pr lm no)).length →
    ∃ m, lPasses.l1 m pr lm no (l.filter (pAll pr lm no)) n l l.length k = some (vb true, [])
  | 0, k, n, h, ho => ⟨1, by
    have : k = l.length := by omega
    subst this
    rw [List.take_length] at ho
    rw [lPasses.s1, cond_df (by omega)]
    exact (cond_et (by rw [ho])).trans rfl⟩
  | d + 1, k, n, h, ho => by
    have hb := stat_len hl
    have hr := reach_lt
    have hk : k < l.length := by omega
    have e2 := take_rdS hk
    have hf := fits_rd hl hk
    have hn2 : n ≤ k := by
      rw [ho]
      exact Nat.le_trans (List.length_filter_le _ _) (by rw [List.length_take]; omega)
    have e3 : (l.take (k + 1)).filter (pAll pr lm no) = bif pAll pr lm no (rdEl TStatus l k) then (l.take k).filter (pAll pr lm no) ++ [rdEl TStatus l k] else (l.take k).filter (pAll pr lm no) := by
      rw [e2, List.filter_append]
      cases hp : pAll pr lm no (rdEl TStatus l k) <;> simp [hp]
    have hA := fits_filter (p := pAll pr lm no) hl
    have hpre : freeR.pre (rdEl TStatus l k, ()) = true := by simpa [freeR.pre] using hf
    obtain ⟨m, hm⟩ : ∃ M, cond ((pGr pr (rdEl TStatus l k) && freeB (rdEl TStatus l k) && pBe lm (rdEl TStatus l k)) && pWo no (rdEl TStatus l k)) (cond (decide ((n : Int) ≥ ((l.filter (pAll pr lm no)).length : Int))) (some (vb false, [])) (test (decide ((0 : Int) ≤ (n : Int))) (test (decide ((n : Int) < ((l.filter (pAll pr lm no)).length : Int))) (test (sameOR.pre (rdEl TStatus (l.filter (pAll pr lm no)) (n : Int).toNat, rdEl TStatus l k, ())) (cond (!sameOB (rdEl TStatus (l.filter (pAll pr lm no)) (n : Int).toNat) (rdEl TStatus l k)) (some (vb false, []))
        (lPasses.l1 M pr lm no (l.filter (pAll pr lm no)) (IntKind.i64.wrap ((n : Int) + 1)) l l.length (IntKind.i64.wrap ((k : Int) + 1))))))))
        (lPasses.l1 M pr lm no (l.filter (pAll pr lm no)) n l l.length (IntKind.i64.wrap ((k : Int) + 1))) = some (vb true, []) := by
      cases hp : pAll pr lm no (rdEl TStatus l k) with
      | true =>
        rw [hp] at e3
        have e3 : (l.take (k + 1)).filter (pAll pr lm no) = (l.take k).filter (pAll pr lm no) ++ [rdEl TStatus l k] := e3
        obtain ⟨M, hM⟩ := passes_loop pr lm no hn l hl d (k + 1) (n + 1) (by omega) (by rw [e3, List.length_append, ← ho]; rfl)
        have e4 : l.filter (pAll pr lm no) = (l.take k).filter (pAll pr lm no) ++ ([rdEl TStatus l k] ++ (l.drop (k + 1)).filter (pAll pr lm no)) := by
          rw [← List.append_assoc, ← e3, ← List.filter_append, List.take_append_drop]
        have hlen : n < (l.filter (pAll pr lm no)).length := by rw [e4, ho]; simp
        have hget : rdEl TStatus (l.filter (pAll pr lm no)) n = rdEl TStatus l k := by
          rw [e4, ho]
          simp [rdEl]
        refine ⟨M, ?_⟩
        refine (cond_t hp).trans ?_
        rw [cond_df (by omega), test_d (by omega), test_d (by omega), toNat_cast, hget, w64s (by omega), w64s (by omega)]
        refine (test_true (show (fits TStatus (rdEl TStatus l k) && (fits TStatus (rdEl TStatus l k) && true)) = true by rw [hf]; rfl)).trans ?_
        exact (cond_f (by rw [sameOB_self]; rfl)).trans hM
      | false =>
        rw [hp] at e3
        obtain ⟨M, hM⟩ := passes_loop pr lm no hn l hl d (k + 1) n (by omega) (by rw [e3, ho]; rfl)
        refine ⟨M, ?_⟩
        refine (cond_f hp).trans ?_
        rw [w64s (by omega)]
        exact hM
    have L := fun b hb2 => pR_loop pr lm no hn (l.filter (pAll pr lm no)) n l l.length k (rdEl TStatus l k) m _ hm no.length 0 b (by omega) hb2
    refine ⟨m + 1 + no.length + 1, ?_⟩
    rw [lPasses.s1, cond_dt (by omega), test_d (by omega), test_d (by omega), toNat_cast]
    refine Eq.trans (b := cond (pGr pr (rdEl TStatus l k)) (cond (freeB (rdEl TStatus l k)) (pR (m + 1 + no.length) pr lm no (l.filter (pAll pr lm no)) n (pBe lm (rdEl TStatus l k)) l l.length k no.length 0 (rdEl TStatus l k)) (pR (m + 1 + no.length) pr lm no (l.filter (pAll pr lm no)) n false l l.length k no.length 0 (rdEl TStatus l k))) (pR (m + 1 + no.length) pr lm no (l.filter (pAll pr lm no)) n false l l.length k no.length 0 (rdEl TStatus l k))) ?_ ?_
    · rw [test_true hpre]; rfl
    · cases h1 : pGr pr (rdEl TStatus l k) with
      | false => exact L false (by rw [h1]; rfl)
      | true =>
        cases h2 : freeB (rdEl TStatus l k) with
        | false => exact L false (by rw [h1, h2]; rfl)
        | true => exact L (pBe lm (rdEl TStatus l k)) (by rw [h1, h2]; simp)

theorem lPasses_R : lPasses.Law := fun l pr lm no hx => by
  have h : (fits (.sl TStatus) l && (true && (true && (fits (.sl (.int .i64)) no && true)))) = true := hx
  simp only [Bool.and_eq_true] at h
  obtain ⟨hl, _, _, hn, _⟩ := h
  have hh : ∃ m, lPasses.go m l pr lm no = some (vb true, []) := by
    by_cases h1 : lightL l > 0
    · refine ⟨1, ?_⟩
      rw [lPasses.start]
      refine (test_true (pSt hl)).trans ?_
      rw [cond_dt h1]; rfl
    by_cases h2 : (no.length : Int) > 100
    · refine ⟨1, ?_⟩
      rw [lPasses.start]
      refine (test_true (pSt hl)).trans ?_
      rw [cond_df h1, cond_dt h2]; rfl
    obtain ⟨m, hm⟩ := passes_loop pr lm no (by omega) l hl l.length 0 0 (by omega) rfl
    refine ⟨m + 1, ?_⟩
    rw [lPasses.start]
    refine (test_true (pSt hl)).trans ?_
    rw [cond_df h1, cond_df h2]
    refine (test_true (pStI hl)).trans ((test_true (pSt (fits_filter hl))).trans ((test_true (pStL (fits_filter (fits_filter hl)) hn)).trans ((test_true (pStI (fits_filter (fits_filter (fits_filter hl))))).trans ?_)))
    refine (test_true (pStL hl hn)).trans ((test_true (pStI (fits_filter hl))).trans ((test_true (pSt (fits_filter (fits_filter hl)))).trans ((test_true (pStI (fits_filter (fits_filter (fits_filter hl))))).trans ?_)))
    refine (test_true (pSS (fits_filter (fits_filter (fits_filter (fits_filter hl)))) (fits_filter (fits_filter (fits_filter (fits_filter hl)))))).trans ?_
    rw [all_one, all_two]
    exact (cond_f (by rw [sameSB_self]; rfl)).trans hm
  obtain ⟨m, hm⟩ := hh
  exact lPasses.ret (lightS16_ok.cons' (awake_ok.cons' (fGr_ok.cons' (fFr_ok.cons' (fWo_ok.cons' (fBe_ok.cons' (sameSR_ok.cons' (freeR_ok.cons' (sameOR_ok.cons' SpecsOK.nil))))))))) l pr lm no hm

/-! ### groups -/

/-- The round over those that are excluded, with a member in hand. -/
noncomputable def gR (m : Nat) (l : List (El TStatus)) (no : List Int) (n : Int) (A : List (El TStatus)) (ln k len j : Int) (s : El TStatus) : R := lGroups.l4 m l no n A A ln k no len j s.1.1 s.1.2.1 s.1.2.2.1 s.1.2.2.2.1 s.1.2.2.2.2.1 s.1.2.2.2.2.2 s.2.1.1 s.2.1.2.1 s.2.1.2.2.1 s.2.1.2.2.2 s.2.2.1 s.2.2.2.1.1 s.2.2.2.1.2 s.2.2.2.2.1.1 s.2.2.2.2.1.2.1 s.2.2.2.2.1.2.2.1 s.2.2.2.2.1.2.2.2 s.2.2.2.2.2.1 s.2.2.2.2.2.2.1 s.2.2.2.2.2.2.2.1 s.2.2.2.2.2.2.2.2
theorem gR_step (m : Nat) (l : List (El TStatus)) (no : List Int) (n : Int) (A : List (El TStatus)) (ln k len j : Int) (s : El TStatus) : gR (m + 1) l no n A ln k len j s =
    cond (decide (j < len)) (test (decide ((0 : Int) ≤ j)) (test (decide (j < (no.length : Int))) (cond (s.1.1 == rdEl (.int .i64) no j.toNat) (some (vb false, [])) (gR m l no n A ln k len (IntKind.i64.wrap (j + 1)) s))))
      (lGroups.l3 m l no n A A ln (IntKind.i64.wrap (k + 1))) := lGroups.s4 ..

theorem gR_loop (l : List (El TStatus)) (no : List Int) (hn : no.length ≤ 60) (n : Int) (A : List (El TStatus)) (ln k : Int) (s : El TStatus) (hs : pWo no s = true) (M : Nat) {r : R} (K : lGroups.l3 M l no n A A ln (IntKind.i64.wrap (k + 1)) = r) :
    ∀ (d j : Nat), no.length = j + d → gR (M + 1 + d) l no n A ln k no.length j s = r
  | 0, j, h => by
    show gR (M + 1) _ _ _ _ _ _ _ _ _ = _
    rw [gR_step, cond_df (by omega)]; exact K
  | d + 1, j, h => by
    have hj : j < no.length := by omega
    have hne : (s.1.1 == rdEl (.int .i64) no j) = false := by
      unfold pWo at hs
      have h1 : no.any (intEq (sId s)) = false := by simpa using hs
      have h2 := List.any_eq_false.1 h1 (no[j]) (List.getElem_mem hj)
      have e3 : rdEl (.int .i64) no j = no[j] := by simp [rdEl, List.getD, hj]
      rw [e3]
      simpa [intEq] using h2
    show gR (M + 1 + d + 1) _ _ _ _ _ _ _ _ _ = _
    rw [gR_step, cond_dt (by omega), test_d (by omega), test_d (by omega), w64s (by omega), toNat_cast, hne]
    exact gR_loop l no hn n A ln k s hs M K d (j + 1) (by omega)

theorem groups3 (l : List (El TStatus)) (hl : fits (.sl TStatus) l = true) (no : List Int) (hno : fits (.sl (.int .i64)) no = true) (hn : no.length ≤ 60) (n : Int) (hnl : n = l.length) : ∀ (d k : Nat), (l.filter (pWo no)).length = k + d → ∃ m, lGroups.l3 m l no n (l.filter (pWo no)) (l.filter (pWo no)) (l.filter (pWo no)).length k = some (vb true, [])
  | 0, k, h => ⟨1, by
    have hA := fits_filter (p := pWo no) hl
    have hN : fits (.sl (.int .i64)) ([] : List Int) = true := by kernel_rfl
    have e1 : (l.filter (pWo no)).filter (pWo no) = l.filter (pWo no) := by
      rw [List.filter_filter]
      exact List.filter_congr fun s _ => by cases pWo no s <;> rfl
    have e2 : l.filter (pWo []) = l := List.filter_eq_self.2 fun s _ => rfl
    rw [lGroups.s3, cond_df (by omega)]
    refine (cond_et hnl).trans ((test_true (pStL hA hno)).trans ((test_true (pSS (fits_filter hA) hA)).trans ((cond_t (by rw [e1]; exact sameSB_self _)).trans ?_)))
    exact (test_true (pStL hl hN)).trans ((test_true (pSS (fits_filter hl) hl)).trans ((cond_t (by rw [e2]; exact sameSB_self _)).trans rfl))⟩
  | d + 1, k, h => by
    have hb := stat_len hl
    have hr := reach_lt
    have hfl : (l.filter (pWo no)).length ≤ l.length := List.length_filter_le _ _
    obtain ⟨M, hM⟩ := groups3 l hl no hno hn n hnl d (k + 1) (by omega)
    have hk : k < (l.filter (pWo no)).length := by omega
    refine ⟨M + 1 + no.length + 1, ?_⟩
    rw [lGroups.s3, cond_dt (by omega), test_d (by omega), test_d (by omega), toNat_cast]
    exact gR_loop l no hn n (l.filter (pWo no)) (l.filter (pWo no)).length k (rdEl TStatus (l.filter (pWo no)) k) (List.mem_filter.1 (rd_mem hk)).2 M (by rw [w64s (by omega)]; exact hM) no.length 0 (by omega)

def outG (s : El TStatus) : Bool := decide (s.1.2.2.1 < 0) || decide (s.1.2.2.1 > 3)

theorem groups2 (l : List (El TStatus)) (hl : fits (.sl TStatus) l = true) (no : List Int) (hno : fits (.sl (.int .i64)) no = true) (hn : no.length ≤ 60) (g : Nat) (hg : g + (l.filter outG).length = l.length) : ∀ (d k : Nat) (n : Nat), l.length = k + d → n = g + ((l.take k).filter outG).length → ∃ m, lGroups.l2 m l no n l l.length k = some (vb true, [])
  | 0, k, n, h, ho => by
    have : k = l.length := by omega
    subst this
    rw [List.take_length] at ho
    obtain ⟨M, hM⟩ := groups3 l hl no hno hn n (by omega) (l.filter (pWo no)).length 0 (by omega)
    refine ⟨M + 1, ?_⟩
    rw [lGroups.s2, cond_df (by omega)]
    exact (test_true (pStL hl hno)).trans hM
  | d + 1, k, n, h, ho => by
    have hb := stat_len hl
    have hr := reach_lt
    have hk : k < l.length := by omega
    have e2 := take_rdS hk
    have hle : ((l.take k).filter outG).length ≤ k := Nat.le_trans (List.length_filter_le _ _) (by rw [List.length_take]; omega)
    obtain ⟨M, hM⟩ := groups2 l hl no hno hn g hg d (k + 1) _ (by omega) rfl
    refine ⟨M + 1, ?_⟩
    rw [lGroups.s2, cond_dt (by omega), test_d (by omega), test_d (by omega), toNat_cast, w64s (k := k) (by omega), w64s (k := n) (by omega)]
    rw [e2, List.filter_append, List.length_append, ← Nat.add_assoc, ← ho] at hM
    by_cases h1 : (rdEl TStatus l k).1.2.2.1 < 0
    · have hp : outG (rdEl TStatus l k) = true := by unfold outG; rw [dec_t h1]; rfl
      rw [List.filter_cons, hp] at hM
      refine (cond_dt h1).trans hM
    · by_cases h2 : (rdEl TStatus l k).1.2.2.1 > 3
      · have hp : outG (rdEl TStatus l k) = true := by unfold outG; rw [dec_t h2, Bool.or_true]
        rw [List.filter_cons, hp] at hM
        exact (cond_df h1).trans ((cond_dt h2).trans hM)
      · have hp : outG (rdEl TStatus l k) = false := by unfold outG; rw [dec_f h1, dec_f h2]; rfl
        rw [List.filter_cons, hp] at hM
        exact (cond_df h1).trans ((cond_df h2).trans hM)

def prioOf (s : El TStatus) : Int := s.1.2.2.1
theorem sum4 : ∀ (l : List (El TStatus)), (l.filter (pGr 0)).length + (l.filter (pGr 1)).length + (l.filter (pGr 2)).length + (l.filter (pGr 3)).length + (l.filter outG).length = l.length
  | [] => rfl
  | a :: l => by
    have ih := sum4 l
    have e : ∀ x : Int, ((a :: l).filter (pGr x)).length = (l.filter (pGr x)).length + (if prioOf a = x then 1 else 0) := fun x => by
      rw [List.filter_cons]
      by_cases hx : prioOf a = x
      · have : pGr x a = true := by show (prioOf a == x) = _; simpa using hx
        rw [this, if_pos hx]; rfl
      · have : pGr x a = false := by show (prioOf a == x) = _; simpa using hx
        rw [this, if_neg hx]; rfl
    have e2 : ((a :: l).filter outG).length = (l.filter outG).length + (if prioOf a < 0 ∨ prioOf a > 3 then 1 else 0) := by
      rw [List.filter_cons]
      by_cases hx : prioOf a < 0 ∨ prioOf a > 3
      · have : outG a = true := by show (decide (prioOf a < 0) || decide (prioOf a > 3)) = true; simpa using hx
        rw [this, if_pos hx]; rfl
      · have : outG a = false := by show (decide (prioOf a < 0) || decide (prioOf a > 3)) = false; rw [dec_f (fun h => hx (.inl h)), dec_f (fun h => hx (.inr h))]; rfl
        rw [this, if_neg hx]; rfl
    rw [e, e, e, e, e2, List.length_cons]
    have hc : (prioOf a < 0 ∨ prioOf a > 3) ∨ prioOf a = 0 ∨ prioOf a = 1 ∨ prioOf a = 2 ∨ prioOf a = 3 := by omega
    rcases hc with hc | hc | hc | hc | hc
    · rw [if_neg (by omega), if_neg (by omega), if_neg (by omega), if_neg (by omega), if_pos hc]; omega
    · rw [if_pos hc, if_neg (by omega), if_neg (by omega), if_neg (by omega), if_neg (by omega)]; omega
    · rw [if_neg (by omega), if_pos hc, if_neg (by omega), if_neg (by omega), if_neg (by omega)]; omega
    · rw [if_neg (by omega), if_neg (by omega), if_pos hc, if_neg (by omega), if_neg (by omega)]; omega
    · rw [if_neg (by omega), if_neg (by omega), if_neg (by omega), if_pos hc, if_neg (by omega)]; omega

theorem lGroups_R : lGroups.Law := fun l no hx => by
  have h : (fits (.sl TStatus) l && (fits (.sl (.int .i64)) no && true)) = true := hx
  simp only [Bool.and_eq_true] at h
  obtain ⟨hl, hn, _⟩ := h
  have hb := stat_len hl
  have hr := reach_lt
  have hh : ∃ m, lGroups.go m l no = some (vb true, []) := by
    by_cases h1 : lightL l > 0
    · refine ⟨1, ?_⟩
      rw [lGroups.start]
      refine (test_true (pSt hl)).trans ?_
      rw [cond_dt h1]; rfl
    by_cases h2 : (no.length : Int) > 60
    · refine ⟨1, ?_⟩
      rw [lGroups.start]
      refine (test_true (pSt hl)).trans ?_
      rw [cond_df h1, cond_dt h2]; rfl
    have hs := sum4 l
    obtain ⟨m, hm⟩ := groups2 l hl no hn (by omega) ((l.filter (pGr 0)).length + (l.filter (pGr 1)).length + (l.filter (pGr 2)).length + (l.filter (pGr 3)).length) (by omega) l.length 0 _ (by omega) rfl
    refine ⟨m + 1 + 1 + 1 + 1 + 1 + 1, ?_⟩
    rw [lGroups.start]
    refine (test_true (pSt hl)).trans ?_
    rw [cond_df h1, cond_df h2, lGroups.s1, cond_dt (by omega)]
    refine (test_true (pStI hl)).trans ?_
    rw [lGroups.s1, w64 (n := (0 : Int) + 1) (by omega) (by omega), cond_dt (by omega)]
    refine (test_true (pStI hl)).trans ?_
    rw [lGroups.s1, w64 (n := (0 : Int) + 1 + 1) (by omega) (by omega), cond_dt (by omega)]
    refine (test_true (pStI hl)).trans ?_
    rw [lGroups.s1, w64 (n := (0 : Int) + 1 + 1 + 1) (by omega) (by omega), cond_dt (by omega)]
    refine (test_true (pStI hl)).trans ?_
    rw [lGroups.s1, w64 (n := (0 : Int) + 1 + 1 + 1 + 1) (by omega) (by omega), cond_df (by omega)]
    have e : IntKind.i64.wrap (IntKind.i64.wrap (IntKind.i64.wrap (IntKind.i64.wrap (0 + ((l.filter (pGr 0)).length : Int)) + ((l.filter (pGr (0 + 1))).length : Int)) + ((l.filter (pGr (0 + 1 + 1))).length : Int)) + ((l.filter (pGr (0 + 1 + 1 + 1))).length : Int)) = (((l.filter (pGr 0)).length + (l.filter (pGr 1)).length + (l.filter (pGr 2)).length + (l.filter (pGr 3)).length : Nat) : Int) := by
      show IntKind.i64.wrap (IntKind.i64.wrap (IntKind.i64.wrap (IntKind.i64.wrap (0 + ((l.filter (pGr 0)).length : Int)) + ((l.filter (pGr 1)).length : Int)) + ((l.filter (pGr 2)).length : Int)) + ((l.filter (pGr 3)).length : Int)) = _
      rw [w64 (n := 0 + ((l.filter (pGr 0)).length : Int)) (by omega) (by omega), w64 (n := 0 + ((l.filter (pGr 0)).length : Int) + ((l.filter (pGr 1)).length : Int)) (by omega) (by omega),
        w64 (n := 0 + ((l.filter (pGr 0)).length : Int) + ((l.filter (pGr 1)).length : Int) + ((l.filter (pGr 2)).length : Int)) (by omega) (by omega), w64 (by omega) (by omega)]
      omega
    rw [e]
    exact hm
  obtain ⟨m, hm⟩ := hh
  exact lGroups.ret (lightS16_ok.cons' (awake_ok.cons' (fGr_ok.cons' (fWo_ok.cons' (sameSR_ok.cons' SpecsOK.nil))))) l no hm

end Go.Proofs.Ytemkgdkkpeijfaa
