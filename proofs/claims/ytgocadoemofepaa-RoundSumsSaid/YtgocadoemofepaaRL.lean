/-
  In turn, by weight: what the laws' functions come to.
-/
import Derived.Test.YtgocadoemofepaaRC
import Derived.Laws.Closers25b
namespace Go.Proofs.Ytgocadoemofepaa
open Go VE

/-- A wheel that may be handed on. -/
def Wok (w : El TWheel) : Prop := w.1.length = w.2.length ∧ w.1.length ≤ 64

theorem wok_new : Wok ([], []) := ⟨rfl, Nat.zero_le _⟩
theorem wok_next {w : El TWheel} (h : Wok w) (l : List (Int × Int)) : Wok (wheelN w l) := by
  unfold wheelN
  cases hm : mayRow l with
  | false => exact h
  | true =>
    refine ⟨?_, (row_in hm).2⟩
    show l.length = (nowOf w.1 l w.2).length
    rw [nowOf_len h.1]

theorem big : 64 * 16 ≤ reachBytes := by decide
theorem wok_fits {w : El TWheel} (h : Wok w) : fits TWheel w = true := by
  have hb := big
  obtain ⟨h1, h2⟩ := h
  exact fits_mk (fits_shs (by omega)) (fits_ints (by omega))
theorem wok_pre {w : El TWheel} (h : Wok w) {l : List (El TShare)} (hl : fits (.sl TShare) l = true) : nextW.pre (w, l, ()) = true := by
  show (fits TWheel w && (fits (.sl TShare) l && (decide (w.1.length = w.2.length) && true))) = true
  rw [wok_fits h, hl, dec_t h.1]; rfl
theorem wok_turns {w : El TWheel} (h : Wok w) : turns.pre (w, ()) = true := by
  show (fits TWheel w && (decide (w.1.length = w.2.length) && true)) = true
  rw [wok_fits h, dec_t h.1]; rfl
theorem wok_tfits {w : El TWheel} (h : Wok w) : fits (.sl TShare) (turnsOf w.1 w.2) = true := by
  have hb := big
  refine fits_shs ?_
  rw [turns_len _ _ h.1.symm]
  have := h.2
  omega
theorem eqSh_self (l : List (Int × Int)) : eqSh l l = true := eqSh_iff.2 rfl
theorem same_pre {a b : List (El TShare)} (ha : fits (.sl TShare) a = true) (hb : fits (.sl TShare) b = true) : sameT.pre (a, b, ()) = true := by
  show (fits (.sl TShare) a && (fits (.sl TShare) b && true)) = true
  rw [ha, hb]; rfl

/-! ### a wheel that there isn't -/

theorem lNil_R : lNil.Law := fun l hx => by
  have hl : fits (.sl TShare) l = true := by simpa [lNil.pre] using hx
  have hv := wok_next wok_new [(1, 2), (2, 3)]
  have hv2 := wok_next hv l
  refine lNil.ret (awake_ok.cons' (sameT_ok.cons' (mayRR_ok.cons' .nil))) (new_ok.cons' (SpecOKO.cons' (nextW_ok.or nextZ_ok) (SpecOKO.cons' (turns_ok.or turnsZ_ok) .nil))) l (m := 1) ?_
  rw [lNil.start]
  by_cases h1 : (l.length : Int) > 80
  · rw [cond_dt h1]; rfl
  rw [cond_df h1, test_true (show nextZ.pre (l, ()) = true by simpa [nextZ.pre] using hl), test_true (wok_pre hv hl), test_true (show mayRR.pre (l, ()) = true by simpa [mayRR.pre] using hl), beq_self_eq_true, cond_true]
  cases hm : mayRow l with
  | true => rfl
  | false =>
    rw [cond_false, test_true (wok_turns hv2), test_true (same_pre (wok_tfits hv2) (wok_tfits hv))]
    have e : wheelN (wheelN ([], []) [(1, 2), (2, 3)]) l = wheelN ([], []) [(1, 2), (2, 3)] := by
      unfold wheelN
      rw [hm]; rfl
    have e2 : eqSh (turnsOf (wheelN (wheelN ([], []) [(1, 2), (2, 3)]) l).1 (wheelN (wheelN ([], []) [(1, 2), (2, 3)]) l).2) (turnsOf (wheelN ([], []) [(1, 2), (2, 3)]).1 (wheelN ([], []) [(1, 2), (2, 3)]).2) = true := by
      rw [e]; exact eqSh_self _
    exact (cond_t e2).trans rfl

/-! ### both wheels, side by side -/

/-- The document's wheel that goes with it. -/
def twin (w : El TWheel) : El TWheelR := (w.1, turnsOf w.1 w.2)

theorem twin_pre {w : El TWheel} (h : Wok w) {l : List (El TShare)} (hl : fits (.sl TShare) l = true) : nextR.pre (twin w, l, ()) = true := by
  have hb := big
  have h2 := h.2
  have hf : fits TWheelR (twin w) = true := fits_mk (fits_shs (by show w.1.length * 16 ≤ _; omega)) (wok_tfits h)
  show (fits TWheelR (twin w) && (fits (.sl TShare) l && (decide (List.map Prod.fst (twin w).1 = List.map Prod.fst (twin w).2) && true))) = true
  rw [hf, hl, dec_t (show List.map Prod.fst (twin w).1 = List.map Prod.fst (twin w).2 from ids_turns h.1.symm)]; rfl

theorem twin_id {w : El TWheel} (h : Wok w) (l : List (Int × Int)) : nextRI (twin w) l = nextI w l := by
  have e : nowsR (twin w) = w.2 := nows_turns h.1.symm
  unfold nextRI nextI
  rw [e]; rfl
theorem twin_next {w : El TWheel} (h : Wok w) (l : List (Int × Int)) : wheelRN (twin w) l = twin (wheelN w l) := by
  have e : nowsR (twin w) = w.2 := nows_turns h.1.symm
  unfold wheelRN wheelN
  rw [e]
  cases mayRow l <;> rfl

theorem plays_in (t : List Int) (l : List (El TShare)) (hl : fits (.sl TShare) l = true) (rows : List (List (El TShare))) (len i cnt : Int) (r : R) (hcnt : cnt ≤ 30)
    (IH : ∀ w, Wok w → ∃ m, lPlays.l1 m t rows len (IntKind.i64.wrap (i + 1)) (twin w).1 (twin w).2 w.1 w.2 = r) : ∀ (n j : Nat) (w : El TWheel), Wok w → cnt ≤ j + n → ∃ m, lPlays.l2 m t l rows len i cnt j (twin w).1 (twin w).2 w.1 w.2 = r
  | 0, j, w, hw, h => by
    obtain ⟨m, hm⟩ := IH w hw
    exact ⟨m + 1, by rw [lPlays.s2, cond_df (by omega)]; exact hm⟩
  | n + 1, j, w, hw, h => by
    by_cases hj : (j : Int) < cnt
    · have hw2 := wok_next hw l
      obtain ⟨m, hm⟩ := plays_in t l hl rows len i cnt r hcnt IH n (j + 1) (wheelN w l) hw2 (by omega)
      refine ⟨m + 1, ?_⟩
      rw [lPlays.s2, cond_dt hj, w64s (by omega)]
      refine (test_true (wok_pre hw hl)).trans ((test_true (twin_pre hw hl)).trans ?_)
      have e1 : bne (nextI w l) (nextRI (twin w) l) = false := by rw [twin_id hw]; simp
      refine (cond_f e1).trans ?_
      rw [beq_self_eq_true, Bool.not_true, cond_false]
      refine (test_true (wok_turns hw2)).trans ?_
      have e2 : wheelRN (twin w) l = twin (wheelN w l) := twin_next hw l
      have e3 : sameT.pre (turnsOf (wheelN w l).1 (wheelN w l).2, (wheelRN (twin w) l).2, ()) = true := by rw [e2]; exact same_pre (wok_tfits hw2) (wok_tfits hw2)
      refine (test_true e3).trans ?_
      have e4 : (!(eqSh (turnsOf (wheelN w l).1 (wheelN w l).2) (wheelRN (twin w) l).2)) = false := by
        rw [e2]
        show (!(eqSh (turnsOf (wheelN w l).1 (wheelN w l).2) (turnsOf (wheelN w l).1 (wheelN w l).2))) = false
        rw [eqSh_self]; rfl
      refine (cond_f e4).trans ?_
      have e5 : lPlays.l2 m t l rows len i cnt ((j + 1 : Nat) : Int) (wheelRN (twin w) l).1 (wheelRN (twin w) l).2 (wheelN w l).1 (wheelN w l).2 = r := by rw [e2]; exact hm
      exact e5
    · obtain ⟨m, hm⟩ := IH w hw
      exact ⟨m + 1, by rw [lPlays.s2, cond_df hj]; exact hm⟩

theorem mod30 (k : Int) : IntKind.i64.wrap (Int.tmod (IntKind.u64.wrap k) 30) ≤ 30 := by
  have hk : 0 ≤ IntKind.u64.wrap k := (wrap_within .u64 k).1
  rw [Int.tmod_eq_emod_of_nonneg hk]
  have h2 := Int.emod_nonneg (IntKind.u64.wrap k) (show (30 : Int) ≠ 0 by omega)
  have h3 := Int.emod_lt_of_pos (IntKind.u64.wrap k) (show (0 : Int) < 30 by omega)
  rw [w64 (by omega) (by omega)]; omega

theorem plays_out (t : List Int) (rows : List (List (El TShare))) (hrows : fits (.sl (.sl TShare)) rows = true) (h20 : rows.length ≤ 20) (ht : t.length < 9223372036854775806) : ∀ (n k : Nat) (w : El TWheel), rows.length = k + n → Wok w →
    ∃ m, lPlays.l1 m t rows rows.length k (twin w).1 (twin w).2 w.1 w.2 = some (vb true, [])
  | 0, k, w, h, hw => ⟨1, by rw [lPlays.s1, cond_df (by omega)]; rfl⟩
  | n + 1, k, w, h, hw => by
    have hk : k < rows.length := by omega
    have hlf : fits (.sl TShare) (rdEl (.sl TShare) rows k) = true := fits_rd hrows hk
    have IH : ∀ w, Wok w → ∃ m, lPlays.l1 m t rows rows.length (IntKind.i64.wrap ((k : Int) + 1)) (twin w).1 (twin w).2 w.1 w.2 = some (vb true, []) := fun w hw => by
      rw [w64s (by omega)]
      exact plays_out t rows hrows h20 ht n (k + 1) w (by omega) hw
    have go : ∀ cnt : Int, cnt ≤ 30 → ∃ m, lPlays.l2 m t (rdEl (.sl TShare) rows k) rows rows.length k cnt 0 (twin w).1 (twin w).2 w.1 w.2 = some (vb true, []) := fun cnt hc =>
      plays_in t _ hlf rows rows.length k cnt _ hc IH 30 0 w hw (by omega)
    by_cases hz : (((rdEl (.sl TShare) rows k).length : Nat) : Int) > 80
    · refine ⟨1, ?_⟩
      rw [lPlays.s1, cond_dt (by omega), test_d (by omega), test_d (by omega), toNat_cast]
      by_cases hkt : (k : Int) < t.length
      · rw [cond_dt hkt, test_d (by omega), test_d hkt]
        exact (cond_dt hz).trans rfl
      · rw [cond_df hkt]
        exact (cond_dt hz).trans rfl
    · by_cases hkt : (k : Int) < t.length
      · obtain ⟨m, hm⟩ := go _ (mod30 (rdEl (.int .i64) t k))
        refine ⟨m + 1, ?_⟩
        rw [lPlays.s1, cond_dt (by omega), test_d (by omega), test_d (by omega), toNat_cast, cond_dt hkt, test_d (by omega), test_d hkt]
        exact (cond_df hz).trans hm
      · obtain ⟨m, hm⟩ := go 1 (by omega)
        refine ⟨m + 1, ?_⟩
        rw [lPlays.s1, cond_dt (by omega), test_d (by omega), test_d (by omega), toNat_cast, cond_df hkt]
        exact (cond_df hz).trans hm

theorem lPlays_R : lPlays.Law := fun rows t hx => by
  have h : (fits (.sl (.sl TShare)) rows && (fits (.sl (.int .i64)) t && true)) = true := hx
  simp only [Bool.and_eq_true] at h
  have ht := fits_len' (n := 8) h.2.1 rfl
  have hr := reach_lt
  have ho := new_ok.cons' (o := []) (b := []) (nextW_ok.cons' (o := [some (.obj [.sl TShare, .arr 3 (.int .i64)])]) (b := []) (turns_ok.cons' (o := [some (.obj [.sl TShare, .arr 3 (.int .i64)])]) (b := []) (nextR_ok.cons' (o := [some (.obj [.sl TShare, .arr 42 TShare])]) (b := []) .nil)))
  by_cases h1 : (rows.length : Int) > 20
  · refine lPlays.ret (awake_ok.cons' (sameT_ok.cons' .nil)) ho rows t (m := 1) ?_
    rw [lPlays.start, cond_dt h1]; rfl
  · obtain ⟨m, hm⟩ := plays_out t rows h.1 (by omega) (by omega) rows.length 0 ([], []) (by omega) wok_new
    refine lPlays.ret (awake_ok.cons' (sameT_ok.cons' .nil)) ho rows t (m := m + 1) ?_
    rw [lPlays.start, cond_df h1]
    exact hm

end Go.Proofs.Ytgocadoemofepaa
