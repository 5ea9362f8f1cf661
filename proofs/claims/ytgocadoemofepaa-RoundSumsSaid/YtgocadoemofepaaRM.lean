/-
  In turn, by weight: another row begins at nought.
-/
import Derived.Test.YtgocadoemofepaaRL
namespace Go.Proofs.Ytgocadoemofepaa
open Go VE

theorem may_iff {l : List (Int × Int)} : mayRow l = true ↔ (∀ k, k < l.length → okAt l k = true) ∧ 1 ≤ l.length ∧ l.length ≤ 64 := by
  unfold mayRow
  rw [Bool.and_eq_true, Bool.and_eq_true, decide_eq_true_eq, decide_eq_true_eq, Bool.not_eq_true', anyN_false]
  constructor
  · rintro ⟨h1, h2⟩
    refine ⟨fun k hk => ?_, h2⟩
    have := h1 k (Nat.zero_le _) (by omega)
    simpa using this
  · rintro ⟨h1, h2⟩
    refine ⟨fun k _ hk => ?_, h2⟩
    rw [h1 k (by omega)]; rfl

/-- The row that is built: numbers of their own, parts from one on. -/
structure Built (ids : List Int) (k : Nat) (l : List (Int × Int)) : Prop where
  len : l.length = k
  id : ∀ i, i < k → (rdEl TShare l i).1 = rdEl (.int .i64) ids i
  part : ∀ i, i < k → 1 ≤ (rdEl TShare l i).2 ∧ (rdEl TShare l i).2 ≤ 20
  apart : ∀ i j, i < j → j < k → rdEl (.int .i64) ids i ≠ rdEl (.int .i64) ids j

theorem rd_take {t : Ty} {l : List (El t)} {i k : Nat} (h : i < k) : rdEl t (l.take k) i = rdEl t l i := by
  simp [rdEl, List.getD, List.getElem?_take, h]
theorem rd_app {t : Ty} {l m : List (El t)} {i : Nat} (h : i < l.length) : rdEl t (l ++ m) i = rdEl t l i := by
  simp [rdEl, List.getD, List.getElem?_append_left h]
theorem rd_last {t : Ty} {l : List (El t)} {x : El t} : rdEl t (l ++ [x]) l.length = x := by
  simp [rdEl, List.getD]

theorem any_ids {l : List (Int × Int)} {x : Int} (h : ∀ i, i < l.length → (rdEl TShare l i).1 ≠ x) : l.any (idIs x) = false := by
  rw [List.any_eq_false]
  intro a ha
  obtain ⟨i, hi, rfl⟩ := List.mem_iff_getElem.1 ha
  have := h i hi
  have e : rdEl TShare l i = l[i] := by simp [rdEl, List.getD, hi]
  rw [e] at this
  simpa [idIs] using this

theorem built_may {ids : List Int} {k : Nat} {l : List (Int × Int)} (h : Built ids k l) (h1 : 1 ≤ k) (h2 : k ≤ 64) : mayRow l = true := by
  have hl := h.len
  refine may_iff.2 ⟨fun i hi => ?_, by omega, by omega⟩
  unfold okAt
  obtain ⟨p1, p2⟩ := h.part i (by omega)
  rw [dec_t p1, dec_t (Int.le_trans p2 (by decide) : (rdEl TShare l i).2 ≤ 1000000), any_ids]
  · rfl
  · intro j hj
    rw [List.length_take] at hj
    rw [rd_take (by omega), h.id j (by omega), h.id i (by omega)]
    exact h.apart j i (by omega) (by omega)

theorem more_may {l : List (Int × Int)} (h : mayRow l = true) (hl : l.length ≤ 10) {z : Int} (hz : ∀ i, i < l.length → (rdEl TShare l i).1 ≠ z) : mayRow (l ++ [(z, 1)]) = true := by
  obtain ⟨h1, h2, _⟩ := may_iff.1 h
  have hlen : (l ++ [(z, (1 : Int))]).length = l.length + 1 := by simp
  refine may_iff.2 ⟨fun i hi => ?_, by omega, by omega⟩
  rw [hlen] at hi
  by_cases he : i < l.length
  · have := h1 i he
    unfold okAt at this ⊢
    rw [rd_app (t := TShare) he, List.take_append_of_le_length (by omega)]
    exact this
  · have : i = l.length := by omega
    subst this
    unfold okAt
    rw [rd_last (t := TShare), List.take_append_of_le_length (Nat.le_refl _), List.take_length, any_ids hz]
    rfl

theorem part20 (k : Int) : 1 ≤ IntKind.i64.wrap (1 + IntKind.i64.wrap (Int.tmod (IntKind.u64.wrap k) 20)) ∧ IntKind.i64.wrap (1 + IntKind.i64.wrap (Int.tmod (IntKind.u64.wrap k) 20)) ≤ 20 := by
  have hk : 0 ≤ IntKind.u64.wrap k := (wrap_within .u64 k).1
  rw [Int.tmod_eq_emod_of_nonneg hk]
  have h2 := Int.emod_nonneg (IntKind.u64.wrap k) (show (20 : Int) ≠ 0 by omega)
  have h3 := Int.emod_lt_of_pos (IntKind.u64.wrap k) (show (0 : Int) < 20 by omega)
  rw [w64 (n := IntKind.u64.wrap k % 20) (by omega) (by omega), w64 (by omega) (by omega)]
  omega

theorem built_more {ids : List Int} {k : Nat} {l : List (Int × Int)} (h : Built ids k l) {p : Int} (hp : 1 ≤ p ∧ p ≤ 20) (hn : ∀ i, i < k → rdEl (.int .i64) ids i ≠ rdEl (.int .i64) ids k) : Built ids (k + 1) (l ++ [(rdEl (.int .i64) ids k, p)]) := by
  have hl := h.len
  refine ⟨by simp [hl], fun i hi => ?_, fun i hi => ?_, fun i j hij hj => ?_⟩
  · by_cases he : i < l.length
    · rw [rd_app (t := TShare) he]; exact h.id i (by omega)
    · have : i = l.length := by omega
      subst this
      rw [rd_last (t := TShare), hl]
  · by_cases he : i < l.length
    · rw [rd_app (t := TShare) he]; exact h.part i (by omega)
    · have : i = l.length := by omega
      subst this
      rw [rd_last (t := TShare)]; exact hp
  · by_cases he : j < k
    · exact h.apart i j hij he
    · have : j = k := by omega
      subst this
      exact hn i hij

/-! ### the same row, twice -/

/-- The wheels of a row gone through again and again. -/
def seqW (l : List (Int × Int)) (w : El TWheel) : Nat → El TWheel
  | 0 => w
  | j + 1 => wheelN (seqW l w j) l

theorem wok_seq {w : El TWheel} (h : Wok w) (l : List (Int × Int)) : ∀ j, Wok (seqW l w j)
  | 0 => h
  | j + 1 => wok_next (wok_seq h l j) l

theorem anew_id {w v : El TWheel} {l : List (Int × Int)} (hw : eqSh w.1 l = false) (hv : eqSh v.1 l = false) : nextI w l = nextI v l ∧ (mayRow l = true → wheelN w l = wheelN v l) := by
  have e : startN w.1 l w.2 = startN v.1 l v.2 := by unfold startN; rw [hw, hv]; rfl
  have e2 : spun w.1 l w.2 = spun v.1 l v.2 := by unfold spun; rw [e]
  refine ⟨?_, fun hm => ?_⟩
  · unfold nextI idOf'
    rw [e2]
  · unfold wheelN nowOf
    rw [hm, e2]; rfl

theorem seq_same {w v : El TWheel} {l : List (Int × Int)} (hm : mayRow l = true) (hw : eqSh w.1 l = false) (hv : eqSh v.1 l = false) : ∀ j, nextI (seqW l w j) l = nextI (seqW l v j) l ∧ seqW l w (j + 1) = seqW l v (j + 1)
  | 0 => ⟨(anew_id hw hv).1, (anew_id hw hv).2 hm⟩
  | j + 1 => by
    have := (seq_same hm hw hv j).2
    refine ⟨by rw [this], ?_⟩
    show wheelN (seqW l w (j + 1)) l = wheelN (seqW l v (j + 1)) l
    rw [this]

def idsW (l : List (Int × Int)) (w : El TWheel) (n : Nat) : List Int := (List.range n).map fun j => nextI (seqW l w j) l

/-- The number that is turned. -/
def turned (x : Int) : Int := IntKind.i64.wrap ((BitVec.toNat ((BitVec.ofInt (Go.IntKind.bits Go.IntKind.i64) x) ^^^ (BitVec.ofInt (Go.IntKind.bits Go.IntKind.i64) (1099511627776 : Int)))) : Int)

theorem again_loop (l : List (El TShare)) (hl : fits (.sl TShare) l = true) (hm : mayRow l = true) (w v : El TWheel) (hw : eqSh w.1 l = false) (hv : eqSh v.1 l = false) (hv2 : Wok v) (N : Nat) (hN : N ≤ 40) : ∀ (n j : Nat), N = j + n →
    lAnew.l5 (n + 1) l N j (idsW l w N) (seqW l v j).1 (seqW l v j).2 = some (vb true, [])
  | 0, j, h => by rw [lAnew.s5, cond_df (by omega)]; rfl
  | n + 1, j, h => by
    have hlen : (idsW l w N).length = N := by simp [idsW]
    have hrd : rdEl (.int .i64) (idsW l w N) j = nextI (seqW l w j) l := by
      have : j < N := by omega
      simp [rdEl, idsW, List.getD, this]
    rw [lAnew.s5, cond_dt (by omega)]
    refine (test_true (wok_pre (wok_seq hv2 l j) hl)).trans ?_
    rw [hm, Bool.not_true, cond_false, test_d (by omega), test_d (by rw [hlen]; omega), toNat_cast, hrd, w64s (by omega)]
    have e : bne (nextI (seqW l v j) l) (nextI (seqW l w j) l) = false := by rw [(seq_same hm hw hv j).1]; simp
    refine (cond_f e).trans ?_
    exact again_loop l hl hm w v hw hv hv2 N hN n (j + 1) (by omega)

theorem check_loop (l : List (El TShare)) (hl : fits (.sl TShare) l = true) (hm : mayRow l = true) (h10 : l.length ≤ 10) (w u : El TWheel) (hw : eqSh w.1 l = false) (hu : Wok u) (N : Nat) (hN : N ≤ 40) : ∀ (n k : Nat), l.length = k + n → (∀ i, i < k → (rdEl TShare l i).1 ≠ turned (rdEl TShare l 0).1) →
    lAnew.l4 (n + 1 + (N + 1)) N l l l.length k (idsW l w N) u.1 u.2 = some (vb true, [])
  | 0, k, h, hk => by
    obtain ⟨r1, _⟩ := row_in hm
    have hkl : k = l.length := by omega
    subst hkl
    have h16 : (lim 16) = 8796093022208 := by simp [lim]
    have hot : mayRow (l ++ [(turned (rdEl TShare l 0).1, 1)]) = true := more_may hm h10 hk
    have hotl : (l ++ [(turned (rdEl TShare l 0).1, (1 : Int))]).length = l.length + 1 := by simp
    have hb := big
    have hof : fits (.sl TShare) (l ++ [(turned (rdEl TShare l 0).1, 1)]) = true := fits_shs (by rw [hotl]; omega)
    rw [show 0 + 1 + (N + 1) = (N + 1) + 1 by omega, lAnew.s4, cond_df (by omega), h16]
    rw [test_d (by simp only [List.length_nil]; omega), test_d (by omega), test_d (by simp only [List.length_nil, List.length_append, List.length_cons]; omega)]
    refine (test_true (wok_pre hu hof)).trans ?_
    have e1 : (!(mayRow (l ++ [(turned (rdEl TShare l 0).1, 1)]))) = false := by rw [hot]; rfl
    refine (cond_f e1).trans ?_
    have hv : wheelN u (l ++ [(turned (rdEl TShare l 0).1, 1)]) = (l ++ [(turned (rdEl TShare l 0).1, 1)], nowOf u.1 (l ++ [(turned (rdEl TShare l 0).1, 1)]) u.2) := by unfold wheelN; rw [hot]; rfl
    have hvl : eqSh (wheelN u (l ++ [(turned (rdEl TShare l 0).1, 1)])).1 l = false := by
      rw [hv]
      exact eqSh_len _ _ (by rw [hotl]; omega)
    exact again_loop l hl hm w _ hw hvl (wok_next hu _) N hN N 0 (by omega)
  | n + 1, k, h, hk => by
    rw [show n + 1 + 1 + (N + 1) = (n + 1 + (N + 1)) + 1 by omega, lAnew.s4, cond_dt (by omega), test_d (by omega), test_d (by omega), test_d (by omega), toNat_cast, w64s (by omega)]
    by_cases he : (rdEl TShare l k).1 = turned (rdEl TShare l 0).1
    · exact (cond_et he).trans rfl
    · refine (cond_ef he).trans ?_
      refine check_loop l hl hm h10 w u hw hu N hN n (k + 1) (by omega) fun i hi => ?_
      by_cases hik : i < k
      · exact hk i hik
      · have : i = k := by omega
        subst this
        exact he

theorem first_loop (l : List (El TShare)) (hl : fits (.sl TShare) l = true) (hm : mayRow l = true) (h10 : l.length ≤ 10) (w : El TWheel) (hw : eqSh w.1 l = false) (hw2 : Wok w) (N : Nat) (hN : N ≤ 40) : ∀ (n j : Nat), N = j + n →
    lAnew.l3 (n + 1 + (l.length + 1 + (N + 1))) N l N j (idsW l w j) (seqW l w j).1 (seqW l w j).2 = some (vb true, [])
  | 0, j, h => by
    have : j = N := by omega
    subst this
    rw [show 0 + 1 + (l.length + 1 + (j + 1)) = (l.length + 1 + (j + 1)) + 1 by omega, lAnew.s3, cond_df (by omega)]
    exact check_loop l hl hm h10 w (seqW l w j) hw (wok_seq hw2 l j) j hN l.length 0 (by omega) fun i hi => by omega
  | n + 1, j, h => by
    have h8 : lim 8 = 17592186044416 := by simp [lim]
    have hlen : (idsW l w j).length = j := by simp [idsW]
    rw [show n + 1 + 1 + (l.length + 1 + (N + 1)) = (n + 1 + (l.length + 1 + (N + 1))) + 1 by omega, lAnew.s3, cond_dt (by omega)]
    refine (test_true (wok_pre (wok_seq hw2 l j) hl)).trans ?_
    rw [h8, test_d (by rw [hlen]; simp only [List.length_cons, List.length_nil]; omega), w64s (by omega)]
    have e : idsW l w j ++ [nextI (seqW l w j) l] = idsW l w (j + 1) := by
      unfold idsW
      rw [List.range_succ, List.map_append]; rfl
    have ih := first_loop l hl hm h10 w hw hw2 N hN n (j + 1) (by omega)
    rw [← e] at ih
    exact ih

/-! ### the row -/

theorem row_loop (ids parts : List Int) (x : Int) (h10 : ids.length ≤ 10) (h1 : 1 ≤ ids.length) (hp : ids.length ≤ parts.length) : ∀ (n k : Nat) (l : List (El TShare)), ids.length = k + n → Built ids k l →
    ∃ m, lAnew.l1 m ids parts x ids ids.length k l = some (vb true, [])
  | 0, k, l, h, hb => by
    have hm := built_may hb (by omega) (by omega)
    have hl := hb.len
    have hbig := big
    have hlf : fits (.sl TShare) l = true := fits_shs (by omega)
    have hk0 : 0 ≤ IntKind.u64.wrap x := (wrap_within .u64 x).1
    have h2 := Int.emod_nonneg (IntKind.u64.wrap x) (show (40 : Int) ≠ 0 by omega)
    have h3 := Int.emod_lt_of_pos (IntKind.u64.wrap x) (show (0 : Int) < 40 by omega)
    obtain ⟨N, hN, hNe⟩ : ∃ N : Nat, N ≤ 40 ∧ IntKind.i64.wrap (Int.tmod (IntKind.u64.wrap x) 40) = (N : Int) := by
      rw [Int.tmod_eq_emod_of_nonneg hk0]
      exact ⟨(IntKind.u64.wrap x % 40).toNat, by omega, by rw [w64 (by omega) (by omega)]; omega⟩
    have hne : eqSh ([] : List (Int × Int)) l = false := eqSh_len _ _ (by simp only [List.length_nil]; omega)
    refine ⟨(N + 1 + (l.length + 1 + (N + 1))) + 1, ?_⟩
    rw [lAnew.s1, cond_df (by omega), hNe]
    exact first_loop l hlf hm (by omega) ([], []) hne wok_new N hN N 0 (by omega)
  | n + 1, k, l, h, hb => by
    have hk : k < ids.length := by omega
    have ht : (ids.take k).length = k := by rw [List.length_take]; omega
    have hl := hb.len
    have h16 : (lim 16) = 8796093022208 := by simp [lim]
    -- the numbers ahead
    have inner : ∀ (q i : Nat), k = i + q → (∀ j, j < i → rdEl (.int .i64) ids j ≠ rdEl (.int .i64) ids k) → ∃ m, lAnew.l2 m ids parts x k (rdEl (.int .i64) ids k) ids ids.length k (ids.take k) ((ids.take k).length : Int) i l = some (vb true, []) := by
      intro q
      induction q with
      | zero =>
        intro i hi hd
        have : i = k := by omega
        subst this
        obtain ⟨m, hm⟩ := row_loop ids parts x h10 h1 hp n (i + 1) (l ++ [(rdEl (.int .i64) ids i, IntKind.i64.wrap (1 + IntKind.i64.wrap (Int.tmod (IntKind.u64.wrap (rdEl (.int .i64) parts i)) 20)))]) (by omega) (built_more hb (part20 _) hd)
        refine ⟨m + 1, ?_⟩
        rw [lAnew.s2, cond_df (by omega), test_d (by omega), test_d (by omega), h16, test_d (by simp only [List.length_cons, List.length_nil]; omega), w64s (by omega), toNat_cast]
        exact hm
      | succ q ih =>
        intro i hi hd
        by_cases he : rdEl (.int .i64) ids k = rdEl (.int .i64) ids i
        · refine ⟨1, ?_⟩
          rw [lAnew.s2, cond_dt (by omega), test_d (by omega), test_d (by omega), toNat_cast, rd_take (t := .int .i64) (by omega)]
          exact (cond_et he).trans rfl
        · obtain ⟨m, hm⟩ := ih (i + 1) (by omega) fun j hj => by
            by_cases hji : j < i
            · exact hd j hji
            · have : j = i := by omega
              subst this
              exact fun h => he h.symm
          refine ⟨m + 1, ?_⟩
          rw [lAnew.s2, cond_dt (by omega), test_d (by omega), test_d (by omega), toNat_cast, rd_take (t := .int .i64) (by omega), w64s (by omega)]
          exact (cond_ef he).trans hm
    obtain ⟨m, hm⟩ := inner k 0 (by omega) (fun j hj => by omega)
    refine ⟨m + 1, ?_⟩
    rw [lAnew.s1, cond_dt (by omega), test_d (by omega), test_d (by omega), test_d (by omega), test_d (by omega), toNat_cast, List.drop_zero]
    exact hm

theorem lAnew_R : lAnew.Law := fun ids parts x hx => by
  have hso := awake_ok.cons' (b := []) SpecsOK.nil
  have ho := new_ok.cons' (o := []) (b := []) (nextW_ok.cons' (o := [some (.obj [.sl TShare, .arr 3 (.int .i64)])]) (b := []) .nil)
  by_cases h1 : (ids.length : Int) < 1
  · refine lAnew.ret hso ho ids parts x (m := 1) ?_
    rw [lAnew.start, cond_dt h1]; rfl
  by_cases h2 : (ids.length : Int) > 10
  · refine lAnew.ret hso ho ids parts x (m := 1) ?_
    rw [lAnew.start, cond_df h1, cond_dt h2]; rfl
  by_cases h3 : (parts.length : Int) < ids.length
  · refine lAnew.ret hso ho ids parts x (m := 1) ?_
    rw [lAnew.start, cond_df h1, cond_df h2, cond_dt h3]; rfl
  obtain ⟨m, hm⟩ := row_loop ids parts x (by omega) (by omega) (by omega) ids.length 0 [] (by omega) ⟨rfl, fun i hi => by omega, fun i hi => by omega, fun i j hi hj => by omega⟩
  refine lAnew.ret hso ho ids parts x (m := m + 1) ?_
  rw [lAnew.start, cond_df h1, cond_df h2, cond_df h3]
  exact hm

end Go.Proofs.Ytgocadoemofepaa
