/-
  Tickets: what the laws' functions come to (a book that there isn't; as many as may be; any calls).
-/
import Derived.Test.YtlmfmpfpildemaaLC
import Derived.Laws.Closers25b
namespace Go.Proofs.Ytlmfmpfpildemaa
open Go VE

theorem pre1 {b : Int × List (Int × Int)} {k : Nat} (h : Bok b k) : (fits TBook b && (true && true)) = true := by rw [h.fits]; rfl
theorem pre0 {b : Int × List (Int × Int)} {k : Nat} (h : Bok b k) : (fits TBook b && true) = true := by rw [h.fits]; rfl
theorem preR {b : Int × List (Int × Int)} {k : Nat} (h : Bok b k) : (fits TBookR (twin b) && (true && true)) = true := by rw [h.fitsR]; rfl
theorem pre_keys {b : Int × List (Int × Int)} {k : Nat} (h : Bok b k) : fits (.sl TKey) b.2 = true := (fits_prod h.fits).2

theorem lNil_R : lNil.Law := fun n _ =>
  lNil.ret (awake_ok.cons' SpecsOK.nil) (openZ_ok.cons' (closeZ_ok.cons' (ofZ_ok.cons' (dropZ_ok.cons' (countZ_ok.cons' (lenZ_ok.cons' (allZ_ok.cons' .nil))))))) n (m := 1) (by rw [lNil.start]; rfl)

/-! ### any calls -/

theorem plays_tail {b : Int × List (Int × Int)} {k : Nat} (h : Bok b k) {w : El TBookR} (hw : w = twin b) (n : Int) {E : Bool} (hE : E = true) {F X Y : R} (hX : X = Y) :
    test (of.pre (b, (n, Unit.unit))) (test (ofR.pre (w, (n, Unit.unit))) (cond (Bool.not E) F (cond (bne (closeI b n) (ofRI w n)) F (cond (Bool.not ((hasId b n) == (ofRB w n))) F (
      test (count.pre (b, (n, Unit.unit))) (test (countR.pre (w, (n, Unit.unit))) (cond (bne (countI b n) (countRI w n)) F (test (len.pre (b, Unit.unit)) (cond (bne ((List.length b.2 : Nat) : Int) ((List.length w.1 : Nat) : Int)) F (
        test (all.pre (b, Unit.unit)) (test (sameT.pre (b.2, (w.1, Unit.unit))) (cond (Bool.not (eqK b.2 w.1)) F X)))))))))))) = Y := by
  subst hX
  subst hw
  obtain ⟨_, c2, c3⟩ := twin_close h n
  have d2 := (twin_drop b n).2
  subst hE
  have e1 : bne (closeI b n) (ofRI (twin b) n) = false := by rw [c2]; simp
  have e2 : (Bool.not ((hasId b n) == (ofRB (twin b) n))) = false := by rw [c3]; simp
  have e3 : bne (countI b n) (countRI (twin b) n) = false := by rw [d2]; simp
  have e4 : bne ((List.length b.2 : Nat) : Int) ((List.length (twin b).1 : Nat) : Int) = false := by show bne _ _ = false; simp [twin]
  have e5 : (Bool.not (eqK b.2 (twin b).1)) = false := by show (!eqK b.2 b.2) = false; rw [eqK_self]; rfl
  have hk := pre_keys h
  have s1 : sameT.pre (b.2, ((twin b).1, Unit.unit)) = true := by show (fits (.sl TKey) b.2 && (fits (.sl TKey) b.2 && true)) = true; rw [hk]; rfl
  rw [test_true (show of.pre (b, (n, Unit.unit)) = true from pre1 h), test_true (show ofR.pre (twin b, (n, Unit.unit)) = true from preR h), Bool.not_true, cond_false, e1, cond_false, e2, cond_false, test_true (show count.pre (b, (n, Unit.unit)) = true from pre1 h),
    test_true (show countR.pre (twin b, (n, Unit.unit)) = true from preR h), e3, cond_false, test_true (show len.pre (b, Unit.unit) = true from pre0 h), e4, cond_false, test_true (show all.pre (b, Unit.unit) = true from pre0 h), test_true s1, e5, cond_false]

theorem plays_loop (l : List (El TKey)) (h300 : l.length ≤ 300) : ∀ (n k : Nat) (b : Int × List (Int × Int)), l.length = k + n → Bok b k → lPlays.l1 (n + 1) l l.length k b.1 b.2 b.1 b.2 = some (vb true, [])
  | 0, k, b, h, hb => by rw [lPlays.s1, cond_df (by omega)]; rfl
  | n + 1, k, b, h, hb => by
    have ih : ∀ (b' : Int × List (Int × Int)) (w' : El TBookR), w' = twin b' → Bok b' (k + 1) → lPlays.l1 (n + 1) l l.length (IntKind.i64.wrap ((k : Int) + 1)) w'.2 w'.1 b'.1 b'.2 = some (vb true, []) := fun b' w' hw hb' => by
      subst hw
      rw [w64s (by omega)]
      exact plays_loop l h300 n (k + 1) b' (by omega) hb'
    rw [lPlays.s1, cond_dt (by omega), test_d (by omega), test_d (by omega), toNat_cast]
    generalize rdEl TKey l k = c
    by_cases h0 : c.1 = 0
    · obtain ⟨c1, c2, c3⟩ := twin_close hb c.2
      have hb2 := hb.close c.2
      refine (cond_et h0).trans ?_
      refine (test_true (show close.pre (b, c.2, ()) = true from pre1 hb)).trans ((test_true (show closeR.pre (twin b, c.2, ()) = true from preR hb)).trans ?_)
      refine (cond_et (show closeI b c.2 = ofRI (twin b) c.2 from c2.symm)).trans ?_
      exact plays_tail hb2 c1 c.2 (by show ((closeE b c.2) == (bif ofRB (twin b) c.2 then 0 else 4)) = true; rw [c3]; unfold closeE; simp) (ih _ _ c1 (hb2.mono (by omega)))
    refine (cond_ef h0).trans ?_
    by_cases h1 : c.1 = 1
    · obtain ⟨c1, c2⟩ := twin_drop b c.2
      have hb2 := hb.drop c.2
      refine (cond_et h1).trans ?_
      refine (test_true (show drop.pre (b, c.2, ()) = true from pre1 hb)).trans ((test_true (show dropR.pre (twin b, c.2, ()) = true from preR hb)).trans ?_)
      exact plays_tail hb2 c1 c.2 (by show (countI b c.2 == countRI (twin b) c.2) = true; rw [c2]; simp) (ih _ _ c1 (hb2.mono (by omega)))
    · obtain ⟨c1, c2, c3⟩ := twin_open b c.2
      have hb2 := hb.open (by omega) c.2
      refine (cond_ef h1).trans ?_
      refine (test_true (show open.pre (b, c.2, ()) = true from pre1 hb)).trans ((test_true (show openR.pre (twin b, c.2, ()) = true from preR hb)).trans ?_)
      refine (cond_et (show openI b = openRI (twin b) from c2.symm)).trans ?_
      exact plays_tail hb2 c1 c.2 (by show (openE b == openRE (twin b)) = true; rw [c3]; simp) (ih _ _ c1 hb2)

theorem lPlays_R : lPlays.Law := fun l hx => by
  refine lPlays.ret (awake_ok.cons' (ofR_ok.cons' (countR_ok.cons' (sameT_ok.cons' SpecsOK.nil)))) (new_ok.cons' (open_ok.cons' (close_ok.cons' (of_ok.cons' (drop_ok.cons' (count_ok.cons' (len_ok.cons' (all_ok.cons' (openR_ok.cons' (closeR_ok.cons' (dropR_ok.cons' .nil))))))))))) l (m := l.length + 2) ?_
  rw [lPlays.start]
  by_cases h1 : (l.length : Int) > 300
  · rw [cond_dt h1]; rfl
  · rw [cond_df h1]
    exact plays_loop l (by omega) l.length 0 (0, []) (by omega) bok_new

/-! ### as many as may be -/

/-- So many tickets of one host, from the first on. -/
def rowOf (h : Int) (k : Nat) : List (Int × Int) := (List.range k).map fun i => (((i + 1 : Nat) : Int), h)
theorem rowOf_len (h : Int) (k : Nat) : (rowOf h k).length = k := by simp [rowOf]
theorem rowOf_succ (h : Int) (k : Nat) : rowOf h (k + 1) = rowOf h k ++ [(((k + 1 : Nat) : Int), h)] := by simp [rowOf, List.range_succ]

theorem open_row (h : Int) {k : Nat} (hk : k < 2000) : openB ((k : Int), rowOf h k) h = (((k + 1 : Nat) : Int), rowOf h (k + 1)) ∧ openE ((k : Int), rowOf h k) = 0 ∧ openI ((k : Int), rowOf h k) = ((k + 1 : Nat) : Int) := by
  have hn : nextN ((k : Int), rowOf h k) = ((k + 1 : Nat) : Int) := w64s (by omega)
  unfold openB openE openI full
  have hf : ¬ 2000 ≤ (rowOf h k).length := by rw [rowOf_len]; omega
  rw [cond_df hf, cond_df hf, cond_df hf, hn, rowOf_succ]
  exact ⟨rfl, rfl, rfl⟩

theorem full_bok (h : Int) : ∀ (k : Nat), k ≤ 2000 → Bok ((k : Int), rowOf h k) k
  | 0, _ => bok_new
  | k + 1, hk => by
    have := (full_bok h k (by omega)).open (by omega) h
    rw [(open_row h (by omega)).1] at this
    exact this

theorem rowOf_get (h : Int) {i k : Nat} (hi : i < k) : rdEl TKey (rowOf h k) i = (((i + 1 : Nat) : Int), h) := by
  simp [rdEl, rowOf, List.getD, hi]

theorem rowOf_host (h : Int) (k : Nat) {e : Int × Int} (he : e ∈ rowOf h k) : e.2 = h := by
  obtain ⟨i, _, rfl⟩ := List.mem_map.1 he
  rfl

theorem full_ix (h : Int) {i k : Nat} (hi : i < k) : ixOf (keyA ((i + 1 : Nat) : Int)) (rowOf h k) = (i : Int) := by
  rcases ixOf_cases (keyA ((i + 1 : Nat) : Int)) (rowOf h k) with ⟨_, _, h2⟩ | ⟨j, h1, h2, h3, h4, _⟩
  · have := List.any_eq_false.1 h2 (((i + 1 : Nat) : Int), h) (by simp only [rowOf]; exact List.mem_map.2 ⟨i, by simp [hi], rfl⟩)
    simp [keyA] at this
  · rw [h1]
    rw [rowOf_len] at h2
    have e2 : (rowOf h k).take (j + 1) = (rowOf h k).take j ++ [rdEl TKey (rowOf h k) j] := take_rd (by rw [rowOf_len]; exact h2)
    rw [e2, List.filter_append, h3] at h4
    cases hp : keyA ((i + 1 : Nat) : Int) (rdEl TKey (rowOf h k) j) with
    | true =>
      rw [rowOf_get h h2] at hp
      simp [keyA] at hp
      omega
    | false =>
      have := congrArg List.length h4
      rw [List.filter_cons, hp] at this
      simp at this

theorem mod2000 (k : Int) : ∃ i : Nat, i < 2000 ∧ IntKind.i64.wrap (1 + IntKind.i64.wrap (Int.tmod (IntKind.u64.wrap k) 2000)) = ((i + 1 : Nat) : Int) := by
  have hk : 0 ≤ IntKind.u64.wrap k := (wrap_within .u64 k).1
  rw [Int.tmod_eq_emod_of_nonneg hk]
  have h2 := Int.emod_nonneg (IntKind.u64.wrap k) (show (2000 : Int) ≠ 0 by omega)
  have h3 := Int.emod_lt_of_pos (IntKind.u64.wrap k) (show (0 : Int) < 2000 by omega)
  refine ⟨(IntKind.u64.wrap k % 2000).toNat, by omega, ?_⟩
  rw [w64 (n := IntKind.u64.wrap k % 2000) (by omega) (by omega), w64 (by omega) (by omega)]
  omega

theorem wrap_ne (h : Int) (h1 : -9223372036854775808 ≤ h) (h2 : h ≤ 9223372036854775807) : IntKind.i64.wrap (h + 1) ≠ h := by
  rw [IntKind.wrap_i64]; omega

theorem full_endL (h : Int) (h1 : -9223372036854775808 ≤ h) (h2 : h ≤ 9223372036854775807) (x : Int) (m : Nat) (L : List (Int × Int)) (hlen : L.length = 2000) (hhost : ∀ e, e ∈ L → e.2 = h) {i : Nat} (hi : i < 2000)
    (hx : IntKind.i64.wrap (1 + IntKind.i64.wrap (Int.tmod (IntKind.u64.wrap x) 2000)) = ((i + 1 : Nat) : Int)) (hix : ixB (2000, L) ((i + 1 : Nat) : Int) = (i : Int)) (hget : (rdEl TKey L i).2 = h) (hb : Bok (2000, L) 2000) :
    lFull.l1 (m + 1) h x 2000 2000 L = some (vb true, []) := by
  have hfull : full (2000, L) = true := dec_t (by show 2000 ≤ L.length; omega)
  have e0 : openB (2000, L) h = (2000, L) := by unfold openB; rw [hfull]; rfl
  have e1 : openE (2000, L) = 6 := by unfold openE; rw [hfull]; rfl
  have hhas : hasId (2000, L) ((i + 1 : Nat) : Int) = true := by unfold hasId; rw [hix, dec_f (by omega)]; rfl
  have e2 : closeE (2000, L) ((i + 1 : Nat) : Int) = 0 := by unfold closeE; rw [hhas]; rfl
  have e3 : closeI (2000, L) ((i + 1 : Nat) : Int) = h := by
    unfold closeI; rw [hhas, cond_true, hix, toNat_cast]
    exact hget
  have e4 : closeB (2000, L) ((i + 1 : Nat) : Int) = (2000, cutOut L i (i + 1)) := by
    unfold closeB; rw [hhas, cond_true, hix, toNat_cast]
  have hcl : (cutOut L i (i + 1)).length = 1999 := by
    unfold cutOut
    rw [List.length_append, List.length_take, List.length_drop, hlen]
    omega
  have hch : ∀ e, e ∈ cutOut L i (i + 1) → e.2 = h := fun e he => by
    unfold cutOut at he
    rcases List.mem_append.1 he with he | he
    · exact hhost _ (List.mem_of_mem_take he)
    · exact hhost _ (List.mem_of_mem_drop he)
  have hb2 : Bok (2000, cutOut L i (i + 1)) 2000 := by
    have := hb.close ((i + 1 : Nat) : Int)
    rwa [e4] at this
  generalize cutOut L i (i + 1) = c at e4 hcl hch hb2
  have hnf : full (2000, c) = false := dec_f (by show ¬ 2000 ≤ c.length; omega)
  have hn : nextN (2000, c) = 2001 := by unfold nextN; rw [w64 (by show _ ≤ (2000 : Int) + 1; omega) (by show (2000 : Int) + 1 ≤ _; omega)]; rfl
  have e5 : openE (2000, c) = 0 := by unfold openE; rw [hnf]; rfl
  have e6 : openI (2000, c) = 2001 := by unfold openI; rw [hnf, hn]; rfl
  have e7 : openB (2000, c) (IntKind.i64.wrap (h + 1)) = (2001, c ++ [(2001, IntKind.i64.wrap (h + 1))]) := by unfold openB; rw [hnf, hn]; rfl
  have hb3 : Bok (2001, c ++ [(2001, IntKind.i64.wrap (h + 1))]) 2001 := by
    have := hb2.open (by omega) (IntKind.i64.wrap (h + 1))
    rwa [e7] at this
  have hne := wrap_ne h h1 h2
  have f1 : c.filter (keyB h) = c := filter_id fun e he => by simp [keyB, hch e he]
  have f2 : dropL h c = [] := List.filter_eq_nil_iff.2 fun e he => by simp [keyB, hch e he]
  have e8 : countI (2001, c ++ [(2001, IntKind.i64.wrap (h + 1))]) h = 1999 := by
    unfold countI
    show (((c ++ [(2001, IntKind.i64.wrap (h + 1))]).filter (keyB h)).length : Int) = 1999
    rw [List.filter_append, f1]
    have : keyB h (2001, IntKind.i64.wrap (h + 1)) = false := by simp [keyB, hne]
    simp [this, hcl]
  have e9 : dropB (2001, c ++ [(2001, IntKind.i64.wrap (h + 1))]) h = (2001, [(2001, IntKind.i64.wrap (h + 1))]) := by
    rw [dropB_eq]
    show ((2001 : Int), dropL h (c ++ [(2001, IntKind.i64.wrap (h + 1))])) = _
    have h3 : dropL h (c ++ [(2001, IntKind.i64.wrap (h + 1))]) = dropL h c ++ dropL h [(2001, IntKind.i64.wrap (h + 1))] := List.filter_append ..
    have h4 : dropL h [(2001, IntKind.i64.wrap (h + 1))] = [(2001, IntKind.i64.wrap (h + 1))] := by
      have : keyB h (2001, IntKind.i64.wrap (h + 1)) = false := by simp [keyB, hne]
      simp [dropL, this]
    rw [h3, h4, f2]; rfl
  have hb4 : Bok (2001, [(2001, IntKind.i64.wrap (h + 1))]) 2001 := by
    have := hb3.drop h
    rwa [e9] at this
  rw [lFull.s1, cond_df (by omega)]
  refine (test_true (show open.pre ((2000, L), h, ()) = true from pre1 hb)).trans ?_
  rw [e0, hx, e1, e2, e3, e4, e5, e6, e7, e8, e9]
  refine (test_true (show close.pre ((2000, L), _, ()) = true from pre1 hb)).trans ?_
  refine (test_true (show open.pre ((2000, c), _, ()) = true from pre1 hb2)).trans ?_
  refine (cond_et rfl).trans ((cond_et rfl).trans ((cond_et rfl).trans ((cond_et rfl).trans ((cond_et rfl).trans ?_))))
  refine (test_true (show count.pre ((2001, c ++ [(2001, IntKind.i64.wrap (h + 1))]), _, ()) = true from pre1 hb3)).trans ?_
  refine (cond_et rfl).trans ((test_true (show drop.pre ((2001, c ++ [(2001, IntKind.i64.wrap (h + 1))]), _, ()) = true from pre1 hb3)).trans ((cond_et rfl).trans ?_))
  exact (test_true (show len.pre ((2001, [(2001, IntKind.i64.wrap (h + 1))]), ()) = true from pre0 hb4)).trans rfl

theorem full_end (h : Int) (h1 : -9223372036854775808 ≤ h) (h2 : h ≤ 9223372036854775807) (x : Int) (m k : Nat) (hk : k = 2000) : lFull.l1 (m + 1) h x k k (rowOf h k) = some (vb true, []) := by
  obtain ⟨i, hi, hx⟩ := mod2000 x
  have hb := full_bok h k (by omega)
  have hlen := rowOf_len h k
  have hhost : ∀ e, e ∈ rowOf h k → e.2 = h := fun e he => rowOf_host h k he
  have hix : ixB ((k : Int), rowOf h k) ((i + 1 : Nat) : Int) = (i : Int) := full_ix h (by omega)
  have hget : (rdEl TKey (rowOf h k) i).2 = h := by rw [rowOf_get h (by omega)]
  generalize rowOf h k = L at *
  subst hk
  exact full_endL h h1 h2 x m L hlen hhost hi hx hix hget hb

theorem full_loop (h : Int) (h1 : -9223372036854775808 ≤ h) (h2 : h ≤ 9223372036854775807) (x : Int) : ∀ (n k : Nat), 2000 = k + n → lFull.l1 (n + 1) h x k k (rowOf h k) = some (vb true, [])
  | 0, k, hk => by
    exact full_end h h1 h2 x 0 k (by omega)
  | n + 1, k, hk => by
    obtain ⟨o1, o2, o3⟩ := open_row h (show k < 2000 by omega)
    have hb := full_bok h k (by omega)
    rw [lFull.s1, cond_dt (by omega)]
    refine (test_true (show open.pre (((k : Int), rowOf h k), h, ()) = true from pre1 hb)).trans ?_
    rw [w64s (by omega), o1, o2, o3]
    refine (cond_nf rfl).trans ((cond_nf rfl).trans ?_)
    exact full_loop h h1 h2 x n (k + 1) (by omega)

theorem lFull_R : lFull.Law := fun h x hx => by
  have hh : (true && (true && (decide (-9223372036854775808 ≤ h ∧ h ≤ 9223372036854775807) && true))) = true := hx
  simp only [Bool.true_and, Bool.and_true, decide_eq_true_eq] at hh
  refine lFull.ret (awake_ok.cons' SpecsOK.nil) (new_ok.cons' (open_ok.cons' (close_ok.cons' (count_ok.cons' (drop_ok.cons' (len_ok.cons' .nil)))))) h x (m := 2002) ?_
  rw [lFull.start]
  exact full_loop h hh.1 hh.2 x 2000 0 (by omega)

theorem lFull_pre (h x : Int) (hx : wfs [(false, .int .i64), (false, .int .i64)] (h, x, ())) : lFull.pre (h, x, ()) = true := by
  have b4 : -9223372036854775808 ≤ h ∧ h ≤ 9223372036854775807 := hx.1
  show (true && (true && (decide (-9223372036854775808 ≤ h ∧ h ≤ 9223372036854775807) && true))) = true
  rw [dec_t b4]; rfl

end Go.Proofs.Ytlmfmpfpildemaa
