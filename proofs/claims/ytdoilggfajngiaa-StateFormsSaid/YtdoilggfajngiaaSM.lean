/-
  States: who may be, as the document has it; the laws of forms and of finding.
-/
import Derived.Test.YtdoilggfajngiaaSL
import Derived.Test.YtdoilggfajngiaaSH
import Derived.Laws.Closers25b
namespace Go.Proofs.Ytdoilggfajngiaa
open Go VE

theorem time_bne (n : Int) : bne n (timeI n) = !isTimeB n := by
  unfold timeI isTimeB
  by_cases h1 : n < 0
  · rw [if_pos h1, dec_f (by omega : ¬ 0 ≤ n)]
    have : n ≠ 0 := by omega
    simpa using this
  · rw [if_neg h1, dec_t (by omega : 0 ≤ n)]
    by_cases h2 : n ≤ 4611686018427387904
    · rw [if_pos h2, dec_t h2]; simp
    · rw [if_neg h2, dec_f h2]
      have : n ≠ 4611686018427387904 := by omega
      simpa using this

theorem maySR_ok : maySR.OK := maySR.mk (mayR_ok.cons' (timeR_ok.cons' SpecsOK.nil)) fun l hx => by
  have hl : fits (.sl TStatus) l = true := by simpa [maySR.pre] using hx
  have hb := stat_len hl
  have hr := reach_lt
  refine ⟨l.length + 2, ?_⟩
  rw [maySR.start]
  have h := loop_any (badAt l) l.length (fun m k => maySR.l1 m l l l.length k) (some (vb false, [])) (some (vb (decide (l.length ≤ 64)), [])) (fun m k hk => ?_) (fun m => ?_) l.length 0 (by omega)
  · refine h.trans ?_
    show _ = some (vb (maySB l), _)
    unfold maySB
    cases anyN (badAt l) 0 l.length <;> rfl
  · have a1 : mayR.pre ((rdEl TStatus l k).1, ()) = true := by simpa [mayR.pre] using fits_stat (fits_rd hl hk)
    rw [maySR.s1, cond_dt (by omega), test_d (by omega), test_d (by omega), toNat_cast, test_true a1, w64s (by omega)]
    unfold badAt mayOneB sProb sErr sAct sBk sOut sDrains sGone sSince
    simp only [time_bne]
    generalize maySR.l1 m l l l.length ((k + 1 : Nat) : Int) = LL
    by_cases h0 : 0 < k
    · have e1 : IntKind.i64.wrap ((k : Int) - 1) = ((k - 1 : Nat) : Int) := by rw [w64] <;> omega
      rw [e1, toNat_cast, dec_t h0, cond_dt (by omega), test_d (by omega), test_d (by omega)]
      have e2 : decide ((rdEl TStatus l k).1.1 ≤ (rdEl TStatus l (k - 1)).1.1) = !decide (sId (rdEl TStatus l (k - 1)) < sId (rdEl TStatus l k)) := by rw [dlt, Bool.not_not]
      rw [e2]
      generalize decide (sId (rdEl TStatus l (k - 1)) < sId (rdEl TStatus l k)) = c0
      generalize rdEl TStatus l k = s
      simp only [dlt, dgt]
      generalize decide (0 ≤ s.2.1.2.2.1) = c1
      generalize decide (s.2.1.2.2.1 ≤ 2) = c2
      generalize decide (0 ≤ s.2.1.2.1) = c3
      generalize decide (0 ≤ s.2.2.1) = c4
      generalize decide (0 ≤ s.2.2.2.2.2.2.2.2) = c5
      generalize decide (0 ≤ s.2.1.2.2.2) = c6
      generalize decide (0 ≤ s.2.2.2.1.1) = c7
      generalize decide (0 ≤ s.2.2.2.2.1.2.2.2) = c8
      generalize decide (s.2.2.2.2.1.2.2.2 ≤ 10) = c9
      generalize decide (s.2.2.2.1.1 ≤ s.2.2.2.1.2) = c10
      generalize mayB s.1 = c11
      generalize s.2.2.2.2.2.1 = c12
      generalize s.2.2.2.2.1.1 = c13
      generalize isTimeB s.2.2.2.2.2.2.1 = t1
      generalize isTimeB s.2.2.2.2.2.2.2.1 = t2
      generalize isTimeB s.2.2.2.2.1.2.1 = t3
      generalize isTimeB s.2.2.2.2.1.2.2.1 = t4
      cases c11 <;> cases c0 <;> cases c1 <;> cases c2 <;> cases c3 <;> cases c4 <;> try (first | rfl | (cases c12 <;> cases c13 <;> rfl))
      all_goals (cases c5 <;> cases c6 <;> cases c8 <;> cases c9 <;> cases c7 <;> cases c10 <;> try (first | rfl | (cases c12 <;> cases c13 <;> rfl)))
      all_goals (cases t1 <;> cases t2 <;> cases t3 <;> cases t4 <;> cases c12 <;> cases c13 <;> rfl)
    · rw [dec_f h0, cond_df (by omega)]
      generalize rdEl TStatus l k = s
      simp only [dlt, dgt, Bool.false_and, Bool.or_false]
      generalize decide (0 ≤ s.2.1.2.2.1) = c1
      generalize decide (s.2.1.2.2.1 ≤ 2) = c2
      generalize decide (0 ≤ s.2.1.2.1) = c3
      generalize decide (0 ≤ s.2.2.1) = c4
      generalize decide (0 ≤ s.2.2.2.2.2.2.2.2) = c5
      generalize decide (0 ≤ s.2.1.2.2.2) = c6
      generalize decide (0 ≤ s.2.2.2.1.1) = c7
      generalize decide (0 ≤ s.2.2.2.2.1.2.2.2) = c8
      generalize decide (s.2.2.2.2.1.2.2.2 ≤ 10) = c9
      generalize decide (s.2.2.2.1.1 ≤ s.2.2.2.1.2) = c10
      generalize mayB s.1 = c11
      generalize s.2.2.2.2.2.1 = c12
      generalize s.2.2.2.2.1.1 = c13
      generalize isTimeB s.2.2.2.2.2.2.1 = t1
      generalize isTimeB s.2.2.2.2.2.2.2.1 = t2
      generalize isTimeB s.2.2.2.2.1.2.1 = t3
      generalize isTimeB s.2.2.2.2.1.2.2.1 = t4
      cases c11 <;> cases c1 <;> cases c2 <;> cases c3 <;> cases c4 <;> try (first | rfl | (cases c12 <;> cases c13 <;> rfl))
      all_goals (cases c5 <;> cases c6 <;> cases c8 <;> cases c9 <;> cases c7 <;> cases c10 <;> try (first | rfl | (cases c12 <;> cases c13 <;> rfl)))
      all_goals (cases t1 <;> cases t2 <;> cases t3 <;> cases t4 <;> cases c12 <;> cases c13 <;> rfl)
  · rw [maySR.s1, cond_df (by omega)]
    rw [show ((64 : Int)) = ((64 : Nat) : Int) from rfl, dcast]; rfl

/-! ### forms -/

theorem gate2 {b : Bool} {x r : R} (h : x = r) : cond b r x = r := by cases b <;> first | rfl | exact h

theorem hostsL_map (l : List (El TStatus)) : List.filterMap (fun s : El TStatus => some s.1) l = hostsL l := by
  unfold hostsL
  induction l with
  | nil => rfl
  | cons a l ih => simp

theorem fits_hosts {l : List (El TStatus)} (h : fits (.sl TStatus) l = true) : fits (.sl THost) (hostsL l) = true :=
  fits_sl (by
    have h1 := stat_len h
    have e : bytesTy THost = 80 := rfl
    rw [e]
    unfold hostsL
    rw [List.length_map]
    omega) fun e he => by
      unfold hostsL at he
      obtain ⟨s, hs, rfl⟩ := List.mem_map.1 he
      exact fits_stat (fits_mem h hs)

theorem lForms_R : lForms.Law := fun l m2 s h now id hx => by
  have hh : fits (.sl TStatus) l = true ∧ fits (.sl TStatus) m2 = true ∧ fits TStatus s = true ∧ fits THost h = true := by
    have : (fits (.sl TStatus) l && (fits (.sl TStatus) m2 && (fits TStatus s && (fits THost h && true)))) = true := hx
    simpa using this
  obtain ⟨hl, hm, hs, hh⟩ := hh
  have hb := stat_len hl
  have hr := reach_lt
  refine lForms.ret (lightS16_ok.cons' (light_ok.cons' (awakeS_ok.cons' (newS_ok.cons' (newR_ok.cons' (sameOR_ok.cons' (mayS_ok.cons' (maySR_ok.cons' (find_ok.cons' (findR_ok.cons' (free_ok.cons' (freeR_ok.cons' (members_ok.cons' (membersR_ok.cons' (sameSR_ok.cons' (outs_ok.cons' (outsR_ok.cons' (sameS_ok.cons' (copyS_ok.cons' (hosts_ok.cons' (sameHR_ok.cons' SpecsOK.nil))))))))))))))))))))) l m2 s h now id (m := l.length + 2) ?_
  rw [lForms.start, test_true (by simpa [lightS16.pre] using hl), test_true (by simpa [lightS16.pre] using hm), test_true (by simpa [light.pre] using fits_stat hs), test_true (by simpa [light.pre] using hh)]
  obtain ⟨⟨sa, sb, sc, sd, se, sf⟩, ⟨sg, sh, si, sj⟩, sk, ⟨sl, sm⟩, ⟨sn, so, sp, sq⟩, sr, ss, st, su⟩ := s
  obtain ⟨ha, hb', hc, hd, he, hf⟩ := h
  have key := loop_fm (t := TStatus) l (fun s => some s.1) (fun m out k => lForms.l1 m l m2 now id l l.length k out sa sb sc sd se sf sg sh si sj sk sl sm sn so sp sq sr ss st su ha hb' hc hd he hf)
    (fun out => test (sameHR.pre (hostsL l, out, ())) (cond (sameHB (hostsL l) out) (some (vb true, [])) (some (vb false, [])))) (fun m k out hk ho => ?_) (fun m out => ?_) l.length 0 [] (by omega) (Nat.zero_le _)
  · have key2 : lForms.l1 (l.length + 1) l m2 now id l l.length 0 [] sa sb sc sd se sf sg sh si sj sk sl sm sn so sp sq sr ss st su ha hb' hc hd he hf = some (vb true, []) := by
      refine key.trans ?_
      rw [List.drop_zero, List.nil_append, hostsL_map, sameHB_self, test_true (by simpa [sameHR.pre] using fits_hosts hl)]; rfl
    exact gate2 key2
  · rw [lForms.s1, cond_dt (by omega), test_d (by omega), test_d (by omega), w64s (by omega), toNat_cast, test_d (by simp [lim] <;> omega)]
  · have hn : newS.pre ((ha, hb', hc, hd, he, hf), now, ()) = true := by
      show (fits THost _ && _) = true
      rw [hh]; rfl
    have hn2 : newR.pre ((ha, hb', hc, hd, he, hf), now, ()) = true := by
      show (fits THost _ && _) = true
      rw [hh]; rfl
    have hf1 : find.pre (l, id, ()) = true := by
      show (fits (.sl TStatus) l && _) = true
      rw [hl]; rfl
    have hf2 : findR.pre (l, id, ()) = true := by
      show (fits (.sl TStatus) l && _) = true
      rw [hl]; rfl
    rw [lForms.s1, cond_df (by omega), test_true hn, test_true hn2, test_true (by simpa [sameOR.pre] using fits_new hh now), sameOB_self, test_true (by simpa [mayS.pre] using hl), test_true (by simpa [maySR.pre] using hl), test_true hf1, test_true hf2,
      test_true (by simpa [free.pre] using hs), test_true (by simpa [freeR.pre] using hs), test_true (by simpa [members.pre] using hl), test_true (by simpa [membersR.pre] using hl), test_true (by simpa [sameSR.pre] using fits_filter hl), sameSB_self,
      test_true (by simpa [outs.pre] using hl), test_true (by simpa [outsR.pre] using hl), test_true (by simpa [sameS.pre] using ⟨hl, hm⟩), test_true (by simpa [sameSR.pre] using ⟨hl, hm⟩), test_true (by simpa [copyS.pre] using hl),
      test_true (by simpa [sameSR.pre] using hl), sameSB_self, test_true (by simpa [hosts.pre] using hl)]
    simp only [beq_self_eq_true, cond_true]
    rfl

/-! ### finding -/

theorem ixF_at {t : Ty} (p : El t → Bool) : ∀ (l : List (El t)) (k k0 : Nat), k < l.length → p (rdEl t l k) = true → (∀ i, i < k → p (rdEl t l i) = false) → ixF p l k0 = some (k0 + k)
  | [], k, k0, h, _, _ => by simp at h
  | a :: l, 0, k0, h, h1, _ => by
    have : p a = true := h1
    rw [ixF, this]; rfl
  | a :: l, k + 1, k0, h, h1, h2 => by
    have h0 : p a = false := h2 0 (by omega)
    rw [ixF, h0]
    have := ixF_at p l k (k0 + 1) (by simpa using h) h1 (fun i hi => h2 (i + 1) (by omega))
    simp only [Bool.false_eq_true, if_false]
    rw [this]
    congr 1; omega

theorem rd_get {t : Ty} {l : List (El t)} {k : Nat} (h : k < l.length) : rdEl t l k = l[k] := by simp [rdEl, List.getD, h]

/-- States that may be. -/
def Good (l : List (El TStatus)) : Prop := (∀ s, s ∈ l → mayOneB s = true) ∧ l.Pairwise (fun a b => sId a < sId b) ∧ l.length ≤ 64

theorem good_of {l : List (El TStatus)} (h : maySB l = true) : Good l := by
  unfold maySB at h
  simp only [Bool.and_eq_true, Bool.not_eq_true', decide_eq_true_eq] at h
  obtain ⟨h1, h2⟩ := h
  have h1 := anyN_false.1 h1
  have hadj : ∀ k, k + 1 < l.length → sId (rdEl TStatus l k) < sId (rdEl TStatus l (k + 1)) := fun k hk => by
    have := h1 (k + 1) (Nat.zero_le _) (by omega)
    unfold badAt at this
    simp only [Bool.or_eq_false_iff, Bool.and_eq_false_iff, Bool.not_eq_false', decide_eq_true_eq, decide_eq_false_iff_not] at this
    rcases this.2 with h3 | h3
    · omega
    · have e : k + 1 - 1 = k := by omega
      rwa [e] at h3
  have hlt : ∀ (d k : Nat), k + d + 1 < l.length → sId (rdEl TStatus l k) < sId (rdEl TStatus l (k + d + 1)) := by
    intro d
    induction d with
    | zero => exact fun k hk => hadj k hk
    | succ d ih =>
      intro k hk
      have a := ih k (by omega)
      have b := hadj (k + d + 1) (by omega)
      exact Int.lt_trans a b
  refine ⟨fun s hs => ?_, ?_, h2⟩
  · obtain ⟨k, hk, rfl⟩ := List.mem_iff_getElem.1 hs
    have := h1 k (Nat.zero_le _) (by omega)
    unfold badAt at this
    simp only [Bool.or_eq_false_iff, Bool.not_eq_false'] at this
    rw [← rd_get hk]
    exact this.1
  · rw [List.pairwise_iff_getElem]
    intro i j hi hj hij
    rw [← rd_get hi, ← rd_get hj]
    have := hlt (j - i - 1) i (by omega)
    rwa [show i + (j - i - 1) + 1 = j by omega] at this

theorem of_good {l : List (El TStatus)} (h : Good l) : maySB l = true := by
  obtain ⟨h1, h2, h3⟩ := h
  unfold maySB
  rw [dec_t h3, anyN_false.2 (fun k _ hk => ?_)]
  · rfl
  · have hk : k < l.length := by omega
    unfold badAt
    rw [h1 _ (rdEl_mem hk)]
    by_cases h0 : 0 < k
    · have hp := List.pairwise_iff_getElem.1 h2 (k - 1) k (by omega) hk (by omega)
      rw [← rd_get hk, ← rd_get (by omega : k - 1 < l.length)] at hp
      rw [dec_t hp]; simp
    · rw [dec_f h0]; rfl

theorem good_lt {l : List (El TStatus)} (h : Good l) {i j : Nat} (hij : i < j) (hj : j < l.length) : sId (rdEl TStatus l i) < sId (rdEl TStatus l j) := by
  have := List.pairwise_iff_getElem.1 h.2.1 i j (by omega) hj hij
  rwa [← rd_get hj, ← rd_get (by omega : i < l.length)] at this

theorem find_at {l : List (El TStatus)} (h : Good l) {k : Nat} (hk : k < l.length) : ixOf (idIs (sId (rdEl TStatus l k))) l = (k : Int) := by
  unfold ixOf
  rw [ixF_at (idIs (sId (rdEl TStatus l k))) l k 0 hk (by simp [idIs]) (fun i hi => by
    have := good_lt h hi hk
    simp only [idIs, beq_eq_false_iff_ne]
    omega)]
  simp

theorem good_erase {l : List (El TStatus)} (h : Good l) (j : Nat) : Good (l.take j ++ l.drop (j + 1)) := by
  have e : l.take j ++ l.drop (j + 1) = l.eraseIdx j := (List.eraseIdx_eq_take_drop_succ l j).symm
  rw [e]
  have hsub := List.eraseIdx_sublist l j
  exact ⟨fun s hs => h.1 s (hsub.subset hs), h.2.1.sublist hsub, Nat.le_trans hsub.length_le h.2.2⟩

theorem gone {l : List (El TStatus)} (h : Good l) {j : Nat} (hj : j < l.length) : ixOf (idIs (sId (rdEl TStatus l j))) (l.take j ++ l.drop (j + 1)) = -1 := by
  unfold ixOf
  have : ixF (idIs (sId (rdEl TStatus l j))) (l.take j ++ l.drop (j + 1)) 0 = none := by
    rw [ixF_none, List.any_eq_false]
    intro s hs
    have hne : sId s ≠ sId (rdEl TStatus l j) := by
      rcases List.mem_append.1 hs with hs | hs
      · obtain ⟨i, hi, rfl⟩ := List.mem_iff_getElem.1 hs
        rw [List.length_take] at hi
        have := good_lt h (i := i) (j := j) (by omega) hj
        rw [rd_get (by omega : i < l.length)] at this
        rw [List.getElem_take]
        omega
      · obtain ⟨i, hi, rfl⟩ := List.mem_iff_getElem.1 hs
        rw [List.length_drop] at hi
        have := good_lt h (i := j) (j := j + 1 + i) (by omega) (by omega)
        rw [rd_get (by omega : j + 1 + i < l.length)] at this
        rw [List.getElem_drop]
        omega
    simpa [idIs] using hne
  rw [this]

theorem number (k : Int) (n : Nat) (h0 : 0 < n) (h1 : n ≤ 64) : ∃ j : Nat, j < n ∧ IntKind.i64.wrap (Int.tmod (IntKind.u64.wrap k) (IntKind.u64.wrap (n : Int))) = (j : Int) ∧ IntKind.u64.wrap (n : Int) ≠ 0 := by
  have e : IntKind.u64.wrap (n : Int) = (n : Int) := IntWalk.u64_in _ ⟨by omega, by omega⟩
  have hk : 0 ≤ IntKind.u64.wrap k := (wrap_within .u64 k).1
  rw [e, Int.tmod_eq_emod_of_nonneg hk]
  have h2 := Int.emod_nonneg (IntKind.u64.wrap k) (show (n : Int) ≠ 0 by omega)
  have h3 := Int.emod_lt_of_pos (IntKind.u64.wrap k) (show (0 : Int) < (n : Int) by omega)
  refine ⟨(IntKind.u64.wrap k % (n : Int)).toNat, by omega, by rw [w64 (by omega) (by omega)]; omega, by omega⟩

theorem any_find (l : List (El TStatus)) (id : Int) : decide (ixOf (idIs id) l ≥ 0) = l.any (idIs id) := ixOf_any _ _

theorem lFinds_end (l : List (El TStatus)) (hl : fits (.sl TStatus) l = true) (hg : Good l) (id k : Int) (d : Nat) (b : Bool) (hb : b = l.any (idIs id)) : lFinds.l1 (d + 1) l id k b l l.length (l.length : Int) = some (vb true, []) := by
  have hlen := hg.2.2
  have hf1 : find.pre (l, id, ()) = true := by
    show (fits (.sl TStatus) l && _) = true
    rw [hl]; rfl
  rw [lFinds.s1, cond_df (by omega), test_true hf1, any_find, hb, beq_self_eq_true, show (Bool.not true) = false from rfl, cond_false]
  by_cases h0 : l.length = 0
  · rw [cond_et (by omega)]; rfl
  · obtain ⟨j, hj, hjw, hnz⟩ := number k l.length (by omega) hlen
    have hge := good_erase hg j
    have hl1 : (l.take j ++ l.drop (j + 1)).length = l.length - 1 := by rw [List.length_append, List.length_take, List.length_drop]; omega
    have hlf : fits (.sl TStatus) (l.take j ++ l.drop (j + 1)) = true := fits_sl (by
      rw [hl1]
      have h1 := fits_len hl
      exact Nat.le_trans (Nat.mul_le_mul_right _ (by omega)) h1) fun e he => by
        rcases List.mem_append.1 he with he | he
        · exact fits_mem hl (List.mem_of_mem_take he)
        · exact fits_mem hl (List.mem_of_mem_drop he)
    have hf2 : find.pre (l.take j ++ l.drop (j + 1), sId (rdEl TStatus l j), ()) = true := by
      show (fits (.sl TStatus) _ && _) = true
      rw [hlf]; rfl
    have hls : lim 200 = 703687441776 := by simp [lim]
    rw [cond_ef (by omega), hjw, dec_f hnz, Bool.not_false, test_true rfl, toNat_cast, w64s (by omega), toNat_cast, List.drop_zero, List.nil_append, List.take_length,
      test_d (by omega), test_d (by omega), test_d (by rw [List.length_nil, List.length_take, hls]; omega), test_d (by omega), test_d (by omega), test_d (by rw [List.length_take, List.length_drop, hls]; omega),
      test_true (by simpa [mayS.pre] using hlf), of_good hge, cond_true, test_d (by omega), test_d (by omega), test_true hf2, gone hg hj, cond_et rfl, test_true (by simpa [hosts.pre] using hlf)]
    have hh : (hostsL (l.take j ++ l.drop (j + 1))).length = l.length - 1 := by
      unfold hostsL
      rw [List.length_map, hl1]
    rw [hh, w64 (by omega) (by omega), cond_et (by omega)]
    rfl

theorem lFinds_R : lFinds.Law := fun l id k hx => by
  have hl : fits (.sl TStatus) l = true := by
    have : (fits (.sl TStatus) l && _) = true := hx
    simpa using (Bool.and_eq_true _ _ ▸ this).1
  have hr := reach_lt
  refine lFinds.ret (lightS16_ok.cons' (awakeS_ok.cons' (mayS_ok.cons' (maySR_ok.cons' (find_ok.cons' (hosts_ok.cons' SpecsOK.nil)))))) l id k (m := l.length + 2) ?_
  rw [lFinds.start, test_true (by simpa [lightS16.pre] using hl)]
  have t1 : mayS.pre (l, ()) = true := by simpa [mayS.pre] using hl
  have t2 : maySR.pre (l, ()) = true := by simpa [maySR.pre] using hl
  have e1 : ∀ (k : R), test (mayS.pre (l, ())) k = k := fun k => test_true t1
  have e2 : ∀ (k : R), test (maySR.pre (l, ())) k = k := fun k => test_true t2
  simp only [e1, e2, beq_self_eq_true, cond_true]
  cases hm : maySB l with
  | false =>
    cases decide (lightL l > 0) <;> rfl
  | true =>
    have hg := good_of hm
    have hlen := hg.2.2
    have key : lFinds.l1 (l.length + 1) l id k false l l.length 0 = some (vb true, []) := by
      have h1 := loop_acc (t := TStatus) l (fun m (b : Bool) i => lFinds.l1 m l id k b l l.length i) (fun d b => lFinds.l1 (d + 1) l id k b l l.length l.length) (fun b s => b || idIs id s) (fun _ _ => True) (fun _ _ _ _ => trivial)
        (fun m i b hi _ => by
          have hf1 : find.pre (l, (rdEl TStatus l i).1.1, ()) = true := by
            show (fits (.sl TStatus) l && _) = true
            rw [hl]; rfl
          have hfa : ixOf (idIs (rdEl TStatus l i).1.1) l = (i : Int) := find_at hg hi
          rw [lFinds.s1, cond_dt (by omega), test_d (by omega), test_d (by omega), toNat_cast, test_true hf1, hfa, cond_nf rfl, w64s (by omega)]
          cases b <;> rfl) (fun d b => rfl) 0 l.length 0 false (by omega) trivial
      refine h1.trans ?_
      refine lFinds_end l hl hg id k 0 _ ?_
      have : ∀ (l : List (El TStatus)) (b : Bool), foldL (fun b s => b || idIs id s) l b = (b || l.any (idIs id)) := by
        intro l
        induction l with
        | nil => intro b; simp [foldL]
        | cons a l ih => intro b; rw [foldL, ih, List.any_cons, Bool.or_assoc]
      rw [List.drop_zero, this, Bool.false_or]
    rw [key]
    cases decide (lightL l > 0) <;> rfl

end Go.Proofs.Ytdoilggfajngiaa
