/-
  States: each function's contract.
-/
import Derived.Test.YtdoilggfajngiaaHC
import Derived.Test.YtdoilggfajngiaaSF
namespace Go.Proofs.Ytdoilggfajngiaa
open Go VE

theorem fits_stat {s : El TStatus} (h : fits TStatus s = true) : fits THost s.1 = true := (fits_prod h).1

theorem probeNew_ok : probeNew.OK := probeNew.mk SpecsOK.nil fun _ _ => ⟨1, by rw [probeNew.start]; rfl⟩

theorem well_ok : well.OK := well.mk SpecsOK.nil fun p _ => ⟨1, by
  rw [well.start]
  show _ = some (vb (wellB p), _)
  unfold wellB
  cases p.2.2.1 == (2 : Int) <;> cases p.2.2.1 == (0 : Int) <;> rfl⟩

theorem wellR_ok : wellR.OK := wellR.mk SpecsOK.nil fun p _ => ⟨1, by
  rw [wellR.start]
  show _ = some (vb (wellB p), _)
  unfold wellB
  cases p.2.2.1 == (2 : Int) <;> cases p.2.2.1 == (0 : Int) <;> rfl⟩

theorem isTime_ok : isTime.OK := isTime.mk SpecsOK.nil fun n _ => ⟨1, by
  rw [isTime.start]
  show _ = some (vb (isTimeB n), _)
  unfold isTimeB
  simp only [ge_iff_le]
  cases decide (0 ≤ n) <;> rfl⟩

theorem timeR_ok : timeR.OK := timeR.mk SpecsOK.nil fun n _ => ⟨1, by
  rw [timeR.start]
  show _ = some (vi .i64 (timeI n), _)
  unfold timeI
  have e : (ite ((ite ((4611686018427387904 : Int) < n) (4611686018427387904 : Int) n) > (0 : Int)) (ite ((4611686018427387904 : Int) < n) (4611686018427387904 : Int) n) (0 : Int)) = if n < 0 then 0 else if n ≤ 4611686018427387904 then n else 4611686018427387904 := by
    split <;> split <;> split <;> first | rfl | (split <;> omega) | omega
  rw [e]; rfl⟩

theorem min_neg (a b : Int) : decide ((if a < b then a else b) < 0) = (decide (a < 0) || decide (b < 0)) := by
  by_cases h : a < b
  · rw [if_pos h]
    by_cases h1 : a < 0
    · rw [dec_t h1]; rfl
    · rw [dec_f h1, dec_f (by omega)]; rfl
  · rw [if_neg h]
    by_cases h1 : b < 0
    · rw [dec_t h1, Bool.or_true]
    · rw [dec_f h1, dec_f (by omega)]; rfl

theorem mayOne_ok : mayOne.OK := mayOne.mk (may_ok.cons' (isTime_ok.cons' SpecsOK.nil)) fun s hx => ⟨1, by
  have hs : fits TStatus s = true := by simpa [mayOne.pre] using hx
  have a1 : may.pre (s.1, ()) = true := by simpa [may.pre] using fits_stat hs
  rw [mayOne.start, test_true a1]
  show _ = some (vb (mayOneB s), _)
  unfold mayOneB sProb sErr sAct sBk sOut sDrains sGone sSince
  rw [min_neg, min_neg, min_neg, min_neg, min_neg]
  simp only [dlt, dgt]
  generalize decide (0 ≤ s.2.1.2.2.1) = c1
  generalize decide (s.2.1.2.2.1 ≤ 2) = c2
  generalize decide (0 ≤ s.2.1.2.1) = c3
  generalize decide (0 ≤ s.2.2.1) = c4
  generalize decide (0 ≤ s.2.2.2.2.2.2.2.2) = c5
  generalize decide (0 ≤ s.2.1.2.2.2) = c6
  generalize decide (0 ≤ s.2.2.2.1.1) = c7
  generalize decide (0 ≤ s.2.2.2.2.1.2.2.2) = c8
  generalize decide (s.2.2.2.2.1.2.2.2 ≤ 10) = c9
  generalize decide (s.2.2.2.1.1 ≤ s.2.2.2.1.2) = c10
  cases mayB s.1 <;> cases c1 <;> cases c2 <;> try rfl
  cases s.2.2.2.2.2.1 <;> cases s.2.2.2.2.1.1 <;> try rfl
  all_goals
    cases c3 <;> cases c4 <;> cases c5 <;> cases c6 <;> cases c7 <;> cases c8 <;> try rfl
    cases c9 <;> cases c10 <;> try rfl
    cases isTimeB s.2.2.2.2.2.2.1 <;> cases isTimeB s.2.2.2.2.2.2.2.1 <;> cases isTimeB s.2.2.2.2.1.2.1 <;> rfl⟩

theorem dge (a b : Int) : decide (a ≥ b) = !decide (a < b) := by
  by_cases h : a ≥ b
  · rw [dec_t h, dec_f (by omega)]; rfl
  · rw [dec_f h, dec_t (by omega)]; rfl

theorem dcast (a b : Nat) : decide ((a : Int) ≤ (b : Int)) = decide (a ≤ b) := by
  by_cases h : a ≤ b
  · rw [dec_t h, dec_t (by omega)]
  · rw [dec_f h, dec_f (by omega)]

theorem stat_len {l : List (El TStatus)} (h : fits (.sl TStatus) l = true) : l.length * 200 ≤ reachBytes := fits_len' h rfl

theorem mayS_ok : mayS.OK := mayS.mk (mayOne_ok.cons' SpecsOK.nil) fun l hx => by
  have hl : fits (.sl TStatus) l = true := by simpa [mayS.pre] using hx
  have hb := stat_len hl
  have hr := reach_lt
  refine ⟨l.length + 2, ?_⟩
  rw [mayS.start]
  have h := loop_any (badAt l) l.length (fun m k => mayS.l1 m l l l.length k) (some (vb false, [])) (some (vb (decide (l.length ≤ 64)), [])) (fun m k hk => ?_) (fun m => ?_) l.length 0 (by omega)
  · refine h.trans ?_
    show _ = some (vb (maySB l), _)
    unfold maySB
    cases anyN (badAt l) 0 l.length <;> rfl
  · have a1 : mayOne.pre (rdEl TStatus l k, ()) = true := by simpa [mayOne.pre] using fits_rd hl hk
    rw [mayS.s1, cond_dt (by omega), test_d (by omega), test_d (by omega), toNat_cast, test_true a1, w64s (by omega)]
    unfold badAt
    cases mayOneB (rdEl TStatus l k) with
    | false => rfl
    | true =>
      by_cases h0 : 0 < k
      · have e1 : IntKind.i64.wrap ((k : Int) - 1) = ((k - 1 : Nat) : Int) := by rw [w64] <;> omega
        rw [e1, toNat_cast, dec_t h0]
        rw [show (Bool.not true) = false from rfl, cond_false, cond_dt (by omega), test_d (by omega), test_d (by omega), dge]
        rfl
      · rw [dec_f h0, show (Bool.not true) = false from rfl, cond_false, cond_df (by omega)]; rfl
  · rw [mayS.s1, cond_df (by omega)]
    rw [show ((64 : Int)) = ((64 : Nat) : Int) from rfl, dcast]; rfl

theorem findF_ok : findF.OK := findF.mk SpecsOK.nil fun s id _ => ⟨1, by rw [findF.start]; rfl⟩

theorem ixFind_ok : ixFind.OK := ixFind.mk (findF_ok.cons' SpecsOK.nil) fun l c hx => by
  have hl : fits (.sl TStatus) l = true := by simpa [ixFind.pre] using (Bool.and_eq_true _ _ ▸ hx).1
  have hb := stat_len hl
  have hr := reach_lt
  refine ⟨l.length + 2, ?_⟩
  rw [ixFind.start]
  have h := loop_find (t := TStatus) l (fun m k => ixFind.l1 m l c.1 l.length k) (idIs c.1) (fun i => some (vi .i64 i, [])) (some (vi .i64 (-1), [])) (fun m k hk => ?_) (fun m => ?_) l.length 0 (by omega)
  · refine h.trans ?_
    rw [List.drop_zero]
    show _ = some (vi .i64 (ixOf (idIs c.1) l), _)
    unfold ixOf
    cases ixF (idIs c.1) l 0 <;> rfl
  · have a1 : findF.pre (rdEl TStatus l k, c.1, ()) = true := by
      show (fits TStatus (rdEl TStatus l k) && _) = true
      rw [fits_rd hl hk]; rfl
    rw [ixFind.s1, cond_dt (by omega), test_d (by omega), test_d (by omega), w64s (by omega), toNat_cast, test_true a1]
    rfl
  · rw [ixFind.s1, cond_df (by omega)]; rfl

theorem find_ok : find.OK := find.mk (ixFind_ok.cons' SpecsOK.nil) fun l id hx => ⟨1, by
  have hl : fits (.sl TStatus) l = true := by simpa [find.pre] using (Bool.and_eq_true _ _ ▸ hx).1
  have a1 : ixFind.pre (l, (id, ()), ()) = true := by
    show (fits (.sl TStatus) l && _) = true
    rw [hl]; rfl
  rw [find.start, test_true a1]
  rfl⟩

theorem findR_ok : findR.OK := findR.mk SpecsOK.nil fun l id hx => by
  have hl : fits (.sl TStatus) l = true := by simpa [findR.pre] using (Bool.and_eq_true _ _ ▸ hx).1
  have hb := stat_len hl
  have hr := reach_lt
  refine ⟨l.length + 2, ?_⟩
  rw [findR.start]
  have h := loop_find (t := TStatus) l (fun m k => findR.l1 m id l l.length k) (idIs id) (fun i => some (vi .i64 i, [])) (some (vi .i64 (-1), [])) (fun m k hk => ?_) (fun m => ?_) l.length 0 (by omega)
  · refine h.trans ?_
    rw [List.drop_zero]
    show _ = some (vi .i64 (ixOf (idIs id) l), _)
    unfold ixOf
    cases ixF (idIs id) l 0 <;> rfl
  · rw [findR.s1, cond_dt (by omega), test_d (by omega), test_d (by omega), w64s (by omega), toNat_cast]
    rfl
  · rw [findR.s1, cond_df (by omega)]; rfl

theorem free_ok : free.OK := free.mk (well_ok.cons' SpecsOK.nil) fun s hx => ⟨1, by
  rw [free.start]
  show _ = some (vb (freeB s), _)
  unfold freeB sDrains sProb sOut
  cases s.2.2.2.2.2.1 <;> cases wellB s.2.1 <;> rfl⟩

theorem freeR_ok : freeR.OK := freeR.mk (wellR_ok.cons' SpecsOK.nil) fun s hx => ⟨1, by
  rw [freeR.start]
  show _ = some (vb (freeB s), _)
  unfold freeB sDrains sProb sOut
  cases s.2.2.2.2.2.1 <;> cases wellB s.2.1 <;> rfl⟩

theorem newS_ok : newS.OK := newS.mk (copy_ok.cons' (probeNew_ok.cons' SpecsOK.nil)) fun h n hx => ⟨1, by
  have hh : fits THost h = true := by simpa [newS.pre] using (Bool.and_eq_true _ _ ▸ hx).1
  rw [newS.start, test_true (by simpa [copy.pre] using hh)]
  show _ = some (mkIV true (enc TStatus (newB h n)), _)
  have e : (ite ((4611686018427387904 : Int) < (ite (n < (0 : Int)) (0 : Int) n)) (4611686018427387904 : Int) (ite (n < (0 : Int)) (0 : Int) n)) = timeI n := by
    unfold timeI
    split <;> split <;> first | rfl | omega | (split <;> omega)
  first
  | rw [e]; rfl
  | skip⟩

theorem newR_ok : newR.OK := newR.mk (copyR_ok.cons' (timeR_ok.cons' SpecsOK.nil)) fun h n hx => ⟨1, by
  have hh : fits THost h = true := by simpa [newR.pre] using (Bool.and_eq_true _ _ ▸ hx).1
  rw [newR.start, test_true (by simpa [copyR.pre] using hh)]
  rfl⟩

theorem copyOne_ok : copyOne.OK := copyOne.mk (copyR_ok.cons' SpecsOK.nil) fun s hx => ⟨1, by
  have hs : fits TStatus s = true := by simpa [copyOne.pre] using hx
  rw [copyOne.start, test_true (by simpa [copyR.pre] using fits_stat hs)]
  rfl⟩

theorem memF_ok : memF.OK := memF.mk SpecsOK.nil fun s _ => ⟨1, by rw [memF.start]; rfl⟩

theorem outF_ok : outF.OK := outF.mk SpecsOK.nil fun s _ => ⟨1, by
  rw [outF.start]
  show _ = some (vb (outB s), _)
  unfold outB sDrains sOut
  cases s.2.2.2.2.2.1 <;> rfl⟩

theorem allF_ok : allF.OK := allF.mk SpecsOK.nil fun s _ => ⟨1, by rw [allF.start]; rfl⟩

theorem fm_filter {α : Type} (p : α → Bool) (l : List α) : l.filterMap (fun a => if p a then some a else none) = l.filter p := by
  induction l with
  | nil => rfl
  | cons a l ih =>
    rw [List.filterMap_cons, List.filter_cons, ih]
    cases p a <;> rfl

theorem lim200 {α : Type} {x : α} {a b : Nat} (h : b * 200 ≤ reachBytes) (ha : a < b) : a + [x].length ≤ lim 200 := by
  rw [List.length_singleton]
  have hr := reach_lt
  simp only [lim]
  omega

theorem pickM_ok : pickM.OK := pickM.mk (memF_ok.cons' (copy_ok.cons' SpecsOK.nil)) fun l u hx => by
  have hl : fits (.sl TStatus) l = true := by simpa [pickM.pre] using hx
  have hb := stat_len hl
  have hr := reach_lt
  refine ⟨l.length + 2, ?_⟩
  rw [pickM.start]
  have h := loop_fm (t := TStatus) l (fun s => if memB s then some s else none) (fun m out k => pickM.l1 m l l.length k out) (fun out => some (.c (.sl TStatus out), [])) (fun m k out hk ho => ?_) (fun m out => ?_) l.length 0 [] (by omega) (Nat.zero_le _)
  · refine h.trans ?_
    rw [List.drop_zero, fm_filter]; rfl
  · have hf := fits_rd hl hk
    rw [pickM.s1, cond_dt (by omega), test_d (by omega), test_d (by omega), w64s (by omega), toNat_cast, test_true (by simpa [memF.pre] using hf)]
    cases memB (rdEl TStatus l k) with
    | true =>
      rw [cond_true, test_true (by simpa [copy.pre] using fits_stat hf), test_d (lim200 hb (by omega))]
      rfl
    | false => rfl
  · rw [pickM.s1, cond_df (by omega)]

theorem pickO_ok : pickO.OK := pickO.mk (outF_ok.cons' (copy_ok.cons' SpecsOK.nil)) fun l u hx => by
  have hl : fits (.sl TStatus) l = true := by simpa [pickO.pre] using hx
  have hb := stat_len hl
  have hr := reach_lt
  refine ⟨l.length + 2, ?_⟩
  rw [pickO.start]
  have h := loop_fm (t := TStatus) l (fun s => if outB s then some s else none) (fun m out k => pickO.l1 m l l.length k out) (fun out => some (.c (.sl TStatus out), [])) (fun m k out hk ho => ?_) (fun m out => ?_) l.length 0 [] (by omega) (Nat.zero_le _)
  · refine h.trans ?_
    rw [List.drop_zero, fm_filter]; rfl
  · have hf := fits_rd hl hk
    rw [pickO.s1, cond_dt (by omega), test_d (by omega), test_d (by omega), w64s (by omega), toNat_cast, test_true (by simpa [outF.pre] using hf)]
    cases outB (rdEl TStatus l k) with
    | true =>
      rw [cond_true, test_true (by simpa [copy.pre] using fits_stat hf), test_d (lim200 hb (by omega))]
      rfl
    | false => rfl
  · rw [pickO.s1, cond_df (by omega)]

theorem pickA_ok : pickA.OK := pickA.mk (allF_ok.cons' (copy_ok.cons' SpecsOK.nil)) fun l u hx => by
  have hl : fits (.sl TStatus) l = true := by simpa [pickA.pre] using hx
  have hb := stat_len hl
  have hr := reach_lt
  refine ⟨l.length + 2, ?_⟩
  rw [pickA.start]
  have h := loop_fm (t := TStatus) l (fun s => some s) (fun m out k => pickA.l1 m l l.length k out) (fun out => some (.c (.sl TStatus out), [])) (fun m k out hk ho => ?_) (fun m out => ?_) l.length 0 [] (by omega) (Nat.zero_le _)
  · refine h.trans ?_
    rw [List.drop_zero, List.filterMap_some]; rfl
  · have hf := fits_rd hl hk
    rw [pickA.s1, cond_dt (by omega), test_d (by omega), test_d (by omega), w64s (by omega), toNat_cast, test_true (by simpa [allF.pre] using hf), test_true (by simpa [copy.pre] using fits_stat hf), test_d (lim200 hb (by omega))]
  · rw [pickA.s1, cond_df (by omega)]

theorem members_ok : members.OK := members.mk (pickM_ok.cons' SpecsOK.nil) fun l hx => ⟨1, by
  rw [members.start, test_true (by simpa [pickM.pre, members.pre] using hx)]; rfl⟩

theorem outs_ok : outs.OK := outs.mk (pickO_ok.cons' SpecsOK.nil) fun l hx => ⟨1, by
  rw [outs.start, test_true (by simpa [pickO.pre, outs.pre] using hx)]; rfl⟩

theorem copyS_ok : copyS.OK := copyS.mk (pickA_ok.cons' SpecsOK.nil) fun l hx => ⟨1, by
  rw [copyS.start, test_true (by simpa [pickA.pre, copyS.pre] using hx)]; rfl⟩

theorem membersR_ok : membersR.OK := membersR.mk (copyOne_ok.cons' SpecsOK.nil) fun l hx => by
  have hl : fits (.sl TStatus) l = true := by simpa [membersR.pre] using hx
  have hb := stat_len hl
  have hr := reach_lt
  refine ⟨l.length + 2, ?_⟩
  rw [membersR.start]
  have h := loop_fm (t := TStatus) l (fun s => if memB s then some s else none) (fun m out k => membersR.l1 m l l.length k out) (fun out => some (.c (.sl TStatus out), [])) (fun m k out hk ho => ?_) (fun m out => ?_) l.length 0 [] (by omega) (Nat.zero_le _)
  · refine h.trans ?_
    rw [List.drop_zero, fm_filter]; rfl
  · have hf := fits_rd hl hk
    rw [membersR.s1, cond_dt (by omega), test_d (by omega), test_d (by omega), w64s (by omega), toNat_cast, test_true (by simpa [copyOne.pre] using hf), test_d (lim200 hb (by omega))]
    unfold memB sDrains
    cases (rdEl TStatus l k).2.2.2.2.2.1 <;> rfl
  · rw [membersR.s1, cond_df (by omega)]

theorem copySR_ok : copySR.OK := copySR.mk (copyOne_ok.cons' SpecsOK.nil) fun l hx => by
  have hl : fits (.sl TStatus) l = true := by simpa [copySR.pre] using hx
  have hb := stat_len hl
  have hr := reach_lt
  refine ⟨l.length + 2, ?_⟩
  rw [copySR.start]
  have h := loop_fm (t := TStatus) l (fun s => some s) (fun m out k => copySR.l1 m l l.length k out) (fun out => some (.c (.sl TStatus out), [])) (fun m k out hk ho => ?_) (fun m out => ?_) l.length 0 [] (by omega) (Nat.zero_le _)
  · refine h.trans ?_
    rw [List.drop_zero, List.filterMap_some]; rfl
  · have hf := fits_rd hl hk
    rw [copySR.s1, cond_dt (by omega), test_d (by omega), test_d (by omega), w64s (by omega), toNat_cast, test_true (by simpa [copyOne.pre] using hf), test_d (lim200 hb (by omega))]
  · rw [copySR.s1, cond_df (by omega)]

theorem hosts_ok : hosts.OK := hosts.mk (copy_ok.cons' SpecsOK.nil) fun l hx => by
  have hl : fits (.sl TStatus) l = true := by simpa [hosts.pre] using hx
  have hb := stat_len hl
  have hr := reach_lt
  refine ⟨l.length + 2, ?_⟩
  rw [hosts.start]
  have h := loop_fm (t := TStatus) l (fun s => some s.1) (fun m out k => hosts.l1 m l l.length k out) (fun out => some (.c (.sl THost out), [])) (fun m k out hk ho => ?_) (fun m out => ?_) l.length 0 [] (by omega) (Nat.zero_le _)
  · refine h.trans ?_
    rw [List.drop_zero]
    have e : List.filterMap (fun s : El TStatus => some s.1) l = hostsL l := by
      unfold hostsL
      induction l with
      | nil => rfl
      | cons a l ih => simp
    rw [e]; rfl
  · have hf := fits_rd hl hk
    rw [hosts.s1, cond_dt (by omega), test_d (by omega), test_d (by omega), w64s (by omega), toNat_cast, test_true (by simpa [copy.pre] using fits_stat hf), test_d (by simp [lim] <;> omega)]
  · rw [hosts.s1, cond_df (by omega)]

theorem outsR_ok : outsR.OK := outsR.mk SpecsOK.nil fun l hx => by
  have hl : fits (.sl TStatus) l = true := by simpa [outsR.pre] using hx
  have hb := stat_len hl
  have hr := reach_lt
  refine ⟨l.length + 2, ?_⟩
  rw [outsR.start]
  have key : ∀ (n k a : Nat), l.length = k + n → a ≤ k → outsR.l1 (n + 1) (a : Int) l l.length (k : Int) = some (vi .i64 (((a + ((l.drop k).filter outB).length : Nat)) : Int), []) := by
    intro n
    induction n with
    | zero =>
      intro k a hk ha
      have : k = l.length := by omega
      subst this
      rw [outsR.s1, cond_df (by omega), List.drop_length]; rfl
    | succ n ih =>
      intro k a hk ha
      rw [outsR.s1, cond_dt (by omega), test_d (by omega), test_d (by omega), w64s (by omega), w64s (by omega), toNat_cast, ih (k + 1) a (by omega) (by omega), ih (k + 1) (a + 1) (by omega) (by omega), rdEl_drop l (by omega : k < l.length), List.filter_cons]
      unfold outB sDrains sOut
      cases h1 : (rdEl TStatus l k).2.2.2.2.2.1 <;> cases h2 : (rdEl TStatus l k).2.2.2.2.1.1
      · rfl
      · show some (vi .i64 _, []) = some (vi .i64 _, [])
        congr 3
        simp
        omega
      · rfl
      · rfl
  have := key l.length 0 0 (by omega) (Nat.le_refl _)
  refine this.trans ?_
  rw [List.drop_zero, Nat.zero_add]; rfl

/-! ### the same? -/

theorem sameO_ok : sameO.OK := sameO.mk (same_ok.cons' SpecsOK.nil) fun a b hx => ⟨1, by
  have hh : fits TStatus a = true ∧ fits TStatus b = true := by simpa [sameO.pre] using hx
  rw [sameO.start, test_true (by simpa [same.pre] using ⟨fits_stat hh.1, fits_stat hh.2⟩)]
  show _ = some (vb (sameOB a b), _)
  unfold sameOB eqQ eqBk sProb sErr sBk sOut sDrains sGone sSince sAct
  generalize ((a.2.1.1 == b.2.1.1) && ((a.2.1.2.1 == b.2.1.2.1) && ((a.2.1.2.2.1 == b.2.1.2.2.1) && ((a.2.1.2.2.2 == b.2.1.2.2.2) && true)))) = c1
  generalize ((a.2.2.2.1.1 == b.2.2.2.1.1) && ((a.2.2.2.1.2 == b.2.2.2.1.2) && true)) = c2
  generalize ((a.2.2.2.2.1.1 == b.2.2.2.2.1.1) && ((a.2.2.2.2.1.2.1 == b.2.2.2.2.1.2.1) && ((a.2.2.2.2.1.2.2.1 == b.2.2.2.2.1.2.2.1) && ((a.2.2.2.2.1.2.2.2 == b.2.2.2.2.1.2.2.2) && true)))) = c3
  cases sameB a.1 b.1 <;> cases c1 <;> cases a.2.2.1 == b.2.2.1 <;> cases c2 <;> cases c3 <;> try rfl
  cases a.2.2.2.2.2.1 == b.2.2.2.2.2.1 <;> cases a.2.2.2.2.2.2.1 == b.2.2.2.2.2.2.1 <;> cases a.2.2.2.2.2.2.2.1 == b.2.2.2.2.2.2.2.1 <;> rfl⟩

theorem sameOR_ok : sameOR.OK := sameOR.mk (sameR_ok.cons' SpecsOK.nil) fun a b hx => ⟨1, by
  have hh : fits TStatus a = true ∧ fits TStatus b = true := by simpa [sameOR.pre] using hx
  rw [sameOR.start, test_true (by simpa [sameR.pre] using ⟨fits_stat hh.1, fits_stat hh.2⟩)]
  show _ = some (vb (sameOB a b), _)
  unfold sameOB eqQ eqBk sProb sErr sBk sOut sDrains sGone sSince sAct
  generalize ((a.2.1.1 == b.2.1.1) && ((a.2.1.2.1 == b.2.1.2.1) && ((a.2.1.2.2.1 == b.2.1.2.2.1) && ((a.2.1.2.2.2 == b.2.1.2.2.2) && true)))) = c1
  generalize ((a.2.2.2.1.1 == b.2.2.2.1.1) && ((a.2.2.2.1.2 == b.2.2.2.1.2) && true)) = c2
  generalize ((a.2.2.2.2.1.1 == b.2.2.2.2.1.1) && ((a.2.2.2.2.1.2.1 == b.2.2.2.2.1.2.1) && ((a.2.2.2.2.1.2.2.1 == b.2.2.2.2.1.2.2.1) && ((a.2.2.2.2.1.2.2.2 == b.2.2.2.2.1.2.2.2) && true)))) = c3
  cases sameB a.1 b.1 <;> cases c1 <;> cases a.2.2.1 == b.2.2.1 <;> cases c2 <;> cases c3 <;> try rfl
  cases a.2.2.2.2.2.1 == b.2.2.2.2.2.1 <;> cases a.2.2.2.2.2.2.1 == b.2.2.2.2.2.2.1 <;> cases a.2.2.2.2.2.2.2.1 == b.2.2.2.2.2.2.2.1 <;> rfl⟩

theorem eqF_ok : eqF.OK := eqF.mk (sameO_ok.cons' SpecsOK.nil) fun l m u hx => by
  have hh : fits (.sl TStatus) l = true ∧ fits (.sl TStatus) m = true := by simpa [eqF.pre] using hx
  have hb := stat_len hh.1
  have hr := reach_lt
  refine ⟨l.length + 2, ?_⟩
  rw [eqF.start]
  show _ = some (vb (sameSB l m), _)
  unfold sameSB
  by_cases hlm : l.length = m.length
  · rw [cond_nf (by omega), dec_t hlm]
    have h := loop_any (fun k => !sameOB (rdEl TStatus l k) (rdEl TStatus m k)) l.length (fun f k => eqF.l1 f m l l.length k) (some (vb false, [])) (some (vb true, [])) (fun f k hk => ?_) (fun f => ?_) l.length 0 (by omega)
    · refine h.trans ?_
      cases anyN (fun k => !sameOB (rdEl TStatus l k) (rdEl TStatus m k)) 0 l.length <;> rfl
    · rw [eqF.s1, cond_dt (by omega), test_d (by omega), test_d (by omega), test_d (by omega), test_d (by omega), toNat_cast, w64s (by omega), test_true (by simpa [sameO.pre] using ⟨fits_rd hh.1 hk, fits_rd hh.2 (by omega)⟩)]
      rfl
    · rw [eqF.s1, cond_df (by omega)]; rfl
  · rw [cond_nt (by omega), dec_f hlm]; rfl

theorem sameS_ok : sameS.OK := sameS.mk (eqF_ok.cons' SpecsOK.nil) fun l m hx => ⟨1, by
  rw [sameS.start, test_true (by simpa [eqF.pre, sameS.pre] using hx)]; rfl⟩

theorem sameSR_ok : sameSR.OK := sameSR.mk (sameOR_ok.cons' SpecsOK.nil) fun l m hx => by
  have hh : fits (.sl TStatus) l = true ∧ fits (.sl TStatus) m = true := by simpa [sameSR.pre] using hx
  have hb := stat_len hh.1
  have hr := reach_lt
  refine ⟨l.length + 2, ?_⟩
  rw [sameSR.start]
  show _ = some (vb (sameSB l m), _)
  unfold sameSB
  by_cases hlm : l.length = m.length
  · rw [cond_nf (by omega), dec_t hlm]
    have h := loop_any (fun k => !sameOB (rdEl TStatus l k) (rdEl TStatus m k)) l.length (fun f k => sameSR.l1 f l m l.length k) (some (vb false, [])) (some (vb true, [])) (fun f k hk => ?_) (fun f => ?_) l.length 0 (by omega)
    · refine h.trans ?_
      cases anyN (fun k => !sameOB (rdEl TStatus l k) (rdEl TStatus m k)) 0 l.length <;> rfl
    · rw [sameSR.s1, cond_dt (by omega), test_d (by omega), test_d (by omega), test_d (by omega), test_d (by omega), toNat_cast, w64s (by omega), test_true (by simpa [sameOR.pre] using ⟨fits_rd hh.1 hk, fits_rd hh.2 (by omega)⟩)]
      rfl
    · rw [sameSR.s1, cond_df (by omega)]; rfl
  · rw [cond_nt (by omega), dec_f hlm]; rfl

theorem sameHR_ok : sameHR.OK := sameHR.mk (sameR_ok.cons' SpecsOK.nil) fun l m hx => by
  have hh : fits (.sl THost) l = true ∧ fits (.sl THost) m = true := by simpa [sameHR.pre] using hx
  have hb := fits_len' (n := 80) hh.1 rfl
  have hr := reach_lt
  refine ⟨l.length + 2, ?_⟩
  rw [sameHR.start]
  show _ = some (vb (sameHB l m), _)
  unfold sameHB
  by_cases hlm : l.length = m.length
  · rw [cond_nf (by omega), dec_t hlm]
    have h := loop_any (fun k => !sameB (rdEl THost l k) (rdEl THost m k)) l.length (fun f k => sameHR.l1 f l m l.length k) (some (vb false, [])) (some (vb true, [])) (fun f k hk => ?_) (fun f => ?_) l.length 0 (by omega)
    · refine h.trans ?_
      cases anyN (fun k => !sameB (rdEl THost l k) (rdEl THost m k)) 0 l.length <;> rfl
    · rw [sameHR.s1, cond_dt (by omega), test_d (by omega), test_d (by omega), test_d (by omega), test_d (by omega), toNat_cast, w64s (by omega), test_true (by simpa [sameR.pre] using ⟨fits_rd hh.1 hk, fits_rd hh.2 (by omega)⟩)]
      rfl
    · rw [sameHR.s1, cond_df (by omega)]; rfl
  · rw [cond_nt (by omega), dec_f hlm]; rfl

theorem lightS16_ok : lightS16.OK := lightS16.mk (light_ok.cons' SpecsOK.nil) fun l hx => by
  have hl : fits (.sl TStatus) l = true := by simpa [lightS16.pre] using hx
  have hb := stat_len hl
  have hr := reach_lt
  refine ⟨l.length + 2, ?_⟩
  rw [lightS16.start]
  have h := loop_any (fun k => decide (80 < k) || decide (lightI (rdEl TStatus l k).1 > 0)) l.length (fun m k => lightS16.l1 m l l.length k) (some (vi .i64 1, [])) (some (vi .i64 0, [])) (fun m k hk => ?_) (fun m => ?_) l.length 0 (by omega)
  · refine h.trans ?_
    show _ = some (vi .i64 (lightL l), _)
    unfold lightL
    cases anyN (fun k => decide (80 < k) || decide (lightI (rdEl TStatus l k).1 > 0)) 0 l.length <;> rfl
  · rw [lightS16.s1, cond_dt (by omega), test_d (by omega), test_d (by omega), toNat_cast, w64s (by omega), test_true (by simpa [light.pre] using fits_stat (fits_rd hl hk))]
    by_cases h8 : 80 < k
    · rw [cond_dt (by omega), dec_t h8]; rfl
    · rw [cond_df (by omega), dec_f h8, Bool.false_or]; rfl
  · rw [lightS16.s1, cond_df (by omega)]; rfl

end Go.Proofs.Ytdoilggfajngiaa
