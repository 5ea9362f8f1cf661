/-
  States: each function's contract.
-/
import Derived.Test.YtemkgdkkpeijfaaHC
namespace Go.Proofs.Ytemkgdkkpeijfaa
open Go VE

theorem fits_stat {s : El TStatus} (h : fits TStatus s = true) : fits THost s.1 = true := (fits_prod h).1

theorem well_ok : well.OK := well.mk SpecsOK.nil fun p _ => ⟨1, by
  rw [well.start]
  show _ = some (vb (wellB p), _)
  unfold wellB
  cases p.2.2.1 == (2 : Int) <;> cases p.2.2.1 == (0 : Int) <;> rfl⟩

theorem wellR_ok : wellR.OK := wellR.mk SpecsOK.nil fun p _ => ⟨1, by
  rw [wellR.start]
  show _ = some (vb (wellB p), _)
  unfold wellB
  cases p.2.2.1 == (2 : Int) <;> cases p.2.2.1 == (0 : Int) <;> rfl⟩

theorem timeR_ok : timeR.OK := timeR.mk SpecsOK.nil fun n _ => ⟨1, by
  rw [timeR.start]
  show _ = some (vi .i64 (timeI n), _)
  unfold timeI
  have e : (ite ((ite ((4611686018427387904 : Int) < n) (4611686018427387904 : Int) n) > (0 : Int)) (ite ((4611686018427387904 : Int) < n) (4611686018427387904 : Int) n) (0 : Int)) = if n < 0 then 0 else if n ≤ 4611686018427387904 then n else 4611686018427387904 := by
    split <;> split <;> split <;> first | rfl | (split <;> omega) | omega
  rw [e]; rfl⟩

theorem min_neg (a b : Int) : decide ((if a < b then a else b) < 0) = (decide (a < 0) || decide (b < 0)) := by
  by_cases h : a < b
  · rw [if_pos h]
    by_cases h1 : a < 0
    · rw [dec_t h1]; rfl
    · rw [dec_f h1, dec_f (by omega)]; rfl
  · rw [if_neg h]
    by_cases h1 : b < 0
    · rw [dec_t h1, Bool.or_true]
    · rw [dec_f h1, dec_f (by omega)]; rfl

theorem dge (a b : Int) : decide (a ≥ b) = !decide (a < b) := by
  by_cases h : a ≥ b
  · rw [dec_t h, dec_f (by omega)]; rfl
  · rw [dec_f h, dec_t (by omega)]; rfl

theorem dcast (a b : Nat) : decide ((a : Int) ≤ (b : Int)) = decide (a ≤ b) := by
  by_cases h : a ≤ b
  · rw [dec_t h, dec_t (by omega)]
  · rw [dec_f h, dec_f (by omega)]

theorem stat_len {l : List (El TStatus)} (h : fits (.sl TStatus) l = true) : l.length * 200 ≤ reachBytes := fits_len' h rfl

theorem free_ok : free.OK := free.mk (well_ok.cons' SpecsOK.nil) fun s hx => ⟨1, by
  rw [free.start]
  show _ = some (vb (freeB s), _)
  unfold freeB sDrains sProb sOut
  cases s.2.2.2.2.2.1 <;> cases wellB s.2.1 <;> rfl⟩

theorem freeR_ok : freeR.OK := freeR.mk (wellR_ok.cons' SpecsOK.nil) fun s hx => ⟨1, by
  rw [freeR.start]
  show _ = some (vb (freeB s), _)
  unfold freeB sDrains sProb sOut
  cases s.2.2.2.2.2.1 <;> cases wellB s.2.1 <;> rfl⟩

theorem newR_ok : newR.OK := newR.mk (copyR_ok.cons' (timeR_ok.cons' SpecsOK.nil)) fun h n hx => ⟨1, by
  have hh : fits THost h = true := by simpa [newR.pre] using (Bool.and_eq_true _ _ ▸ hx).1
  rw [newR.start, test_true (by simpa [copyR.pre] using hh)]
  rfl⟩

theorem copyOne_ok : copyOne.OK := copyOne.mk (copyR_ok.cons' SpecsOK.nil) fun s hx => ⟨1, by
  have hs : fits TStatus s = true := by simpa [copyOne.pre] using hx
  rw [copyOne.start, test_true (by simpa [copyR.pre] using fits_stat hs)]
  rfl⟩

theorem memF_ok : memF.OK := memF.mk SpecsOK.nil fun s _ => ⟨1, by rw [memF.start]; rfl⟩

theorem allF_ok : allF.OK := allF.mk SpecsOK.nil fun s _ => ⟨1, by rw [allF.start]; rfl⟩

theorem fm_filter {α : Type} (p : α → Bool) (l : List α) : l.filterMap (fun a => if p a then some a else none) = l.filter p := by
  induction l with
  | nil => rfl
  | cons a l ih =>
    rw [List.filterMap_cons, List.filter_cons, ih]
    cases p a <;> rfl

theorem lim200 {α : Type} {x : α} {a b : Nat} (h : b * 200 ≤ reachBytes) (ha : a < b) : a + [x].length ≤ lim 200 := by
  rw [List.length_singleton]
  have hr := reach_lt
  simp only [lim]
  omega

theorem pickM_ok : pickM.OK := pickM.mk (memF_ok.cons' (copy_ok.cons' SpecsOK.nil)) fun l u hx => by
  have hl : fits (.sl TStatus) l = true := by simpa [pickM.pre] using hx
  have hb := stat_len hl
  have hr := reach_lt
  refine ⟨l.length + 2, ?_⟩
  rw [pickM.start]
  have h := loop_fm (t := TStatus) l (fun s => if memB s then some s else none) (fun m out k => pickM.l1 m l l.length k out) (fun out => some (.c (.sl TStatus out), [])) (fun m k out hk ho => ?_) (fun m out => ?_) l.length 0 [] (by omega) (Nat.zero_le _)
  · refine h.trans ?_
    rw [List.drop_zero, fm_filter]; rfl
  · have hf := fits_rd hl hk
    rw [pickM.s1, cond_dt (by omega), test_d (by omega), test_d (by omega), w64s (by omega), toNat_cast, test_true (by simpa [memF.pre] using hf)]
    cases memB (rdEl TStatus l k) with
    | true =>
      rw [cond_true, test_true (by simpa [copy.pre] using fits_stat hf), test_d (lim200 hb (by omega))]
      rfl
    | false => rfl
  · rw [pickM.s1, cond_df (by omega)]

theorem members_ok : members.OK := members.mk (pickM_ok.cons' SpecsOK.nil) fun l hx => ⟨1, by
  rw [members.start, test_true (by simpa [pickM.pre, members.pre] using hx)]; rfl⟩

theorem membersR_ok : membersR.OK := membersR.mk (copyOne_ok.cons' SpecsOK.nil) fun l hx => by
  have hl : fits (.sl TStatus) l = true := by simpa [membersR.pre] using hx
  have hb := stat_len hl
  have hr := reach_lt
  refine ⟨l.length + 2, ?_⟩
  rw [membersR.start]
  have h := loop_fm (t := TStatus) l (fun s => if memB s then some s else none) (fun m out k => membersR.l1 m l l.length k out) (fun out => some (.c (.sl TStatus out), [])) (fun m k out hk ho => ?_) (fun m out => ?_) l.length 0 [] (by omega) (Nat.zero_le _)
  · refine h.trans ?_
    rw [List.drop_zero, fm_filter]; rfl
  · have hf := fits_rd hl hk
    rw [membersR.s1, cond_dt (by omega), test_d (by omega), test_d (by omega), w64s (by omega), toNat_cast, test_true (by simpa [copyOne.pre] using hf), test_d (lim200 hb (by omega))]
    unfold memB sDrains
    cases (rdEl TStatus l k).2.2.2.2.2.1 <;> rfl
  · rw [membersR.s1, cond_df (by omega)]

/-! ### the same? -/

theorem sameOR_ok : sameOR.OK := sameOR.mk (sameR_ok.cons' SpecsOK.nil) fun a b hx => ⟨1, by
  have hh : fits TStatus a = true ∧ fits TStatus b = true := by simpa [sameOR.pre] using hx
  rw [sameOR.start, test_true (by simpa [sameR.pre] using ⟨fits_stat hh.1, fits_stat hh.2⟩)]
  show _ = some (vb (sameOB a b), _)
  unfold sameOB eqQ eqBk sProb sErr sBk sOut sDrains sGone sSince sAct
  generalize ((a.2.1.1 == b.2.1.1) && ((a.2.1.2.1 == b.2.1.2.1) && ((a.2.1.2.2.1 == b.2.1.2.2.1) && ((a.2.1.2.2.2 == b.2.1.2.2.2) && true)))) = c1
  generalize ((a.2.2.2.1.1 == b.2.2.2.1.1) && ((a.2.2.2.1.2 == b.2.2.2.1.2) && true)) = c2
  generalize ((a.2.2.2.2.1.1 == b.2.2.2.2.1.1) && ((a.2.2.2.2.1.2.1 == b.2.2.2.2.1.2.1) && ((a.2.2.2.2.1.2.2.1 == b.2.2.2.2.1.2.2.1) && ((a.2.2.2.2.1.2.2.2 == b.2.2.2.2.1.2.2.2) && true)))) = c3
  cases sameB a.1 b.1 <;> cases c1 <;> cases a.2.2.1 == b.2.2.1 <;> cases c2 <;> cases c3 <;> try rfl
  cases a.2.2.2.2.2.1 == b.2.2.2.2.2.1 <;> cases a.2.2.2.2.2.2.1 == b.2.2.2.2.2.2.1 <;> cases a.2.2.2.2.2.2.2.1 == b.2.2.2.2.2.2.2.1 <;> rfl⟩

theorem sameSR_ok : sameSR.OK := sameSR.mk (sameOR_ok.cons' SpecsOK.nil) fun l m hx => by
  have hh : fits (.sl TStatus) l = true ∧ fits (.sl TStatus) m = true := by simpa [sameSR.pre] using hx
  have hb := stat_len hh.1
  have hr := reach_lt
  refine ⟨l.length + 2, ?_⟩
  rw [sameSR.start]
  show _ = some (vb (sameSB l m), _)
  unfold sameSB
  by_cases hlm : l.length = m.length
  · rw [cond_nf (by omega), dec_t hlm]
    have h := loop_any (fun k => !sameOB (rdEl TStatus l k) (rdEl TStatus m k)) l.length (fun f k => sameSR.l1 f l m l.length k) (some (vb false, [])) (some (vb true, [])) (fun f k hk => ?_) (fun f => ?_) l.length 0 (by omega)
    · refine h.trans ?_
      cases anyN (fun k => !sameOB (rdEl TStatus l k) (rdEl TStatus m k)) 0 l.length <;> rfl
    · rw [sameSR.s1, cond_dt (by omega), test_d (by omega), test_d (by omega), test_d (by omega), test_d (by omega), toNat_cast, w64s (by omega), test_true (by simpa [sameOR.pre] using ⟨fits_rd hh.1 hk, fits_rd hh.2 (by omega)⟩)]
      rfl
    · rw [sameSR.s1, cond_df (by omega)]; rfl
  · rw [cond_nt (by omega), dec_f hlm]; rfl

theorem lightS16_ok : lightS16.OK := lightS16.mk (light_ok.cons' SpecsOK.nil) fun l hx => by
  have hl : fits (.sl TStatus) l = true := by simpa [lightS16.pre] using hx
  have hb := stat_len hl
  have hr := reach_lt
  refine ⟨l.length + 2, ?_⟩
  rw [lightS16.start]
  have h := loop_any (fun k => decide (80 < k) || decide (lightI (rdEl TStatus l k).1 > 0)) l.length (fun m k => lightS16.l1 m l l.length k) (some (vi .i64 1, [])) (some (vi .i64 0, [])) (fun m k hk => ?_) (fun m => ?_) l.length 0 (by omega)
  · refine h.trans ?_
    show _ = some (vi .i64 (lightL l), _)
    unfold lightL
    cases anyN (fun k => decide (80 < k) || decide (lightI (rdEl TStatus l k).1 > 0)) 0 l.length <;> rfl
  · rw [lightS16.s1, cond_dt (by omega), test_d (by omega), test_d (by omega), toNat_cast, w64s (by omega), test_true (by simpa [light.pre] using fits_stat (fits_rd hl hk))]
    by_cases h8 : 80 < k
    · rw [cond_dt (by omega), dec_t h8]; rfl
    · rw [cond_df (by omega), dec_f h8, Bool.false_or]; rfl
  · rw [lightS16.s1, cond_df (by omega)]; rfl

end Go.Proofs.Ytemkgdkkpeijfaa
