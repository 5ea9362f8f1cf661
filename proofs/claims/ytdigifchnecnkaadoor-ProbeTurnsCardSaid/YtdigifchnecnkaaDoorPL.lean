/-
  Probes: the laws.
-/
import Derived.Test.YtdigifchnecnkaaDoorPC
namespace Go.Proofs.YtdigifchnecnkaaDoor
open Go VE

theorem moved_bne (a b : El TQ) : bne (movedI a b) 0 = !(wellB b == wellB a) := by
  unfold movedI
  cases wellB a <;> cases wellB b <;> rfl
theorem moved_in (a b : El TQ) : movedI a b = 0 ∨ movedI a b = 1 ∨ movedI a b = 2 := by
  unfold movedI
  cases wellB a <;> cases wellB b <;> simp
theorem moved_one (a b : El TQ) : (if movedI a b = 0 then (0 : Int) else 0 + 1) = bif (wellB b == wellB a) then 0 else 1 := by
  unfold movedI
  cases wellB a <;> cases wellB b <;> simp

/-! ### waits -/

theorem may_calm {c : El TConfig} (h : mayC c = true) : mayC (c.1, c.2.1, (0 : Int), c.2.2.2) = true := by
  have h1 := Bool.and_eq_true_iff.1 h
  have h2 : (inR ((⟨#[105, 110, 116, 101, 114, 118, 97, 108]⟩ : ByteArray), (c.1, ((10 : Int), (10000 : Int)))) && (inR ((⟨#[116, 105, 109, 101, 111, 117, 116]⟩ : ByteArray), (c.2.1, ((1 : Int), (10000 : Int)))) && (inR ((⟨#[106, 105, 116, 116, 101, 114]⟩ : ByteArray), (c.2.2.1, ((0 : Int), (1000 : Int)))) && ((firstL c ++ secondL c).drop 3).all inR))) = true := h1.1
  simp only [Bool.and_eq_true] at h2
  have h3 : (inR ((⟨#[105, 110, 116, 101, 114, 118, 97, 108]⟩ : ByteArray), (c.1, ((10 : Int), (10000 : Int)))) && (inR ((⟨#[116, 105, 109, 101, 111, 117, 116]⟩ : ByteArray), (c.2.1, ((1 : Int), (10000 : Int)))) && (inR ((⟨#[106, 105, 116, 116, 101, 114]⟩ : ByteArray), ((0 : Int), ((0 : Int), (1000 : Int)))) && ((firstL c ++ secondL c).drop 3).all inR))) = true := by
    rw [h2.1, h2.2.1, h2.2.2.2]; rfl
  exact Bool.and_eq_true_iff.2 ⟨h3, h1.2⟩

theorem fits_calm {c : El TConfig} (h : fits TConfig c = true) : fits TConfig (c.1, c.2.1, (0 : Int), c.2.2.2) = true := h

theorem lWaits_R : lWaits.Law := fun c ho i hx => by
  have h : (fits TConfig c && (true && (true && (decide (-9223372036854775808 ≤ ho ∧ ho ≤ 9223372036854775807 ∧ -9223372036854775808 ≤ i ∧ i ≤ 9223372036854775807) && true)))) = true := hx
  have hc : fits TConfig c = true := (Bool.and_eq_true_iff.1 hx).1
  have hh : ∃ f, lWaits.go f c ho i = some (vb true, []) := by
    refine ⟨1, ?_⟩
    rw [lWaits.start, test_true (show mayCR.pre (c, ()) = true from cfg_fit hc)]
    cases hm : mayC c with
    | false => rfl
    | true =>
      obtain ⟨⟨a0, a1⟩, ⟨j0, j1⟩, _⟩ := may_bounds hm
      have hm2 := may_calm hm
      have hb := below_in (withN (itoaB ho) i) (n := cJitter c + 1) (by omega)
      have hb1 := below_in (withN (itoaB ho) i) (n := 1) (by omega)
      have e1 : waitI c ho i = cInterval c + belowN (withN (itoaB ho) i) (cJitter c + 1) := by unfold waitI; rw [held_may hm]
      have e2 : waitI (c.1, c.2.1, (0 : Int), c.2.2.2) ho i = cInterval c := by
        unfold waitI
        rw [held_may hm2]
        show cInterval c + belowN (withN (itoaB ho) i) 1 = cInterval c
        omega
      have ew : IntKind.i64.wrap (c.1 + c.2.2.1) = cInterval c + cJitter c := w64 (by show _ ≤ cInterval c + cJitter c; omega) (by show cInterval c + cJitter c ≤ _; omega)
      have p1 : wait.pre (c, ho, i, ()) = true := hx
      have p2 : wait.pre ((c.1, c.2.1, (0 : Int), c.2.2.2), ho, i, ()) = true := hx
      have g1 : waitI c ho i ≥ c.1 := by show cInterval c ≤ waitI c ho i; omega
      have g2 : waitI c ho i ≤ cInterval c + cJitter c := by omega
      rw [Bool.not_true, cond_false, test_true p1, cond_dt g1, ew, cond_dt g2, test_true p2, cond_et e2]
      rfl
  obtain ⟨f, hf⟩ := hh
  exact lWaits.ret (awake_ok.cons' (mayCR_ok.cons' (wait_ok.cons' SpecsOK.nil))) c ho i hf

theorem lWaits_pre (c : El TConfig) (ho i : Int) (hx : wfs [(true, TConfig), (false, .int .i64), (false, .int .i64)] (c, ho, i, ())) : lWaits.pre (c, ho, i, ()) = true := by
  have b2 : -9223372036854775808 ≤ ho ∧ ho ≤ 9223372036854775807 := hx.2.1
  have b3 : -9223372036854775808 ≤ i ∧ i ≤ 9223372036854775807 := hx.2.2.1
  have b1 : fits TConfig c = true := fits_of_wf _ _ hx.1
  show (fits TConfig c && (true && (true && (decide (-9223372036854775808 ≤ ho ∧ ho ≤ 9223372036854775807 ∧ -9223372036854775808 ≤ i ∧ i ≤ 9223372036854775807) && true)))) = true
  rw [b1, dec_t ⟨b2.1, b2.2, b3.1, b3.2⟩]; rfl

/-! ### risings -/

theorem rise_first {c : El TConfig} (hc : fits TConfig c = true) (ok : Bool) (more : Int) (l : List Bool) (hl : l.length ≤ 100)
    (HG : ∀ p : El TQ, ∃ f, ∀ m, lRises.l1 (m + f) ok more l (l.length : Int) (l.length : Int) c.1 c.2.1 c.2.2.1 c.2.2.2.1 c.2.2.2.2.1 c.2.2.2.2.2.1 c.2.2.2.2.2.2.1 c.2.2.2.2.2.2.2.1 c.2.2.2.2.2.2.2.2.1 c.2.2.2.2.2.2.2.2.2.1 c.2.2.2.2.2.2.2.2.2.2.1 c.2.2.2.2.2.2.2.2.2.2.2.1 c.2.2.2.2.2.2.2.2.2.2.2.2.1 c.2.2.2.2.2.2.2.2.2.2.2.2.2.1 c.2.2.2.2.2.2.2.2.2.2.2.2.2.2.1 c.2.2.2.2.2.2.2.2.2.2.2.2.2.2.2.1 c.2.2.2.2.2.2.2.2.2.2.2.2.2.2.2.2.1 c.2.2.2.2.2.2.2.2.2.2.2.2.2.2.2.2.2.1 c.2.2.2.2.2.2.2.2.2.2.2.2.2.2.2.2.2.2.1 c.2.2.2.2.2.2.2.2.2.2.2.2.2.2.2.2.2.2.2.1 c.2.2.2.2.2.2.2.2.2.2.2.2.2.2.2.2.2.2.2.2.1 c.2.2.2.2.2.2.2.2.2.2.2.2.2.2.2.2.2.2.2.2.2.1 c.2.2.2.2.2.2.2.2.2.2.2.2.2.2.2.2.2.2.2.2.2.2 p.1 p.2.1 p.2.2.1 p.2.2.2 = some (vb true, [])) :
    ∀ (n k : Nat) (p : El TQ), l.length = k + n → ∃ f, ∀ m, lRises.l1 (m + f) ok more l (l.length : Int) (k : Int) c.1 c.2.1 c.2.2.1 c.2.2.2.1 c.2.2.2.2.1 c.2.2.2.2.2.1 c.2.2.2.2.2.2.1 c.2.2.2.2.2.2.2.1 c.2.2.2.2.2.2.2.2.1 c.2.2.2.2.2.2.2.2.2.1 c.2.2.2.2.2.2.2.2.2.2.1 c.2.2.2.2.2.2.2.2.2.2.2.1 c.2.2.2.2.2.2.2.2.2.2.2.2.1 c.2.2.2.2.2.2.2.2.2.2.2.2.2.1 c.2.2.2.2.2.2.2.2.2.2.2.2.2.2.1 c.2.2.2.2.2.2.2.2.2.2.2.2.2.2.2.1 c.2.2.2.2.2.2.2.2.2.2.2.2.2.2.2.2.1 c.2.2.2.2.2.2.2.2.2.2.2.2.2.2.2.2.2.1 c.2.2.2.2.2.2.2.2.2.2.2.2.2.2.2.2.2.2.1 c.2.2.2.2.2.2.2.2.2.2.2.2.2.2.2.2.2.2.2.1 c.2.2.2.2.2.2.2.2.2.2.2.2.2.2.2.2.2.2.2.2.1 c.2.2.2.2.2.2.2.2.2.2.2.2.2.2.2.2.2.2.2.2.2.1 c.2.2.2.2.2.2.2.2.2.2.2.2.2.2.2.2.2.2.2.2.2.2 p.1 p.2.1 p.2.2.1 p.2.2.2 = some (vb true, [])
  | 0, k, p, hk => by
    have e : k = l.length := by omega
    subst e
    exact HG p
  | n + 1, k, p, hk => by
    obtain ⟨f, hf⟩ := rise_first hc ok more l hl HG n (k + 1) (endQ c p (rdEl .bool l k)) (by omega)
    refine ⟨f + 1, fun m => (lRises.s1 (m + f) ok more l (l.length : Int) (k : Int) c.1 c.2.1 c.2.2.1 c.2.2.2.1 c.2.2.2.2.1 c.2.2.2.2.2.1 c.2.2.2.2.2.2.1 c.2.2.2.2.2.2.2.1 c.2.2.2.2.2.2.2.2.1 c.2.2.2.2.2.2.2.2.2.1 c.2.2.2.2.2.2.2.2.2.2.1 c.2.2.2.2.2.2.2.2.2.2.2.1 c.2.2.2.2.2.2.2.2.2.2.2.2.1 c.2.2.2.2.2.2.2.2.2.2.2.2.2.1 c.2.2.2.2.2.2.2.2.2.2.2.2.2.2.1 c.2.2.2.2.2.2.2.2.2.2.2.2.2.2.2.1 c.2.2.2.2.2.2.2.2.2.2.2.2.2.2.2.2.1 c.2.2.2.2.2.2.2.2.2.2.2.2.2.2.2.2.2.1 c.2.2.2.2.2.2.2.2.2.2.2.2.2.2.2.2.2.2.1 c.2.2.2.2.2.2.2.2.2.2.2.2.2.2.2.2.2.2.2.1 c.2.2.2.2.2.2.2.2.2.2.2.2.2.2.2.2.2.2.2.2.1 c.2.2.2.2.2.2.2.2.2.2.2.2.2.2.2.2.2.2.2.2.2.1 c.2.2.2.2.2.2.2.2.2.2.2.2.2.2.2.2.2.2.2.2.2.2 p.1 p.2.1 p.2.2.1 p.2.2.2).trans ?_⟩
    rw [cond_dt (by omega), test_d (by omega), test_d (by omega), w64s (by omega), toNat_cast]
    exact (test_true (end_pre hc p (rdEl .bool l k))).trans (hf m)

/-- Where the second loop is: it has what it was told, or it is on its way. -/
def RiseInv (p : El TQ) (ok was : Bool) (n i moves : Int) : Prop :=
  (p.1 = ok ∧ (1 ≤ i → p.2.1 = (0 : Int)) ∧ moves = bif (wellB p == was) then 0 else 1) ∨ (p.1 = (!ok) ∧ i < n ∧ i ≤ m0I p ∧ wellB p = was ∧ moves = 0)

theorem rise_end {c : El TConfig} {ok was : Bool} {n N moves : Int} {p : El TQ} (hn : 1 ≤ n) (hN : n ≤ N) (h : RiseInv p ok was n N moves) (m : Nat) :
    lRises.l2 (m + 1) ok n was moves N N c.1 c.2.1 c.2.2.1 c.2.2.2.1 c.2.2.2.2.1 c.2.2.2.2.2.1 c.2.2.2.2.2.2.1 c.2.2.2.2.2.2.2.1 c.2.2.2.2.2.2.2.2.1 c.2.2.2.2.2.2.2.2.2.1 c.2.2.2.2.2.2.2.2.2.2.1 c.2.2.2.2.2.2.2.2.2.2.2.1 c.2.2.2.2.2.2.2.2.2.2.2.2.1 c.2.2.2.2.2.2.2.2.2.2.2.2.2.1 c.2.2.2.2.2.2.2.2.2.2.2.2.2.2.1 c.2.2.2.2.2.2.2.2.2.2.2.2.2.2.2.1 c.2.2.2.2.2.2.2.2.2.2.2.2.2.2.2.2.1 c.2.2.2.2.2.2.2.2.2.2.2.2.2.2.2.2.2.1 c.2.2.2.2.2.2.2.2.2.2.2.2.2.2.2.2.2.2.1 c.2.2.2.2.2.2.2.2.2.2.2.2.2.2.2.2.2.2.2.1 c.2.2.2.2.2.2.2.2.2.2.2.2.2.2.2.2.2.2.2.2.1 c.2.2.2.2.2.2.2.2.2.2.2.2.2.2.2.2.2.2.2.2.2.1 c.2.2.2.2.2.2.2.2.2.2.2.2.2.2.2.2.2.2.2.2.2.2 p.1 p.2.1 p.2.2.1 p.2.2.2 = some (vb true, []) := by
  rcases h with ⟨h1, h2, h3⟩ | ⟨_, h2, _⟩
  · have h2 := h2 (by omega)
    obtain ⟨up, run, fo, wt⟩ := p
    have h1 : up = ok := h1
    have h2 : run = (0 : Int) := h2
    subst h1 h2
    have hw : wellB (up, (0 : Int), fo, wt) = wellU up fo := rfl
    rw [hw] at h3
    rw [lRises.s2, cond_df (by omega), cond_f (show (!(up == up)) = false by simp), cond_f (show bne (0 : Int) 0 = false by decide)]
    have hmv : moves = 0 ∨ moves = 1 := by
      rw [h3]; cases wellU up fo == was <;> simp
    rw [cond_df (by omega)]
    have hq : (!((moves == (1 : Int)) == (!(wellB (up, (0 : Int), fo, wt) == was)))) = false := by
      rw [hw, h3]; cases wellU up fo <;> cases was <;> rfl
    rw [hq, cond_false]
    by_cases hf : fo = (0 : Int)
    · subst hf
      have : (wellB (up, (0 : Int), (0 : Int), wt) == up) = true := by cases up <;> rfl
      rw [cond_f (show bne (0 : Int) 0 = false by decide), cond_t this]
      rfl
    · have hf2 : bne (fo : Int) (0 : Int) = true := by simpa [bne] using hf
      rw [cond_t hf2]
      rfl
  · exact absurd h2 (by omega)

theorem rise_step {c : El TConfig} {ok was : Bool} {n N i moves : Int} {p : El TQ} (hc : fits TConfig c = true) (hi : i < N) (h0 : 0 ≤ i) (hN : N < 1000) (hmo : 0 ≤ moves ∧ moves ≤ 1)
    (h1 : bne (endM c p ok) 0 = !(wellB (endQ c p ok) == wellB p)) (h2 : endM c p ok = 0 ∨ endM c p ok = 1 ∨ endM c p ok = 2) (h3 : endM c p ok ≠ 0 → i < n) (m : Nat) :
    lRises.l2 (m + 1) ok n was moves N i c.1 c.2.1 c.2.2.1 c.2.2.2.1 c.2.2.2.2.1 c.2.2.2.2.2.1 c.2.2.2.2.2.2.1 c.2.2.2.2.2.2.2.1 c.2.2.2.2.2.2.2.2.1 c.2.2.2.2.2.2.2.2.2.1 c.2.2.2.2.2.2.2.2.2.2.1 c.2.2.2.2.2.2.2.2.2.2.2.1 c.2.2.2.2.2.2.2.2.2.2.2.2.1 c.2.2.2.2.2.2.2.2.2.2.2.2.2.1 c.2.2.2.2.2.2.2.2.2.2.2.2.2.2.1 c.2.2.2.2.2.2.2.2.2.2.2.2.2.2.2.1 c.2.2.2.2.2.2.2.2.2.2.2.2.2.2.2.2.1 c.2.2.2.2.2.2.2.2.2.2.2.2.2.2.2.2.2.1 c.2.2.2.2.2.2.2.2.2.2.2.2.2.2.2.2.2.2.1 c.2.2.2.2.2.2.2.2.2.2.2.2.2.2.2.2.2.2.2.1 c.2.2.2.2.2.2.2.2.2.2.2.2.2.2.2.2.2.2.2.2.1 c.2.2.2.2.2.2.2.2.2.2.2.2.2.2.2.2.2.2.2.2.2.1 c.2.2.2.2.2.2.2.2.2.2.2.2.2.2.2.2.2.2.2.2.2.2 p.1 p.2.1 p.2.2.1 p.2.2.2 = lRises.l2 m ok n was (if endM c p ok = 0 then moves else moves + 1) N (i + 1) c.1 c.2.1 c.2.2.1 c.2.2.2.1 c.2.2.2.2.1 c.2.2.2.2.2.1 c.2.2.2.2.2.2.1 c.2.2.2.2.2.2.2.1 c.2.2.2.2.2.2.2.2.1 c.2.2.2.2.2.2.2.2.2.1 c.2.2.2.2.2.2.2.2.2.2.1 c.2.2.2.2.2.2.2.2.2.2.2.1 c.2.2.2.2.2.2.2.2.2.2.2.2.1 c.2.2.2.2.2.2.2.2.2.2.2.2.2.1 c.2.2.2.2.2.2.2.2.2.2.2.2.2.2.1 c.2.2.2.2.2.2.2.2.2.2.2.2.2.2.2.1 c.2.2.2.2.2.2.2.2.2.2.2.2.2.2.2.2.1 c.2.2.2.2.2.2.2.2.2.2.2.2.2.2.2.2.2.1 c.2.2.2.2.2.2.2.2.2.2.2.2.2.2.2.2.2.2.1 c.2.2.2.2.2.2.2.2.2.2.2.2.2.2.2.2.2.2.2.1 c.2.2.2.2.2.2.2.2.2.2.2.2.2.2.2.2.2.2.2.2.1 c.2.2.2.2.2.2.2.2.2.2.2.2.2.2.2.2.2.2.2.2.2.1 c.2.2.2.2.2.2.2.2.2.2.2.2.2.2.2.2.2.2.2.2.2.2 (endQ c p ok).1 (endQ c p ok).2.1 (endQ c p ok).2.2.1 (endQ c p ok).2.2.2 := by
  refine (lRises.s2 m ok n was moves N i c.1 c.2.1 c.2.2.1 c.2.2.2.1 c.2.2.2.2.1 c.2.2.2.2.2.1 c.2.2.2.2.2.2.1 c.2.2.2.2.2.2.2.1 c.2.2.2.2.2.2.2.2.1 c.2.2.2.2.2.2.2.2.2.1 c.2.2.2.2.2.2.2.2.2.2.1 c.2.2.2.2.2.2.2.2.2.2.2.1 c.2.2.2.2.2.2.2.2.2.2.2.2.1 c.2.2.2.2.2.2.2.2.2.2.2.2.2.1 c.2.2.2.2.2.2.2.2.2.2.2.2.2.2.1 c.2.2.2.2.2.2.2.2.2.2.2.2.2.2.2.1 c.2.2.2.2.2.2.2.2.2.2.2.2.2.2.2.2.1 c.2.2.2.2.2.2.2.2.2.2.2.2.2.2.2.2.2.1 c.2.2.2.2.2.2.2.2.2.2.2.2.2.2.2.2.2.2.1 c.2.2.2.2.2.2.2.2.2.2.2.2.2.2.2.2.2.2.2.1 c.2.2.2.2.2.2.2.2.2.2.2.2.2.2.2.2.2.2.2.2.1 c.2.2.2.2.2.2.2.2.2.2.2.2.2.2.2.2.2.2.2.2.2.1 c.2.2.2.2.2.2.2.2.2.2.2.2.2.2.2.2.2.2.2.2.2.2 p.1 p.2.1 p.2.2.1 p.2.2.2).trans ?_
  rw [cond_dt hi, w64 (n := i + 1) (by omega) (by omega), w64 (n := moves + 1) (by omega) (by omega)]
  refine (test_true (end_pre hc p ok)).trans ?_
  have hz : (!((bne (endM c p ok) 0) == (!(wellB (endQ c p ok) == wellB p)))) = false := by rw [h1]; simp
  refine (cond_f hz).trans ?_
  rcases h2 with e | e | e
  · have hb : bne (endM c p ok) 0 = false := by rw [e]; rfl
    refine (cond_f hb).trans ?_
    rw [if_pos e]
    by_cases hin : i ≥ n
    · exact (cond_dt hin).trans ((cond_f hb).trans (cond_f hb))
    · exact (cond_df hin).trans (cond_f hb)
  · have hb : bne (endM c p ok) 0 = true := by rw [e]; rfl
    have hb1 : bne (endM c p ok) 1 = false := by rw [e]; rfl
    have hin := h3 (by rw [e]; decide)
    rw [if_neg (by rw [e]; decide)]
    exact (cond_t hb).trans ((cond_f hb1).trans ((cond_df (by omega)).trans (cond_t hb)))
  · have hb : bne (endM c p ok) 0 = true := by rw [e]; rfl
    have hb1 : bne (endM c p ok) 1 = true := by rw [e]; rfl
    have hb2 : bne (endM c p ok) 2 = false := by rw [e]; rfl
    have hin := h3 (by rw [e]; decide)
    rw [if_neg (by rw [e]; decide)]
    exact (cond_t hb).trans ((cond_t hb1).trans ((cond_f hb2).trans ((cond_df (by omega)).trans (cond_t hb))))

theorem most_at {c : El TConfig} (hm : mayC c = true) {p : El TQ} {ok : Bool} (h : p.1 = !ok) : mostI c p = bif ok then cRise c else cFall c := by
  unfold mostI
  rw [held_may hm, h]
  cases ok <;> rfl

theorem rise_next {c : El TConfig} (hm : mayC c = true) {ok was : Bool} {n i moves : Int} {p : El TQ} (hn : n = bif ok then cRise c else cFall c) (hi2 : i < 1000) (h : RiseInv p ok was n i moves) :
    (bne (endM c p ok) 0 = !(wellB (endQ c p ok) == wellB p)) ∧ (endM c p ok = 0 ∨ endM c p ok = 1 ∨ endM c p ok = 2) ∧ (endM c p ok ≠ 0 → i < n) ∧ RiseInv (endQ c p ok) ok was n (i + 1) (if endM c p ok = 0 then moves else moves + 1) := by
  rcases h with ⟨h1, h2, h3⟩ | ⟨h1, h2, h3, h4, h5⟩
  · obtain ⟨e1, e2⟩ := end_same (c := c) h1.symm
    rw [e1, e2]
    have hw : wellB (p.1, (0 : Int), p.2.2.1, (0 : Int)) = wellB p := rfl
    refine ⟨by rw [hw]; simp, .inl rfl, fun h => absurd rfl h, .inl ⟨h1, fun _ => rfl, ?_⟩⟩
    rw [hw, if_pos rfl]
    exact h3
  · have hok : ok = !p.1 := by rw [h1]; simp
    by_cases hr : runI p ≥ mostI c p
    · obtain ⟨e1, e2⟩ := end_flip (c := c) hok hr
      rw [e1, e2]
      refine ⟨moved_bne _ _, moved_in _ _, fun _ => h2, .inl ⟨hok.symm, fun _ => rfl, ?_⟩⟩
      rw [h5, ← h4]
      exact moved_one _ _
    · obtain ⟨e1, e2⟩ := end_on (c := c) hok hr
      have hw : wellB (p.1, runI p, p.2.2.1, (0 : Int)) = wellB p := rfl
      have hz : movedI p (p.1, runI p, p.2.2.1, (0 : Int)) = 0 := by rw [moved_val, hw, if_pos rfl]
      rw [e1, e2, hz]
      have hmo := most_at hm h1
      have hge := run_ge p h3 hi2
      rw [hmo, ← hn] at hr
      refine ⟨by rw [hw]; simp, .inl rfl, fun h => absurd rfl h, .inr ⟨h1, by omega, ?_, h4, ?_⟩⟩
      · rw [m0_at _ _ _ (run_pos p)]; exact hge
      · rw [if_pos rfl]; exact h5

theorem rise_moves {p : El TQ} {ok was : Bool} {n i moves : Int} (h : RiseInv p ok was n i moves) : 0 ≤ moves ∧ moves ≤ 1 := by
  rcases h with ⟨_, _, h3⟩ | ⟨_, _, _, _, h5⟩
  · rw [h3]; cases wellB p == was <;> simp
  · omega

theorem rise_loop {c : El TConfig} (hc : fits TConfig c = true) (hm : mayC c = true) {ok was : Bool} {n N : Int} (hn : n = bif ok then cRise c else cFall c) (hn1 : 1 ≤ n) (hnN : n ≤ N) (hN : N < 1000) :
    ∀ (d : Nat) (i moves : Int) (p : El TQ), N = i + d → 0 ≤ i → RiseInv p ok was n i moves → ∀ m, lRises.l2 (m + (d + 1)) ok n was moves N i c.1 c.2.1 c.2.2.1 c.2.2.2.1 c.2.2.2.2.1 c.2.2.2.2.2.1 c.2.2.2.2.2.2.1 c.2.2.2.2.2.2.2.1 c.2.2.2.2.2.2.2.2.1 c.2.2.2.2.2.2.2.2.2.1 c.2.2.2.2.2.2.2.2.2.2.1 c.2.2.2.2.2.2.2.2.2.2.2.1 c.2.2.2.2.2.2.2.2.2.2.2.2.1 c.2.2.2.2.2.2.2.2.2.2.2.2.2.1 c.2.2.2.2.2.2.2.2.2.2.2.2.2.2.1 c.2.2.2.2.2.2.2.2.2.2.2.2.2.2.2.1 c.2.2.2.2.2.2.2.2.2.2.2.2.2.2.2.2.1 c.2.2.2.2.2.2.2.2.2.2.2.2.2.2.2.2.2.1 c.2.2.2.2.2.2.2.2.2.2.2.2.2.2.2.2.2.2.1 c.2.2.2.2.2.2.2.2.2.2.2.2.2.2.2.2.2.2.2.1 c.2.2.2.2.2.2.2.2.2.2.2.2.2.2.2.2.2.2.2.2.1 c.2.2.2.2.2.2.2.2.2.2.2.2.2.2.2.2.2.2.2.2.2.1 c.2.2.2.2.2.2.2.2.2.2.2.2.2.2.2.2.2.2.2.2.2.2 p.1 p.2.1 p.2.2.1 p.2.2.2 = some (vb true, [])
  | 0, i, moves, p, hd, h0, h, m => by
    have e : i = N := by omega
    subst e
    exact rise_end hn1 hnN h m
  | d + 1, i, moves, p, hd, h0, h, m => by
    obtain ⟨a1, a2, a3, a4⟩ := rise_next hm hn (by omega) h
    exact (rise_step hc (by omega) h0 hN (rise_moves h) a1 a2 a3 (m + (d + 1))).trans (rise_loop hc hm hn hn1 hnN hN d (i + 1) _ _ (by omega) (by omega) a4 m)

theorem more_some (k : Int) : ∃ n : Int, IntKind.i64.wrap (Int.tmod (IntKind.u64.wrap k) (20 : Int)) = n ∧ 0 ≤ n ∧ n ≤ 19 := by
  have hk : 0 ≤ IntKind.u64.wrap k := (wrap_within .u64 k).1
  rw [Int.tmod_eq_emod_of_nonneg hk]
  have h2 := Int.emod_nonneg (IntKind.u64.wrap k) (show (20 : Int) ≠ 0 by omega)
  have h3 := Int.emod_lt_of_pos (IntKind.u64.wrap k) (show (0 : Int) < 20 by omega)
  exact ⟨_, w64 (by omega) (by omega), h2, by omega⟩

theorem rise_mid {c : El TConfig} (hc : fits TConfig c = true) (hm : mayC c = true) (ok : Bool) {n e : Int} (hn : n = bif ok then cRise c else cFall c) (he0 : 0 ≤ e) (he1 : e ≤ 19) (p : El TQ) :
    ∃ f, ∀ m, lRises.l2 (m + f) ok n (wellB p) 0 (IntKind.i64.wrap (n + e)) 0 c.1 c.2.1 c.2.2.1 c.2.2.2.1 c.2.2.2.2.1 c.2.2.2.2.2.1 c.2.2.2.2.2.2.1 c.2.2.2.2.2.2.2.1 c.2.2.2.2.2.2.2.2.1 c.2.2.2.2.2.2.2.2.2.1 c.2.2.2.2.2.2.2.2.2.2.1 c.2.2.2.2.2.2.2.2.2.2.2.1 c.2.2.2.2.2.2.2.2.2.2.2.2.1 c.2.2.2.2.2.2.2.2.2.2.2.2.2.1 c.2.2.2.2.2.2.2.2.2.2.2.2.2.2.1 c.2.2.2.2.2.2.2.2.2.2.2.2.2.2.2.1 c.2.2.2.2.2.2.2.2.2.2.2.2.2.2.2.2.1 c.2.2.2.2.2.2.2.2.2.2.2.2.2.2.2.2.2.1 c.2.2.2.2.2.2.2.2.2.2.2.2.2.2.2.2.2.2.1 c.2.2.2.2.2.2.2.2.2.2.2.2.2.2.2.2.2.2.2.1 c.2.2.2.2.2.2.2.2.2.2.2.2.2.2.2.2.2.2.2.2.1 c.2.2.2.2.2.2.2.2.2.2.2.2.2.2.2.2.2.2.2.2.2.1 c.2.2.2.2.2.2.2.2.2.2.2.2.2.2.2.2.2.2.2.2.2.2 p.1 p.2.1 p.2.2.1 p.2.2.2 = some (vb true, []) := by
  obtain ⟨_, _, ⟨r0, r1⟩, ⟨f0, f1⟩⟩ := may_bounds hm
  have hb : 1 ≤ n ∧ n ≤ 10 := by rw [hn]; cases ok <;> exact ⟨by assumption, by assumption⟩
  rw [w64 (n := n + e) (by omega) (by omega)]
  refine ⟨(n + e).toNat + 1, fun m => rise_loop hc hm hn hb.1 (by omega) (by omega) (n + e).toNat 0 0 p (by omega) (by omega) ?_ m⟩
  by_cases h : p.1 = ok
  · exact .inl ⟨h, fun h => absurd h (by omega), by simp⟩
  · exact .inr ⟨bool_ne h, by omega, m0_nonneg p, rfl, rfl⟩

theorem lRises_R : lRises.Law := fun c p l ok more hx => by
  have hc : fits TConfig c = true := (Bool.and_eq_true_iff.1 hx).1
  have hh : ∃ f, lRises.go f c p l ok more = some (vb true, []) := by
    by_cases hl : (l.length : Int) > 100
    · exact ⟨1, by rw [lRises.start, cond_dt hl]; rfl⟩
    by_cases hm : mayC c = true
    · obtain ⟨e, he, he0, he1⟩ := more_some more
      have HG : ∀ p : El TQ, ∃ f, ∀ m, lRises.l1 (m + f) ok more l (l.length : Int) (l.length : Int) c.1 c.2.1 c.2.2.1 c.2.2.2.1 c.2.2.2.2.1 c.2.2.2.2.2.1 c.2.2.2.2.2.2.1 c.2.2.2.2.2.2.2.1 c.2.2.2.2.2.2.2.2.1 c.2.2.2.2.2.2.2.2.2.1 c.2.2.2.2.2.2.2.2.2.2.1 c.2.2.2.2.2.2.2.2.2.2.2.1 c.2.2.2.2.2.2.2.2.2.2.2.2.1 c.2.2.2.2.2.2.2.2.2.2.2.2.2.1 c.2.2.2.2.2.2.2.2.2.2.2.2.2.2.1 c.2.2.2.2.2.2.2.2.2.2.2.2.2.2.2.1 c.2.2.2.2.2.2.2.2.2.2.2.2.2.2.2.2.1 c.2.2.2.2.2.2.2.2.2.2.2.2.2.2.2.2.2.1 c.2.2.2.2.2.2.2.2.2.2.2.2.2.2.2.2.2.2.1 c.2.2.2.2.2.2.2.2.2.2.2.2.2.2.2.2.2.2.2.1 c.2.2.2.2.2.2.2.2.2.2.2.2.2.2.2.2.2.2.2.2.1 c.2.2.2.2.2.2.2.2.2.2.2.2.2.2.2.2.2.2.2.2.2.1 c.2.2.2.2.2.2.2.2.2.2.2.2.2.2.2.2.2.2.2.2.2.2 p.1 p.2.1 p.2.2.1 p.2.2.2 = some (vb true, []) := fun p => by
        obtain ⟨f, hf⟩ := rise_mid hc hm ok (n := bif ok then cRise c else cFall c) (e := e) rfl he0 he1 p
        refine ⟨f + 1, fun m => (lRises.s1 (m + f) ok more l (l.length : Int) (l.length : Int) c.1 c.2.1 c.2.2.1 c.2.2.2.1 c.2.2.2.2.1 c.2.2.2.2.2.1 c.2.2.2.2.2.2.1 c.2.2.2.2.2.2.2.1 c.2.2.2.2.2.2.2.2.1 c.2.2.2.2.2.2.2.2.2.1 c.2.2.2.2.2.2.2.2.2.2.1 c.2.2.2.2.2.2.2.2.2.2.2.1 c.2.2.2.2.2.2.2.2.2.2.2.2.1 c.2.2.2.2.2.2.2.2.2.2.2.2.2.1 c.2.2.2.2.2.2.2.2.2.2.2.2.2.2.1 c.2.2.2.2.2.2.2.2.2.2.2.2.2.2.2.1 c.2.2.2.2.2.2.2.2.2.2.2.2.2.2.2.2.1 c.2.2.2.2.2.2.2.2.2.2.2.2.2.2.2.2.2.1 c.2.2.2.2.2.2.2.2.2.2.2.2.2.2.2.2.2.2.1 c.2.2.2.2.2.2.2.2.2.2.2.2.2.2.2.2.2.2.2.1 c.2.2.2.2.2.2.2.2.2.2.2.2.2.2.2.2.2.2.2.2.1 c.2.2.2.2.2.2.2.2.2.2.2.2.2.2.2.2.2.2.2.2.2.1 c.2.2.2.2.2.2.2.2.2.2.2.2.2.2.2.2.2.2.2.2.2.2 p.1 p.2.1 p.2.2.1 p.2.2.2).trans ?_⟩
        rw [cond_df (by omega), he]
        cases ok
        · exact hf m
        · exact hf m
      obtain ⟨f, hf⟩ := rise_first hc ok more l (by omega) HG l.length 0 p (by omega)
      refine ⟨0 + f + 1, ?_⟩
      rw [lRises.start, cond_df hl, test_true (show mayCR.pre (c, ()) = true from cfg_fit hc), hm]
      exact hf 0
    · have hm : mayC c = false := by simpa using hm
      exact ⟨1, by rw [lRises.start, cond_df hl, test_true (show mayCR.pre (c, ()) = true from cfg_fit hc), hm]; rfl⟩
  obtain ⟨f, hf⟩ := hh
  exact lRises.ret (awake_ok.cons' (mayCR_ok.cons' (endP_ok.cons' (well_ok.cons' SpecsOK.nil)))) c p l ok more hf

theorem lRises_pre (c : El TConfig) (p : El TQ) (l : List Bool) (ok : Bool) (more : Int) (hx : wfs [(true, TConfig), (true, TQ), (false, .sl .bool), (false, .bool), (false, .int .i64)] (c, p, l, ok, more, ())) : lRises.pre (c, p, l, ok, more, ()) = true := by
  obtain ⟨h1, h2, h3, _⟩ := hx
  show (fits TConfig c && (fits TQ p && (fits (.sl .bool) l && (true && (true && true))))) = true
  rw [fits_of_wf _ _ h1, fits_of_wf _ _ h2, fits_of_wf _ _ h3]
  rfl

/-! ### forced ones -/

theorem end_free (c : El TConfig) (u : Bool) (r : Int) (ok : Bool) : ∃ (u' : Bool) (r' : Int), ∀ f w : Int, endQ c (u, r, f, w) ok = (u', r', f, (0 : Int)) := by
  by_cases h : ok = u
  · exact ⟨u, 0, fun f w => (end_same (c := c) (p := (u, r, f, w)) h).1⟩
  · by_cases hr : runI (u, r, (0 : Int), (0 : Int)) ≥ mostI c (u, r, (0 : Int), (0 : Int))
    · exact ⟨!u, 0, fun f w => (end_flip (c := c) (p := (u, r, f, w)) (bool_ne h) hr).1⟩
    · exact ⟨u, runI (u, r, (0 : Int), (0 : Int)), fun f w => (end_on (c := c) (p := (u, r, f, w)) (bool_ne h) hr).1⟩

theorem endM_eq (c : El TConfig) (p : El TQ) (ok : Bool) : endM c p ok = movedI p (endQ c p ok) := by
  by_cases h : ok = p.1
  · rw [(end_same (c := c) h).1, (end_same (c := c) h).2, moved_val]
    exact (if_pos rfl).symm
  · by_cases hr : runI p ≥ mostI c p
    · rw [(end_flip (c := c) (bool_ne h) hr).1, (end_flip (c := c) (bool_ne h) hr).2]
    · rw [(end_on (c := c) (bool_ne h) hr).1, (end_on (c := c) (bool_ne h) hr).2]

theorem forced_well (u : Bool) {h : Int} (hh : h = 1 ∨ h = 2) : wellU u h = (h == (2 : Int)) := by
  rcases hh with rfl | rfl <;> cases u <;> rfl

theorem forced_loop {c : El TConfig} (hc : fits TConfig c = true) {h : Int} (hh : h = 1 ∨ h = 2) (l : List Bool) (hl : l.length ≤ 100) :
    ∀ (n k : Nat) (u : Bool) (r w : Int), l.length = k + n → ∀ m, lForced.l1 (m + (n + 1)) h l (l.length : Int) (k : Int) c.1 c.2.1 c.2.2.1 c.2.2.2.1 c.2.2.2.2.1 c.2.2.2.2.2.1 c.2.2.2.2.2.2.1 c.2.2.2.2.2.2.2.1 c.2.2.2.2.2.2.2.2.1 c.2.2.2.2.2.2.2.2.2.1 c.2.2.2.2.2.2.2.2.2.2.1 c.2.2.2.2.2.2.2.2.2.2.2.1 c.2.2.2.2.2.2.2.2.2.2.2.2.1 c.2.2.2.2.2.2.2.2.2.2.2.2.2.1 c.2.2.2.2.2.2.2.2.2.2.2.2.2.2.1 c.2.2.2.2.2.2.2.2.2.2.2.2.2.2.2.1 c.2.2.2.2.2.2.2.2.2.2.2.2.2.2.2.2.1 c.2.2.2.2.2.2.2.2.2.2.2.2.2.2.2.2.2.1 c.2.2.2.2.2.2.2.2.2.2.2.2.2.2.2.2.2.2.1 c.2.2.2.2.2.2.2.2.2.2.2.2.2.2.2.2.2.2.2.1 c.2.2.2.2.2.2.2.2.2.2.2.2.2.2.2.2.2.2.2.2.1 c.2.2.2.2.2.2.2.2.2.2.2.2.2.2.2.2.2.2.2.2.2.1 c.2.2.2.2.2.2.2.2.2.2.2.2.2.2.2.2.2.2.2.2.2.2 u r h w u r (0 : Int) w = some (vb true, [])
  | 0, k, u, r, w, hk, m => by
    refine (lForced.s1 m h l (l.length : Int) (k : Int) c.1 c.2.1 c.2.2.1 c.2.2.2.1 c.2.2.2.2.1 c.2.2.2.2.2.1 c.2.2.2.2.2.2.1 c.2.2.2.2.2.2.2.1 c.2.2.2.2.2.2.2.2.1 c.2.2.2.2.2.2.2.2.2.1 c.2.2.2.2.2.2.2.2.2.2.1 c.2.2.2.2.2.2.2.2.2.2.2.1 c.2.2.2.2.2.2.2.2.2.2.2.2.1 c.2.2.2.2.2.2.2.2.2.2.2.2.2.1 c.2.2.2.2.2.2.2.2.2.2.2.2.2.2.1 c.2.2.2.2.2.2.2.2.2.2.2.2.2.2.2.1 c.2.2.2.2.2.2.2.2.2.2.2.2.2.2.2.2.1 c.2.2.2.2.2.2.2.2.2.2.2.2.2.2.2.2.2.1 c.2.2.2.2.2.2.2.2.2.2.2.2.2.2.2.2.2.2.1 c.2.2.2.2.2.2.2.2.2.2.2.2.2.2.2.2.2.2.2.1 c.2.2.2.2.2.2.2.2.2.2.2.2.2.2.2.2.2.2.2.2.1 c.2.2.2.2.2.2.2.2.2.2.2.2.2.2.2.2.2.2.2.2.2.1 c.2.2.2.2.2.2.2.2.2.2.2.2.2.2.2.2.2.2.2.2.2.2 u r h w u r (0 : Int) w).trans ?_
    rw [cond_df (by omega)]
    have e : forceQ (u, r, h, w) (0 : Int) = (u, r, (0 : Int), w) := rfl
    rw [e]
    refine (cond_t ?_).trans rfl
    simp
  | n + 1, k, u, r, w, hk, m => by
    obtain ⟨u', r', he⟩ := end_free c u r (rdEl .bool l k)
    have e1 := he h w
    have e2 := he (0 : Int) w
    have w1 : wellB (u, r, h, w) = (h == (2 : Int)) := forced_well u hh
    have w2 : wellB (u', r', h, (0 : Int)) = (h == (2 : Int)) := forced_well u' hh
    have em : endM c (u, r, h, w) (rdEl .bool l k) = 0 := by rw [endM_eq, e1, moved_val, w1, w2, if_pos rfl]
    have hq : (!((wellB (endQ c (u, r, h, w) (rdEl .bool l k))) == (h == (2 : Int)))) = false := by rw [e1, w2]; simp
    refine (lForced.s1 (m + (n + 1)) h l (l.length : Int) (k : Int) c.1 c.2.1 c.2.2.1 c.2.2.2.1 c.2.2.2.2.1 c.2.2.2.2.2.1 c.2.2.2.2.2.2.1 c.2.2.2.2.2.2.2.1 c.2.2.2.2.2.2.2.2.1 c.2.2.2.2.2.2.2.2.2.1 c.2.2.2.2.2.2.2.2.2.2.1 c.2.2.2.2.2.2.2.2.2.2.2.1 c.2.2.2.2.2.2.2.2.2.2.2.2.1 c.2.2.2.2.2.2.2.2.2.2.2.2.2.1 c.2.2.2.2.2.2.2.2.2.2.2.2.2.2.1 c.2.2.2.2.2.2.2.2.2.2.2.2.2.2.2.1 c.2.2.2.2.2.2.2.2.2.2.2.2.2.2.2.2.1 c.2.2.2.2.2.2.2.2.2.2.2.2.2.2.2.2.2.1 c.2.2.2.2.2.2.2.2.2.2.2.2.2.2.2.2.2.2.1 c.2.2.2.2.2.2.2.2.2.2.2.2.2.2.2.2.2.2.2.1 c.2.2.2.2.2.2.2.2.2.2.2.2.2.2.2.2.2.2.2.2.1 c.2.2.2.2.2.2.2.2.2.2.2.2.2.2.2.2.2.2.2.2.2.1 c.2.2.2.2.2.2.2.2.2.2.2.2.2.2.2.2.2.2.2.2.2.2 u r h w u r (0 : Int) w).trans ?_
    rw [cond_dt (by omega), test_d (by omega), test_d (by omega), w64s (by omega), toNat_cast]
    refine (test_true (end_pre hc (u, r, h, w) (rdEl .bool l k))).trans ?_
    refine (cond_f (show bne (endM c (u, r, h, w) (rdEl .bool l k)) 0 = false by rw [em]; rfl)).trans ?_
    refine (cond_f hq).trans ?_
    refine (test_true (end_pre hc (u, r, (0 : Int), w) (rdEl .bool l k))).trans ?_
    show lForced.l1 (m + (n + 1)) h l (l.length : Int) ((k + 1 : Nat) : Int) c.1 c.2.1 c.2.2.1 c.2.2.2.1 c.2.2.2.2.1 c.2.2.2.2.2.1 c.2.2.2.2.2.2.1 c.2.2.2.2.2.2.2.1 c.2.2.2.2.2.2.2.2.1 c.2.2.2.2.2.2.2.2.2.1 c.2.2.2.2.2.2.2.2.2.2.1 c.2.2.2.2.2.2.2.2.2.2.2.1 c.2.2.2.2.2.2.2.2.2.2.2.2.1 c.2.2.2.2.2.2.2.2.2.2.2.2.2.1 c.2.2.2.2.2.2.2.2.2.2.2.2.2.2.1 c.2.2.2.2.2.2.2.2.2.2.2.2.2.2.2.1 c.2.2.2.2.2.2.2.2.2.2.2.2.2.2.2.2.1 c.2.2.2.2.2.2.2.2.2.2.2.2.2.2.2.2.2.1 c.2.2.2.2.2.2.2.2.2.2.2.2.2.2.2.2.2.2.1 c.2.2.2.2.2.2.2.2.2.2.2.2.2.2.2.2.2.2.2.1 c.2.2.2.2.2.2.2.2.2.2.2.2.2.2.2.2.2.2.2.2.1 c.2.2.2.2.2.2.2.2.2.2.2.2.2.2.2.2.2.2.2.2.2.1 c.2.2.2.2.2.2.2.2.2.2.2.2.2.2.2.2.2.2.2.2.2.2 (endQ c (u, r, h, w) (rdEl .bool l k)).1 (endQ c (u, r, h, w) (rdEl .bool l k)).2.1 (endQ c (u, r, h, w) (rdEl .bool l k)).2.2.1 (endQ c (u, r, h, w) (rdEl .bool l k)).2.2.2 (endQ c (u, r, (0 : Int), w) (rdEl .bool l k)).1 (endQ c (u, r, (0 : Int), w) (rdEl .bool l k)).2.1 (endQ c (u, r, (0 : Int), w) (rdEl .bool l k)).2.2.1 (endQ c (u, r, (0 : Int), w) (rdEl .bool l k)).2.2.2 = _
    rw [e1, e2]
    exact forced_loop hc hh l hl n (k + 1) u' r' 0 (by omega) m

theorem how_some (k : Int) : ∃ n : Int, IntKind.i64.wrap ((1 : Int) + (IntKind.i64.wrap (Int.tmod (IntKind.u64.wrap k) (2 : Int)))) = n ∧ (n = 1 ∨ n = 2) := by
  have hk : 0 ≤ IntKind.u64.wrap k := (wrap_within .u64 k).1
  rw [Int.tmod_eq_emod_of_nonneg hk]
  have h2 := Int.emod_nonneg (IntKind.u64.wrap k) (show (2 : Int) ≠ 0 by omega)
  have h3 := Int.emod_lt_of_pos (IntKind.u64.wrap k) (show (0 : Int) < 2 by omega)
  rw [w64 (n := IntKind.u64.wrap k % 2) (by omega) (by omega), w64 (by omega) (by omega)]
  exact ⟨_, rfl, by omega⟩

theorem lForced_R : lForced.Law := fun c l how hx => by
  have hc : fits TConfig c = true := (Bool.and_eq_true_iff.1 hx).1
  have hh : ∃ f, lForced.go f c l how = some (vb true, []) := by
    by_cases hl : (l.length : Int) > 100
    · exact ⟨1, by rw [lForced.start, cond_dt hl]; rfl⟩
    by_cases hm : mayC c = true
    · obtain ⟨h, he, hh⟩ := how_some how
      refine ⟨0 + (l.length + 1) + 1, ?_⟩
      rw [lForced.start, cond_df hl, test_true (show mayCR.pre (c, ()) = true from cfg_fit hc), hm, he, Bool.not_true, cond_false]
      have hq1 : (!(((forceM (true, (0 : Int), (0 : Int), (0 : Int)) h) == (2 : Int)) == (h == (1 : Int)))) = false := by rcases hh with rfl | rfl <;> rfl
      have hq2 : ((forceM (true, (0 : Int), (0 : Int), (0 : Int)) h) == (1 : Int)) = false := by rcases hh with rfl | rfl <;> rfl
      have hq3 : forceQ (true, (0 : Int), (0 : Int), (0 : Int)) h = (true, (0 : Int), h, (0 : Int)) := by rcases hh with rfl | rfl <;> rfl
      refine (cond_f hq1).trans ((cond_f hq2).trans ?_)
      show lForced.l1 (0 + (l.length + 1)) h l (l.length : Int) (0 : Int) c.1 c.2.1 c.2.2.1 c.2.2.2.1 c.2.2.2.2.1 c.2.2.2.2.2.1 c.2.2.2.2.2.2.1 c.2.2.2.2.2.2.2.1 c.2.2.2.2.2.2.2.2.1 c.2.2.2.2.2.2.2.2.2.1 c.2.2.2.2.2.2.2.2.2.2.1 c.2.2.2.2.2.2.2.2.2.2.2.1 c.2.2.2.2.2.2.2.2.2.2.2.2.1 c.2.2.2.2.2.2.2.2.2.2.2.2.2.1 c.2.2.2.2.2.2.2.2.2.2.2.2.2.2.1 c.2.2.2.2.2.2.2.2.2.2.2.2.2.2.2.1 c.2.2.2.2.2.2.2.2.2.2.2.2.2.2.2.2.1 c.2.2.2.2.2.2.2.2.2.2.2.2.2.2.2.2.2.1 c.2.2.2.2.2.2.2.2.2.2.2.2.2.2.2.2.2.2.1 c.2.2.2.2.2.2.2.2.2.2.2.2.2.2.2.2.2.2.2.1 c.2.2.2.2.2.2.2.2.2.2.2.2.2.2.2.2.2.2.2.2.1 c.2.2.2.2.2.2.2.2.2.2.2.2.2.2.2.2.2.2.2.2.2.1 c.2.2.2.2.2.2.2.2.2.2.2.2.2.2.2.2.2.2.2.2.2.2 (forceQ (true, (0 : Int), (0 : Int), (0 : Int)) h).1 (forceQ (true, (0 : Int), (0 : Int), (0 : Int)) h).2.1 (forceQ (true, (0 : Int), (0 : Int), (0 : Int)) h).2.2.1 (forceQ (true, (0 : Int), (0 : Int), (0 : Int)) h).2.2.2 true (0 : Int) (0 : Int) (0 : Int) = _
      rw [hq3]
      exact forced_loop hc hh l (by omega) l.length 0 true 0 0 (by omega) 0
    · have hm : mayC c = false := by simpa using hm
      exact ⟨1, by rw [lForced.start, cond_df hl, test_true (show mayCR.pre (c, ()) = true from cfg_fit hc), hm]; rfl⟩
  obtain ⟨f, hf⟩ := hh
  exact lForced.ret (awake_ok.cons' (mayCR_ok.cons' (newP_ok.cons' (endP_ok.cons' (well_ok.cons' (force_ok.cons' SpecsOK.nil)))))) c l how hf

theorem lForced_pre (c : El TConfig) (l : List Bool) (how : Int) (hx : wfs [(true, TConfig), (false, .sl .bool), (false, .int .i64)] (c, l, how, ())) : lForced.pre (c, l, how, ()) = true := by
  obtain ⟨h1, h2, _⟩ := hx
  show (fits TConfig c && (fits (.sl .bool) l && (true && true))) = true
  rw [fits_of_wf _ _ h1, fits_of_wf _ _ h2]
  rfl

/-! ### turns -/

theorem turn_end {c : El TConfig} (hm : mayC c = true) (u : Bool) {r : Int} (w : Int) (x : Bool) :
    (x = u ∧ endQ c (u, r, (0 : Int), w) x = (u, (0 : Int), (0 : Int), (0 : Int)) ∧ endM c (u, r, (0 : Int), w) x = 0) ∨
    (x = (!u) ∧ endQ c (u, r, (0 : Int), w) x = (x, (0 : Int), (0 : Int), (0 : Int)) ∧ endM c (u, r, (0 : Int), w) x = bif x then 1 else 2) ∨
    (∃ r' : Int, 0 ≤ r' ∧ r' < (ite (cFall c > cRise c) (cFall c) (cRise c)) ∧ endQ c (u, r, (0 : Int), w) x = (u, r', (0 : Int), (0 : Int)) ∧ endM c (u, r, (0 : Int), w) x = 0) := by
  by_cases h : x = u
  · obtain ⟨e1, e2⟩ := end_same (c := c) (p := (u, r, (0 : Int), w)) h
    exact .inl ⟨h, e1, e2⟩
  · have hx := bool_ne h
    by_cases hr : runI (u, r, (0 : Int), w) ≥ mostI c (u, r, (0 : Int), w)
    · obtain ⟨e1, e2⟩ := end_flip (c := c) (p := (u, r, (0 : Int), w)) hx hr
      refine .inr (.inl ⟨hx, ?_, ?_⟩)
      · rw [e1, hx]
      · rw [e2, hx]; cases u <;> rfl
    · obtain ⟨e1, e2⟩ := end_on (c := c) (p := (u, r, (0 : Int), w)) hx hr
      refine .inr (.inr ⟨runI (u, r, (0 : Int), w), run_pos _, ?_, e1, ?_⟩)
      · have hmo : mostI c (u, r, (0 : Int), w) = bif u then cFall c else cRise c := by
          unfold mostI; rw [held_may hm]
        rw [hmo] at hr
        cases u
        · have hr : ¬ runI (false, r, (0 : Int), w) ≥ cRise c := hr
          split <;> omega
        · have hr : ¬ runI (true, r, (0 : Int), w) ≥ cFall c := hr
          split <;> omega
      · rw [e2, moved_val]; exact if_pos rfl

theorem turn_loop {c : El TConfig} (hc : fits TConfig c = true) (hm : mayC c = true) (l : List Bool) (hl : l.length ≤ 200) :
    ∀ (n k : Nat) (u : Bool) (r w : Int), l.length = k + n → ∀ m, lTurns.l1 (m + (n + 1)) (bif u then 1 else 2) l (l.length : Int) (k : Int) c.1 c.2.1 c.2.2.1 c.2.2.2.1 c.2.2.2.2.1 c.2.2.2.2.2.1 c.2.2.2.2.2.2.1 c.2.2.2.2.2.2.2.1 c.2.2.2.2.2.2.2.2.1 c.2.2.2.2.2.2.2.2.2.1 c.2.2.2.2.2.2.2.2.2.2.1 c.2.2.2.2.2.2.2.2.2.2.2.1 c.2.2.2.2.2.2.2.2.2.2.2.2.1 c.2.2.2.2.2.2.2.2.2.2.2.2.2.1 c.2.2.2.2.2.2.2.2.2.2.2.2.2.2.1 c.2.2.2.2.2.2.2.2.2.2.2.2.2.2.2.1 c.2.2.2.2.2.2.2.2.2.2.2.2.2.2.2.2.1 c.2.2.2.2.2.2.2.2.2.2.2.2.2.2.2.2.2.1 c.2.2.2.2.2.2.2.2.2.2.2.2.2.2.2.2.2.2.1 c.2.2.2.2.2.2.2.2.2.2.2.2.2.2.2.2.2.2.2.1 c.2.2.2.2.2.2.2.2.2.2.2.2.2.2.2.2.2.2.2.2.1 c.2.2.2.2.2.2.2.2.2.2.2.2.2.2.2.2.2.2.2.2.2.1 c.2.2.2.2.2.2.2.2.2.2.2.2.2.2.2.2.2.2.2.2.2.2 u r (0 : Int) w = some (vb true, [])
  | 0, k, u, r, w, hk, m => by
    refine (lTurns.s1 m (bif u then 1 else 2) l (l.length : Int) (k : Int) c.1 c.2.1 c.2.2.1 c.2.2.2.1 c.2.2.2.2.1 c.2.2.2.2.2.1 c.2.2.2.2.2.2.1 c.2.2.2.2.2.2.2.1 c.2.2.2.2.2.2.2.2.1 c.2.2.2.2.2.2.2.2.2.1 c.2.2.2.2.2.2.2.2.2.2.1 c.2.2.2.2.2.2.2.2.2.2.2.1 c.2.2.2.2.2.2.2.2.2.2.2.2.1 c.2.2.2.2.2.2.2.2.2.2.2.2.2.1 c.2.2.2.2.2.2.2.2.2.2.2.2.2.2.1 c.2.2.2.2.2.2.2.2.2.2.2.2.2.2.2.1 c.2.2.2.2.2.2.2.2.2.2.2.2.2.2.2.2.1 c.2.2.2.2.2.2.2.2.2.2.2.2.2.2.2.2.2.1 c.2.2.2.2.2.2.2.2.2.2.2.2.2.2.2.2.2.2.1 c.2.2.2.2.2.2.2.2.2.2.2.2.2.2.2.2.2.2.2.1 c.2.2.2.2.2.2.2.2.2.2.2.2.2.2.2.2.2.2.2.2.1 c.2.2.2.2.2.2.2.2.2.2.2.2.2.2.2.2.2.2.2.2.2.1 c.2.2.2.2.2.2.2.2.2.2.2.2.2.2.2.2.2.2.2.2.2.2 u r (0 : Int) w).trans ?_
    rw [cond_df (by omega)]
    rfl
  | n + 1, k, u, r, w, hk, m => by
    obtain ⟨_, _, ⟨r0, r1⟩, ⟨f0, f1⟩⟩ := may_bounds hm
    have hmax : (0 : Int) < (ite (cFall c > cRise c) (cFall c) (cRise c)) := by split <;> omega
    have hlast : ((bif u then (1 : Int) else 2) == (1 : Int)) = u := by cases u <;> rfl
    refine (lTurns.s1 (m + (n + 1)) (bif u then 1 else 2) l (l.length : Int) (k : Int) c.1 c.2.1 c.2.2.1 c.2.2.2.1 c.2.2.2.2.1 c.2.2.2.2.2.1 c.2.2.2.2.2.2.1 c.2.2.2.2.2.2.2.1 c.2.2.2.2.2.2.2.2.1 c.2.2.2.2.2.2.2.2.2.1 c.2.2.2.2.2.2.2.2.2.2.1 c.2.2.2.2.2.2.2.2.2.2.2.1 c.2.2.2.2.2.2.2.2.2.2.2.2.1 c.2.2.2.2.2.2.2.2.2.2.2.2.2.1 c.2.2.2.2.2.2.2.2.2.2.2.2.2.2.1 c.2.2.2.2.2.2.2.2.2.2.2.2.2.2.2.1 c.2.2.2.2.2.2.2.2.2.2.2.2.2.2.2.2.1 c.2.2.2.2.2.2.2.2.2.2.2.2.2.2.2.2.2.1 c.2.2.2.2.2.2.2.2.2.2.2.2.2.2.2.2.2.2.1 c.2.2.2.2.2.2.2.2.2.2.2.2.2.2.2.2.2.2.2.1 c.2.2.2.2.2.2.2.2.2.2.2.2.2.2.2.2.2.2.2.2.1 c.2.2.2.2.2.2.2.2.2.2.2.2.2.2.2.2.2.2.2.2.2.1 c.2.2.2.2.2.2.2.2.2.2.2.2.2.2.2.2.2.2.2.2.2.2 u r (0 : Int) w).trans ?_
    rw [cond_dt (by omega), test_d (by omega), test_d (by omega), w64s (by omega), toNat_cast]
    refine (test_true (end_pre hc (u, r, (0 : Int), w) (rdEl .bool l k))).trans ?_
    rcases turn_end hm u (r := r) w (rdEl .bool l k) with ⟨hx, e1, e2⟩ | ⟨hx, e1, e2⟩ | ⟨r', g0, g1, e1, e2⟩
    · refine (cond_f (show bne (endM c (u, r, (0 : Int), w) (rdEl .bool l k)) 0 = false by rw [e2]; rfl)).trans ?_
      refine (cond_f (show (!((wellB (endQ c (u, r, (0 : Int), w) (rdEl .bool l k))) == ((bif u then (1 : Int) else 2) == (1 : Int)))) = false by rw [e1, hlast]; cases u <;> rfl)).trans ?_
      refine (cond_df (show ¬ (endQ c (u, r, (0 : Int), w) (rdEl .bool l k)).2.1 < (0 : Int) by rw [e1]; exact Int.not_lt.2 (Int.le_refl 0))).trans ?_
      refine (cond_df (show ¬ (endQ c (u, r, (0 : Int), w) (rdEl .bool l k)).2.1 ≥ (ite (cFall c > cRise c) (cFall c) (cRise c)) by rw [e1]; exact Int.not_le.2 hmax)).trans ?_
      refine (cond_f (show bne (endQ c (u, r, (0 : Int), w) (rdEl .bool l k)).2.2.2 (0 : Int) = false by rw [e1]; rfl)).trans ?_
      show lTurns.l1 (m + (n + 1)) (bif u then 1 else 2) l (l.length : Int) ((k + 1 : Nat) : Int) c.1 c.2.1 c.2.2.1 c.2.2.2.1 c.2.2.2.2.1 c.2.2.2.2.2.1 c.2.2.2.2.2.2.1 c.2.2.2.2.2.2.2.1 c.2.2.2.2.2.2.2.2.1 c.2.2.2.2.2.2.2.2.2.1 c.2.2.2.2.2.2.2.2.2.2.1 c.2.2.2.2.2.2.2.2.2.2.2.1 c.2.2.2.2.2.2.2.2.2.2.2.2.1 c.2.2.2.2.2.2.2.2.2.2.2.2.2.1 c.2.2.2.2.2.2.2.2.2.2.2.2.2.2.1 c.2.2.2.2.2.2.2.2.2.2.2.2.2.2.2.1 c.2.2.2.2.2.2.2.2.2.2.2.2.2.2.2.2.1 c.2.2.2.2.2.2.2.2.2.2.2.2.2.2.2.2.2.1 c.2.2.2.2.2.2.2.2.2.2.2.2.2.2.2.2.2.2.1 c.2.2.2.2.2.2.2.2.2.2.2.2.2.2.2.2.2.2.2.1 c.2.2.2.2.2.2.2.2.2.2.2.2.2.2.2.2.2.2.2.2.1 c.2.2.2.2.2.2.2.2.2.2.2.2.2.2.2.2.2.2.2.2.2.1 c.2.2.2.2.2.2.2.2.2.2.2.2.2.2.2.2.2.2.2.2.2.2 (endQ c (u, r, (0 : Int), w) (rdEl .bool l k)).1 (endQ c (u, r, (0 : Int), w) (rdEl .bool l k)).2.1 (endQ c (u, r, (0 : Int), w) (rdEl .bool l k)).2.2.1 (endQ c (u, r, (0 : Int), w) (rdEl .bool l k)).2.2.2 = _
      rw [e1]
      exact turn_loop hc hm l hl n (k + 1) u 0 0 (by omega) m
    · generalize rdEl .bool l k = x at *
      have hxe : ((bif x then (1 : Int) else 2) == (1 : Int)) = x := by cases x <;> rfl
      refine (cond_t (show bne (endM c (u, r, (0 : Int), w) x) 0 = true by rw [e2]; cases x <;> rfl)).trans ?_
      refine (cond_f (show (endM c (u, r, (0 : Int), w) x == (bif u then (1 : Int) else 2)) = false by rw [e2, hx]; cases u <;> rfl)).trans ?_
      refine (cond_f (show (!((endM c (u, r, (0 : Int), w) x == (1 : Int)) == x)) = false by rw [e2, hxe]; simp)).trans ?_
      refine (cond_f (show (!((wellB (endQ c (u, r, (0 : Int), w) x)) == (endM c (u, r, (0 : Int), w) x == (1 : Int)))) = false by rw [e1, e2, hxe]; cases x <;> rfl)).trans ?_
      refine (cond_df (show ¬ (endQ c (u, r, (0 : Int), w) x).2.1 < (0 : Int) by rw [e1]; exact Int.not_lt.2 (Int.le_refl 0))).trans ?_
      refine (cond_df (show ¬ (endQ c (u, r, (0 : Int), w) x).2.1 ≥ (ite (cFall c > cRise c) (cFall c) (cRise c)) by rw [e1]; exact Int.not_le.2 hmax)).trans ?_
      refine (cond_f (show bne (endQ c (u, r, (0 : Int), w) x).2.2.2 (0 : Int) = false by rw [e1]; rfl)).trans ?_
      show lTurns.l1 (m + (n + 1)) (endM c (u, r, (0 : Int), w) x) l (l.length : Int) ((k + 1 : Nat) : Int) c.1 c.2.1 c.2.2.1 c.2.2.2.1 c.2.2.2.2.1 c.2.2.2.2.2.1 c.2.2.2.2.2.2.1 c.2.2.2.2.2.2.2.1 c.2.2.2.2.2.2.2.2.1 c.2.2.2.2.2.2.2.2.2.1 c.2.2.2.2.2.2.2.2.2.2.1 c.2.2.2.2.2.2.2.2.2.2.2.1 c.2.2.2.2.2.2.2.2.2.2.2.2.1 c.2.2.2.2.2.2.2.2.2.2.2.2.2.1 c.2.2.2.2.2.2.2.2.2.2.2.2.2.2.1 c.2.2.2.2.2.2.2.2.2.2.2.2.2.2.2.1 c.2.2.2.2.2.2.2.2.2.2.2.2.2.2.2.2.1 c.2.2.2.2.2.2.2.2.2.2.2.2.2.2.2.2.2.1 c.2.2.2.2.2.2.2.2.2.2.2.2.2.2.2.2.2.2.1 c.2.2.2.2.2.2.2.2.2.2.2.2.2.2.2.2.2.2.2.1 c.2.2.2.2.2.2.2.2.2.2.2.2.2.2.2.2.2.2.2.2.1 c.2.2.2.2.2.2.2.2.2.2.2.2.2.2.2.2.2.2.2.2.2.1 c.2.2.2.2.2.2.2.2.2.2.2.2.2.2.2.2.2.2.2.2.2.2 (endQ c (u, r, (0 : Int), w) x).1 (endQ c (u, r, (0 : Int), w) x).2.1 (endQ c (u, r, (0 : Int), w) x).2.2.1 (endQ c (u, r, (0 : Int), w) x).2.2.2 = _
      rw [e1, e2]
      exact turn_loop hc hm l hl n (k + 1) x 0 0 (by omega) m
    · refine (cond_f (show bne (endM c (u, r, (0 : Int), w) (rdEl .bool l k)) 0 = false by rw [e2]; rfl)).trans ?_
      refine (cond_f (show (!((wellB (endQ c (u, r, (0 : Int), w) (rdEl .bool l k))) == ((bif u then (1 : Int) else 2) == (1 : Int)))) = false by rw [e1, hlast]; cases u <;> rfl)).trans ?_
      refine (cond_df (show ¬ (endQ c (u, r, (0 : Int), w) (rdEl .bool l k)).2.1 < (0 : Int) by rw [e1]; exact Int.not_lt.2 g0)).trans ?_
      refine (cond_df (show ¬ (endQ c (u, r, (0 : Int), w) (rdEl .bool l k)).2.1 ≥ (ite (cFall c > cRise c) (cFall c) (cRise c)) by rw [e1]; exact Int.not_le.2 g1)).trans ?_
      refine (cond_f (show bne (endQ c (u, r, (0 : Int), w) (rdEl .bool l k)).2.2.2 (0 : Int) = false by rw [e1]; rfl)).trans ?_
      show lTurns.l1 (m + (n + 1)) (bif u then 1 else 2) l (l.length : Int) ((k + 1 : Nat) : Int) c.1 c.2.1 c.2.2.1 c.2.2.2.1 c.2.2.2.2.1 c.2.2.2.2.2.1 c.2.2.2.2.2.2.1 c.2.2.2.2.2.2.2.1 c.2.2.2.2.2.2.2.2.1 c.2.2.2.2.2.2.2.2.2.1 c.2.2.2.2.2.2.2.2.2.2.1 c.2.2.2.2.2.2.2.2.2.2.2.1 c.2.2.2.2.2.2.2.2.2.2.2.2.1 c.2.2.2.2.2.2.2.2.2.2.2.2.2.1 c.2.2.2.2.2.2.2.2.2.2.2.2.2.2.1 c.2.2.2.2.2.2.2.2.2.2.2.2.2.2.2.1 c.2.2.2.2.2.2.2.2.2.2.2.2.2.2.2.2.1 c.2.2.2.2.2.2.2.2.2.2.2.2.2.2.2.2.2.1 c.2.2.2.2.2.2.2.2.2.2.2.2.2.2.2.2.2.2.1 c.2.2.2.2.2.2.2.2.2.2.2.2.2.2.2.2.2.2.2.1 c.2.2.2.2.2.2.2.2.2.2.2.2.2.2.2.2.2.2.2.2.1 c.2.2.2.2.2.2.2.2.2.2.2.2.2.2.2.2.2.2.2.2.2.1 c.2.2.2.2.2.2.2.2.2.2.2.2.2.2.2.2.2.2.2.2.2.2 (endQ c (u, r, (0 : Int), w) (rdEl .bool l k)).1 (endQ c (u, r, (0 : Int), w) (rdEl .bool l k)).2.1 (endQ c (u, r, (0 : Int), w) (rdEl .bool l k)).2.2.1 (endQ c (u, r, (0 : Int), w) (rdEl .bool l k)).2.2.2 = _
      rw [e1]
      exact turn_loop hc hm l hl n (k + 1) u r' 0 (by omega) m

theorem lTurns_R : lTurns.Law := fun c l hx => by
  have hc : fits TConfig c = true := (Bool.and_eq_true_iff.1 hx).1
  have hh : ∃ f, lTurns.go f c l = some (vb true, []) := by
    by_cases hm : mayC c = true
    · by_cases hl : (l.length : Int) > 200
      · exact ⟨1, by rw [lTurns.start, test_true (show mayCR.pre (c, ()) = true from cfg_fit hc), hm, cond_dt hl]; rfl⟩
      refine ⟨0 + (l.length + 1) + 1, ?_⟩
      rw [lTurns.start, test_true (show mayCR.pre (c, ()) = true from cfg_fit hc), hm, cond_df hl]
      exact turn_loop hc hm l (by omega) l.length 0 true 0 0 (by omega) 0
    · have hm : mayC c = false := by simpa using hm
      exact ⟨1, by rw [lTurns.start, test_true (show mayCR.pre (c, ()) = true from cfg_fit hc), hm]; rfl⟩
  obtain ⟨f, hf⟩ := hh
  exact lTurns.ret (awake_ok.cons' (mayCR_ok.cons' (newP_ok.cons' (endP_ok.cons' (well_ok.cons' SpecsOK.nil))))) c l hf

theorem lTurns_pre (c : El TConfig) (l : List Bool) (hx : wfs [(true, TConfig), (false, .sl .bool)] (c, l, ())) : lTurns.pre (c, l, ()) = true := by
  obtain ⟨h1, h2, _⟩ := hx
  show (fits TConfig c && (fits (.sl .bool) l && true)) = true
  rw [fits_of_wf _ _ h1, fits_of_wf _ _ h2]
  rfl

end Go.Proofs.YtdigifchnecnkaaDoor
