/-
  Tables: in whatever order hosts are put in.
-/
import Derived.Test.YtlbdljebmjajdaaBM
namespace Go.Proofs.Ytlbdljebmjajdaa
open Go VE

/-- Where the other row takes its host. -/
def turnIx (n k i : Nat) : Nat := if i + k < n then i + k else i + k - n

theorem turn_mod {n k i : Nat} (hk : k ≤ n) (hi : i < n) : (i + k) % n = turnIx n k i := by
  unfold turnIx
  split
  · exact Nat.mod_eq_of_lt ‹_›
  · rw [Nat.mod_eq_sub_mod (by omega)]
    exact Nat.mod_eq_of_lt (by omega)
theorem turn_lt {n k i : Nat} (hk : k ≤ n) (hi : i < n) : turnIx n k i < n := by unfold turnIx; split <;> omega
theorem turn_inj {n k i j : Nat} (hk : k ≤ n) (hi : i < n) (hj : j < n) (h : turnIx n k i = turnIx n k j) : i = j := by unfold turnIx at h; split at h <;> split at h <;> omega
theorem turn_onto {n k i : Nat} (hk : k ≤ n) (hi : i < n) : ∃ j, j < n ∧ turnIx n k j = i := by
  by_cases h : k ≤ i
  · exact ⟨i - k, by omega, by unfold turnIx; split <;> omega⟩
  · exact ⟨i + n - k, by omega, by unfold turnIx; split <;> omega⟩

/-- A row into which as many have been put, by an order of places. -/
structure PInv (l : List (El THost)) (g : Nat → Nat) (a : List (El THost)) (i : Nat) : Prop where
  may : mayTB a = true
  len : a.length = i
  mem : ∀ x, x ∈ a ↔ ∃ j, j < i ∧ x = rdEl THost l (g j)

theorem PInv.next {l : List (El THost)} {g : Nat → Nat} {a : List (El THost)} {i : Nat} (H : PInv l g a i) (h20 : l.length ≤ 20) (hi : i < l.length) (hg : ∀ j, j < l.length → g j < l.length) (hinj : ∀ i j, i < l.length → j < l.length → g i = g j → i = j)
    (hm : ∀ k, k < l.length → mayB (rdEl THost l k) = true) (hd : ∀ i j, i < l.length → j < l.length → (rdEl THost l i).1 = (rdEl THost l j).1 → i = j) :
    addE a (rdEl THost l (g i)) = 0 ∧ PInv l g (addL a (rdEl THost l (g i))) (i + 1) := by
  have hlen := H.len
  have hno : a.any (idH (rdEl THost l (g i)).1) = false := List.any_eq_false.2 fun x hx hp => by
    obtain ⟨j, hj, rfl⟩ := (H.mem x).1 hx
    have hp : (rdEl THost l (g j)).1 = (rdEl THost l (g i)).1 := by simpa [idH] using hp
    have h1 := hd _ _ (hg j (by omega)) (hg i hi) hp
    have h2 := hinj j i (by omega) hi h1
    omega
  have he := addE_of H.may (hm _ (hg i hi)) hno (by omega)
  refine ⟨he, add_may he, by rw [add_len he, hlen], fun x => ?_⟩
  rw [add_mem he, H.mem]
  constructor
  · rintro (h | ⟨j, hj, h⟩)
    · exact ⟨i, by omega, h⟩
    · exact ⟨j, by omega, h⟩
  · rintro ⟨j, hj, h⟩
    by_cases hji : j = i
    · subst hji; exact .inl h
    · exact .inr ⟨j, by omega, h⟩

theorem PInv.fits {l : List (El THost)} {g : Nat → Nat} {a : List (El THost)} {i : Nat} (H : PInv l g a i) (h20 : l.length ≤ 20) (hi : i ≤ l.length) (hg : ∀ j, j < l.length → g j < l.length) (hl : VE.fits (.sl THost) l = true) : VE.fits (.sl THost) a = true :=
  fits_hosts (by rw [H.len]; omega) fun x hx => by
    obtain ⟨j, hj, rfl⟩ := (H.mem x).1 hx
    exact fits_rd hl (hg j (by omega))

theorem order_put (l : List (El THost)) (h20 : l.length ≤ 20) (hl : fits (.sl THost) l = true) (k : Nat) (hk : k ≤ l.length)
    (hm : ∀ k, k < l.length → mayB (rdEl THost l k) = true) (hd : ∀ i j, i < l.length → j < l.length → (rdEl THost l i).1 = (rdEl THost l j).1 → i = j) :
    ∀ (d i : Nat) (a b : List (El THost)), l.length = i + d → PInv l (fun i => i) a i → PInv l (turnIx l.length k) b i → lOrder.l2 (d + 1) l k a b l.length i = some (vb true, [])
  | 0, i, a, b, hi, ha, hb => by
    have hil : i = l.length := by omega
    subst hil
    have hab : a = b := asc_ext (fun h : El THost => h.1) ((may_iff a).1 ha.may).2.1 ((may_iff b).1 hb.may).2.1 fun x => by
      rw [ha.mem, hb.mem]
      constructor
      · rintro ⟨j, hj, h⟩
        obtain ⟨q, hq, hqj⟩ := turn_onto hk hj
        exact ⟨q, hq, by rw [hqj]; exact h⟩
      · rintro ⟨j, hj, h⟩
        exact ⟨turnIx l.length k j, turn_lt hk hj, h⟩
    subst hab
    have hf := ha.fits h20 (Nat.le_refl _) (fun j hj => hj) hl
    rw [lOrder.s2, cond_df (by omega), test_true (show sameHR.pre (a, a, ()) = true by
      show (VE.fits (.sl THost) a && (VE.fits (.sl THost) a && true)) = true
      rw [hf]; rfl), sameHB_refl, cond_true, test_true (show mayT.pre (a, ()) = true by
      show (VE.fits (.sl THost) a && true) = true
      rw [hf]; rfl), ha.may, cond_true, ha.len, cond_et rfl]
    rfl
  | d + 1, i, a, b, hi, ha, hb => by
    have hlt : i < l.length := by omega
    obtain ⟨a1, a2⟩ := ha.next h20 hlt (fun j hj => hj) (fun i j _ _ h => h) hm hd
    obtain ⟨b1, b2⟩ := hb.next h20 hlt (fun j hj => turn_lt hk hj) (fun i j hi hj h => turn_inj hk hi hj h) hm hd
    have fa := ha.fits h20 (by omega) (fun j hj => hj) hl
    have fb := hb.fits h20 (by omega) (fun j hj => turn_lt hk hj) hl
    have ih := order_put l h20 hl k hk hm hd d (i + 1) _ _ (by omega) a2 b2
    have hix : Int.tmod (IntKind.i64.wrap ((i : Int) + (k : Int))) (l.length : Int) = ((turnIx l.length k i : Nat) : Int) := by
      rw [w64 (by omega) (by omega), ← turn_mod hk hlt, Int.tmod_eq_emod_of_nonneg (by omega)]
      norm_cast
    have ht := turn_lt hk hlt
    have e1 : bne (addE a (rdEl THost l i)) 0 = false := by rw [a1]; rfl
    have e2 : bne (addE b (rdEl THost l (turnIx l.length k i))) 0 = false := by rw [b1]; rfl
    have p1 : add.pre (a, rdEl THost l i, ()) = true := by
      show (VE.fits (.sl THost) a && (VE.fits THost (rdEl THost l i) && true)) = true
      rw [fa, fits_rd hl hlt]; rfl
    have p2 : add.pre (b, rdEl THost l (turnIx l.length k i), ()) = true := by
      show (VE.fits (.sl THost) b && (VE.fits THost (rdEl THost l (turnIx l.length k i)) && true)) = true
      rw [fb, fits_rd hl ht]; rfl
    rw [lOrder.s2, cond_dt (by omega), test_d (by omega), test_d (by omega), hix, toNat_cast, toNat_cast, w64s (by omega), test_true p1, e1, cond_false, test_true (by rw [dec_f (by omega)]; rfl), test_d (by omega), test_d (by omega), test_true p2, e2, cond_false]
    exact ih

theorem order_ask (l : List (El THost)) (h20 : l.length ≤ 20) (hl : fits (.sl THost) l = true) (t : Int) : ∀ (d i : Nat), l.length = i + d → (∀ k, k < i → mayB (rdEl THost l k) = true) → (∀ p q, p < i → q < i → (rdEl THost l p).1 = (rdEl THost l q).1 → p = q) → ∃ f, lOrder.l1 f l t l l.length i = some (vb true, [])
  | 0, i, hi, hm, hd => by
    have hil : i = l.length := by omega
    subst hil
    have hw : IntKind.u64.wrap (IntKind.i64.wrap ((l.length : Int) + 1)) = ((l.length + 1 : Nat) : Int) := by
      rw [w64s (by omega)]
      simp [IntKind.wrap, IntKind.bits, IntKind.signed]; omega
    have ht : 0 ≤ IntKind.u64.wrap t := (wrap_within .u64 t).1
    obtain ⟨k, hk, hk2⟩ : ∃ k : Nat, IntKind.i64.wrap (Int.tmod (IntKind.u64.wrap t) ((l.length + 1 : Nat) : Int)) = (k : Int) ∧ k ≤ l.length := by
      rw [Int.tmod_eq_emod_of_nonneg ht]
      have h2 := Int.emod_nonneg (IntKind.u64.wrap t) (show ((l.length + 1 : Nat) : Int) ≠ 0 by omega)
      have h3 := Int.emod_lt_of_pos (IntKind.u64.wrap t) (show (0 : Int) < ((l.length + 1 : Nat) : Int) by omega)
      rw [w64 (by omega) (by omega)]
      exact ⟨(IntKind.u64.wrap t % ((l.length + 1 : Nat) : Int)).toNat, by omega, by omega⟩
    refine ⟨l.length + 2, ?_⟩
    rw [lOrder.s1, cond_df (by omega), hw, test_true (by rw [dec_f (by omega)]; rfl), hk]
    exact order_put l h20 hl k hk2 hm hd l.length 0 [] [] (by omega) ⟨rfl, rfl, fun x => ⟨fun h => (by cases h), fun ⟨j, hj, _⟩ => absurd hj (Nat.not_lt_zero _)⟩⟩ ⟨rfl, rfl, fun x => ⟨fun h => (by cases h), fun ⟨j, hj, _⟩ => absurd hj (Nat.not_lt_zero _)⟩⟩
  | d + 1, i, hi, hm, hd => by
    have hlt : i < l.length := by omega
    have e0 : List.drop 0 (List.take i l) = l.take i := rfl
    have ft : fits (.sl THost) (l.take i) = true := fits_hosts (by rw [List.length_take]; omega) fun x hx => fits_mem (t := THost) hl (List.mem_of_mem_take hx)
    cases hmi : mayB (rdEl THost l i) with
    | false =>
      refine ⟨1, ?_⟩
      rw [lOrder.s1, cond_dt (by omega), test_d (by omega), test_d (by omega), toNat_cast, test_true (show mayR.pre (rdEl THost l i, ()) = true by
        show (VE.fits THost (rdEl THost l i) && true) = true
        rw [fits_rd hl hlt]; rfl), hmi]
      rfl
    | true =>
      have pf : findR.pre (l.take i, (rdEl THost l i).1, ()) = true := by
        show (VE.fits (.sl THost) (l.take i) && (true && true)) = true
        rw [ft]; rfl
      cases hat : (l.take i).any (idH (rdEl THost l i).1) with
      | true =>
        refine ⟨1, ?_⟩
        rw [lOrder.s1, cond_dt (by omega), test_d (by omega), test_d (by omega), toNat_cast, test_true (show mayR.pre (rdEl THost l i, ()) = true by
          show (VE.fits THost (rdEl THost l i) && true) = true
          rw [fits_rd hl hlt]; rfl), hmi, Bool.not_true, cond_false, test_d (by omega), test_d (by omega), e0, test_true pf, any_ge, hat]
        rfl
      | false =>
        have hno : ∀ p, p < i → (rdEl THost l p).1 ≠ (rdEl THost l i).1 := fun p hp he => by
          have hmem : rdEl THost l p ∈ l.take i := by
            have e : rdEl THost l p = (l.take i)[p]'(by rw [List.length_take]; omega) := by simp [rdEl, List.getD, show p < l.length by omega]
            rw [e]; exact List.getElem_mem _
          have := List.any_eq_false.1 hat _ hmem
          exact this (by simp [idH, he])
        obtain ⟨f, hf⟩ := order_ask l h20 hl t d (i + 1) (by omega) (fun k hk => by
          by_cases hki : k = i
          · rw [hki]; exact hmi
          · exact hm k (by omega)) (fun p q hp hq he => by
          by_cases h1 : p = i
          · by_cases h2 : q = i
            · omega
            · exact absurd (by rw [h1] at he; exact he.symm) (hno q (by omega))
          · by_cases h2 : q = i
            · exact absurd (by rw [h2] at he; exact he) (hno p (by omega))
            · exact hd p q (by omega) (by omega) he)
        refine ⟨f + 1, ?_⟩
        rw [lOrder.s1, cond_dt (by omega), test_d (by omega), test_d (by omega), toNat_cast, test_true (show mayR.pre (rdEl THost l i, ()) = true by
          show (VE.fits THost (rdEl THost l i) && true) = true
          rw [fits_rd hl hlt]; rfl), hmi, Bool.not_true, cond_false, test_d (by omega), test_d (by omega), e0, test_true pf, any_ge, hat, cond_false, w64s (by omega)]
        exact hf

theorem lOrder_R : lOrder.Law := fun l t hx => by
  have hf : (fits (.sl THost) l && (true && true)) = true := hx
  simp only [Bool.and_eq_true] at hf
  have a1 : (fits (.sl THost) l && true) = true := by rw [hf.1]; rfl
  have hh : ∃ f, lOrder.go f l t = some (vb true, []) := by
    by_cases hc : lightTI l > 0
    · exact ⟨1, by rw [lOrder.start, test_true (show lightT.pre (l, ()) = true from a1), cond_dt hc]; rfl⟩
    by_cases h20 : (l.length : Int) > 20
    · exact ⟨1, by rw [lOrder.start, test_true (show lightT.pre (l, ()) = true from a1), cond_df hc, cond_dt h20]; rfl⟩
    obtain ⟨f, hf⟩ := order_ask l (by omega) hf.1 t l.length 0 (by omega) (fun k hk => absurd hk (Nat.not_lt_zero _)) (fun p q hp => absurd hp (Nat.not_lt_zero _))
    exact ⟨f + 1, by rw [lOrder.start, test_true (show lightT.pre (l, ()) = true from a1), cond_df hc, cond_df h20]; exact hf⟩
  obtain ⟨f, hf⟩ := hh
  exact lOrder.ret (lightT_ok.cons' (light_ok.cons' (awake_ok.cons' (mayR_ok.cons' (findR_ok.cons' (sameHR_ok.cons' (mayT_ok.cons' SpecsOK.nil))))))) (add_ok.cons' .nil) l t hf

end Go.Proofs.Ytlbdljebmjajdaa
