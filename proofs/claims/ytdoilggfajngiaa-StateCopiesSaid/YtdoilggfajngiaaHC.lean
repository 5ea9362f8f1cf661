/-
  Hosts: each function's contract, continued.
-/
import Derived.Test.YtdoilggfajngiaaHB
namespace Go.Proofs.Ytdoilggfajngiaa
open Go VE

theorem dlt (a b : Int) : decide (a < b) = !decide (b ≤ a) := by
  by_cases h : a < b
  · rw [dec_t h, dec_f (by omega)]; rfl
  · rw [dec_f h, dec_t (by omega)]; rfl
theorem dgt (a b : Int) : decide (a > b) = !decide (a ≤ b) := by
  by_cases h : a > b
  · rw [dec_t h, dec_f (by omega)]; rfl
  · rw [dec_f h, dec_t (by omega)]; rfl

theorem mayR_ok : mayR.OK := mayR.mk (wordR_ok.cons' (maySubR_ok.cons' SpecsOK.nil)) fun h hx => by
  have hh : fits THost h = true := by simpa [mayR.pre] using hx
  obtain ⟨id, addr, prio, zone, weight, meta_⟩ := h
  obtain ⟨_, hh⟩ := fits_prod hh
  obtain ⟨g1, hh⟩ := fits_prod hh
  obtain ⟨_, hh⟩ := fits_prod hh
  obtain ⟨g2, hh⟩ := fits_prod hh
  obtain ⟨_, g3⟩ := fits_prod hh
  have hb : List.length meta_ * 32 ≤ reachBytes := fits_len' (n := 32) g3 rfl
  have hr := reach_lt
  simp only at g1 g2 g3
  have a1 : wordR.pre (addr, ()) = true := by simpa [wordR.pre] using g1
  have a2 : wordR.pre (zone, ()) = true := by simpa [wordR.pre] using g2
  have a3 : maySubR.pre (meta_, ()) = true := by simpa [maySubR.pre] using g3
  refine ⟨meta_.length + 2, ?_⟩
  have hl := rises_loop meta_ (by omega) (fun m k => mayR.l1 m k id addr prio zone weight meta_) (some (vb true, [])) (fun m k hk => ?_) (fun m k hk => ?_) meta_.length 0 (by omega)
  · have hl : mayR.l1 (meta_.length + 1) 1 id addr prio zone weight meta_ = cond (risesP meta_) (some (vb true, [])) (some (vb false, [])) := hl
    rw [mayR.start, hl, test_true a1, test_true a2, test_true a3]
    show _ = some (vb (mayB _), _)
    rw [mayB_eq]
    unfold mayRest
    simp only [dlt, dgt]
    cases risesP meta_ <;> cases decide (1 ≤ id) <;> cases decide (id ≤ 1000000) <;> cases wordB addr <;> cases (zone.toList == (⟨#[]⟩ : ByteArray).toList) <;> cases wordB zone <;> cases decide (0 ≤ prio) <;> cases decide (prio ≤ 3) <;> first | rfl | (cases decide (1 ≤ weight) <;> cases decide (weight ≤ 20) <;> first | rfl | (cases maySubB meta_ <;> rfl))
  · rw [mayR.s1, cond_dt (by omega), pred_w (by omega), succ_w (by omega), toNat_s, toNat_cast, test_d (by omega), test_d (by omega), test_d (by omega), test_d (by omega), less_total]; rfl
  · rw [mayR.s1, cond_df (by omega)]; rfl

/-! ### the same? -/

theorem same_loop (l m : List (El TPair)) (hlm : m.length = l.length) (L : Nat → Int → R)
    (hs : ∀ (f k : Nat), k < l.length → L (f + 1) (k : Int) = cond (!pairEq (rdEl TPair l k) (rdEl TPair m k)) (some (vb false, [])) (L f ((k + 1 : Nat) : Int)))
    (he : ∀ (f : Nat), L (f + 1) (l.length : Int) = some (vb true, [])) : ∀ (n k : Nat), l.length = k + n → L (n + 1) (k : Int) = some (vb (samePs (l.drop k) (m.drop k)), [])
  | 0, k, h => by
    have : k = l.length := by omega
    subst this
    rw [he, List.drop_length, List.drop_eq_nil_of_le (by omega)]; rfl
  | n + 1, k, h => by
    rw [hs _ _ (by omega), same_loop l m hlm L hs he n (k + 1) (by omega), rdEl_drop l (by omega : k < l.length), rdEl_drop m (by omega : k < m.length), samePs]
    cases pairEq (rdEl TPair l k) (rdEl TPair m k) <;> rfl

theorem samePs_len : ∀ (l m : List (El TPair)), l.length ≠ m.length → samePs l m = false
  | [], [], h => absurd rfl h
  | [], _ :: _, _ => rfl
  | _ :: _, [], _ => rfl
  | a :: l, b :: m, h => by
    rw [samePs, samePs_len l m (by simpa using h)]
    cases pairEq a b <;> rfl

theorem cond_nt {α : Type} {a b : Int} {x y : α} (h : a ≠ b) : cond (bne a b) x y = x := cond_t (by simpa using h)
theorem cond_nf {α : Type} {a b : Int} {x y : α} (h : a = b) : cond (bne a b) x y = y := cond_f (by simpa using h)

theorem eqP_ok : eqP.OK := eqP.mk SpecsOK.nil fun l m hx => by
  have hh : fits (.sl TPair) l = true ∧ fits (.sl TPair) m = true := by simpa [eqP.pre] using hx
  have hb := fits_len' (n := 32) hh.1 rfl
  have hr := reach_lt
  refine ⟨l.length + 2, ?_⟩
  rw [eqP.start]
  by_cases hlm : m.length = l.length
  · rw [cond_nf (by omega)]
    exact same_loop l m hlm (fun f k => eqP.l1 f l m l.length k) (fun f k hk => by
      rw [eqP.s1, cond_dt (by omega), test_d (by omega), test_d (by omega), test_d (by omega), test_d (by omega), w64s (by omega), toNat_cast]; rfl) (fun f => by rw [eqP.s1, cond_df (by omega)]; rfl) l.length 0 (by omega)
  · rw [cond_nt (by omega)]
    show _ = some (vb (samePs l m), _)
    rw [samePs_len l m (by omega)]; rfl

theorem samePR_ok : samePR.OK := samePR.mk SpecsOK.nil fun l m hx => by
  have hh : fits (.sl TPair) l = true ∧ fits (.sl TPair) m = true := by simpa [samePR.pre] using hx
  have hb := fits_len' (n := 32) hh.1 rfl
  have hr := reach_lt
  refine ⟨l.length + 2, ?_⟩
  rw [samePR.start]
  by_cases hlm : m.length = l.length
  · rw [cond_nf (by omega)]
    exact same_loop l m hlm (fun f k => samePR.l1 f l m l.length k) (fun f k hk => by
      rw [samePR.s1, cond_dt (by omega), test_d (by omega), test_d (by omega), test_d (by omega), test_d (by omega), w64s (by omega), toNat_cast]; rfl) (fun f => by rw [samePR.s1, cond_df (by omega)]; rfl) l.length 0 (by omega)
  · rw [cond_nt (by omega)]
    show _ = some (vb (samePs l m), _)
    rw [samePs_len l m (by omega)]; rfl

theorem fits_host {h : El THost} (hh : fits THost h = true) : fits .str h.2.1 = true ∧ fits .str h.2.2.2.1 = true ∧ fits (.sl TPair) h.2.2.2.2.2 = true := by
  obtain ⟨_, hh⟩ := fits_prod hh
  obtain ⟨g1, hh⟩ := fits_prod hh
  obtain ⟨_, hh⟩ := fits_prod hh
  obtain ⟨g2, hh⟩ := fits_prod hh
  obtain ⟨_, g3⟩ := fits_prod hh
  exact ⟨g1, g2, g3⟩

theorem same_ok : same.OK := same.mk (eqP_ok.cons' SpecsOK.nil) fun a b hx => by
  have hh : fits THost a = true ∧ fits THost b = true := by simpa [same.pre] using hx
  have a1 : eqP.pre (a.2.2.2.2.2, b.2.2.2.2.2, ()) = true := by simpa [eqP.pre] using ⟨(fits_host hh.1).2.2, (fits_host hh.2).2.2⟩
  refine ⟨1, ?_⟩
  rw [same.start, test_true a1]
  show _ = some (vb (sameB a b), _)
  unfold sameB
  cases a.1 == b.1 <;> cases a.2.1.toList == b.2.1.toList <;> cases a.2.2.1 == b.2.2.1 <;> cases a.2.2.2.1.toList == b.2.2.2.1.toList <;> cases a.2.2.2.2.1 == b.2.2.2.2.1 <;> rfl

theorem sameR_ok : sameR.OK := sameR.mk (samePR_ok.cons' SpecsOK.nil) fun a b hx => by
  have hh : fits THost a = true ∧ fits THost b = true := by simpa [sameR.pre] using hx
  have a1 : samePR.pre (a.2.2.2.2.2, b.2.2.2.2.2, ()) = true := by simpa [samePR.pre] using ⟨(fits_host hh.1).2.2, (fits_host hh.2).2.2⟩
  refine ⟨1, ?_⟩
  rw [sameR.start, test_true a1]
  show _ = some (vb (sameB a b), _)
  unfold sameB
  cases a.1 == b.1 <;> cases a.2.1.toList == b.2.1.toList <;> cases a.2.2.1 == b.2.2.1 <;> cases a.2.2.2.1.toList == b.2.2.2.1.toList <;> cases a.2.2.2.2.1 == b.2.2.2.2.1 <;> rfl

/-! ### has it? -/

/-! ### copies -/

theorem lim32 {l : List (El TPair)} (hl : fits (.sl TPair) l = true) : l.length ≤ lim 32 := by
  have hb := fits_len' (n := 32) hl rfl
  have hr := reach_lt
  simp only [lim]
  omega

theorem clone_ok : clone.OK := clone.mkR fun l hx => by
  have hl : fits (.sl TPair) l = true := by simpa [clone.pre] using hx
  cases l with
  | nil => exact returns_nil (Returns.slnil (cloneN.ret SpecsOK.nil (m := 1) (cloneN.start 0))) (cloneE.ret SpecsOK.nil (m := 1) (cloneE.start 0))
  | cons a l => exact cloneC.ret SpecsOK.nil a l (m := 1) (by rw [cloneC.start, test_d (by simpa using lim32 hl)]; rfl)

theorem copy_ok : copy.OK := copy.mk (clone_ok.cons' SpecsOK.nil) fun h hx => by
  have hh : fits THost h = true := by simpa [copy.pre] using hx
  have a1 : clone.pre (h.2.2.2.2.2, ()) = true := by simpa [clone.pre] using (fits_host hh).2.2
  refine ⟨1, ?_⟩
  rw [copy.start, test_true a1]
  rfl

theorem copyR_ok : copyR.OK := copyR.mk SpecsOK.nil fun h hx => by
  have hh : fits THost h = true := by simpa [copyR.pre] using hx
  refine ⟨1, ?_⟩
  rw [copyR.start, test_d (lim32 (fits_host hh).2.2)]
  rfl

theorem light_loop (l : List (El TPair)) (hl : l.length < 9223372036854775806) : ∀ (n k : Nat) (a : Int), l.length = k + n → light.l1 (n + 1) a l l.length (k : Int) = some (vi .i64 (if lightS (l.drop k) a > 600 then 1 else 0), [])
  | 0, k, a, h => by
    have : k = l.length := by omega
    subst this
    rw [light.s1, cond_df (by omega), List.drop_length, lightS]
    by_cases h : a > 600
    · rw [cond_dt h, if_pos h]; rfl
    · rw [cond_df h, if_neg h]; rfl
  | n + 1, k, a, h => by
    rw [light.s1, cond_dt (by omega), test_d (by omega), test_d (by omega), w64s (by omega), toNat_cast, light_loop l hl n (k + 1) _ (by omega), rdEl_drop l (by omega : k < l.length), lightS]

theorem light_ok : light.OK := light.mk SpecsOK.nil fun h hx => by
  have hh : fits THost h = true := by simpa [light.pre] using hx
  have hb := fits_len' (n := 32) (fits_host hh).2.2 rfl
  have hr := reach_lt
  refine ⟨h.2.2.2.2.2.length + 2, ?_⟩
  rw [light.start]
  exact light_loop _ (by omega) _ 0 _ (by omega)

end Go.Proofs.Ytdoilggfajngiaa
