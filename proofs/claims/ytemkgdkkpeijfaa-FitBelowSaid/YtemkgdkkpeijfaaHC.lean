/-
  Hosts: each function's contract, continued.
-/
import Derived.Test.YtemkgdkkpeijfaaHB
namespace Go.Proofs.Ytemkgdkkpeijfaa
open Go VE

theorem dlt (a b : Int) : decide (a < b) = !decide (b ≤ a) := by
  by_cases h : a < b
  · rw [dec_t h, dec_f (by omega)]; rfl
  · rw [dec_f h, dec_t (by omega)]; rfl
theorem dgt (a b : Int) : decide (a > b) = !decide (a ≤ b) := by
  by_cases h : a > b
  · rw [dec_t h, dec_f (by omega)]; rfl
  · rw [dec_f h, dec_t (by omega)]; rfl

/-! ### the same? -/

theorem same_loop (l m : List (El TPair)) (hlm : m.length = l.length) (L : Nat → Int → R)
    (hs : ∀ (f k : Nat), k < l.length → L (f + 1) (k : Int) = cond (!pairEq (rdEl TPair l k) (rdEl TPair m k)) (some (vb false, [])) (L f ((k + 1 : Nat) : Int)))
    (he : ∀ (f : Nat), L (f + 1) (l.length : Int) = some (vb true, [])) : ∀ (n k : Nat), l.length = k + n → L (n + 1) (k : Int) = some (vb (samePs (l.drop k) (m.drop k)), [])
  | 0, k, h => by
    have : k = l.length := by omega
    subst this
    rw [he, List.drop_length, List.drop_eq_nil_of_le (by omega)]; rfl
  | n + 1, k, h => by
    rw [hs _ _ (by omega), same_loop l m hlm L hs he n (k + 1) (by omega), rdEl_drop l (by omega : k < l.length), rdEl_drop m (by omega : k < m.length), samePs]
    cases pairEq (rdEl TPair l k) (rdEl TPair m k) <;> rfl

theorem samePs_len : ∀ (l m : List (El TPair)), l.length ≠ m.length → samePs l m = false
  | [], [], h => absurd rfl h
  | [], _ :: _, _ => rfl
  | _ :: _, [], _ => rfl
  | a :: l, b :: m, h => by
    rw [samePs, samePs_len l m (by simpa using h)]
    cases pairEq a b <;> rfl

theorem cond_nt {α : Type} {a b : Int} {x y : α} (h : a ≠ b) : cond (bne a b) x y = x := cond_t (by simpa using h)
theorem cond_nf {α : Type} {a b : Int} {x y : α} (h : a = b) : cond (bne a b) x y = y := cond_f (by simpa using h)

theorem samePR_ok : samePR.OK := samePR.mk SpecsOK.nil fun l m hx => by
  have hh : fits (.sl TPair) l = true ∧ fits (.sl TPair) m = true := by simpa [samePR.pre] using hx
  have hb := fits_len' (n := 32) hh.1 rfl
  have hr := reach_lt
  refine ⟨l.length + 2, ?_⟩
  rw [samePR.start]
  by_cases hlm : m.length = l.length
  · rw [cond_nf (by omega)]
    exact same_loop l m hlm (fun f k => samePR.l1 f l m l.length k) (fun f k hk => by
      rw [samePR.s1, cond_dt (by omega), test_d (by omega), test_d (by omega), test_d (by omega), test_d (by omega), w64s (by omega), toNat_cast]; rfl) (fun f => by rw [samePR.s1, cond_df (by omega)]; rfl) l.length 0 (by omega)
  · rw [cond_nt (by omega)]
    show _ = some (vb (samePs l m), _)
    rw [samePs_len l m (by omega)]; rfl

theorem fits_host {h : El THost} (hh : fits THost h = true) : fits .str h.2.1 = true ∧ fits .str h.2.2.2.1 = true ∧ fits (.sl TPair) h.2.2.2.2.2 = true := by
  obtain ⟨_, hh⟩ := fits_prod hh
  obtain ⟨g1, hh⟩ := fits_prod hh
  obtain ⟨_, hh⟩ := fits_prod hh
  obtain ⟨g2, hh⟩ := fits_prod hh
  obtain ⟨_, g3⟩ := fits_prod hh
  exact ⟨g1, g2, g3⟩

theorem sameR_ok : sameR.OK := sameR.mk (samePR_ok.cons' SpecsOK.nil) fun a b hx => by
  have hh : fits THost a = true ∧ fits THost b = true := by simpa [sameR.pre] using hx
  have a1 : samePR.pre (a.2.2.2.2.2, b.2.2.2.2.2, ()) = true := by simpa [samePR.pre] using ⟨(fits_host hh.1).2.2, (fits_host hh.2).2.2⟩
  refine ⟨1, ?_⟩
  rw [sameR.start, test_true a1]
  show _ = some (vb (sameB a b), _)
  unfold sameB
  cases a.1 == b.1 <;> cases a.2.1.toList == b.2.1.toList <;> cases a.2.2.1 == b.2.2.1 <;> cases a.2.2.2.1.toList == b.2.2.2.1.toList <;> cases a.2.2.2.2.1 == b.2.2.2.2.1 <;> rfl

/-! ### has it? -/

theorem indexP_ok : indexP.OK := indexP.mk SpecsOK.nil fun l p hx => by
  have hh : fits (.sl TPair) l = true ∧ fits TPair p = true := by simpa [indexP.pre] using hx
  have hb := fits_len' (n := 32) hh.1 rfl
  have hr := reach_lt
  refine ⟨l.length + 2, ?_⟩
  rw [indexP.start]
  have h := loop_find (t := TPair) l (fun m k => indexP.l1 m l l.length k p.1 p.2) (pairEq p) (fun i => some (vi .i64 i, [])) (some (vi .i64 (-1), [])) (fun m k hk => ?_) (fun m => ?_) l.length 0 (by omega)
  · refine h.trans ?_
    rw [List.drop_zero]
    show _ = some (vi .i64 (ixOf (pairEq p) l), _)
    unfold ixOf
    cases ixF (pairEq p) l 0 <;> rfl
  · rw [indexP.s1, cond_dt (by omega), test_d (by omega), test_d (by omega), w64s (by omega), toNat_cast]
    rfl
  · rw [indexP.s1, cond_df (by omega)]; rfl

theorem contP_ok : contP.OK := contP.mk (indexP_ok.cons' SpecsOK.nil) fun l p hx => by
  have a1 : indexP.pre (l, p, ()) = true := by simpa [contP.pre, indexP.pre] using hx
  refine ⟨1, ?_⟩
  rw [contP.start, test_true a1, ixOf_any]
  rfl

theorem has_ok : has.OK := has.mk (contP_ok.cons' SpecsOK.nil) fun h l hx => by
  have hh : fits THost h = true ∧ fits (.sl TPair) l = true := by simpa [has.pre] using hx
  have hb := fits_len' (n := 32) hh.2 rfl
  have hr := reach_lt
  refine ⟨l.length + 2, ?_⟩
  rw [has.start]
  have hl := loop_find (t := TPair) l (fun m k => has.l1 m l l.length k h.1 h.2.1 h.2.2.1 h.2.2.2.1 h.2.2.2.2.1 h.2.2.2.2.2) (fun p => !h.2.2.2.2.2.any (pairEq p)) (fun i => some (vb false, [])) (some (vb true, [])) (fun m k hk => ?_) (fun m => ?_) l.length 0 (by omega)
  · refine hl.trans ?_
    rw [List.drop_zero, ixF_any]
    show _ = some (vb (hasB h l), _)
    unfold hasB
    rw [all_any]
    cases l.any fun p => !h.2.2.2.2.2.any (pairEq p) <;> rfl
  · have a1 : contP.pre (h.2.2.2.2.2, rdEl TPair l k, ()) = true := by simpa [contP.pre] using ⟨(fits_host hh.1).2.2, fits_rd hh.2 hk⟩
    rw [has.s1, cond_dt (by omega), test_d (by omega), test_d (by omega), w64s (by omega), toNat_cast, test_true a1]
    rfl
  · rw [has.s1, cond_df (by omega)]; rfl

theorem hasR_in (l : List (El TPair)) (len k : Int) (i : Int) (a : ByteArray) (p : Int) (z : ByteArray) (w : Int) (m : List (El TPair)) (q : El TPair) (hm : m.length < 9223372036854775806) : ∀ (j e d : Nat) (b : Bool), m.length = e + j →
    hasR.l2 (j + 1 + d) b l len k m m.length (e : Int) i a p z w m q.1 q.2 = cond (b || (m.drop e).any (pairEq q)) (hasR.l1 d l len (IntKind.i64.wrap (k + 1)) i a p z w m) (some (vb false, []))
  | 0, e, d, b, h => by
    have : e = m.length := by omega
    subst this
    rw [show 0 + 1 + d = d + 1 by omega, hasR.s2, cond_df (by omega), List.drop_length]
    cases b <;> rfl
  | j + 1, e, d, b, h => by
    rw [show j + 1 + 1 + d = (j + 1 + d) + 1 by omega, hasR.s2, cond_dt (by omega), test_d (by omega), test_d (by omega), w64s (by omega), toNat_cast, hasR_in l len k i a p z w m q hm j (e + 1) d true (by omega), hasR_in l len k i a p z w m q hm j (e + 1) d _ (by omega), rdEl_drop m (by omega : e < m.length)]
    rw [List.any_cons]
    cases b
    · rfl
    · rfl

theorem hasR_ok : hasR.OK := hasR.mk SpecsOK.nil fun h l hx => by
  have hh : fits THost h = true ∧ fits (.sl TPair) l = true := by simpa [hasR.pre] using hx
  have hb := fits_len' (n := 32) hh.2 rfl
  have hb2 := fits_len' (n := 32) (fits_host hh.1).2.2 rfl
  have hr := reach_lt
  have key : ∀ (n k : Nat), l.length = k + n → hasR.l1 (n * (h.2.2.2.2.2.length + 2) + 1) l l.length (k : Int) h.1 h.2.1 h.2.2.1 h.2.2.2.1 h.2.2.2.2.1 h.2.2.2.2.2 = some (vb ((l.drop k).all fun p => h.2.2.2.2.2.any (pairEq p)), []) := by
    intro n
    induction n with
    | zero =>
      intro k hk
      have : k = l.length := by omega
      subst this
      rw [Nat.zero_mul, hasR.s1, cond_df (by omega), List.drop_length]; rfl
    | succ n ih =>
      intro k hk
      have hf : (n + 1) * (h.2.2.2.2.2.length + 2) + 1 = (h.2.2.2.2.2.length + 1 + (n * (h.2.2.2.2.2.length + 2) + 1)) + 1 := by rw [Nat.add_mul]; omega
      rw [hf, hasR.s1, cond_dt (by omega), test_d (by omega), test_d (by omega), toNat_cast, cast0, hasR_in l l.length k h.1 h.2.1 h.2.2.1 h.2.2.2.1 h.2.2.2.2.1 h.2.2.2.2.2 (rdEl TPair l k) (by omega) _ 0 _ false (by omega), w64s (by omega), ih (k + 1) (by omega), rdEl_drop l (by omega : k < l.length)]
      rw [List.drop_zero, List.all_cons, Bool.false_or]
      cases List.any h.2.2.2.2.2 (pairEq (rdEl TPair l k)) <;> rfl
  refine ⟨l.length * (h.2.2.2.2.2.length + 2) + 2, ?_⟩
  rw [hasR.start]
  exact key l.length 0 (by omega)

/-! ### copies -/

theorem lim32 {l : List (El TPair)} (hl : fits (.sl TPair) l = true) : l.length ≤ lim 32 := by
  have hb := fits_len' (n := 32) hl rfl
  have hr := reach_lt
  simp only [lim]
  omega

theorem clone_ok : clone.OK := clone.mkR fun l hx => by
  have hl : fits (.sl TPair) l = true := by simpa [clone.pre] using hx
  cases l with
  | nil => exact returns_nil (Returns.slnil (cloneN.ret SpecsOK.nil (m := 1) (cloneN.start 0))) (cloneE.ret SpecsOK.nil (m := 1) (cloneE.start 0))
  | cons a l => exact cloneC.ret SpecsOK.nil a l (m := 1) (by rw [cloneC.start, test_d (by simpa using lim32 hl)]; rfl)

theorem copy_ok : copy.OK := copy.mk (clone_ok.cons' SpecsOK.nil) fun h hx => by
  have hh : fits THost h = true := by simpa [copy.pre] using hx
  have a1 : clone.pre (h.2.2.2.2.2, ()) = true := by simpa [clone.pre] using (fits_host hh).2.2
  refine ⟨1, ?_⟩
  rw [copy.start, test_true a1]
  rfl

theorem copyR_ok : copyR.OK := copyR.mk SpecsOK.nil fun h hx => by
  have hh : fits THost h = true := by simpa [copyR.pre] using hx
  refine ⟨1, ?_⟩
  rw [copyR.start, test_d (lim32 (fits_host hh).2.2)]
  rfl

theorem light_loop (l : List (El TPair)) (hl : l.length < 9223372036854775806) : ∀ (n k : Nat) (a : Int), l.length = k + n → light.l1 (n + 1) a l l.length (k : Int) = some (vi .i64 (if lightS (l.drop k) a > 600 then 1 else 0), [])
  | 0, k, a, h => by
    have : k = l.length := by omega
    subst this
    rw [light.s1, cond_df (by omega), List.drop_length, lightS]
    by_cases h : a > 600
    · rw [cond_dt h, if_pos h]; rfl
    · rw [cond_df h, if_neg h]; rfl
  | n + 1, k, a, h => by
    rw [light.s1, cond_dt (by omega), test_d (by omega), test_d (by omega), w64s (by omega), toNat_cast, light_loop l hl n (k + 1) _ (by omega), rdEl_drop l (by omega : k < l.length), lightS]

theorem light_ok : light.OK := light.mk SpecsOK.nil fun h hx => by
  have hh : fits THost h = true := by simpa [light.pre] using hx
  have hb := fits_len' (n := 32) (fits_host hh).2.2 rfl
  have hr := reach_lt
  refine ⟨h.2.2.2.2.2.length + 2, ?_⟩
  rw [light.start]
  exact light_loop _ (by omega) _ 0 _ (by omega)

end Go.Proofs.Ytemkgdkkpeijfaa
