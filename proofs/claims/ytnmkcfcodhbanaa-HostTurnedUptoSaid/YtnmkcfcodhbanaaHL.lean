/-
  Hosts: what the laws' functions come to.
-/
import Derived.Test.YtnmkcfcodhbanaaHG
namespace Go.Proofs.Ytnmkcfcodhbanaa
open Go VE

theorem fits_bare {l : List (El TPair)} (h : fits (.sl TPair) l = true) : fits THost ((0 : Int), (⟨#[]⟩ : ByteArray), (0 : Int), (⟨#[]⟩ : ByteArray), (0 : Int), l) = true := by
  have h0 : fits .str (⟨#[]⟩ : ByteArray) = true := fits_str' (Nat.zero_le _)
  exact fits_mk (a := .int .i64) rfl (fits_mk h0 (fits_mk (a := .int .i64) rfl (fits_mk h0 (fits_mk (a := .int .i64) rfl h))))

theorem pairEq_self (p : El TPair) : pairEq p p = true := by simp [pairEq]
theorem samePs_self : ∀ (l : List (El TPair)), samePs l l = true
  | [] => rfl
  | a :: l => by rw [samePs, pairEq_self, samePs_self l]; rfl
theorem sameB_self (h : El THost) : sameB h h = true := by simp [sameB, samePs_self]

theorem awake_ok : awake.OK := awake.mk (may_ok.cons' (has_ok.cons' (same_ok.cons' (copy_ok.cons' SpecsOK.nil)))) fun _ _ => ⟨1, by
  rw [awake.start]
  rfl⟩

theorem lForms_R : lForms.Law := fun a b l hx => by
  have hh : fits THost a = true ∧ fits THost b = true ∧ fits (.sl TPair) l = true := by simpa [lForms.pre] using hx
  obtain ⟨ha, hb, hl⟩ := hh
  refine lForms.ret (light_ok.cons' (awake_ok.cons' (may_ok.cons' (mayR_ok.cons' (same_ok.cons' (sameR_ok.cons' (has_ok.cons' (hasR_ok.cons' (maySub_ok.cons' (maySubR_ok.cons' (copy_ok.cons' SpecsOK.nil))))))))))) a b l (m := 1) ?_
  rw [lForms.start, test_true (by simpa [light.pre] using ha), test_true (by simpa [light.pre] using hb), test_true (by simpa [light.pre] using fits_bare hl),
    test_true (by simpa [may.pre] using ha), test_true (by simpa [mayR.pre] using ha), test_true (by simpa [same.pre] using ⟨ha, hb⟩), test_true (by simpa [sameR.pre] using ⟨ha, hb⟩),
    test_true (by simpa [has.pre] using ⟨ha, hl⟩), test_true (by simpa [hasR.pre] using ⟨ha, hl⟩), test_true (by simpa [maySub.pre] using hl), test_true (by simpa [maySubR.pre] using hl),
    test_true (by simpa [copy.pre] using ha), test_true (by simpa [sameR.pre] using ha), sameB_self]
  simp only [beq_self_eq_true, cond_true]
  cases decide (IntKind.i64.wrap (IntKind.i64.wrap (lightI a + lightI b) + lightI (0, (⟨#[]⟩ : ByteArray), 0, (⟨#[]⟩ : ByteArray), 0, l)) > 0) <;> rfl

/-! ### bounds -/

def ch (i : Nat) : El TPair := (bytesStr [IntKind.u8.wrap (IntKind.i64.wrap (97 + (i : Int)))], (⟨#[120]⟩ : ByteArray))
def chs : Nat → List (El TPair)
  | 0 => []
  | n + 1 => chs n ++ [ch n]

theorem lB_loop (ok : Bool) (a : Int) (s : ByteArray) (b : Int) (t : ByteArray) (c a1 : Int) (s1 : ByteArray) (b1 : Int) (t1 : ByteArray) (c1 : Int) (l1 : List (El TPair)) (a2 : Int) (s2 : ByteArray) (b2 : Int) (t2 : ByteArray) (c2 : Int) (r : R)
    (he : lBounds.l2 1 ok 7 a s b t c a1 s1 b1 t1 c1 l1 a2 s2 b2 t2 c2 (chs 7) = r) : ∀ (n k : Nat), k + n = 7 → lBounds.l2 (n + 1) ok (k : Int) a s b t c a1 s1 b1 t1 c1 l1 a2 s2 b2 t2 c2 (chs k) = r
  | 0, k, h => by
    have : k = 7 := by omega
    subst this
    exact he
  | n + 1, k, h => by
    have hl : ∀ k, (chs k).length = k := by
      intro k
      induction k with
      | zero => rfl
      | succ k ih => simp [chs, ih]
    rw [lBounds.s2, cond_dt (by omega), w64s (by omega), test_d (by rw [hl]; simp [lim]; omega)]
    exact lB_loop ok a s b t c a1 s1 b1 t1 c1 l1 a2 s2 b2 t2 c2 r he n (k + 1) (by omega)

theorem str0 : fits .str (⟨#[]⟩ : ByteArray) = true := fits_str' (Nat.zero_le _)
theorem str1 (b : UInt8) : fits .str (⟨#[b]⟩ : ByteArray) = true := fits_str' (show 1 ≤ _ by simp [reachBytes])
theorem fits_chs : ∀ n, ∀ e, e ∈ chs n → fits TPair e = true
  | 0, e, h => by simp [chs] at h
  | n + 1, e, h => by
    simp only [chs, List.mem_append, List.mem_singleton] at h
    rcases h with h | rfl
    · exact fits_chs n e h
    · exact fits_mk (str1 _) (str1 _)
theorem fits_h {a : Int} {s : ByteArray} {b : Int} {t : ByteArray} {c : Int} {l : List (El TPair)} (hs : fits .str s = true) (ht : fits .str t = true) (hl : fits (.sl TPair) l = true) : fits THost (a, s, b, t, c, l) = true :=
  fits_mk (a := .int .i64) rfl (fits_mk hs (fits_mk (a := .int .i64) rfl (fits_mk ht (fits_mk (a := .int .i64) rfl hl))))

/-- The host's numbers within their bounds. -/
def inB (id prio weight : Int) : Bool := (decide (1 ≤ id) && decide (id ≤ 1000000)) && ((decide (0 ≤ prio) && decide (prio ≤ 3)) && (decide (1 ≤ weight) && decide (weight ≤ 20)))
theorem may_in (id prio weight : Int) (l : List (El TPair)) (h1 : risesP l = true) (h2 : maySubB l = true) : mayB (id, (⟨#[97]⟩ : ByteArray), prio, (⟨#[]⟩ : ByteArray), weight, l) = inB id prio weight := by
  rw [mayB_eq]
  simp only [mayRest, inB, h1, h2]
  have e : wordB (⟨#[97]⟩ : ByteArray) = true := by kernel_rfl
  rw [e]
  have e2 : ((⟨#[]⟩ : ByteArray).toList == (⟨#[]⟩ : ByteArray).toList) = true := by simp
  rw [e2]
  cases decide (1 ≤ id) <;> cases decide (id ≤ 1000000) <;> cases decide (0 ≤ prio) <;> cases decide (prio ≤ 3) <;> cases decide (1 ≤ weight) <;> cases decide (weight ≤ 20) <;> rfl

theorem chs_length : ∀ k, (chs k).length = k
  | 0 => rfl
  | k + 1 => by simp [chs, chs_length k]
theorem rises_less : risesP (List.drop (Int.toNat 1) (List.take 7 (chs 7))) = true := by kernel_rfl
theorem sub_less : maySubB (List.drop (Int.toNat 1) (List.take 7 (chs 7))) = true := by kernel_rfl
theorem sub_many : maySubB (chs 7) = false := by kernel_rfl
theorem rises_twice : risesP [((⟨#[98]⟩ : ByteArray), (⟨#[120]⟩ : ByteArray)), ((⟨#[98]⟩ : ByteArray), (⟨#[121]⟩ : ByteArray))] = false := by kernel_rfl
theorem may_twice (id prio weight : Int) : mayB (id, (⟨#[97]⟩ : ByteArray), prio, (⟨#[]⟩ : ByteArray), weight, [((⟨#[98]⟩ : ByteArray), (⟨#[120]⟩ : ByteArray)), ((⟨#[98]⟩ : ByteArray), (⟨#[121]⟩ : ByteArray))]) = false := by
  have h : ∀ (l : List (El TPair)), risesP l = false → mayB (id, (⟨#[97]⟩ : ByteArray), prio, (⟨#[]⟩ : ByteArray), weight, l) = false := fun l hl => by
    rw [mayB_eq]
    simp only [hl, Bool.false_and]
  exact h _ rises_twice
theorem may_many (id prio weight : Int) : mayB (id, (⟨#[97]⟩ : ByteArray), prio, (⟨#[]⟩ : ByteArray), weight, chs 7) = false := by
  rw [mayB_eq]
  simp only [mayRest, sub_many, Bool.and_false]

theorem lB_end (id prio weight : Int) (b : Bool) (hb : b = inB id prio weight) : lBounds.l2 1 b 7 id (⟨#[97]⟩ : ByteArray) prio (⟨#[]⟩ : ByteArray) weight id (⟨#[97]⟩ : ByteArray) prio (⟨#[]⟩ : ByteArray) weight
    [((⟨#[98]⟩ : ByteArray), (⟨#[120]⟩ : ByteArray)), ((⟨#[98]⟩ : ByteArray), (⟨#[121]⟩ : ByteArray))] id (⟨#[97]⟩ : ByteArray) prio (⟨#[]⟩ : ByteArray) weight (chs 7) = some (vb true, []) := by
  have f7 : fits (.sl TPair) (chs 7) = true := fits_sl (by rw [chs_length]; show 7 * 32 ≤ _; simp [reachBytes]) (fits_chs 7)
  have f6 : fits (.sl TPair) (List.drop (Int.toNat 1) (List.take 7 (chs 7))) = true := fits_sl (by rw [List.length_drop, List.length_take, chs_length]; show 6 * 32 ≤ _; simp [reachBytes]) fun e he => fits_chs 7 e (List.mem_of_mem_take (List.mem_of_mem_drop he))
  have f2 : fits (.sl TPair) [((⟨#[98]⟩ : ByteArray), (⟨#[120]⟩ : ByteArray)), ((⟨#[98]⟩ : ByteArray), (⟨#[121]⟩ : ByteArray))] = true := fits_sl (by show 2 * 32 ≤ _; simp [reachBytes]) fun e he => by
    simp only [List.mem_cons, List.not_mem_nil, or_false] at he
    rcases he with rfl | rfl <;> exact fits_mk (str1 _) (str1 _)
  rw [lBounds.s2, cond_df (by omega), chs_length, test_d (by omega)]
  rw [test_true (by simpa [may.pre] using fits_h (str1 97) str0 (l := []) rfl), test_true (by simpa [may.pre] using fits_h (str1 97) str0 f2), test_true (by simpa [may.pre] using fits_h (str1 97) str0 f7), test_true (by simpa [may.pre] using fits_h (str1 97) str0 f6)]
  rw [may_in _ _ _ [] rfl rfl, may_in _ _ _ (List.drop (Int.toNat 1) (List.take 7 (chs 7))) rises_less sub_less, may_twice, may_many, hb, beq_self_eq_true]
  simp only [cond_true, Bool.not_false]
  rfl

theorem lB_key (id prio weight : Int) (b : Bool) (hb : b = inB id prio weight) : lBounds.l1 9 b id (⟨#[97]⟩ : ByteArray) prio (⟨#[]⟩ : ByteArray) weight = some (vb true, []) := by
  rw [lBounds.s1]
  exact lB_loop b id _ prio _ weight id _ prio _ weight _ id _ prio _ weight _ (lB_end id prio weight b hb) 7 0 rfl

theorem lBounds_R : lBounds.Law := fun id prio weight hx => by
  refine lBounds.ret (may_ok.cons' (awake_ok.cons' SpecsOK.nil)) id prio weight (m := 10) ?_
  rw [lBounds.start]
  simp only [ge_iff_le]
  have key := lB_key id prio weight
  by_cases h1 : 1 ≤ id
  · rw [cond_dt h1]
    by_cases h2 : id ≤ 1000000
    · rw [cond_dt h2]
      by_cases h3 : 0 ≤ prio
      · rw [cond_dt h3]
        by_cases h4 : prio ≤ 3
        · rw [cond_dt h4]
          by_cases h5 : 1 ≤ weight
          · rw [cond_dt h5]; exact key _ (by simp [inB, h1, h2, h3, h4, h5])
          · rw [cond_df h5]; exact key _ (by simp [inB, h5])
        · rw [cond_df h4]; exact key _ (by simp [inB, h4])
      · rw [cond_df h3]; exact key _ (by simp [inB, h3])
    · rw [cond_df h2]; exact key _ (by simp [inB, h2])
  · rw [cond_df h1]; exact key _ (by simp [inB, h1])

end Go.Proofs.Ytnmkcfcodhbanaa
