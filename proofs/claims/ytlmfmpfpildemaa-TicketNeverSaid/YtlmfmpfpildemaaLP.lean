/-
  Tickets: what holds of a book, whatever is called.
-/
import Derived.Test.YtlmfmpfpildemaaLB
namespace Go.Proofs.Ytlmfmpfpildemaa
open Go VE

/-- Numbers go up, from one on; the last one is the last. -/
structure Bok (b : Int × List (Int × Int)) (k : Nat) : Prop where
  lo : 0 ≤ b.1
  hi : b.1 ≤ (k : Int)
  mem : ∀ e, e ∈ b.2 → 1 ≤ e.1 ∧ e.1 ≤ b.1
  asc : b.2.Pairwise fun a c => a.1 < c.1
  len : b.2.length ≤ 2000

theorem bok_new : Bok (0, []) 0 := ⟨Int.le_refl _, Int.le_refl _, fun e he => (by cases he), List.Pairwise.nil, Nat.zero_le _⟩
theorem Bok.mono {b : Int × List (Int × Int)} {k k' : Nat} (h : Bok b k) (hk : k ≤ k') : Bok b k' := ⟨h.lo, by have := h.hi; omega, h.mem, h.asc, h.len⟩

theorem rd_find {p : Int × Int → Bool} : ∀ {l : List (Int × Int)} {k i : Nat}, ixF p l k = some i → l.find? p = some (rdEl TKey l (i - k))
  | [], k, i, h => by simp [ixF] at h
  | a :: l, k, i, h => by
    simp only [ixF] at h
    cases hp : p a with
    | true =>
      simp [hp] at h; subst h
      simp [hp, rdEl]
    | false =>
      simp [hp] at h
      have h1 := (ixF_some h).1
      rw [List.find?_cons, hp]
      simp only
      rw [rd_find h]
      have : i - k = (i - (k + 1)) + 1 := by omega
      rw [this]
      simp [rdEl]

theorem has_any (b : Int × List (Int × Int)) (i : Int) : hasId b i = b.2.any (keyA i) := by
  unfold hasId ixB
  rcases ixOf_cases (keyA i) b.2 with ⟨h1, _, h2⟩ | ⟨j, h1, _, _, _, h2⟩
  · rw [h1, h2]; rfl
  · rw [h1, h2, dec_f (by omega)]; rfl

theorem close_find (b : Int × List (Int × Int)) (i : Int) : closeI b i = (match b.2.find? (keyA i) with | some k => k.2 | none => 0) := by
  unfold closeI hasId ixB ixOf
  cases h : ixF (keyA i) b.2 0 with
  | none =>
    have := ixF_none.1 h
    rw [List.find?_eq_none.2 fun x hx => by have := List.any_eq_false.1 this x hx; simpa using this]
    rfl
  | some j =>
    rw [rd_find h]
    have hc : ¬ ((j : Int) < 0) := by omega
    simp only
    rw [dec_f hc, Bool.not_false, cond_true, toNat_cast]; rfl

theorem filter_id {l : List (Int × Int)} {p : Int × Int → Bool} (h : ∀ e, e ∈ l → p e = true) : l.filter p = l := List.filter_eq_self.2 h

/-- Where numbers go up, the one that is cut is the only one of its number. -/
theorem cut_drop {l : List (Int × Int)} (ha : l.Pairwise fun a c => a.1 < c.1) {i : Int} {j : Nat} (h : ixOf (keyA i) l = (j : Int)) : cutOut l j (j + 1) = dropA i l := by
  rcases ixOf_cases (keyA i) l with ⟨h1, _⟩ | ⟨j', h1, h2, h3, h4, _⟩
  · omega
  · have : j' = j := by omega
    subst this
    have e : l = l.take (j' + 1) ++ l.drop (j' + 1) := (List.take_append_drop _ _).symm
    have hk : ∃ z, l[j']? = some z ∧ z.1 = i := by
      refine ⟨l[j'], List.getElem?_eq_getElem h2, ?_⟩
      have e2 : l.take (j' + 1) = l.take j' ++ [l[j']] := List.take_succ_eq_append_getElem h2
      rw [e2, List.filter_append] at h4
      have := congrArg List.length h4
      rw [List.length_append, h3] at this
      cases hp : keyA i l[j'] with
      | true => simpa [keyA] using hp
      | false => rw [List.filter_cons, hp] at this; simp at this
    obtain ⟨z, hz, hzi⟩ := hk
    have hrest : (l.drop (j' + 1)).filter (fun k => !keyA i k) = l.drop (j' + 1) := by
      refine filter_id fun e he => ?_
      have hlt : z.1 < e.1 := by
        have hs : l = l.take j' ++ (z :: l.drop (j' + 1)) := by
          have e2 : l.drop j' = z :: l.drop (j' + 1) := by
            rw [List.drop_eq_getElem_cons h2]
            rw [List.getElem?_eq_getElem h2] at hz
            injection hz with hz; rw [hz]
          rw [← e2, List.take_append_drop]
        rw [hs] at ha
        have := (List.pairwise_append.1 ha).2.1
        exact (List.pairwise_cons.1 this).1 e he
      have : e.1 ≠ i := by omega
      simp [keyA, this]
    unfold cutOut dropA
    conv => rhs; rw [e]
    rw [List.filter_append, h4, hrest]

theorem closeB_eq {b : Int × List (Int × Int)} {k : Nat} (h : Bok b k) (i : Int) : closeB b i = bif b.2.any (keyA i) then (b.1, dropA i b.2) else b := by
  unfold closeB
  rw [has_any]
  cases ha : b.2.any (keyA i) with
  | false => rfl
  | true =>
    rw [cond_true, cond_true]
    unfold ixB
    rcases ixOf_cases (keyA i) b.2 with ⟨h1, _, h2⟩ | ⟨j, h1, _⟩
    · rw [ha] at h2; cases h2
    · rw [h1, toNat_cast, cut_drop h.asc h1]

theorem dropB_eq (b : Int × List (Int × Int)) (h : Int) : dropB b h = (b.1, dropL h b.2) := by
  unfold dropB
  by_cases hc : 0 < countI b h
  · rw [cond_dt hc]
  · rw [cond_df hc]
    have h0 : (b.2.filter (keyB h)).length = 0 := by unfold countI at hc; omega
    have h1 := List.length_eq_zero_iff.1 h0
    have : dropL h b.2 = b.2 := filter_id fun e he => by
      have := List.filter_eq_nil_iff.1 h1 e he
      simpa using this
    rw [this]

theorem Bok.sub {b : Int × List (Int × Int)} {k : Nat} (h : Bok b k) {l : List (Int × Int)} (hl : l.Sublist b.2) : Bok (b.1, l) k :=
  ⟨h.lo, h.hi, fun e he => h.mem e (hl.subset he), h.asc.sublist hl, Nat.le_trans hl.length_le h.len⟩
theorem Bok.close {b : Int × List (Int × Int)} {k : Nat} (h : Bok b k) (i : Int) : Bok (closeB b i) k := by
  rw [closeB_eq h]
  cases b.2.any (keyA i) with
  | false => exact h
  | true => exact h.sub List.filter_sublist
theorem Bok.drop {b : Int × List (Int × Int)} {k : Nat} (h : Bok b k) (i : Int) : Bok (dropB b i) k := by
  rw [dropB_eq]; exact h.sub List.filter_sublist
theorem nextN_eq {b : Int × List (Int × Int)} {k : Nat} (h : Bok b k) (hk : k < 1000000) : nextN b = b.1 + 1 := by
  have := h.lo; have := h.hi
  unfold nextN
  rw [w64] <;> omega
theorem Bok.open {b : Int × List (Int × Int)} {k : Nat} (h : Bok b k) (hk : k < 1000000) (i : Int) : Bok (openB b i) (k + 1) := by
  unfold openB full
  by_cases hf : 2000 ≤ b.2.length
  · rw [cond_dt hf]; exact h.mono (by omega)
  · rw [cond_df hf, nextN_eq h hk]
    have h1 := h.lo; have h2 := h.hi
    refine ⟨by show 0 ≤ b.1 + 1; omega, by show b.1 + 1 ≤ _; omega, fun e he => ?_, ?_, by show (b.2 ++ [_]).length ≤ 2000; simp; omega⟩
    · rcases List.mem_append.1 he with he | he
      · have := h.mem e he
        exact ⟨this.1, by show e.1 ≤ b.1 + 1; omega⟩
      · simp at he; subst he
        exact ⟨by show 1 ≤ b.1 + 1; omega, Int.le_refl _⟩
    · refine List.pairwise_append.2 ⟨h.asc, List.pairwise_singleton _ _, fun a ha c hc => ?_⟩
      simp at hc; subst hc
      have := (h.mem a ha).2
      show a.1 < b.1 + 1
      omega

theorem big2 : 2000 * 16 ≤ reachBytes := by decide
theorem Bok.fits {b : Int × List (Int × Int)} {k : Nat} (h : Bok b k) : fits TBook b = true := fits_book (by have := h.len; have := big2; omega)

/-- The document's book that goes with it. -/
def twin (b : Int × List (Int × Int)) : El TBookR := (b.2, b.1)
theorem Bok.fitsR {b : Int × List (Int × Int)} {k : Nat} (h : Bok b k) : VE.fits TBookR (twin b) = true := fits_bookR (by have := h.len; have := big2; show b.2.length * 16 ≤ _; omega)

theorem twin_open (b : Int × List (Int × Int)) (h : Int) : openRB (twin b) h = twin (openB b h) ∧ openRI (twin b) = openI b ∧ openRE (twin b) = openE b := by
  refine ⟨?_, rfl, rfl⟩
  unfold openRB openB fullR full twin
  cases decide (2000 ≤ b.2.length) <;> rfl
theorem twin_close {b : Int × List (Int × Int)} {k : Nat} (h : Bok b k) (i : Int) : closeRB (twin b) i = twin (closeB b i) ∧ ofRI (twin b) i = closeI b i ∧ ofRB (twin b) i = hasId b i := by
  refine ⟨?_, ?_, ?_⟩
  · rw [closeB_eq h]
    unfold closeRB
    show (bif b.2.any (keyA i) then _ else _) = _
    cases b.2.any (keyA i) <;> rfl
  · rw [close_find]; rfl
  · rw [has_any]; rfl
theorem twin_drop (b : Int × List (Int × Int)) (h : Int) : dropRB (twin b) h = twin (dropB b h) ∧ countRI (twin b) h = countI b h := by
  rw [dropB_eq]; exact ⟨rfl, rfl⟩

theorem kEq_iff {a b : Int × Int} : kEq a b = true ↔ a = b := by
  unfold kEq
  simp only [Bool.and_true, Bool.and_eq_true, beq_iff_eq]
  exact ⟨fun h => Prod.ext h.1 h.2, fun h => by rw [h]; exact ⟨rfl, rfl⟩⟩
theorem eqK_self : ∀ (l : List (Int × Int)), eqK l l = true
  | [] => rfl
  | a :: l => by rw [eqK, kEq_iff.2 rfl, eqK_self l]; rfl

end Go.Proofs.Ytlmfmpfpildemaa
