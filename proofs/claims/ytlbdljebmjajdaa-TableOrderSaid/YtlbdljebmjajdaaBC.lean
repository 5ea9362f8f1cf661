/-
  Tables: each function's contract, continued: adding, cutting, changes.
-/
import Derived.Test.YtlbdljebmjajdaaBB
namespace Go.Proofs.Ytlbdljebmjajdaa
open Go VE

theorem may_len {l : List (El THost)} (h : mayTB l = true) : l.length ≤ 64 := by
  unfold mayTB at h
  simp only [Bool.and_eq_true, decide_eq_true_eq] at h
  exact h.1
theorem may_rises {l : List (El THost)} (h : mayTB l = true) : risesK (keysL l) = true := by
  unfold mayTB at h
  simp only [Bool.and_eq_true] at h
  exact h.2.1

theorem add_ok : add.OK := add.mk (mayT_ok.cons' (may_ok.cons' (keys_ok.cons' (ofind_ok.cons' (copy_ok.cons' SpecsOK.nil))))) (copied_ok.cons' (ins_ok.cons' .nil)) fun l h hx => by
  have hf : (fits (.sl THost) l && (fits THost h && true)) = true := hx
  simp only [Bool.and_eq_true] at hf
  have p1 : mayT.pre (l, ()) = true := by
    show (fits (.sl THost) l && true) = true
    rw [hf.1]; rfl
  have p2 : may.pre (h, ()) = true := by
    show (fits THost h && true) = true
    rw [hf.2.1]; rfl
  refine ⟨1, ?_⟩
  have hres : add.res (l, h, ()) = .tup [.c (.sl THost (addL l h)), vi .i64 (addE l h)] := rfl
  have hback : add.back (l, h, ()) = [] := rfl
  rw [add.start, hres, hback, test_true p1]
  unfold addL addE
  cases hm : mayTB l with
  | false => rfl
  | true =>
    rw [Bool.not_true, cond_false, cond_false, test_true p2]
    cases hh : mayB h with
    | false => rfl
    | true =>
      have hk := fits_keys hf.1
      rw [Bool.not_true, cond_false, cond_false, test_true (show keys.pre (l, ()) = true from p1), test_true (show ofind.pre (keysL l, (h.1, 0), ()) = true by
        show (fits (.sl TKey) (keysL l) && (fits TKey (h.1, 0) && (risesK (keysL l) && true))) = true
        rw [hk, may_rises hm]; rfl)]
      cases ht : thereK (keysL l) (h.1, 0) with
      | true => rfl
      | false =>
        rw [cond_false, cond_false]
        by_cases h64 : (l.length : Int) = 64
        · rw [cond_et h64, beq_iff_eq.2 h64]; rfl
        · have hpl := place_le (keysL l) (h.1, 0)
          rw [keys_len] at hpl
          rw [cond_ef h64, beq_eq_false_iff_ne.2 h64, test_true (show copied.pre (l, ()) = true from p1), test_true (show copy.pre (h, ()) = true from p2), test_true (show ins.pre (l, (placeK (keysL l) (h.1, 0) : Int), [h], ()) = true by
            show (fits (.sl THost) l && (true && (fits (.sl THost) [h] && (decide (0 ≤ (placeK (keysL l) (h.1, 0) : Int) ∧ (placeK (keysL l) (h.1, 0) : Int) ≤ (l.length : Int) ∧ l.length ≤ 1000000 ∧ List.length [h] = 1) && true)))) = true
            have hR : reachBytes = 140737488351232 := rfl
            have := may_len hm
            rw [hf.1, fits_sl (t := THost) (h1 := by show 1 * 80 ≤ _; omega) (h2 := fun e he => by rw [List.mem_singleton] at he; rw [he]; exact hf.2.1), dec_t ⟨by omega, by omega, by omega, rfl⟩]; rfl), toNat_cast]
          rfl

theorem rises_pair {l : List (El THost)} (h : risesK (keysL l) = true) : l.Pairwise fun a b => a.1 < b.1 := by
  induction l with
  | nil => exact List.Pairwise.nil
  | cons a l ih =>
    have h' : risesK ((a.1, (0 : Int)) :: keysL l) = true := h
    obtain ⟨h1, h2⟩ := rises_all h'
    refine List.pairwise_cons.2 ⟨fun b hb => ?_, ih h1⟩
    have := h2 (b.1, 0) (by unfold keysL; exact List.mem_map.2 ⟨b, hb, rfl⟩)
    rw [keys_lt] at this
    exact of_decide_eq_true this

theorem place_id {l : List (El THost)} (h : risesK (keysL l) = true) (i : Int) {k : Nat} (hk : k < l.length) : decide ((rdEl THost l k).1 < i) = decide (k < placeK (keysL l) (i, 0)) := by
  have := place_at (t := (i, 0)) h k (by rw [keys_len]; exact hk)
  rw [keys_rd l hk, keys_lt] at this
  exact this

theorem there_eq {l : List (El THost)} (h : risesK (keysL l) = true) (i : Int) : thereK (keysL l) (i, 0) = l.any (idH i) := by
  unfold thereK
  rw [keys_len]
  cases ha : l.any (idH i) with
  | false =>
    by_cases hp : placeK (keysL l) (i, 0) < l.length
    · have h1 := List.any_eq_false.1 ha _ (rdEl_mem (t := THost) hp)
      have h1 : ¬ (rdEl THost l (placeK (keysL l) (i, 0))).1 = i := by simpa [idH] using h1
      rw [dec_t hp, keys_rd l hp]
      have : ((rdEl THost l (placeK (keysL l) (i, 0))).1 == i) = false := by simpa using h1
      show (true && (((rdEl THost l (placeK (keysL l) (i, 0))).1 == i) && _)) = false
      rw [this]; rfl
    · rw [dec_f hp]; rfl
  | true =>
    obtain ⟨x, hx, hi⟩ := List.any_eq_true.1 ha
    have hi : x.1 = i := by simpa [idH] using hi
    obtain ⟨k, hk, rfl⟩ := List.mem_iff_getElem.1 hx
    have e : rdEl THost l k = l[k] := by simp [rdEl, List.getD, hk]
    have hpk : ¬ k < placeK (keysL l) (i, 0) := by
      have := place_id h i hk
      rw [e, hi, dec_f (Int.lt_irrefl i)] at this
      exact of_decide_eq_false this.symm
    have hpk2 : ¬ placeK (keysL l) (i, 0) < k := fun hlt => by
      have h2 := of_decide_eq_false ((place_id h i (k := placeK (keysL l) (i, 0)) (by omega)).trans (dec_f (Nat.lt_irrefl _)))
      have h3 := List.pairwise_iff_getElem.1 (rises_pair h) (placeK (keysL l) (i, 0)) k (by omega) hk hlt
      have e3 : rdEl THost l (placeK (keysL l) (i, 0)) = l[placeK (keysL l) (i, 0)] := by simp [rdEl, List.getD, show placeK (keysL l) (i, 0) < l.length by omega]
      rw [e3] at h2
      rw [hi] at h3
      exact h2 h3
    have hp : placeK (keysL l) (i, 0) = k := by omega
    rw [hp, dec_t hk, keys_rd l hk, e]
    show (true && ((l[k].1 == i) && (((0 : Int) == 0) && true))) = true
    rw [hi]; simp

/-- What the document has put together at a place. -/
def addAt (l : List (El THost)) (h : El THost) (k : Nat) : List (El THost) :=
  bif decide (placeK (keysL l) (h.1, 0) < k) then putIn (l.take k) (placeK (keysL l) (h.1, 0)) h else l.take k

theorem take_rdH {l : List (El THost)} {k : Nat} (hk : k < l.length) : l.take (k + 1) = l.take k ++ [rdEl THost l k] := by
  rw [List.take_succ_eq_append_getElem hk]
  congr 2
  simp [rdEl, List.getD, hk]

theorem putIn_append {α : Type} (l m : List α) {i : Nat} (h : i ≤ l.length) (v : α) : putIn (l ++ m) i v = putIn l i v ++ m := by
  unfold putIn
  rw [List.take_append_of_le_length h, List.drop_append_of_le_length h, List.append_assoc]; rfl

theorem putIn_len {α : Type} {l : List α} {i : Nat} {t : α} (h : i ≤ l.length) : (putIn l i t).length = l.length + 1 := by
  unfold putIn
  rw [List.length_append, List.length_cons, List.length_take, List.length_drop]; omega

theorem addR_loop (l : List (El THost)) (h : El THost) (hr : risesK (keysL l) = true) (hl : fits (.sl THost) l = true) (hh : fits THost h = true) (h64 : l.length ≤ 64) (hn : l.any (idH h.1) = false) : ∀ (n k : Nat), l.length = k + n →
    addR.l1 (n + 1) (decide (placeK (keysL l) (h.1, 0) < k)) l l.length k (addAt l h k) h.1 h.2.1 h.2.2.1 h.2.2.2.1 h.2.2.2.2.1 h.2.2.2.2.2 = some (.tup [.c (.sl THost (putIn l (placeK (keysL l) (h.1, 0)) h)), vi .i64 0], [])
  | 0, k, hk => by
    have hp := place_le (keysL l) (h.1, 0)
    rw [keys_len] at hp
    have hlim : lim 80 = 1759218604441 := by simp [lim]
    have hkl : k = l.length := by omega
    subst hkl
    rw [addR.s1, cond_df (by omega)]
    unfold addAt
    by_cases hc : placeK (keysL l) (h.1, 0) < l.length
    · rw [dec_t hc, Bool.not_true, cond_false, cond_true, List.take_length]; rfl
    · have he : placeK (keysL l) (h.1, 0) = l.length := by omega
      rw [dec_f hc, Bool.not_false, cond_true, cond_false, List.take_length]
      refine (test_true (show copyR.pre (h, ()) = true by simpa [copyR.pre] using hh)).trans ((test_d (by rw [hlim]; simp only [List.length_cons, List.length_nil]; omega)).trans ?_)
      rw [he, putIn_end]; rfl
  | n + 1, k, hk => by
    have hp := place_le (keysL l) (h.1, 0)
    rw [keys_len] at hp
    have hlim : lim 80 = 1759218604441 := by simp [lim]
    have hlt : k < l.length := by omega
    have ih := addR_loop l h hr hl hh h64 hn n (k + 1) (by omega)
    have hpl := place_id hr h.1 hlt
    have hne : (rdEl THost l k).1 ≠ h.1 := by
      have := List.any_eq_false.1 hn _ (rdEl_mem (t := THost) hlt)
      simpa [idH] using this
    have hcp : copyR.pre (rdEl THost l k, ()) = true := by simpa [copyR.pre] using fits_rd hl hlt
    have htk : (l.take k).length = k := by rw [List.length_take]; omega
    rw [addR.s1, cond_dt (by omega), test_d (by omega), test_d (by omega), toNat_cast, w64s (by omega)]
    by_cases h1 : placeK (keysL l) (h.1, 0) < k
    · have e1 : addAt l h (k + 1) = addAt l h k ++ [rdEl THost l k] := by
        unfold addAt
        rw [dec_t h1, dec_t (by omega), cond_true, cond_true, take_rdH hlt, putIn_append _ _ (by omega)]
      have e2 : (addAt l h k).length = k + 1 := by
        unfold addAt
        rw [dec_t h1, cond_true, putIn_len (by omega), htk]
      rw [dec_t (by omega), e1] at ih
      rw [dec_t h1, Bool.not_true, cond_false, test_true hcp, test_d (by rw [hlim, e2]; simp only [List.length_cons, List.length_nil]; omega)]
      exact ih
    · have e0 : addAt l h k = l.take k := by
        unfold addAt
        rw [dec_f h1]; rfl
      rw [dec_f h1, Bool.not_false, cond_true, e0]
      by_cases h2 : k < placeK (keysL l) (h.1, 0)
      · have e1 : addAt l h (k + 1) = l.take k ++ [rdEl THost l k] := by
          unfold addAt
          rw [dec_f (by omega), cond_false, take_rdH hlt]
        have hlt2 : (rdEl THost l k).1 < h.1 := of_decide_eq_true (hpl.trans (dec_t h2))
        rw [dec_f (by omega), e1] at ih
        rw [cond_df (show ¬ (rdEl THost l k).1 > h.1 by have := hlt2; exact Int.not_lt.2 (Int.le_of_lt hlt2)), test_true hcp, test_d (by rw [hlim, htk]; simp only [List.length_cons, List.length_nil]; omega)]
        exact ih
      · have he : placeK (keysL l) (h.1, 0) = k := by omega
        have hge : ¬ (rdEl THost l k).1 < h.1 := of_decide_eq_false (hpl.trans (dec_f h2))
        have hgt : (rdEl THost l k).1 > h.1 := by
          have h3 : (rdEl THost l k).1 ≠ h.1 := hne
          exact Int.lt_iff_le_and_ne.2 ⟨Int.not_lt.1 hge, fun e => h3 e.symm⟩
        have e1 : addAt l h (k + 1) = (l.take k ++ [h]) ++ [rdEl THost l k] := by
          unfold addAt
          have e3 := putIn_end (l.take k) h
          rw [htk] at e3
          rw [he, dec_t (by omega), cond_true, take_rdH hlt, putIn_append _ _ (by omega), e3]
        rw [dec_t (by omega), e1] at ih
        rw [cond_dt hgt]
        refine (test_true (show copyR.pre (h, ()) = true by simpa [copyR.pre] using hh)).trans ((test_d (by rw [hlim, htk]; simp only [List.length_cons, List.length_nil]; omega)).trans ?_)
        rw [test_true hcp, test_d (by rw [hlim, List.length_append, htk]; simp only [List.length_cons, List.length_nil]; omega)]
        exact ih

theorem any_ge (l : List (El THost)) (i : Int) : decide (ixOf (idH i) l ≥ 0) = l.any (idH i) := VE.ixOf_any (idH i) l
theorem any_lt (l : List (El THost)) (i : Int) : decide (ixOf (idH i) l < 0) = !l.any (idH i) := by
  rw [← any_ge]
  by_cases h : ixOf (idH i) l < 0
  · rw [dec_t h, dec_f (by omega)]; rfl
  · rw [dec_f h, dec_t (by omega)]; rfl

theorem addR_ok : addR.OK := addR.mk (mayTR_ok.cons' (mayR_ok.cons' (findR_ok.cons' (copyR_ok.cons' SpecsOK.nil)))) fun l h hx => by
  have hf : (fits (.sl THost) l && (fits THost h && true)) = true := hx
  simp only [Bool.and_eq_true] at hf
  refine ⟨l.length + 2, ?_⟩
  have hres : addR.res (l, h, ()) = .tup [.c (.sl THost (addL l h)), vi .i64 (addE l h)] := rfl
  have hback : addR.back (l, h, ()) = [] := rfl
  rw [addR.start, hres, hback, test_true (show mayTR.pre (l, ()) = true by
    show (fits (.sl THost) l && true) = true
    rw [hf.1]; rfl)]
  unfold addL addE
  cases hm : mayTB l with
  | false => rfl
  | true =>
    rw [Bool.not_true, cond_false, cond_false, test_true (show mayR.pre (h, ()) = true by
      show (fits THost h && true) = true
      rw [hf.2.1]; rfl)]
    cases hh : mayB h with
    | false => rfl
    | true =>
      have h64 := may_len hm
      rw [Bool.not_true, cond_false, cond_false, test_true (show findR.pre (l, h.1, ()) = true by
        show (fits (.sl THost) l && (true && true)) = true
        rw [hf.1]; rfl), any_ge, there_eq (may_rises hm)]
      cases ha : l.any (idH h.1) with
      | true => rfl
      | false =>
        rw [cond_false, cond_false]
        by_cases hl : l.length = 64
        · have e1 : ((l.length : Int) == 64) = true := by simp; omega
          rw [cond_dt (by omega), e1]; rfl
        · have e1 : ((l.length : Int) == 64) = false := by simp; omega
          rw [cond_df (by omega), e1]
          have L := addR_loop l h (may_rises hm) hf.1 hf.2.1 h64 ha l.length 0 (by omega)
          have z0 : decide (placeK (keysL l) (h.1, 0) < 0) = false := dec_f (Nat.not_lt_zero _)
          have z1 : addAt l h 0 = [] := by unfold addAt; rw [z0]; rfl
          rw [z0, z1] at L
          exact L

/-! ### cutting -/

theorem ix_cases (l : List (El THost)) (i : Int) : (ixOf (idH i) l = -1 ∧ l.filter (fun x => !idH i x) = l ∧ l.any (idH i) = false) ∨
    ∃ j : Nat, ixOf (idH i) l = (j : Int) ∧ j < l.length ∧ (l.take j).filter (fun x => !idH i x) = l.take j ∧ (l.take (j + 1)).filter (fun x => !idH i x) = l.take j ∧ l.any (idH i) = true := VE.ixOf_cases (idH i) l

theorem cut_ok : cut.OK := cut.mk (mayT_ok.cons' (find_ok.cons' SpecsOK.nil)) (copied_ok.cons' (del_ok.cons' .nil)) fun l i hx => by
  have hf : (fits (.sl THost) l && (true && true)) = true := hx
  simp only [Bool.and_eq_true] at hf
  have p1 : mayT.pre (l, ()) = true := by
    show (fits (.sl THost) l && true) = true
    rw [hf.1]; rfl
  refine ⟨1, ?_⟩
  have hres : cut.res (l, i, ()) = .tup [.c (.sl THost (cutL l i)), vi .i64 (cutE l i)] := rfl
  have hback : cut.back (l, i, ()) = [] := rfl
  rw [cut.start, hres, hback, test_true p1]
  unfold cutL cutE
  cases hm : mayTB l with
  | false => rfl
  | true =>
    have h64 := may_len hm
    rw [Bool.not_true, cond_false, cond_false, test_true (show find.pre (l, i, ()) = true from hx)]
    rcases ix_cases l i with ⟨h1, _⟩ | ⟨j, h1, h2, _⟩
    · rw [h1]; rfl
    · have hc : ¬ ((j : Int) < 0) := by omega
      rw [h1, cond_df hc, dec_f hc, test_true (show copied.pre (l, ()) = true from p1), w64s (by omega), test_true (show del.pre (l, (j : Int), ((j + 1 : Nat) : Int), ()) = true by
        show (fits (.sl THost) l && (true && (true && (decide (0 ≤ (j : Int) ∧ (j : Int) ≤ ((j + 1 : Nat) : Int) ∧ ((j + 1 : Nat) : Int) ≤ (l.length : Int)) && true)))) = true
        rw [hf.1, dec_t ⟨by omega, by omega, by omega⟩]; rfl), toNat_cast, toNat_cast]
      rfl

theorem cut_filter {l : List (El THost)} (h : risesK (keysL l) = true) {i : Int} (ha : l.any (idH i) = true) : cutOut l (ixOf (idH i) l).toNat ((ixOf (idH i) l).toNat + 1) = l.filter fun x => !idH i x := by
  rcases ix_cases l i with ⟨_, _, h3⟩ | ⟨j, h1, h2, h3, h4, h5⟩
  · rw [ha] at h3; cases h3
  · rw [h1, toNat_cast]
    have e2 : l.take (j + 1) = l.take j ++ [l[j]] := List.take_succ_eq_append_getElem h2
    have hk : idH i l[j] = true := by
      rw [e2, List.filter_append] at h4
      have := congrArg List.length h4
      rw [List.length_append, h3] at this
      cases hp : idH i l[j] with
      | true => rfl
      | false => rw [List.filter_cons, hp] at this; simp at this
    have hk : l[j].1 = i := by simpa [idH] using hk
    have hrest : (l.drop (j + 1)).filter (fun t => !idH i t) = l.drop (j + 1) := List.filter_eq_self.2 fun t ht => by
      have hp := rises_pair h
      have hs : l = l.take j ++ (l[j] :: l.drop (j + 1)) := by
        rw [← List.drop_eq_getElem_cons h2, List.take_append_drop]
      rw [hs] at hp
      have := (List.pairwise_cons.1 (List.pairwise_append.1 hp).2.1).1 t ht
      have : ¬ t.1 = i := fun e => by rw [hk, e] at this; exact Int.lt_irrefl _ this
      simp [idH, this]
    have e : l = l.take (j + 1) ++ l.drop (j + 1) := (List.take_append_drop _ _).symm
    unfold cutOut
    conv => rhs; rw [e]
    rw [List.filter_append, h4, hrest]

theorem cutR_loop (l : List (El THost)) (i : Int) (hl : fits (.sl THost) l = true) (h64 : l.length ≤ 64) : ∀ (n k : Nat), l.length = k + n → cutR.l1 (n + 1) i l l.length k ((l.take k).filter fun x => !idH i x) = some (.tup [.c (.sl THost (l.filter fun x => !idH i x)), vi .i64 0], [])
  | 0, k, hk => by
    have : k = l.length := by omega
    subst this
    rw [cutR.s1, cond_df (by omega), List.take_length]; rfl
  | n + 1, k, hk => by
    have hlim : lim 80 = 1759218604441 := by simp [lim]
    have hlt : k < l.length := by omega
    have hfl : ((l.take k).filter fun x => !idH i x).length ≤ k := Nat.le_trans (List.length_filter_le _ _) (by simp; omega)
    have ih := cutR_loop l i hl h64 n (k + 1) (by omega)
    rw [take_rdH hlt, List.filter_append] at ih
    have hcp : copyR.pre (rdEl THost l k, ()) = true := by simpa [copyR.pre] using fits_rd hl hlt
    rw [cutR.s1, cond_dt (by omega), test_d (by omega), test_d (by omega), toNat_cast, w64s (by omega)]
    by_cases hc : (rdEl THost l k).1 = i
    · have h1 : idH i (rdEl THost l k) = true := by simp [idH, hc]
      rw [cond_nf hc]
      simpa [h1] using ih
    · have h1 : idH i (rdEl THost l k) = false := by simp [idH, hc]
      rw [cond_nt hc, test_true hcp, test_d (by rw [hlim]; simp only [List.length_cons, List.length_nil]; omega)]
      simpa [h1] using ih

theorem cutR_ok : cutR.OK := cutR.mk (mayTR_ok.cons' (findR_ok.cons' (copyR_ok.cons' SpecsOK.nil))) fun l i hx => by
  have hf : (fits (.sl THost) l && (true && true)) = true := hx
  simp only [Bool.and_eq_true] at hf
  refine ⟨l.length + 2, ?_⟩
  have hres : cutR.res (l, i, ()) = .tup [.c (.sl THost (cutL l i)), vi .i64 (cutE l i)] := rfl
  have hback : cutR.back (l, i, ()) = [] := rfl
  rw [cutR.start, hres, hback, test_true (show mayTR.pre (l, ()) = true by
    show (fits (.sl THost) l && true) = true
    rw [hf.1]; rfl)]
  unfold cutL cutE
  cases hm : mayTB l with
  | false => rfl
  | true =>
    have h64 := may_len hm
    rw [Bool.not_true, cond_false, cond_false, test_true (show findR.pre (l, i, ()) = true from hx), any_lt]
    cases ha : l.any (idH i) with
    | false => rfl
    | true =>
      rw [Bool.not_true, cond_false, cond_false]
      show _ = some (IV.tup [.c (.sl THost (cutOut l (ixOf (idH i) l).toNat ((ixOf (idH i) l).toNat + 1))), vi .i64 0], [])
      rw [cut_filter (may_rises hm) ha]
      exact cutR_loop l i hf.1 h64 l.length 0 (by omega)

/-! ### changes -/

theorem ixI_ok : ixI.OK := ixI.mk SpecsOK.nil fun l p hx => by
  have h : (fits (.sl (.int .i64)) l && (true && true)) = true := hx
  simp only [Bool.and_eq_true] at h
  have hb := fits_len' (n := 8) h.1 rfl
  have hr := reach_lt
  refine ⟨l.length + 2, ?_⟩
  rw [ixI.start]
  exact loop_ix (t := .int .i64) l (intEq p) (fun m k => ixI.l1 m l p l.length k) (fun i => some (vi .i64 i, [])) (fun m k hk => by
    rw [ixI.s1, cond_dt (by omega), test_d (by omega), test_d (by omega), w64s (by omega), toNat_cast]; rfl) (fun m => by rw [ixI.s1, cond_df (by omega)]; rfl)
theorem contI_ok : contI.OK := contI.mk (ixI_ok.cons' SpecsOK.nil) fun l p hx => ⟨1, by
  rw [contI.start, test_true (show ixI.pre (l, p, ()) = true from hx)]
  exact congrArg (fun b => some (vb b, [])) (VE.ixOf_any (intEq p) l)⟩

theorem ids_len (l : List (El THost)) : (idsL l).length = l.length := List.length_map ..
theorem ids_app (l m : List (El THost)) : idsL (l ++ m) = idsL l ++ idsL m := List.map_append ..

/-- A step of the first loop: what stays, what comes. -/
theorem stays_tree (l : List (El THost)) (h : El THost) {A B : R} :
    cond (decide (ixOf (idH h.1) l ≥ 0)) (
       test (decide ((0 : Int) ≤ ixOf (idH h.1) l)) (
        test (decide (ixOf (idH h.1) l < (l.length : Int))) (
         cond ((ByteArray.toList (rdEl THost l (Int.toNat (ixOf (idH h.1) l))).2.1) == (ByteArray.toList h.2.1)) A B))) B = cond (staysB l h) A B := by
  unfold staysB
  rcases ix_cases l h.1 with ⟨h1, _⟩ | ⟨j, h1, h2, _⟩
  · rw [h1]; rfl
  · rw [h1, cond_dt (by omega), dec_t (show (j : Int) ≥ 0 by omega), test_true rfl, test_d (by omega)]; rfl

theorem stays_not (l : List (El THost)) (h : El THost) {A B : R} :
    cond (decide (ixOf (idH h.1) l < 0)) B (
       test (decide ((0 : Int) ≤ ixOf (idH h.1) l)) (
        test (decide (ixOf (idH h.1) l < (l.length : Int))) (
         cond (Bool.not ((ByteArray.toList (rdEl THost l (Int.toNat (ixOf (idH h.1) l))).2.1) == (ByteArray.toList h.2.1))) B A))) = cond (staysB l h) A B := by
  unfold staysB
  rcases ix_cases l h.1 with ⟨h1, _⟩ | ⟨j, h1, h2, _⟩
  · rw [h1]; rfl
  · rw [h1, cond_df (show ¬ (j : Int) < 0 by omega), dec_t (show (j : Int) ≥ 0 by omega), test_true rfl, test_d (by omega), Bool.true_and]
    cases ((ByteArray.toList (rdEl THost l (Int.toNat (j : Int))).2.1) == (ByteArray.toList h.2.1)) <;> rfl

def stayAt (l m : List (El THost)) (k : Nat) : List Int := idsL ((m.take k).filter (staysB l))
def comeAt (l m : List (El THost)) (k : Nat) : List Int := idsL ((m.take k).filter fun h => !staysB l h)

theorem at_len (p : El THost → Bool) (m : List (El THost)) (k : Nat) : (idsL ((m.take k).filter p)).length ≤ k := by
  rw [ids_len]
  exact Nat.le_trans (List.length_filter_le _ _) (by rw [List.length_take]; omega)

theorem at_next (p : El THost → Bool) (m : List (El THost)) {k : Nat} (hk : k < m.length) : idsL ((m.take (k + 1)).filter p) = idsL ((m.take k).filter p) ++ (bif p (rdEl THost m k) then [(rdEl THost m k).1] else []) := by
  rw [take_rdH hk, List.filter_append, ids_app]
  congr 1
  rw [List.filter_cons]
  cases p (rdEl THost m k) <;> rfl

theorem change_loop (l m : List (El THost)) (hl : fits (.sl THost) l = true) (h64 : m.length ≤ 64) {r : R} {f : Nat} (K : change.l2 f l l.length 0 (comeAt l m m.length) [] (stayAt l m m.length) = r) : ∀ (n k : Nat), m.length = k + n → change.l1 (n + 1 + f) l m m.length k (comeAt l m k) [] (stayAt l m k) = r
  | 0, k, hk => by
    have : k = m.length := by omega
    subst this
    rw [show 0 + 1 + f = f + 1 by omega, change.s1, cond_df (by omega)]
    exact K
  | n + 1, k, hk => by
    have hlim : lim 8 = 17592186044416 := by simp [lim]
    have hlt : k < m.length := by omega
    have ih := change_loop l m hl h64 K n (k + 1) (by omega)
    unfold comeAt stayAt at ih ⊢
    have s1 := at_next (staysB l) m hlt
    have s2 := at_next (fun h => !staysB l h) m hlt
    have l1 := at_len (staysB l) m k
    have l2 := at_len (fun h => !staysB l h) m k
    rw [s1, s2] at ih
    rw [show n + 1 + 1 + f = (n + 1 + f) + 1 by omega, change.s1, cond_dt (by omega), test_d (by omega), test_d (by omega), toNat_cast, w64s (by omega)]
    refine (test_true (show find.pre (l, (rdEl THost m k).1, ()) = true by
      show (fits (.sl THost) l && (true && true)) = true
      rw [hl]; rfl)).trans ?_
    rw [test_d (k := change.l1 _ _ _ _ _ _ _ (_ ++ _)) (show _ ≤ lim 8 by rw [hlim]; simp only [List.length_cons, List.length_nil]; omega)]
    rw [test_d (k := change.l1 _ _ _ _ _ (_ ++ _) _ _) (show _ ≤ lim 8 by rw [hlim]; simp only [List.length_cons, List.length_nil]; omega)]
    refine (stays_tree l (rdEl THost m k)).trans ?_
    cases hs : staysB l (rdEl THost m k) with
    | true =>
      rw [hs] at ih
      simp only [Bool.not_true, cond_true, cond_false, List.append_nil] at ih
      exact ih
    | false =>
      rw [hs] at ih
      simp only [Bool.not_false, cond_true, cond_false, List.append_nil] at ih
      exact ih

def goneAt (l : List (El THost)) (p : El THost → Bool) (k : Nat) : List Int := idsL ((l.take k).filter p)

theorem change_loop2 (l : List (El THost)) (c st : List Int) (hst : fits (.sl (.int .i64)) st = true) (h64 : l.length ≤ 64) : ∀ (n k : Nat), l.length = k + n →
    change.l2 (n + 1) l l.length k c (goneAt l (fun h => !st.any (intEq h.1)) k) st = some (.tup [.c (.sl (.int .i64) c), .c (.sl (.int .i64) (idsL (l.filter fun h => !st.any (intEq h.1)))), .c (.sl (.int .i64) st), vi .i64 0], [])
  | 0, k, hk => by
    have : k = l.length := by omega
    subst this
    unfold goneAt
    rw [change.s2, cond_df (by omega), List.take_length]; rfl
  | n + 1, k, hk => by
    have hlim : lim 8 = 17592186044416 := by simp [lim]
    have hlt : k < l.length := by omega
    have ih := change_loop2 l c st hst h64 n (k + 1) (by omega)
    unfold goneAt at ih ⊢
    have s1 := at_next (fun h => !st.any (intEq h.1)) l hlt
    have l1 := at_len (fun h => !st.any (intEq h.1)) l k
    rw [s1] at ih
    rw [change.s2, cond_dt (by omega), test_d (by omega), test_d (by omega), toNat_cast, w64s (by omega), test_true (show contI.pre (st, (rdEl THost l k).1, ()) = true by
      show (fits (.sl (.int .i64)) st && (true && true)) = true
      rw [hst]; rfl), test_d (show _ ≤ lim 8 by rw [hlim]; simp only [List.length_cons, List.length_nil]; omega)]
    cases hs : st.any (intEq (rdEl THost l k).1) with
    | true =>
      rw [hs] at ih
      simp only [Bool.not_true, cond_false, List.append_nil] at ih
      rw [Bool.not_true, cond_false]
      exact ih
    | false =>
      rw [hs] at ih
      simp only [Bool.not_false, cond_true] at ih
      rw [Bool.not_false, cond_true]
      exact ih

theorem fits_ints {l : List Int} (h : l.length ≤ 64) : fits (.sl (.int .i64)) l = true := fits_sl (t := .int .i64) (by
  have hR : reachBytes = 140737488351232 := rfl
  show l.length * 8 ≤ _; omega) fun _ _ => rfl

theorem change_ok : change.OK := change.mk (mayT_ok.cons' (find_ok.cons' (contI_ok.cons' SpecsOK.nil))) fun l m hx => by
  have hf : (fits (.sl THost) l && (fits (.sl THost) m && true)) = true := hx
  simp only [Bool.and_eq_true] at hf
  refine ⟨m.length + 1 + (l.length + 1) + 1, ?_⟩
  have hres : change.res (l, m, ()) = .tup [.c (.sl (.int .i64) (comeL l m)), .c (.sl (.int .i64) (goneL l m)), .c (.sl (.int .i64) (stayL l m)), vi .i64 (changeE l m)] := rfl
  have hback : change.back (l, m, ()) = [] := rfl
  rw [change.start, hres, hback, test_true (show mayT.pre (l, ()) = true by
    show (fits (.sl THost) l && true) = true
    rw [hf.1]; rfl)]
  unfold comeL goneL stayL changeE mayCB
  cases h1 : mayTB l with
  | false => rfl
  | true =>
    rw [Bool.not_true, cond_false, test_true (show mayT.pre (m, ()) = true by
      show (fits (.sl THost) m && true) = true
      rw [hf.2.1]; rfl)]
    cases h2 : mayTB m with
    | false => rfl
    | true =>
      have l1 := may_len h1
      have l2 := may_len h2
      have l3 := at_len (staysB l) m m.length
      have K := change_loop2 l (comeAt l m m.length) (stayAt l m m.length) (fits_ints (by unfold stayAt; omega)) l1 l.length 0 (by omega)
      have L := change_loop l m hf.1 l2 K m.length 0 (by omega)
      have z1 : comeAt l m 0 = [] := rfl
      have z2 : stayAt l m 0 = [] := rfl
      rw [z1, z2] at L
      unfold comeAt stayAt at L
      rw [List.take_length] at L
      rw [Bool.not_true, cond_false]
      exact L

theorem changeR_loop (l m : List (El THost)) (hl : fits (.sl THost) l = true) (h64 : m.length ≤ 64) {r : R} {f : Nat} (K : changeR.l2 f m l l.length 0 (comeAt l m m.length) [] (stayAt l m m.length) = r) : ∀ (n k : Nat), m.length = k + n → changeR.l1 (n + 1 + f) l m m m.length k (comeAt l m k) [] (stayAt l m k) = r
  | 0, k, hk => by
    have : k = m.length := by omega
    subst this
    rw [show 0 + 1 + f = f + 1 by omega, changeR.s1, cond_df (by omega)]
    exact K
  | n + 1, k, hk => by
    have hlim : lim 8 = 17592186044416 := by simp [lim]
    have hlt : k < m.length := by omega
    have ih := changeR_loop l m hl h64 K n (k + 1) (by omega)
    unfold comeAt stayAt at ih ⊢
    have s1 := at_next (staysB l) m hlt
    have s2 := at_next (fun h => !staysB l h) m hlt
    have l1 := at_len (staysB l) m k
    have l2 := at_len (fun h => !staysB l h) m k
    rw [s1, s2] at ih
    rw [show n + 1 + 1 + f = (n + 1 + f) + 1 by omega, changeR.s1, cond_dt (by omega), test_d (by omega), test_d (by omega), toNat_cast, w64s (by omega)]
    refine (test_true (show findR.pre (l, (rdEl THost m k).1, ()) = true by
      show (fits (.sl THost) l && (true && true)) = true
      rw [hl]; rfl)).trans ?_
    rw [test_d (k := changeR.l1 _ _ _ _ _ _ _ _ (_ ++ _)) (show _ ≤ lim 8 by rw [hlim]; simp only [List.length_cons, List.length_nil]; omega)]
    rw [test_d (k := changeR.l1 _ _ _ _ _ _ (_ ++ _) _ _) (show _ ≤ lim 8 by rw [hlim]; simp only [List.length_cons, List.length_nil]; omega)]
    refine (stays_tree l (rdEl THost m k)).trans ?_
    cases hs : staysB l (rdEl THost m k) with
    | true =>
      rw [hs] at ih
      simp only [Bool.not_true, cond_true, cond_false, List.append_nil] at ih
      exact ih
    | false =>
      rw [hs] at ih
      simp only [Bool.not_false, cond_true, cond_false, List.append_nil] at ih
      exact ih

theorem changeR_loop2 (l m : List (El THost)) (c st : List Int) (hm : fits (.sl THost) m = true) (h64 : l.length ≤ 64) : ∀ (n k : Nat), l.length = k + n →
    changeR.l2 (n + 1) m l l.length k c (goneAt l (fun h => !staysB m h) k) st = some (.tup [.c (.sl (.int .i64) c), .c (.sl (.int .i64) (idsL (l.filter fun h => !staysB m h))), .c (.sl (.int .i64) st), vi .i64 0], [])
  | 0, k, hk => by
    have : k = l.length := by omega
    subst this
    unfold goneAt
    rw [changeR.s2, cond_df (by omega), List.take_length]; rfl
  | n + 1, k, hk => by
    have hlim : lim 8 = 17592186044416 := by simp [lim]
    have hlt : k < l.length := by omega
    have ih := changeR_loop2 l m c st hm h64 n (k + 1) (by omega)
    unfold goneAt at ih ⊢
    have s1 := at_next (fun h => !staysB m h) l hlt
    have l1 := at_len (fun h => !staysB m h) l k
    rw [s1] at ih
    rw [changeR.s2, cond_dt (by omega), test_d (by omega), test_d (by omega), toNat_cast, w64s (by omega)]
    refine (test_true (show findR.pre (m, (rdEl THost l k).1, ()) = true by
      show (fits (.sl THost) m && (true && true)) = true
      rw [hm]; rfl)).trans ?_
    repeat rw [test_d (k := changeR.l2 _ _ _ _ _ _ (_ ++ _) _) (show _ ≤ lim 8 by rw [hlim]; simp only [List.length_cons, List.length_nil]; omega)]
    refine (stays_not m (rdEl THost l k)).trans ?_
    cases hs : staysB m (rdEl THost l k) with
    | true =>
      rw [hs] at ih
      simp only [Bool.not_true, cond_false, List.append_nil] at ih
      rw [cond_true]
      exact ih
    | false =>
      rw [hs] at ih
      simp only [Bool.not_false, cond_true] at ih
      rw [cond_false]
      exact ih

theorem changeR_ok : changeR.OK := changeR.mk (mayTR_ok.cons' (findR_ok.cons' SpecsOK.nil)) fun l m hx => by
  have hf : (fits (.sl THost) l && (fits (.sl THost) m && true)) = true := hx
  simp only [Bool.and_eq_true] at hf
  refine ⟨m.length + 1 + (l.length + 1) + 1, ?_⟩
  have hres : changeR.res (l, m, ()) = .tup [.c (.sl (.int .i64) (comeL l m)), .c (.sl (.int .i64) (goneR l m)), .c (.sl (.int .i64) (stayL l m)), vi .i64 (changeE l m)] := rfl
  have hback : changeR.back (l, m, ()) = [] := rfl
  rw [changeR.start, hres, hback, test_true (show mayTR.pre (l, ()) = true by
    show (fits (.sl THost) l && true) = true
    rw [hf.1]; rfl)]
  unfold comeL goneR stayL changeE mayCB
  cases h1 : mayTB l with
  | false => rfl
  | true =>
    rw [Bool.not_true, cond_false, test_true (show mayTR.pre (m, ()) = true by
      show (fits (.sl THost) m && true) = true
      rw [hf.2.1]; rfl)]
    cases h2 : mayTB m with
    | false => rfl
    | true =>
      have l1 := may_len h1
      have l2 := may_len h2
      have K := changeR_loop2 l m (comeAt l m m.length) (stayAt l m m.length) hf.2.1 l1 l.length 0 (by omega)
      have L := changeR_loop l m hf.1 l2 K m.length 0 (by omega)
      have z1 : comeAt l m 0 = [] := rfl
      have z2 : stayAt l m 0 = [] := rfl
      rw [z1, z2] at L
      unfold comeAt stayAt at L
      rw [List.take_length] at L
      rw [Bool.not_true, cond_false]
      exact L

/-! ### alike, light -/

theorem sameHR_ok : sameHR.OK := sameHR.mk (sameR_ok.cons' SpecsOK.nil) fun l m hx => by
  have hh : fits (.sl THost) l = true ∧ fits (.sl THost) m = true := by simpa [sameHR.pre] using hx
  have hb := host_len hh.1
  have hr := reach_lt
  refine ⟨l.length + 2, ?_⟩
  rw [sameHR.start]
  show _ = some (vb (sameHB l m), _)
  unfold sameHB
  by_cases hlm : l.length = m.length
  · rw [cond_nf (by omega), dec_t hlm]
    have h := loop_any (fun k => !sameB (rdEl THost l k) (rdEl THost m k)) l.length (fun f k => sameHR.l1 f l m l.length k) (some (vb false, [])) (some (vb true, [])) (fun f k hk => ?_) (fun f => ?_) l.length 0 (by omega)
    · refine h.trans ?_
      cases anyN (fun k => !sameB (rdEl THost l k) (rdEl THost m k)) 0 l.length <;> rfl
    · rw [sameHR.s1, cond_dt (by omega), test_d (by omega), test_d (by omega), test_d (by omega), test_d (by omega), toNat_cast, w64s (by omega), test_true (by simpa [sameR.pre] using ⟨fits_rd hh.1 hk, fits_rd hh.2 (by omega)⟩)]
      rfl
    · rw [sameHR.s1, cond_df (by omega)]; rfl
  · rw [cond_nt (by omega), dec_f hlm]; rfl

theorem eqIs_len : ∀ {l m : List Int}, l.length ≠ m.length → eqIs l m = false
  | [], [], h => absurd rfl h
  | [], _ :: _, _ => rfl
  | _ :: _, [], _ => rfl
  | a :: l, b :: m, h => by
    show ((a == b) && eqIs l m) = false
    rw [eqIs_len fun e => h (by simp [e]), Bool.and_false]

theorem ints_loop (l m : List Int) (he : l.length = m.length) (hb : l.length * 8 ≤ reachBytes) : ∀ (n k : Nat), l.length = k + n → ints.l1 (n + 1) l m l.length k = some (vb (eqIs (l.drop k) (m.drop k)), [])
  | 0, k, hk => by
    have e1 : l.drop k = [] := List.drop_eq_nil_of_le (by omega)
    have e2 : m.drop k = [] := List.drop_eq_nil_of_le (by omega)
    rw [ints.s1, cond_df (by omega), e1, e2]; rfl
  | n + 1, k, hk => by
    have hr := reach_lt
    have h1 : k < l.length := by omega
    have h2 : k < m.length := by omega
    have e : eqIs (l.drop k) (m.drop k) = ((rdEl (.int .i64) l k == rdEl (.int .i64) m k) && eqIs (l.drop (k + 1)) (m.drop (k + 1))) := by
      have e1 : l.drop k = rdEl (.int .i64) l k :: l.drop (k + 1) := rdEl_drop (t := .int .i64) l h1
      have e2 : m.drop k = rdEl (.int .i64) m k :: m.drop (k + 1) := rdEl_drop (t := .int .i64) m h2
      rw [e1, e2]; rfl
    rw [ints.s1, cond_dt (by omega), test_d (by omega), test_d (by omega), test_d (by omega), test_d (by omega), toNat_cast, w64s (by omega), e, ints_loop l m he hb n (k + 1) (by omega)]
    unfold bne
    cases (rdEl (.int .i64) l k == rdEl (.int .i64) m k) <;> rfl

theorem ints_ok : ints.OK := ints.mk SpecsOK.nil fun l m hx => by
  have hf : (fits (.sl (.int .i64)) l && (fits (.sl (.int .i64)) m && true)) = true := hx
  simp only [Bool.and_eq_true] at hf
  have hb := fits_len' (n := 8) hf.1 rfl
  refine ⟨l.length + 2, ?_⟩
  have hres : ints.res (l, m, ()) = vb (eqIs l m) := rfl
  rw [ints.start, hres]
  by_cases h : l.length = m.length
  · rw [cond_nf (by omega)]
    exact ints_loop l m h hb l.length 0 (by omega)
  · rw [cond_nt (by omega), eqIs_len h]; rfl

theorem lightT_ok : lightT.OK := lightT.mk (light_ok.cons' SpecsOK.nil) fun l hx => by
  have hl : fits (.sl THost) l = true := by simpa [lightT.pre] using hx
  have hb := host_len hl
  have hr := reach_lt
  refine ⟨l.length + 2, ?_⟩
  rw [lightT.start]
  have h := loop_any (fun k => decide (80 < k) || decide (lightI (rdEl THost l k) > 0)) l.length (fun m k => lightT.l1 m l l.length k) (some (vi .i64 1, [])) (some (vi .i64 0, [])) (fun m k hk => ?_) (fun m => ?_) l.length 0 (by omega)
  · refine h.trans ?_
    show _ = some (vi .i64 (lightTI l), _)
    unfold lightTI
    cases anyN (fun k => decide (80 < k) || decide (lightI (rdEl THost l k) > 0)) 0 l.length <;> rfl
  · rw [lightT.s1, cond_dt (by omega), test_d (by omega), test_d (by omega), toNat_cast, w64s (by omega), test_true (by simpa [light.pre] using fits_rd hl hk)]
    by_cases h8 : 80 < k
    · rw [cond_dt (by omega), dec_t h8]; rfl
    · rw [cond_df (by omega), dec_f h8, Bool.false_or]; rfl
  · rw [lightT.s1, cond_df (by omega)]; rfl

end Go.Proofs.Ytlbdljebmjajdaa
