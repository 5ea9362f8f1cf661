/-
  Rows of keys: each function's contract.
-/
import Derived.Test.YtlaifjifgoadkaaOF
import Derived.Test.YtlaifjifgoadkaaOS
namespace Go.Proofs.Ytlaifjifgoadkaa
open Go VE

theorem less_ok : less.OK := less.mk .nil fun a b hx => ⟨1, by
  have hres : less.res (a, b, ()) = vb (less a b) := rfl
  rw [less.start, hres]
  unfold less
  show cond (decide (kA a < kA b)) (some (vb true, [])) (cond (kA a == kA b) (some (vb (decide (kB a < kB b)), [])) (some (vb false, []))) = _
  cases decide (kA a < kA b) <;> cases (kA a == kA b) <;> rfl⟩

theorem ky_len {l : List Ky} (h : fits (.sl TKey) l = true) : l.length * 16 ≤ reachBytes ∧ l.length ≤ 8796093022208 := by
  have h1 : l.length * 16 ≤ reachBytes := of_decide_eq_true (Bool.and_eq_true_iff.1 h).1
  have hR : reachBytes = 140737488351232 := rfl
  exact ⟨h1, by omega⟩
theorem fits_ky {l : List Ky} (h : l.length ≤ 1000000) : fits (.sl TKey) l = true := by
  have hR : reachBytes = 140737488351232 := rfl
  exact Bool.and_eq_true_iff.2 ⟨decide_eq_true (show l.length * 16 ≤ reachBytes by omega), List.all_eq_true.2 fun e _ => rfl⟩

theorem rising_loop : ∀ (m k : Nat) (l : List Ky), l.length ≤ 8796093022208 → l.length ≤ k + m → rising.l1 (m + 1) l ((k : Int) + 1) = some (vb (rising (l.drop k)), [])
  | 0, k, l, hl, hk => by
    rw [rising.s1, cond_df (by omega)]
    rw [List.drop_eq_nil_of_le (by omega)]; rfl
  | m + 1, k, l, hl, hk => by
    rw [rising.s1]
    by_cases h : k + 1 < l.length
    · have e1 : IntKind.i64.wrap ((k : Int) + 1 - 1) = (k : Int) := by rw [w64] <;> omega
      have e2 : IntKind.i64.wrap ((k : Int) + 1 + 1) = ((k + 1 : Nat) : Int) + 1 := by rw [w64] <;> omega
      have e3 : ((k : Int) + 1).toNat = k + 1 := by omega
      rw [cond_dt (by omega), e1, e2, e3, test_d (by omega), test_d (by omega), test_d (by omega), test_d (by omega), rising_loop m (k + 1) l hl (by omega)]
      rw [rdEl_drop (t := TKey) l (show k < l.length by omega), rdEl_drop (t := TKey) l h]
      have e4 : (k : Int).toNat = k := by omega
      rw [e4]
      simp only [rising]
      cases less (rdEl TKey l k) (rdEl TKey l (k + 1)) <;> rfl
    · rw [cond_df (by omega)]
      have : rising (l.drop k) = true := by
        have h1 : (l.drop k).length ≤ 1 := by rw [List.length_drop]; omega
        match l.drop k, h1 with
        | [], _ => rfl
        | [_], _ => rfl
      rw [this]; rfl

theorem rising_ok : rising.OK := rising.mk (less_ok.cons' .nil) fun l hx => by
  have hl := (ky_len (Bool.and_eq_true_iff.1 hx).1).2
  refine ⟨l.length + 2, ?_⟩
  rw [rising.start]
  exact rising_loop l.length 0 l hl (by omega)

/-! ### merged -/

theorem lim16 : lim 16 = 8796093022207 ∨ 1000000 ≤ lim 16 := .inr (by decide)

theorem merge_loop : ∀ (m : Nat) (l k out : List Ky), l.length + k.length ≤ m → out.length + l.length + k.length ≤ 1000000 →
    merge.l1 (m + 1) l k out = some (.c (.sl TKey (out ++ merge l k)), [])
  | m, [], [], out, _, _ => by
    rw [merge.s1, merge_nil, List.append_nil]; rfl
  | 0, a :: l, k, out, h, _ => by simp at h
  | 0, [], b :: k, out, h, _ => by simp at h
  | m + 1, a :: l, [], out, h, hb => by
    have hlim : 1000000 ≤ lim 16 := by decide
    simp only [List.length_cons, List.length_nil] at h hb
    have ih := merge_loop m l [] (out ++ [a]) (by simp <;> omega) (by simp <;> omega)
    rw [merge.s1]
    have e0 : (((a :: l).length : Int) == 0) = false := by simp <;> omega
    have e1 : ((([] : List Ky).length : Int) == 0) = true := rfl
    rw [cond_f e0, cond_t e1, test_d (by simp <;> omega), test_d (by simp <;> omega), test_d (by simp <;> omega)]
    have e2 : List.drop (Int.toNat 1) (List.take (a :: l).length (a :: l)) = l := by rw [List.take_length]; rfl
    have e3 : rdEl TKey (a :: l) (Int.toNat 0) = a := rfl
    rw [e2, e3, ih, merge_nil', merge_nil', List.append_assoc]; rfl
  | m + 1, [], b :: k, out, h, hb => by
    have hlim : 1000000 ≤ lim 16 := by decide
    simp only [List.length_cons, List.length_nil] at h hb
    have ih := merge_loop m [] k (out ++ [b]) (by simp <;> omega) (by simp <;> omega)
    rw [merge.s1]
    have e0 : (((b :: k).length : Int) == 0) = false := by simp <;> omega
    have e1 : ((([] : List Ky).length : Int) == 0) = true := rfl
    rw [cond_t e1, cond_f e0, cond_f e0, cond_df (by simp), test_d (by simp <;> omega), test_d (by simp <;> omega), test_d (by simp <;> omega)]
    have e2 : List.drop (Int.toNat 1) (List.take (b :: k).length (b :: k)) = k := by rw [List.take_length]; rfl
    have e3 : rdEl TKey (b :: k) (Int.toNat 0) = b := rfl
    rw [e2, e3, ih, merge_nil, merge_nil, List.append_assoc]; rfl
  | m + 1, a :: l, b :: k, out, h, hb => by
    have hlim : 1000000 ≤ lim 16 := by decide
    simp only [List.length_cons] at h hb
    have ih1 := merge_loop m l (b :: k) (out ++ [a]) (by simp <;> omega) (by simp <;> omega)
    have ih2 := merge_loop m (a :: l) k (out ++ [b]) (by simp <;> omega) (by simp <;> omega)
    rw [merge.s1]
    have e0 : (((a :: l).length : Int) == 0) = false := by simp <;> omega
    have e1 : (((b :: k).length : Int) == 0) = false := by simp <;> omega
    have a2 : List.drop (Int.toNat 1) (List.take (a :: l).length (a :: l)) = l := by rw [List.take_length]; rfl
    have b2 : List.drop (Int.toNat 1) (List.take (b :: k).length (b :: k)) = k := by rw [List.take_length]; rfl
    have a3 : rdEl TKey (a :: l) (Int.toNat 0) = a := rfl
    have b3 : rdEl TKey (b :: k) (Int.toNat 0) = b := rfl
    rw [cond_f e0, cond_f e1, cond_dt (by simp <;> omega), test_d (by simp <;> omega), test_d (by simp <;> omega), a2, b2, a3, b3, merge_cons]
    cases less b a with
    | true =>
      rw [Bool.not_true, cond_false, test_d (by simp <;> omega), test_d (by simp <;> omega), test_d (by simp <;> omega), ih2]
      simp
    | false =>
      rw [Bool.not_false, cond_true, test_d (by simp <;> omega), test_d (by simp <;> omega), test_d (by simp <;> omega), ih1]
      simp

theorem merge_ok : merge.OK := merge.mk (less_ok.cons' .nil) fun l m hx => by
  have h : (fits (.sl TKey) l && (fits (.sl TKey) m && (decide (List.length l + List.length m ≤ 1000000) && true))) = true := hx
  simp only [Bool.and_eq_true, decide_eq_true_eq] at h
  obtain ⟨_, _, h1, _⟩ := h
  have hlim : 1000000 ≤ lim 16 := by decide
  refine ⟨List.length l + List.length m + 2, ?_⟩
  have w : IntKind.i64.wrap ((List.length l : Int) + (List.length m : Int)) = (List.length l : Int) + (List.length m : Int) := by rw [w64] <;> omega
  rw [merge.start, w, test_d (by omega), test_d (by omega)]
  exact merge_loop (List.length l + List.length m) l m [] (Nat.le_refl _) (by simp <;> omega)

/-! ### sorted -/

abbrev sortPre (N : Nat) : ElA sort.ps → Bool := fun (x : (List (El TKey)) × Unit) => decide (List.length x.1 < N) && sort.pre x

theorem sort_pre {l : List Ky} (h : l.length ≤ 1000000) : sort.pre (l, ()) = true := by
  show (fits (.sl TKey) l && (decide (List.length l ≤ 1000000) && true)) = true
  rw [fits_ky h, dec_t h]; rfl

theorem merge_pre {l m : List Ky} (h : l.length + m.length ≤ 1000000) : merge.pre (l, m, ()) = true := by
  show (fits (.sl TKey) l && (fits (.sl TKey) m && (decide (List.length l + List.length m ≤ 1000000) && true))) = true
  rw [fits_ky (by omega), fits_ky (by omega), dec_t h]; rfl

theorem sortN_ok : ∀ N, SpecOK Try.prog 9 (spOf sort.ps (sortPre N) sort.res)
  | 0 => specOf_ret Try.func9 (by kernel_rfl) (by kernel_rfl) fun (x : (List (El TKey)) × Unit) hx => by
    have h := (Bool.and_eq_true_iff.1 hx).1
    simp at h
  | N + 1 => specOf_ret Try.func9 (by kernel_rfl) (by kernel_rfl) fun (x : (List (El TKey)) × Unit) hx => by
    obtain ⟨l, _⟩ := x
    obtain ⟨h1, h2⟩ := Bool.and_eq_true_iff.1 hx
    have h1 : l.length < N + 1 := of_decide_eq_true h1
    have h2 : (fits (.sl TKey) l && (decide (List.length l ≤ 1000000) && true)) = true := h2
    simp only [Bool.and_eq_true, decide_eq_true_eq] at h2
    obtain ⟨_, h3, _⟩ := h2
    have hlim : 1000000 ≤ lim 16 := by decide
    have hres : sort.res (l, ()) = .c (.sl TKey (sort l)) := rfl
    have hgo : sort.go N 1 l = some (sort.res (l, ()), []) := by
      rw [sort.start, hres, sort_rec l]
      by_cases h4 : List.length l < 2
      · rw [cond_dt (by omega), test_d (by omega), if_pos h4]
      · have w : IntKind.i64.wrap (Int.tdiv (List.length l : Int) 2) = ((List.length l / 2 : Nat) : Int) := by
          rw [Int.tdiv_eq_ediv_of_nonneg (by omega), w64] <;> omega
        have t : (((List.length l / 2 : Nat) : Int)).toNat = List.length l / 2 := by omega
        have l1 : (List.take (List.length l / 2) l).length = List.length l / 2 := by rw [List.length_take]; omega
        have l2 : (List.drop (List.length l / 2) l).length = List.length l - List.length l / 2 := by rw [List.length_drop]
        have s1 := sort_length _ (List.take (List.length l / 2) l) (Nat.le_refl _)
        have s2 := sort_length _ (List.drop (List.length l / 2) l) (Nat.le_refl _)
        have p1 : (decide (List.length (List.take (List.length l / 2) l) < N) && sort.pre (List.take (List.length l / 2) l, ())) = true := by
          rw [dec_t (by omega), sort_pre (by omega)]; rfl
        have p2 : (decide (List.length (List.drop (List.length l / 2) l) < N) && sort.pre (List.drop (List.length l / 2) l, ())) = true := by
          rw [dec_t (by omega), sort_pre (by omega)]; rfl
        have p3 : merge.pre (sort (List.take (List.length l / 2) l), sort (List.drop (List.length l / 2) l), ()) = true := by
          exact merge_pre (by omega)
        rw [cond_df (by omega), w, t, List.drop_zero, List.take_length, if_neg h4]
        rw [test_d (by omega), test_d (by omega), test_true p1, test_d (by omega), test_d (by omega), test_true p2, test_true p3]
    exact sort.ret N (merge_ok.cons' ((sortN_ok N).cons' SpecsOK.nil)) l hgo

theorem sort_ok : sort.OK := ⟨(sortN_ok 0).call, fun args k r h => by
  have h : spOf sort.ps sort.pre sort.res args k = some r := h
  unfold spOf at h
  cases hd : decA sort.ps args with
  | none => rw [hd] at h; cases h
  | some x =>
    rw [hd] at h
    obtain ⟨l, u⟩ := x
    obtain ⟨h1, h2⟩ := test_some h
    have hp : sortPre (List.length l + 1) (l, u) = true := by
      show (decide (List.length l < List.length l + 1) && sort.pre (l, u)) = true
      rw [dec_t (Nat.lt_succ_self _), h1]; rfl
    have h4 : spOf sort.ps (sortPre (List.length l + 1)) sort.res args k = some r := by
      unfold spOf
      rw [hd]
      exact (test_true hp).trans h2
    obtain ⟨res, g1, g2⟩ := (sortN_ok (List.length l + 1)).ret _ _ _ h4
    refine ⟨res, fun k' => ?_, g2⟩
    rw [← g1 k']
    show spOf sort.ps sort.pre sort.res args k' = _
    unfold spOf
    rw [hd]
    exact (test_true h1).trans (test_true hp).symm⟩

/-! ### found -/

theorem find_loop : ∀ (n : Nat) (l : List Ky) (k : Ky) (lo hi : Nat), l.length ≤ 1000000 → lo ≤ hi → hi ≤ l.length → hi - lo ≤ n →
    find.l1 (n + 1) l (lo : Int) (hi : Int) k.1 k.2 =
      some (.tup [vi .i64 ((findN n l k lo hi : Nat) : Int), vb (decide (findN n l k lo hi < l.length) && ((kA (rdEl TKey l (findN n l k lo hi)) == kA k) && (kB (rdEl TKey l (findN n l k lo hi)) == kB k)))], [])
  | n, l, k, lo, hi, hl, h1, h2, h3 => by
    rw [find.s1]
    by_cases h : lo < hi
    · cases n with
      | zero => omega
      | succ n =>
        have m1 : IntKind.i64.wrap ((hi : Int) - (lo : Int)) = ((hi - lo : Nat) : Int) := by rw [w64] <;> omega
        have m2 : IntKind.i64.wrap (Int.tdiv ((hi - lo : Nat) : Int) 2) = (((hi - lo) / 2 : Nat) : Int) := by
          rw [Int.tdiv_eq_ediv_of_nonneg (by omega), w64] <;> omega
        have m3 : IntKind.i64.wrap ((lo : Int) + (((hi - lo) / 2 : Nat) : Int)) = ((lo + (hi - lo) / 2 : Nat) : Int) := by rw [w64] <;> omega
        have m4 : IntKind.i64.wrap (((lo + (hi - lo) / 2 : Nat) : Int) + 1) = ((lo + (hi - lo) / 2 + 1 : Nat) : Int) := by rw [w64] <;> omega
        rw [cond_dt (by omega), m1, m2, m3, m4, toNat_cast, test_d (by omega), test_d (by omega)]
        have e : findN (n + 1) l k lo hi = if less (rdEl TKey l (lo + (hi - lo) / 2)) k then findN n l k (lo + (hi - lo) / 2 + 1) hi else findN n l k lo (lo + (hi - lo) / 2) := by
          rw [findN, if_pos h]
        rw [e]
        cases hc : less (rdEl TKey l (lo + (hi - lo) / 2)) k with
        | true =>
          rw [cond_true, if_pos rfl]
          exact find_loop n l k _ hi hl (by omega) h2 (by omega)
        | false =>
          rw [cond_false, if_neg (by simp)]
          exact find_loop n l k lo _ hl (by omega) (by omega) (by omega)
    · rw [cond_df (by omega)]
      have e : findN n l k lo hi = lo := by
        cases n with
        | zero => rfl
        | succ n => rw [findN, if_neg h]
      rw [e]
      by_cases h4 : lo < l.length
      · rw [cond_dt (by omega), test_d (by omega), test_d (by omega), toNat_cast, dec_t h4]
        show some (IV.tup [vi .i64 (lo : Int), vb ((kA (rdEl TKey l lo) == kA k) && ((kB (rdEl TKey l lo) == kB k) && true))], ([] : List (Nat × Box))) = _
        rw [Bool.and_true, Bool.true_and]
      · rw [cond_df (by omega), dec_f h4]
        rfl

theorem find_ok : find.OK := find.mk (less_ok.cons' .nil) fun l k hx => by
  have h2 : (fits (.sl TKey) l && (fits TKey k && (decide (List.length l ≤ 1000000) && true))) = true := hx
  simp only [Bool.and_eq_true, decide_eq_true_eq] at h2
  refine ⟨List.length l + 2, ?_⟩
  rw [find.start]
  exact find_loop (List.length l) l k 0 (List.length l) h2.2.2.1 (by omega) (Nat.le_refl _) (by omega)

theorem awake_ok : awake.OK := awake.mk (sort_ok.cons' (find_ok.cons' (rising_ok.cons' .nil))) fun _ _ => ⟨1, by rw [awake.start]; rfl⟩

end Go.Proofs.Ytlaifjifgoadkaa
