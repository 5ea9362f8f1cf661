/-
  Rows of keys: the document's own sort, the copy of a row, the comparison of two rows.
-/
import Derived.Test.YtnpncjpgihgkcaaS
import Derived.Test.YtnpncjpgihgkcaaF11
namespace Go.Proofs.Ytnpncjpgihgkcaa
open Go VE

theorem less17 : SpecOK Try.prog 17 spLess := by
  refine specOK_of_run (cfg := cfg17) (cfgOK_of mixed tab_ok SpecsOK.nil) Try.func17 (by kernel_rfl) (by kernel_rfl) fun args k r h => ?_
  unfold spLess at h
  split at h
  · rename_i a b c d
    refine ⟨_, fun _ => rfl, by show 2 ≤ 24; omega, 1, ?_⟩
    have e : run cfg17 Try.f17.ntmps Try.f17.results.toList 1 [.code (bodyOf Try.f17)] (enter [.agg [.v (.int .i64 a), .v (.int .i64 b)], .agg [.v (.int .i64 c), .v (.int .i64 d)]]) = f17.go 1 a b c d := by kernel_rfl
    rw [e, f17.start]
    simp only [less, vb]
    by_cases h1 : a < c <;> by_cases h2 : a = c <;> simp [h1, h2, Bool.cond_eq_ite]
  · cases h

/-! ### the document's sort -/

/-- The row with a gap at p, as the inner loop keeps it. -/
structure Gap (o x : List (Int × Int)) (p : Nat) : Prop where
  len : x.length = o.length + 1
  le : p ≤ o.length
  low : ∀ j, j < p → rdEl TKey x j = rdEl TKey o j
  high : ∀ j, p < j → j ≤ o.length → rdEl TKey x j = rdEl TKey o (j - 1)

theorem rd_set {x : List (Int × Int)} {p j : Nat} {v : Int × Int} (hp : p < x.length) : rdEl TKey (x.set p v) j = if j = p then v else rdEl TKey x j := by
  show (x.set p v).getD j _ = if j = p then v else x.getD j _
  simp only [List.getD, List.getElem?_set]
  by_cases h : p = j
  · subst h; simp [hp]
  · have : ¬ j = p := fun e => h e.symm
    simp [h, this]

theorem list_ext {x y : List (Int × Int)} (hl : x.length = y.length) (h : ∀ j, j < x.length → rdEl TKey x j = rdEl TKey y j) : x = y := by
  refine List.ext_getElem hl fun j h1 h2 => ?_
  have := h j h1
  rwa [rd_lt h1, rd_lt h2] at this

theorem rd_mid (o : List (Int × Int)) (p : Nat) (k : Int × Int) (hp : p ≤ o.length) (j : Nat) : rdEl TKey (o.take p ++ k :: o.drop p) j = if j < p then rdEl TKey o j else if j = p then k else rdEl TKey o (j - 1) := by
  show (o.take p ++ k :: o.drop p).getD j _ = if j < p then o.getD j _ else if j = p then k else o.getD (j - 1) _
  have hl : (o.take p).length = p := by rw [List.length_take]; omega
  by_cases h1 : j < p
  · simp only [List.getD, if_pos h1]
    rw [List.getElem?_append_left (by omega), List.getElem?_take, if_pos h1]
  · simp only [List.getD, if_neg h1]
    rw [List.getElem?_append_right (by omega), hl]
    by_cases h2 : j = p
    · subst h2; simp
    · rw [if_neg h2]
      have : j - p = (j - 1 - p) + 1 := by omega
      rw [this, List.getElem?_cons_succ, List.getElem?_drop]
      congr 2
      omega

theorem Gap.fill {o x : List (Int × Int)} {p : Nat} (g : Gap o x p) (k : Int × Int) : x.set p k = o.take p ++ k :: o.drop p := by
  have hle := g.le
  have hlen := g.len
  refine list_ext ?_ fun j hj => ?_
  · rw [List.length_set, g.len, List.length_append, List.length_cons, List.length_take, List.length_drop]; omega
  · rw [List.length_set] at hj
    rw [rd_set (by omega), rd_mid o p k g.le]
    by_cases h1 : j = p
    · subst h1; simp
    · rw [if_neg h1, if_neg h1]
      split
      · exact g.low j (by assumption)
      · exact g.high j (by omega) (by omega)

theorem Gap.down {o x : List (Int × Int)} {p : Nat} (g : Gap o x (p + 1)) : Gap o (x.set (p + 1) (rdEl TKey x p)) p := by
  have hle := g.le
  have hlen := g.len
  refine ⟨by rw [List.length_set]; exact g.len, by omega, fun j hj => ?_, fun j h1 h2 => ?_⟩
  · rw [rd_set (by omega), if_neg (by omega)]
    exact g.low j (by omega)
  · rw [rd_set (by omega)]
    by_cases h : j = p + 1
    · subst h
      rw [if_pos rfl]
      exact g.low p (by omega)
    · rw [if_neg h]
      exact g.high j (by omega) h2

theorem ref_inner {o : List (Int × Int)} (hs : o.Pairwise Le) (ho : o.length ≤ 8796093022208) (l : List (Int × Int)) (n i a b : Int) : ∀ (p : Nat) (x : List (Int × Int)), Gap o x p →
    (∀ j, p ≤ j → j < o.length → less (a, b) (rdEl TKey o j) = true) →
    ∃ q f, q ≤ o.length ∧ (∀ j, j < q → Le (rdEl TKey o j) (a, b)) ∧ (∀ j, q ≤ j → j < o.length → less (a, b) (rdEl TKey o j) = true) ∧
      ∀ m, f11.r7 (m + f) (p : Int) l n i x a b = f11.r3 m l n (IntKind.i64.wrap (i + 1)) (o.take q ++ (a, b) :: o.drop q)
  | 0, x, g, hh => by
    have hlen := g.len
    refine ⟨0, 1, by omega, fun j hj => by omega, hh, fun m => ?_⟩
    rw [f11.step7, cond_f (dec_f (by omega)), test_true (dec_t (by omega)), test_true (dec_t (by omega))]
    have t : (((0 : Nat) : Int)).toNat = 0 := rfl
    rw [t, g.fill]
  | p + 1, x, g, hh => by
    have hlen := g.len
    have hle := g.le
    have w : IntKind.i64.wrap (((p + 1 : Nat) : Int) - 1) = (p : Int) := by rw [w64] <;> omega
    have t : ((p : Nat) : Int).toNat = p := by omega
    have t1 : ((p + 1 : Nat) : Int).toNat = p + 1 := by omega
    have hx : rdEl (.prod (.int .i64) (.int .i64)) x p = rdEl TKey o p := g.low p (by omega)
    cases hc : less (a, b) (rdEl TKey o p) with
    | true =>
      obtain ⟨q, f, h1, h2, h3, h4⟩ := ref_inner hs ho l n i a b p _ g.down fun j h1 h2 => by
        rcases Nat.lt_or_ge p j with h | h
        · exact hh j (by omega) h2
        · have : j = p := by omega
          rw [this]; exact hc
      refine ⟨q, f + 1, h1, h2, h3, fun m => ?_⟩
      rw [show m + (f + 1) = (m + f) + 1 by omega, f11.step7, w, t, t1, cond_t (dec_t (by omega)), test_true (dec_t (by omega)), test_true (dec_t (by omega)), cond_t (by rw [hx]; exact hc),
        test_true (dec_t (by omega)), test_true (dec_t (by omega)), test_true (dec_t (by omega)), test_true (dec_t (by omega))]
      exact h4 m
    | false =>
      refine ⟨p + 1, 1, hle, fun j hj => ?_, hh, fun m => ?_⟩
      · exact (sorted_rd hs (show j ≤ p by omega) (by omega)).trans hc
      · rw [f11.step7, w, t, t1, cond_t (dec_t (by omega)), test_true (dec_t (by omega)), test_true (dec_t (by omega)), cond_f (by rw [hx]; exact hc), test_true (dec_t (by omega)), test_true (dec_t (by omega)), g.fill]

theorem ins_sorted {o : List (Int × Int)} (hs : o.Pairwise Le) {k : Int × Int} {q : Nat} (hq : q ≤ o.length) (h1 : ∀ j, j < q → Le (rdEl TKey o j) k) (h2 : ∀ j, q ≤ j → j < o.length → less k (rdEl TKey o j) = true) :
    (o.take q ++ k :: o.drop q).Pairwise Le := by
  have hs' : (o.take q ++ o.drop q).Pairwise Le := by rw [List.take_append_drop]; exact hs
  rw [List.pairwise_append] at hs' ⊢
  have low : ∀ x, x ∈ o.take q → Le x k := fun x hx => by
    obtain ⟨j, hj, rfl⟩ := List.getElem_of_mem hx
    rw [List.length_take] at hj
    have := h1 j (by omega)
    rw [rd_lt (by omega)] at this
    rw [List.getElem_take]; exact this
  have high : ∀ x, x ∈ o.drop q → Le k x := fun x hx => by
    obtain ⟨j, hj, rfl⟩ := List.getElem_of_mem hx
    rw [List.length_drop] at hj
    have := h2 (q + j) (by omega) (by omega)
    rw [rd_lt (by omega)] at this
    rw [List.getElem_drop]; exact le_of_less this
  refine ⟨hs'.1, List.pairwise_cons.2 ⟨high, hs'.2.1⟩, fun x hx y hy => ?_⟩
  rcases List.mem_cons.1 hy with rfl | hy
  · exact low x hx
  · exact hs'.2.2 x hx y hy

theorem ref_outer (l : List (Int × Int)) (hl : l.length ≤ 8796093022208) : ∀ (d i : Nat) (o : List (Int × Int)), i + d = l.length → o.Pairwise Le → o.Perm (l.take i) →
    ∃ f, f11.r3 f l (l.length : Int) (i : Int) o = some (.c (.sl TKey (sort l)), [])
  | 0, i, o, h, hs, hp => by
    refine ⟨1, ?_⟩
    rw [f11.step3, cond_f (dec_f (by omega))]
    have : o = sort l := sorted_one hs (sort_sorted _ l (Nat.le_refl _)) (by
      rw [List.take_of_length_le (by omega)] at hp
      exact hp.trans (sort_perm _ l (Nat.le_refl _)).symm)
    rw [this]
  | d + 1, i, o, h, hs, hp => by
    have hi : i < l.length := by omega
    have ol : o.length = i := by rw [hp.length_eq, List.length_take]; omega
    have t : ((i : Nat) : Int).toNat = i := by omega
    obtain ⟨q, f, h1, h2, h3, h4⟩ := ref_inner hs (by omega) l (l.length : Int) (i : Int) (rdEl TKey l i).1 (rdEl TKey l i).2 o.length (o ++ [rdEl TKey l i]) ⟨by simp, Nat.le_refl _, fun j hj => by
        show (o ++ [rdEl TKey l i]).getD j _ = o.getD j _
        simp only [List.getD]
        rw [List.getElem?_append_left hj], fun j h1 h2 => by omega⟩ fun j h1 h2 => by omega
    have hp' : (o.take q ++ rdEl TKey l i :: o.drop q).Perm (l.take (i + 1)) := by
      refine List.perm_middle.trans ?_
      rw [List.take_append_drop, List.take_succ_eq_append_getElem hi, ← rd_lt hi]
      refine (hp.cons _).trans ?_
      exact (List.perm_append_comm (l₁ := l.take i) (l₂ := [rdEl TKey l i])).symm
    obtain ⟨f2, h5⟩ := ref_outer l hl d (i + 1) _ (by omega) (ins_sorted hs h1 h2 h3) hp'
    have w : IntKind.i64.wrap ((i : Int) + 1) = ((i + 1 : Nat) : Int) := by rw [w64] <;> omega
    refine ⟨f2 + f + 1, ?_⟩
    rw [f11.step3, t, cond_t (dec_t (by omega)), test_true (dec_t (by omega)), test_true (dec_t (by omega)), test_true (dec_t (by simp [lim] <;> omega))]
    have h4' := h4 f2
    rw [w] at h4'
    exact h4'.trans h5

theorem sort11 : SpecOK Try.prog 11 spSort := by
  refine specOK_of_run (cfg := cfg11) (cfgOK_of mixed tab_ok (less17.cons' SpecsOK.nil)) Try.func11 (by kernel_rfl) (by kernel_rfl) fun args k r h => ?_
  unfold spSort at h
  split at h
  · rename_i l
    obtain ⟨h1, h2⟩ := test_some h
    have h1 : List.length l ≤ 8796093022208 := of_decide_eq_true h1
    obtain ⟨f, hf⟩ := ref_outer l h1 l.length 0 [] (by omega) .nil (.refl _)
    refine ⟨_, fun k' => test_true (dec_t h1), by show 1 ≤ 46; omega, f + 1, ?_⟩
    have e : run cfg11 Try.f11.ntmps Try.f11.results.toList (f + 1) [.code (bodyOf Try.f11)] (enter [.c (.sl (.prod (.int .i64) (.int .i64)) l)]) = f11.go (f + 1) l := by kernel_rfl
    rw [e, f11.start]
    exact hf
  · cases h

/-! ### a row copied, two rows compared -/

theorem keys_loop (l : List (Int × Int)) (hl : l.length ≤ 8796093022208) : ∀ (d i : Nat), i + d = l.length → f12.r3 (d + 1) l (l.length : Int) (i : Int) (l.take i) = some (.c (.sl TKey l), [])
  | 0, i, h => by
    rw [f12.step3, cond_f (dec_f (by omega)), List.take_of_length_le (by omega)]
  | d + 1, i, h => by
    have hi : i < l.length := by omega
    have t : ((i : Nat) : Int).toNat = i := by omega
    have w : IntKind.i64.wrap ((i : Int) + 1) = ((i + 1 : Nat) : Int) := by rw [w64] <;> omega
    have ih := keys_loop l hl d (i + 1) (by omega)
    rw [List.take_succ_eq_append_getElem hi, ← rd_lt hi] at ih
    rw [f12.step3, t, w, cond_t (dec_t (by omega)), test_true (dec_t (by omega)), test_true (dec_t (by omega)), test_true (dec_t (by rw [List.length_take]; simp [lim] <;> omega))]
    exact ih

theorem keys12 : SpecOK Try.prog 12 spKeys := by
  refine specOK_of_run (cfg := cfg12) (cfgOK_of mixed tab_ok SpecsOK.nil) Try.func12 (by kernel_rfl) (by kernel_rfl) fun args k r h => ?_
  unfold spKeys at h
  split at h
  · rename_i l
    obtain ⟨h1, h2⟩ := test_some h
    have h1 : List.length l ≤ 8796093022208 := of_decide_eq_true h1
    refine ⟨_, fun k' => test_true (dec_t h1), by show 1 ≤ 22; omega, List.length l + 2, ?_⟩
    have e : run cfg12 Try.f12.ntmps Try.f12.results.toList (List.length l + 2) [.code (bodyOf Try.f12)] (enter [.c (.sl (.prod (.int .i64) (.int .i64)) l)]) = f12.go (List.length l + 2) l := by kernel_rfl
    rw [e, f12.start]
    exact keys_loop l h1 (List.length l) 0 (by omega)
  · cases h

theorem sameL_self : ∀ l : List (Int × Int), sameL l l = true
  | [] => rfl
  | a :: l => by simp [sameL, sameL_self l]

theorem sameL_len : ∀ {l m : List (Int × Int)}, l.length ≠ m.length → sameL l m = false
  | [], [], h => absurd rfl h
  | [], _ :: _, _ => rfl
  | _ :: _, [], _ => rfl
  | a :: l, b :: m, h => by
    simp only [sameL]
    rw [sameL_len (l := l) (m := m) (by simpa using h), Bool.and_false]

theorem same_loop (l m : List (Int × Int)) (hl : l.length ≤ 140737488355328) (hlm : l.length = m.length) : ∀ (d i : Nat), i + d = l.length → f10.r4 (d + 1) l m (l.length : Int) (i : Int) = some (vb (sameL (l.drop i) (m.drop i)), [])
  | 0, i, h => by
    rw [f10.step4, cond_f (dec_f (by omega)), List.drop_eq_nil_of_le (by omega), List.drop_eq_nil_of_le (by omega)]; rfl
  | d + 1, i, h => by
    have hi : i < l.length := by omega
    have t : ((i : Nat) : Int).toNat = i := by omega
    have w : IntKind.i64.wrap ((i : Int) + 1) = ((i + 1 : Nat) : Int) := by rw [w64] <;> omega
    have ih := same_loop l m hl hlm d (i + 1) (by omega)
    rw [rd_cons l i hi, rd_cons m i (by omega)]
    simp only [sameL]
    rw [f10.step4, t, w, cond_t (dec_t (by omega)), test_true (dec_t (by omega)), test_true (dec_t (by omega)), test_true (dec_t (by omega)), test_true (dec_t (by omega))]
    cases h1 : (rdEl TKey l i).1 == (rdEl TKey m i).1 with
    | false =>
      rw [cond_t (by simp only [bne]; rw [h1]; rfl)]; rfl
    | true =>
      rw [cond_f (by simp only [bne]; rw [h1]; rfl), test_true (dec_t (by omega)), test_true (dec_t (by omega)), test_true (dec_t (by omega)), test_true (dec_t (by omega))]
      cases h2 : (rdEl TKey l i).2 == (rdEl TKey m i).2 with
      | false => rw [cond_t (by simp only [bne]; rw [h2]; rfl)]; rfl
      | true =>
        rw [cond_f (by simp only [bne]; rw [h2]; rfl), ih]
        rfl

theorem same10 : SpecOK Try.prog 10 spSame := by
  refine specOK_of_run (cfg := cfg10) (cfgOK_of mixed tab_ok SpecsOK.nil) Try.func10 (by kernel_rfl) (by kernel_rfl) fun args k r h => ?_
  unfold spSame at h
  split at h
  · rename_i l m
    obtain ⟨h1, h2⟩ := test_some h
    have h1 : List.length l ≤ 140737488355328 := of_decide_eq_true h1
    refine ⟨_, fun k' => test_true (dec_t h1), by show 2 ≤ 41; omega, List.length l + 2, ?_⟩
    have e : run cfg10 Try.f10.ntmps Try.f10.results.toList (List.length l + 2) [.code (bodyOf Try.f10)] (enter [.c (.sl (.prod (.int .i64) (.int .i64)) l), .c (.sl (.prod (.int .i64) (.int .i64)) m)]) = f10.go (List.length l + 2) l m := by kernel_rfl
    rw [e, f10.start]
    by_cases hlm : List.length l = List.length m
    · rw [cond_f (by simp [hlm])]
      exact same_loop l m h1 hlm (List.length l) 0 (by omega)
    · rw [cond_t (by simp only [bne_iff_ne, ne_eq]; omega), sameL_len hlm]; rfl
  · cases h

end Go.Proofs.Ytnpncjpgihgkcaa
