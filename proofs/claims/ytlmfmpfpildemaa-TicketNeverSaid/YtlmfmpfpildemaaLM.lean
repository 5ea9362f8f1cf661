/-
  Tickets: what the laws' functions come to (calls set against a map).
-/
import Derived.Test.YtlmfmpfpildemaaLL
namespace Go.Proofs.Ytlmfmpfpildemaa
open Go VE

abbrev I64 : Ty := .int .i64
abbrev EnI : Type := List (Int × Int × Nat)
def kv (m : EnI) : List (Int × Int) := m.map fun e => (e.1, e.2.1)
def up (l : List (Int × Int)) : List (Int × Int) := l.map fun e => (e.1, e.2 + 1)
theorem kv_len (m : EnI) : (kv m).length = m.length := List.length_map ..
theorem up_len (l : List (Int × Int)) : (up l).length = l.length := List.length_map ..

theorem getE_cons (x : Int) (e : Int × Int × Nat) (m : EnI) : getE I64 I64 (0 : Int) x (e :: m) = bif x == e.1 then e.2.1 else getE I64 I64 (0 : Int) x m := rfl
theorem delE_cons (x : Int) (e : Int × Int × Nat) (m : EnI) : delE I64 I64 x (e :: m) = bif x == e.1 then m else e :: delE I64 I64 x m := rfl
theorem setE_cons (c : Nat) (x v : Int) (e : Int × Int × Nat) (m : EnI) : setE I64 I64 c x v (e :: m) = bif x == e.1 then (e.1, v, e.2.2) :: m else e :: setE I64 I64 c x v m := rfl

theorem getE_up : ∀ {m : EnI} {l : List (Int × Int)} (x : Int), kv m = up l → getE I64 I64 (0 : Int) x m = (match l.find? (keyA x) with | some e => e.2 + 1 | none => 0)
  | [], [], x, _ => rfl
  | [], a :: l, x, h => by simp [kv, up] at h
  | e :: m, [], x, h => by simp [kv, up] at h
  | e :: m, a :: l, x, h => by
    simp only [kv, up, List.map_cons, List.cons.injEq, Prod.mk.injEq] at h
    obtain ⟨⟨h1, h2⟩, h3⟩ := h
    have ih := getE_up (m := m) (l := l) x h3
    rw [getE_cons, List.find?_cons, ih]
    show (bif x == e.1 then e.2.1 else _) = (match (match (a.1 == x) with | true => some a | false => l.find? (keyA x)) with | some e => e.2 + 1 | none => 0)
    by_cases hx : x = e.1
    · have e1 : (x == e.1) = true := by simpa using hx
      have e2 : (a.1 == x) = true := by rw [← h1, hx]; simp
      rw [e1, e2]; exact h2
    · have e1 : (x == e.1) = false := by simpa using hx
      have e2 : (a.1 == x) = false := by rw [← h1]; simpa using fun h => hx h.symm
      rw [e1, e2]; rfl

theorem dropA_self {x : Int} {l : List (Int × Int)} (h : ∀ e, e ∈ l → e.1 ≠ x) : dropA x l = l := filter_id fun e he => by simp [keyA, h e he]

theorem delE_up : ∀ {m : EnI} {l : List (Int × Int)} (x : Int), l.Pairwise (fun a c => a.1 < c.1) → kv m = up l → kv (delE I64 I64 x m) = up (dropA x l)
  | [], [], x, _, _ => rfl
  | [], a :: l, x, _, h => by simp [kv, up] at h
  | e :: m, [], x, _, h => by simp [kv, up] at h
  | e :: m, a :: l, x, hp, h => by
    have h0 := h
    simp only [kv, up, List.map_cons, List.cons.injEq, Prod.mk.injEq] at h
    obtain ⟨⟨h1, h2⟩, h3⟩ := h
    obtain ⟨hp1, hp2⟩ := List.pairwise_cons.1 hp
    have ih := delE_up (m := m) (l := l) x hp2 h3
    rw [delE_cons]
    by_cases hx : x = e.1
    · have e1 : (x == e.1) = true := by simpa using hx
      have e2 : dropA x (a :: l) = l := by
        have : keyA x a = true := by simp [keyA]; omega
        unfold dropA
        rw [List.filter_cons, this]
        exact dropA_self fun c hc => by have := hp1 c hc; omega
      rw [e1, e2]; exact h3
    · have e1 : (x == e.1) = false := by simpa using hx
      have e2 : dropA x (a :: l) = a :: dropA x l := by
        have : keyA x a = false := by simp [keyA]; omega
        unfold dropA
        rw [List.filter_cons, this]; rfl
      rw [e1, e2]
      show (e.1, e.2.1) :: kv _ = (a.1, a.2 + 1) :: up _
      rw [ih, h1, h2]

theorem delE_len : ∀ {m : EnI} (x : Int), getE I64 I64 (0 : Int) x m ≠ 0 → (delE I64 I64 x m).length + 1 = m.length
  | [], x, h => absurd rfl h
  | e :: m, x, h => by
    rw [getE_cons] at h
    rw [delE_cons]
    cases hx : (x == e.1) with
    | true => rfl
    | false =>
      rw [hx] at h
      show (delE I64 I64 x m).length + 1 + 1 = m.length + 1
      rw [delE_len x h]

theorem setE_new : ∀ {m : EnI} (c : Nat) (x v : Int), (∀ e, e ∈ m → e.1 ≠ x) → setE I64 I64 c x v m = m ++ [(x, v, c)]
  | [], c, x, v, _ => rfl
  | e :: m, c, x, v, h => by
    have e1 : (x == e.1) = false := by simpa using fun h1 => h e (List.mem_cons_self ..) h1.symm
    rw [setE_cons, e1, cond_false, setE_new c x v fun e he => h e (List.mem_cons_of_mem _ he)]; rfl

theorem getE_setE : ∀ {m : EnI} (c : Nat) (x v y : Int), getE I64 I64 (0 : Int) y (setE I64 I64 c x v m) = if y = x then v else getE I64 I64 (0 : Int) y m
  | [], c, x, v, y => by
    show (bif y == x then v else (0 : Int)) = if y = x then v else 0
    by_cases h : y = x
    · have e : (y == x) = true := by simpa using h
      rw [e, if_pos h]; rfl
    · have e : (y == x) = false := by simpa using h
      rw [e, if_neg h]; rfl
  | e :: m, c, x, v, y => by
    rw [setE_cons]
    by_cases hx : x = e.1
    · have e1 : (x == e.1) = true := by simpa using hx
      rw [e1, cond_true, getE_cons, getE_cons]
      show (bif y == e.1 then v else _) = if y = x then v else bif y == e.1 then _ else _
      by_cases h : y = x
      · have : (y == e.1) = true := by rw [h, hx]; simp
        rw [this, if_pos h]; rfl
      · have : (y == e.1) = false := by simp; omega
        rw [this, if_neg h]; rfl
    · have e1 : (x == e.1) = false := by simpa using hx
      rw [e1, cond_false, getE_cons, getE_cons, getE_setE c x v y]
      by_cases h : y = x
      · have : (y == e.1) = false := by rw [h]; exact e1
        rw [this, if_pos h, if_pos h]; rfl
      · rw [if_neg h, if_neg h]

theorem closeB_drop {b : Int × List (Int × Int)} {k : Nat} (h : Bok b k) (i : Int) : closeB b i = (b.1, dropA i b.2) := by
  rw [closeB_eq h]
  cases ha : b.2.any (keyA i) with
  | true => rfl
  | false =>
    have : dropA i b.2 = b.2 := filter_id fun e he => by
      have := List.any_eq_false.1 ha e he
      simpa using this
    rw [this]; rfl

theorem find_any {i : Int} {l : List (Int × Int)} : (l.any (keyA i) = true ∧ ∃ e, l.find? (keyA i) = some e ∧ e ∈ l ∧ e.1 = i) ∨ (l.any (keyA i) = false ∧ l.find? (keyA i) = none) := by
  cases h : l.find? (keyA i) with
  | some e =>
    have h1 := List.find?_some h
    have h2 := List.mem_of_find?_eq_some h
    exact .inl ⟨List.any_eq_true.2 ⟨e, h2, h1⟩, e, rfl, h2, by simpa [keyA] using h1⟩
  | none =>
    refine .inr ⟨List.any_eq_false.2 fun e he => ?_, rfl⟩
    exact List.find?_eq_none.1 h e he

theorem cond_nn {α : Type} {a b : Bool} {x y : α} (h : a = b) : cond (Bool.not (a == b)) x y = y := by subst h; cases a <;> rfl

/-! ### never -/

structure NOK (b : Int × List (Int × Int)) (m : EnI) (k : Nat) : Prop where
  ok : Bok b k
  ho : ∀ e, e ∈ b.2 → 0 ≤ e.2 ∧ e.2 < 5
  kv : kv m = up b.2
  le : b.2.length ≤ k

theorem NOK.len {b : Int × List (Int × Int)} {m : EnI} {k : Nat} (h : NOK b m k) : m.length = b.2.length := by rw [← kv_len, h.kv, up_len]

theorem sum5 : ∀ (l : List (Int × Int)), (∀ e, e ∈ l → 0 ≤ e.2 ∧ e.2 < 5) → (l.filter (keyB 0)).length + (l.filter (keyB 1)).length + (l.filter (keyB 2)).length + (l.filter (keyB 3)).length + (l.filter (keyB 4)).length = l.length
  | [], _ => rfl
  | a :: l, h => by
    have ih := sum5 l fun e he => h e (List.mem_cons_of_mem _ he)
    have ha := h a (List.mem_cons_self ..)
    have hc : a.2 = 0 ∨ a.2 = 1 ∨ a.2 = 2 ∨ a.2 = 3 ∨ a.2 = 4 := by omega
    have e : ∀ x : Int, ((a :: l).filter (keyB x)).length = (l.filter (keyB x)).length + (if a.2 = x then 1 else 0) := fun x => by
      rw [List.filter_cons]
      by_cases hx : a.2 = x
      · have : keyB x a = true := by simp [keyB, hx]
        rw [this, if_pos hx]; rfl
      · have : keyB x a = false := by simp [keyB, hx]
        rw [this, if_neg hx]; rfl
    rw [e, e, e, e, e, List.length_cons]
    rcases hc with hc | hc | hc | hc | hc <;> rw [hc] <;> simp <;> omega

theorem never_sum {b : Int × List (Int × Int)} {m : EnI} {k : Nat} (h : NOK b m k) (f c : Nat) (last i n : Int) (l : List (El TKey)) {r : R} (hr : lNever.l1 f last l n (IntKind.i64.wrap (i + 1)) m c b.1 b.2 = r) :
    lNever.l3 (f + 6) last 0 l n i 0 m c b.1 b.2 = r := by
  have hs := sum5 b.2 h.ho
  have hl := h.ok.len
  have pre : ∀ x : Int, count.pre (b, x, ()) = true := fun x => pre1 h.ok
  have hm := h.len
  rw [lNever.s3, cond_dt (by omega), test_true (pre 0), lNever.s3, w64 (n := (0 : Int) + 1) (by omega) (by omega), cond_dt (by omega), test_true (pre _), lNever.s3, w64 (n := (0 : Int) + 1 + 1) (by omega) (by omega), cond_dt (by omega), test_true (pre _),
    lNever.s3, w64 (n := (0 : Int) + 1 + 1 + 1) (by omega) (by omega), cond_dt (by omega), test_true (pre _), lNever.s3, w64 (n := (0 : Int) + 1 + 1 + 1 + 1) (by omega) (by omega), cond_dt (by omega), test_true (pre _),
    lNever.s3, w64 (n := (0 : Int) + 1 + 1 + 1 + 1 + 1) (by omega) (by omega), cond_df (by omega), test_true (show len.pre ((b.1, b.2), ()) = true from pre0 h.ok)]
  have e : IntKind.i64.wrap (IntKind.i64.wrap (IntKind.i64.wrap (IntKind.i64.wrap (IntKind.i64.wrap (0 + countI (b.1, b.2) 0) + countI (b.1, b.2) (0 + 1)) + countI (b.1, b.2) (0 + 1 + 1)) + countI (b.1, b.2) (0 + 1 + 1 + 1)) + countI (b.1, b.2) (0 + 1 + 1 + 1 + 1)) = ((b.2.length : Nat) : Int) := by
    unfold countI
    show IntKind.i64.wrap (IntKind.i64.wrap (IntKind.i64.wrap (IntKind.i64.wrap (IntKind.i64.wrap (0 + ((b.2.filter (keyB 0)).length : Int)) + ((b.2.filter (keyB 1)).length : Int)) + ((b.2.filter (keyB 2)).length : Int)) + ((b.2.filter (keyB 3)).length : Int)) + ((b.2.filter (keyB 4)).length : Int)) = _
    rw [w64 (n := 0 + ((b.2.filter (keyB 0)).length : Int)) (by omega) (by omega), w64 (n := 0 + ((b.2.filter (keyB 0)).length : Int) + ((b.2.filter (keyB 1)).length : Int)) (by omega) (by omega),
      w64 (n := 0 + ((b.2.filter (keyB 0)).length : Int) + ((b.2.filter (keyB 1)).length : Int) + ((b.2.filter (keyB 2)).length : Int)) (by omega) (by omega),
      w64 (n := 0 + ((b.2.filter (keyB 0)).length : Int) + ((b.2.filter (keyB 1)).length : Int) + ((b.2.filter (keyB 2)).length : Int) + ((b.2.filter (keyB 3)).length : Int)) (by omega) (by omega), w64 (by omega) (by omega)]
    omega
  rw [e]
  refine (cond_nf rfl).trans ((cond_nf (by rw [hm])).trans hr)

/-- What is left when those of this host below t are dropped. -/
def below (h t : Int) (l : List (Int × Int)) : List (Int × Int) := l.filter fun e => !(keyB h e && decide (e.1 < t))

theorem below_sub (h t : Int) (l : List (Int × Int)) : (below h t l).Sublist l := List.filter_sublist

theorem below_next {b : Int × List (Int × Int)} {k : Nat} (hb : Bok b k) (h t : Int) {e : Int × Int} (hf : (below h t b.2).find? (keyA t) = some e) (he : e.2 = h) : below h (t + 1) b.2 = dropA t (below h t b.2) := by
  unfold below dropA
  rw [List.filter_filter]
  have h1 := List.find?_some hf
  have h2 : e ∈ b.2 := (below_sub h t b.2).subset (List.mem_of_find?_eq_some hf)
  have h3 : e.1 = t := by simpa [keyA] using h1
  refine List.filter_congr fun a ha => ?_
  by_cases hk : a.1 = t
  · have : a = e := by
      have hp := hb.asc
      rcases List.mem_iff_getElem.1 ha with ⟨i, hi, rfl⟩
      rcases List.mem_iff_getElem.1 h2 with ⟨j, hj, rfl⟩
      rw [List.pairwise_iff_getElem] at hp
      rcases Nat.lt_trichotomy i j with hij | hij | hij
      · have := hp i j hi hj hij; omega
      · subst hij; rfl
      · have := hp j i hj hi hij; omega
    subst this
    have e1 : keyB h a = true := by simp [keyB, he]
    have e2 : keyA t a = true := h1
    have e3 : decide (a.1 < t + 1) = true := dec_t (by omega)
    rw [e1, e2, e3]; rfl
  · have e2 : keyA t a = false := by simp [keyA, hk]
    have e3 : decide (a.1 < t + 1) = decide (a.1 < t) := by
      by_cases hc : a.1 < t
      · rw [dec_t hc, dec_t (by omega)]
      · rw [dec_f hc, dec_f (by omega)]
    rw [e2, e3]; simp

theorem below_same {b : Int × List (Int × Int)} (h t : Int) (hf : ∀ e, e ∈ b.2 → e.1 = t → e.2 ≠ h) : below h (t + 1) b.2 = below h t b.2 := by
  unfold below
  refine List.filter_congr fun a ha => ?_
  by_cases hk : a.1 = t
  · have e1 : keyB h a = false := by simp [keyB, hf a ha hk]
    rw [e1]; rfl
  · have e3 : decide (a.1 < t + 1) = decide (a.1 < t) := by
      by_cases hc : a.1 < t
      · rw [dec_t hc, dec_t (by omega)]
      · rw [dec_f hc, dec_f (by omega)]
    rw [e3]

theorem below_mem {h t : Int} {l : List (Int × Int)} {e : Int × Int} (he : e ∈ l) (ht : e.1 = t) : e ∈ below h t l := by
  refine List.mem_filter.2 ⟨he, ?_⟩
  rw [dec_f (by omega)]; simp

theorem never_drop {b : Int × List (Int × Int)} {k : Nat} (hb : Bok b k) (hk : k ≤ 1000000) (h : Int) (hh : 0 ≤ h ∧ h < 5) (l : List (El TKey)) (n i : Int) (c : Nat) {r : R} : ∀ (g : Nat) (t : Int) (m : EnI) (d : Int), b.1 + 1 = t + g → 1 ≤ t → kv m = up (below h t b.2) → d + m.length = b.2.length → 0 ≤ d →
    (∀ m', kv m' = up (dropL h b.2) → ∃ f, lNever.l3 f b.1 0 l n i 0 m' c b.1 (dropL h b.2) = r) → ∃ f, lNever.l2 f b.1 h d t l n i m c b.1 b.2 = r
  | 0, t, m, d, hg, ht, hm, hd, hd0, K => by
    have e : below h t b.2 = dropL h b.2 := List.filter_congr fun a ha => by
      have := (hb.mem a ha).2
      rw [dec_t (by omega)]; simp
    rw [e] at hm
    obtain ⟨f, hf⟩ := K m hm
    refine ⟨f + 1, ?_⟩
    rw [lNever.s2, cond_df (by omega), test_true (show drop.pre ((b.1, b.2), h, ()) = true from pre1 hb)]
    have hs : ∀ (l : List (Int × Int)), (l.filter (keyB h)).length + (dropL h l).length = l.length := fun l => by
      induction l with
      | nil => rfl
      | cons a l ih =>
        unfold dropL at *
        simp only [List.filter_cons]
        cases keyB h a <;> simp at * <;> omega
    have hc : countI (b.1, b.2) h = d := by
      have h1 := hs b.2
      have h2 : m.length = (dropL h b.2).length := by rw [← kv_len, hm, up_len]
      unfold countI
      show ((b.2.filter (keyB h)).length : Int) = d
      omega
    rw [hc, dropB_eq]
    exact (cond_nf rfl).trans hf
  | g + 1, t, m, d, hg, ht, hm, hd, hd0, K => by
    have hh1 := hb.hi
    have hl := hb.len
    have hw : IntKind.i64.wrap (t + 1) = t + 1 := w64 (by omega) (by omega)
    have hw2 : IntKind.i64.wrap (h + 1) = h + 1 := w64 (by omega) (by omega)
    have hget := getE_up t hm
    rcases find_any (i := t) (l := below h t b.2) with ⟨_, e, h2, h3, h4⟩ | ⟨_, h2⟩
    · rw [h2] at hget
      have hget : getE I64 I64 (0 : Int) t m = e.2 + 1 := hget
      by_cases he : e.2 = h
      · have hn : getE I64 I64 (0 : Int) t m ≠ 0 := by rw [hget]; show (e.2 + 1 : Int) ≠ 0; omega
        have hdl := delE_len t hn
        obtain ⟨f, hf⟩ := never_drop hb hk h hh l n i c g (t + 1) (delE I64 I64 t m) (d + 1) (by omega) (by omega) (by rw [below_next hb h t h2 he]; exact delE_up t (hb.asc.sublist (below_sub h t b.2)) hm) (by omega) (by omega) K
        refine ⟨f + 1, ?_⟩
        rw [lNever.s2, cond_dt (by omega), hget, hw, hw2]
        refine (cond_et (by omega)).trans ?_
        rw [w64 (n := d + 1) (by omega) (by omega)]
        exact hf
      · obtain ⟨f, hf⟩ := never_drop hb hk h hh l n i c g (t + 1) m d (by omega) (by omega) (by
          rw [below_same h t fun a ha hat => ?_]
          · exact hm
          · have h5 : a ∈ below h t b.2 := below_mem ha hat
            have h6 : e ∈ b.2 := (below_sub h t b.2).subset h3
            intro hah
            have : a = e := by
              have hp := hb.asc
              rcases List.mem_iff_getElem.1 ha with ⟨i, hi, rfl⟩
              rcases List.mem_iff_getElem.1 h6 with ⟨j, hj, rfl⟩
              rw [List.pairwise_iff_getElem] at hp
              rcases Nat.lt_trichotomy i j with hij | hij | hij
              · have := hp i j hi hj hij; omega
              · subst hij; rfl
              · have := hp j i hj hi hij; omega
            rw [this] at hah
            exact he hah) (by omega) (by omega) K
        refine ⟨f + 1, ?_⟩
        rw [lNever.s2, cond_dt (by omega), hget, hw, hw2]
        exact (cond_ef (by omega)).trans hf
    · rw [h2] at hget
      have hget : getE I64 I64 (0 : Int) t m = 0 := hget
      obtain ⟨f, hf⟩ := never_drop hb hk h hh l n i c g (t + 1) m d (by omega) (by omega) (by
        rw [below_same h t fun a ha hat => ?_]
        · exact hm
        · have h5 : a ∈ below h t b.2 := below_mem ha hat
          have := List.find?_eq_none.1 h2 a h5
          exact absurd (by simp [keyA, hat]) this) (by omega) (by omega) K
      refine ⟨f + 1, ?_⟩
      rw [lNever.s2, cond_dt (by omega), hget, hw, hw2]
      exact (cond_ef (by omega)).trans hf

theorem mod5 (k : Int) : 0 ≤ IntKind.i64.wrap (Int.tmod (IntKind.u64.wrap k) 5) ∧ IntKind.i64.wrap (Int.tmod (IntKind.u64.wrap k) 5) < 5 := by
  have hk : 0 ≤ IntKind.u64.wrap k := (wrap_within .u64 k).1
  rw [Int.tmod_eq_emod_of_nonneg hk]
  have h2 := Int.emod_nonneg (IntKind.u64.wrap k) (show (5 : Int) ≠ 0 by omega)
  have h3 := Int.emod_lt_of_pos (IntKind.u64.wrap k) (show (0 : Int) < 5 by omega)
  rw [w64 (n := IntKind.u64.wrap k % 5) (by omega) (by omega)]
  omega

theorem never_loop (l : List (El TKey)) (h300 : l.length ≤ 300) : ∀ (n k : Nat) (b : Int × List (Int × Int)) (m : EnI) (c : Nat), l.length = k + n → NOK b m k → ∃ f, lNever.l1 f b.1 l l.length k m c b.1 b.2 = some (vb true, [])
  | 0, k, b, m, c, h, hb => ⟨1, by rw [lNever.s1, cond_df (by omega)]; rfl⟩
  | n + 1, k, b, m, c, h, hb => by
    have ih : ∀ (b' : Int × List (Int × Int)) (m' : EnI) (c' : Nat), NOK b' m' (k + 1) → ∃ f, lNever.l3 f b'.1 0 l l.length k 0 m' c' b'.1 b'.2 = some (vb true, []) := fun b' m' c' hb' => by
      obtain ⟨f, hf⟩ := never_loop l h300 n (k + 1) b' m' c' (by omega) hb'
      exact ⟨f + 6, never_sum hb' f c' b'.1 k l.length l (by rw [w64s (by omega)]; exact hf)⟩
    have hb1 := hb.ok.hi
    have hb2 := hb.ok.lo
    have hle := hb.le
    obtain ⟨x, hx⟩ : ∃ x, rdEl TKey l k = x := ⟨_, rfl⟩
    by_cases h0 : x.1 = 0
    · have e2 := closeB_drop hb.ok x.2
      have hany := has_any b x.2
      have hfd := close_find b x.2
      have hget := getE_up x.2 hb.kv
      have hN : NOK (b.1, dropA x.2 b.2) (delE I64 I64 x.2 m) (k + 1) :=
        ⟨(hb.ok.sub List.filter_sublist).mono (by omega), fun e he => hb.ho e (List.mem_filter.1 he).1, delE_up x.2 hb.ok.asc hb.kv, by
          have : (dropA x.2 b.2).length ≤ b.2.length := List.length_filter_le ..
          show (dropA x.2 b.2).length ≤ _; omega⟩
      obtain ⟨f, hf⟩ := ih _ _ c hN
      refine ⟨f + 1, ?_⟩
      rw [lNever.s1, cond_dt (by omega), test_d (by omega), test_d (by omega), toNat_cast, hx]
      refine (cond_et h0).trans ((test_true (show close.pre ((b.1, b.2), x.2, ()) = true from pre1 hb.ok)).trans ?_)
      rcases find_any (i := x.2) (l := b.2) with ⟨h1, e, h2, h3, h4⟩ | ⟨h1, h2⟩
      · rw [h2] at hget hfd
        have hget : getE I64 I64 (0 : Int) x.2 m = e.2 + 1 := hget
        have hfd : closeI b x.2 = e.2 := hfd
        have hE : closeE (b.1, b.2) x.2 = 0 := by show (bif hasId b x.2 then 0 else 4) = (0 : Int); rw [hany, h1]; rfl
        have hge := hb.ho e h3
        rw [hE, hget, e2]
        refine (cond_nn (by rw [dec_t (show e.2 + 1 > 0 by omega)]; rfl)).trans ((cond_et rfl).trans ?_)
        rw [w64 (n := e.2 + 1 - 1) (by omega) (by omega)]
        refine (cond_nf (show closeI b x.2 = e.2 + 1 - 1 by omega)).trans hf
      · rw [h2] at hget hfd
        have hget : getE I64 I64 (0 : Int) x.2 m = 0 := hget
        have hE : closeE (b.1, b.2) x.2 = 4 := by show (bif hasId b x.2 then 0 else 4) = (4 : Int); rw [hany, h1]; rfl
        rw [hE, hget, e2]
        exact (cond_nn (by rfl)).trans ((cond_ef (by omega)).trans hf)
    by_cases h1 : x.1 = 1
    · have hm5 := mod5 x.2
      generalize hhe : IntKind.i64.wrap (Int.tmod (IntKind.u64.wrap x.2) 5) = hh at hm5
      have hb0 : below hh 1 b.2 = b.2 := filter_id fun e he => by
        have := (hb.ok.mem e he).1
        rw [dec_f (by omega)]; simp
      obtain ⟨f, hf⟩ := never_drop hb.ok (by omega) hh hm5 l l.length k c (r := some (vb true, [])) b.1.toNat 1 m 0 (by omega) (by omega) (by rw [hb0]; exact hb.kv) (by have := hb.len; omega) (by omega) fun m' hm' =>
        ih (b.1, dropL hh b.2) m' c ⟨(hb.ok.sub List.filter_sublist).mono (by omega), fun e he => hb.ho e (List.mem_filter.1 he).1, hm', by
          have : (dropL hh b.2).length ≤ b.2.length := List.length_filter_le ..
          show (dropL hh b.2).length ≤ _; omega⟩
      refine ⟨f + 1, ?_⟩
      rw [lNever.s1, cond_dt (by omega), test_d (by omega), test_d (by omega), toNat_cast, hx]
      rw [hhe]
      exact (cond_ef h0).trans ((cond_et h1).trans hf)
    · have hm5 := mod5 x.2
      generalize hhe : IntKind.i64.wrap (Int.tmod (IntKind.u64.wrap x.2) 5) = hh at hm5
      have hnf : full b = false := dec_f (by omega)
      have hn := nextN_eq hb.ok (by omega)
      have e1 : openI b = b.1 + 1 := by unfold openI; rw [hnf, hn]; rfl
      have e2 : openE b = 0 := by unfold openE; rw [hnf]; rfl
      have e3 : openB b hh = (b.1 + 1, b.2 ++ [(b.1 + 1, hh)]) := by unfold openB; rw [hnf, hn]; rfl
      have hbo := hb.ok.open (by omega) hh
      rw [e3] at hbo
      have hset : setE I64 I64 c (b.1 + 1) (IntKind.i64.wrap (hh + 1)) m = m ++ [(b.1 + 1, hh + 1, c)] := by
        rw [w64 (n := hh + 1) (by omega) (by omega)]
        refine setE_new _ _ _ fun e he => ?_
        have h1 : (e.1, e.2.1) ∈ kv m := List.mem_map.2 ⟨e, he, rfl⟩
        rw [hb.kv] at h1
        obtain ⟨a, ha, hae⟩ := List.mem_map.1 h1
        have := (hb.ok.mem a ha).2
        have : a.1 = e.1 := congrArg Prod.fst hae
        omega
      obtain ⟨f, hf⟩ := ih (b.1 + 1, b.2 ++ [(b.1 + 1, hh)]) (m ++ [(b.1 + 1, hh + 1, c)]) (clockE I64 I64 c (b.1 + 1) m) ⟨hbo, fun e he => by
        rcases List.mem_append.1 he with he | he
        · exact hb.ho e he
        · simp at he; subst he; exact hm5, by
        show Go.Proofs.Ytlmfmpfpildemaa.kv (m ++ [_]) = up (b.2 ++ [_])
        have := hb.kv
        unfold Go.Proofs.Ytlmfmpfpildemaa.kv up at *
        rw [List.map_append, List.map_append, this]; rfl, by
        show (b.2 ++ [_]).length ≤ _
        simp; omega⟩
      refine ⟨f + 1, ?_⟩
      rw [lNever.s1, cond_dt (by omega), test_d (by omega), test_d (by omega), toNat_cast, hx]
      rw [hhe]
      refine (cond_ef h0).trans ((cond_ef h1).trans ((test_true (show open.pre ((b.1, b.2), hh, ()) = true from pre1 hb.ok)).trans ?_))
      show cond (bne (openE b) 0) _ (cond (decide (openI b ≤ b.1)) _ (cond (decide (openI b > 1000000)) _ (lNever.l3 f (openI b) 0 l l.length k 0 (setE I64 I64 c (openI b) _ m) (clockE I64 I64 c (openI b) m) (openB b hh).1 (openB b hh).2))) = _
      rw [e1, e2, e3, hset]
      exact (cond_nf rfl).trans ((cond_df (by omega)).trans ((cond_df (by omega)).trans hf))

theorem lNever_R : lNever.Law := fun l hx => by
  have hh : ∃ m, lNever.go m l = some (vb true, []) := by
    by_cases h1 : (l.length : Int) > 300
    · exact ⟨1, by rw [lNever.start, cond_dt h1]; rfl⟩
    · obtain ⟨f, hf⟩ := never_loop l (by omega) l.length 0 (0, []) [] 0 (by omega) ⟨bok_new, fun e he => (by cases he), rfl, Nat.zero_le _⟩
      exact ⟨f + 1, by rw [lNever.start, cond_df h1]; exact hf⟩
  obtain ⟨m, hm⟩ := hh
  exact lNever.ret (awake_ok.cons' SpecsOK.nil) (new_ok.cons' (open_ok.cons' (close_ok.cons' (drop_ok.cons' (count_ok.cons' (len_ok.cons' .nil)))))) l hm

/-! ### in which order -/

/-- The first tickets, numbered as they came. -/
def rowsH (hs : List Int) (k : Nat) : List (Int × Int) := (List.range k).map fun i => (((i + 1 : Nat) : Int), rdEl I64 hs i)
theorem rowsH_len (hs : List Int) (k : Nat) : (rowsH hs k).length = k := by simp [rowsH]
theorem rowsH_succ (hs : List Int) (k : Nat) : rowsH hs (k + 1) = rowsH hs k ++ [(((k + 1 : Nat) : Int), rdEl I64 hs k)] := by simp [rowsH, List.range_succ]
theorem rowsH_pre (hs : List Int) {i k : Nat} (h : i ≤ k) : ∃ t, rowsH hs k = rowsH hs i ++ t := by
  refine ⟨(rowsH hs k).drop i, ?_⟩
  have : (rowsH hs k).take i = rowsH hs i := by
    unfold rowsH
    rw [← List.map_take, List.take_range, Nat.min_eq_left h]
  rw [← this, List.take_append_drop]

theorem rowsH_mem {hs : List Int} {k : Nat} {e : Int × Int} : e ∈ rowsH hs k ↔ ∃ i, i < k ∧ e = (((i + 1 : Nat) : Int), rdEl I64 hs i) := by
  unfold rowsH
  rw [List.mem_map]
  refine ⟨fun ⟨i, h1, h2⟩ => ⟨i, List.mem_range.1 h1, h2.symm⟩, fun ⟨i, h1, h2⟩ => ⟨i, List.mem_range.2 h1, h2.symm⟩⟩

theorem rowsH_bok (hs : List Int) : ∀ (k : Nat), k ≤ 60 → Bok ((k : Int), rowsH hs k) k
  | 0, _ => bok_new
  | k + 1, hk => by
    have h := rowsH_bok hs k (by omega)
    have := h.open (by omega) (rdEl I64 hs k)
    have hnf : full ((k : Int), rowsH hs k) = false := dec_f (by show ¬ 2000 ≤ (rowsH hs k).length; rw [rowsH_len]; omega)
    unfold openB at this
    rw [hnf, cond_false, nextN_eq h (by omega)] at this
    rw [rowsH_succ]
    exact this

def notG (m : EnI) (e : Int × Int) : Bool := getE I64 I64 (0 : Int) e.1 m == (0 : Int)

/-- The book when these are gone. -/
structure GOK (hs : List Int) (m : EnI) (l : List (Int × Int)) : Prop where
  ok : Bok ((hs.length : Int), l) hs.length
  eq : l = (rowsH hs hs.length).filter (notG m)
  val : ∀ x, getE I64 I64 (0 : Int) x m = 0 ∨ getE I64 I64 (0 : Int) x m = 1

theorem GOK.find {hs : List Int} {m : EnI} {l : List (Int × Int)} (h : GOK hs m l) (x : Int) :
    (1 ≤ x ∧ x ≤ hs.length ∧ getE I64 I64 (0 : Int) x m = 0 ∧ l.any (keyA x) = true ∧ ∃ e, l.find? (keyA x) = some e ∧ e.2 = rdEl I64 hs (x - 1).toNat) ∨ (¬ (1 ≤ x ∧ x ≤ hs.length ∧ getE I64 I64 (0 : Int) x m = 0) ∧ l.any (keyA x) = false) := by
  rcases find_any (i := x) (l := l) with ⟨h1, e, h2, h3, h4⟩ | ⟨h1, h2⟩
  · rw [h.eq] at h3
    obtain ⟨h5, h6⟩ := List.mem_filter.1 h3
    obtain ⟨i, h7, h8⟩ := rowsH_mem.1 h5
    have h9 : x = ((i + 1 : Nat) : Int) := by rw [← h4, h8]
    have h10 : getE I64 I64 (0 : Int) x m = 0 := by
      have : (getE I64 I64 (0 : Int) e.1 m == (0 : Int)) = true := h6
      rw [← h4]; simpa using this
    refine .inl ⟨by omega, by omega, h10, h1, e, h2, ?_⟩
    rw [h8, h9]
    have : ((((i + 1 : Nat) : Int)) - 1).toNat = i := by omega
    rw [this]
  · refine .inr ⟨fun ⟨h3, h4, h5⟩ => ?_, h1⟩
    have h6 : (x, rdEl I64 hs (x - 1).toNat) ∈ l := by
      rw [h.eq]
      refine List.mem_filter.2 ⟨rowsH_mem.2 ⟨(x - 1).toNat, by omega, ?_⟩, ?_⟩
      · exact Prod.ext (by show x = _; omega) rfl
      · show (getE I64 I64 (0 : Int) x m == (0 : Int)) = true
        rw [h5]; rfl
    have := List.any_eq_false.1 h1 _ h6
    exact this (by simp [keyA])

theorem GOK.next {hs : List Int} {m : EnI} {l : List (Int × Int)} (h : GOK hs m l) (c : Nat) (x : Int) : GOK hs (setE I64 I64 c x (1 : Int) m) (dropA x l) := by
  refine ⟨h.ok.sub List.filter_sublist, ?_, fun y => ?_⟩
  · rw [h.eq]
    unfold dropA
    rw [List.filter_filter]
    refine List.filter_congr fun a _ => ?_
    unfold notG keyA
    rw [getE_setE]
    by_cases hx : a.1 = x
    · rw [if_pos hx]
      have : (a.1 == x) = true := by simpa using hx
      rw [this]; rfl
    · rw [if_neg hx]
      have : (a.1 == x) = false := by simpa using hx
      rw [this]; rfl
  · rw [getE_setE]
    by_cases hx : y = x
    · rw [if_pos hx]; exact .inr rfl
    · rw [if_neg hx]; exact h.val y

theorem order1 (hs sh : List Int) (h60 : hs.length ≤ 60) {r : R} (K : ∃ f, lOrder.l2 f hs sh sh.length 0 [] 0 hs.length (rowsH hs hs.length) = r) : ∀ (n k : Nat), hs.length = k + n → ∃ f, lOrder.l1 f hs sh hs hs.length k k (rowsH hs k) = r
  | 0, k, h => by
    obtain ⟨f, hf⟩ := K
    refine ⟨f + 1, ?_⟩
    rw [lOrder.s1, cond_df (by omega)]
    have : k = hs.length := by omega
    rw [this]; exact hf
  | n + 1, k, h => by
    obtain ⟨f, hf⟩ := order1 hs sh h60 K n (k + 1) (by omega)
    refine ⟨f + 1, ?_⟩
    have hb := rowsH_bok hs k (by omega)
    have hnf : full ((k : Int), rowsH hs k) = false := dec_f (by show ¬ 2000 ≤ (rowsH hs k).length; rw [rowsH_len]; omega)
    have hn := nextN_eq hb (by omega)
    have e1 : openI ((k : Int), rowsH hs k) = ((k + 1 : Nat) : Int) := by unfold openI; rw [hnf, hn]; rfl
    have e2 : openE ((k : Int), rowsH hs k) = 0 := by unfold openE; rw [hnf]; rfl
    have e3 : openB ((k : Int), rowsH hs k) (rdEl I64 hs k) = (((k + 1 : Nat) : Int), rowsH hs (k + 1)) := by unfold openB; rw [hnf, hn, rowsH_succ]; rfl
    rw [lOrder.s1, cond_dt (by omega), test_d (by omega), test_d (by omega), toNat_cast]
    refine (test_true (show open.pre (((k : Int), rowsH hs k), rdEl I64 hs k, ()) = true from pre1 hb)).trans ?_
    rw [e1, e2, w64s (by omega)]
    refine (cond_nf rfl).trans ((cond_nf rfl).trans ?_)
    show lOrder.l1 f hs sh hs hs.length ((k + 1 : Nat) : Int) (openB ((k : Int), rowsH hs k) (rdEl I64 hs k)).1 (openB ((k : Int), rowsH hs k) (rdEl I64 hs k)).2 = r
    rw [e3]; exact hf

theorem order2 (hs sh : List Int) (h60 : hs.length ≤ 60) (h60' : sh.length ≤ 60) {r : R} (K : ∀ m c l, GOK hs m l → ∃ f, lOrder.l3 f l 0 hs hs.length 0 m c hs.length l = r) : ∀ (n k : Nat) (m : EnI) (c : Nat) (l : List (Int × Int)), sh.length = k + n → GOK hs m l → ∃ f, lOrder.l2 f hs sh sh.length k m c hs.length l = r
  | 0, k, m, c, l, h, hg => by
    obtain ⟨f, hf⟩ := K m c l hg
    refine ⟨f + 1, ?_⟩
    rw [lOrder.s2, cond_df (by omega)]
    exact (test_true (show all.pre (((hs.length : Int), l), ()) = true from pre0 hg.ok)).trans hf
  | n + 1, k, m, c, l, h, hg => by
    obtain ⟨x, hx⟩ : ∃ x, rdEl I64 sh k = x := ⟨_, rfl⟩
    obtain ⟨f, hf⟩ := order2 hs sh h60 h60' K n (k + 1) _ (clockE I64 I64 c x m) _ (by omega) (hg.next c x)
    refine ⟨f + 1, ?_⟩
    rw [lOrder.s2, cond_dt (by omega), test_d (by omega), test_d (by omega), toNat_cast, hx, w64s (by omega)]
    refine (test_true (show close.pre (((hs.length : Int), l), x, ()) = true from pre1 hg.ok)).trans ?_
    have hcl : closeB ((hs.length : Int), l) x = ((hs.length : Int), dropA x l) := closeB_drop hg.ok x
    have hany : hasId ((hs.length : Int), l) x = l.any (keyA x) := has_any _ _
    have hfd : closeI ((hs.length : Int), l) x = (match l.find? (keyA x) with | some k => k.2 | none => 0) := close_find _ _
    have hE : closeE ((hs.length : Int), l) x = bif l.any (keyA x) then 0 else 4 := by unfold closeE; rw [hany]
    rw [hcl, hE, hfd]
    rcases hg.find x with ⟨h1, h2, h3, h4, e, h5, h6⟩ | ⟨h1, h2⟩
    · rw [cond_dt (by omega), cond_dt (by omega), h4, h3, h5]
      refine (cond_nn rfl).trans ((cond_et rfl).trans ?_)
      have hw : IntKind.i64.wrap (x - 1) = x - 1 := w64 (by omega) (by omega)
      rw [hw, test_d (by omega), test_d (by omega)]
      exact (cond_nf h6).trans hf
    · rw [h2]
      by_cases g1 : x ≥ 1
      · rw [cond_dt g1]
        by_cases g2 : x ≤ hs.length
        · rw [cond_dt g2]
          have g3 : getE I64 I64 (0 : Int) x m = 1 := (hg.val x).resolve_left fun h0 => h1 ⟨g1, g2, h0⟩
          rw [g3]
          exact (cond_nn rfl).trans ((cond_ef (by decide)).trans hf)
        · rw [cond_df g2]
          exact (cond_nn rfl).trans hf
      · rw [cond_df g1]
        exact (cond_nn rfl).trans hf

theorem order3 (hs : List Int) (h60 : hs.length ≤ 60) {m : EnI} {l : List (Int × Int)} (hg : GOK hs m l) (c : Nat) : ∀ (n k : Nat) (d : Nat), hs.length = k + n → d = ((rowsH hs k).filter (notG m)).length → ∃ f, lOrder.l3 f l d hs hs.length k m c hs.length l = some (vb true, [])
  | 0, k, d, h, hd => by
    have hk : k = hs.length := by omega
    have hd2 : d = l.length := by rw [hd, hk, ← hg.eq]
    refine ⟨1, ?_⟩
    rw [lOrder.s3, cond_df (by omega), hd2]
    exact (cond_et rfl).trans ((test_true (show len.pre (((hs.length : Int), l), ()) = true from pre0 hg.ok)).trans ((cond_et rfl).trans rfl))
  | n + 1, k, d, h, hd => by
    have hpre : of.pre (((hs.length : Int), l), ((k + 1 : Nat) : Int), ()) = true := pre1 hg.ok
    have hany : hasId ((hs.length : Int), l) ((k + 1 : Nat) : Int) = l.any (keyA ((k + 1 : Nat) : Int)) := has_any _ _
    have hfd : closeI ((hs.length : Int), l) ((k + 1 : Nat) : Int) = (match l.find? (keyA ((k + 1 : Nat) : Int)) with | some k => k.2 | none => 0) := close_find _ _
    rcases hg.find ((k + 1 : Nat) : Int) with ⟨h1, h2, h3, h4, e, h5, h6⟩ | ⟨h1, h2⟩
    · have hr : rowsH hs (k + 1) = rowsH hs k ++ [(((k + 1 : Nat) : Int), rdEl I64 hs k)] := rowsH_succ hs k
      have hf1 : (rowsH hs (k + 1)).filter (notG m) = (rowsH hs k).filter (notG m) ++ [(((k + 1 : Nat) : Int), rdEl I64 hs k)] := by
        have : notG m (((k + 1 : Nat) : Int), rdEl I64 hs k) = true := by unfold notG; rw [h3]; rfl
        rw [hr, List.filter_append, List.filter_cons, this]; rfl
      obtain ⟨t, ht⟩ := rowsH_pre hs (show k + 1 ≤ hs.length by omega)
      have hl : l = (rowsH hs k).filter (notG m) ++ ([(((k + 1 : Nat) : Int), rdEl I64 hs k)] ++ t.filter (notG m)) := by
        rw [hg.eq, ht, List.filter_append, hf1, List.append_assoc]
      have hget : rdEl TKey l d = (((k + 1 : Nat) : Int), rdEl I64 hs k) := by
        rw [hl, hd]
        simp [rdEl]
      have hlen : d < l.length := by rw [hl, hd]; simp
      obtain ⟨f, hf⟩ := order3 hs h60 hg c n (k + 1) (d + 1) (by omega) (by rw [hf1, List.length_append, ← hd]; rfl)
      refine ⟨f + 1, ?_⟩
      have hll := hg.ok.len
      have hll : l.length ≤ 2000 := hll
      have hm1 : ((((k + 1 : Nat) : Int)) - 1).toNat = k := by omega
      rw [hm1] at h6
      rw [lOrder.s3, cond_dt (by omega), test_d (by omega), test_d (by omega), toNat_cast, toNat_cast, w64s (by omega), w64s (by omega), hget, h3]
      refine (cond_nf rfl).trans ((test_true hpre).trans ?_)
      rw [hany, h4, hfd, h5]
      refine (cond_nf h6).trans ((cond_df (by omega)).trans ?_)
      rw [test_d (by omega), test_d (by omega)]
      refine (cond_f ?_).trans hf
      show (!((((k + 1 : Nat) : Int) == ((k + 1 : Nat) : Int)) && ((rdEl I64 hs k == rdEl I64 hs k) && true))) = false
      simp
    · have h3 : getE I64 I64 (0 : Int) ((k + 1 : Nat) : Int) m ≠ 0 := fun h0 => h1 ⟨by omega, by omega, h0⟩
      have hf1 : (rowsH hs (k + 1)).filter (notG m) = (rowsH hs k).filter (notG m) := by
        have : notG m (((k + 1 : Nat) : Int), rdEl I64 hs k) = false := by unfold notG; simpa using h3
        rw [rowsH_succ, List.filter_append, List.filter_cons, this]; simp
      obtain ⟨f, hf⟩ := order3 hs h60 hg c n (k + 1) d (by omega) (by rw [hf1, hd])
      refine ⟨f + 1, ?_⟩
      rw [lOrder.s3, cond_dt (by omega), test_d (by omega), test_d (by omega), w64s (by omega)]
      refine (cond_nt h3).trans ((test_true hpre).trans ?_)
      rw [hany, h2]
      exact hf

theorem lOrder_R : lOrder.Law := fun hs sh hx => by
  have hh : ∃ m, lOrder.go m hs sh = some (vb true, []) := by
    by_cases h1 : (hs.length : Int) > 60
    · exact ⟨1, by rw [lOrder.start, cond_dt h1]; rfl⟩
    by_cases h2 : (sh.length : Int) > 60
    · exact ⟨1, by rw [lOrder.start, cond_df h1, cond_dt h2]; rfl⟩
    have K3 : ∀ m c l, GOK hs m l → ∃ f, lOrder.l3 f l 0 hs hs.length 0 m c hs.length l = some (vb true, []) := fun m c l hg => order3 hs (by omega) hg c hs.length 0 0 (by omega) rfl
    have K2 := order2 hs sh (by omega) (by omega) K3 sh.length 0 [] 0 (rowsH hs hs.length) (by omega) ⟨rowsH_bok hs _ (by omega), (filter_id fun e _ => rfl).symm, fun x => .inl rfl⟩
    obtain ⟨f, hf⟩ := order1 hs sh (by omega) K2 hs.length 0 (by omega)
    exact ⟨f + 1, by rw [lOrder.start, cond_df h1, cond_df h2]; exact hf⟩
  obtain ⟨m, hm⟩ := hh
  exact lOrder.ret (awake_ok.cons' SpecsOK.nil) (new_ok.cons' (open_ok.cons' (close_ok.cons' (of_ok.cons' (all_ok.cons' (len_ok.cons' .nil)))))) hs sh hm

end Go.Proofs.Ytlmfmpfpildemaa
