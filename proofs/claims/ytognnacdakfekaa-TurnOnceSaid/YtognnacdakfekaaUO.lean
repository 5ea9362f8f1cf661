/-
  Rows gone through: a turn has each number once.
-/
import Derived.Test.YtognnacdakfekaaUN
namespace Go.Proofs.Ytognnacdakfekaa
open Go VE

abbrev I6 : Ty := .int .i64
abbrev Em : Type := List (Int × Int × Nat)
def gI (y : Int) (m : Em) : Int := getE I6 I6 (0 : Int) y m
def sI (c : Nat) (x : Int) (v : Int) (m : Em) : Em := setE I6 I6 c x v m
theorem eqI (a b : Int) : eqEl I6 a b = (a == b) := rfl

theorem gI_sI : ∀ (m : Em) (c : Nat) (x : Int) (v : Int) (y : Int), gI y (sI c x v m) = bif y == x then v else gI y m
  | [], c, x, v, y => rfl
  | e :: m, c, x, v, y => by
    have ih := gI_sI m c x v y
    have e0 : sI c x v (e :: m) = bif x == e.1 then (e.1, v, e.2.2) :: m else e :: sI c x v m := rfl
    have e1 : gI y (e :: m) = bif y == e.1 then e.2.1 else gI y m := rfl
    rw [e0, e1]
    cases hx : (x == e.1) with
    | true =>
      have hx : x = e.1 := by simpa using hx
      rw [cond_true]
      have e2 : gI y ((e.1, v, e.2.2) :: m) = bif y == e.1 then v else gI y m := rfl
      rw [e2, hx]
      cases (y == e.1) <;> rfl
    | false =>
      rw [cond_false]
      have e2 : gI y (e :: sI c x v m) = bif y == e.1 then e.2.1 else gI y (sI c x v m) := rfl
      rw [e2, ih]
      cases hy : (y == e.1) with
      | false => rfl
      | true =>
        have hy : y = e.1 := by simpa using hy
        have : (y == x) = false := by
          rw [hy]
          simp at hx ⊢
          exact fun h => hx h.symm
        rw [this]; rfl

theorem once_l1 {n k : Int} {a b : List Int} (hb : b.length ≤ 300) (m : Nat) : ∀ (d i : Nat) (es : Em) (c : Nat), b.length = i + d → (∀ y, gI y es = ((b.take i).count y : Int)) →
    ∃ es' c', (∀ y, gI y es' = (b.count y : Int)) ∧ lOnce.l1 (m + (d + 1)) n k a b b (b.length : Int) (i : Int) es c = lOnce.l2 m n k a b n 0 es' c'
  | 0, i, es, c, hi, hg => ⟨es, c, fun y => by rw [hg, List.take_of_length_le (by omega)], by
      refine (lOnce.s1 m n k a b b _ _ _ _).trans ?_
      rw [cond_df (by omega)]⟩
  | d + 1, i, es, c, hi, hg => by
    have hx : b.take (i + 1) = b.take i ++ [rdEl I6 b i] := by
      rw [List.take_add_one]
      have : b[i]? = some (rdEl I6 b i) := by
        unfold rdEl
        rw [List.getD_eq_getElem?_getD, List.getElem?_eq_getElem (show i < b.length by omega)]
        rfl
      rw [this]; rfl
    have hc : ∀ y, ((b.take i).count y : Int) ≤ 300 := fun y => by
      have h1 := List.count_le_length (a := y) (l := b.take i)
      rw [List.length_take] at h1
      omega
    have hn := hc (rdEl I6 b i)
    obtain ⟨es', c', h1, h2⟩ := once_l1 (n := n) (k := k) (a := a) (b := b) hb m d (i + 1) (sI c (rdEl I6 b i) (IntKind.i64.wrap (gI (rdEl I6 b i) es + 1)) es) (clockE I6 I6 c (rdEl I6 b i) es) (by omega) (fun y => by
      rw [gI_sI, hx, List.count_append, hg, w64 (by omega) (by omega)]
      by_cases hy : y = rdEl I6 b i
      · subst hy
        simp [List.count_singleton, hg]
      · have : (y == rdEl I6 b i) = false := by simpa using hy
        rw [this, cond_false, hg]
        have e : List.count y [rdEl I6 b i] = 0 := by
          rw [List.count_singleton]
          simp
          exact fun h => hy h.symm
        rw [e]; simp)
    refine ⟨es', c', h1, ?_⟩
    refine (lOnce.s1 (m + (d + 1)) n k a b b _ _ _ _).trans ?_
    rw [cond_dt (by omega), test_d (by omega), test_d (by omega), toNat_cast, w64s (by omega)]
    exact h2

theorem once_l2 {n : Nat} {k : Int} {a b : List Int} {es : Em} {c : Nat} (hn : n ≤ 300) (hg : ∀ y : Nat, y < n → gI (y : Int) es = 1) (m : Nat) : ∀ (d i : Nat), n = i + d →
    lOnce.l2 (m + (d + 1)) (n : Int) k a b (n : Int) (i : Int) es c = lOnce.l3 m (n : Int) k a b (a.length : Int) 0
  | 0, i, hi => by
    refine (lOnce.s2 m _ k a b _ _ _ _).trans ?_
    rw [cond_df (by omega)]
  | d + 1, i, hi => by
    refine (lOnce.s2 (m + (d + 1)) _ k a b _ _ _ _).trans ?_
    have e : bne (getE I6 I6 (0 : Int) (i : Int) es) 1 = false := by
      have := hg i (by omega)
      unfold gI at this
      rw [this]; rfl
    rw [cond_dt (by omega)]
    refine (cond_f e).trans ?_
    rw [w64s (by omega)]
    exact once_l2 hn hg m d (i + 1) (by omega)

theorem once_l3 {n k : Nat} {a b : List Int} (hk : k ≤ b.length) (ha : a = b.take k) (hb : b.length = n) (hn : n ≤ 300) : ∀ (d i : Nat), k = i + d →
    lOnce.l3 (d + 1) (n : Int) (k : Int) a b (a.length : Int) (i : Int) = some (vb true, [])
  | 0, i, hi => by
    have hal : a.length = k := by rw [ha, List.length_take]; omega
    refine (lOnce.s3 0 _ _ a b _ _).trans ?_
    rw [cond_df (by omega), cond_et (by omega), cond_et (by omega)]
    rfl
  | d + 1, i, hi => by
    have hal : a.length = k := by rw [ha, List.length_take]; omega
    refine (lOnce.s3 (d + 1) _ _ a b _ _).trans ?_
    have e : rdEl I6 a i = rdEl I6 b i := by
      unfold rdEl
      rw [List.getD_eq_getElem?_getD, List.getD_eq_getElem?_getD, ha, List.getElem?_take, if_pos (by omega)]
    rw [cond_dt (by omega), cond_df (by omega), test_d (by omega), test_d (by omega), test_d (by omega), test_d (by omega), toNat_cast]
    refine (cond_f (by rw [e]; simp)).trans ?_
    rw [w64s (by omega)]
    exact once_l3 hk ha hb hn d (i + 1) (by omega)

theorem count_upto {c y : Int} : ∀ N : Nat, (upto (fun j : Nat => c + (j : Int)) N).count y = if c ≤ y ∧ y < c + (N : Int) then 1 else 0
  | 0 => by
    rw [if_neg (by omega)]; rfl
  | N + 1 => by
    have e : List.count y [c + (N : Int)] = if c + (N : Int) = y then 1 else 0 := by
      rw [List.count_singleton]; simp
    have e2 : ((N + 1 : Nat) : Int) = (N : Int) + 1 := by omega
    rw [upto_succ, List.count_append, count_upto N, e, e2]
    split <;> split <;> split <;> omega

theorem count_turn {n f : Int} {y : Int} (h0 : 0 ≤ y) (h1 : y < n) : (turnL n f).count y = 1 := by
  have hb := first_lt (n := n) (f := f) (by omega)
  unfold turnL
  rw [if_neg (by omega), List.count_append, count_upto]
  have e : upto (fun j : Nat => (j : Int)) (first n f).toNat = upto (fun j : Nat => (0 : Int) + (j : Int)) (first n f).toNat := by
    congr 1
    funext j
    omega
  rw [e, count_upto]
  by_cases h : first n f ≤ y
  · rw [if_pos (by omega), if_neg (by omega)]
  · rw [if_neg (by omega), if_pos (by omega)]

theorem lOnce_R : lOnce.Law := fun x0 f x2 hx => by
  have hh : ∃ d, lOnce.go d x0 f x2 = some (vb true, []) := by
    obtain ⟨n, e0, h0⟩ := drawn x0 (c := 300) (by omega) (by omega)
    have w1 : IntKind.i64.wrap ((n : Int) + 1) = (n : Int) + 1 := w64 (by omega) (by omega)
    have w2 : IntKind.u64.wrap ((n : Int) + 1) = (n : Int) + 1 := by rw [u64_wrap]; omega
    have w3 : IntKind.i64.wrap ((n : Int) + 5) = (n : Int) + 5 := w64 (by omega) (by omega)
    obtain ⟨k, e2, h2⟩ := drawn x2 (c := (n : Int) + 1) (by omega) (by omega)
    have hlen := turnL_length (n := (n : Int)) (f := f)
    have hL : (turnL (n : Int) f).length = n := by rw [hlen]; omega
    have rb : rowL (turnL (n : Int) f) ((n : Int) + 5) = turnL (n : Int) f := List.take_of_length_le (by rw [hlen]; omega)
    have ra : rowL (turnL (n : Int) f) (k : Int) = (turnL (n : Int) f).take k := by unfold rowL; rw [toNat_cast]
    obtain ⟨es', c', g1, g2⟩ := once_l1 (n := (n : Int)) (k := (k : Int)) (a := (turnL (n : Int) f).take k) (b := turnL (n : Int) f) (by omega) (k + 1 + (n + 1)) n 0 [] 0 (by omega) (fun y => by simp [gI, getE])
    refine ⟨k + 1 + (n + 1) + (n + 1) + 1, ?_⟩
    rw [lOnce.start, e0, w1, w2, w3, e2, dec_f (show ¬ (n : Int) + 1 = 0 by omega), Bool.not_false, test_true rfl, test_true (rowT_pre (by omega) (by omega)), test_true (rowT_pre (by omega) (by omega)), rb, ra]
    refine g2.trans ?_
    refine (once_l2 (n := n) (by omega) (fun y hy => by rw [g1, count_turn (by omega) (by omega)]; rfl) (k + 1) n 0 (by omega)).trans ?_
    exact once_l3 (by omega) rfl hL (by omega) k 0 (by omega)
  obtain ⟨d, hd⟩ := hh
  exact lOnce.ret (awake_ok.cons' (turn_ok.cons' (row_ok.cons' .nil))) x0 f x2 hd

end Go.Proofs.Ytognnacdakfekaa
