/-
  In turn, by weight: in as many nexts as the sum of parts each is it as often as its part says.
-/
import Derived.Test.YtgocadoemofepaaRM
namespace Go.Proofs.Ytgocadoemofepaa
open Go VE

/-! ### sums -/

def sumN (f : Nat → Int) : Nat → Int
  | 0 => 0
  | n + 1 => sumN f n + f n
theorem sumN_congr {f g : Nat → Int} : ∀ {n : Nat}, (∀ i, i < n → f i = g i) → sumN f n = sumN g n
  | 0, _ => rfl
  | n + 1, h => by rw [sumN, sumN, sumN_congr fun i hi => h i (by omega), h n (by omega)]
theorem sumN_add (f g : Nat → Int) : ∀ n, sumN (fun i => f i + g i) n = sumN f n + sumN g n
  | 0 => rfl
  | n + 1 => by rw [sumN, sumN, sumN, sumN_add f g n]; omega
theorem sumN_mul (a : Int) (f : Nat → Int) : ∀ n, sumN (fun i => a * f i) n = a * sumN f n
  | 0 => by simp [sumN]
  | n + 1 => by rw [sumN, sumN, sumN_mul a f n, Int.mul_add]
theorem sumN_sub (f g : Nat → Int) : ∀ n, sumN (fun i => f i - g i) n = sumN f n - sumN g n
  | 0 => rfl
  | n + 1 => by rw [sumN, sumN, sumN, sumN_sub f g n]; omega
theorem sumN_pos {f : Nat → Int} : ∀ {n : Nat}, 0 < sumN f n → ∃ i, i < n ∧ 0 < f i
  | 0, h => by simp [sumN] at h
  | n + 1, h => by
    rw [sumN] at h
    by_cases h2 : 0 < f n
    · exact ⟨n, by omega, h2⟩
    · obtain ⟨i, hi, hf⟩ := sumN_pos (f := f) (n := n) (by omega)
      exact ⟨i, by omega, hf⟩
theorem sumN_nonneg {f : Nat → Int} : ∀ {n : Nat}, (∀ i, i < n → 0 ≤ f i) → 0 ≤ sumN f n
  | 0, _ => Int.le_refl _
  | n + 1, h => by
    have := sumN_nonneg (f := f) (n := n) fun i hi => h i (by omega)
    have := h n (by omega)
    rw [sumN]; omega
theorem sumN_zero {f : Nat → Int} : ∀ {n : Nat}, (∀ i, i < n → 0 ≤ f i) → sumN f n = 0 → ∀ i, i < n → f i = 0
  | 0, _, _, i, hi => by omega
  | n + 1, h, h0, i, hi => by
    have h1 := sumN_nonneg (f := f) (n := n) fun i hi => h i (by omega)
    have h2 := h n (by omega)
    rw [sumN] at h0
    by_cases hin : i < n
    · exact sumN_zero (fun i hi => h i (by omega)) (by omega) i hin
    · have : i = n := by omega
      subst this; omega
def bumpF (c : Nat → Int) (t : Nat) (i : Nat) : Int := if i = t then c i + 1 else c i
theorem sumN_bump_out {c : Nat → Int} {t : Nat} : ∀ {n : Nat}, n ≤ t → sumN (bumpF c t) n = sumN c n := fun h => sumN_congr fun i hi => by unfold bumpF; rw [if_neg (by omega)]
theorem sumN_bump {c : Nat → Int} {t : Nat} : ∀ {n : Nat}, t < n → sumN (bumpF c t) n = sumN c n + 1
  | 0, h => by omega
  | n + 1, h => by
    rw [sumN, sumN]
    by_cases hn : t < n
    · rw [sumN_bump hn]
      have : bumpF c t n = c n := by unfold bumpF; rw [if_neg (by omega)]
      omega
    · have : n = t := by omega
      subst this
      rw [sumN_bump_out (Nat.le_refl _)]
      unfold bumpF; rw [if_pos rfl]; omega
theorem sumN_le {f : Nat → Int} {b : Int} : ∀ {n : Nat}, (∀ i, i < n → f i ≤ b) → sumN f n ≤ b * n
  | 0, _ => by simp [sumN]
  | n + 1, h => by
    have h1 := sumN_le (f := f) (n := n) fun i hi => h i (by omega)
    have h2 := h n (by omega)
    have h3 : b * ((n + 1 : Nat) : Int) = b * n + b := by rw [Int.natCast_add, Int.mul_add]; simp
    rw [sumN, h3]; omega

/-! ### once round -/

def pt (l : List (Int × Int)) (i : Nat) : Int := (rdEl TShare l i).2
def nw (now : List Int) (i : Nat) : Int := rdEl (.int .i64) now i
theorem nw_set {now : List Int} {k : Nat} (hk : k < now.length) (v : Int) (i : Nat) : nw (now.set k v) i = if i = k then v else nw now i := by
  unfold nw
  simp only [rdEl, List.getD, List.getElem?_set]
  by_cases h : k = i
  · subst h; simp [hk]
  · rw [if_neg h, if_neg (by omega)]

theorem spin_all (l : List (Int × Int)) (hp : ∀ i, i < l.length → 1 ≤ pt l i ∧ pt l i ≤ 20) (hl : l.length ≤ 64) : ∀ (d k top : Nat) (all : Int) (now : List Int), l.length = k + d → top < l.length → now.length = l.length → (∀ i, i < l.length → -1000000 ≤ nw now i ∧ nw now i ≤ 1000000 + 20 * (k : Int)) →
    all = sumN (pt l) k → (k = 0 → top = 0) → (∀ i, i < k → nw now i ≤ nw now top) → (0 < k → top < k) →
    (spin l d k top all now).2.2.length = l.length ∧ (spin l d k top all now).1 < l.length ∧ (spin l d k top all now).2.1 = sumN (pt l) l.length ∧
      (∀ i, i < l.length → nw (spin l d k top all now).2.2 i = if i < k then nw now i else nw now i + pt l i) ∧ (∀ i, i < l.length → nw (spin l d k top all now).2.2 i ≤ nw (spin l d k top all now).2.2 (spin l d k top all now).1)
  | 0, k, top, all, now, h, ht, hn, hb, ha, h0, hm, hk => by
    have : k = l.length := by omega
    subst this
    exact ⟨hn, ht, ha, fun i hi => by rw [if_pos hi]; rfl, hm⟩
  | d + 1, k, top, all, now, h, ht, hn, hb, ha, h0, hm, hk => by
    have hkl : k < l.length := by omega
    obtain ⟨p1, p2⟩ := hp k hkl
    obtain ⟨b1, b2⟩ := hb k hkl
    have hbump : bump l now k = now.set k (nw now k + pt l k) := by
      unfold bump
      show now.set k (IntKind.i64.wrap (nw now k + pt l k)) = _
      rw [w64 (by omega) (by omega)]
    have hs : ∀ i, nw (bump l now k) i = if i = k then nw now k + pt l k else nw now i := fun i => by rw [hbump]; exact nw_set (by omega) _ _
    have hsum : sumN (pt l) k ≤ 20 * k := sumN_le fun i hi => (hp i (by omega)).2
    have hsum0 : 0 ≤ sumN (pt l) k := sumN_nonneg fun i hi => by have := (hp i (by omega)).1; omega
    have hall : IntKind.i64.wrap (all + (rdEl TShare l k).2) = sumN (pt l) (k + 1) := by
      show IntKind.i64.wrap (all + pt l k) = sumN (pt l) k + pt l k
      rw [w64 (by omega) (by omega), ha]
    have hahead : ∀ b, ahead l (bump l now k) k top = b → if b = true then nw (bump l now k) top ≤ nw (bump l now k) k else nw (bump l now k) k ≤ nw (bump l now k) top := fun b hb => by
      have ha : (decide (nw (bump l now k) k > nw (bump l now k) top) || ((nw (bump l now k) k == nw (bump l now k) top) && decide ((rdEl TShare l k).1 < (rdEl TShare l top).1))) = b := hb
      generalize nw (bump l now k) k = x at ha ⊢
      generalize nw (bump l now k) top = y at ha ⊢
      cases b with
      | true =>
        rw [if_pos rfl]
        rw [Bool.or_eq_true, decide_eq_true_eq, Bool.and_eq_true, beq_iff_eq] at ha
        rcases ha with ha | ha
        · omega
        · omega
      | false =>
        rw [if_neg (by decide)]
        rw [Bool.or_eq_false_iff, decide_eq_false_iff_not] at ha
        omega
    rw [spin, hall]
    have hlen : (bump l now k).length = l.length := by rw [bump_len]; exact hn
    -- the bounds: those ahead were bumped once
    obtain ⟨t', ht', ht2, ht3⟩ : ∃ t', (bif ahead l (bump l now k) k top then k else top) = t' ∧ t' < k + 1 ∧ ∀ i, i < k + 1 → nw (bump l now k) i ≤ nw (bump l now k) t' := by
      refine ⟨_, rfl, ?_, fun i hi => ?_⟩
      · cases ahead l (bump l now k) k top with
        | true => show k < k + 1; omega
        | false =>
          show top < k + 1
          by_cases hk0 : k = 0
          · have := h0 hk0; omega
          · have := hk (by omega); omega
      · have hh := hahead _ rfl
        cases hA : ahead l (bump l now k) k top with
        | true =>
          rw [hA, if_pos rfl] at hh
          show nw (bump l now k) i ≤ nw (bump l now k) k
          by_cases hik : i = k
          · rw [hik]; exact Int.le_refl _
          · have h1 := hm i (by omega)
            have h2 := hk (by omega)
            have h3 := hs i
            have h4 := hs top
            rw [if_neg hik] at h3
            rw [if_neg (by omega)] at h4
            omega
        | false =>
          rw [hA, if_neg (by decide)] at hh
          show nw (bump l now k) i ≤ nw (bump l now k) top
          by_cases hik : i = k
          · rw [hik]; exact hh
          · have h1 := hm i (by omega)
            have h2 := hk (by omega)
            have h3 := hs i
            have h4 := hs top
            rw [if_neg hik] at h3
            rw [if_neg (by omega)] at h4
            omega
    rw [ht']
    have hb2 : ∀ i, i < l.length → -1000000 ≤ nw (bump l now k) i ∧ nw (bump l now k) i ≤ 1000000 + 20 * ((k + 1 : Nat) : Int) := fun i hi => by
      obtain ⟨q1, q2⟩ := hb i hi
      have h3 := hs i
      by_cases hik : i = k
      · rw [if_pos hik] at h3; omega
      · rw [if_neg hik] at h3; omega
    obtain ⟨i1, i2, i3, i4, i5⟩ := spin_all l hp hl d (k + 1) t' (sumN (pt l) (k + 1)) (bump l now k) (by omega) (by omega) hlen hb2 rfl (by omega) ht3 (fun _ => ht2)
    refine ⟨i1, i2, i3, fun i hi => ?_, i5⟩
    rw [i4 i hi, hs i]
    by_cases hik : i = k
    · subst hik
      rw [if_pos (by omega), if_pos rfl, if_neg (by omega)]
    · rw [if_neg hik]
      by_cases hlt : i < k
      · rw [if_pos (by omega), if_pos hlt]
      · rw [if_neg (by omega), if_neg hlt]

/-- Where each stands after k nexts of a period in which each has been it c times. -/
structure FI (l : List (Int × Int)) (S : Int) (c : Nat → Int) (k : Int) (now : List Int) : Prop where
  len : now.length = l.length
  val : ∀ i, i < l.length → nw now i = k * pt l i - S * c i
  low : ∀ i, i < l.length → -S < nw now i
  sum : sumN c l.length = k
  nn : ∀ i, i < l.length → 0 ≤ c i

/-- A row that may be gone through. -/
structure Pok (l : List (Int × Int)) (S : Int) : Prop where
  p : ∀ i, i < l.length → 1 ≤ pt l i ∧ pt l i ≤ 20
  n1 : 1 ≤ l.length
  n2 : l.length ≤ 12
  s : S = sumN (pt l) l.length

theorem Pok.pos {l : List (Int × Int)} {S : Int} (h : Pok l S) : 1 ≤ S ∧ S ≤ 240 := by
  have h1 := sumN_le (f := pt l) (b := 20) (n := l.length) fun i hi => (h.p i hi).2
  have h2 := h.n1
  have h3 := h.n2
  have h4 : pt l 0 ≤ sumN (pt l) l.length := by
    obtain ⟨m, hm⟩ : ∃ m, l.length = m + 1 := ⟨l.length - 1, by omega⟩
    rw [hm]
    have : ∀ m, m < l.length → pt l 0 ≤ sumN (pt l) (m + 1) := fun m => by
      induction m with
      | zero => intro _; rw [sumN, sumN]; omega
      | succ m ih =>
        intro hm
        have := ih (by omega)
        have := (h.p (m + 1) hm).1
        rw [sumN]; omega
    exact this m (by omega)
  have h5 := (h.p 0 (by omega)).1
  have := h.s
  omega

theorem nw_zero (n i : Nat) : nw (List.replicate n 0) i = 0 := by
  unfold nw
  simp only [rdEl, List.getD, List.getElem?_replicate]
  split <;> rfl

theorem fi_zero {l : List (Int × Int)} {S : Int} (hS : 1 ≤ S) : FI l S (fun _ => 0) 0 (List.replicate l.length 0) :=
  ⟨by simp, fun i _ => by rw [nw_zero]; simp, fun i _ => by rw [nw_zero]; omega, by
    have := sumN_mul 0 (fun _ => (0 : Int)) l.length
    simpa using this, fun _ _ => Int.le_refl _⟩

theorem FI.up {l : List (Int × Int)} {S : Int} {c : Nat → Int} {k : Int} {now : List Int} (h : FI l S c k now) (hp : Pok l S) (hk : 0 ≤ k) {i : Nat} (hi : i < l.length) : nw now i ≤ 20 * k := by
  have h1 := h.val i hi
  obtain ⟨p1, p2⟩ := hp.p i hi
  have h2 : k * pt l i ≤ k * 20 := Int.mul_le_mul_of_nonneg_left p2 hk
  have h3 : 0 ≤ S * c i := Int.mul_nonneg (by have := hp.pos; omega) (h.nn i hi)
  omega

theorem FI.zeroSum {l : List (Int × Int)} {S : Int} {c : Nat → Int} {k : Int} {now : List Int} (h : FI l S c k now) (hp : Pok l S) : sumN (nw now) l.length = 0 := by
  rw [sumN_congr (g := fun i => k * pt l i - S * c i) h.val, sumN_sub, sumN_mul, sumN_mul, h.sum, ← hp.s, Int.mul_comm]
  omega

theorem FI.next {l : List (Int × Int)} {S : Int} {c : Nat → Int} {k : Int} {now : List Int} (h : FI l S c k now) (hp : Pok l S) (hk : 0 ≤ k) (hkS : k ≤ S) {row : List (Int × Int)} {now0 : List Int} (hs : startN row l now0 = now) :
    ∃ t, t < l.length ∧ idOf' row l now0 = (rdEl TShare l t).1 ∧ FI l S (bumpF c t) (k + 1) (nowOf row l now0) := by
  obtain ⟨s1, s2⟩ := hp.pos
  have hn1 := hp.n1
  have hn2 := hp.n2
  have hsp : spun row l now0 = spin l l.length 0 0 0 now := by unfold spun; rw [hs]
  obtain ⟨i1, i2, i3, i4, i5⟩ := spin_all l hp.p (by omega) l.length 0 0 0 now (by omega) (by omega) h.len (fun i hi => by
    have := h.low i hi
    have := h.up hp hk hi
    constructor <;> omega) rfl (fun _ => rfl) (fun i hi => by omega) (fun h => by omega)
  unfold idOf' nowOf
  rw [hsp]
  generalize spin l l.length 0 0 0 now = z at *
  obtain ⟨t, a, nws⟩ := z
  simp only at i1 i2 i3 i4 i5
  have i4 : ∀ i, i < l.length → nw nws i = nw now i + pt l i := fun i hi => by rw [i4 i hi, if_neg (by omega)]
  have hsum : sumN (nw nws) l.length = S := by
    rw [sumN_congr i4, sumN_add, h.zeroSum hp, ← hp.s]; omega
  obtain ⟨j, hj, hj2⟩ := sumN_pos (f := nw nws) (n := l.length) (by omega)
  have htop : 0 < nw nws t := Int.lt_of_lt_of_le hj2 (i5 j hj)
  have hupt : nw nws t ≤ 20 * k + 20 := by
    have := h.up hp hk i2
    have := i4 t i2
    have := (hp.p t i2).2
    omega
  have hw : IntKind.i64.wrap (rdEl (.int .i64) nws t - a) = nw nws t - S := by
    show IntKind.i64.wrap (nw nws t - a) = _
    rw [i3, ← hp.s, w64 (by omega) (by omega)]
  refine ⟨t, i2, rfl, ?_⟩
  show FI l S (bumpF c t) (k + 1) (nws.set t (IntKind.i64.wrap (rdEl (.int .i64) nws t - a)))
  rw [hw]
  have hset := fun i => nw_set (now := nws) (k := t) (by omega) (nw nws t - S) i
  refine ⟨by rw [List.length_set]; exact i1, fun i hi => ?_, fun i hi => ?_, by rw [sumN_bump i2, h.sum], fun i hi => ?_⟩
  · rw [hset i]
    have e1 : (k + 1) * pt l i = k * pt l i + pt l i := by rw [Int.add_mul, Int.one_mul]
    by_cases hit : i = t
    · subst hit
      rw [if_pos rfl, i4 i hi, h.val i hi, e1]
      unfold bumpF
      rw [if_pos rfl, Int.mul_add, Int.mul_one]; omega
    · rw [if_neg hit, i4 i hi, h.val i hi, e1]
      unfold bumpF
      rw [if_neg hit]; omega
  · rw [hset i]
    by_cases hit : i = t
    · rw [if_pos hit]; omega
    · rw [if_neg hit, i4 i hi]
      have := h.low i hi
      have := (hp.p i hi).1
      omega
  · unfold bumpF
    have := h.nn i hi
    split <;> omega

theorem FI.end {l : List (Int × Int)} {S : Int} {c : Nat → Int} {now : List Int} (h : FI l S c S now) (hp : Pok l S) : (∀ i, i < l.length → c i = pt l i) ∧ now = List.replicate l.length 0 := by
  obtain ⟨s1, s2⟩ := hp.pos
  have hle : ∀ i, i < l.length → 0 ≤ pt l i - c i := fun i hi => by
    have h1 := h.val i hi
    have h2 := h.low i hi
    have h3 : S * (-1) < S * (pt l i - c i) := by rw [Int.mul_sub, Int.mul_neg, Int.mul_one]; omega
    have := Int.lt_of_mul_lt_mul_left h3 (by omega)
    omega
  have h0 : sumN (fun i => pt l i - c i) l.length = 0 := by rw [sumN_sub, ← hp.s, h.sum]; omega
  have hc : ∀ i, i < l.length → c i = pt l i := fun i hi => by
    have := sumN_zero hle h0 i hi
    omega
  refine ⟨hc, ?_⟩
  refine List.ext_getElem (by rw [h.len]; simp) fun i hi _ => ?_
  have hi2 : i < l.length := by rw [← h.len]; exact hi
  have h1 := h.val i hi2
  rw [hc i hi2] at h1
  have h2 : nw now i = now[i] := by unfold nw; simp [rdEl, List.getD, hi]
  rw [List.getElem_replicate, ← h2, h1]
  omega

theorem sumN_ge {c : Nat → Int} {t : Nat} : ∀ {n : Nat}, (∀ i, i < n → 0 ≤ c i) → t < n → c t ≤ sumN c n
  | 0, _, h => by omega
  | n + 1, h, ht => by
    have h1 := sumN_nonneg (f := c) (n := n) fun i hi => h i (by omega)
    have h2 := h n (by omega)
    rw [sumN]
    by_cases hn : t < n
    · have := sumN_ge (fun i hi => h i (by omega)) hn
      omega
    · have : t = n := by omega
      subst this; omega

end Go.Proofs.Ytgocadoemofepaa
