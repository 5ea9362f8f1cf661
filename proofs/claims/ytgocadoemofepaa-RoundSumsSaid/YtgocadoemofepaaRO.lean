/-
  In turn, by weight: each as often as its part says; where each stands is nought together.
-/
import Derived.Test.YtgocadoemofepaaRN
import Derived.Test.YtgocadoemofepaaRG
namespace Go.Proofs.Ytgocadoemofepaa
open Go VE

abbrev I64 : Ty := .int .i64
abbrev EnI : Type := List (Int × Int × Nat)
theorem getE_cons (x : Int) (e : Int × Int × Nat) (m : EnI) : getE I64 I64 (0 : Int) x (e :: m) = bif x == e.1 then e.2.1 else getE I64 I64 (0 : Int) x m := rfl
theorem setE_cons (c : Nat) (x v : Int) (e : Int × Int × Nat) (m : EnI) : setE I64 I64 c x v (e :: m) = bif x == e.1 then (e.1, v, e.2.2) :: m else e :: setE I64 I64 c x v m := rfl
theorem getE_setE : ∀ {m : EnI} (c : Nat) (x v y : Int), getE I64 I64 (0 : Int) y (setE I64 I64 c x v m) = if y = x then v else getE I64 I64 (0 : Int) y m
  | [], c, x, v, y => by
    show (bif y == x then v else (0 : Int)) = if y = x then v else 0
    by_cases h : y = x
    · have e : (y == x) = true := by simpa using h
      rw [e, if_pos h]; rfl
    · have e : (y == x) = false := by simpa using h
      rw [e, if_neg h]; rfl
  | e :: m, c, x, v, y => by
    rw [setE_cons]
    by_cases hx : x = e.1
    · have e1 : (x == e.1) = true := by simpa using hx
      rw [e1, cond_true, getE_cons, getE_cons]
      show (bif y == e.1 then v else _) = if y = x then v else bif y == e.1 then _ else _
      by_cases h : y = x
      · have : (y == e.1) = true := by rw [h, hx]; simp
        rw [this, if_pos h]; rfl
      · have : (y == e.1) = false := by simp; omega
        rw [this, if_neg h]; rfl
    · have e1 : (x == e.1) = false := by simpa using hx
      rw [e1, cond_false, getE_cons, getE_cons, getE_setE c x v y]
      by_cases h : y = x
      · have : (y == e.1) = false := by rw [h]; exact e1
        rw [this, if_pos h, if_pos h]; rfl
      · rw [if_neg h, if_neg h]

theorem startN_self (l : List (Int × Int)) (now : List Int) : startN l l now = now := by
  unfold startN; rw [eqSh_self]; rfl

/-- Numbers of their own. -/
def Apart (l : List (Int × Int)) : Prop := ∀ i j, i < l.length → j < l.length → (rdEl TShare l i).1 = (rdEl TShare l j).1 → i = j

theorem built_apart {ids : List Int} {k : Nat} {l : List (Int × Int)} (h : Built ids k l) : Apart l := fun i j hi hj he => by
  have hl := h.len
  rw [h.id i (by omega), h.id j (by omega)] at he
  rcases Nat.lt_trichotomy i j with hij | hij | hij
  · exact absurd he (h.apart i j hij (by omega))
  · exact hij
  · exact absurd he.symm (h.apart j i hij (by omega))

/-- The wheel k nexts into a period. -/
structure WI (w : El TWheel) (l : List (Int × Int)) (S : Int) (c : Nat → Int) (k : Nat) (now : List Int) : Prop where
  ok : Wok w
  st : startN w.1 l w.2 = now
  fi : FI l S c (k : Int) now
  same : 0 < k → w = (l, now)

theorem WI.next {w : El TWheel} {l : List (Int × Int)} {S : Int} {c : Nat → Int} {k : Nat} {now : List Int} (h : WI w l S c k now) (hp : Pok l S) (hm : mayRow l = true) (hk : (k : Int) < S) :
    ∃ t now', t < l.length ∧ nextI w l = (rdEl TShare l t).1 ∧ wheelN w l = (l, now') ∧ WI (wheelN w l) l S (bumpF c t) (k + 1) now' := by
  obtain ⟨t, ht, hid, hfi⟩ := h.fi.next hp (by omega) (by omega) h.st
  have e : wheelN w l = (l, nowOf w.1 l w.2) := by unfold wheelN; rw [hm]; rfl
  have e2 : ((k : Int) + 1) = ((k + 1 : Nat) : Int) := by omega
  rw [e2] at hfi
  refine ⟨t, nowOf w.1 l w.2, ht, ?_, e, wok_next h.ok l, ?_, hfi, fun _ => e⟩
  · unfold nextI; rw [hm]; exact hid
  · rw [e]; exact startN_self ..

theorem wi_zero {w : El TWheel} {l : List (Int × Int)} {S : Int} (hS : 1 ≤ S) (hw : Wok w) (h : startN w.1 l w.2 = List.replicate l.length 0) : WI w l S (fun _ => 0) 0 (List.replicate l.length 0) :=
  ⟨hw, h, fi_zero hS, fun h => absurd h (Nat.lt_irrefl 0)⟩

/-- What a map holds by the row's numbers. -/
def MI (l : List (Int × Int)) (m : EnI) (L : Nat → Int) : Prop := ∀ i, i < l.length → getE I64 I64 (0 : Int) (rdEl TShare l i).1 m = L i

theorem MI.set {l : List (Int × Int)} {m : EnI} {L : Nat → Int} (h : MI l m L) (ha : Apart l) {t : Nat} (ht : t < l.length) (c : Nat) (v : Int) : MI l (setE I64 I64 c (rdEl TShare l t).1 v m) (fun i => if i = t then v else L i) := fun i hi => by
  rw [getE_setE]
  show _ = if i = t then v else L i
  by_cases hit : i = t
  · rw [if_pos (by rw [hit]), if_pos hit]
  · rw [if_neg (fun he => hit (ha i t hi ht he)), if_neg hit]
    exact h i hi

theorem bump_c {c : Nat → Int} {t : Nat} : bumpF c t = fun i => if i = t then c t + 1 else c i := by
  funext i
  unfold bumpF
  by_cases h : i = t
  · rw [if_pos h, if_pos h, h]
  · rw [if_neg h, if_neg h]

/-! ### each as often as its part says -/

theorem fair6 (l : List (El TShare)) (S : Int) (r : Int) (hl : l.length ≤ 12) {R0 : R} (K : ∃ f, lFair.l3 f l S (IntKind.i64.wrap (r + 1)) l (List.replicate l.length 0) = R0) : ∀ (d i : Nat), l.length = i + d →
    ∃ f, lFair.l6 f l S (turnsOf l (List.replicate l.length 0)) r (turnsOf l (List.replicate l.length 0)) (turnsOf l (List.replicate l.length 0)).length i l (List.replicate l.length 0) = R0
  | 0, i, h => by
    obtain ⟨f, hf⟩ := K
    have ht := turns_len l (List.replicate l.length 0) (by simp)
    refine ⟨f + 1, ?_⟩
    rw [lFair.s6, cond_df (by omega)]
    exact (cond_nf (by rw [ht])).trans hf
  | d + 1, i, h => by
    obtain ⟨f, hf⟩ := fair6 l S r hl K d (i + 1) (by omega)
    have ht := turns_len l (List.replicate l.length 0) (by simp)
    have hr := rd_turns (l := l) (now := List.replicate l.length 0) (k := i) (by omega) (by simp; omega)
    refine ⟨f + 1, ?_⟩
    rw [lFair.s6, cond_dt (by omega), test_d (by omega), test_d (by omega), cond_df (by omega), test_d (by omega), test_d (by omega), toNat_cast, hr, w64s (by omega)]
    exact (cond_nf rfl).trans ((cond_nf (nw_zero l.length i)).trans hf)

theorem fair5 (l : List (El TShare)) (S : Int) (r : Int) (hl : l.length ≤ 12) (m : EnI) (c : Nat) (hm : MI l m (pt l)) {R0 : R} (K : ∃ f, lFair.l3 f l S (IntKind.i64.wrap (r + 1)) l (List.replicate l.length 0) = R0) : ∀ (d i : Nat), l.length = i + d →
    ∃ f, lFair.l5 f l S r l l.length i m c l (List.replicate l.length 0) = R0
  | 0, i, h => by
    obtain ⟨f, hf⟩ := fair6 l S r hl K l.length 0 (by omega)
    have hw : Wok (l, List.replicate l.length 0) := ⟨by simp, by show l.length ≤ 64; omega⟩
    refine ⟨f + 1, ?_⟩
    rw [lFair.s5, cond_df (by omega)]
    exact (test_true (wok_turns hw)).trans hf
  | d + 1, i, h => by
    obtain ⟨f, hf⟩ := fair5 l S r hl m c hm K d (i + 1) (by omega)
    refine ⟨f + 1, ?_⟩
    rw [lFair.s5, cond_dt (by omega), test_d (by omega), test_d (by omega), toNat_cast, w64s (by omega), hm i (by omega)]
    exact (cond_nf rfl).trans hf

theorem fair4 (l : List (El TShare)) (hlf : fits (.sl TShare) l = true) (S : Int) (hp : Pok l S) (ha : Apart l) (hm : mayRow l = true) (r : Int) {R0 : R} (K : ∃ f, lFair.l3 f l S (IntKind.i64.wrap (r + 1)) l (List.replicate l.length 0) = R0) : ∀ (d k : Nat) (w : El TWheel) (c : Nat → Int) (now : List Int) (m : EnI) (clk : Nat), S = (k : Int) + d →
    WI w l S c k now → MI l m c → ∃ f, lFair.l4 f l S r S k m clk w.1 w.2 = R0
  | 0, k, w, c, now, m, clk, h, hw, hM => by
    have hS := hp.pos
    have hk : (k : Int) = S := by omega
    have hwl := hw.same (by omega)
    have hfi := hw.fi
    rw [hk] at hfi
    obtain ⟨e1, e2⟩ := hfi.end hp
    subst e2
    subst hwl
    obtain ⟨f, hf⟩ := fair5 l S r hp.n2 m clk (fun i hi => (hM i hi).trans (e1 i hi)) K l.length 0 (by omega)
    refine ⟨f + 1, ?_⟩
    rw [lFair.s4, cond_df (by omega)]
    exact hf
  | d + 1, k, w, c, now, m, clk, h, hw, hM => by
    have hS := hp.pos
    obtain ⟨t, now', ht, hid, hwe, hw2⟩ := hw.next hp hm (by omega)
    have hct := hw.fi.nn t ht
    have hcl := sumN_ge hw.fi.nn ht
    rw [hw.fi.sum] at hcl
    have hM2 := hM.set ha ht clk (c t + 1)
    rw [← bump_c] at hM2
    obtain ⟨f, hf⟩ := fair4 l hlf S hp ha hm r K d (k + 1) (wheelN w l) (bumpF c t) now' _ (clockE I64 I64 clk (rdEl TShare l t).1 m) (by omega) hw2 hM2
    refine ⟨f + 1, ?_⟩
    have e1 : nextI (w.1, w.2) l = (rdEl TShare l t).1 := hid
    rw [lFair.s4, cond_dt (by omega), e1, hM t ht, w64 (n := c t + 1) (by omega) (by omega), w64s (by omega)]
    exact (test_true (wok_pre hw.ok hlf)).trans ((cond_f (by rw [hm]; rfl)).trans hf)

theorem fair3 (l : List (El TShare)) (hlf : fits (.sl TShare) l = true) (S : Int) (hp : Pok l S) (ha : Apart l) (hm : mayRow l = true) : ∀ (d r : Nat) (w : El TWheel), 2 = r + d → Wok w → startN w.1 l w.2 = List.replicate l.length 0 → ∃ f, lFair.l3 f l S r w.1 w.2 = some (vb true, [])
  | 0, r, w, h, hw, hs => ⟨1, by rw [lFair.s3, cond_df (by omega)]; rfl⟩
  | d + 1, r, w, h, hw, hs => by
    have hS := hp.pos
    have hz : Wok (l, List.replicate l.length 0) := ⟨by simp, by have := hp.n2; show l.length ≤ 64; omega⟩
    have K := fair3 l hlf S hp ha hm d (r + 1) (l, List.replicate l.length 0) (by omega) hz (startN_self ..)
    obtain ⟨f, hf⟩ := fair4 l hlf S hp ha hm r (by rw [w64s (by omega)]; exact K) S.toNat 0 w (fun _ => 0) (List.replicate l.length 0) [] 0 (by omega) (wi_zero hS.1 hw hs) (fun i _ => rfl)
    refine ⟨f + 1, ?_⟩
    rw [lFair.s3, cond_dt (by omega)]
    exact hf

/-! ### where each stands, together -/

theorem sumN_lo {f : Nat → Int} {b : Int} : ∀ {n : Nat}, (∀ i, i < n → -b ≤ f i) → -(b * n) ≤ sumN f n
  | 0, _ => by simp [sumN]
  | n + 1, h => by
    have h1 := sumN_lo (f := f) (n := n) fun i hi => h i (by omega)
    have h2 := h n (by omega)
    have h3 : b * ((n + 1 : Nat) : Int) = b * n + b := by rw [Int.natCast_add, Int.mul_add]; simp
    rw [sumN, h3]; omega

theorem sums5 (l : List (El TShare)) (S : Int) (hp : Pok l S) (N k : Nat) (hk : k < 200) (m : EnI) (clk : Nat) (L : Nat → Int) (hM : MI l m L) (hL : ∀ i, i < l.length → (k : Int) + 1 - L i ≤ 2 * S ∧ -1000 ≤ L i ∧ L i ≤ 1000) (w1 : List (Int × Int)) (w2 : List Int) {R0 : R}
    (K : ∃ f, lSums.l3 f l S N ((k + 1 : Nat) : Int) m clk w1 w2 = R0) : ∀ (d i : Nat), l.length = i + d → ∃ f, lSums.l5 f l S k N k l l.length i m clk w1 w2 = R0
  | 0, i, h => by
    obtain ⟨f, hf⟩ := K
    refine ⟨f + 1, ?_⟩
    have hn := hp.n2
    rw [lSums.s5, cond_df (by omega), w64s (by omega)]
    exact hf
  | d + 1, i, h => by
    obtain ⟨f, hf⟩ := sums5 l S hp N k hk m clk L hM hL w1 w2 K d (i + 1) (by omega)
    have hn := hp.n2
    have hS := hp.pos
    obtain ⟨h1, h2, h3⟩ := hL i (by omega)
    refine ⟨f + 1, ?_⟩
    rw [lSums.s5, cond_dt (by omega), test_d (by omega), test_d (by omega), toNat_cast, hM i (by omega), w64s (by omega), w64s (by omega), w64 (n := ((k + 1 : Nat) : Int) - L i) (by omega) (by omega), w64 (n := 2 * S) (by omega) (by omega), cond_df (by omega)]
    exact hf

theorem sums4 (l : List (El TShare)) (S : Int) (hp : Pok l S) (now : List Int) (hnl : now.length = l.length) (hz : sumN (nw now) l.length = 0) (hb : ∀ i, i < l.length → -10000 ≤ nw now i ∧ nw now i ≤ 10000) (N k : Nat) (m : EnI) (clk : Nat) {R0 : R}
    (K : ∃ f, lSums.l5 f l S k N k l l.length 0 m clk l now = R0) : ∀ (d i : Nat), l.length = i + d → ∃ f, lSums.l4 f l S k (sumN (nw now) i) N k (turnsOf l now) (turnsOf l now).length i m clk l now = R0
  | 0, i, h => by
    obtain ⟨f, hf⟩ := K
    have ht := turns_len l now hnl
    refine ⟨f + 1, ?_⟩
    rw [lSums.s4, cond_df (by omega)]
    have : i = l.length := by omega
    subst this
    exact (cond_nf hz).trans hf
  | d + 1, i, h => by
    obtain ⟨f, hf⟩ := sums4 l S hp now hnl hz hb N k m clk K d (i + 1) (by omega)
    have ht := turns_len l now hnl
    have hn := hp.n2
    have hr := rd_turns (l := l) (now := now) (k := i) (by omega) (by omega)
    have h1 := sumN_le (f := nw now) (b := 10000) (n := i) fun j hj => (hb j (by omega)).2
    have h2 := sumN_lo (f := nw now) (b := 10000) (n := i) fun j hj => (hb j (by omega)).1
    obtain ⟨h3, h4⟩ := hb i (by omega)
    have e : rdEl (.int .i64) now i = nw now i := rfl
    refine ⟨f + 1, ?_⟩
    rw [lSums.s4, cond_dt (by omega), test_d (by omega), test_d (by omega), toNat_cast, hr, w64s (by omega), e]
    simp only
    rw [w64 (n := sumN (nw now) i + nw now i) (by omega) (by omega)]
    exact hf

/-- When each was it last: base nexts ahead of this period. -/
structure LI (l : List (Int × Int)) (S : Int) (c L : Nat → Int) (base r : Nat) : Prop where
  hi : ∀ i, i < l.length → L i ≤ (base : Int) + r
  lo : ∀ i, i < l.length → 0 ≤ L i
  was : ∀ i, i < l.length → base = 0 ∨ (base : Int) - S + 1 ≤ L i
  now : ∀ i, i < l.length → 1 ≤ c i → (base : Int) + 1 ≤ L i

theorem sums3 (l : List (El TShare)) (hlf : fits (.sl TShare) l = true) (S : Int) (hp : Pok l S) (ha : Apart l) (hm : mayRow l = true) (N : Nat) (hN : N ≤ 200) : ∀ (d base r : Nat) (w : El TWheel) (c L : Nat → Int) (now : List Int) (m : EnI) (clk : Nat), N = base + r + d → (r : Int) < S →
    WI w l S c r now → MI l m L → LI l S c L base r → ∃ f, lSums.l3 f l S N ((base + r : Nat) : Int) m clk w.1 w.2 = some (vb true, [])
  | 0, base, r, w, c, L, now, m, clk, h, hr, hw, hM, hL => ⟨1, by rw [lSums.s3, cond_df (by omega)]; rfl⟩
  | d + 1, base, r, w, c, L, now, m, clk, h, hr, hw, hM, hL => by
    have hS := hp.pos
    have hn2 := hp.n2
    obtain ⟨t, now', ht, hid, hwe, hw2⟩ := hw.next hp hm hr
    have hM2 := hM.set ha ht clk ((base + r + 1 : Nat) : Int)
    have hL2 : LI l S (bumpF c t) (fun i => if i = t then ((base + r + 1 : Nat) : Int) else L i) base (r + 1) := by
      refine ⟨fun i hi => ?_, fun i hi => ?_, fun i hi => ?_, fun i hi hc => ?_⟩
      · have := hL.hi i hi
        show (if i = t then _ else _) ≤ _
        split <;> omega
      · have := hL.lo i hi
        show _ ≤ (if i = t then _ else _)
        split <;> omega
      · have := hL.was i hi
        show _ ∨ _ ≤ (if i = t then _ else _)
        split <;> omega
      · show _ ≤ (if i = t then _ else _)
        by_cases hit : i = t
        · rw [if_pos hit]; omega
        · rw [if_neg hit]
          unfold bumpF at hc
          rw [if_neg hit] at hc
          exact hL.now i hi hc
    have hrec : ∃ f, lSums.l3 f l S N ((base + r + 1 : Nat) : Int) (setE I64 I64 clk (rdEl TShare l t).1 ((base + r + 1 : Nat) : Int) m) (clockE I64 I64 clk (rdEl TShare l t).1 m) l now' = some (vb true, []) := by
      by_cases hre : ((r + 1 : Nat) : Int) = S
      · have hfi := hw2.fi
        rw [hre] at hfi
        obtain ⟨e1, e2⟩ := hfi.end hp
        have hz : Wok (l, now') := by rw [← hwe]; exact hw2.ok
        have := sums3 l hlf S hp ha hm N hN d (base + r + 1) 0 (l, now') (fun _ => 0) _ (List.replicate l.length 0) _ (clockE I64 I64 clk (rdEl TShare l t).1 m) (by omega) (by omega)
          (wi_zero hS.1 hz (by rw [e2]; exact startN_self ..)) hM2 ⟨fun i hi => by have := hL2.hi i hi; omega, hL2.lo, fun i hi => by
            right
            have h1 := e1 i hi
            have h2 := (hp.p i hi).1
            have := hL2.now i hi (by omega)
            omega, fun i hi hc => absurd hc (by decide)⟩
        exact this
      · have := sums3 l hlf S hp ha hm N hN d base (r + 1) (wheelN w l) (bumpF c t) _ now' _ (clockE I64 I64 clk (rdEl TShare l t).1 m) (by omega) (by omega) hw2 hM2 hL2
        rw [hwe] at this
        exact this
    have hb : ∀ i, i < l.length → -10000 ≤ nw now' i ∧ nw now' i ≤ 10000 := fun i hi => by
      have h1 := hw2.fi.low i hi
      have h2 := hw2.fi.up hp (by omega) hi
      omega
    have h5 := sums5 l S hp N (base + r) (by omega) (setE I64 I64 clk (rdEl TShare l t).1 ((base + r + 1 : Nat) : Int) m) (clockE I64 I64 clk (rdEl TShare l t).1 m) _ hM2 (fun i hi => by
      have h1 := hL2.hi i hi
      have h2 := hL2.lo i hi
      have h3 := hL2.was i hi
      show (((base + r : Nat) : Int) + 1 - (if i = t then ((base + r + 1 : Nat) : Int) else L i) ≤ 2 * S ∧ _)
      generalize (if i = t then ((base + r + 1 : Nat) : Int) else L i) = z at h1 h2 h3 ⊢
      omega) l now' hrec l.length 0 (by omega)
    obtain ⟨f, hf⟩ := sums4 l S hp now' hw2.fi.len (hw2.fi.zeroSum hp) hb N (base + r) _ _ h5 l.length 0 (by omega)
    refine ⟨f + 1, ?_⟩
    have e1 : nextI (w.1, w.2) l = (rdEl TShare l t).1 := hid
    have e2 : wheelN (w.1, w.2) l = (l, now') := hwe
    rw [lSums.s3, cond_dt (by omega), e1, e2, w64s (by omega)]
    have ht2 : turns.pre ((l, now'), ()) = true := by rw [← hwe]; exact wok_turns hw2.ok
    exact (test_true (wok_pre hw.ok hlf)).trans ((cond_f (by rw [hm]; rfl)).trans ((test_true ht2).trans hf))

/-! ### the row -/

theorem pt_app {l : List (Int × Int)} {x : Int × Int} : sumN (pt (l ++ [x])) (l.length + 1) = sumN (pt l) l.length + x.2 := by
  rw [sumN]
  have e1 : pt (l ++ [x]) l.length = x.2 := by
    unfold pt; rw [rd_last (t := TShare)]
  rw [e1, sumN_congr (g := pt l) fun i hi => by unfold pt; rw [rd_app (t := TShare) hi]]

theorem built_pok {ids : List Int} {k : Nat} {l : List (Int × Int)} (h : Built ids k l) (h1 : 1 ≤ k) (h2 : k ≤ 12) : Pok l (sumN (pt l) l.length) :=
  ⟨fun i hi => h.part i (by have := h.len; omega), by have := h.len; omega, by have := h.len; omega, rfl⟩
theorem built_sum {ids : List Int} {k : Nat} {l : List (Int × Int)} (h : Built ids k l) (h2 : k ≤ 12) : 0 ≤ sumN (pt l) l.length ∧ sumN (pt l) l.length ≤ 240 := by
  have hl := h.len
  have h1 := sumN_le (f := pt l) (b := 20) (n := l.length) fun i hi => (h.part i (by omega)).2
  have h3 := sumN_nonneg (f := pt l) (n := l.length) fun i hi => by have : 1 ≤ pt l i := (h.part i (by omega)).1; omega
  omega

theorem fair_row (ids parts : List Int) (h12 : ids.length ≤ 12) (h1 : 1 ≤ ids.length) (hp : ids.length ≤ parts.length) : ∀ (n k : Nat) (l : List (El TShare)), ids.length = k + n → Built ids k l →
    ∃ m, lFair.l1 m ids parts (sumN (pt l) l.length) ids ids.length k l = some (vb true, [])
  | 0, k, l, h, hb => by
    have hm := built_may hb (by omega) (by omega)
    have hl := hb.len
    have hbig := big
    have hlf : fits (.sl TShare) l = true := fits_shs (by omega)
    have hP := built_pok hb (by omega) (by omega)
    have hst : startN [] l [] = List.replicate l.length 0 := by
      unfold startN
      rw [eqSh_len [] l (by simp only [List.length_nil]; omega)]; rfl
    obtain ⟨f, hf⟩ := fair3 l hlf _ hP (built_apart hb) hm 2 0 ([], []) (by omega) wok_new hst
    refine ⟨f + 1, ?_⟩
    rw [lFair.s1, cond_df (by omega)]
    exact hf
  | n + 1, k, l, h, hb => by
    have hk : k < ids.length := by omega
    have ht : (ids.take k).length = k := by rw [List.length_take]; omega
    have hl := hb.len
    have h16 : (lim 16) = 8796093022208 := by simp [lim]
    obtain ⟨hs1, hs2⟩ := built_sum hb (by omega)
    -- the numbers ahead
    have inner : ∀ (q i : Nat), k = i + q → (∀ j, j < i → rdEl (.int .i64) ids j ≠ rdEl (.int .i64) ids k) → ∃ m, lFair.l2 m ids parts (sumN (pt l) l.length) k (rdEl (.int .i64) ids k) ids ids.length k (ids.take k) ((ids.take k).length : Int) i l = some (vb true, []) := by
      intro q
      induction q with
      | zero =>
        intro i hi hd
        have : i = k := by omega
        subst this
        have hpt := part20 (rdEl (.int .i64) parts i)
        obtain ⟨m, hm⟩ := fair_row ids parts h12 h1 hp n (i + 1) (l ++ [(rdEl (.int .i64) ids i, IntKind.i64.wrap (1 + IntKind.i64.wrap (Int.tmod (IntKind.u64.wrap (rdEl (.int .i64) parts i)) 20)))]) (by omega) (built_more hb hpt hd)
        refine ⟨m + 1, ?_⟩
        rw [lFair.s2, cond_df (by omega), test_d (by omega), test_d (by omega), h16, test_d (by simp only [List.length_cons, List.length_nil]; omega), w64s (by omega), toNat_cast]
        rw [List.length_append, List.length_cons, List.length_nil, Nat.zero_add, pt_app] at hm
        generalize IntKind.i64.wrap (1 + IntKind.i64.wrap (Int.tmod (IntKind.u64.wrap (rdEl (.int .i64) parts i)) 20)) = z at hpt hm ⊢
        rw [w64 (n := sumN (pt l) l.length + z) (by omega) (by omega)]
        exact hm
      | succ q ih =>
        intro i hi hd
        by_cases he : rdEl (.int .i64) ids k = rdEl (.int .i64) ids i
        · refine ⟨1, ?_⟩
          rw [lFair.s2, cond_dt (by omega), test_d (by omega), test_d (by omega), toNat_cast, rd_take (t := .int .i64) (by omega)]
          exact (cond_et he).trans rfl
        · obtain ⟨m, hm⟩ := ih (i + 1) (by omega) fun j hj => by
            by_cases hji : j < i
            · exact hd j hji
            · have : j = i := by omega
              subst this
              exact fun h => he h.symm
          refine ⟨m + 1, ?_⟩
          rw [lFair.s2, cond_dt (by omega), test_d (by omega), test_d (by omega), toNat_cast, rd_take (t := .int .i64) (by omega), w64s (by omega)]
          exact (cond_ef he).trans hm
    obtain ⟨m, hm⟩ := inner k 0 (by omega) (fun j hj => by omega)
    refine ⟨m + 1, ?_⟩
    rw [lFair.s1, cond_dt (by omega), test_d (by omega), test_d (by omega), test_d (by omega), test_d (by omega), toNat_cast, List.drop_zero]
    exact hm

theorem lFair_R : lFair.Law := fun ids parts hx => by
  have hso := awake_ok.cons' (b := []) SpecsOK.nil
  have ho := new_ok.cons' (o := []) (b := []) (nextW_ok.cons' (o := [some (.obj [.sl TShare, .arr 3 (.int .i64)])]) (b := []) (turns_ok.cons' (o := [some (.obj [.sl TShare, .arr 3 (.int .i64)])]) (b := []) .nil))
  by_cases h1 : (ids.length : Int) < 1
  · refine lFair.ret hso ho ids parts (m := 1) ?_
    rw [lFair.start, cond_dt h1]; rfl
  by_cases h2 : (ids.length : Int) > 12
  · refine lFair.ret hso ho ids parts (m := 1) ?_
    rw [lFair.start, cond_df h1, cond_dt h2]; rfl
  by_cases h3 : (parts.length : Int) < ids.length
  · refine lFair.ret hso ho ids parts (m := 1) ?_
    rw [lFair.start, cond_df h1, cond_df h2, cond_dt h3]; rfl
  obtain ⟨m, hm⟩ := fair_row ids parts (by omega) (by omega) (by omega) ids.length 0 [] (by omega) ⟨rfl, fun i hi => by omega, fun i hi => by omega, fun i j hi hj => by omega⟩
  refine lFair.ret hso ho ids parts (m := m + 1) ?_
  rw [lFair.start, cond_df h1, cond_df h2, cond_df h3]
  exact hm

theorem sums_row (ids parts : List Int) (x : Int) (h12 : ids.length ≤ 12) (h1 : 1 ≤ ids.length) (hp : ids.length ≤ parts.length) : ∀ (n k : Nat) (l : List (El TShare)), ids.length = k + n → Built ids k l →
    ∃ m, lSums.l1 m ids parts x (sumN (pt l) l.length) ids ids.length k l = some (vb true, [])
  | 0, k, l, h, hb => by
    have hm := built_may hb (by omega) (by omega)
    have hl := hb.len
    have hbig := big
    have hlf : fits (.sl TShare) l = true := fits_shs (by omega)
    have hP := built_pok hb (by omega) (by omega)
    have hst : startN [] l [] = List.replicate l.length 0 := by
      unfold startN
      rw [eqSh_len [] l (by simp only [List.length_nil]; omega)]; rfl
    have hk0 : 0 ≤ IntKind.u64.wrap x := (wrap_within .u64 x).1
    have h2 := Int.emod_nonneg (IntKind.u64.wrap x) (show (200 : Int) ≠ 0 by omega)
    have h3 := Int.emod_lt_of_pos (IntKind.u64.wrap x) (show (0 : Int) < 200 by omega)
    obtain ⟨N, hN, hNe⟩ : ∃ N : Nat, N ≤ 200 ∧ IntKind.i64.wrap (Int.tmod (IntKind.u64.wrap x) 200) = (N : Int) := by
      rw [Int.tmod_eq_emod_of_nonneg hk0]
      exact ⟨(IntKind.u64.wrap x % 200).toNat, by omega, by rw [w64 (by omega) (by omega)]; omega⟩
    have hS := hP.pos
    obtain ⟨f, hf⟩ := sums3 l hlf _ hP (built_apart hb) hm N hN N 0 0 ([], []) (fun _ => 0) (fun _ => 0) (List.replicate l.length 0) [] 0 (by omega) (by omega) (wi_zero hS.1 wok_new hst) (fun _ _ => rfl) ⟨fun i _ => by show (0 : Int) ≤ _; omega, fun i _ => Int.le_refl _, fun i _ => .inl rfl, fun i _ h => absurd h (by decide)⟩
    refine ⟨f + 1, ?_⟩
    rw [lSums.s1, cond_df (by omega), hNe]
    exact hf
  | n + 1, k, l, h, hb => by
    have hk : k < ids.length := by omega
    have ht : (ids.take k).length = k := by rw [List.length_take]; omega
    have hl := hb.len
    have h16 : (lim 16) = 8796093022208 := by simp [lim]
    obtain ⟨hs1, hs2⟩ := built_sum hb (by omega)
    -- the numbers ahead
    have inner : ∀ (q i : Nat), k = i + q → (∀ j, j < i → rdEl (.int .i64) ids j ≠ rdEl (.int .i64) ids k) → ∃ m, lSums.l2 m ids parts x (sumN (pt l) l.length) k (rdEl (.int .i64) ids k) ids ids.length k (ids.take k) ((ids.take k).length : Int) i l = some (vb true, []) := by
      intro q
      induction q with
      | zero =>
        intro i hi hd
        have : i = k := by omega
        subst this
        have hpt := part20 (rdEl (.int .i64) parts i)
        obtain ⟨m, hm⟩ := sums_row ids parts x h12 h1 hp n (i + 1) (l ++ [(rdEl (.int .i64) ids i, IntKind.i64.wrap (1 + IntKind.i64.wrap (Int.tmod (IntKind.u64.wrap (rdEl (.int .i64) parts i)) 20)))]) (by omega) (built_more hb hpt hd)
        refine ⟨m + 1, ?_⟩
        rw [lSums.s2, cond_df (by omega), test_d (by omega), test_d (by omega), h16, test_d (by simp only [List.length_cons, List.length_nil]; omega), w64s (by omega), toNat_cast]
        rw [List.length_append, List.length_cons, List.length_nil, Nat.zero_add, pt_app] at hm
        generalize IntKind.i64.wrap (1 + IntKind.i64.wrap (Int.tmod (IntKind.u64.wrap (rdEl (.int .i64) parts i)) 20)) = z at hpt hm ⊢
        rw [w64 (n := sumN (pt l) l.length + z) (by omega) (by omega)]
        exact hm
      | succ q ih =>
        intro i hi hd
        by_cases he : rdEl (.int .i64) ids k = rdEl (.int .i64) ids i
        · refine ⟨1, ?_⟩
          rw [lSums.s2, cond_dt (by omega), test_d (by omega), test_d (by omega), toNat_cast, rd_take (t := .int .i64) (by omega)]
          exact (cond_et he).trans rfl
        · obtain ⟨m, hm⟩ := ih (i + 1) (by omega) fun j hj => by
            by_cases hji : j < i
            · exact hd j hji
            · have : j = i := by omega
              subst this
              exact fun h => he h.symm
          refine ⟨m + 1, ?_⟩
          rw [lSums.s2, cond_dt (by omega), test_d (by omega), test_d (by omega), toNat_cast, rd_take (t := .int .i64) (by omega), w64s (by omega)]
          exact (cond_ef he).trans hm
    obtain ⟨m, hm⟩ := inner k 0 (by omega) (fun j hj => by omega)
    refine ⟨m + 1, ?_⟩
    rw [lSums.s1, cond_dt (by omega), test_d (by omega), test_d (by omega), test_d (by omega), test_d (by omega), toNat_cast, List.drop_zero]
    exact hm

theorem lSums_R : lSums.Law := fun ids parts x hx => by
  have hso := awake_ok.cons' (b := []) SpecsOK.nil
  have ho := new_ok.cons' (o := []) (b := []) (nextW_ok.cons' (o := [some (.obj [.sl TShare, .arr 3 (.int .i64)])]) (b := []) (turns_ok.cons' (o := [some (.obj [.sl TShare, .arr 3 (.int .i64)])]) (b := []) .nil))
  by_cases h1 : (ids.length : Int) < 1
  · refine lSums.ret hso ho ids parts x (m := 1) ?_
    rw [lSums.start, cond_dt h1]; rfl
  by_cases h2 : (ids.length : Int) > 12
  · refine lSums.ret hso ho ids parts x (m := 1) ?_
    rw [lSums.start, cond_df h1, cond_dt h2]; rfl
  by_cases h3 : (parts.length : Int) < ids.length
  · refine lSums.ret hso ho ids parts x (m := 1) ?_
    rw [lSums.start, cond_df h1, cond_df h2, cond_dt h3]; rfl
  obtain ⟨m, hm⟩ := sums_row ids parts x (by omega) (by omega) (by omega) ids.length 0 [] (by omega) ⟨rfl, fun i hi => by omega, fun i hi => by omega, fun i j hi hj => by omega⟩
  refine lSums.ret hso ho ids parts x (m := m + 1) ?_
  rw [lSums.start, cond_df h1, cond_df h2, cond_df h3]
  exact hm

end Go.Proofs.Ytgocadoemofepaa
