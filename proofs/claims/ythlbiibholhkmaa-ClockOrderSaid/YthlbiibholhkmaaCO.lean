/-
  Timers: they come in order, each once, none before its time.
-/
import Derived.Test.YthlbiibholhkmaaCE
import Derived.Test.YthlbiibholhkmaaCI
namespace Go.Proofs.Ythlbiibholhkmaa
open Go VE

abbrev TI64 : Ty := .int .i64
abbrev EnT : Type := List (Tm × Int × Nat)
def gE (t : Tm) (m : EnT) : Int := getE TTimer TI64 (0 : Int) t m
def sE (c : Nat) (t : Tm) (v : Int) (m : EnT) : EnT := setE TTimer TI64 c t v m

instance decSame (a b : Tm) : Decidable (sameKey a b) := by unfold sameKey; infer_instance

theorem eqEl_tm (a b : Tm) : eqEl TTimer a b = decide (a = b) := by
  have e : eqEl TTimer a b = ((a.1 == b.1) && ((a.2.1 == b.2.1) && (a.2.2 == b.2.2))) := rfl
  rw [e]
  obtain ⟨a1, a2, a3⟩ := a
  obtain ⟨b1, b2, b3⟩ := b
  by_cases h : (a1, a2, a3) = (b1, b2, b3)
  · rw [dec_t h]
    simp only [Prod.mk.injEq] at h
    simp [h]
  · rw [dec_f h]
    simp only [Prod.mk.injEq] at h
    cases h1 : (a1 == b1) <;> cases h2 : (a2 == b2) <;> cases h3 : (a3 == b3) <;> try rfl
    exact absurd ⟨by simpa using h1, by simpa using h2, by simpa using h3⟩ h

theorem gE_sE : ∀ (m : EnT) (c : Nat) (x : Tm) (v : Int) (y : Tm), gE y (sE c x v m) = if y = x then v else gE y m
  | [], c, x, v, y => by
    show (bif eqEl TTimer y x then v else (0 : Int)) = if y = x then v else 0
    rw [eqEl_tm]
    by_cases h : y = x
    · rw [dec_t h, if_pos h]; rfl
    · rw [dec_f h, if_neg h]; rfl
  | e :: m, c, x, v, y => by
    have ih := gE_sE m c x v y
    have e0 : sE c x v (e :: m) = bif eqEl TTimer x e.1 then (e.1, v, e.2.2) :: m else e :: sE c x v m := rfl
    have e1 : gE y (e :: m) = bif eqEl TTimer y e.1 then e.2.1 else gE y m := rfl
    rw [e0, e1, eqEl_tm x e.1]
    by_cases hx : x = e.1
    · rw [dec_t hx, cond_true]
      have e2 : gE y ((e.1, v, e.2.2) :: m) = bif eqEl TTimer y e.1 then v else gE y m := rfl
      rw [e2, eqEl_tm, ← hx]
      by_cases h : y = x
      · rw [dec_t h, if_pos h]; rfl
      · rw [dec_f h, if_neg h]; rfl
    · rw [dec_f hx, cond_false]
      have e2 : gE y (e :: sE c x v m) = bif eqEl TTimer y e.1 then e.2.1 else gE y (sE c x v m) := rfl
      rw [e2, ih, eqEl_tm]
      by_cases h : y = x
      · have : ¬ y = e.1 := fun h2 => hx (h.symm.trans h2)
        rw [dec_f this, if_pos h, if_pos h]; rfl
      · rw [if_neg h, if_neg h]

theorem mod1000 (k : Int) : 0 ≤ IntKind.i64.wrap (Int.tmod (IntKind.u64.wrap k) 1000) ∧ IntKind.i64.wrap (Int.tmod (IntKind.u64.wrap k) 1000) < 1000 := by
  have hk : 0 ≤ IntKind.u64.wrap k := (wrap_within .u64 k).1
  rw [Int.tmod_eq_emod_of_nonneg hk]
  have h2 := Int.emod_nonneg (IntKind.u64.wrap k) (show (1000 : Int) ≠ 0 by omega)
  have h3 := Int.emod_lt_of_pos (IntKind.u64.wrap k) (show (0 : Int) < 1000 by omega)
  rw [w64 (n := IntKind.u64.wrap k % 1000) (by omega) (by omega)]
  omega

/-- While timers are set. -/
structure SInv (c : Int × List Tm) (m : EnT) (k : Nat) : Prop where
  ok : Cok c k
  zero : c.1 = 0
  one : ∀ t, t ∈ c.2 → gE t m = 1
  none : ∀ t, t ∉ c.2 → gE t m = 0
  up : ∀ t, t ∈ c.2 → t.1 < 1000

theorem set_mem {c : Int × List Tm} {k : Nat} (h : Cok c k) (t x : Tm) (hs : setOk c t = true) : x ∈ (setC c t).2 ↔ x = t ∨ (x ∈ c.2 ∧ ¬ sameKey x t) := by
  unfold setC
  rw [hs, cond_true]
  show x ∈ putIn _ _ _ ↔ _
  rw [putIn_mem, cut_drop h.key]
  unfold dropK
  rw [List.mem_filter]
  have : (!keyK t.2.1 t.2.2 x) = true ↔ ¬ sameKey x t := by
    rw [Bool.not_eq_true', ← Bool.not_eq_true, keyK_iff]; rfl
  rw [this]

theorem atI_mem {c : Int × List Tm} (a i : Int) (h : hasK c.2 a i = true) : (atI c a i, a, i) ∈ c.2 := by
  have h0 := h
  rw [hasK_any] at h
  rw [← atRI_eq]
  unfold atRI
  cases hf : List.find? (keyK a i) c.2 with
  | none =>
    obtain ⟨x, hx, hp⟩ := List.any_eq_true.1 h
    exact absurd hp (List.find?_eq_none.1 hf x hx)
  | some t =>
    have h1 := List.find?_some hf
    have h2 := List.mem_of_find?_eq_some hf
    obtain ⟨e1, e2⟩ := (keyK_iff _ _ _).1 h1
    have : (t.1, a, i) = t := by rw [← e1, ← e2]
    show (t.1, a, i) ∈ c.2
    rw [this]; exact h2

theorem key_uniq {l : List Tm} (h : l.Pairwise fun a b => ¬ sameKey a b) {x y : Tm} (hx : x ∈ l) (hy : y ∈ l) (hs : sameKey x y) : x = y := by
  rcases List.mem_iff_getElem.1 hx with ⟨i, hi, rfl⟩
  rcases List.mem_iff_getElem.1 hy with ⟨j, hj, rfl⟩
  rw [List.pairwise_iff_getElem] at h
  rcases Nat.lt_trichotomy i j with hij | hij | hij
  · exact absurd hs (h i j hi hj hij)
  · subst hij; rfl
  · exact absurd ⟨hs.1.symm, hs.2.symm⟩ (h j i hj hi hij)

theorem setOk_small {c : Int × List Tm} (h : c.1 = 0) {t : Tm} (h0 : 0 ≤ t.1) (h1 : t.1 < 1000) : setOk c t = true := by
  have e1 : ¬ t.1 < c.1 := by omega
  have e2 : ¬ t.1 > top := by unfold top; omega
  have e : setOk c t = (!decide (t.1 < c.1) && !decide (t.1 > top)) := rfl
  rw [e, dec_f e1, dec_f e2]; rfl

theorem SInv.step {c : Int × List Tm} {m : EnT} {k : Nat} (h : SInv c m k) {t : Tm} (h0 : 0 ≤ t.1) (h1 : t.1 < 1000) {m' : EnT}
    (hm : ∀ x, gE x m' = if x = t then 1 else if sameKey x t then 0 else gE x m) : SInv (setC c t) m' (k + 1) := by
  have hs := setOk_small h.zero h0 h1
  have hm2 := fun x => set_mem h.ok t x hs
  refine ⟨h.ok.put t, ?_, fun x hx => ?_, fun x hx => ?_, fun x hx => ?_⟩
  · have : (setC c t).1 = c.1 := by unfold setC; rw [hs]; rfl
    rw [this, h.zero]
  · rw [hm]
    rcases (hm2 x).1 hx with hx | ⟨hx, hk⟩
    · rw [if_pos hx]
    · by_cases hxt : x = t
      · rw [if_pos hxt]
      · rw [if_neg hxt, if_neg hk]; exact h.one x hx
  · rw [hm]
    rw [hm2] at hx
    have a1 : ¬ x = t := fun e => hx (.inl e)
    rw [if_neg a1]
    by_cases hk : sameKey x t
    · rw [if_pos hk]
    · rw [if_neg hk]; exact h.none x fun e => hx (.inr ⟨e, hk⟩)
  · rcases (hm2 x).1 hx with hx | ⟨hx, _⟩
    · rw [hx]; exact h1
    · exact h.up x hx

/-- While timers go off. -/
structure OInv (c : Int × List Tm) (m : EnT) (last : Tm) : Prop where
  ok : Cok c 100
  one : ∀ t, t ∈ c.2 → gE t m = 1
  mem : ∀ t, gE t m = 1 → t ∈ c.2
  lo : last.1 ≤ c.1
  lt : gE last m = 2 → ∀ t, t ∈ c.2 → ltT last t = true
  up : ∀ t, t ∈ c.2 → t.1 < 1000

theorem due_head {c : Int × List Tm} {to : Int} (h : dueB c to = true) : ∃ a r, c.2 = a :: r ∧ a.1 ≤ to ∧ nextT c to = a ∧ nextC c to = (a.1, r) := by
  obtain ⟨n, l⟩ := c
  cases l with
  | nil => exact absurd h (by simp [dueB])
  | cons a r =>
    have h' := h
    unfold dueB at h
    simp only [Bool.and_eq_true, Bool.not_eq_true', decide_eq_false_iff_not] at h
    refine ⟨a, r, rfl, ?_, ?_, ?_⟩
    · have : ¬ a.1 > to := h.2
      omega
    · unfold nextT; rw [h']; rfl
    · unfold nextC; rw [h']; rfl

theorem order_tail {c : Int × List Tm} {m : EnT} {last : Tm} (h : OInv c m last) {to : Int} (hd : dueB c to = true) {F X : R} :
  cond (bne (getE TTimer TI64 (0 : Int) (nextT c to) m) (1 : Int)) F (
    test (now.pre (nextC c to, ())) (
     cond (bne (nextC c to).1 (nextT c to).1) F (
      cond (decide ((nextT c to).1 < last.1)) F (
       cond ((nextT c to).1 == last.1) (
        cond (decide ((nextT c to).2.1 < last.2.1)) (
         cond ((getE TTimer TI64 (0 : Int) (last.1, (last.2.1, last.2.2)) m) == (2 : Int)) F X) (
         cond ((nextT c to).2.1 == last.2.1) (
          cond (decide ((nextT c to).2.2 ≤ last.2.2)) (
           cond ((getE TTimer TI64 (0 : Int) (last.1, (last.2.1, last.2.2)) m) == (2 : Int)) F X) X) X)) X)))) = X := by
  obtain ⟨a, r, e1, h1, e2, e3⟩ := due_head hd
  have ha : a ∈ c.2 := by rw [e1]; exact List.mem_cons_self ..
  have hp : now.pre (nextC c to, ()) = true := now_pre (h.ok.due to) (by omega)
  have g1 : getE TTimer TI64 (0 : Int) a m = (1 : Int) := h.one a ha
  have hlo := (h.ok.mem a ha).1
  have hl2 := h.lo
  have b1 : bne (getE TTimer TI64 (0 : Int) a m) (1 : Int) = false := by rw [g1]; rfl
  have b2 : bne (nextC c to).1 a.1 = false := by rw [e3]; simp [bne]
  rw [e2, b1, cond_false, test_true hp, b2, cond_false, cond_df (show ¬ (a.1 : Int) < last.1 by omega)]
  have hG : ∀ {Y : R}, (gE last m = 2 → Y = X) → cond ((getE TTimer TI64 (0 : Int) (last.1, (last.2.1, last.2.2)) m) == (2 : Int)) Y X = X := fun {Y} hY => by
    by_cases h2 : gE last m = 2
    · exact (cond_et h2).trans (hY h2)
    · exact cond_ef h2
  by_cases c1 : a.1 = last.1
  · rw [cond_et c1]
    by_cases c2 : a.2.1 < last.2.1
    · rw [cond_dt c2]
      refine hG fun h2 => ?_
      have := (ltT_iff last a).1 (h.lt h2 a ha)
      omega
    · rw [cond_df c2]
      by_cases c3 : a.2.1 = last.2.1
      · rw [cond_et c3]
        by_cases c4 : a.2.2 ≤ last.2.2
        · rw [cond_dt c4]
          refine hG fun h2 => ?_
          have := (ltT_iff last a).1 (h.lt h2 a ha)
          omega
        · rw [cond_df c4]
      · rw [cond_ef c3]
  · rw [cond_ef c1]

theorem OInv.pop {c : Int × List Tm} {m : EnT} {last : Tm} (h : OInv c m last) {to : Int} (hd : dueB c to = true) (ck : Nat) : OInv (nextC c to) (sE ck (nextT c to) 2 m) (nextT c to) := by
  have ho := h.ok.due to
  obtain ⟨a, r, e1, h1, e2, e3⟩ := due_head hd
  have hasc := h.ok.asc
  rw [e1] at hasc
  obtain ⟨p1, p2⟩ := List.pairwise_cons.1 hasc
  have hne : ∀ t, t ∈ r → t ≠ a := fun t ht e => by
    have := (ltT_iff a t).1 (p1 t ht)
    rw [e] at this; omega
  have hr : ∀ t, t ∈ r → t ∈ c.2 := fun t ht => by rw [e1]; exact List.mem_cons_of_mem _ ht
  rw [e2]
  rw [e3] at ho ⊢
  refine ⟨ho, fun t ht => ?_, fun t ht => ?_, Int.le_refl _, fun _ t ht => p1 t ht, fun t ht => h.up t (hr t ht)⟩
  · rw [gE_sE, if_neg (hne t ht)]; exact h.one t (hr t ht)
  · rw [gE_sE] at ht
    by_cases hta : t = a
    · rw [if_pos hta] at ht; exact absurd ht (by decide)
    · rw [if_neg hta] at ht
      have := h.mem t ht
      rw [e1] at this
      exact (List.mem_cons.1 this).elim (fun e => absurd e hta) id

theorem OInv.going {c : Int × List Tm} {m : EnT} {last : Tm} (h : OInv c m last) {to : Int} (hd : dueB c to = false) (h1 : c.1 ≤ to) (h2 : to ≤ 2000) :
    goB (nextC c to) to = true ∧ goC (nextC c to) to = (to, c.2) ∧ OInv (to, c.2) m last ∧ ∀ t, t ∈ c.2 → to < t.1 := by
  have e1 : nextC c to = c := by unfold nextC; rw [hd]; rfl
  have hall : ∀ t, t ∈ c.2 → to < t.1 := fun t ht => by
    have hasc := h.ok.asc
    obtain ⟨n, l⟩ := c
    cases l with
    | nil => cases ht
    | cons a r =>
      have h3 : to < a.1 := by
        have e : dueB (n, a :: r) to = (!((r.length + 1 : Nat) == (0 : Int)) && !decide (a.1 > to)) := rfl
        rw [e] at hd
        by_cases hc : a.1 > to
        · exact hc
        · rw [dec_f hc] at hd
          have : (((r.length + 1 : Nat) : Int) == (0 : Int)) = false := by simp; omega
          rw [this] at hd; cases hd
      rcases List.mem_cons.1 ht with ht | ht
      · rw [ht]; exact h3
      · have := (ltT_iff a t).1 ((List.pairwise_cons.1 hasc).1 t ht)
        omega
  have hg : goB c to = true := by
    have e : goB c to = (!decide (to < c.1) && (!decide (to > top) && !(decide ((c.2.length : Int) > 0) && decide ((rdEl TTimer c.2 0).1 ≤ to)))) := rfl
    rw [e, dec_f (by omega), dec_f (show ¬ to > top by unfold top; omega)]
    by_cases hl : (c.2.length : Int) > 0
    · have hm : rdEl TTimer c.2 0 ∈ c.2 := rdEl_mem (by omega)
      have := hall _ hm
      rw [dec_t hl, dec_f (Int.not_le.2 this)]; rfl
    · rw [dec_f hl]; rfl
  have eg : goC c to = (to, c.2) := by unfold goC; rw [hg]; rfl
  have ho := h.ok.goTo to
  rw [eg] at ho
  have hlo := h.lo
  rw [e1]
  exact ⟨hg, eg, ⟨ho, h.one, h.mem, by show last.1 ≤ to; omega, h.lt, h.up⟩, hall⟩

theorem order_in (x0 : List (El TTimer)) (mid i to x5 x6 x7 : Int) (hto : to ≤ 2000) {r : R}
    (K : ∀ (c : Int × List Tm) (m : EnT) (ck : Nat) (last : Tm), OInv (to, c.2) m last → (∀ t, t ∈ c.2 → to < t.1) → ∃ f, lOrder.l2 f x0 mid x5 x6 (IntKind.i64.wrap (x7 + 1)) m ck last.1 last.2.1 last.2.2 to c.2 = r) :
    ∀ (d : Nat) (n : Nat) (c : Int × List Tm) (m : EnT) (ck : Nat) (last : Tm), c.2.length = d → n + d ≤ 100 → OInv c m last → c.1 ≤ to → (i = 1 → ∀ t, t ∈ c.2 → mid < t.1) →
      ∃ f, lOrder.l3 f x0 mid i to n x5 x6 x7 m ck last.1 last.2.1 last.2.2 c.1 c.2 = r
  | d, n, c, m, ck, last, hd, hn, h, hc, hi => by
    cases hdue : dueB c to with
    | false =>
      obtain ⟨g1, g2, g3, g4⟩ := h.going hdue hc hto
      obtain ⟨f, hf⟩ := K c m ck last g3 g4
      refine ⟨f + 1, ?_⟩
      rw [lOrder.s3]
      refine (test_true (show due.pre (c, to, ()) = true from due_pre h.ok (by omega))).trans ((cond_t (by show (!dueB c to) = true; rw [hdue]; rfl)).trans ((test_true (show goTo.pre (nextC c to, to, ()) = true from due_pre (h.ok.due to) (by omega))).trans ((cond_f (by show (!goB (nextC c to) to) = false; rw [g1]; rfl)).trans ?_)))
      have e : goC (nextC (c.1, c.2) to) to = (to, c.2) := g2
      rw [e]; exact hf
    | true =>
      have T := fun {F X : R} => order_tail (F := F) (X := X) h hdue
      have hpop := h.pop hdue ck
      obtain ⟨a, q, e1, h1, e2, e3⟩ := due_head hdue
      cases d with
      | zero => rw [e1] at hd; cases hd
      | succ d =>
        have ha : a ∈ c.2 := by rw [e1]; exact List.mem_cons_self ..
        obtain ⟨f, hf⟩ := order_in x0 mid i to x5 x6 x7 hto K d (n + 1) (nextC c to) (sE ck (nextT c to) 2 m) (clockE TTimer TI64 ck (nextT c to) m) (nextT c to) (by rw [e3]; rw [e1] at hd; simpa using hd) (by omega) hpop (by rw [e3]; exact h1)
          (fun hi1 t ht => hi hi1 t (by rw [e3] at ht; rw [e1]; exact List.mem_cons_of_mem _ ht))
        refine ⟨f + 1, ?_⟩
        rw [lOrder.s3]
        refine (test_true (show due.pre (c, to, ()) = true from due_pre h.ok (by omega))).trans ((cond_f (by show (!dueB c to) = false; rw [hdue]; rfl)).trans ((cond_df (by omega)).trans ((cond_f (dec_f (by rw [show nextT (c.1, c.2) to = a from e2]; exact Int.not_lt.2 h1))).trans ?_)))
        rw [w64s (by omega)]
        by_cases hi1 : i = 1
        · refine (cond_et hi1).trans ((cond_f (dec_f (by rw [show nextT (c.1, c.2) to = a from e2]; exact Int.not_le.2 (hi hi1 a ha)))).trans (T.trans hf))
        · exact (cond_ef hi1).trans (T.trans hf)

theorem order_end (x0 : List (El TTimer)) (hx : x0.length ≤ 100) (m : EnT) (ck : Nat) (last : Tm) (h : OInv ((2000 : Int), []) m last) : ∀ (d k : Nat), x0.length = k + d → lOrder.l4 (d + 1) x0 x0.length k m ck 2000 [] = some (vb true, [])
  | 0, k, hk => by
    rw [lOrder.s4, cond_df (by omega)]
    refine (test_true (show allT.pre (((2000 : Int), ([] : List (El TTimer))), ()) = true from now_pre h.ok (by omega))).trans ((cond_et rfl).trans ((test_true (show now.pre (((2000 : Int), ([] : List (El TTimer))), ()) = true from now_pre h.ok (by omega))).trans ?_))
    rfl
  | d + 1, k, hk => by
    rw [lOrder.s4, cond_dt (by omega), test_d (by omega), test_d (by omega), toNat_cast, w64s (by omega)]
    refine (cond_f ?_).trans (order_end x0 hx m ck last h d (k + 1) (by omega))
    have : ∀ t : Tm, (gE t m == (1 : Int)) = false := fun t => by
      cases hb : (gE t m == (1 : Int)) with
      | false => rfl
      | true => exact absurd (h.mem t (by simpa using hb)) (by simp)
    exact this _

theorem order_two (x0 : List (El TTimer)) (hx : x0.length ≤ 100) (mid : Int) (h0 : 0 ≤ mid) (h1 : mid < 1000) (c : Int × List Tm) (m : EnT) (ck : Nat) (h : SInv c m 100) :
    ∃ f, lOrder.l2 f x0 mid mid 2000 0 m ck 0 0 0 c.1 c.2 = some (vb true, []) := by
  have hO : OInv c m (0, 0, 0) := ⟨h.ok, h.one, fun t ht => by
      by_cases hm : t ∈ c.2
      · exact hm
      · rw [h.none t hm] at ht; exact absurd ht (by decide), by rw [h.zero]; exact Int.le_refl _, fun h2 => by
      by_cases hm : ((0 : Int), (0 : Int), (0 : Int)) ∈ c.2
      · rw [h.one _ hm] at h2; exact absurd h2 (by decide)
      · rw [h.none _ hm] at h2; exact absurd h2 (by decide), h.up⟩
  have K3 : ∀ (c : Int × List Tm) (m : EnT) (ck : Nat) (last : Tm), OInv (2000, c.2) m last → (∀ t, t ∈ c.2 → 2000 < t.1) → ∃ f, lOrder.l2 f x0 mid mid 2000 (IntKind.i64.wrap (1 + 1)) m ck last.1 last.2.1 last.2.2 2000 c.2 = some (vb true, []) := fun c m ck last hO2 hall => by
    have he : c.2 = [] := by
      cases hc : c.2 with
      | nil => rfl
      | cons a q =>
        have ha : a ∈ c.2 := by rw [hc]; exact List.mem_cons_self ..
        have a1 := hall a ha
        have a2 := hO2.up a ha
        omega
    rw [he] at hO2 ⊢
    have hw : IntKind.i64.wrap ((1 : Int) + 1) = 2 := by rw [w64] <;> omega
    refine ⟨x0.length + 2, ?_⟩
    rw [hw, lOrder.s2, cond_df (by omega)]
    exact order_end x0 hx m ck last hO2 x0.length 0 (by omega)
  have K2 : ∀ (c : Int × List Tm) (m : EnT) (ck : Nat) (last : Tm), OInv (mid, c.2) m last → (∀ t, t ∈ c.2 → mid < t.1) → ∃ f, lOrder.l2 f x0 mid mid 2000 (IntKind.i64.wrap (0 + 1)) m ck last.1 last.2.1 last.2.2 mid c.2 = some (vb true, []) := fun c m ck last hO2 hall => by
    have hw : IntKind.i64.wrap ((0 : Int) + 1) = 1 := by rw [w64] <;> omega
    have hl := hO2.ok.len
    obtain ⟨f, hf⟩ := order_in x0 mid 1 2000 mid 2000 1 (by omega) K3 c.2.length 0 (mid, c.2) m ck last rfl (by have hl : c.2.length ≤ 100 := hl; omega) hO2 (by show mid ≤ 2000; omega) (fun _ => hall)
    refine ⟨f + 1, ?_⟩
    rw [hw, lOrder.s2, cond_dt (by omega), test_d (by omega), test_d (by omega)]
    exact hf
  have hl := h.ok.len
  obtain ⟨f, hf⟩ := order_in x0 mid 0 mid mid 2000 0 (by omega) K2 c.2.length 0 c m ck (0, 0, 0) rfl (by omega) hO (by rw [h.zero]; exact h0) (fun h => absurd h (by decide))
  refine ⟨f + 1, ?_⟩
  rw [lOrder.s2, cond_dt (by omega), test_d (by omega), test_d (by omega)]
  exact hf

theorem order_set (x0 : List (El TTimer)) (hx : x0.length ≤ 100) (x1 : Int) : ∀ (d k : Nat) (c : Int × List Tm) (m : EnT) (ck : Nat), x0.length = k + d → SInv c m k → ∃ f, lOrder.l1 f x0 x1 x0 x0.length k m ck c.1 c.2 = some (vb true, [])
  | 0, k, c, m, ck, hk, h => by
    have hm := mod1000 x1
    obtain ⟨f, hf⟩ := order_two x0 hx _ hm.1 hm.2 c m ck ⟨h.ok.mono (by omega), h.zero, h.one, h.none, h.up⟩
    exact ⟨f + 1, by rw [lOrder.s1, cond_df (by omega)]; exact hf⟩
  | d + 1, k, c, m, ck, hk, h => by
    obtain ⟨x, hxx⟩ : ∃ x, rdEl TTimer x0 k = x := ⟨_, rfl⟩
    have hm := mod1000 x.1
    obtain ⟨at', hat⟩ : ∃ z, IntKind.i64.wrap (Int.tmod (IntKind.u64.wrap x.1) 1000) = z := ⟨_, rfl⟩
    rw [hat] at hm
    have hs : setOk c (at', x.2) = true := setOk_small h.zero hm.1 hm.2
    have hp0 : when.pre (c, x.2.1, x.2.2, ()) = true := by
      show (fits TClock c && (true && (true && true))) = true
      rw [h.ok.fits (by omega)]; rfl
    have hkey : ∀ y : Tm, sameKey y (at', x.2) ↔ (y.2.1 = x.2.1 ∧ y.2.2 = x.2.2) := fun y => Iff.rfl
    cases hK : hasK c.2 x.2.1 x.2.2 with
    | true =>
      obtain ⟨old, hold⟩ : ∃ o : Tm, (atI c x.2.1 x.2.2, x.2) = o := ⟨_, rfl⟩
      have hmem : old ∈ c.2 := by rw [← hold]; exact atI_mem x.2.1 x.2.2 hK
      have hok : sameKey old (at', x.2) := by rw [← hold]; exact ⟨rfl, rfl⟩
      obtain ⟨f, hf⟩ := order_set x0 hx x1 d (k + 1) (setC c (at', x.2)) (sE (clockE TTimer TI64 ck old m) (at', x.2) 1 (sE ck old 0 m)) (clockE TTimer TI64 (clockE TTimer TI64 ck old m) (at', x.2) (sE ck old 0 m)) (by omega) (h.step hm.1 hm.2 fun y => by
        rw [gE_sE, gE_sE]
        by_cases hy : y = (at', x.2)
        · rw [if_pos hy, if_pos hy]
        · rw [if_neg hy, if_neg hy]
          by_cases ho : y = old
          · have hyk : sameKey y (at', x.2) := by rw [ho]; exact hok
            rw [if_pos ho, if_pos hyk]
          · rw [if_neg ho]
            by_cases hk2 : sameKey y (at', x.2)
            · rw [if_pos hk2]
              refine h.none y fun hyc => ho ?_
              exact key_uniq h.ok.key hyc hmem ⟨hk2.1.trans hok.1.symm, hk2.2.trans hok.2.symm⟩
            · rw [if_neg hk2])
      refine ⟨f + 1, ?_⟩
      rw [lOrder.s1, cond_dt (by omega), test_d (by omega), test_d (by omega), toNat_cast, hxx, hat, w64s (by omega)]
      refine (test_true hp0).trans ((cond_t hK).trans ((test_true (put_pre h.ok (by omega) (at', x.2))).trans ((cond_f (by show (!setOk c (at', x.2)) = false; rw [hs]; rfl)).trans ?_)))
      have e : (atI (c.1, c.2) x.2.1 x.2.2, x.2) = old := hold
      rw [e]
      exact hf
    | false =>
      have hnk : ∀ y, y ∈ c.2 → ¬ sameKey y (at', x.2) := fun y hy hk2 => by
        rw [hasK_any] at hK
        have := List.any_eq_false.1 hK y hy
        exact this ((keyK_iff _ _ _).2 hk2)
      obtain ⟨f, hf⟩ := order_set x0 hx x1 d (k + 1) (setC c (at', x.2)) (sE ck (at', x.2) 1 m) (clockE TTimer TI64 ck (at', x.2) m) (by omega) (h.step hm.1 hm.2 fun y => by
        rw [gE_sE]
        by_cases hy : y = (at', x.2)
        · rw [if_pos hy, if_pos hy]
        · rw [if_neg hy, if_neg hy]
          by_cases hk2 : sameKey y (at', x.2)
          · rw [if_pos hk2]; exact h.none y fun hyc => hnk y hyc hk2
          · rw [if_neg hk2])
      refine ⟨f + 1, ?_⟩
      rw [lOrder.s1, cond_dt (by omega), test_d (by omega), test_d (by omega), toNat_cast, hxx, hat, w64s (by omega)]
      exact (test_true hp0).trans ((cond_f hK).trans ((test_true (put_pre h.ok (by omega) (at', x.2))).trans ((cond_f (by show (!setOk c (at', x.2)) = false; rw [hs]; rfl)).trans hf)))

theorem lOrder_R : lOrder.Law := fun l mid hx => by
  have hh : ∃ m, lOrder.go m l mid = some (vb true, []) := by
    by_cases h1 : (l.length : Int) > 100
    · exact ⟨1, by rw [lOrder.start, cond_dt h1]; rfl⟩
    · have e0 : timeC 0 = 0 := by decide
      obtain ⟨m, hm⟩ := order_set l (by omega) mid l.length 0 ((0 : Int), []) [] 0 (by omega) ⟨cok_new (by decide) (by decide), rfl, fun t ht => (by cases ht), fun t _ => rfl, fun t ht => (by cases ht)⟩
      exact ⟨m + 1, by rw [lOrder.start, cond_df h1, e0]; exact hm⟩
  obtain ⟨m, hm⟩ := hh
  exact lOrder.ret (awake_ok.cons' (now_ok.cons' SpecsOK.nil)) (new_ok.cons' (put_ok.cons' (due_ok.cons' (when_ok.cons' (goTo_ok.cons' (allT_ok.cons' .nil)))))) l mid hm

end Go.Proofs.Ythlbiibholhkmaa
