/-
  Timers: what holds of a clock, whatever is called.
-/
import Derived.Test.YthlbiibholhkmaaCB
namespace Go.Proofs.Ythlbiibholhkmaa
open Go VE

abbrev Tm : Type := Int × Int × Int
def sameKey (a b : Tm) : Prop := a.2.1 = b.2.1 ∧ a.2.2 = b.2.2
def dropK (k i : Int) (l : List Tm) : List Tm := l.filter fun t => !keyK k i t

theorem keyK_iff (k i : Int) (t : Tm) : keyK k i t = true ↔ t.2.1 = k ∧ t.2.2 = i := by
  unfold keyK; simp

/-- By when they go off, each kind and number once; none is past. -/
structure Cok (c : Int × List Tm) (k : Nat) : Prop where
  lo : 0 ≤ c.1
  hi : c.1 ≤ top
  mem : ∀ t, t ∈ c.2 → c.1 ≤ t.1 ∧ t.1 ≤ top
  asc : c.2.Pairwise fun a b => ltT a b = true
  key : c.2.Pairwise fun a b => ¬ sameKey a b
  len : c.2.length ≤ k

theorem rises_of {l : List Tm} (h : l.Pairwise fun a b => ltT a b = true) : risesT l = true := by
  induction l with
  | nil => rfl
  | cons a l ih =>
    cases l with
    | nil => rfl
    | cons b l =>
      obtain ⟨h1, h2⟩ := List.pairwise_cons.1 h
      show (ltT a b && risesT (b :: l)) = true
      rw [h1 b (List.mem_cons_self ..), ih h2]; rfl

theorem cut_drop {l : List Tm} (ha : l.Pairwise fun a b => ¬ sameKey a b) (k i : Int) : cutT l k i = dropK k i l := by
  unfold cutT
  rw [hasK_any]
  rcases VE.ixOf_cases (keyK k i) l with ⟨h1, h2, h3⟩ | ⟨j, h1, h2, h3, h4, h5⟩
  · rw [h3]; exact h2.symm
  · have h1 : ixOf (keyK k i) l = (j : Int) := h1
    rw [h5, cond_true, h1, toNat_cast]
    have e2 : l.take (j + 1) = l.take j ++ [l[j]] := List.take_succ_eq_append_getElem h2
    have hk : keyK k i l[j] = true := by
      rw [e2, List.filter_append] at h4
      have := congrArg List.length h4
      rw [List.length_append, h3] at this
      cases hp : keyK k i l[j] with
      | true => rfl
      | false => rw [List.filter_cons, hp] at this; simp at this
    have e : l = l.take (j + 1) ++ l.drop (j + 1) := (List.take_append_drop _ _).symm
    have hrest : (l.drop (j + 1)).filter (fun t => !keyK k i t) = l.drop (j + 1) := List.filter_eq_self.2 fun t ht => by
      have hs : l = l.take j ++ (l[j] :: l.drop (j + 1)) := by
        rw [← List.drop_eq_getElem_cons h2, List.take_append_drop]
      rw [hs] at ha
      have := (List.pairwise_cons.1 (List.pairwise_append.1 ha).2.1).1 t ht
      cases hp : keyK k i t with
      | false => rfl
      | true =>
        exact absurd (by
          obtain ⟨a1, a2⟩ := (keyK_iff _ _ _).1 hk
          obtain ⟨b1, b2⟩ := (keyK_iff _ _ _).1 hp
          exact ⟨a1.trans b1.symm, a2.trans b2.symm⟩) this
    unfold cutOut dropK
    conv => rhs; rw [e]
    rw [List.filter_append, h4, hrest]

theorem ltT_total {a b : Tm} (h : ltT a b = false) (hk : ¬ sameKey a b) : ltT b a = true := by
  have h1 : ¬ (ltT a b = true) := by rw [h]; decide
  rw [ltT_iff] at h1 ⊢
  unfold sameKey at hk
  omega

/-- Where it is put in all still rise. -/
theorem put_split {l : List Tm} (ha : l.Pairwise fun a b => ltT a b = true) (t : Tm) : l.take (placeT l t) = l.filter (fun x => ltT x t) ∧ ∀ x, x ∈ l.drop (placeT l t) → ltT x t = false := by
  induction l with
  | nil => exact ⟨rfl, fun x hx => by simp at hx⟩
  | cons a l ih =>
    obtain ⟨h1, h2⟩ := List.pairwise_cons.1 ha
    obtain ⟨i1, i2⟩ := ih h2
    unfold placeT at *
    rw [List.filter_cons]
    cases hp : ltT a t with
    | true =>
      rw [if_pos rfl, List.length_cons, List.take_succ_cons, List.drop_succ_cons]
      exact ⟨by rw [i1], i2⟩
    | false =>
      rw [if_neg (by decide)]
      have hnone : l.filter (fun x => ltT x t) = [] := List.filter_eq_nil_iff.2 fun x hx hx2 => by
        have := ltT_trans (h1 x hx) hx2
        rw [hp] at this; cases this
      rw [hnone]
      refine ⟨rfl, fun x hx => ?_⟩
      rcases List.mem_cons.1 hx with hx | hx
      · rw [hx]; exact hp
      · cases hq : ltT x t with
        | false => rfl
        | true =>
          have : x ∈ l.filter (fun x => ltT x t) := List.mem_filter.2 ⟨hx, hq⟩
          rw [hnone] at this; cases this

theorem putIn_mem {l : List Tm} {i : Nat} {t x : Tm} : x ∈ putIn l i t ↔ x = t ∨ x ∈ l := by
  unfold putIn
  rw [List.mem_append, List.mem_cons]
  constructor
  · rintro (h | h | h)
    · exact .inr (List.mem_of_mem_take h)
    · exact .inl h
    · exact .inr (List.mem_of_mem_drop h)
  · rintro (h | h)
    · exact .inr (.inl h)
    · rw [← List.take_append_drop i l, List.mem_append] at h
      exact h.elim .inl fun h => .inr (.inr h)

theorem putIn_len {l : List Tm} {i : Nat} {t : Tm} (h : i ≤ l.length) : (putIn l i t).length = l.length + 1 := by
  unfold putIn
  rw [List.length_append, List.length_cons, List.length_take, List.length_drop]; omega

theorem put_asc {l : List Tm} (ha : l.Pairwise fun a b => ltT a b = true) {t : Tm} (hk : ∀ x, x ∈ l → ¬ sameKey x t) : (putIn l (placeT l t) t).Pairwise fun a b => ltT a b = true := by
  obtain ⟨h1, h2⟩ := put_split ha t
  have ha' := ha
  rw [← List.take_append_drop (placeT l t) l] at ha'
  obtain ⟨p1, p2, p3⟩ := List.pairwise_append.1 ha'
  unfold putIn
  refine List.pairwise_append.2 ⟨p1, List.pairwise_cons.2 ⟨fun x hx => ltT_total (h2 x hx) (hk x (List.mem_of_mem_drop hx)), p2⟩, fun a hA b hB => ?_⟩
  have hat : ltT a t = true := by
    rw [h1] at hA
    exact (List.mem_filter.1 hA).2
  rcases List.mem_cons.1 hB with hB | hB
  · rw [hB]; exact hat
  · exact p3 a hA b hB

theorem put_key {l : List Tm} (ha : l.Pairwise fun a b => ¬ sameKey a b) {t : Tm} (hk : ∀ x, x ∈ l → ¬ sameKey x t) (i : Nat) : (putIn l i t).Pairwise fun a b => ¬ sameKey a b := by
  rw [← List.take_append_drop i l] at ha
  obtain ⟨p1, p2, p3⟩ := List.pairwise_append.1 ha
  unfold putIn
  refine List.pairwise_append.2 ⟨p1, List.pairwise_cons.2 ⟨fun x hx h => hk x (List.mem_of_mem_drop hx) ⟨h.1.symm, h.2.symm⟩, p2⟩, fun a hA b hB => ?_⟩
  rcases List.mem_cons.1 hB with hB | hB
  · rw [hB]; exact hk a (List.mem_of_mem_take hA)
  · exact p3 a hA b hB

theorem Cok.sub {c : Int × List Tm} {k : Nat} (h : Cok c k) {l : List Tm} (hl : l.Sublist c.2) : Cok (c.1, l) k :=
  ⟨h.lo, h.hi, fun t ht => h.mem t (hl.subset ht), h.asc.sublist hl, h.key.sublist hl, Nat.le_trans hl.length_le h.len⟩
theorem Cok.mono {c : Int × List Tm} {k k' : Nat} (h : Cok c k) (hk : k ≤ k') : Cok c k' := ⟨h.lo, h.hi, h.mem, h.asc, h.key, Nat.le_trans h.len hk⟩
theorem cok_new {n : Int} (h0 : 0 ≤ n) (h1 : n ≤ top) : Cok (n, []) 0 := ⟨h0, h1, fun _ ht => (by cases ht), List.Pairwise.nil, List.Pairwise.nil, Nat.le_refl _⟩

theorem Cok.cut {c : Int × List Tm} {k : Nat} (h : Cok c k) (a i : Int) : Cok (cutC c a i) k := by
  unfold cutC
  rw [cut_drop h.key]
  exact h.sub List.filter_sublist
theorem Cok.rises {c : Int × List Tm} {k : Nat} (h : Cok c k) (a i : Int) : risesT (cutT c.2 a i) = true := rises_of (h.cut a i).asc
theorem Cok.put {c : Int × List Tm} {k : Nat} (h : Cok c k) (t : Tm) : Cok (setC c t) (k + 1) := by
  unfold setC
  cases hs : setOk c t with
  | false => exact h.mono (by omega)
  | true =>
    rw [cond_true]
    have hc := h.cut t.2.1 t.2.2
    unfold setOk at hs
    simp only [Bool.and_eq_true, Bool.not_eq_true', decide_eq_false_iff_not] at hs
    obtain ⟨g1, g2⟩ := hs
    have g1 : ¬ t.1 < c.1 := g1
    have g2 : ¬ top < t.1 := g2
    have hk : ∀ x, x ∈ cutT c.2 t.2.1 t.2.2 → ¬ sameKey x t := fun x hx hxt => by
      rw [cut_drop h.key] at hx
      have := (List.mem_filter.1 hx).2
      rw [(keyK_iff _ _ _).2 hxt] at this
      cases this
    refine ⟨h.lo, h.hi, fun x hx => ?_, put_asc hc.asc hk, put_key hc.key hk _, ?_⟩
    · rcases putIn_mem.1 hx with hx | hx
      · rw [hx]; exact ⟨by show c.1 ≤ t.1; omega, by omega⟩
      · exact hc.mem x hx
    · show (putIn _ _ _).length ≤ _
      rw [putIn_len (place_le _ _)]
      have hl : (cutT c.2 t.2.1 t.2.2).length ≤ k := hc.len
      omega
theorem Cok.due {c : Int × List Tm} {k : Nat} (h : Cok c k) (to : Int) : Cok (nextC c to) k := by
  unfold nextC
  cases hs : dueB c to with
  | false => exact h
  | true =>
    rw [cond_true]
    obtain ⟨n, l⟩ := c
    cases l with
    | nil => exact absurd hs (by simp [dueB])
    | cons a l =>
      have hm := h.mem a (List.mem_cons_self ..)
      have h0 := h.lo
      obtain ⟨a1, a2⟩ := List.pairwise_cons.1 h.asc
      obtain ⟨k1, k2⟩ := List.pairwise_cons.1 h.key
      refine ⟨by show 0 ≤ a.1; exact Int.le_trans h0 hm.1, hm.2, fun t ht => ⟨?_, (h.mem t (List.mem_cons_of_mem _ ht)).2⟩, a2, k2, ?_⟩
      · have := (ltT_iff a t).1 (a1 t ht)
        show a.1 ≤ t.1
        omega
      · have := h.len
        show l.length ≤ k
        simp at this; omega
theorem Cok.goTo {c : Int × List Tm} {k : Nat} (h : Cok c k) (to : Int) : Cok (goC c to) k := by
  unfold goC
  cases hs : goB c to with
  | false => exact h
  | true =>
    rw [cond_true]
    unfold goB at hs
    simp only [Bool.and_eq_true, Bool.not_eq_true', decide_eq_false_iff_not, Bool.and_eq_false_iff] at hs
    obtain ⟨g1, g2, g3⟩ := hs
    have h0 := h.lo
    refine ⟨by show 0 ≤ to; omega, by show to ≤ top; omega, fun t ht => ⟨?_, (h.mem t ht).2⟩, h.asc, h.key, h.len⟩
    obtain ⟨n, l⟩ := c
    cases l with
    | nil => cases ht
    | cons a l =>
      have hlast : ¬ a.1 ≤ to := by
        rcases g3 with g3 | g3
        · exact absurd (by simp) g3
        · exact g3
      rcases List.mem_cons.1 ht with ht | ht
      · show to ≤ t.1; rw [ht]; omega
      · have := (ltT_iff a t).1 ((List.pairwise_cons.1 h.asc).1 t ht)
        show to ≤ t.1
        omega

theorem Cok.fits {c : Int × List Tm} {k : Nat} (h : Cok c k) (hk : k ≤ 1000) : VE.fits TClock c = true := fits_clock (by
  have := h.len
  have hR : reachBytes = 140737488351232 := rfl
  show c.2.length * 24 ≤ _; omega)

end Go.Proofs.Ythlbiibholhkmaa
