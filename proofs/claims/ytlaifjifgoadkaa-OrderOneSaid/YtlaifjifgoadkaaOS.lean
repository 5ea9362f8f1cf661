/-
  Rows of keys: merged, sorted (plain).
-/
import Derived.Test.YtlaifjifgoadkaaOA
namespace Go.Proofs.Ytlaifjifgoadkaa
open Go VE

theorem mg_fuel : ∀ (n : Nat) (l m : List Ky), l.length + m.length < n → mg (n + 1) l m = mg n l m
  | 0, _, _, h => by omega
  | n + 1, [], m, _ => rfl
  | n + 1, a :: l, [], _ => rfl
  | n + 1, a :: l, b :: m, h => by
    rw [mg, mg]
    simp only [List.length_cons] at h
    rw [mg_fuel n (a :: l) m (by simp <;> omega), mg_fuel n l (b :: m) (by simp <;> omega)]

theorem mg_ge (l m : List Ky) (k : Nat) : mg (l.length + m.length + 1 + k) l m = merge l m := by
  induction k with
  | zero => rfl
  | succ k ih => rw [← Nat.add_assoc, mg_fuel _ _ _ (by omega), ih]

theorem merge_nil (m : List Ky) : merge [] m = m := by simp [merge, mg]
theorem merge_nil' (l : List Ky) : merge l [] = l := by cases l <;> simp [merge, mg]
theorem merge_cons (a b : Ky) (l m : List Ky) : merge (a :: l) (b :: m) = if less b a then b :: merge (a :: l) m else a :: merge l (b :: m) := by
  conv => lhs; unfold merge
  rw [show (a :: l).length + (b :: m).length + 1 = ((a :: l).length + m.length + 1) + 1 by simp <;> omega, mg]
  rw [show mg ((a :: l).length + m.length + 1) (a :: l) m = merge (a :: l) m from rfl]
  have := mg_ge l (b :: m) 0
  rw [show (a :: l).length + m.length + 1 = l.length + (b :: m).length + 1 + 0 by simp <;> omega, this]

theorem merge_length : ∀ (n : Nat) (l m : List Ky), l.length + m.length ≤ n → (merge l m).length = l.length + m.length
  | _, [], m, _ => by rw [merge_nil]; simp
  | _, a :: l, [], _ => by rw [merge_nil']; simp
  | 0, a :: l, b :: m, h => by simp at h
  | n + 1, a :: l, b :: m, h => by
    rw [merge_cons]
    simp only [List.length_cons] at h
    split
    · rw [List.length_cons, merge_length n (a :: l) m (by simp <;> omega)]; simp; omega
    · rw [List.length_cons, merge_length n l (b :: m) (by simp <;> omega)]; simp; omega

theorem sortN_fuel : ∀ (n : Nat) (l : List Ky), l.length ≤ n → sortN (n + 1) l = sortN n l
  | 0, l, h => by
    have : l = [] := List.length_eq_zero_iff.1 (by omega)
    subst this
    rfl
  | n + 1, l, h => by
    have e : ∀ n (l : List Ky), sortN (n + 1) l = if l.length < 2 then l else merge (sortN n (l.take (l.length / 2))) (sortN n (l.drop (l.length / 2))) := fun _ _ => rfl
    rw [e (n + 1) l, e n l]
    split
    · rfl
    · rw [sortN_fuel n _ (by rw [List.length_take]; omega), sortN_fuel n _ (by rw [List.length_drop]; omega)]

theorem sortN_ge (l : List Ky) (k : Nat) : sortN (l.length + k) l = sort l := by
  induction k with
  | zero => rfl
  | succ k ih => rw [← Nat.add_assoc, sortN_fuel _ _ (by omega), ih]

theorem sort_rec (l : List Ky) : sort l = if l.length < 2 then l else merge (sort (l.take (l.length / 2))) (sort (l.drop (l.length / 2))) := by
  have h0 := sortN_ge l 1
  rw [← h0, sortN]
  split
  · rfl
  · rename_i h
    have h1 := sortN_ge (l.take (l.length / 2)) (l.length - (l.take (l.length / 2)).length)
    have h2 := sortN_ge (l.drop (l.length / 2)) (l.length - (l.drop (l.length / 2)).length)
    rw [show (l.take (l.length / 2)).length + (l.length - (l.take (l.length / 2)).length) = l.length by rw [List.length_take]; omega] at h1
    rw [show (l.drop (l.length / 2)).length + (l.length - (l.drop (l.length / 2)).length) = l.length by rw [List.length_drop]; omega] at h2
    rw [h1, h2]

theorem sort_length : ∀ (n : Nat) (l : List Ky), l.length ≤ n → (sort l).length = l.length
  | 0, l, h => by
    have : l = [] := List.length_eq_zero_iff.1 (by omega)
    subst this
    rfl
  | n + 1, l, h => by
    rw [sort_rec]
    split
    · rfl
    · rw [merge_length _ _ _ (Nat.le_refl _), sort_length n _ (by rw [List.length_take]; omega), sort_length n _ (by rw [List.length_drop]; omega), List.length_take, List.length_drop]
      omega

abbrev Le (a b : Ky) : Prop := less b a = false

theorem less_iff (a b : Ky) : less a b = true ↔ kA a < kA b ∨ (kA a = kA b ∧ kB a < kB b) := by simp [less]
theorem le_iff (a b : Ky) : Le a b ↔ kA a < kA b ∨ (kA a = kA b ∧ kB a ≤ kB b) := by
  have := less_iff b a
  unfold Le
  generalize kA a = a1 at *
  generalize kB a = a2 at *
  generalize kA b = b1 at *
  generalize kB b = b2 at *
  cases h : less b a
  · rw [h] at this
    simp only [Bool.false_eq_true, false_iff] at this
    simp only [true_iff]
    omega
  · rw [h] at this
    simp only [true_iff] at this
    simp only [Bool.true_eq_false, false_iff]
    omega
theorem Le.trans {a b c : Ky} (h1 : Le a b) (h2 : Le b c) : Le a c := by rw [le_iff] at *; omega
theorem ky_ext {a b : Ky} (h1 : kA a = kA b) (h2 : kB a = kB b) : a = b := Prod.ext h1 h2
theorem Le.anti {a b : Ky} (h1 : Le a b) (h2 : Le b a) : a = b := by
  rw [le_iff] at *
  exact ky_ext (by omega) (by omega)
theorem le_of_less {a b : Ky} (h : less a b = true) : Le a b := by rw [less_iff] at h; rw [le_iff]; omega

theorem merge_perm : ∀ (n : Nat) (l m : List Ky), l.length + m.length ≤ n → (merge l m).Perm (l ++ m)
  | _, [], m, _ => by rw [merge_nil]; exact .refl _
  | _, a :: l, [], _ => by rw [merge_nil', List.append_nil]
  | 0, a :: l, b :: m, h => by simp at h
  | n + 1, a :: l, b :: m, h => by
    rw [merge_cons]
    simp only [List.length_cons] at h
    split
    · have ih := merge_perm n (a :: l) m (by simp <;> omega)
      exact (ih.cons b).trans List.perm_middle.symm
    · have ih := merge_perm n l (b :: m) (by simp <;> omega)
      exact ih.cons a

theorem merge_sorted : ∀ (n : Nat) (l m : List Ky), l.length + m.length ≤ n → l.Pairwise Le → m.Pairwise Le → (merge l m).Pairwise Le
  | _, [], m, _, _, h => by rw [merge_nil]; exact h
  | _, a :: l, [], _, h, _ => by rw [merge_nil']; exact h
  | 0, a :: l, b :: m, h, _, _ => by simp at h
  | n + 1, a :: l, b :: m, h, hl, hm => by
    rw [merge_cons]
    simp only [List.length_cons] at h
    have hl' := List.pairwise_cons.1 hl
    have hm' := List.pairwise_cons.1 hm
    split
    · rename_i hc
      refine List.pairwise_cons.2 ⟨fun x hx => ?_, merge_sorted n (a :: l) m (by simp <;> omega) hl hm'.2⟩
      have := (merge_perm _ (a :: l) m (Nat.le_refl _)).mem_iff.1 hx
      rcases List.mem_append.1 this with h1 | h1
      · rcases List.mem_cons.1 h1 with rfl | h1
        · exact le_of_less hc
        · exact (le_of_less hc).trans (hl'.1 x h1)
      · exact hm'.1 x h1
    · rename_i hc
      have hab : Le a b := by simpa using hc
      refine List.pairwise_cons.2 ⟨fun x hx => ?_, merge_sorted n l (b :: m) (by simp <;> omega) hl'.2 hm⟩
      have := (merge_perm _ l (b :: m) (Nat.le_refl _)).mem_iff.1 hx
      rcases List.mem_append.1 this with h1 | h1
      · exact hl'.1 x h1
      · rcases List.mem_cons.1 h1 with rfl | h1
        · exact hab
        · exact hab.trans (hm'.1 x h1)

theorem sort_perm : ∀ (n : Nat) (l : List Ky), l.length ≤ n → (sort l).Perm l
  | 0, l, h => by
    have : l = [] := List.length_eq_zero_iff.1 (by omega)
    subst this; exact .refl _
  | n + 1, l, h => by
    rw [sort_rec l]
    split
    · exact .refl _
    · refine (merge_perm _ _ _ (Nat.le_refl _)).trans ?_
      have h1 := sort_perm n (l.take (l.length / 2)) (by rw [List.length_take]; omega)
      have h2 := sort_perm n (l.drop (l.length / 2)) (by rw [List.length_drop]; omega)
      have := h1.append h2
      rwa [List.take_append_drop] at this

theorem sort_sorted : ∀ (n : Nat) (l : List Ky), l.length ≤ n → (sort l).Pairwise Le
  | 0, l, h => by
    have : l = [] := List.length_eq_zero_iff.1 (by omega)
    subst this; exact .nil
  | n + 1, l, h => by
    rw [sort_rec l]
    split
    · rename_i h1
      match l, h1 with
      | [], _ => exact .nil
      | [_], _ => exact List.pairwise_singleton ..
      | _ :: _ :: _, h1 => simp at h1; omega
    · exact merge_sorted _ _ _ (Nat.le_refl _) (sort_sorted n _ (by rw [List.length_take]; omega)) (sort_sorted n _ (by rw [List.length_drop]; omega))

theorem sorted_one {l m : List Ky} (h1 : l.Pairwise Le) (h2 : m.Pairwise Le) (hp : l.Perm m) : l = m :=
  List.Perm.eq_of_pairwise (fun _ _ _ _ => Le.anti) h1 h2 hp

theorem sort_of_perm {l m : List Ky} (h : l.Perm m) : sort l = sort m :=
  sorted_one (sort_sorted _ _ (Nat.le_refl _)) (sort_sorted _ _ (Nat.le_refl _)) (((sort_perm _ l (Nat.le_refl _)).trans h).trans (sort_perm _ m (Nat.le_refl _)).symm)

theorem sort_twice (l : List Ky) : sort (sort l) = sort l := sort_of_perm (sort_perm _ l (Nat.le_refl _))

theorem rd_get {l : List Ky} {i : Nat} (h : i < l.length) : rdEl TKey l i = l[i] := by
  show l.getD i _ = _
  simp [List.getD, h]

theorem sorted_rd {l : List Ky} (hs : l.Pairwise Le) {i j : Nat} (hij : i < j) (hj : j < l.length) : Le (rdEl TKey l i) (rdEl TKey l j) := by
  rw [rd_get (by omega), rd_get hj]
  exact List.pairwise_iff_getElem.1 hs i j (by omega) hj hij

/-! ### how often a key is there -/

theorem eqEl_iff (a b : Ky) : eqEl TKey a b = true ↔ a = b := by
  have e : eqEl TKey a b = ((kA a == kA b) && (kB a == kB b)) := rfl
  rw [e, Bool.and_eq_true, beq_iff_eq, beq_iff_eq]
  constructor
  · exact fun h => ky_ext h.1 h.2
  · rintro rfl; exact ⟨rfl, rfl⟩
theorem eqEl_self (a : Ky) : eqEl TKey a a = true := (eqEl_iff a a).2 rfl
theorem eqEl_sym (a b : Ky) : eqEl TKey a b = eqEl TKey b a := by
  cases h : eqEl TKey b a with
  | true => have e := (eqEl_iff b a).1 h; rw [e]; exact eqEl_self a
  | false =>
    cases h2 : eqEl TKey a b with
    | false => rfl
    | true => have e := (eqEl_iff a b).1 h2; rw [e, eqEl_self] at h; cases h

abbrev TI64 : Ty := .int .i64
abbrev En : Type := List (Ky × Int × Nat)
def cP (y : Ky) (l : List Ky) : Int := ((l.countP fun e => eqEl TKey y e : Nat) : Int)
def gE (y : Ky) (m : En) : Int := getE TKey TI64 (0 : Int) y m
def sE (c : Nat) (x : Ky) (v : Int) (m : En) : En := setE TKey TI64 c x v m
def bE (c : Nat) (x : Ky) (m : En) : Nat := bornE TKey TI64 c x m
def cE (c : Nat) (x : Ky) (m : En) : Nat := clockE TKey TI64 c x m
def pE (n : Int) (v : Int) (m : En) : En := putE TKey TI64 n v m
def iE (n : Int) (m : En) : Bool := bornIn TKey TI64 n m

theorem cP_cons (y a : Ky) (l : List Ky) : cP y (a :: l) = cP y l + (bif eqEl TKey y a then 1 else 0) := by
  unfold cP
  rw [List.countP_cons]
  cases eqEl TKey y a <;> simp
theorem cP_perm (y : Ky) {l m : List Ky} (h : l.Perm m) : cP y l = cP y m := by unfold cP; rw [h.countP_eq]
theorem cP_le (y : Ky) (l : List Ky) : 0 ≤ cP y l ∧ cP y l ≤ l.length := by
  unfold cP
  have := List.countP_le_length (p := fun e => eqEl TKey y e) (l := l)
  omega

theorem gE_sE : ∀ (m : En) (c : Nat) (x : Ky) (v : Int) (y : Ky), gE y (sE c x v m) = bif eqEl TKey y x then v else gE y m
  | [], c, x, v, y => rfl
  | e :: m, c, x, v, y => by
    have ih := gE_sE m c x v y
    have e0 : sE c x v (e :: m) = bif eqEl TKey x e.1 then (e.1, v, e.2.2) :: m else e :: sE c x v m := rfl
    have e1 : gE y (e :: m) = bif eqEl TKey y e.1 then e.2.1 else gE y m := rfl
    rw [e0, e1]
    cases hx : eqEl TKey x e.1 with
    | true =>
      have hx := (eqEl_iff _ _).1 hx
      rw [cond_true]
      have e2 : gE y ((e.1, v, e.2.2) :: m) = bif eqEl TKey y e.1 then v else gE y m := rfl
      rw [e2, hx]
      cases eqEl TKey y e.1 <;> rfl
    | false =>
      rw [cond_false]
      have e2 : gE y (e :: sE c x v m) = bif eqEl TKey y e.1 then e.2.1 else gE y (sE c x v m) := rfl
      rw [e2, ih]
      cases hy : eqEl TKey y e.1 with
      | false => rfl
      | true =>
        have hy := (eqEl_iff _ _).1 hy
        have : eqEl TKey y x = false := by
          rw [hy, eqEl_sym]; exact hx
        rw [this]; rfl

/-- Births: each of its own, all before the clock. -/
def Born (c : Nat) : En → Prop
  | [] => True
  | e :: m => e.2.2 < c ∧ (∀ d ∈ m, d.2.2 ≠ e.2.2) ∧ Born c m

theorem born_mono {c d : Nat} (h : c ≤ d) : ∀ {m : En}, Born c m → Born d m
  | [], _ => trivial
  | _ :: _, hm => ⟨by have := hm.1; omega, hm.2.1, born_mono h hm.2.2⟩

theorem born_mem {c : Nat} : ∀ {m : En}, Born c m → ∀ d ∈ m, d.2.2 < c
  | [], _, d, hd => by cases hd
  | e :: m, h, d, hd => by
    rcases List.mem_cons.1 hd with rfl | hd
    · exact h.1
    · exact born_mem h.2.2 d hd

theorem set_births (c : Nat) (x : Ky) (v : Int) : ∀ (m : En) (d : Ky × Int × Nat), d ∈ sE c x v m → d.2.2 = c ∨ ∃ e ∈ m, e.2.2 = d.2.2
  | [], d, hd => by
    have hd : d ∈ [(x, v, c)] := hd
    rw [List.mem_singleton] at hd
    exact .inl (by rw [hd])
  | e :: m, d, hd => by
    have e0 : sE c x v (e :: m) = bif eqEl TKey x e.1 then (e.1, v, e.2.2) :: m else e :: sE c x v m := rfl
    rw [e0] at hd
    cases hx : eqEl TKey x e.1 with
    | true =>
      rw [hx, cond_true] at hd
      rcases List.mem_cons.1 hd with rfl | hd
      · exact .inr ⟨e, .head _, rfl⟩
      · exact .inr ⟨d, .tail _ hd, rfl⟩
    | false =>
      rw [hx, cond_false] at hd
      rcases List.mem_cons.1 hd with rfl | hd
      · exact .inr ⟨d, .head _, rfl⟩
      · rcases set_births c x v m d hd with h | ⟨e', h1, h2⟩
        · exact .inl h
        · exact .inr ⟨e', .tail _ h1, h2⟩

theorem cE_cons (c : Nat) (x : Ky) (e : Ky × Int × Nat) (m : En) : cE c x (e :: m) = bif eqEl TKey x e.1 then c else cE c x m := by
  unfold cE clockE hasE
  rw [List.any_cons]
  cases eqEl TKey x e.1 <;> rfl
theorem cE_ge (c : Nat) (x : Ky) (m : En) : c ≤ cE c x m ∧ cE c x m ≤ c + 1 := by
  unfold cE clockE
  cases hasE TKey TI64 x m
  · exact ⟨Nat.le_succ c, Nat.le_refl _⟩
  · exact ⟨Nat.le_refl _, Nat.le_succ c⟩

theorem born_set (c : Nat) (x : Ky) (v : Int) : ∀ {m : En}, Born c m → Born (cE c x m) (sE c x v m)
  | [], _ => ⟨Nat.lt_succ_self c, fun _ h => (by cases h), trivial⟩
  | e :: m, h => by
    have e0 : sE c x v (e :: m) = bif eqEl TKey x e.1 then (e.1, v, e.2.2) :: m else e :: sE c x v m := rfl
    rw [e0, cE_cons]
    cases hx : eqEl TKey x e.1 with
    | true => exact ⟨h.1, h.2.1, h.2.2⟩
    | false =>
      rw [cond_false, cond_false]
      have hg := cE_ge c x m
      refine ⟨Nat.lt_of_lt_of_le h.1 hg.1, fun d hd => ?_, born_set c x v h.2.2⟩
      rcases set_births c x v m d hd with h1 | ⟨e', h1, h2⟩
      · have := h.1
        intro h2
        omega
      · rw [← h2]; exact h.2.1 e' h1

theorem put_set (c : Nat) (x : Ky) (v w : Int) : ∀ {m : En}, Born c m → pE ((bE c x m : Nat) : Int) w (sE c x v m) = sE c x w m ∧ iE ((bE c x m : Nat) : Int) (sE c x v m) = true
  | [], _ => by
    have e1 : pE ((c : Nat) : Int) w [(x, v, c)] = bif ((c : Int) == (c : Int)) then [(x, w, c)] else [(x, v, c)] := by
      show (bif ((c : Int) == (c : Int)) then _ else _) = _
      rfl
    have e2 : iE ((c : Nat) : Int) [(x, v, c)] = (((c : Int) == (c : Int)) || false) := rfl
    have e3 : ((c : Int) == (c : Int)) = true := by simp
    refine ⟨e1.trans (by rw [e3]; rfl), e2.trans (by rw [e3]; rfl)⟩
  | e :: m, h => by
    have e0 : ∀ v, sE c x v (e :: m) = bif eqEl TKey x e.1 then (e.1, v, e.2.2) :: m else e :: sE c x v m := fun _ => rfl
    have eb : bE c x (e :: m) = bif eqEl TKey x e.1 then e.2.2 else bE c x m := rfl
    have ep : ∀ n (d : Ky × Int × Nat) (r : En), pE n w (d :: r) = bif ((d.2.2 : Int) == n) then (d.1, w, d.2.2) :: r else d :: pE n w r := fun _ _ _ => rfl
    have ei : ∀ n (d : Ky × Int × Nat) (r : En), iE n (d :: r) = (((d.2.2 : Int) == n) || iE n r) := fun _ _ _ => rfl
    rw [e0, e0, eb]
    cases hx : eqEl TKey x e.1 with
    | true =>
      rw [cond_true, cond_true, cond_true, ep, ei]
      have e3 : ((e.2.2 : Int) == (e.2.2 : Int)) = true := by simp
      rw [e3]
      exact ⟨rfl, rfl⟩
    | false =>
      rw [cond_false, cond_false, cond_false, ep, ei]
      obtain ⟨h1, h2⟩ := put_set c x v w h.2.2
      have hne : ((e.2.2 : Int) == ((bE c x m : Nat) : Int)) = false := by
        have hb : bE c x m ≠ e.2.2 := by
          have : ∀ (m : En), (∀ d ∈ m, d.2.2 ≠ e.2.2) → bE c x m ≠ e.2.2 := fun m => by
            induction m with
            | nil =>
              intro _
              have := h.1
              show c ≠ e.2.2
              omega
            | cons d r ih =>
              intro hd
              have eb : bE c x (d :: r) = bif eqEl TKey x d.1 then d.2.2 else bE c x r := rfl
              rw [eb]
              cases eqEl TKey x d.1
              · exact ih fun z hz => hd z (.tail _ hz)
              · exact hd d (.head _)
          exact this m h.2.1
        exact beq_eq_false_iff_ne.2 fun h => hb (by omega)
      rw [hne, cond_false, h1, h2]
      exact ⟨rfl, rfl⟩

end Go.Proofs.Ytlaifjifgoadkaa
