/-
  A row of one's own with whatever room; what is put in (slices.Insert).
-/
import Derived.Test.YtlbdljebmjajdaaVV
namespace Go.Proofs.Ytlbdljebmjajdaa.VE
open Go Go.RowKit

theorem ofB_cons (n : Nat) (b : Box) (r : List (Nat × Box)) (i : Nat) : ofB ((n, b) :: r) i = bif Nat.beq i n then some b else ofB r i := rfl

/-- What holds with whatever room there is behind a row holds of the row. -/
theorem returnsO_room {P : Program} {g : FuncId} {n0 ty : Nat} {t : Ty} {l : List (El t)} {rest : List IV} {bx bx' : List (Nat × Box)} {res : IV}
    (H : ∀ c, l.length ≤ c → VE.ReturnsO P g (.c (.view n0 (width t) 0 l.length (some c)) :: rest) ((n0, .row ty t l) :: bx) res bx') :
    VE.ReturnsO P g (.c (.sref n0) :: rest) ((n0, .arr ty t l false) :: bx) res bx' := by
  intro w us M O x hx hus ha
  have h0 : ofB ((n0, Box.arr ty t l false) :: bx) n0 = some (.arr ty t l false) := by rw [ofB_cons]; simp
  obtain ⟨q, hq, hbr⟩ := hx.box n0 _ h0
  have hlen : q.len = l.length ∧ l.length ≤ q.cap := by
    cases hbr with
    | none _ _ _ h1 h2 h3 => exact ⟨h3, Nat.zero_le _⟩
    | arr _ _ _ _ b vs e h1 h2 h3 h4 => exact ⟨h3, h4⟩
  have hrow : BRel x w q (.row ty t l) := by
    cases hbr with
    | none _ _ _ h1 h2 h3 => exact .row0 _ _ h1 h2
    | arr _ _ _ _ b vs e h1 h2 h3 h4 h5 h6 => exact .row _ _ _ b vs e h1 h2 h4 h5 h6
  have up : ∀ i b, ofB ((n0, Box.row ty t l) :: bx) i = some b → ∃ b', ofB ((n0, Box.arr ty t l false) :: bx) i = some b' ∧ (b.hot = true → b'.hot = true) ∧ (b' = b ∨ (i = n0 ∧ b = .row ty t l)) := fun i b hb => by
    rw [ofB_cons] at hb
    rw [ofB_cons]
    cases hi : Nat.beq i n0 with
    | true =>
      rw [hi] at hb
      simp only [cond_true, Option.some.injEq] at hb
      exact ⟨_, rfl, fun _ => rfl, .inr ⟨Nat.eq_of_beq_eq_true hi, hb.symm⟩⟩
    | false =>
      rw [hi] at hb
      exact ⟨b, hb, fun h => h, .inl rfl⟩
  have hx' : HRel M w.heap.size O x (ofB ((n0, Box.row ty t l) :: bx)) (ofU ((n0, Box.row ty t l) :: bx)) w := by
    refine ⟨fun id b hb => ?_, fun i j bi bj qi qj k hi hj => ?_, fun i bi qi k hi hh => ?_, hx.used, hx.okp, hx.old, hx.big, hx.okb, hx.laid⟩
    · obtain ⟨b', h1, _, h3⟩ := up id b hb
      rcases h3 with h3 | ⟨h3, h4⟩
      · subst h3; exact hx.box id _ h1
      · subst h3; subst h4; exact ⟨q, hq, hrow⟩
    · obtain ⟨b1, h1, _⟩ := up i bi hi
      obtain ⟨b2, h2, _⟩ := up j bj hj
      exact hx.apart i j b1 b2 qi qj k h1 h2
    · obtain ⟨b1, h1, h2, _⟩ := up i bi hi
      exact hx.own i b1 qi k h1 (h2 hh)
  refine (H q.cap hlen.2 w us M O x hx' hus fun j c hc => ?_).mono ?_
  · cases j with
    | zero =>
      simp at hc; subst hc
      have hv := iv_c (ha 0 _ rfl)
      generalize us.getD 0 undef = V at hv ⊢
      cases hv with
      | sref _ q' hg =>
        rw [hq] at hg; injection hg with hg; subst hg
        have := VRel.view (x := x) (w := w) n0 (width t) 0 l.length (some q.cap) q 0 hq (by omega) (fun _ => by omega) (fun z hz => by injection hz)
        rw [hlen.1]
        exact .c _ _ (by simpa using this)
    | succ j => exact ha (j + 1) c hc
  · rintro e w' ⟨v, x', u', h1, h2, h3, h4, h5⟩
    refine ⟨v, x', u', h1, h2, h3, h4, fun n ty' cs hm => h5 n ty' cs ?_⟩
    rcases List.mem_cons.1 hm with hm | hm
    · injection hm with h6 h7; cases h7
    · exact List.mem_cons_of_mem _ hm

/-! ### what is put in -/

def putIn {α : Type} (l : List α) (i : Nat) (v : α) : List α := l.take i ++ v :: l.drop i

theorem putIn_get {α : Type} (l : List α) {i : Nat} (v : α) (hi : i ≤ l.length) (j : Nat) : (putIn l i v)[j]? = if j < i then l[j]? else if j = i then some v else l[j - 1]? := by
  unfold putIn
  have ht : (l.take i).length = i := by rw [List.length_take]; omega
  by_cases h1 : j < i
  · rw [if_pos h1, List.getElem?_append_left (by omega), List.getElem?_take_of_lt h1]
  · rw [if_neg h1, List.getElem?_append_right (by omega), ht]
    by_cases h2 : j = i
    · subst h2; simp
    · rw [if_neg h2]
      obtain ⟨d, rfl⟩ : ∃ d, j = i + (d + 1) := ⟨j - i - 1, by omega⟩
      rw [show i + (d + 1) - i = d + 1 by omega, List.getElem?_cons_succ, List.getElem?_drop]
      congr 1

theorem putIn_end {α : Type} (l : List α) (v : α) : putIn l l.length v = l ++ [v] := by unfold putIn; simp

/-- Into a new row. -/
theorem ins_new {α : Type} (l : List α) {i : Nat} (v z : α) (hi : i < l.length) {a b c : Nat} (ha : a = l.length + 1 - i) (hb : 1 ≤ b) (hc : l.length - i ≤ c) :
    over (over (l.take i ++ List.replicate a z) i (List.take b [v])) (i + 1) (List.take c (l.drop i)) = putIn l i v := by
  have e1 : List.take b [v] = [v] := List.take_of_length_le (by simpa using hb)
  have e2 : List.take c (l.drop i) = l.drop i := List.take_of_length_le (by rw [List.length_drop]; exact hc)
  rw [e1, e2]
  have ht : (l.take i).length = i := by rw [List.length_take]; omega
  have hA : (l.take i ++ List.replicate a z).length = l.length + 1 := by rw [List.length_append, ht, List.length_replicate]; omega
  have hB : (over (l.take i ++ List.replicate a z) i [v]).length = l.length + 1 := by rw [over_length _ _ _ (by omega), hA, List.length_singleton]; omega
  refine List.ext_getElem? fun j => ?_
  rw [over_get _ _ _ (by omega), over_get _ _ _ (by omega), putIn_get _ _ (by omega), List.length_drop, List.length_singleton]
  by_cases h1 : j < i
  · rw [if_pos (by omega), if_pos h1, if_pos h1, List.getElem?_append_left (by omega), List.getElem?_take_of_lt h1]
  · simp only [if_neg h1]
    by_cases h2 : j = i
    · have h4 : j < i + 1 := by omega
      simp only [if_pos h4, if_pos h2]
      subst h2; simp
    · have h4 : ¬ j < i + 1 := by omega
      simp only [if_neg h4, if_neg h2]
      by_cases h3 : j < i + 1 + (l.length - i)
      · rw [if_pos h3, List.getElem?_drop]
        congr 1; omega
      · rw [if_neg h3, List.getElem?_eq_none (by omega), List.getElem?_eq_none (by omega)]

/-- In place. -/
theorem ins_here {α : Type} (l : List α) {i : Nat} (v : α) (hi : i < l.length) {a b c : Nat} (ha : l.length - i ≤ a) (hb : 1 ≤ b) (hc : c = l.length + 1) :
    List.take c (over (over l (i + 1) (List.take a (l.drop i))) i (List.take b [v])) = putIn l i v := by
  have e1 : List.take b [v] = [v] := List.take_of_length_le (by simpa using hb)
  have e2 : List.take a (l.drop i) = l.drop i := List.take_of_length_le (by rw [List.length_drop]; exact ha)
  rw [e1, e2]
  have hA : (over l (i + 1) (l.drop i)).length = l.length + 1 := by rw [over_length _ _ _ (by omega), List.length_drop]; omega
  have hB : (over (over l (i + 1) (l.drop i)) i [v]).length = l.length + 1 := by rw [over_length _ _ _ (by omega), hA, List.length_singleton]; omega
  rw [List.take_of_length_le (by omega)]
  refine List.ext_getElem? fun j => ?_
  rw [over_get _ _ _ (by omega), over_get _ _ _ (by omega), putIn_get _ _ (by omega), List.length_drop, List.length_singleton]
  by_cases h1 : j < i
  · have h4 : j < i + 1 := by omega
    simp only [if_pos h1, if_pos h4]
  · simp only [if_neg h1]
    by_cases h2 : j = i
    · have h4 : j < i + 1 := by omega
      simp only [if_pos h4, if_pos h2]
      subst h2; simp
    · have h4 : ¬ j < i + 1 := by omega
      simp only [if_neg h4, if_neg h2]
      by_cases h3 : j < i + 1 + (l.length - i)
      · rw [if_pos h3, List.getElem?_drop]
        congr 1; omega
      · rw [if_neg h3, List.getElem?_eq_none (by omega), List.getElem?_eq_none (by omega)]

end Go.Proofs.Ytlbdljebmjajdaa.VE
