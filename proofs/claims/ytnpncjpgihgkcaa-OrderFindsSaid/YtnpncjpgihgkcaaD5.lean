/-
  THE LAW triagelaw3.OrderFinds ANSWERS true WHATEVER ROW OF KEYS AND KEY IT IS HANDED: in a sorted row each key is found where it first stands, and what is not there is not. No condition.
-/
import Derived.Test.YtnpncjpgihgkcaaF5
import Derived.Test.YtnpncjpgihgkcaaRows
namespace Go.Proofs.Ytnpncjpgihgkcaa
open Go VE Go.ChangeShapes Go.WideShapes

theorem own5 : ownKnob Try.prog.godebug = none := by kernel_rfl
theorem laidOut5 : laidOutB Try.prog = true := by kernel_rfl

def isK (p k : Int × Int) : Bool := (p.1 == k.1) && ((p.2 == k.2) && true)
theorem isK_iff (p k : Int × Int) : isK p k = true ↔ p = k := by
  simp [isK]
  constructor
  · rintro ⟨h1, h2⟩; exact Prod.ext h1 h2
  · rintro rfl; exact ⟨rfl, rfl⟩

/-- Whether one of the first i is the key. -/
def inFirst (l : List (Int × Int)) (k : Int × Int) (i : Nat) : Bool := (l.take i).any fun p => isK p k

theorem inFirst_succ {l : List (Int × Int)} {k : Int × Int} {i : Nat} (h : i < l.length) : inFirst l k (i + 1) = (inFirst l k i || isK (rdEl TKey l i) k) := by
  unfold inFirst
  rw [List.take_succ_eq_append_getElem h, rd_lt h, List.any_append]
  simp only [List.any_cons, List.any_nil, Bool.or_false]

theorem find_first {l : List (Int × Int)} (hs : l.Pairwise Le) {i : Nat} (hp : 0 < find l (rdEl TKey l i)) : isK (rdEl TKey l (find l (rdEl TKey l i) - 1)) (rdEl TKey l i) = false := by
  obtain ⟨h1, h2, h3⟩ := find_spec hs (rdEl TKey l i)
  cases h : isK (rdEl TKey l (find l (rdEl TKey l i) - 1)) (rdEl TKey l i) with
  | false => rfl
  | true =>
    have := h2 (find l (rdEl TKey l i) - 1) (by omega)
    rw [(isK_iff _ _).1 h] at this
    simp [less] at this

theorem finds_loop {l : List (Int × Int)} (hs : l.Pairwise Le) (hl : l.length ≤ 8796093022208) (a b : Int) : ∀ (d i : Nat), i + d = l.length →
    f5.r6 (d + 1) l (inFirst l (a, b) i) l (l.length : Int) (i : Int) a b = some (vb true, [])
  | 0, i, h => by
    rw [f5.step6, cond_f (dec_f (by omega)), test_true (dec_t hl)]
    have hi : i = l.length := by omega
    have : there l (a, b) = inFirst l (a, b) i := by
      rw [hi, inFirst, List.take_length]
      cases h1 : there l (a, b) with
      | true =>
        obtain ⟨j, hj, hk⟩ := (there_iff hs (a, b)).1 h1
        symm
        rw [List.any_eq_true]
        refine ⟨rdEl TKey l j, ?_, (isK_iff _ _).2 hk⟩
        rw [rd_lt hj]
        exact List.getElem_mem hj
      | false =>
        symm
        rw [List.any_eq_false]
        intro p hp hk
        obtain ⟨j, hj, rfl⟩ := List.getElem_of_mem hp
        have := (there_iff hs (a, b)).2 ⟨j, hj, by rw [rd_lt hj]; exact (isK_iff _ _).1 hk⟩
        rw [h1] at this; cases this
    rw [this, cond_t (beq_self_eq_true _)]; rfl
  | d + 1, i, h => by
    have hi : i < l.length := by omega
    have w : IntKind.i64.wrap ((i : Int) + 1) = ((i + 1 : Nat) : Int) := by rw [w64] <;> omega
    have t : ((i : Int)).toNat = i := by omega
    obtain ⟨f1, f2⟩ := find_there hs hi
    have th : there l (rdEl TKey l i) = true := (there_iff hs _).2 ⟨i, hi, rfl⟩
    have ih := finds_loop hs hl a b d (i + 1) (by omega)
    rw [inFirst_succ hi] at ih
    have tail : cond (inFirst l (a, b) i) (f5.r6 (d + 1) l true l (l.length : Int) ((i + 1 : Nat) : Int) a b) (f5.r6 (d + 1) l (((rdEl TKey l i).1 == a) && (((rdEl TKey l i).2 == b) && true)) l (l.length : Int) ((i + 1 : Nat) : Int) a b) = some (vb true, []) := by
      cases h1 : inFirst l (a, b) i with
      | true => rw [h1, Bool.true_or] at ih; rw [cond_true]; exact ih
      | false => rw [h1, Bool.false_or] at ih; rw [cond_false]; exact ih
    rw [f5.step6, cond_t (dec_t (by omega)), test_true (dec_t (by omega)), test_true (dec_t (by omega)), test_true (dec_t hl), t]
    rw [cond_f (show Bool.not (there l (rdEl (.prod (.int .i64) (.int .i64)) l i)) = false from by rw [show there l (rdEl (.prod (.int .i64) (.int .i64)) l i) = true from th]; rfl)]
    rw [cond_f (dec_f (show ¬ (((find l (rdEl (.prod (.int .i64) (.int .i64)) l i) : Nat) : Int) > (i : Int)) from by have : find l (rdEl (.prod (.int .i64) (.int .i64)) l i) ≤ i := f1; omega))]
    rw [test_true (dec_t (show (((find l (rdEl (.prod (.int .i64) (.int .i64)) l i) : Nat) : Int) < (l.length : Int)) from by have : find l (rdEl (.prod (.int .i64) (.int .i64)) l i) ≤ i := f1; omega))]
    generalize hj : find l (rdEl (.prod (.int .i64) (.int .i64)) l i) = j
    have hj' : find l (rdEl TKey l i) = j := hj
    rw [hj'] at f1 f2
    have tj : ((j : Nat) : Int).toNat = j := by omega
    rw [tj, w]
    rw [cond_f (show Bool.not (((rdEl (.prod (.int .i64) (.int .i64)) l j).1 == (rdEl (.prod (.int .i64) (.int .i64)) l i).1) && (((rdEl (.prod (.int .i64) (.int .i64)) l j).2 == (rdEl (.prod (.int .i64) (.int .i64)) l i).2) && true)) = false from by
      have : rdEl (.prod (.int .i64) (.int .i64)) l j = rdEl (.prod (.int .i64) (.int .i64)) l i := f2
      rw [this]; simp)]
    by_cases hp : 0 < j
    · have ff := find_first hs (by rw [hj']; exact hp)
      rw [hj'] at ff
      have w1 : IntKind.i64.wrap ((j : Int) - 1) = ((j - 1 : Nat) : Int) := by rw [w64] <;> omega
      have t1 : (((j - 1 : Nat) : Int)).toNat = j - 1 := by omega
      rw [cond_t (dec_t (by omega)), w1, t1, test_true (dec_t (by omega)), test_true (dec_t (by omega))]
      rw [cond_f (show (((rdEl (.prod (.int .i64) (.int .i64)) l (j - 1)).1 == (rdEl (.prod (.int .i64) (.int .i64)) l i).1) && (((rdEl (.prod (.int .i64) (.int .i64)) l (j - 1)).2 == (rdEl (.prod (.int .i64) (.int .i64)) l i).2) && true)) = false from ff)]
      exact tail
    · rw [cond_f (dec_f (by omega))]
      exact tail

theorem finds5 (l : List (Int × Int)) (a b : Int) (hl : l.length * 16 ≤ reachBytes) : ∃ n, f5.go n l a b = some (vb true, []) := by
  have hl' : l.length ≤ 8796093022208 := by simp only [reachBytes] at hl; omega
  by_cases h : (l.length : Int) > 200
  · refine ⟨1, ?_⟩
    rw [f5.start, cond_t (dec_t h)]; rfl
  · have s1 := sort_length _ l (Nat.le_refl _)
    refine ⟨(sort l).length + 1 + 1, ?_⟩
    rw [f5.start, cond_f (dec_f h), test_true (dec_t hl')]
    exact finds_loop (sort_sorted _ l (Nat.le_refl _)) (by omega) a b (sort l).length 0 (by omega)

theorem orderFinds_lifted (os : Os) (started : os.Started) (H : Type) (en : TypeId × Value → H) :
    ReturnsInHanded {} Try.checked os 5 .any (Rows.orderFindsSpec.pre6 en Try.prog Try.f5 Rows.orderFindsRow.domain false) (Rows.orderFindsSpec.post en Try.prog Try.f5 false true false false) := by
  refine law_lifted (C := Try.checked) (ps := [(false, .sl TKey), (true, TKey)]) (tb := 4) own5 started laidOut5 (by kernel_rfl) Try.func5 (by kernel_rfl) (by kernel_rfl) (by kernel_rfl) rfl
    (fun H ds h => by match ds, h with | [_, _], _ => rfl)
    (ChangeSpec.witness6 (enc := en) (C := Try.checked) false ⟨#[], #[.slice none 0 0, .agg #[.int .i64 0, .int .i64 0]], []⟩ 8 (by kernel_rfl) (by kernel_rfl) (by kernel_rfl) (by kernel_rfl))
    fun x hx => ?_
  obtain ⟨l, ⟨a, b⟩, u⟩ := x
  obtain ⟨⟨h1, _⟩, _⟩ := hx
  obtain ⟨n, hn⟩ := finds5 l a b h1
  refine returns_of_run (cfg := cfg5) (cfgOK_of mixed tab_ok (sort9.cons' (find14.cons' (awake8.cons' SpecsOK.nil)))) Try.func5 (c := bodyOf Try.f5) rfl (by show 2 ≤ 83; omega) (m := n) ?_
  have e0 : run cfg5 Try.f5.ntmps Try.f5.results.toList n [.code (bodyOf Try.f5)] (enter (ivs [(false, .sl TKey), (true, TKey)] (l, (a, b), u))) = f5.go n l a b := by kernel_rfl
  exact e0.trans hn

theorem orderFinds_holds : Rows.OrderFindsSaid :=
  OpenClaim.holds_of_wide 5 Try.f5 rfl rfl rfl rfl rfl rfl rfl ⟨rfl, rfl, rfl, rfl, rfl⟩ rfl rfl rfl rfl rfl (by kernel_rfl) Try.func5 (by kernel_rfl)
    (of_decide_eq_true (by kernel_rfl)) (by unfold Func.isWrapper; first | (rw [if_pos (by decide +kernel)]; kernel_rfl) | (rw [if_neg (by decide +kernel)]; exact ⟨rfl, rfl⟩))
    (fun os started H enc _ => orderFinds_lifted os started H enc)

end Go.Proofs.Ytnpncjpgihgkcaa
