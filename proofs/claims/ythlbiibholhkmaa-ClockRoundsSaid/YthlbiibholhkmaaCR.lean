/-
  Timers: set again each time, one goes off as often as there is time.
-/
import Derived.Test.YthlbiibholhkmaaCT
namespace Go.Proofs.Ythlbiibholhkmaa
open Go VE

theorem set_one {a : Int} {t : Tm} (h1 : a ≤ t.1) (h2 : t.1 ≤ top) : setOk (a, []) t = true ∧ setC (a, []) t = (a, [t]) := by
  have e : setOk (a, []) t = true := by
    unfold setOk
    rw [dec_f (show ¬ t.1 < a by omega), dec_f (show ¬ t.1 > top by omega)]; rfl
  refine ⟨e, ?_⟩
  unfold setC
  rw [e]; rfl

theorem cok_one {a : Int} {t : Tm} (h0 : 0 ≤ a) (ha : a ≤ top) (h1 : a ≤ t.1) (h2 : t.1 ≤ top) : Cok (a, [t]) 1 :=
  ⟨h0, ha, fun x hx => by rw [List.mem_singleton] at hx; subst hx; exact ⟨h1, h2⟩, List.pairwise_singleton _ _, List.pairwise_singleton _ _, Nat.le_refl _⟩

theorem rounds_loop (s to : Int) (hs : 1 ≤ s ∧ s ≤ 50) (ht : 0 ≤ to ∧ to < 2000) : ∀ (d n : Nat), 2001 = n + d → (n : Int) * s ≤ to → ∃ m, lRounds.l1 m s to n ((n : Int) * s) [((n : Int) * s + s, ((2 : Int), (1 : Int)))] = some (vb true, [])
  | 0, n, h, hn => by
    have h1 : (n : Int) * 1 ≤ (n : Int) * s := Int.mul_le_mul_of_nonneg_left hs.1 (by omega)
    omega
  | d + 1, n, h, hn => by
    have htop : top = 4611686018427387904 := rfl
    have h0 : 0 ≤ (n : Int) * s := Int.mul_nonneg (by omega) (by omega)
    have e1 : ((n + 1 : Nat) : Int) * s = (n : Int) * s + s := by rw [Int.natCast_add, Int.add_mul]; simp
    have hn1 : (n : Int) * 1 ≤ (n : Int) * s := Int.mul_le_mul_of_nonneg_left hs.1 (by omega)
    generalize hP : (n : Int) * s = P at *
    have hc : Cok (P, [(P + s, ((2 : Int), (1 : Int)))]) 1 := cok_one h0 (by omega) (by show P ≤ P + s; omega) (by show P + s ≤ top; omega)
    have hdue : dueB (P, [(P + s, ((2 : Int), (1 : Int)))]) to = !decide (P + s > to) := rfl
    have hp1 : due.pre ((P, [(P + s, ((2 : Int), (1 : Int)))]), to, ()) = true := due_pre hc (by omega)
    by_cases hd : P + s > to
    · refine ⟨1, ?_⟩
      have hdue : dueB (P, [(P + s, ((2 : Int), (1 : Int)))]) to = false := by rw [hdue, dec_t hd]; rfl
      have hnx : nextC (P, [(P + s, ((2 : Int), (1 : Int)))]) to = (P, [(P + s, ((2 : Int), (1 : Int)))]) := by unfold nextC; rw [hdue]; rfl
      have hgo : goB (P, [(P + s, ((2 : Int), (1 : Int)))]) to = true := by
        show (!decide (to < P) && (!decide (to > top) && !(decide ((([(P + s, ((2 : Int), (1 : Int)))] : List Tm).length : Int) > 0) && decide (P + s ≤ to)))) = true
        rw [dec_f (show ¬ to < P by omega), dec_f (show ¬ to > top by omega), dec_f (show ¬ P + s ≤ to by omega), Bool.and_false]; rfl
      have hgc : goC (P, [(P + s, ((2 : Int), (1 : Int)))]) to = (to, [(P + s, ((2 : Int), (1 : Int)))]) := by unfold goC; rw [hgo]; rfl
      have hdiv : IntKind.i64.wrap (Int.tdiv to s) = (n : Int) := by
        rw [Int.tdiv_eq_ediv_of_nonneg ht.1]
        have a1 : (n : Int) ≤ to / s := (Int.le_ediv_iff_mul_le (by omega)).2 (by rw [hP]; exact hn)
        have a2 : to / s < (n : Int) + 1 := (Int.ediv_lt_iff_lt_mul (by omega)).2 (by rw [Int.add_mul, hP, Int.one_mul]; omega)
        rw [w64 (by omega) (by omega)]; omega
      rw [lRounds.s1]
      refine (test_true hp1).trans ((cond_t (by rw [hdue]; rfl)).trans ?_)
      have hs0 : ¬ s = 0 := by omega
      rw [dec_f hs0, hnx, hdiv, hgo, hgc]
      refine (test_true rfl).trans ((cond_et rfl).trans ((test_true (show goTo.pre ((P, [(P + s, ((2 : Int), (1 : Int)))]), to, ()) = true from due_pre hc (by omega))).trans ((cond_t rfl).trans ?_)))
      have hc2 : Cok (to, [(P + s, ((2 : Int), (1 : Int)))]) 1 := cok_one ht.1 (by omega) (by show to ≤ P + s; omega) (by show P + s ≤ top; omega)
      exact (test_true (now_pre hc2 (by omega))).trans ((cond_et rfl).trans rfl)
    · obtain ⟨m, hm⟩ := rounds_loop s to hs ht d (n + 1) (by omega) (by rw [e1]; omega)
      rw [e1] at hm
      have hdue : dueB (P, [(P + s, ((2 : Int), (1 : Int)))]) to = true := by rw [hdue, dec_f hd]; rfl
      have hnx : nextC (P, [(P + s, ((2 : Int), (1 : Int)))]) to = (P + s, []) := by unfold nextC; rw [hdue]; rfl
      have hnt : nextT (P, [(P + s, ((2 : Int), (1 : Int)))]) to = (P + s, ((2 : Int), (1 : Int))) := by unfold nextT; rw [hdue]; rfl
      have hso := set_one (a := P + s) (t := (P + s + s, ((2 : Int), (1 : Int)))) (by show P + s ≤ P + s + s; omega) (by show P + s + s ≤ top; omega)
      have hce : Cok (P + s, []) 0 := cok_new (by omega) (by omega)
      refine ⟨m + 1, ?_⟩
      rw [lRounds.s1]
      refine (test_true hp1).trans ((cond_f (by rw [hdue]; rfl)).trans ?_)
      rw [hnt, hnx, w64s (by omega), e1]
      simp only
      rw [w64 (n := P + s) (by omega) (by omega), w64 (n := P + s + s) (by omega) (by omega), hso.1, hso.2]
      refine (cond_f (by simp)).trans ((cond_df (by omega)).trans ((test_true (put_pre hce (by omega) _)).trans ((cond_f rfl).trans ?_)))
      exact hm

theorem lRounds_R : lRounds.Law := fun x y hx => by
  have htop : top = 4611686018427387904 := rfl
  have hh : ∃ m, lRounds.go m x y = some (vb true, []) := by
    obtain ⟨s, hs, hse⟩ : ∃ s : Int, (1 ≤ s ∧ s ≤ 50) ∧ IntKind.i64.wrap (1 + IntKind.i64.wrap (Int.tmod (IntKind.u64.wrap x) 50)) = s := by
      have hk : 0 ≤ IntKind.u64.wrap x := (wrap_within .u64 x).1
      rw [Int.tmod_eq_emod_of_nonneg hk]
      have h2 := Int.emod_nonneg (IntKind.u64.wrap x) (show (50 : Int) ≠ 0 by omega)
      have h3 := Int.emod_lt_of_pos (IntKind.u64.wrap x) (show (0 : Int) < 50 by omega)
      refine ⟨1 + IntKind.u64.wrap x % 50, by omega, ?_⟩
      rw [w64 (n := IntKind.u64.wrap x % 50) (by omega) (by omega), w64 (by omega) (by omega)]
    obtain ⟨to, ht, hte⟩ : ∃ t : Int, (0 ≤ t ∧ t < 2000) ∧ IntKind.i64.wrap (Int.tmod (IntKind.u64.wrap y) 2000) = t := by
      have hk : 0 ≤ IntKind.u64.wrap y := (wrap_within .u64 y).1
      rw [Int.tmod_eq_emod_of_nonneg hk]
      have h2 := Int.emod_nonneg (IntKind.u64.wrap y) (show (2000 : Int) ≠ 0 by omega)
      have h3 := Int.emod_lt_of_pos (IntKind.u64.wrap y) (show (0 : Int) < 2000 by omega)
      refine ⟨IntKind.u64.wrap y % 2000, by omega, ?_⟩
      rw [w64 (by omega) (by omega)]
    obtain ⟨m, hm⟩ := rounds_loop s to hs ht 2001 0 (by omega) (by simp; omega)
    have ht0 : timeC 0 = 0 := by decide
    have hso := set_one (a := 0) (t := (s, ((2 : Int), (1 : Int)))) (by show 0 ≤ s; omega) (by show s ≤ top; omega)
    refine ⟨m + 1, ?_⟩
    rw [lRounds.start, hse, hte, ht0, hso.1, hso.2]
    refine (cond_f rfl).trans ?_
    have e : ((0 : Nat) : Int) * s = 0 := by simp
    rw [e, Int.zero_add] at hm
    exact hm
  obtain ⟨m, hm⟩ := hh
  exact lRounds.ret (awake_ok.cons' (now_ok.cons' SpecsOK.nil)) (new_ok.cons' (put_ok.cons' (due_ok.cons' (goTo_ok.cons' .nil)))) x y hm

end Go.Proofs.Ythlbiibholhkmaa
