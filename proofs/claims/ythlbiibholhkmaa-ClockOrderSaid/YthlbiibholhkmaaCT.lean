/-
  Timers: time goes on, and none is past.
-/
import Derived.Test.YthlbiibholhkmaaCP
import Derived.Test.YthlbiibholhkmaaCG
import Derived.Laws.Closers25b
namespace Go.Proofs.Ythlbiibholhkmaa
open Go VE

theorem now_pre {c : El TClock} {k : Nat} (h : Cok c k) (hk : k ≤ 1000) : now.pre (c, ()) = true := by
  show (fits TClock c && true) = true
  rw [h.fits hk]; rfl
theorem due_pre {c : El TClock} {k : Nat} (h : Cok c k) (hk : k ≤ 1000) : (fits TClock c && (true && true)) = true := by rw [h.fits hk]; rfl
theorem put_pre {c : El TClock} {k : Nat} (h : Cok c k) (hk : k ≤ 1000) (t : El TTimer) : put.pre (c, t, ()) = true := by
  have hl := h.len
  show (fits TClock c && (fits TTimer t && ((risesT (cutT c.2 t.2.1 t.2.2) && decide (List.length c.2 ≤ 1000000)) && true))) = true
  rw [h.fits hk, h.rises, dec_t (show List.length c.2 ≤ 1000000 by omega)]; rfl

theorem time_tail {c : El TClock} {k : Nat} (h : Cok c k) (hk : k ≤ 1000) {x : Int} (hx : x ≤ c.1) {F1 F2 X r : R} (hX : X = r) :
    test (now.pre (c, ())) (cond (decide (c.1 < x)) F1 (test (now.pre (c, ())) (cond (decide (c.1 > (4611686018427387904 : Int))) F2 (test (allT.pre (c, ())) X)))) = r := by
  have hi : c.1 ≤ 4611686018427387904 := h.hi
  rw [test_true (now_pre h hk), cond_df (Int.not_lt.2 hx), test_true (now_pre h hk), cond_df (Int.not_lt.2 hi), test_true (show allT.pre (c, ()) = true from now_pre h hk)]
  exact hX

theorem time_in {c : El TClock} {k : Nat} (h : Cok c k) (hk : k ≤ 1000) (l : List (Int × El TTimer)) (n p : Int) {r : R} (K : ∃ m, lTime.l1 m l n (IntKind.i64.wrap (p + 1)) c.1 c.2 = r) : ∀ (d j : Nat), c.2.length = j + d → ∃ m, lTime.l2 m l n p c.2 c.2.length j c.1 c.2 = r
  | 0, j, hj => by
    obtain ⟨m, hm⟩ := K
    exact ⟨m + 1, by rw [lTime.s2, cond_df (by omega)]; exact hm⟩
  | d + 1, j, hj => by
    obtain ⟨m, hm⟩ := time_in h hk l n p K d (j + 1) (by omega)
    have hl := h.len
    have hlt : j < c.2.length := by omega
    have he : rdEl TTimer c.2 j = c.2[j] := by simp [rdEl, List.getD, hlt]
    have hm1 : c.1 ≤ (rdEl TTimer c.2 j).1 := by rw [he]; exact (h.mem _ (List.getElem_mem hlt)).1
    refine ⟨m + 1, ?_⟩
    rw [lTime.s2, cond_dt (by omega), test_d (by omega), test_d (by omega), toNat_cast, w64s (by omega)]
    refine (test_true (now_pre h hk)).trans ((cond_f (dec_f ?_)).trans hm)
    exact Int.not_lt.2 hm1

theorem time_loop (l : List (Int × El TTimer)) (h150 : l.length ≤ 150) : ∀ (d p : Nat) (c : El TClock), l.length = p + d → Cok c p → ∃ m, lTime.l1 m l l.length p c.1 c.2 = some (vb true, [])
  | 0, p, c, h, hc => ⟨1, by rw [lTime.s1, cond_df (by omega)]; rfl⟩
  | d + 1, p, c, h, hc => by
    have ih : ∀ c' : El TClock, Cok c' (p + 1) → ∃ m, lTime.l2 m l l.length p c'.2 c'.2.length 0 c'.1 c'.2 = some (vb true, []) := fun c' hc' =>
      time_in hc' (by omega) l l.length p (by rw [w64s (by omega)]; exact time_loop l h150 d (p + 1) c' (by omega) hc') c'.2.length 0 (by omega)
    obtain ⟨x, hx⟩ : ∃ x, rdEl (.prod (.int .i64) TTimer) l p = x := ⟨_, rfl⟩
    have hc1 := hc.mono (show p ≤ p + 1 by omega)
    by_cases h0 : x.1 = 0
    · have hc2 := hc.put x.2
      obtain ⟨m, hm⟩ := ih _ hc2
      have e1 : (setC c x.2).1 = c.1 := by unfold setC; cases setOk c x.2 <;> rfl
      refine ⟨m + 1, ?_⟩
      rw [lTime.s1, cond_dt (by omega), test_d (by omega), test_d (by omega), toNat_cast, hx]
      refine (test_true (now_pre hc (by omega))).trans ((cond_et h0).trans ((test_true (put_pre hc (by omega) x.2)).trans ?_))
      have T := fun (F1 F2 : R) => time_tail (F1 := F1) (F2 := F2) hc2 (by omega) (show c.1 ≤ (setC c x.2).1 by rw [e1]; exact Int.le_refl _) hm
      cases hs : setOk (c.1, c.2) x.2 with
      | false => exact T _ _
      | true =>
        have hs' := hs
        unfold setOk at hs'
        simp only [Bool.and_eq_true, Bool.not_eq_true', decide_eq_false_iff_not] at hs'
        exact (cond_f (dec_f hs'.1)).trans (T _ _)
    by_cases h1 : x.1 = 2
    · have hc2 := hc1.due x.2.1
      obtain ⟨m, hm⟩ := ih _ hc2
      refine ⟨m + 1, ?_⟩
      rw [lTime.s1, cond_dt (by omega), test_d (by omega), test_d (by omega), toNat_cast, hx]
      refine (test_true (now_pre hc (by omega))).trans ((cond_ef h0).trans ((cond_et h1).trans ((test_true (show due.pre (c, x.2.1, ()) = true from due_pre hc (by omega))).trans ?_)))
      have hle : c.1 ≤ (nextC c x.2.1).1 := by
        unfold nextC
        cases hs : dueB c x.2.1 with
        | false => exact Int.le_refl _
        | true =>
          obtain ⟨n, q⟩ := c
          cases q with
          | nil => exact absurd hs (by simp [dueB])
          | cons a q => exact (hc.mem a (List.mem_cons_self ..)).1
      have T := fun (F1 F2 : R) => time_tail (F1 := F1) (F2 := F2) hc2 (by omega) hle hm
      cases hs : dueB (c.1, c.2) x.2.1 with
      | false => exact T _ _
      | true =>
        have hs' := hs
        unfold dueB at hs'
        simp only [Bool.and_eq_true, Bool.not_eq_true', decide_eq_false_iff_not] at hs'
        refine (cond_f (dec_f ?_)).trans (T _ _)
        unfold nextT
        rw [hs]
        exact hs'.2
    · have hc2 := hc1.goTo x.2.1
      obtain ⟨m, hm⟩ := ih _ hc2
      refine ⟨m + 1, ?_⟩
      rw [lTime.s1, cond_dt (by omega), test_d (by omega), test_d (by omega), toNat_cast, hx]
      refine (test_true (now_pre hc (by omega))).trans ((cond_ef h0).trans ((cond_ef h1).trans ((test_true (show goTo.pre (c, x.2.1, ()) = true from due_pre hc (by omega))).trans ?_)))
      have hle : c.1 ≤ (goC c x.2.1).1 := by
        unfold goC
        cases hs : goB c x.2.1 with
        | false => exact Int.le_refl _
        | true =>
          unfold goB at hs
          simp only [Bool.and_eq_true, Bool.not_eq_true', decide_eq_false_iff_not] at hs
          exact Int.not_lt.1 hs.1
      have T := fun (F1 F2 : R) => time_tail (F1 := F1) (F2 := F2) hc2 (by omega) hle hm
      cases hs : goB (c.1, c.2) x.2.1 with
      | false => exact T _ _
      | true =>
        refine (test_true (now_pre hc2 (by omega))).trans ((cond_f ?_).trans (T _ _))
        have e : (goC (c.1, c.2) x.2.1).1 = x.2.1 := by unfold goC; rw [hs]; rfl
        rw [e]; simp

theorem lTime_R : lTime.Law := fun l hx => by
  have hh : ∃ m, lTime.go m l = some (vb true, []) := by
    by_cases h1 : (l.length : Int) > 150
    · exact ⟨1, by rw [lTime.start, cond_dt h1]; rfl⟩
    · obtain ⟨m, hm⟩ := time_loop l (by omega) l.length 0 (timeC 100, []) (by omega) (cok_new (by decide) (by decide))
      exact ⟨m + 1, by rw [lTime.start, cond_df h1]; exact hm⟩
  obtain ⟨m, hm⟩ := hh
  exact lTime.ret (awake_ok.cons' (now_ok.cons' SpecsOK.nil)) (new_ok.cons' (put_ok.cons' (due_ok.cons' (goTo_ok.cons' (allT_ok.cons' .nil))))) l hm

end Go.Proofs.Ythlbiibholhkmaa
