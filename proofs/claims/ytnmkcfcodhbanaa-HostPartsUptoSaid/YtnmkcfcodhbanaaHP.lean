/-
  Hosts: who has a subset has each part of it.
-/
import Derived.Test.YtnmkcfcodhbanaaHL
import Derived.Test.YtnmkcfcodhbanaaHQ
import Derived.Test.YtnmkcfcodhbanaaU
namespace Go.Proofs.Ytnmkcfcodhbanaa
open Go VE

theorem hasB_append (h : El THost) (l m : List (El TPair)) : hasB h (l ++ m) = (hasB h l && hasB h m) := List.all_append
theorem hasB_own (h : El THost) : hasB h h.2.2.2.2.2 = true := by
  unfold hasB
  rw [List.all_eq_true]
  intro p hp
  rw [List.any_eq_true]
  exact ⟨p, hp, pairEq_self p⟩
theorem hasB_one {h : El THost} {l : List (El TPair)} (hh : hasB h l = true) {p : El TPair} (hp : p ∈ l) : hasB h [p] = true := by
  unfold hasB at *
  have := List.all_eq_true.1 hh p hp
  rw [List.all_cons, this]; rfl

theorem parts_loop (h : El THost) (l : List (El TPair)) (hh : fits THost h = true) (hl : fits (.sl TPair) l = true) : ∀ (n k : Nat), l.length = k + n →
    lParts.l1 (n + 1) l l l.length (k : Int) h.1 h.2.1 h.2.2.1 h.2.2.2.1 h.2.2.2.2.1 h.2.2.2.2.2 = some (vb true, [])
  | 0, k, hk => by
    rw [lParts.s1, cond_df (by omega)]; rfl
  | n + 1, k, hk => by
    have hb := fits_len' (n := 32) hl rfl
    have hr := reach_lt
    have hm := rdEl_mem (t := TPair) (show k < l.length by omega)
    have f1 : fits (.sl TPair) [rdEl TPair l k] = true := fits_sl (by show 1 * 32 ≤ _; simp [reachBytes]) fun e he => by
      rw [List.mem_singleton] at he; subst he; exact fits_mem hl hm
    have t1 : has.pre (h, l, ()) = true := by simpa [has.pre] using ⟨hh, hl⟩
    have t2 : has.pre (h, [rdEl TPair l k], ()) = true := by simpa [has.pre] using ⟨hh, f1⟩
    have ih := parts_loop h l hh hl n (k + 1) (by omega)
    rw [lParts.s1, cond_dt (by omega), test_d (by omega), test_d (by omega), toNat_cast, w64s (by omega), ih, test_true t1, test_true t2]
    cases hc : hasB h l with
    | false => rfl
    | true =>
      have h1 : hasB (h.1, h.2.1, h.2.2.1, h.2.2.2.1, h.2.2.2.2.1, h.2.2.2.2.2) [rdEl TPair l k] = true := hasB_one hc hm
      rw [h1]
      rfl

theorem lParts_R : lParts.Law := fun h l m hx => by
  have hh : fits THost h = true ∧ fits (.sl TPair) l = true ∧ fits (.sl TPair) m = true ∧ l.length ≤ 1073741824 ∧ m.length ≤ 1073741824 := by
    have : (fits THost h && (fits (.sl TPair) l && (fits (.sl TPair) m && ((decide (List.length l ≤ 1073741824) && decide (List.length m ≤ 1073741824)) && true)))) = true := hx
    simpa using this
  obtain ⟨hh, hl, hm, hl2, hm2⟩ := hh
  have hlim : lim 32 = 4398046511104 := by simp [lim]
  have hr : reachBytes = 140737488351232 := rfl
  have hboth : fits (.sl TPair) (l ++ m) = true := fits_sl (by
    rw [List.length_append]
    have e : bytesTy TPair = 32 := rfl
    rw [e, hr]
    omega) fun e he => (List.mem_append.1 he).elim (fits_mem hl) (fits_mem hm)
  refine lParts.ret (light_ok.cons' (awake_ok.cons' (has_ok.cons' SpecsOK.nil))) h l m (m := l.length + 2) ?_
  have key := parts_loop h l hh hl l.length 0 (by omega)
  have key : lParts.l1 (l.length + 1) l l l.length 0 h.1 h.2.1 h.2.2.1 h.2.2.2.1 h.2.2.2.2.1 h.2.2.2.2.2 = some (vb true, []) := key
  have p1 : ∀ {q : List (El TPair)}, fits (.sl TPair) q = true → has.pre (h, q, ()) = true := fun hq => by simpa [has.pre] using ⟨hh, hq⟩
  rw [lParts.start, test_true (by simpa [light.pre] using hh), test_true (by simpa [light.pre] using fits_bare hl), test_true (by simpa [light.pre] using fits_bare hm), List.nil_append, key,
    test_d (by rw [List.length_nil, hlim]; omega), test_d (by rw [hlim]; omega), test_true (p1 hboth), test_true (p1 hl), test_true (p1 hm), hasB_append, hasB_own,
    test_true (p1 (fits_host hh).2.2), test_true (p1 (q := []) rfl)]
  cases hasB h l <;> cases hasB h m <;> first
    | (simp only [Bool.and_true, Bool.and_false, Bool.true_and, Bool.false_and, cond_true, cond_false, beq_self_eq_true, Bool.not_true, Bool.not_false]
       cases decide (IntKind.i64.wrap (IntKind.i64.wrap (lightI h + lightI (0, (⟨#[]⟩ : ByteArray), 0, (⟨#[]⟩ : ByteArray), 0, l)) + lightI (0, (⟨#[]⟩ : ByteArray), 0, (⟨#[]⟩ : ByteArray), 0, m)) > 0) <;> rfl)

theorem lParts_pre (h : El THost) (l m : List (El TPair)) (hx : wfsB 8589934592 [(true, THost), (false, .sl TPair), (false, .sl TPair)] (h, l, m, ())) : lParts.pre (h, l, m, ()) = true := by
  obtain ⟨h1, h2, h3, _⟩ := hx
  have e : bytesTy TPair = 32 := rfl
  have b2 : l.length * 32 ≤ 8589934592 := h2.1
  have b3 : m.length * 32 ≤ 8589934592 := h3.1
  show (fits THost h && (fits (.sl TPair) l && (fits (.sl TPair) m && ((decide (List.length l ≤ 1073741824) && decide (List.length m ≤ 1073741824)) && true)))) = true
  rw [fits_of_wf _ _ (wfB_mono (by simp [reachBytes]) _ _ h1), fits_of_wf _ _ (wfB_mono (by simp [reachBytes]) _ _ h2), fits_of_wf _ _ (wfB_mono (by simp [reachBytes]) _ _ h3), dec_t (by omega), dec_t (by omega)]
  rfl

end Go.Proofs.Ytnmkcfcodhbanaa
