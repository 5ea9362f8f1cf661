/-
  Hosts: the copy may be spoilt, the host is not; with any field turned it is another host.
-/
import Derived.Test.YtnmkcfcodhbanaaHL
import Derived.Test.YtnmkcfcodhbanaaHS
import Derived.Test.YtnmkcfcodhbanaaU
import Derived.Laws.Closers25b
namespace Go.Proofs.Ytnmkcfcodhbanaa
open Go VE

/-- An empty slice is nil, or it is not: where boxes come back. -/
theorem returnsO_nil {P : Program} {g : FuncId} {t : Ty} {res : IV} {b : List (Nat × Box)} (h0 : VE.ReturnsO P g [.c (.v (.slice none 0 0))] [] res b) (h1 : VE.ReturnsO P g [.c .emp] [] res b) : VE.ReturnsO P g [.c (.sl t [])] [] res b := by
  intro w us M O x hx hus ha
  have h := iv_c (ha 0 _ rfl)
  generalize hv : us.getD 0 undef = V at h
  cases h with
  | sl _ _ a cap rd hcap hnil hcell hel =>
    cases a with
    | none =>
      have hc := hnil rfl
      subst hc
      refine h0 w us M O x hx hus fun j c hc => ?_
      cases j with
      | zero => simp at hc; subst hc; rw [hv]; exact .c _ _ (.v _ rfl)
      | succ j => simp at hc
    | some a =>
      refine h1 w us M O x hx hus fun j c hc => ?_
      cases j with
      | zero => simp at hc; subst hc; rw [hv]; exact .c _ _ (.emp a cap)
      | succ j => simp at hc

theorem cloneO_ok : cloneO.OK := cloneO.mkR fun l hx => by
  have hl : fits (.sl TPair) l = true := by
    have h : (fits (.sl TPair) l && true) = true := hx
    simpa using h
  cases l with
  | nil => exact returnsO_nil (cloneON.ret SpecsOK.nil (m := 1) (cloneON.start 0)) (cloneOE.ret SpecsOK.nil (m := 1) (cloneOE.start 0))
  | cons a l => exact cloneOC.ret SpecsOK.nil a l (m := 1) (by rw [cloneOC.start, test_d (by simpa using lim32 hl)]; rfl)

theorem copyO_ok : copyO.OK := copyO.mk .nil (cloneO_ok.cons' .nil) fun h hx => by
  have hh : fits THost h = true := by
    have h' : (fits THost h && true) = true := hx
    simpa using h'
  refine ⟨1, ?_⟩
  rw [copyO.start, test_true (show cloneO.pre (h.2.2.2.2.2, ()) = true by
    show (fits (.sl TPair) h.2.2.2.2.2 && true) = true
    rw [(fits_host hh).2.2]; rfl)]
  rfl

theorem copyRO_ok : copyRO.OK := copyRO.mk .nil fun h hx => by
  have hh : fits THost h = true := by
    have h' : (fits THost h && true) = true := hx
    simpa using h'
  have hb := fits_len' (n := 32) (fits_host hh).2.2 rfl
  have hr := reach_lt
  refine ⟨1, ?_⟩
  rw [copyRO.start, test_d (by simp only [lim]; omega)]
  rfl

/-! ### the copy may be spoilt -/

theorem spoil_loop (h : El THost) (s : ByteArray) (hh : fits THost h = true) (len : Nat) (hlen : len < 9223372036854775806) : ∀ (n k : Nat) (cs : List (El TPair)), len = k + n → cs.length = len →
    lCopies.l1 (n + 1) s len k h.1 h.2.1 h.2.2.1 h.2.2.2.1 h.2.2.2.2.1 h.2.2.2.2.2 h.1 h.2.1 h.2.2.1 h.2.2.2.1 h.2.2.2.2.1 h.2.2.2.2.2 h.1 h.2.1 h.2.2.1 h.2.2.2.1 h.2.2.2.2.1 cs = some (vb true, [])
  | 0, k, cs, hk, hc => by
    rw [lCopies.s1, cond_df (by omega)]
    refine (test_true (show sameR.pre (h, h, ()) = true by simpa [sameR.pre] using hh)).trans ?_
    refine (cond_t (show sameB h h = true from sameB_self h)).trans rfl
  | n + 1, k, cs, hk, hc => by
    rw [lCopies.s1, cond_dt (by omega), test_d (by omega), test_d (by omega), w64s (by omega), toNat_cast]
    exact spoil_loop h s hh len hlen n (k + 1) _ (by omega) (by rw [List.length_set]; exact hc)

theorem lCopies_R : lCopies.Law := fun h s hx => by
  have hx' : (fits THost h && (fits .str s && true)) = true := hx
  simp only [Bool.and_eq_true] at hx'
  have hh := hx'.1
  have hb := fits_len' (n := 32) (fits_host hh).2.2 rfl
  have hr := reach_lt
  refine lCopies.ret (light_ok.cons' (awake_ok.cons' (copyR_ok.cons' (sameR_ok.cons' .nil)))) (copyO_ok.cons' .nil) h s (m := h.2.2.2.2.2.length + 2) ?_
  rw [lCopies.start, test_true (show light.pre (h, ()) = true by simpa [light.pre] using hh)]
  by_cases h1 : lightI h > 0
  · rw [cond_dt h1]; rfl
  rw [cond_df h1]
  by_cases h2 : (s.size : Int) > 50
  · rw [cond_dt h2]; rfl
  rw [cond_df h2, test_true (show copyR.pre (h, ()) = true by simpa [copyR.pre] using hh), test_true (show copyO.pre (h, ()) = true by
    show (fits THost h && true) = true
    rw [hh]; rfl)]
  exact spoil_loop h s hh h.2.2.2.2.2.length (by omega) h.2.2.2.2.2.length 0 _ (by omega) rfl

/-! ### any field turned -/

def turned (a x : Int) : Int := IntKind.i64.wrap ((BitVec.toNat ((BitVec.ofInt (Go.IntKind.bits Go.IntKind.i64) a) ^^^ (BitVec.ofInt (Go.IntKind.bits Go.IntKind.i64) x))) : Int)

theorem ofInt_wrap (n : Nat) (h : n < 18446744073709551616) : (BitVec.ofInt 64 (IntKind.i64.wrap (n : Int))).toNat = n := by
  rw [BitVec.toNat_ofInt, IntKind.wrap_i64]
  have : ((2 ^ 64 : Nat) : Int) = 18446744073709551616 := rfl
  rw [this]
  omega

theorem turned_ne {a x : Int} (h0 : x ≠ 0) (h1 : -9223372036854775808 ≤ x) (h2 : x ≤ 9223372036854775807) : turned a x ≠ a := by
  intro h
  have e1 : BitVec.ofInt 64 (turned a x) = BitVec.ofInt 64 a ^^^ BitVec.ofInt 64 x := by
    apply BitVec.eq_of_toNat_eq
    exact ofInt_wrap _ (BitVec.isLt _)
  rw [h] at e1
  have e2 : BitVec.ofInt 64 x = 0#64 := by
    have := congrArg (BitVec.ofInt 64 a ^^^ ·) e1
    simp only [BitVec.xor_self, ← BitVec.xor_assoc, BitVec.zero_xor] at this
    exact this.symm
  have e3 := congrArg BitVec.toNat e2
  rw [BitVec.toNat_ofInt] at e3
  have : ((2 ^ 64 : Nat) : Int) = 18446744073709551616 := rfl
  rw [this] at e3
  simp at e3
  omega

theorem str_ne {a b : ByteArray} (hb : 0 < b.size) : ((a ++ b).toList == a.toList) = false := by
  rw [beq_eq_false_iff_ne]
  intro h
  rw [ByteArray.toList_eq, ByteArray.toList_eq] at h
  have h1 := congrArg List.length h
  rw [Array.length_toList, Array.length_toList] at h1
  have h2 : (a ++ b).size = a.size + b.size := by simp [ByteArray.size_append]
  have h3 : (a ++ b).data.size = (a ++ b).size := rfl
  have h4 : a.data.size = a.size := rfl
  omega

theorem beq_comm_int (a b : Int) : (a == b) = (b == a) := by
  rw [Bool.eq_iff_iff, beq_iff_eq, beq_iff_eq]; exact eq_comm

theorem lTurned_R : lTurned.Law := fun h x hx => by
  have hx' : (fits THost h && (fits (.int .i64) x && (decide (h.2.1.size ≤ 8589934592 ∧ h.2.2.2.1.size ≤ 8589934592 ∧ List.length h.2.2.2.2.2 ≤ 268435456 ∧ -9223372036854775808 ≤ x ∧ x ≤ 9223372036854775807) && true))) = true := hx
  simp only [Bool.and_eq_true, decide_eq_true_eq] at hx'
  obtain ⟨hh, _, ⟨s1, s2, s3, s4, s5⟩, _⟩ := hx'
  refine lTurned.ret (light_ok.cons' (awake_ok.cons' (same_ok.cons' .nil))) (copyRO_ok.cons' .nil) h x (m := 1) ?_
  rw [lTurned.start, test_true (show light.pre (h, ()) = true by simpa [light.pre] using hh)]
  by_cases h1 : lightI h > 0
  · rw [cond_dt h1]; rfl
  rw [cond_df h1]
  by_cases h2 : x = 0
  · rw [cond_et h2]; rfl
  rw [cond_ef h2, test_true (show copyRO.pre (h, ()) = true by
    show (fits THost h && true) = true
    rw [hh]; rfl)]
  obtain ⟨id, addr, prio, zone, weight, meta_⟩ := h
  simp only at s1 s2 s3
  have hr : reachBytes = 140737488351232 := rfl
  have hlim : lim 32 = 4398046511104 := by simp [lim]
  obtain ⟨f1, f2, f3⟩ := fits_host hh
  simp only at f1 f2 f3
  have z1 : (⟨#[120]⟩ : ByteArray).size = 1 := rfl
  have z2 : (⟨#[122]⟩ : ByteArray).size = 1 := rfl
  have g1 : fits .str (addr ++ (⟨#[120]⟩ : ByteArray)) = true := fits_str' (by rw [ByteArray.size_append, z1, hr]; omega)
  have g2 : fits .str (zone ++ (⟨#[122]⟩ : ByteArray)) = true := fits_str' (by rw [ByteArray.size_append, z2, hr]; omega)
  have g3 : fits (.sl TPair) (meta_ ++ [((⟨#[109, 111, 114, 101]⟩ : ByteArray), (⟨#[109]⟩ : ByteArray))]) = true := fits_sl (t := TPair) (by
    have e : bytesTy TPair = 32 := rfl
    rw [e, hr, List.length_append, List.length_cons, List.length_nil]; omega) fun e he => by
    rcases List.mem_append.1 he with he | he
    · exact fits_mem f3 he
    · rw [List.mem_singleton] at he
      subst he
      kernel_rfl
  have mk : ∀ (i : Int) (a : ByteArray) (p : Int) (z : ByteArray) (w : Int) (l : List (El TPair)), fits .str a = true → fits .str z = true → fits (.sl TPair) l = true → fits THost (i, a, p, z, w, l) = true := fun i a p z w l ha hz hl =>
    fits_mk (a := .int .i64) rfl (fits_mk ha (fits_mk (a := .int .i64) rfl (fits_mk hz (fits_mk (a := .int .i64) rfl hl))))
  have sp : ∀ {a b : El THost}, fits THost a = true → fits THost b = true → same.pre (a, b, ()) = true := fun ha hb => by simpa [same.pre] using ⟨ha, hb⟩
  rw [test_d (by rw [z1]; show addr.size + 1 ≤ _; omega), test_d (by rw [z2]; show zone.size + 1 ≤ _; omega), test_d (by rw [hlim, List.length_cons, List.length_nil]; show meta_.length + 1 ≤ _; omega)]
  have n1 : sameB (id, addr, prio, zone, weight, meta_) (turned id x, addr, prio, zone, weight, meta_) = false := by
    show ((id == turned id x) && _) = false
    rw [beq_eq_false_iff_ne.2 (turned_ne h2 s4 s5).symm]; rfl
  have n2 : sameB (id, addr ++ (⟨#[120]⟩ : ByteArray), prio, zone, weight, meta_) (id, addr, prio, zone, weight, meta_) = false := by
    show ((id == id) && (((addr ++ (⟨#[120]⟩ : ByteArray)).toList == addr.toList) && _)) = false
    rw [str_ne (by decide)]; simp
  have n3 : sameB (id, addr, prio, zone, weight, meta_) (id, addr, turned prio x, zone, weight, meta_) = false := by
    show ((id == id) && ((addr.toList == addr.toList) && ((prio == turned prio x) && _))) = false
    rw [beq_eq_false_iff_ne.2 (turned_ne h2 s4 s5).symm]; simp
  have n4 : sameB (id, addr, prio, zone ++ (⟨#[122]⟩ : ByteArray), weight, meta_) (id, addr, prio, zone, weight, meta_) = false := by
    show ((id == id) && ((addr.toList == addr.toList) && ((prio == prio) && (((zone ++ (⟨#[122]⟩ : ByteArray)).toList == zone.toList) && _)))) = false
    rw [str_ne (by decide)]; simp
  have n5 : sameB (id, addr, prio, zone, weight, meta_) (id, addr, prio, zone, weight, meta_ ++ [((⟨#[109, 111, 114, 101]⟩ : ByteArray), (⟨#[109]⟩ : ByteArray))]) = false := by
    show ((id == id) && ((addr.toList == addr.toList) && ((prio == prio) && ((zone.toList == zone.toList) && ((weight == weight) && samePs meta_ (meta_ ++ _)))))) = false
    rw [samePs_len _ _ (by simp)]; simp
  have n6 : sameB (id, addr, prio, zone, turned weight x, meta_) (id, addr, prio, zone, weight, meta_) = false := by
    show ((id == id) && ((addr.toList == addr.toList) && ((prio == prio) && ((zone.toList == zone.toList) && ((turned weight x == weight) && _))))) = false
    rw [beq_eq_false_iff_ne.2 (turned_ne h2 s4 s5)]; simp
  have c6 : ∀ {A B : R}, cond (!false) A B = A := rfl
  refine (test_true (sp hh (mk _ _ _ _ _ _ f1 f2 f3))).trans ?_
  refine (cond_t (show (!(sameB (id, addr, prio, zone, weight, meta_) (turned id x, addr, prio, zone, weight, meta_))) = true by rw [n1]; rfl)).trans ?_
  refine (test_true (sp (mk _ _ _ _ _ _ g1 f2 f3) hh)).trans ?_
  refine (cond_t (show (!(sameB (id, addr ++ (⟨#[120]⟩ : ByteArray), prio, zone, weight, meta_) (id, addr, prio, zone, weight, meta_))) = true by rw [n2]; rfl)).trans ?_
  refine (test_true (sp hh (mk _ _ _ _ _ _ f1 f2 f3))).trans ?_
  refine (cond_t (show (!(sameB (id, addr, prio, zone, weight, meta_) (id, addr, turned prio x, zone, weight, meta_))) = true by rw [n3]; rfl)).trans ?_
  refine (test_true (sp (mk _ _ _ _ _ _ f1 g2 f3) hh)).trans ?_
  refine (cond_t (show (!(sameB (id, addr, prio, zone ++ (⟨#[122]⟩ : ByteArray), weight, meta_) (id, addr, prio, zone, weight, meta_))) = true by rw [n4]; rfl)).trans ?_
  refine (test_true (sp hh (mk _ _ _ _ _ _ f1 f2 g3))).trans ?_
  refine (cond_t (show (!(sameB (id, addr, prio, zone, weight, meta_) (id, addr, prio, zone, weight, meta_ ++ [((⟨#[109, 111, 114, 101]⟩ : ByteArray), (⟨#[109]⟩ : ByteArray))]))) = true by rw [n5]; rfl)).trans ?_
  refine (test_true (sp (mk _ _ _ _ _ _ f1 f2 f3) hh)).trans ?_
  refine (cond_t (show (!(sameB (id, addr, prio, zone, turned weight x, meta_) (id, addr, prio, zone, weight, meta_))) = true by rw [n6]; rfl)).trans ?_
  refine (test_true (sp hh hh)).trans ?_
  exact (cond_t (sameB_self _)).trans rfl

theorem lTurned_pre (h : El THost) (x : Int) (hx : wfsB 8589934592 [(true, THost), (false, .int .i64)] (h, x, ())) : lTurned.pre (h, x, ()) = true := by
  obtain ⟨h1, h2, _⟩ := hx
  have b1 : h.2.1.size ≤ 8589934592 := h1.2.1
  have b2 : h.2.2.2.1.size ≤ 8589934592 := h1.2.2.2.1
  have b3 : List.length h.2.2.2.2.2 * 32 ≤ 8589934592 := h1.2.2.2.2.2.1
  have b4 : -9223372036854775808 ≤ x ∧ x ≤ 9223372036854775807 := h2
  show (fits THost h && (fits (.int .i64) x && (decide (h.2.1.size ≤ 8589934592 ∧ h.2.2.2.1.size ≤ 8589934592 ∧ List.length h.2.2.2.2.2 ≤ 268435456 ∧ -9223372036854775808 ≤ x ∧ x ≤ 9223372036854775807) && true))) = true
  rw [fits_of_wf _ _ (wfB_mono (by simp [reachBytes]) _ _ h1), dec_t ⟨b1, b2, by omega, b4.1, b4.2⟩]
  rfl

end Go.Proofs.Ytnmkcfcodhbanaa
