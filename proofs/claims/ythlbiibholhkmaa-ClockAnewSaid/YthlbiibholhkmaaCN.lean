/-
  Timers: set anew it goes off but once.
-/
import Derived.Test.YthlbiibholhkmaaCT
namespace Go.Proofs.Ythlbiibholhkmaa
open Go VE

def turned (a x : Int) : Int := IntKind.i64.wrap ((BitVec.toNat ((BitVec.ofInt (Go.IntKind.bits Go.IntKind.i64) a) ^^^ (BitVec.ofInt (Go.IntKind.bits Go.IntKind.i64) x))) : Int)

theorem ofInt_wrap (n : Nat) (h : n < 18446744073709551616) : (BitVec.ofInt 64 (IntKind.i64.wrap (n : Int))).toNat = n := by
  rw [BitVec.toNat_ofInt, IntKind.wrap_i64]
  have : ((2 ^ 64 : Nat) : Int) = 18446744073709551616 := rfl
  rw [this]
  omega

theorem turned_ne {a x : Int} (h0 : x ≠ 0) (h1 : -9223372036854775808 ≤ x) (h2 : x ≤ 9223372036854775807) : turned a x ≠ a := by
  intro h
  have e1 : BitVec.ofInt 64 (turned a x) = BitVec.ofInt 64 a ^^^ BitVec.ofInt 64 x := by
    apply BitVec.eq_of_toNat_eq
    exact ofInt_wrap _ (BitVec.isLt _)
  rw [h] at e1
  have e2 : BitVec.ofInt 64 x = 0#64 := by
    have := congrArg (BitVec.ofInt 64 a ^^^ ·) e1
    simp only [BitVec.xor_self, ← BitVec.xor_assoc, BitVec.zero_xor] at this
    exact this.symm
  have e3 := congrArg BitVec.toNat e2
  rw [BitVec.toNat_ofInt] at e3
  have : ((2 ^ 64 : Nat) : Int) = 18446744073709551616 := rfl
  rw [this] at e3
  simp at e3
  omega


theorem when_pre {c : El TClock} {k : Nat} (h : Cok c k) (hk : k ≤ 1000) : (fits TClock c && (true && (true && true))) = true := by rw [h.fits hk]; rfl

theorem ix_first {k i : Int} {a : Tm} {l : List Tm} (h : keyK k i a = true) : ixOf (keyK k i) (a :: l) = 0 := by simp [ixOf, ixF, h]
theorem ix_second {k i : Int} {a b : Tm} {l : List Tm} (h : keyK k i a = false) (h2 : keyK k i b = true) : ixOf (keyK k i) (a :: b :: l) = 1 := by simp [ixOf, ixF, h, h2]

/-- The other timer; or this one, too. -/
def Two (kind k2 id : Int) (c : El TClock) (last : Int) : Prop :=
  c.1 = 0 ∧ Cok c 2 ∧ ((c.2 = [(77, k2, id)] ∧ last = -1) ∨ (0 ≤ last ∧ (c.2 = [(last, kind, id), (77, k2, id)] ∨ c.2 = [(77, k2, id), (last, kind, id)])))

theorem two_drop {kind k2 id : Int} (hne : k2 ≠ kind) {c : El TClock} {last : Int} (h : Two kind k2 id c last) : cutT c.2 kind id = [(77, k2, id)] := by
  obtain ⟨_, hc, h⟩ := h
  rw [cut_drop hc.key]
  have ho : keyK kind id (77, k2, id) = false := by simp [keyK, hne]
  have ht : keyK kind id (last, kind, id) = true := by simp [keyK]
  unfold dropK
  rcases h with ⟨h, _⟩ | ⟨_, h | h⟩ <;> rw [h] <;> simp [ho, ht]

theorem two_other {kind k2 id : Int} (hne : k2 ≠ kind) {c : El TClock} {last : Int} (h : Two kind k2 id c last) : hasK c.2 k2 id = true ∧ atI c k2 id = 77 := by
  obtain ⟨_, hc, h⟩ := h
  have ho : keyK k2 id (77, k2, id) = true := by simp [keyK]
  have ht : keyK k2 id (last, kind, id) = false := by simp [keyK, Ne.symm hne]
  have hh : hasK c.2 k2 id = true := by
    rw [hasK_any]
    rcases h with ⟨h, _⟩ | ⟨_, h | h⟩ <;> rw [h] <;> simp [ho, ht]
  refine ⟨hh, ?_⟩
  unfold atI
  rw [hh, cond_true]
  rcases h with ⟨h, _⟩ | ⟨_, h | h⟩
  · rw [h, ix_first ho]; rfl
  · rw [h, ix_second ht ho]; rfl
  · rw [h, ix_first ho]; rfl

theorem two_set {kind k2 id : Int} (hne : k2 ≠ kind) {c : El TClock} {last x : Int} (h : Two kind k2 id c last) (hx : 0 ≤ x ∧ x < 1000) :
    setOk c (x, kind, id) = true ∧ Two kind k2 id (setC c (x, kind, id)) x ∧ hasK (setC c (x, kind, id)).2 kind id = true ∧ atI (setC c (x, kind, id)) kind id = x ∧ (setC c (x, kind, id)).2.length = 2 := by
  have hd := two_drop hne h
  obtain ⟨h0, hc, _⟩ := h
  have htop : top = 4611686018427387904 := rfl
  have e : setOk c (x, kind, id) = true := by
    unfold setOk
    rw [dec_f (show ¬ x < c.1 by rw [h0]; exact Int.not_lt.2 hx.1), dec_f (show ¬ x > top by omega)]; rfl
  have ho : keyK kind id (77, k2, id) = false := by simp [keyK, hne]
  have ht : keyK kind id (x, kind, id) = true := by simp [keyK]
  have hs : (setC c (x, kind, id)).2 = [(x, kind, id), (77, k2, id)] ∨ (setC c (x, kind, id)).2 = [(77, k2, id), (x, kind, id)] := by
    unfold setC
    rw [e, cond_true]
    show putIn (cutT c.2 kind id) (placeT (cutT c.2 kind id) (x, kind, id)) (x, kind, id) = _ ∨ putIn (cutT c.2 kind id) (placeT (cutT c.2 kind id) (x, kind, id)) (x, kind, id) = _
    rw [hd]
    have hp := place_le [((77 : Int), k2, id)] (x, kind, id)
    generalize placeT [((77 : Int), k2, id)] (x, kind, id) = p at hp
    have hp : p ≤ 1 := hp
    match p, hp with
    | 0, _ => exact .inl rfl
    | 1, _ => exact .inr rfl
  have hlen : (setC c (x, kind, id)).2.length = 2 := by rcases hs with hs | hs <;> rw [hs] <;> rfl
  have hput := hc.put (x, kind, id)
  have hC : Cok (setC c (x, kind, id)) 2 := ⟨hput.lo, hput.hi, hput.mem, hput.asc, hput.key, by rw [hlen]; exact Nat.le_refl _⟩
  have h1 : (setC c (x, kind, id)).1 = 0 := by unfold setC; rw [e]; exact h0
  have hhas : hasK (setC c (x, kind, id)).2 kind id = true := by
    rw [hasK_any]
    rcases hs with hs | hs <;> rw [hs] <;> simp [ho, ht]
  refine ⟨e, ⟨h1, hC, .inr ⟨hx.1, hs⟩⟩, hhas, ?_, hlen⟩
  unfold atI
  rw [hhas, cond_true]
  rcases hs with hs | hs
  · rw [hs, ix_first ht]; rfl
  · rw [hs, ix_second ho ht]; rfl

theorem mod1000 (k : Int) : 0 ≤ IntKind.i64.wrap (Int.tmod (IntKind.u64.wrap k) 1000) ∧ IntKind.i64.wrap (Int.tmod (IntKind.u64.wrap k) 1000) < 1000 := by
  have hk : 0 ≤ IntKind.u64.wrap k := (wrap_within .u64 k).1
  rw [Int.tmod_eq_emod_of_nonneg hk]
  have h2 := Int.emod_nonneg (IntKind.u64.wrap k) (show (1000 : Int) ≠ 0 by omega)
  have h3 := Int.emod_lt_of_pos (IntKind.u64.wrap k) (show (0 : Int) < 1000 by omega)
  rw [w64 (n := IntKind.u64.wrap k % 1000) (by omega) (by omega)]
  omega

theorem anew_loop (kind id : Int) (hne : turned kind 1 ≠ kind) (l : List Int) (h60 : l.length ≤ 60) : ∀ (d p : Nat) (c : El TClock) (last : Int), l.length = p + d → Two kind (turned kind 1) id c last → ∃ m, lAnew.l1 m kind id last l l.length p c.1 c.2 = some (vb true, [])
  | 0, p, c, last, h, hc => by
    have hd := two_drop hne hc
    obtain ⟨o1, o2⟩ := two_other hne hc
    obtain ⟨h0, hC, hl⟩ := hc
    have ho : keyK kind id (77, turned kind 1, id) = false := by simp [keyK, hne]
    have hcut : cutC (c.1, c.2) kind id = (c.1, [(77, turned kind 1, id)]) := by unfold cutC; rw [hd]
    have hC2 := hC.cut kind id
    have hno : hasK [((77 : Int), turned kind 1, id)] kind id = false := by rw [hasK_any]; simp [ho]
    have hcut2 : cutC (c.1, [((77 : Int), turned kind 1, id)]) kind id = (c.1, [(77, turned kind 1, id)]) := by
      unfold cutC cutT
      rw [hno]; rfl
    have hlast : hasK c.2 kind id = decide (last ≥ 0) := by
      rw [hasK_any]
      have ht : keyK kind id (last, kind, id) = true := by simp [keyK]
      rcases hl with ⟨hl, hl2⟩ | ⟨hl2, hl | hl⟩
      · rw [hl, dec_f (by omega)]; simp [ho]
      · rw [hl, dec_t (by omega)]; simp [ht]
      · rw [hl, dec_t (by omega)]; simp [ht]
    refine ⟨1, ?_⟩
    rw [lAnew.s1, cond_df (by omega)]
    refine (test_true (show when.pre (c, _, id, ()) = true from when_pre hC (by omega))).trans ((test_true (show cut.pre (c, kind, id, ()) = true from when_pre hC (by omega))).trans ?_)
    rw [hlast, hcut, hcut2]
    refine (cond_t (by cases decide (last ≥ 0) <;> rfl)).trans ?_
    have hC3 : Cok (c.1, [((77 : Int), turned kind 1, id)]) 2 := by
      have e : cutC c kind id = (c.1, [(77, turned kind 1, id)]) := hcut
      rw [e] at hC2; exact hC2
    refine (test_true (show cut.pre ((c.1, [((77 : Int), turned kind 1, id)]), kind, id, ()) = true from when_pre hC3 (by omega))).trans ((cond_t (by rw [hno]; rfl)).trans ((cond_t o1).trans ((cond_et o2).trans ((test_true (show allT.pre ((c.1, [((77 : Int), turned kind 1, id)]), ()) = true from now_pre hC3 (by omega))).trans ((cond_et rfl).trans rfl)))))
  | d + 1, p, c, last, h, hc => by
    have hC := hc.2.1
    have hm := mod1000 (rdEl (.int .i64) l p)
    generalize hx : IntKind.i64.wrap (Int.tmod (IntKind.u64.wrap (rdEl (.int .i64) l p)) 1000) = x at hm
    obtain ⟨s1, s2, s3, s4, s5⟩ := two_set hne hc hm
    obtain ⟨m, hmm⟩ := anew_loop kind id hne l h60 d (p + 1) _ x (by omega) s2
    refine ⟨m + 1, ?_⟩
    rw [lAnew.s1, cond_dt (by omega), test_d (by omega), test_d (by omega), toNat_cast, hx, w64s (by omega)]
    refine (test_true (put_pre hC (by omega) _)).trans ((cond_f (by rw [s1]; rfl)).trans ((test_true (show when.pre (setC c (x, kind, id), kind, id, ()) = true from when_pre s2.2.1 (by omega))).trans ((cond_f (by rw [s3]; rfl)).trans ((cond_f (by rw [s4]; simp)).trans ((test_true (show allT.pre (setC c (x, kind, id), ()) = true from now_pre s2.2.1 (by omega))).trans ((cond_f (by rw [s5]; rfl)).trans hmm))))))

theorem lAnew_R : lAnew.Law := fun kind id l hx => by
  have hne : turned kind 1 ≠ kind := turned_ne (by decide) (by decide) (by decide)
  have hh : ∃ m, lAnew.go m kind id l = some (vb true, []) := by
    by_cases h1 : (l.length : Int) > 60
    · exact ⟨1, by rw [lAnew.start, cond_dt h1]; rfl⟩
    · have ht0 : timeC 0 = 0 := by decide
      have e : setC (0, []) (77, turned kind 1, id) = (0, [(77, turned kind 1, id)]) := rfl
      have hC : Cok ((0 : Int), [((77 : Int), turned kind 1, id)]) 2 := ((cok_new (n := 0) (by decide) (by decide)).put (77, turned kind 1, id)).mono (by omega)
      obtain ⟨m, hm⟩ := anew_loop kind id hne l (by omega) l.length 0 (0, [(77, turned kind 1, id)]) (-1) (by omega) ⟨rfl, hC, .inl ⟨rfl, rfl⟩⟩
      refine ⟨m + 1, ?_⟩
      rw [lAnew.start, cond_df h1, ht0]
      exact hm
  obtain ⟨m, hm⟩ := hh
  exact lAnew.ret (awake_ok.cons' SpecsOK.nil) (new_ok.cons' (put_ok.cons' (when_ok.cons' (cut_ok.cons' (allT_ok.cons' .nil))))) kind id l hm

end Go.Proofs.Ythlbiibholhkmaa
