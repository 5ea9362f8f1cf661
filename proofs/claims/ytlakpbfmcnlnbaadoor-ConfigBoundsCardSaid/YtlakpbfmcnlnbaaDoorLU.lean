/-
  Configurations: contracts put together; what is written is read as it was; of any text.
-/
import Derived.Test.YtlakpbfmcnlnbaaDoorLT
import Derived.Test.YtlakpbfmcnlnbaaDoorLF
namespace Go.Proofs.YtlakpbfmcnlnbaaDoor
open Go VE

theorem text_ok : text.OK := text.mkR fun c hx => by
  have hc : fits TConfig c = true := by simpa [text.pre] using hx
  intro w us ok hok hl hus ha
  obtain ⟨v, rfl⟩ : ∃ v, us = #[v] := by
    obtain ⟨l⟩ := us
    match l, hus with
    | [v], _ => exact ⟨v, rfl⟩
  have hv := ha 0 _ rfl
  have hv : IVRel _ w v (.agg (enc TConfig c)) := hv
  cases hv with
  | agg vs _ hs hv =>
    have := flat_of hs hv
    subst this
    refine (text_walk c hc w ok hok hl).mono ?_
    rintro e w' ⟨rfl, hb⟩
    exact ⟨_, rfl, hb, .c _ _ (.v _ rfl)⟩

theorem text_full (c : El TConfig) (h : mayC c = true) : ((textC c).toList == (⟨#[]⟩ : ByteArray).toList) = false := by
  rw [toList_bs, toList_bs, text_bs h]
  cases e : txt ((List.range 23).map (rowI (numsL c) (cZone c))) with
  | nil =>
    have : (txt ((List.range 23).map (rowI (numsL c) (cZone c)))).length = 0 := by rw [e]; rfl
    rw [show (List.range 23).map (rowI (numsL c) (cZone c)) = rowI (numsL c) (cZone c) 0 :: (List.range' 1 22).map (rowI (numsL c) (cZone c)) from rfl] at this
    rw [show ∀ (r : List ByteArray) (R : List (List ByteArray)), txt (r :: R) = bs (joinW r) ++ 10 :: txt R from fun _ _ => rfl, List.length_append, List.length_cons] at this
    omega
  | cons a l => rfl
theorem awake_ok : awake.OK := awake.mk (parse_ok.cons' (cDef_ok.cons' (cMay_ok.cons' (text_ok.cons' .nil)))) fun _ _ => ⟨1, by
  rw [awake.start, text_full defC (by kernel_rfl)]
  rfl⟩

/-- Are two configurations the same? -/
def ceq (a b : El TConfig) : Bool := ((a.1 == b.1) && ((a.2.1 == b.2.1) && ((a.2.2.1 == b.2.2.1) && ((a.2.2.2.1 == b.2.2.2.1) && ((a.2.2.2.2.1 == b.2.2.2.2.1) && ((a.2.2.2.2.2.1 == b.2.2.2.2.2.1) && ((a.2.2.2.2.2.2.1 == b.2.2.2.2.2.2.1) && ((a.2.2.2.2.2.2.2.1 == b.2.2.2.2.2.2.2.1) && ((a.2.2.2.2.2.2.2.2.1 == b.2.2.2.2.2.2.2.2.1) && ((a.2.2.2.2.2.2.2.2.2.1 == b.2.2.2.2.2.2.2.2.2.1) && ((a.2.2.2.2.2.2.2.2.2.2.1 == b.2.2.2.2.2.2.2.2.2.2.1) && ((a.2.2.2.2.2.2.2.2.2.2.2.1 == b.2.2.2.2.2.2.2.2.2.2.2.1) && ((a.2.2.2.2.2.2.2.2.2.2.2.2.1 == b.2.2.2.2.2.2.2.2.2.2.2.2.1) && ((a.2.2.2.2.2.2.2.2.2.2.2.2.2.1 == b.2.2.2.2.2.2.2.2.2.2.2.2.2.1) && ((a.2.2.2.2.2.2.2.2.2.2.2.2.2.2.1 == b.2.2.2.2.2.2.2.2.2.2.2.2.2.2.1) && ((a.2.2.2.2.2.2.2.2.2.2.2.2.2.2.2.1 == b.2.2.2.2.2.2.2.2.2.2.2.2.2.2.2.1) && ((a.2.2.2.2.2.2.2.2.2.2.2.2.2.2.2.2.1 == b.2.2.2.2.2.2.2.2.2.2.2.2.2.2.2.2.1) && ((a.2.2.2.2.2.2.2.2.2.2.2.2.2.2.2.2.2.1 == b.2.2.2.2.2.2.2.2.2.2.2.2.2.2.2.2.2.1) && ((a.2.2.2.2.2.2.2.2.2.2.2.2.2.2.2.2.2.2.1 == b.2.2.2.2.2.2.2.2.2.2.2.2.2.2.2.2.2.2.1) && ((a.2.2.2.2.2.2.2.2.2.2.2.2.2.2.2.2.2.2.2.1 == b.2.2.2.2.2.2.2.2.2.2.2.2.2.2.2.2.2.2.2.1) && ((a.2.2.2.2.2.2.2.2.2.2.2.2.2.2.2.2.2.2.2.2.1 == b.2.2.2.2.2.2.2.2.2.2.2.2.2.2.2.2.2.2.2.2.1) && (((ByteArray.toList a.2.2.2.2.2.2.2.2.2.2.2.2.2.2.2.2.2.2.2.2.2.1) == (ByteArray.toList b.2.2.2.2.2.2.2.2.2.2.2.2.2.2.2.2.2.2.2.2.2.1)) && ((a.2.2.2.2.2.2.2.2.2.2.2.2.2.2.2.2.2.2.2.2.2.2 == b.2.2.2.2.2.2.2.2.2.2.2.2.2.2.2.2.2.2.2.2.2.2) && true)))))))))))))))))))))))
theorem ceq_refl (a : El TConfig) : ceq a a = true := by
  unfold ceq
  simp only [beq_self_eq_true, Bool.and_self]
theorem ceq_eq {a b : El TConfig} (h : ceq a b = true) : a = b := by
  unfold ceq at h
  simp only [Bool.and_eq_true, beq_iff_eq] at h
  obtain ⟨h0, h1, h2, h3, h4, h5, h6, h7, h8, h9, h10, h11, h12, h13, h14, h15, h16, h17, h18, h19, h20, h21, h22, _⟩ := h
  rw [toList_bs, toList_bs] at h21
  have h21 := (mk_bs _).symm.trans ((congrArg mk h21).trans (mk_bs _))
  exact Prod.ext h0 (Prod.ext h1 (Prod.ext h2 (Prod.ext h3 (Prod.ext h4 (Prod.ext h5 (Prod.ext h6 (Prod.ext h7 (Prod.ext h8 (Prod.ext h9 (Prod.ext h10 (Prod.ext h11 (Prod.ext h12 (Prod.ext h13 (Prod.ext h14 (Prod.ext h15 (Prod.ext h16 (Prod.ext h17 (Prod.ext h18 (Prod.ext h19 (Prod.ext h20 (Prod.ext h21 h22)))))))))))))))))))))
theorem bytes_eq {a b : ByteArray} (h : (a.toList == b.toList) = true) : a = b := by
  rw [toList_bs, toList_bs] at h
  rw [← mk_bs a, eq_of_beq h, mk_bs]
theorem parse_pre {s : ByteArray} (h : s.size ≤ 1000000) : parse.pre (s, ()) = true := by
  show (fits .str s && (decide (ByteArray.size s ≤ 1000000) && true)) = true
  rw [str_fits h, dec_t h]; rfl
theorem text_parse_pre (c : El TConfig) : parse.pre (textC c, ()) = true := parse_pre (by have := text_size c; omega)

theorem test_tt (k : R) : test true k = k := rfl
theorem lBack_R : lBack.Law := fun c d hx => by
  have h0 : (fits TConfig c && (fits TConfig d && true)) = true := hx
  obtain ⟨hc, h0⟩ := Bool.and_eq_true_iff.1 h0
  obtain ⟨hd, _⟩ := Bool.and_eq_true_iff.1 h0
  have pc : cMay.pre (c, ()) = true := by show (fits TConfig c && true) = true; rw [hc]; rfl
  have pd : cMay.pre (d, ()) = true := by show (fits TConfig d && true) = true; rw [hd]; rfl
  have qc : mayCR.pre (c, ()) = true := pc
  have qd : mayCR.pre (d, ()) = true := pd
  have tc : text.pre (c, ()) = true := pc
  have td : text.pre (d, ()) = true := pd
  refine lBack.ret (m := 1) (awake_ok.cons' (parse_ok.cons' (text_ok.cons' (cMay_ok.cons' (mayCR_ok.cons' .nil))))) c d ?_
  rw [lBack.start, pc, pd, qc, qd, tc, td, text_parse_pre c]
  simp only [test_tt]
  cases h1 : mayC c
  · rw [Bool.not_false, cond_true, beq_self_eq_true, cond_true, beq_self_eq_true]; rfl
  rw [Bool.not_true, cond_false]
  cases h2 : mayC d
  · rw [Bool.not_false, cond_true, beq_self_eq_true, cond_true, beq_self_eq_true]; rfl
  rw [Bool.not_true, cond_false, cond_false, cond_false, parse_may h1]
  dsimp only
  rw [beq_self_eq_true, cond_true, cond_true]
  change cond (ceq c c) (cond (((textC c).toList == (textC d).toList) == ceq c d) _ _) _ = _
  rw [ceq_refl, cond_true]
  cases e : (textC c).toList == (textC d).toList
  · cases e2 : ceq c d
    · rfl
    · rw [ceq_eq e2] at e
      simp at e
  · have := text_inj h1 h2 (bytes_eq e)
    rw [this, ceq_refl]; rfl

theorem lRaw_R : lRaw.Law := fun s hx => by
  have h0 : (fits .str s && true) = true := hx
  refine lRaw.ret (m := 1) (awake_ok.cons' (parse_ok.cons' (text_ok.cons' (cMay_ok.cons' .nil)))) s ?_
  rw [lRaw.start]
  by_cases h1 : (s.size : Int) > 6000
  · rw [cond_dt h1]; rfl
  rw [cond_df h1, test_true (parse_pre (by omega))]
  rcases parse_any s with ⟨c, e, hm⟩ | ⟨k, e, hk⟩
  · have hf := may_fits hm
    have tc : text.pre (c, ()) = true := by show (fits TConfig c && true) = true; rw [hf]; rfl
    have pc : cMay.pre (c, ()) = true := tc
    rw [e]
    dsimp only
    rw [parse_may hm]
    dsimp only
    rw [show bne (0 : Int) 0 = false from rfl, cond_false, test_true tc, test_true (text_parse_pre c), test_true pc, hm, cond_true, beq_self_eq_true, cond_true, cond_true]
    change cond (ceq c c) _ _ = _
    rw [ceq_refl]; rfl
  · rw [e]
    dsimp only
    rw [show bne (2 : Int) 0 = true from rfl, cond_true, beq_self_eq_true, cond_true, cond_dt hk]
    change cond (ceq zeroC zeroC) _ _ = _
    rw [ceq_refl]; rfl

theorem lBack_pre (c d : El TConfig) (hx : wfs [(true, TConfig), (true, TConfig)] (c, d, ())) : lBack.pre (c, d, ()) = true := by
  have b1 : fits TConfig c = true := fits_of_wf _ _ hx.1
  have b2 : fits TConfig d = true := fits_of_wf _ _ hx.2.1
  show (fits TConfig c && (fits TConfig d && true)) = true
  rw [b1, b2]; rfl
theorem lRaw_pre (s : ByteArray) (hx : wfs [(false, .str)] (s, ())) : lRaw.pre (s, ()) = true := by
  have b1 : fits .str s = true := fits_of_wf _ _ hx.1
  show (fits .str s && true) = true
  rw [b1]; rfl

end Go.Proofs.YtlakpbfmcnlnbaaDoor
