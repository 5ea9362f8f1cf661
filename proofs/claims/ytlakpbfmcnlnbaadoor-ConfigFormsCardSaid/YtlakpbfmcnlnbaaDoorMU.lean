/-
  Configurations: contracts put together.
-/
import Derived.Test.YtlakpbfmcnlnbaaDoorLT
import Derived.Test.YtlakpbfmcnlnbaaDoorMF
namespace Go.Proofs.YtlakpbfmcnlnbaaDoor
open Go VE

theorem text_ok : text.OK := text.mkR fun c hx => by
  have hc : fits TConfig c = true := by simpa [text.pre] using hx
  intro w us ok hok hl hus ha
  obtain ⟨v, rfl⟩ : ∃ v, us = #[v] := by
    obtain ⟨l⟩ := us
    match l, hus with
    | [v], _ => exact ⟨v, rfl⟩
  have hv := ha 0 _ rfl
  have hv : IVRel _ w v (.agg (enc TConfig c)) := hv
  cases hv with
  | agg vs _ hs hv =>
    have := flat_of hs hv
    subst this
    refine (text_walk c hc w ok hok hl).mono ?_
    rintro e w' ⟨rfl, hb⟩
    exact ⟨_, rfl, hb, .c _ _ (.v _ rfl)⟩

theorem text_full (c : El TConfig) (h : mayC c = true) : ((textC c).toList == (⟨#[]⟩ : ByteArray).toList) = false := by
  rw [toList_bs, toList_bs, text_bs h]
  cases e : txt ((List.range 23).map (rowI (numsL c) (cZone c))) with
  | nil =>
    have : (txt ((List.range 23).map (rowI (numsL c) (cZone c)))).length = 0 := by rw [e]; rfl
    rw [show (List.range 23).map (rowI (numsL c) (cZone c)) = rowI (numsL c) (cZone c) 0 :: (List.range' 1 22).map (rowI (numsL c) (cZone c)) from rfl] at this
    rw [show ∀ (r : List ByteArray) (R : List (List ByteArray)), txt (r :: R) = bs (joinW r) ++ 10 :: txt R from fun _ _ => rfl, List.length_append, List.length_cons] at this
    omega
  | cons a l => rfl
theorem awake_ok : awake.OK := awake.mk (parse_ok.cons' (cDef_ok.cons' (cMay_ok.cons' (text_ok.cons' .nil)))) fun _ _ => ⟨1, by
  rw [awake.start, text_full defC (by kernel_rfl)]
  rfl⟩

/-- Are two configurations the same? -/
def ceq (a b : El TConfig) : Bool := ((a.1 == b.1) && ((a.2.1 == b.2.1) && ((a.2.2.1 == b.2.2.1) && ((a.2.2.2.1 == b.2.2.2.1) && ((a.2.2.2.2.1 == b.2.2.2.2.1) && ((a.2.2.2.2.2.1 == b.2.2.2.2.2.1) && ((a.2.2.2.2.2.2.1 == b.2.2.2.2.2.2.1) && ((a.2.2.2.2.2.2.2.1 == b.2.2.2.2.2.2.2.1) && ((a.2.2.2.2.2.2.2.2.1 == b.2.2.2.2.2.2.2.2.1) && ((a.2.2.2.2.2.2.2.2.2.1 == b.2.2.2.2.2.2.2.2.2.1) && ((a.2.2.2.2.2.2.2.2.2.2.1 == b.2.2.2.2.2.2.2.2.2.2.1) && ((a.2.2.2.2.2.2.2.2.2.2.2.1 == b.2.2.2.2.2.2.2.2.2.2.2.1) && ((a.2.2.2.2.2.2.2.2.2.2.2.2.1 == b.2.2.2.2.2.2.2.2.2.2.2.2.1) && ((a.2.2.2.2.2.2.2.2.2.2.2.2.2.1 == b.2.2.2.2.2.2.2.2.2.2.2.2.2.1) && ((a.2.2.2.2.2.2.2.2.2.2.2.2.2.2.1 == b.2.2.2.2.2.2.2.2.2.2.2.2.2.2.1) && ((a.2.2.2.2.2.2.2.2.2.2.2.2.2.2.2.1 == b.2.2.2.2.2.2.2.2.2.2.2.2.2.2.2.1) && ((a.2.2.2.2.2.2.2.2.2.2.2.2.2.2.2.2.1 == b.2.2.2.2.2.2.2.2.2.2.2.2.2.2.2.2.1) && ((a.2.2.2.2.2.2.2.2.2.2.2.2.2.2.2.2.2.1 == b.2.2.2.2.2.2.2.2.2.2.2.2.2.2.2.2.2.1) && ((a.2.2.2.2.2.2.2.2.2.2.2.2.2.2.2.2.2.2.1 == b.2.2.2.2.2.2.2.2.2.2.2.2.2.2.2.2.2.2.1) && ((a.2.2.2.2.2.2.2.2.2.2.2.2.2.2.2.2.2.2.2.1 == b.2.2.2.2.2.2.2.2.2.2.2.2.2.2.2.2.2.2.2.1) && ((a.2.2.2.2.2.2.2.2.2.2.2.2.2.2.2.2.2.2.2.2.1 == b.2.2.2.2.2.2.2.2.2.2.2.2.2.2.2.2.2.2.2.2.1) && (((ByteArray.toList a.2.2.2.2.2.2.2.2.2.2.2.2.2.2.2.2.2.2.2.2.2.1) == (ByteArray.toList b.2.2.2.2.2.2.2.2.2.2.2.2.2.2.2.2.2.2.2.2.2.1)) && ((a.2.2.2.2.2.2.2.2.2.2.2.2.2.2.2.2.2.2.2.2.2.2 == b.2.2.2.2.2.2.2.2.2.2.2.2.2.2.2.2.2.2.2.2.2.2) && true)))))))))))))))))))))))
theorem ceq_refl (a : El TConfig) : ceq a a = true := by
  unfold ceq
  simp only [beq_self_eq_true, Bool.and_self]
theorem ceq_eq {a b : El TConfig} (h : ceq a b = true) : a = b := by
  unfold ceq at h
  simp only [Bool.and_eq_true, beq_iff_eq] at h
  obtain ⟨h0, h1, h2, h3, h4, h5, h6, h7, h8, h9, h10, h11, h12, h13, h14, h15, h16, h17, h18, h19, h20, h21, h22, _⟩ := h
  rw [toList_bs, toList_bs] at h21
  have h21 := (mk_bs _).symm.trans ((congrArg mk h21).trans (mk_bs _))
  exact Prod.ext h0 (Prod.ext h1 (Prod.ext h2 (Prod.ext h3 (Prod.ext h4 (Prod.ext h5 (Prod.ext h6 (Prod.ext h7 (Prod.ext h8 (Prod.ext h9 (Prod.ext h10 (Prod.ext h11 (Prod.ext h12 (Prod.ext h13 (Prod.ext h14 (Prod.ext h15 (Prod.ext h16 (Prod.ext h17 (Prod.ext h18 (Prod.ext h19 (Prod.ext h20 (Prod.ext h21 h22)))))))))))))))))))))
theorem bytes_eq {a b : ByteArray} (h : (a.toList == b.toList) = true) : a = b := by
  rw [toList_bs, toList_bs] at h
  rw [← mk_bs a, eq_of_beq h, mk_bs]
theorem parse_pre {s : ByteArray} (h : s.size ≤ 1000000) : parse.pre (s, ()) = true := by
  show (fits .str s && (decide (ByteArray.size s ≤ 1000000) && true)) = true
  rw [str_fits h, dec_t h]; rfl
theorem text_parse_pre (c : El TConfig) : parse.pre (textC c, ()) = true := parse_pre (by have := text_size c; omega)

end Go.Proofs.YtlakpbfmcnlnbaaDoor
