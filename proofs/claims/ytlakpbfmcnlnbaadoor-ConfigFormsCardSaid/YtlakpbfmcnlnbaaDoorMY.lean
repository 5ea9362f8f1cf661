/-
  Configurations: the document reads a text.
-/
import Derived.Test.YtlakpbfmcnlnbaaDoorMX
namespace Go.Proofs.YtlakpbfmcnlnbaaDoor
open Go VE

/-! ### the document's split -/

theorem partsR_pre {s : ByteArray} {b : Int} (h : s.size ≤ 10000) : partsR.pre (s, b, ()) = true := by
  show (fits .str s && (true && (decide (s.size ≤ 10000) && true))) = true
  rw [str_fits (by omega), dec_t h]; rfl

theorem hash_at {s : ByteArray} (h : hashAt s < s.size) : byteAt s (hashAt s : Int) = 35 := by
  rw [byteAt_bs]
  have key : ∀ l : List UInt8, idxN 35 l < l.length → l.getD (idxN 35 l) 0 = 35 := by
    intro l
    induction l with
    | nil => intro h; simp at h
    | cons b l ih =>
      intro h
      unfold idxN at h ⊢
      by_cases hb : b = 35
      · rw [if_pos hb, hb]; rfl
      · rw [if_neg hb] at h ⊢
        exact ih (by simp at h; omega)
  show (((bs s).getD (idxN 35 (bs s)) 0).toNat : Int) = 35
  rw [key (bs s) (by rw [bs_length]; exact h)]
  rfl
theorem hash_ahead {s : ByteArray} {i : Nat} (h : i < hashAt s) : byteAt s (i : Int) ≠ 35 := by
  rw [byteAt_bs]
  have key : ∀ (l : List UInt8) (i : Nat), i < idxN 35 l → l.getD i 0 ≠ 35 := by
    intro l
    induction l with
    | nil => intro i h; simp [idxN] at h
    | cons b l ih =>
      intro i h
      unfold idxN at h
      by_cases hb : b = 35
      · rw [if_pos hb] at h; omega
      · rw [if_neg hb] at h
        cases i with
        | zero => exact hb
        | succ i => exact ih i (by omega)
  intro e
  refine key (bs s) i h (UInt8.toNat_inj.1 ?_)
  have : (35 : UInt8).toNat = 35 := rfl
  omega

section
variable {L : List ByteArray} {N : Int}

/-- The words of one line, gone through; then the next line. -/
theorem splitR_l4 {i : Nat} {x3 : Int} {P : List ByteArray} {out : List Ln} (hi : i ≤ 100000) (hP : P.length ≤ 100000) (ho : out.length ≤ 100000) (hx : x3 = (i : Int)) (m : Nat) :
    ∀ (d k : Nat) (w : List ByteArray), P.length = k + d → w.length ≤ k →
      splitR.l4 (m + (d + 1)) (i : Int) L N x3 P (P.length : Int) (k : Int) out w =
        splitR.l1 m L N ((i + 1 : Nat) : Int) (if (w ++ (P.drop k).filter fun w => !(ByteArray.toList w == ByteArray.toList ⟨#[]⟩)).length = 0 then out else out ++ [((i : Int) + 1, w ++ (P.drop k).filter fun w => !(ByteArray.toList w == ByteArray.toList ⟨#[]⟩))])
  | 0, k, w, h, hw => by
    have hlim : 1000000 ≤ lim 32 := by decide
    refine (splitR.s4 m (i : Int) L N x3 P _ _ out w).trans ?_
    rw [cond_df (by omega), List.drop_eq_nil_of_le (by omega), List.filter_nil, List.append_nil, hx, w64s (by omega)]
    by_cases h0 : w.length = 0
    · rw [cond_df (by omega), if_pos h0]
    · have t1 : out.length + ((((i + 1 : Nat) : Int), w) :: ([] : List Ln)).length ≤ lim 32 := by rw [List.length_singleton]; omega
      rw [cond_dt (by omega), if_neg h0]
      exact test_d t1
  | d + 1, k, w, h, hw => by
    have hlim : 1000000 ≤ lim 16 := by decide
    have hd := rdEl_drop (t := .str) P (show k < P.length by omega)
    refine (splitR.s4 (m + (d + 1)) (i : Int) L N x3 P _ _ out w).trans ?_
    rw [cond_dt (by omega), test_d (by omega), test_d (by omega), toNat_cast, w64s (by omega), hd, List.filter_cons]
    cases hq : !(ByteArray.toList (rdEl .str P k) == ByteArray.toList (⟨#[]⟩ : ByteArray)) with
    | true =>
      have t1 : w.length + ((rdEl .str P k) :: ([] : List ByteArray)).length ≤ lim 16 := by rw [List.length_singleton]; omega
      rw [cond_true, if_pos rfl]
      refine (test_d t1).trans ((splitR_l4 hi hP ho hx m d (k + 1) (w ++ [rdEl .str P k]) (by omega) (by rw [List.length_append]; simp; omega)).trans ?_)
      rw [List.append_assoc]; rfl
    | false =>
      rw [cond_false, if_neg Bool.false_ne_true]
      exact splitR_l4 hi hP ho hx m d (k + 1) w (by omega) (by omega)

theorem splitR_l3 {i : Nat} {x3 : Int} {x : ByteArray} {out : List Ln} (hi : i ≤ 100000) (ho : out.length ≤ 100000) (hs : x.size ≤ 200) (hx : x3 = (i : Int)) : ∃ f, f ≤ 1000 ∧ ∀ m,
    splitR.l3 (m + f) (i : Int) x L N x3 (x.size : Int) 0 out = splitR.l1 m L N ((i + 1 : Nat) : Int) (if (wordsL x).length = 0 then out else out ++ [((i : Int) + 1, wordsL x)]) := by
  have hle := hash_le x
  have hc := cutA_size x
  have hP : (partsL (cutA x) 32).length ≤ (cutA x).size + 1 := by
    have := runs_length (s := cutA x) (sep := 32) (cutA x).size 0 0 0
    unfold partsL runsL
    rw [List.length_map]; exact this
  refine ⟨((partsL (cutA x) 32).length + 1) + (hashAt x + 1), by omega, fun m => ?_⟩
  have fin : splitR.l4 (m + ((partsL (cutA x) 32).length + 1)) (i : Int) L N x3 (partsL (cutA x) 32) ((partsL (cutA x) 32).length : Int) 0 out [] = splitR.l1 m L N ((i + 1 : Nat) : Int) (if (wordsL x).length = 0 then out else out ++ [((i : Int) + 1, wordsL x)]) :=
    splitR_l4 hi (by omega) ho hx m (partsL (cutA x) 32).length 0 [] (by omega) (by simp)
  have loop : ∀ d k : Nat, hashAt x = k + d → splitR.l3 (m + ((partsL (cutA x) 32).length + 1) + (d + 1)) (i : Int) x L N x3 (x.size : Int) (k : Int) out = splitR.l1 m L N ((i + 1 : Nat) : Int) (if (wordsL x).length = 0 then out else out ++ [((i : Int) + 1, wordsL x)]) := by
    intro d
    induction d with
    | zero =>
      intro k hk
      refine (splitR.s3 _ (i : Int) x L N x3 _ _ out).trans ?_
      have hk : k = hashAt x := by omega
      subst hk
      by_cases h : hashAt x < x.size
      · rw [cond_dt (by omega), test_d (by omega), test_d (by omega), cond_et (hash_at h), test_d (by omega), test_d (by omega), toNat_cast]
        exact (test_true (partsR_pre (s := cutA x) (by omega))).trans fin
      · have e : cutA x = x := by
          unfold cutA
          rw [show hashAt x = x.size by omega]; exact ByteArray.extract_zero_size
        rw [e] at fin
        rw [cond_df (by omega), test_true (partsR_pre (by omega))]
        rw [e]
        exact fin
    | succ d ih =>
      intro k hk
      refine (splitR.s3 _ (i : Int) x L N x3 _ _ out).trans ?_
      rw [cond_dt (by omega), test_d (by omega), test_d (by omega), cond_ef (hash_ahead (by omega)), w64s (by omega)]
      exact ih (k + 1) (by omega)
  have := loop (hashAt x) 0 (by omega)
  rw [show m + (((partsL (cutA x) 32).length + 1) + (hashAt x + 1)) = m + ((partsL (cutA x) 32).length + 1) + (hashAt x + 1) by omega]
  exact this

theorem splitR_l2 {i : Nat} {x3 : Int} {x : ByteArray} {out : List Ln} (hi : i ≤ 100000) (hs : x.size ≤ 200) (m : Nat) : ∀ (d k : Nat), x.size = k + d →
    splitR.l2 (m + (d + 1)) (i : Int) x L N x3 (x.size : Int) (k : Int) out =
      cond (allB (fun c => decide (32 ≤ c) && decide (c ≤ 126)) x d k) (splitR.l3 m (i : Int) x L N x3 (x.size : Int) 0 out) (some (.tup [.c (.v (.slice none 0 0)), vi .i64 ((i : Int) + 1), vi .i64 2], []))
  | 0, k, h => by
    refine (splitR.s2 m (i : Int) x L N x3 _ _ out).trans ?_
    rw [cond_df (by omega)]; rfl
  | d + 1, k, h => by
    have ih := splitR_l2 (x3 := x3) (out := out) hi hs m d (k + 1) (by omega)
    have w1 : IntKind.i64.wrap ((i : Int) + 1) = (i : Int) + 1 := w64 (by omega) (by omega)
    refine (splitR.s2 (m + (d + 1)) (i : Int) x L N x3 _ _ out).trans ?_
    rw [cond_dt (by omega), test_d (by omega), test_d (by omega), w1]
    unfold allB
    by_cases h1 : byteAt x (k : Int) < 32
    · rw [cond_dt h1, dec_f (show ¬ 32 ≤ byteAt x (k : Int) by omega)]; rfl
    · rw [cond_df h1, test_d (by omega), test_d (by omega), dec_t (show 32 ≤ byteAt x (k : Int) by omega)]
      by_cases h2 : byteAt x (k : Int) > 126
      · rw [cond_dt h2, dec_f (show ¬ byteAt x (k : Int) ≤ 126 by omega)]; rfl
      · rw [cond_df h2, dec_t (show byteAt x (k : Int) ≤ 126 by omega), w64s (by omega), ih]; rfl

end

theorem splitR_l1 {L : List ByteArray} (hL : L.length ≤ 10000) : ∀ (d k : Nat) (out : List Ln), L.length = k + d → out.length ≤ k →
    ∃ f, ∀ m, splitR.l1 (m + f) L (L.length : Int) (k : Int) out = some (splitIV (splitG (L.drop k) k out), [])
  | 0, k, out, h, ho => ⟨1, fun m => by
      rw [splitR.s1, cond_df (by omega), List.drop_eq_nil_of_le (by omega)]; rfl⟩
  | d + 1, k, out, h, ho => by
    have hd := rdEl_drop (t := .str) L (show k < L.length by omega)
    have w1 : IntKind.i64.wrap ((k : Int) + 1) = (k : Int) + 1 := w64 (by omega) (by omega)
    generalize hx : (show ByteArray from rdEl .str L k) = x at hd
    have hx : rdEl .str L k = x := hx
    rw [hd]
    by_cases hs : x.size ≤ 200
    · obtain ⟨f3, hf3, e3⟩ := splitR_l3 (L := L) (N := (L.length : Int)) (i := k) (x3 := (k : Int)) (x := x) (out := out) (by omega) (by omega) hs rfl
      obtain ⟨f1, e1⟩ := splitR_l1 hL d (k + 1) (if (wordsL x).length = 0 then out else out ++ [((k : Int) + 1, wordsL x)]) (by omega) (by
        split
        · omega
        · rw [List.length_append, List.length_singleton]; omega)
      refine ⟨f1 + f3 + (x.size + 1) + 1, fun m => ?_⟩
      rw [show m + (f1 + f3 + (x.size + 1) + 1) = (m + f1 + f3) + (x.size + 1) + 1 by omega]
      refine (splitR.s1 _ L (L.length : Int) (k : Int) out).trans ?_
      rw [cond_dt (by omega), test_d (by omega), test_d (by omega), toNat_cast, hx, cond_df (by omega)]
      refine (splitR_l2 (by omega) hs (m + f1 + f3) x.size 0 (by omega)).trans ?_
      have hm : mayB x = allB (fun c => decide (32 ≤ c) && decide (c ≤ 126)) x x.size 0 := by unfold mayB; rw [dec_t hs, Bool.and_true]
      rw [← hm, splitG]
      cases hmb : mayB x with
      | true => rw [cond_true, if_pos rfl, e3, e1]
      | false => rfl
    · refine ⟨1, fun m => ?_⟩
      refine (splitR.s1 _ L (L.length : Int) (k : Int) out).trans ?_
      have hm : mayB x = false := by unfold mayB; rw [dec_f hs, Bool.and_false]
      rw [cond_dt (by omega), test_d (by omega), test_d (by omega), toNat_cast, hx, cond_dt (by omega), splitG, hm, w1]
      rfl

theorem splitR_ok : splitR.OK := splitR.mkR fun s hx => by
  refine of_splitIV ?_ (splitL_nil s)
  by_cases hs : s.size ≤ 4000
  · have hP := runs_length (s := s) (sep := 10) s.size 0 0 0
    have hP : (partsL s 10).length ≤ s.size + 1 := by unfold partsL runsL; rw [List.length_map]; exact hP
    obtain ⟨f, hf⟩ := splitR_l1 (L := partsL s 10) (by omega) (partsL s 10).length 0 [] (by omega) (by simp)
    have e : splitL s = splitG ((partsL s 10).drop 0) 0 [] := by unfold splitL; rw [if_neg (by omega)]; rfl
    rw [e]
    refine splitR.ret (partsR_ok.cons' .nil) s (m := 0 + f + 1) ?_
    rw [splitR.start, cond_df (by omega), test_true (partsR_pre (by omega))]
    exact hf 0
  · have e : splitL s = ([], 0, 2) := by unfold splitL; rw [if_pos (by omega)]
    rw [e]
    refine splitR.ret (partsR_ok.cons' .nil) s (m := 1) ?_
    rw [splitR.start, cond_dt (by omega)]
    rfl


/-! ### small contracts -/

theorem numsO_ok : numsO.OK := numsO.mk (bit_ok.cons' .nil) fun c _ => ⟨1, by rw [numsO.start]; rfl⟩
theorem wordI_l1 {s : ByteArray} {l : List ByteArray} (hl : l.length ≤ 1000) : ∀ (d k m : Nat), k + d = l.length → wordIx.l1 (m + d + 1) s l (l.length : Int) (k : Int) = some (vi .i64 (wordI s (l.drop k) (k : Int)), [])
  | 0, k, m, h => by
    rw [wordIx.s1, cond_df (by omega), List.drop_eq_nil_of_le (by omega)]; rfl
  | d + 1, k, m, h => by
    have hd : l.drop k = rdEl .str l k :: l.drop (k + 1) := rdEl_drop (t := .str) l (show k < l.length by omega)
    rw [show m + (d + 1) + 1 = (m + d + 1) + 1 by omega, wordIx.s1, cond_dt (by omega), test_d (by omega), test_d (by omega), toNat_cast, hd, wordI, w64s (by omega)]
    cases (rdEl .str l k).toList == s.toList
    · rw [cond_false, cond_false, wordI_l1 hl d (k + 1) m (by omega)]
      rw [show ((k + 1 : Nat) : Int) = (k : Int) + 1 by omega]
    · rw [cond_true, cond_true, show ((k + 1 : Nat) : Int) = (k : Int) + 1 by omega]; rfl
theorem wordIx_ok : wordIx.OK := wordIx.mk .nil fun s l hx => by
  have h : (fits .str s && (fits (.sl .str) l && (decide (List.length l ≤ 1000) && true))) = true := hx
  simp only [Bool.and_eq_true, decide_eq_true_eq] at h
  refine ⟨0 + l.length + 1 + 1, ?_⟩
  rw [wordIx.start]
  have := wordI_l1 (s := s) (l := l) h.2.2.1 l.length 0 0 (by omega)
  rw [List.drop_zero] at this
  exact this

/-! ### the row of a name -/

/-- The last row of this name. -/
def lastL (a : List UInt8) : List (List UInt8) → Nat → Int → Int
  | [], _, at_ => at_
  | r :: l, i, at_ => lastL a l (i + 1) (cond (r == a) (i : Int) at_)
theorem last_not {a : List UInt8} : ∀ (l : List (List UInt8)) (i : Nat) (x : Int), a ∉ l → lastL a l i x = x
  | [], _, _, _ => rfl
  | r :: l, i, x, h => by
    have hr : (r == a) = false := by
      cases e : r == a
      · rfl
      · exact absurd (by rw [eq_of_beq e]; exact List.mem_cons_self ..) h
    rw [lastL, hr, cond_false, last_not l (i + 1) x (fun h2 => h (List.mem_cons_of_mem _ h2))]
theorem last_at {a : List UInt8} : ∀ (l : List (List UInt8)) (i : Nat) (x : Int), l.Nodup → lastL a l i x = match atL a l i with | some j => (j : Int) | none => x
  | [], _, _, _ => rfl
  | r :: l, i, x, h => by
    obtain ⟨h1, h2⟩ := List.nodup_cons.1 h
    rw [lastL, atL]
    cases e : r == a
    · rw [cond_false, cond_false]; exact last_at l (i + 1) x h2
    · rw [cond_true, cond_true]
      have := eq_of_beq e
      subst this
      exact last_not l (i + 1) _ h1
theorem names_nodup : nameLs.Nodup := by decide +kernel
theorem names_at : ((List.range 23).all fun k => (rdEl TRow rowsL k).1.data.toList == nameLs.getD k []) = true := by kernel_rfl
theorem name_at {k : Nat} (hk : k < 23) : (rdEl TRow rowsL k).1.toList = nameLs.getD k [] := by
  rw [toList_bs]
  exact eq_of_beq (List.all_eq_true.1 names_at k (List.mem_range.2 hk))
theorem names_drop {k : Nat} (hk : k < 23) : nameLs.drop k = nameLs.getD k [] :: nameLs.drop (k + 1) := by
  have h : k < nameLs.length := hk
  rw [List.drop_eq_getElem_cons h, List.getD_eq_getElem?_getD, List.getElem?_eq_getElem h]
  rfl

noncomputable def rl1 (m : Nat) (z : ByteArray) (l : List Ln) (N k : Int) (n : List Int) (sb : List Bool) : R :=
  parseR.l1 m z l N k n 0 0 0 0 0 0 0 0 0 0 0 0 0 0 0 false 0 0 0 0 0 ⟨#[]⟩ false sb
noncomputable def rl2 (m : Nat) (z : ByteArray) (a : Int) (l : List Ln) (N k i : Int) (n : List Int) (sb : List Bool) (no : Int) (w : List ByteArray) : R :=
  parseR.l2 m z a l N k rowsL 23 i n 0 0 0 0 0 0 0 0 0 0 0 0 0 0 0 false 0 0 0 0 0 ⟨#[]⟩ false sb no w

theorem rows_l2 {z : ByteArray} {l : List Ln} {N k no : Int} {n : List Int} {sb : List Bool} {a v : ByteArray} : ∀ (d i m : Nat) (x : Int), i + d = 23 →
    rl2 (m + d + 1) z x l N k (i : Int) n sb no [a, v] = rl2 (m + 1) z (lastL a.toList (nameLs.drop i) i x) l N k 23 n sb no [a, v]
  | 0, i, m, x, h => by
    have : i = 23 := by omega
    subst this
    rfl
  | d + 1, i, m, x, h => by
    have hi : i < 23 := by omega
    have ih := fun x => rows_l2 (z := z) (l := l) (N := N) (k := k) (no := no) (n := n) (sb := sb) (a := a) (v := v) d (i + 1) m x (by omega)
    rw [show m + (d + 1) + 1 = (m + d + 1) + 1 by omega, names_drop hi, lastL]
    unfold rl2 at ih ⊢
    rw [parseR.s2, cond_dt (by omega), test_d (by omega), test_d (show (i : Int) < (rowsL.length : Int) by show (i : Int) < 23; omega)]
    refine (test_d (show (0 : Int) < 2 by omega)).trans ?_
    rw [toNat_cast, name_at hi, w64s (by omega)]
    change cond (nameLs.getD i [] == a.toList) _ _ = _
    cases e : nameLs.getD i [] == a.toList
    · rw [cond_false]; exact ih x
    · rw [cond_true]; exact ih (i : Int)


structure SeenOK (sb : List Bool) (seen : List Nat) : Prop where
  len : sb.length = 30
  at_ : ∀ j, j < 23 → rdEl .bool sb j = decide (j ∈ seen)
theorem SeenOK.add {sb : List Bool} {seen : List Nat} (h : SeenOK sb seen) {i : Nat} (hi : i < 23) : SeenOK (sb.set i true) (i :: seen) := by
  refine ⟨by rw [List.length_set]; exact h.len, fun j hj => ?_⟩
  have e : rdEl .bool (sb.set i true) j = if j = i then true else rdEl .bool sb j := by
    show (sb.set i true).getD j _ = if j = i then true else sb.getD j _
    rw [List.getD_eq_getElem?_getD, List.getD_eq_getElem?_getD, List.getElem?_set]
    by_cases h1 : i = j
    · subst h1
      rw [if_pos rfl, if_pos rfl, if_pos (by rw [h.len]; omega)]; rfl
    · rw [if_neg h1, if_neg (fun e => h1 e.symm)]
  rw [e]
  by_cases h1 : j = i
  · rw [if_pos h1, h1]; simp
  · rw [if_neg h1, h.at_ j hj]
    simp [h1]

theorem bools_of {v : ByteArray} : wordI v nyL 0 = cond (noB v) 1 (cond (yesB v) 2 0) := by
  have e1 : (⟨#[110, 111]⟩ : ByteArray).toList = [110, 111] := lit_list [110, 111]
  have e2 : (⟨#[121, 101, 115]⟩ : ByteArray).toList = [121, 101, 115] := lit_list [121, 101, 115]
  unfold nyL wordI wordI wordI noB yesB isB
  rw [e1, e2, Bool.beq_comm (a := [110, 111]), Bool.beq_comm (a := [121, 101, 115])]
  rfl
theorem not_both {v : ByteArray} (h : noB v = true) : yesB v = false := by
  unfold noB isB at h
  unfold yesB isB
  rw [eq_of_beq h]; rfl

theorem row_end {z : ByteArray} {l : List Ln} {N : Int} {k : Nat} {no : Int} {n : List Int} {sb : List Bool} {seen : List Nat} {a v : ByteArray} (m : Nat) (hG : Good n z) (hS : SeenOK sb seen) (hz : 21 ∉ seen → z = ⟨#[]⟩) (hv : v.size ≤ 1000000) (hk : k < 1000000) :
    rl2 (m + 1) z (lastL a.toList nameLs 0 (-1)) l N (k : Int) 23 n sb no [a, v] =
      match rowAt a with
      | none => pr zeroC no 2
      | some i => if i ∈ seen then pr zeroC no 2 else cond (setN n z i v).1 (rl1 m (setN n z i v).2.2 l N ((k + 1 : Nat) : Int) (setN n z i v).2.1 (sb.set i true)) (pr zeroC no 2) := by
  rw [last_at nameLs 0 (-1) names_nodup, ← rowAt_eq]
  cases hr : rowAt a with
  | none =>
    dsimp only
    unfold rl2
    rw [parseR.s2, cond_df (by omega), cond_dt (by omega)]
    rfl
  | some i =>
    have hi := rowAt_lt hr
    have hsn := hS.at_ i hi
    have hn := hG.len
    have hsl := hS.len
    have n1 := all_at names_zone hi
    have n2 := all_at names_pol hi
    have n3 := all_at names_one hi
    have n4 := all_at names_fall hi
    have hfv : fits .str v = true := str_fits hv
    dsimp only
    unfold rl2
    rw [parseR.s2, cond_df (by omega), cond_df (by omega), test_d (by omega), test_d (by omega), test_d (by omega), toNat_cast, hsn]
    by_cases hs : i ∈ seen
    · rw [dec_t hs, cond_true, if_pos hs]
      rfl
    rw [dec_f hs, cond_false, if_neg hs, test_d (by omega), test_d (by omega), test_d (by omega), test_d (by omega), test_d (show (i : Int) < (rowsL.length : Int) by show (i : Int) < 23; omega)]
    refine (test_d (show (1 : Int) < 2 by omega)).trans ?_
    rw [n1, n2, n3, n4, w64s (by omega)]
    have e45 : (⟨#[45]⟩ : ByteArray).toList = [45] := lit_list [45]
    have ev : rdEl .str [a, v] (Int.toNat 1) = v := rfl
    rw [ev, e45]
    have hset : ∀ x, (n.set i x).length = 23 := fun x => by rw [List.length_set]; exact hn
    have hnth : ∀ x, rdEl (.int .i64) (n.set i x) i = x := fun x => by
      have := nth_set (n := n) (i := i) (j := i) (v := x) (by omega)
      rw [if_pos rfl] at this
      exact this
    unfold setN
    by_cases k21 : i = 21
    · subst k21
      have z0 := hz hs
      rw [dec_t rfl, cond_true, if_pos rfl]
      change cond (isB [45] v) _ _ = _
      cases e : isB [45] v
      · rw [cond_false]
        change test (wordR.pre (v, ())) (cond (!(isB [45] v)) _ _) = _
        rw [e, test_true (show wordR.pre (v, ()) = true by show (fits .str v && true) = true; rw [hfv]; rfl), Bool.not_false, cond_true]
        cases nameB v <;> rfl
      · rw [cond_true]
        change cond (!(isB [45] v)) _ _ = _
        rw [e, Bool.not_true, cond_false]
        subst z0
        rfl
    rw [dec_f k21, cond_false, if_neg k21]
    by_cases k20 : i = 20
    · subst k20
      rw [dec_t rfl, cond_true, if_pos rfl]
      have hp : wordIx.pre (v, polL, ()) = true := by
        show (fits .str v && (fits (.sl .str) polL && (decide (3 ≤ 1000) && true))) = true
        rw [hfv, show fits (.sl .str) polL = true by kernel_rfl]; rfl
      change test (wordIx.pre (v, polL, ())) _ = _
      rw [test_true hp]
      change test _ (test _ (test _ (test (decide (((20 : Nat) : Int) < (((n.set 20 (wordI v polL 0)).length : Nat) : Int))) (cond (Bool.not (decide (rdEl (.int .i64) (n.set 20 (wordI v polL 0)) 20 > (0 : Int)))) _ (rl1 m z l N ((k + 1 : Nat) : Int) (n.set 20 (wordI v polL 0)) (sb.set 20 true)))))) = _
      rw [hset, hnth, hn]
      refine (test_d (by decide)).trans ((test_d (by decide)).trans ((test_d (by decide)).trans ((test_d (by decide)).trans ?_)))
      show _ = cond (decide (wordI v polL 0 > 0)) _ _
      cases decide (wordI v polL 0 > 0) <;> rfl
    rw [dec_f k20, cond_false, if_neg k20]
    have bits : ∀ (hib : i = 15 ∨ i = 22), test (wordIx.pre (v, nyL, ())) (test (decide ((0 : Int) ≤ (i : Int))) (test (decide ((i : Int) < ((n.length : Nat) : Int))) (cond (Bool.not (decide (wordI v nyL 0 > (0 : Int)))) (pr zeroC no 2) (rl1 m z l N ((k + 1 : Nat) : Int) (n.set i (IntKind.i64.wrap (wordI v nyL 0 - 1))) (sb.set i true))))) =
        cond (yesB v || noB v) (rl1 m z l N ((k + 1 : Nat) : Int) (n.set i (bitI (yesB v))) (sb.set i true)) (pr zeroC no 2) := fun hib => by
      have hp : wordIx.pre (v, nyL, ()) = true := by
        show (fits .str v && (fits (.sl .str) nyL && (decide (2 ≤ 1000) && true))) = true
        rw [hfv, show fits (.sl .str) nyL = true by kernel_rfl]; rfl
      rw [test_true hp, test_d (by omega), test_d (by omega), bools_of]
      cases e1 : noB v
      · cases e2 : yesB v
        · rfl
        · rfl
      · rw [not_both e1]; rfl
    have nums : test (numberR.pre (v, ())) (test (decide ((0 : Int) ≤ (i : Int))) (test (decide ((i : Int) < ((n.length : Nat) : Int))) (cond (numB v).2 (test (decide ((0 : Int) ≤ (i : Int))) (test (decide ((i : Int) < (((n.set i (numB v).1).length : Nat) : Int))) (
        cond (decide (rdEl (.int .i64) (n.set i (numB v).1) i ≥ (rdEl TRow rowsL i).2.1)) (test (decide ((0 : Int) ≤ (i : Int))) (test (decide ((i : Int) < (((n.set i (numB v).1).length : Nat) : Int))) (
          cond (Bool.not (decide (rdEl (.int .i64) (n.set i (numB v).1) i ≤ (rdEl TRow rowsL i).2.2.1))) (pr zeroC no 2) (rl1 m z l N ((k + 1 : Nat) : Int) (n.set i (numB v).1) (sb.set i true))))) (pr zeroC no 2)))) (pr zeroC no 2)))) =
        cond ((numB v).2 && (decide ((rdEl TRow rowsL i).2.1 ≤ (numB v).1) && decide ((numB v).1 ≤ (rdEl TRow rowsL i).2.2.1))) (rl1 m z l N ((k + 1 : Nat) : Int) (n.set i (numB v).1) (sb.set i true)) (pr zeroC no 2) := by
      rw [test_true (show numberR.pre (v, ()) = true by show (fits .str v && true) = true; rw [hfv]; rfl), hset, hnth, hn, test_d (by omega), test_d (by omega), test_d (by omega), test_d (by omega), test_d (by omega), test_d (by omega)]
      cases (numB v).2
      · rfl
      · rw [cond_true, Bool.true_and]
        change cond (decide ((rdEl TRow rowsL i).2.1 ≤ (numB v).1)) _ _ = _
        cases decide ((rdEl TRow rowsL i).2.1 ≤ (numB v).1)
        · rfl
        · rw [cond_true, Bool.true_and]
          cases decide ((numB v).1 ≤ (rdEl TRow rowsL i).2.2.1) <;> rfl
    by_cases k15 : i = 15
    · rw [dec_t k15, cond_true, cond_true, if_pos (.inl k15)]
      exact bits (.inl k15)
    rw [dec_f k15, cond_false]
    by_cases k22 : i = 22
    · rw [dec_t k22, cond_true, if_pos (.inr k22)]
      exact bits (.inr k22)
    rw [dec_f k22, cond_false, if_neg (by omega)]
    exact nums


theorem set_zone_same {n : List Int} {z : ByteArray} {i : Nat} {v : ByteArray} (h : i ≠ 21) : (setN n z i v).2.2 = z := by
  unfold setN
  rw [if_neg h]
  split
  · rfl
  · split <;> rfl

theorem parse_r1 {l : List Ln} (hs : Small l) (hlen : l.length ≤ 4001) : ∀ (d k m : Nat) (n : List Int) (z : ByteArray) (sb : List Bool) (seen : List Nat), k + d = l.length → Good n z → SeenOK sb seen → (21 ∉ seen → z = ⟨#[]⟩) →
    rl1 (m + 25 * d + 1) z l (l.length : Int) (k : Int) n sb = endG (parseG (l.drop k) n z seen)
  | 0, k, m, n, z, sb, seen, h, hG, _, _ => by
    have hp : madeR.pre (n, z, ()) = true := by
      have hz : fits .str z = true := by
        rcases zone_cases hG.zone with rfl | hz
        · rfl
        · have := (name_plain hz).2.2
          exact str_fits (by omega)
      have hn := hG.len
      have hR : reachBytes = 140737488351232 := rfl
      have hf : fits (.sl (.int .i64)) n = true := Bool.and_eq_true_iff.2 ⟨decide_eq_true (show n.length * 8 ≤ reachBytes by omega), List.all_eq_true.2 fun _ _ => rfl⟩
      show (fits (.sl (.int .i64)) n && (fits .str z && (decide (List.length n = 23) && true))) = true
      rw [hf, hz, dec_t hn]; rfl
    rw [List.drop_eq_nil_of_le (by omega), parseG]
    unfold rl1
    rw [show m + 25 * 0 + 1 = m + 1 by omega, parseR.s1, cond_df (by omega), test_true hp]
    rfl
  | d + 1, k, m, n, z, sb, seen, h, hG, hS, hz => by
    have hd : l.drop k = rdEl TLine l k :: l.drop (k + 1) := rdEl_drop (t := TLine) l (show k < l.length by omega)
    have hm : rdEl TLine l k ∈ l := by
      have : rdEl TLine l k ∈ l.drop k := by rw [hd]; exact List.mem_cons_self ..
      exact List.mem_of_mem_drop this
    have hsm := hs _ hm
    have ih := fun n z sb seen => parse_r1 hs hlen d (k + 1) m n z sb seen (by omega)
    rw [show m + 25 * (d + 1) + 1 = ((m + 25 * d + 1) + 23 + 1) + 1 by omega, hd]
    have step : rl1 (((m + 25 * d + 1) + 23 + 1) + 1) z l (l.length : Int) (k : Int) n sb =
        cond (((List.length (rdEl TLine l k).2) : Int) == (2 : Int)) (rl2 ((m + 25 * d + 1) + 23 + 1) z (-(1 : Int)) l (l.length : Int) (k : Int) 0 n sb (rdEl TLine l k).1 (rdEl TLine l k).2) (pr zeroC (rdEl TLine l k).1 2) := by
      unfold rl1 rl2
      rw [parseR.s1, cond_dt (by omega), test_d (by omega), test_d (by omega), toNat_cast]
      rfl
    rw [step]
    generalize rdEl TLine l k = x at *
    obtain ⟨no, w⟩ := x
    rw [parseG]
    rcases w with _ | ⟨a, _ | ⟨v, _ | ⟨c, r⟩⟩⟩
    · rfl
    · rfl
    rotate_left
    · have : (((((a :: v :: c :: r : List ByteArray).length : Nat) : Int)) == 2) = false := by
        have : ¬ (((a :: v :: c :: r : List ByteArray).length : Nat) : Int) = 2 := by simp; omega
        simpa using this
      show cond (((((a :: v :: c :: r : List ByteArray).length : Nat) : Int)) == 2) _ _ = _
      rw [this]
      rfl
    · have ha := hsm a (List.mem_cons_self ..)
      have hv := hsm v (List.mem_cons_of_mem _ (List.mem_cons_self ..))
      have e2 : (((([a, v] : List ByteArray).length : Nat) : Int) == 2) = true := rfl
      show cond (((([a, v] : List ByteArray).length : Nat) : Int) == 2) (rl2 ((m + 25 * d + 1) + 23 + 1) z (-1) l (l.length : Int) (k : Int) 0 n sb no [a, v]) _ = _
      rw [e2, cond_true]
      have hr := rows_l2 (z := z) (l := l) (N := (l.length : Int)) (k := (k : Int)) (no := no) (n := n) (sb := sb) (a := a) (v := v) 23 0 (m + 25 * d + 1) (-1) rfl
      rw [List.drop_zero] at hr
      refine (show _ = rl2 ((m + 25 * d + 1) + 23 + 1) z (-1) l (l.length : Int) (k : Int) ((0 : Nat) : Int) n sb no [a, v] from rfl).trans (hr.trans ?_)
      rw [row_end (m + 25 * d + 1) hG hS hz (by omega) (by omega)]
      cases hrow : rowAt a with
      | none =>
        simp only [hrow]
        rfl
      | some i =>
        simp only [hrow]
        by_cases hi : i ∈ seen
        · rw [if_pos hi, if_pos hi]; rfl
        · rw [if_neg hi, if_neg hi]
          cases hb : (setN n z i v).1 with
          | false => rfl
          | true =>
            rw [cond_true, if_pos rfl]
            refine ih _ _ _ (i :: seen) (set_good hG (rowAt_lt hrow) hb) (hS.add (rowAt_lt hrow)) fun h21 => ?_
            have hne : i ≠ 21 := fun e => h21 (by rw [e]; exact List.mem_cons_self ..)
            rw [set_zone_same hne]
            exact hz fun h => h21 (List.mem_cons_of_mem _ h)

theorem parseR_ok : parseR.OK := parseR.mk (splitR_ok.cons' (defR_ok.cons' (rowsR_ok.cons' (wordR_ok.cons' (wordIx_ok.cons' (numberR_ok.cons' (madeR_ok.cons' .nil))))))) (numsO_ok.cons' .nil) fun s hx => by
  have h : (fits .str s && (decide (ByteArray.size s ≤ 1000000) && true)) = true := hx
  simp only [Bool.and_eq_true, decide_eq_true_eq] at h
  have hs := h.2.1
  have hsR : splitR.pre (s, ()) = true := by show (fits .str s && true) = true; rw [h.1]; rfl
  have hl := parse_r1 (split_small s) (split_len s) (splitL s).1.length 0 0 (numsL defC) ⟨#[]⟩ (List.replicate 30 false) [] (by omega) def_good
    ⟨List.length_replicate, fun j hj => by
      have : rdEl .bool (List.replicate 30 false) j = false := by
        show (List.replicate 30 false).getD j _ = false
        rw [List.getD_eq_getElem?_getD, List.getElem?_replicate]
        split <;> rfl
      rw [this]; simp⟩ (fun _ => rfl)
  refine ⟨0 + 25 * (splitL s).1.length + 1 + 1, ?_⟩
  rw [parseR.start, test_true hsR]
  have hres : some (parseR.res (s, ()), []) = pr (parseC s).1 (parseC s).2.1 (parseC s).2.2 := rfl
  rw [hres]
  unfold parseC
  by_cases e : (splitL s).2.2 = 0
  · rw [if_pos e]
    have eb : bne (splitL s).2.2 (0 : Int) = false := by rw [e]; rfl
    rw [eb, cond_false]
    refine (show _ = rl1 (0 + 25 * (splitL s).1.length + 1) ⟨#[]⟩ (splitL s).1 ((splitL s).1.length : Int) 0 (numsL defC) (List.replicate 30 false) from rfl).trans (hl.trans ?_)
    rw [List.drop_zero]
    cases parseG (splitL s).1 (numsL defC) ⟨#[]⟩ [] with
    | mk r k => cases r <;> rfl
  · rw [if_neg e]
    have eb : bne (splitL s).2.2 (0 : Int) = true := by simpa using e
    rw [eb, cond_true]
    rfl


theorem lForms_R : lForms.Law := fun c s hx => by
  have h0 : (fits TConfig c && (fits .str s && true)) = true := hx
  obtain ⟨hc, _⟩ := Bool.and_eq_true_iff.1 h0
  have tc : text.pre (c, ()) = true := by show (fits TConfig c && true) = true; rw [hc]; rfl
  have tr : textR.pre (c, ()) = true := tc
  have pc : cMay.pre (c, ()) = true := tc
  have pr : mayCR.pre (c, ()) = true := tc
  refine lForms.ret (m := 1) (awake_ok.cons' (parse_ok.cons' (parseR_ok.cons' (text_ok.cons' (textR_ok.cons' (cMay_ok.cons' (mayCR_ok.cons' (cDef_ok.cons' (defR_ok.cons' .nil))))))))) c s ?_
  rw [lForms.start]
  by_cases h1 : (s.size : Int) > 6000
  · rw [cond_dt h1]; rfl
  rw [cond_df h1]
  by_cases h2 : (c.2.2.2.2.2.2.2.2.2.2.2.2.2.2.2.2.2.2.2.2.2.1.size : Int) > 100
  · rw [cond_dt h2]; rfl
  rw [cond_df h2]
  have pp : parse.pre (s, ()) = true := parse_pre (by omega)
  have pq : parseR.pre (s, ()) = true := pp
  rw [test_true pp, test_true pq]
  change cond (ceq (parseC s).1 (parseC s).1) _ _ = _
  rw [ceq_refl, cond_true, beq_self_eq_true, cond_true, beq_self_eq_true, cond_true, test_true tc, test_true tr, beq_self_eq_true, cond_true, test_true pc, test_true pr, beq_self_eq_true]
  rfl
theorem lForms_pre (c : El TConfig) (s : ByteArray) (hx : wfs [(true, TConfig), (false, .str)] (c, s, ())) : lForms.pre (c, s, ()) = true := by
  have b1 : fits TConfig c = true := fits_of_wf _ _ hx.1
  have b2 : fits .str s = true := fits_of_wf _ _ hx.2.1
  show (fits TConfig c && (fits .str s && true)) = true
  rw [b1, b2]; rfl

end Go.Proofs.YtlakpbfmcnlnbaaDoor
