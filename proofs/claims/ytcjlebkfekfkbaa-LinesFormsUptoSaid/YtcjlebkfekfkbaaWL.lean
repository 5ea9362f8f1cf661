/-
  Lines: one that may not be.
-/
import Derived.Test.YtcjlebkfekfkbaaWD
import Derived.Test.YtcjlebkfekfkbaaWG
namespace Go.Proofs.Ytcjlebkfekfkbaa
open Go VE

theorem name_dash : nameB (⟨#[45]⟩ : ByteArray) = false := by
  unfold nameB
  rw [show (ByteArray.toList (⟨#[45]⟩ : ByteArray) == ByteArray.toList dashB) = true from beq_self_eq_true _]
  simp
theorem awake_ok : awake.OK := awake.mk (split_ok.cons' (number_ok.cons' (nameW_ok.cons' .nil))) fun _ _ => ⟨1, by rw [awake.start, name_dash]; rfl⟩

theorem u64_wrap (n : Int) : IntKind.u64.wrap n = n % 18446744073709551616 := by simp [IntKind.wrap, IntKind.bits, IntKind.signed]
/-- A draw below c. -/
theorem drawn (x : Int) {c : Int} (h0 : 0 < c) (h1 : c ≤ 10000000) : ∃ k : Nat, IntKind.i64.wrap (Int.tmod (IntKind.u64.wrap x) c) = (k : Int) ∧ (k : Int) < c := by
  have hk : 0 ≤ IntKind.u64.wrap x := by rw [u64_wrap]; exact Int.emod_nonneg _ (by omega)
  rw [Int.tmod_eq_emod_of_nonneg hk]
  have h2 := Int.emod_nonneg (IntKind.u64.wrap x) (show c ≠ 0 by omega)
  have h3 := Int.emod_lt_of_pos (IntKind.u64.wrap x) h0
  rw [w64 (by omega) (by omega)]
  exact ⟨(IntKind.u64.wrap x % c).toNat, by omega, by omega⟩
theorem split_pre {s : ByteArray} (h : s.size ≤ 1000000) : split.pre (s, ()) = true := by
  show (fits .str s && (decide (s.size ≤ 1000000) && true)) = true
  rw [str_fits h, dec_t h]; rfl

theorem sg_good {x : List UInt8} {l : List (List UInt8)} {i : Nat} {out : List Ln} (h : ml x = true) (hw : (wl x).length ≠ 0) : sg (x :: l) i out = sg l (i + 1) (out ++ [((i : Int) + 1, (wl x).map mk)]) := by
  rw [sg, if_pos h, if_neg hw]
theorem sg_none {x : List UInt8} {l : List (List UInt8)} {i : Nat} {out : List Ln} (h : ml x = true) (hw : (wl x).length = 0) : sg (x :: l) i out = sg l (i + 1) out := by
  rw [sg, if_pos h, if_pos hw]
theorem sg_bad {x : List UInt8} {l : List (List UInt8)} {i : Nat} {out : List Ln} (h : ml x = false) : sg (x :: l) i out = ([], (i : Int) + 1, 2) := by
  rw [sg, if_neg (by rw [h]; exact Bool.false_ne_true)]

/-- A line that begins with a byte that is neither blank nor mark has a word. -/
theorem wl_ne {b : UInt8} {l : List UInt8} (h1 : b ≠ 35) (h2 : ¬ (b.toNat : Int) = 32) : (wl (b :: l)).length ≠ 0 := by
  have h1 : (b != 35) = true := by simpa using h1
  unfold wl
  rw [List.takeWhile_cons, h1]
  obtain ⟨x, r, hx⟩ := spl_cons 32 (l.takeWhile (· != 35))
  simp only [if_true]
  rw [spl_on h2 hx]
  simp

def rep : Nat → List UInt8
  | 0 => []
  | n + 1 => rep n ++ [97, 32, 98, 10]
theorem rep_length : ∀ n, (rep n).length = 4 * n
  | 0 => rfl
  | n + 1 => by rw [rep, List.length_append, rep_length n]; simp; omega
theorem spl_rep : ∀ (n : Nat) (t : List UInt8), spl 10 (rep n ++ t) = List.replicate n [97, 32, 98] ++ spl 10 t
  | 0, t => rfl
  | n + 1, t => by
    rw [rep, List.append_assoc, spl_rep n]
    have : spl 10 ([97, 32, 98, 10] ++ t) = [97, 32, 98] :: spl 10 t := spl_app (c := 10) (a := [97, 32, 98]) (l := t) (b := 10) (by decide) (by decide)
    rw [this, List.replicate_succ', List.append_assoc]
    rfl
theorem sg_rep : ∀ (n i : Nat) (out : List Ln) (rest : List (List UInt8)), ∃ out', out'.length = out.length + n ∧ sg (List.replicate n [97, 32, 98] ++ rest) i out = sg rest (i + n) out'
  | 0, i, out, rest => ⟨out, rfl, rfl⟩
  | n + 1, i, out, rest => by
    obtain ⟨out', h1, h2⟩ := sg_rep n (i + 1) (out ++ [((i : Int) + 1, (wl [97, 32, 98]).map mk)]) rest
    refine ⟨out', by rw [h1]; simp; omega, ?_⟩
    rw [List.replicate_succ, List.cons_append, sg_good (by decide) (by decide), h2, show i + 1 + n = i + (n + 1) by omega]

theorem sg_all {n : Nat} {t : List UInt8} (h : (rep n ++ t).length ≤ 4000) : ∃ out, out.length = n ∧ splitL (mk (rep n ++ t)) = sg (spl 10 t) n out := by
  obtain ⟨out, h1, h2⟩ := sg_rep n 0 [] (spl 10 t)
  refine ⟨out, by simpa using h1, ?_⟩
  rw [splitL_eq (by rw [mk_size]; exact h), bs_mk, spl_rep, h2, Nat.zero_add]

section
variable {n : Nat} {cb : UInt8} (hn : n < 20)
include hn

theorem wrong_ok (h1 : 32 ≤ (cb.toNat : Int)) (h2 : (cb.toNat : Int) ≤ 126) : ∃ out, n + 1 ≤ out.length ∧ splitL (mk (rep n ++ ([120, cb] ++ [10, 122]))) = (out, 0, 0) := by
  obtain ⟨out, e1, e2⟩ := sg_all (n := n) (t := [120, cb] ++ [10, 122]) (by rw [List.length_append, rep_length]; simp; omega)
  have hs : spl 10 ([120, cb] ++ [10, 122]) = [120, cb] :: [[122]] := spl_app (c := 10) (a := [120, cb]) (l := [122]) (b := 10) (fun b hb => by
    rcases List.mem_cons.1 hb with rfl | hb
    · decide
    · cases List.mem_singleton.1 hb; omega) (by decide)
  have hm : ml [120, cb] = true := by
    have : okB cb = true := by unfold okB; rw [dec_t h1, dec_t h2]; rfl
    unfold ml
    rw [List.all_cons, List.all_cons, this]; rfl
  rw [e2, hs, sg_good hm (wl_ne (by decide) (by decide)), sg_good (by decide) (by decide)]
  exact ⟨_, by simp; omega, rfl⟩

theorem wrong_nl (h1 : (cb.toNat : Int) = 10) : ∃ out, n + 1 ≤ out.length ∧ splitL (mk (rep n ++ ([120, cb] ++ [10, 122]))) = (out, 0, 0) := by
  obtain ⟨out, e1, e2⟩ := sg_all (n := n) (t := [120, cb] ++ [10, 122]) (by rw [List.length_append, rep_length]; simp; omega)
  have hs : spl 10 ([120, cb] ++ [10, 122]) = [120] :: [] :: [[122]] := (spl_app (c := 10) (a := [120]) (l := [10, 122]) (b := cb) (by decide) h1).trans rfl
  rw [e2, hs, sg_good (by decide) (by decide), sg_none (by decide) (by decide), sg_good (by decide) (by decide)]
  exact ⟨_, by simp; omega, rfl⟩

theorem wrong_bad (h0 : (cb.toNat : Int) ≠ 10) (h1 : ¬ (32 ≤ (cb.toNat : Int) ∧ (cb.toNat : Int) ≤ 126)) : splitL (mk (rep n ++ ([120, cb] ++ [10, 122]))) = ([], (n : Int) + 1, 2) := by
  obtain ⟨out, e1, e2⟩ := sg_all (n := n) (t := [120, cb] ++ [10, 122]) (by rw [List.length_append, rep_length]; simp; omega)
  have hs : spl 10 ([120, cb] ++ [10, 122]) = [120, cb] :: [[122]] := spl_app (c := 10) (a := [120, cb]) (l := [122]) (b := 10) (fun b hb => by
    rcases List.mem_cons.1 hb with rfl | hb
    · decide
    · cases List.mem_singleton.1 hb; exact h0) (by decide)
  have hm : ml [120, cb] = false := by
    have : okB cb = false := by
      unfold okB
      by_cases h : 32 ≤ (cb.toNat : Int)
      · rw [dec_t h, dec_f (show ¬ (cb.toNat : Int) ≤ 126 by omega)]; rfl
      · rw [dec_f h]; rfl
    unfold ml
    rw [List.all_cons, List.all_cons, this]; rfl
  rw [e2, hs, sg_bad hm]

omit hn in
theorem ml_long {l : List UInt8} (h : 200 < l.length) : ml l = false := by unfold ml; rw [dec_f (by omega), Bool.and_false]

theorem long_nl {y : List UInt8} (hy : y.length = 220) (hy2 : ∀ b ∈ y, ¬ (b.toNat : Int) = 10) (h1 : (cb.toNat : Int) = 10) : splitL (mk (rep n ++ (([120, cb] ++ y) ++ [10, 122]))) = ([], ((n + 1 : Nat) : Int) + 1, 2) := by
  obtain ⟨out, e1, e2⟩ := sg_all (n := n) (t := ([120, cb] ++ y) ++ [10, 122]) (by rw [List.length_append, rep_length, List.length_append, List.length_append, hy]; simp; omega)
  have h2 : spl 10 (y ++ 10 :: [122]) = y :: spl 10 [122] := spl_app hy2 (by decide)
  have hs : spl 10 (([120, cb] ++ y) ++ [10, 122]) = [120] :: y :: spl 10 [122] := by
    rw [← h2, List.append_assoc]
    exact spl_app (c := 10) (a := [120]) (l := y ++ 10 :: [122]) (b := cb) (by decide) h1
  rw [e2, hs, sg_good (by decide) (by decide), sg_bad (ml_long (by omega))]

theorem long_on {y : List UInt8} (hy : y.length = 220) (hy2 : ∀ b ∈ y, ¬ (b.toNat : Int) = 10) (h1 : (cb.toNat : Int) ≠ 10) : splitL (mk (rep n ++ (([120, cb] ++ y) ++ [10, 122]))) = ([], (n : Int) + 1, 2) := by
  obtain ⟨out, e1, e2⟩ := sg_all (n := n) (t := ([120, cb] ++ y) ++ [10, 122]) (by rw [List.length_append, rep_length, List.length_append, List.length_append, hy]; simp; omega)
  have hs : spl 10 (([120, cb] ++ y) ++ [10, 122]) = ([120, cb] ++ y) :: spl 10 [122] := spl_app (fun b hb => by
    rcases List.mem_append.1 hb with hb | hb
    · rcases List.mem_cons.1 hb with rfl | hb
      · decide
      · cases List.mem_singleton.1 hb; exact h1
    · exact hy2 b hb) (by decide)
  rw [e2, hs, sg_bad (ml_long (by rw [List.length_append, hy]; simp))]

end

theorem byte_cb {c : Int} (h0 : 0 ≤ c) (h1 : c ≤ 255) : ((UInt8.ofNat c.toNat).toNat : Int) = c := by
  rw [UInt8.toNat_ofNat']
  omega

theorem xc_eq (c : Int) : (⟨#[120]⟩ : ByteArray) ++ bytesStr (c :: ([] : List Int)) = mk [120, UInt8.ofNat c.toNat] := mk_append [120] [UInt8.ofNat c.toNat]
theorem txt_eq (n : Nat) (l : List UInt8) : (mk (rep n) ++ mk l) ++ (⟨#[10, 122]⟩ : ByteArray) = mk (rep n ++ (l ++ [10, 122])) := by
  rw [show (⟨#[10, 122]⟩ : ByteArray) = mk [10, 122] from rfl, mk_append, mk_append, List.append_assoc]

theorem wrong_l1 {n : Nat} {x0 c : Int} {b : Bool} (hn : n < 20) (m : Nat) : ∀ (d k : Nat), n = k + d →
    lWrong.l1 (m + (d + 1)) x0 c b (mk (rep k)) (n : Int) (k : Int) = lWrong.l1 (m + 1) x0 c b (mk (rep n)) (n : Int) (n : Int)
  | 0, k, h => by
    have : k = n := by omega
    rw [this, Nat.zero_add]
  | d + 1, k, h => by
    refine (lWrong.s1 (m + (d + 1)) x0 c b (mk (rep k)) _ _).trans ?_
    have e : mk (rep k) ++ (⟨#[97, 32, 98, 10]⟩ : ByteArray) = mk (rep (k + 1)) := mk_append (rep k) [97, 32, 98, 10]
    rw [cond_dt (by omega), test_d (by rw [mk_size, rep_length]; show 4 * k + 4 ≤ _; omega), w64s (by omega), e]
    exact wrong_l1 hn m d (k + 1) (by omega)

theorem wrong_l2 {x0 c : Int} {w : ByteArray} {cb : UInt8} (m : Nat) : ∀ (d k : Nat), 220 = k + d →
    lWrong.l2 (m + (d + 1)) x0 c w (mk ([120, cb] ++ List.replicate k 121)) (k : Int) = lWrong.l2 (m + 1) x0 c w (mk ([120, cb] ++ List.replicate 220 121)) (220 : Int)
  | 0, k, h => by
    have : k = 220 := by omega
    rw [this, Nat.zero_add]; rfl
  | d + 1, k, h => by
    refine (lWrong.s2 (m + (d + 1)) x0 c w _ _).trans ?_
    have e : mk ([120, cb] ++ List.replicate k 121) ++ (⟨#[121]⟩ : ByteArray) = mk ([120, cb] ++ List.replicate (k + 1) 121) := by
      rw [List.replicate_succ', ← List.append_assoc]
      exact mk_append ([120, cb] ++ List.replicate k 121) [121]
    rw [cond_dt (by omega), test_d (by rw [mk_size]; simp; show _ + 1 ≤ _; omega), w64s (by omega), e]
    exact wrong_l2 m d (k + 1) (by omega)

theorem lWrong_R : lWrong.Law := fun x0 c b hx => by
  have h : (true && (true && (true && (decide (0 ≤ c ∧ c ≤ 255) && true)))) = true := hx
  simp only [Bool.true_and, Bool.and_true, decide_eq_true_eq] at h
  have hh : ∃ d, lWrong.go d x0 c b = some (vb true, []) := by
    obtain ⟨n, e0, h0⟩ := drawn x0 (c := 20) (by omega) (by omega)
    have hn : n < 20 := by omega
    have hc := byte_cb h.1 h.2
    generalize hcb : UInt8.ofNat c.toNat = cb at hc
    have hr := rep_length n
    have w1 : IntKind.i64.wrap ((n : Int) + 1) = (n : Int) + 1 := w64 (by omega) (by omega)
    have w2 : IntKind.i64.wrap ((n : Int) + 1 + 1) = (n : Int) + 1 + 1 := w64 (by omega) (by omega)
    have sz1 : ∀ l : List UInt8, (mk (rep n)).size + (mk l).size = 4 * n + l.length := fun l => by rw [mk_size, mk_size, hr]
    have sz2 : ∀ l : List UInt8, (mk (rep n) ++ mk l).size + (⟨#[10, 122]⟩ : ByteArray).size = 4 * n + l.length + 2 := fun l => by rw [mk_append, mk_size, List.length_append, hr]; rfl
    have sz3 : ∀ l : List UInt8, (mk (rep n ++ (l ++ [10, 122]))).size = 4 * n + l.length + 2 := fun l => by rw [mk_size, List.length_append, hr, List.length_append]; show 4 * n + (l.length + 2) = _; omega
    refine ⟨221 + (n + 1) + 1, ?_⟩
    rw [lWrong.start, e0]
    refine (wrong_l1 hn 221 n 0 (by omega)).trans ?_
    refine (lWrong.s1 221 (n : Int) c b (mk (rep n)) _ _).trans ?_
    rw [cond_df (by omega), xc_eq, hcb]
    have long : lWrong.l2 221 (n : Int) c (mk (rep n)) (mk [120, cb]) 0 = some (vb true, []) := by
      refine (wrong_l2 (x0 := (n : Int)) (c := c) (w := mk (rep n)) (cb := cb) 0 220 0 (by omega)).trans ?_
      refine (lWrong.s2 0 (n : Int) c (mk (rep n)) _ _).trans ?_
      have hy : (List.replicate 220 (121 : UInt8)).length = 220 := List.length_replicate
      have hy2 : ∀ b ∈ List.replicate 220 (121 : UInt8), ¬ (b.toNat : Int) = 10 := fun b hb => by rw [List.eq_of_mem_replicate hb]; decide
      generalize List.replicate 220 (121 : UInt8) = y at hy hy2
      have hl : ([120, cb] ++ y : List UInt8).length = 222 := by rw [List.length_append, hy]; rfl
      have l1 := fun h => long_nl (n := n) (cb := cb) hn hy hy2 h
      have l2 := fun h => long_on (n := n) (cb := cb) hn hy hy2 h
      generalize ([120, cb] ++ y : List UInt8) = L at hl l1 l2
      rw [cond_df (by omega), txt_eq]
      by_cases h10 : c = 10
      · rw [cond_et h10, test_d (by rw [sz1]; omega), test_d (by rw [sz2]; omega), test_true (split_pre (by rw [sz3]; omega)), l1 (by omega), w1, w2]
        dsimp only
        rw [cond_et rfl, cond_et (by omega), cond_et (by rfl)]
        rfl
      · rw [cond_ef h10, test_d (by rw [sz1]; omega), test_d (by rw [sz2]; omega), test_true (split_pre (by rw [sz3]; omega)), l2 (by omega), w1]
        dsimp only
        rw [cond_et rfl, cond_et rfl, cond_et (by rfl)]
        rfl
    have hl : ([120, cb] : List UInt8).length = 2 := rfl
    have good : ∀ {out : List Ln}, n + 1 ≤ out.length → splitL (mk (rep n ++ ([120, cb] ++ [10, 122]))) = (out, 0, 0) →
        cond ((splitL (mk (rep n ++ ([120, cb] ++ [10, 122])))).2.2 == 0) (cond ((splitL (mk (rep n ++ ([120, cb] ++ [10, 122])))).2.1 == 0)
          (cond (decide (((splitL (mk (rep n ++ ([120, cb] ++ [10, 122])))).1.length : Int) ≥ IntKind.i64.wrap ((n : Int) + 1))) (some (vb true, ([] : List (Nat × Box)))) (some (vb false, []))) (some (vb false, []))) (some (vb false, [])) = some (vb true, []) := fun hl e => by
      rw [e, w1]
      dsimp only
      rw [cond_et rfl, cond_et rfl, cond_dt (by omega)]
    have bad : splitL (mk (rep n ++ ([120, cb] ++ [10, 122]))) = ([], (n : Int) + 1, 2) →
        cond ((splitL (mk (rep n ++ ([120, cb] ++ [10, 122])))).2.2 == 2) (cond ((splitL (mk (rep n ++ ([120, cb] ++ [10, 122])))).2.1 == IntKind.i64.wrap ((n : Int) + 1))
          (cond (((splitL (mk (rep n ++ ([120, cb] ++ [10, 122])))).1.length : Int) == 0) (some (vb true, ([] : List (Nat × Box)))) (some (vb false, []))) (some (vb false, []))) (some (vb false, [])) = some (vb true, []) := fun e => by
      rw [e, w1]
      dsimp only
      rw [cond_et rfl, cond_et rfl, cond_et (by rfl)]
    have t1 : (mk (rep n)).size + (mk [120, cb]).size ≤ 9223372036854775807 := by rw [sz1]; omega
    have t2 : (mk (rep n) ++ mk [120, cb]).size + (⟨#[10, 122]⟩ : ByteArray).size ≤ 9223372036854775807 := by rw [sz2]; omega
    have t3 := split_pre (s := mk (rep n ++ ([120, cb] ++ [10, 122]))) (by rw [sz3]; omega)
    have other : ¬ (32 ≤ c ∧ c ≤ 126) → cond (c == 10) (cond ((splitL (mk (rep n ++ ([120, cb] ++ [10, 122])))).2.2 == 0) (cond ((splitL (mk (rep n ++ ([120, cb] ++ [10, 122])))).2.1 == 0)
          (cond (decide (((splitL (mk (rep n ++ ([120, cb] ++ [10, 122])))).1.length : Int) ≥ IntKind.i64.wrap ((n : Int) + 1))) (some (vb true, ([] : List (Nat × Box)))) (some (vb false, []))) (some (vb false, []))) (some (vb false, [])))
        (cond ((splitL (mk (rep n ++ ([120, cb] ++ [10, 122])))).2.2 == 2) (cond ((splitL (mk (rep n ++ ([120, cb] ++ [10, 122])))).2.1 == IntKind.i64.wrap ((n : Int) + 1))
          (cond (((splitL (mk (rep n ++ ([120, cb] ++ [10, 122])))).1.length : Int) == 0) (some (vb true, ([] : List (Nat × Box)))) (some (vb false, []))) (some (vb false, []))) (some (vb false, []))) = some (vb true, []) := fun hno => by
      by_cases h10 : c = 10
      · obtain ⟨out, g1, g2⟩ := wrong_nl (n := n) (cb := cb) hn (by omega)
        rw [cond_et h10]
        exact good g1 g2
      · rw [cond_ef h10]
        exact bad (wrong_bad hn (by omega) (by omega))
    rw [txt_eq]
    by_cases h1 : c ≥ 32
    · rw [cond_dt h1]
      by_cases h2 : c ≤ 126
      · rw [cond_dt h2]
        cases b with
        | true => rw [cond_true]; exact long
        | false =>
          obtain ⟨out, g1, g2⟩ := wrong_ok (n := n) (cb := cb) hn (by omega) (by omega)
          rw [cond_false, test_d t1, test_d t2, test_true t3]
          exact good g1 g2
      · rw [cond_df h2]
        cases b with
        | true => rw [cond_true]; exact long
        | false =>
          rw [cond_false, test_d t1, test_d t2, test_true t3]
          exact other (by omega)
    · rw [cond_df h1]
      cases b with
      | true => rw [cond_true]; exact long
      | false =>
        rw [cond_false, test_d t1, test_d t2, test_true t3]
        exact other (by omega)
  obtain ⟨d, hd⟩ := hh
  exact lWrong.ret (awake_ok.cons' (split_ok.cons' .nil)) x0 c b hd

theorem lWrong_pre (x0 c : Int) (b : Bool) (hx : wfs [(false, .int .i64), (false, .int .u8), (false, .bool)] (x0, c, b, ())) : lWrong.pre (x0, c, b, ()) = true := by
  have b2 : 0 ≤ c ∧ c ≤ 255 := hx.2.1
  show (true && (true && (true && (decide (0 ≤ c ∧ c ≤ 255) && true)))) = true
  rw [dec_t b2]; rfl

end Go.Proofs.Ytcjlebkfekfkbaa
