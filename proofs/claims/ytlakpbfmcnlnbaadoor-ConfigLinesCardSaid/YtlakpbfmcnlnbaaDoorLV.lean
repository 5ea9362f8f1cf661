/-
  Configurations: a name twice; a line that is wrong; one line alone.
-/
import Derived.Test.YtlakpbfmcnlnbaaDoorLU
namespace Go.Proofs.YtlakpbfmcnlnbaaDoor
open Go VE

/-! ### the text's parts -/

noncomputable def lnsG (N : List Int) (Z : ByteArray) (I : List Nat) : List ByteArray := I.map fun i => joinW (rowI N Z i)
theorem parts_rows {N : List Int} {Z : ByteArray} (h : Good N Z) {I : List Nat} (hI : ∀ i ∈ I, i < 23) {s : ByteArray} (hs : bs s = txt (I.map (rowI N Z))) : partsL s 10 = lnsG N Z I ++ [⟨#[]⟩] := by
  have := spl_rows (I.map (rowI N Z)) [] (rows_plain h hI)
  rw [List.append_nil, ← hs] at this
  rw [partsL_eq, this, List.map_append, List.map_map, List.map_map]
  have e : ((mk ∘ fun r => bs (joinW r)) ∘ rowI N Z) = fun i => joinW (rowI N Z i) := by funext i; exact mk_bs _
  show List.map ((mk ∘ fun r => bs (joinW r)) ∘ rowI N Z) I ++ _ = _
  rw [e]
  rfl
noncomputable abbrev lnsC (c : El TConfig) : List ByteArray := lnsG (numsL c) (cZone c) (List.range 23)
theorem parts_may {c : El TConfig} (h : mayC c = true) : partsL (textC c) 10 = lnsC c ++ [⟨#[]⟩] := parts_rows (good_may h) range_lt (text_bs h)
theorem lns_len (c : El TConfig) : (lnsC c).length = 23 := by show (List.map _ (List.range 23)).length = 23; rw [List.length_map, List.length_range]
theorem lns_at (N : List Int) (Z : ByteArray) {k : Nat} (h : k < 23) : rdEl .str (lnsG N Z (List.range 23)) k = joinW (rowI N Z k) := by
  show (List.map (fun i => joinW (rowI N Z i)) (List.range 23)).getD k _ = _
  rw [List.getD_eq_getElem?_getD, List.getElem?_map, List.getElem?_range h]
  rfl
theorem line_size {N : List Int} {Z : ByteArray} (h : Good N Z) {k : Nat} (hk : k < 23) : (joinW (rowI N Z k)).size ≤ 26 := row_lenW (row_plain h hk).2.2
theorem parts_len {c : El TConfig} (h : mayC c = true) : (partsL (textC c) 10).length = 24 := by rw [parts_may h, List.length_append, lns_len]; rfl
theorem w23 : IntKind.i64.wrap ((24 : Int) - 1) = 23 := by decide
theorem w24 : IntKind.i64.wrap ((23 : Int) + 1) = 24 := by decide
theorem parts_init {c : El TConfig} (h : mayC c = true) : List.drop 0 (List.take (Int.toNat (IntKind.i64.wrap (((List.length (partsL (textC c) (10 : Int))) : Int) - (1 : Int)))) (partsL (textC c) (10 : Int))) = lnsC c := by
  rw [parts_len h]
  show List.drop 0 (List.take (Int.toNat (IntKind.i64.wrap ((24 : Int) - (1 : Int)))) (partsL (textC c) (10 : Int))) = lnsC c
  rw [w23, parts_may h, List.drop_zero]
  show List.take 23 (lnsC c ++ [⟨#[]⟩]) = lnsC c
  rw [List.take_append_of_le_length (by rw [lns_len]; exact Nat.le_refl _), List.take_of_length_le (by rw [lns_len]; exact Nat.le_refl _)]
theorem parts_pre (c : El TConfig) : partsR.pre (textC c, (10 : Int), ()) = true := by
  have := text_size c
  show (fits .str (textC c) && (true && (decide (ByteArray.size (textC c) ≤ 10000) && true))) = true
  rw [str_fits (by omega), dec_t (by omega)]; rfl

theorem mod_nat (n : Int) {m : Nat} (hm : 0 < m) (hm2 : m ≤ 100) : ∃ k : Nat, k < m ∧ IntKind.i64.wrap (Int.tmod (IntKind.u64.wrap n) (IntKind.u64.wrap (m : Int))) = (k : Int) := by
  have e1 : IntKind.u64.wrap (m : Int) = (m : Int) := by
    simp [IntKind.wrap, IntKind.bits, IntKind.signed]
    omega
  have h0 : 0 ≤ IntKind.u64.wrap n := by
    simp [IntKind.wrap, IntKind.bits, IntKind.signed]
    omega
  rw [e1, Int.tmod_eq_emod_of_nonneg h0]
  have h1 := Int.emod_nonneg (IntKind.u64.wrap n) (show (m : Int) ≠ 0 by omega)
  have h2 := Int.emod_lt_of_pos (IntKind.u64.wrap n) (show (0 : Int) < m by omega)
  refine ⟨(IntKind.u64.wrap n % (m : Int)).toNat, by omega, ?_⟩
  rw [w64 (by omega) (by omega)]
  omega

/-! ### a name twice -/

theorem parse_dup {N : List Int} {Z : ByteArray} (h : Good N Z) {I : List Nat} (hd : I.Nodup) (hI : ∀ i ∈ I, i < 23) (hl : I.length ≤ 23) {i : Nat} (hi : i ∈ I) {s : ByteArray} (hs : bs s = txt ((I ++ [i]).map (rowI N Z))) : parseC s = (zeroC, (I.length : Int) + 1, 2) := by
  have hI2 : ∀ j ∈ I ++ [i], j < 23 := fun j hj => by
    rcases List.mem_append.1 hj with hj | hj
    · exact hI j hj
    · rw [List.mem_singleton.1 hj]; exact hI i hi
  have hp := rows_plain h hI2
  have hz := txt_len hp
  rw [List.length_map, List.length_append, List.length_singleton] at hz
  have e : splitL s = (numb 0 (I.map (rowI N Z)) ++ [((I.length : Int) + 1, rowI N Z i)], 0, 0) := by
    rw [split_rows (u := []) hp (by rw [← bs_length, hs]; omega) (by rw [List.append_nil]; exact hs), List.map_append, numb_app, Nat.zero_add, List.length_map]
    rfl
  have e2 := parse_fields h [((I.length : Int) + 1, rowI N Z i)] I (numsL defC) ⟨#[]⟩ [] 0 hd (fun i hi => ⟨hI i hi, fun h => by cases h⟩) rfl rfl
  unfold parseC
  rw [e, if_pos rfl]
  dsimp only
  rw [e2]
  unfold rowI
  rw [parseG]
  have hm : i ∈ I.reverse ++ ([] : List Nat) := by rw [List.append_nil]; exact List.mem_reverse.2 hi
  simp only [rowAt_row (hI i hi), if_pos hm]

def rot (k : Nat) : List Nat := (List.range 23).map fun j => (j + k) % 23
theorem rot_all : ((List.range 23).all fun k => decide (rot k).Nodup && ((List.range 23).all fun i => (rot k).contains i)) = true := by decide +kernel
theorem rot_ok {k : Nat} (hk : k < 23) : (rot k).Nodup ∧ (∀ i ∈ rot k, i < 23) ∧ (∀ i, i < 23 → i ∈ rot k) := by
  have := List.all_eq_true.1 rot_all k (List.mem_range.2 hk)
  obtain ⟨h1, h2⟩ := Bool.and_eq_true_iff.1 this
  refine ⟨of_decide_eq_true h1, fun i hi => ?_, fun i hi => ?_⟩
  · obtain ⟨j, _, rfl⟩ := List.mem_map.1 hi
    exact Nat.mod_lt _ (by decide)
  · have := List.all_eq_true.1 h2 i (List.mem_range.2 hi)
    simpa using this

/-- The first lines, turned. -/
noncomputable def rt (N : List Int) (Z : ByteArray) (k i : Nat) : List UInt8 := txt (((List.range i).map fun j => (j + k) % 23).map (rowI N Z))
theorem txt_one (r : List ByteArray) : txt [r] = bs (joinW r ++ (⟨#[10]⟩ : ByteArray)) := by rw [bs_append]; rfl
theorem rt_succ (N : List Int) (Z : ByteArray) (k i : Nat) : rt N Z k (i + 1) = rt N Z k i ++ bs (joinW (rowI N Z ((i + k) % 23)) ++ (⟨#[10]⟩ : ByteArray)) := by
  unfold rt
  rw [List.range_succ, List.map_append, List.map_append, txt_app, ← txt_one]
  rfl
theorem rt_len {N : List Int} {Z : ByteArray} (h : Good N Z) {k i : Nat} (hi : i ≤ 23) : (rt N Z k i).length ≤ 2415 := by
  have := txt_len (rows_plain h (I := (List.range i).map fun j => (j + k) % 23) fun j hj => by
    obtain ⟨a, _, rfl⟩ := List.mem_map.1 hj
    exact Nat.mod_lt _ (by decide))
  rw [List.length_map, List.length_map, List.length_range] at this
  unfold rt
  omega

noncomputable def tw (m : Nat) (c : El TConfig) (k : Int) (X : ByteArray) (i : Int) : R :=
  lTwice.l1 m (lnsC c) k X 23 i c.1 c.2.1 c.2.2.1 c.2.2.2.1 c.2.2.2.2.1 c.2.2.2.2.2.1 c.2.2.2.2.2.2.1 c.2.2.2.2.2.2.2.1 c.2.2.2.2.2.2.2.2.1 c.2.2.2.2.2.2.2.2.2.1 c.2.2.2.2.2.2.2.2.2.2.1 c.2.2.2.2.2.2.2.2.2.2.2.1 c.2.2.2.2.2.2.2.2.2.2.2.2.1 c.2.2.2.2.2.2.2.2.2.2.2.2.2.1 c.2.2.2.2.2.2.2.2.2.2.2.2.2.2.1 c.2.2.2.2.2.2.2.2.2.2.2.2.2.2.2.1 c.2.2.2.2.2.2.2.2.2.2.2.2.2.2.2.2.1 c.2.2.2.2.2.2.2.2.2.2.2.2.2.2.2.2.2.1 c.2.2.2.2.2.2.2.2.2.2.2.2.2.2.2.2.2.2.1 c.2.2.2.2.2.2.2.2.2.2.2.2.2.2.2.2.2.2.2.1 c.2.2.2.2.2.2.2.2.2.2.2.2.2.2.2.2.2.2.2.2.1 c.2.2.2.2.2.2.2.2.2.2.2.2.2.2.2.2.2.2.2.2.2.1 c.2.2.2.2.2.2.2.2.2.2.2.2.2.2.2.2.2.2.2.2.2.2

theorem q10 : (⟨#[10]⟩ : ByteArray).size = 1 := rfl
theorem q32 : (⟨#[32]⟩ : ByteArray).size = 1 := rfl

theorem tw_l1 {c : El TConfig} (h : mayC c = true) {k : Nat} (hk : k < 23) : ∀ (d i m : Nat), i + d = 23 → tw (m + d + 1) c (k : Int) (mk (rt (numsL c) (cZone c) k i)) (i : Int) = some (vb true, [])
  | 0, i, m, hi => by
    have hG := good_may h
    have : i = 23 := by omega
    subst this
    obtain ⟨r1, r2, r3⟩ := rot_ok hk
    have e1 : bs (mk (rt (numsL c) (cZone c) k 23)) = txt ((rot k).map (rowI (numsL c) (cZone c))) := by rw [bs_mk]; rfl
    have hlen : (rot k).length = 23 := by unfold rot; rw [List.length_map, List.length_range]
    have p1 : parseC (mk (rt (numsL c) (cZone c) k 23)) = (c, 0, 0) := by
      rw [parse_rows hG r1 r2 e1 (by omega), fold_all hG rfl r2 r3, made_back]
    have hl := lns_at (numsL c) (cZone c) hk
    have e2 : bs ((mk (rt (numsL c) (cZone c) k 23) ++ joinW (rowI (numsL c) (cZone c) k)) ++ (⟨#[10]⟩ : ByteArray)) = txt ((rot k ++ [k]).map (rowI (numsL c) (cZone c))) := by
      rw [List.map_append, txt_app, ← e1, show [k].map (rowI (numsL c) (cZone c)) = [rowI (numsL c) (cZone c) k] from rfl, txt_one, bs_append, bs_append, bs_append, List.append_assoc]
    have p2 : parseC ((mk (rt (numsL c) (cZone c) k 23) ++ joinW (rowI (numsL c) (cZone c) k)) ++ (⟨#[10]⟩ : ByteArray)) = (zeroC, 24, 2) := by
      rw [parse_dup hG r1 r2 (by omega) (r3 k hk) e2, hlen]; rfl
    have hX := rt_len hG (k := k) (Nat.le_refl 23)
    have hs1 : (mk (rt (numsL c) (cZone c) k 23)).size ≤ 2415 := by rw [mk_size]; exact hX
    have hs2 := line_size hG hk
    have hll := lns_len c
    show tw (m + 1) c (k : Int) _ (23 : Int) = _
    unfold tw
    rw [lTwice.s1, cond_df (by omega), test_true (parse_pre (by omega)), test_d (by omega), test_d (by omega), toNat_cast, hl, test_d (by omega), test_d (by rw [ByteArray.size_append, q10]; omega), test_true (parse_pre (by rw [ByteArray.size_append, ByteArray.size_append, q10]; omega)), p1, p2]
    dsimp only
    rw [beq_self_eq_true, cond_true]
    change cond (ceq c c) _ _ = _
    rw [ceq_refl, cond_true, beq_self_eq_true, cond_true, hll]
    rfl
  | d + 1, i, m, hi => by
    have hG := good_may h
    have hX := rt_len hG (k := k) (i := i) (by omega)
    have hs1 : (mk (rt (numsL c) (cZone c) k i)).size ≤ 2415 := by rw [mk_size]; exact hX
    have hj : (i + k) % 23 < 23 := Nat.mod_lt _ (by decide)
    have hs2 := line_size hG hj
    have hl := lns_at (numsL c) (cZone c) hj
    have hll := lns_len c
    have e1 : Int.tmod (IntKind.i64.wrap ((i : Int) + (k : Int))) ((List.length (lnsC c) : Nat) : Int) = (((i + k) % 23 : Nat) : Int) := by
      rw [hll, w64 (by omega) (by omega), Int.tmod_eq_emod_of_nonneg (by omega)]
      omega
    have ih := tw_l1 h hk d (i + 1) m (by omega)
    rw [rt_succ, ← mk_append, mk_bs] at ih
    rw [show m + (d + 1) + 1 = (m + d + 1) + 1 by omega]
    unfold tw at ih ⊢
    rw [lTwice.s1, cond_dt (by omega), e1]
    refine (test_true (by rw [hll]; rfl)).trans ?_
    rw [test_d (by omega), test_d (by omega), toNat_cast, hl, test_d (by rw [q10]; omega), test_d (by rw [ByteArray.size_append, q10]; omega), w64s (by omega)]
    exact ih

theorem lTwice_R : lTwice.Law := fun c n hx => by
  have h0 : (fits TConfig c && (true && (decide (-9223372036854775808 ≤ n ∧ n ≤ 9223372036854775807) && true))) = true := hx
  obtain ⟨hc, _⟩ := Bool.and_eq_true_iff.1 h0
  have pc : mayCR.pre (c, ()) = true := by show (fits TConfig c && true) = true; rw [hc]; rfl
  have tc : textR.pre (c, ()) = true := pc
  have hh : ∃ m, lTwice.go m c n = some (vb true, []) := by
    cases h : mayC c
    · exact ⟨1, by rw [lTwice.start, test_true pc, h]; rfl⟩
    · obtain ⟨k, hk, ek⟩ := mod_nat n (m := 23) (by decide) (by decide)
      refine ⟨0 + 23 + 1 + 1, ?_⟩
      have hl := tw_l1 h hk 23 0 0 rfl
      rw [lTwice.start, test_true pc, h, Bool.not_true, cond_false, test_true tc, test_true (parts_pre c), parts_init h, lns_len, parts_len h]
      rw [cond_df (by omega)]
      refine (test_d (by decide)).trans ((test_d (by decide)).trans ((test_true (by decide)).trans ?_))
      rw [show ((23 : Nat) : Int) = 23 from rfl] at ek
      rw [show ((23 : Nat) : Int) = 23 from rfl, ek]
      exact hl
  obtain ⟨m, hm⟩ := hh
  exact lTwice.ret (awake_ok.cons' (mayCR_ok.cons' (partsR_ok.cons' (textR_ok.cons' (parse_ok.cons' .nil))))) c n hm
theorem lTwice_pre (c : El TConfig) (n : Int) (hx : wfs [(true, TConfig), (false, .int .i64)] (c, n, ())) : lTwice.pre (c, n, ()) = true := by
  have b2 : -9223372036854775808 ≤ n ∧ n ≤ 9223372036854775807 := hx.2.1
  have b1 : fits TConfig c = true := fits_of_wf _ _ hx.1
  show (fits TConfig c && (true && (decide (-9223372036854775808 ≤ n ∧ n ≤ 9223372036854775807) && true))) = true
  rw [b1, dec_t b2]; rfl

end Go.Proofs.YtlakpbfmcnlnbaaDoor
namespace Go.Proofs.YtlakpbfmcnlnbaaDoor
open Go VE

/-! ### one line alone -/

theorem parse_line {N : List Int} {Z : ByteArray} (h : Good N Z) {k : Nat} (hk : k < 23) : parseC (joinW (rowI N Z k)) = (madeC (put N Z (numsL defC, ⟨#[]⟩) k).1 (put N Z (numsL defC, ⟨#[]⟩) k).2, 0, 0) := by
  have hr := row_plain h hk
  have hs := line_size h hk
  have e : splitL (joinW (rowI N Z k)) = (numb 0 [rowI N Z k], 0, 0) := by
    rw [splitL_eq (by omega), spl_none fun b hb => by have := row_bytesW hr.2.2 b hb; omega]
    have := sg_rows [rowI N Z k] 0 [] [] (fun r hr2 => by rw [List.mem_singleton.1 hr2]; exact hr)
    exact this
  have e2 := parse_fields h [] [k] (numsL defC) ⟨#[]⟩ [] 0 (List.nodup_cons.2 ⟨fun h => (by cases h), List.nodup_nil⟩) (fun i hi => ⟨by rw [List.mem_singleton.1 hi]; exact hk, fun h => (by cases h)⟩) rfl rfl
  rw [List.append_nil, List.append_nil] at e2
  unfold parseC
  rw [e, if_pos rfl]
  dsimp only
  have e3 : numb 0 [rowI N Z k] = numb 0 ([k].map (rowI N Z)) := rfl
  rw [e3, e2, parseG]
  rfl
theorem put_good {N n : List Int} {Z z : ByteArray} (h : Good N Z) (hn : Good n z) {k : Nat} (hk : k < 23) : Good (put N Z (n, z) k).1 (put N Z (n, z) k).2 := by
  have hb := h.le k hk
  have h1 := hn.set hk hb.1 hb.2
  refine ⟨h1.len, h1.le, ?_⟩
  show zoneB (if k = 21 then Z else z) = true
  split
  · exact h.zone
  · exact hn.zone
theorem row_same {N n : List Int} {Z z : ByteArray} {i : Nat} (h : nth n i = nth N i) (hz : i = 21 → z = Z) : rowI n z i = rowI N Z i := by
  unfold rowI
  have : valB n z i = valB N Z i := by
    unfold valB
    by_cases i21 : i = 21
    · rw [if_pos i21, if_pos i21, hz i21]
    · rw [if_neg i21, if_neg i21]
      by_cases i20 : i = 20
      · rw [if_pos i20, if_pos i20]
        subst i20
        show rdEl .str polL (nth n 20 - 1).toNat = rdEl .str polL (nth N 20 - 1).toNat
        rw [h]
      · rw [if_neg i20, if_neg i20]
        show (if i = 15 ∨ i = 22 then yesW (nth n i == 1) else itoaB (nth n i)) = if i = 15 ∨ i = 22 then yesW (nth N i == 1) else itoaB (nth N i)
        rw [h]
  rw [this]
theorem lns_in {l : List ByteArray} {e : ByteArray} (hl : l.length = 23) {i : Nat} (hi : i < 23) : rdEl .str (l ++ [e]) i = rdEl .str l i := by
  show (l ++ [e]).getD i _ = l.getD i _
  rw [List.getD_eq_getElem?_getD, List.getD_eq_getElem?_getD, List.getElem?_append_left (by omega)]
theorem lns_end {l : List ByteArray} {e : ByteArray} (hl : l.length = 23) : rdEl .str (l ++ [e]) 23 = e := by
  show (l ++ [e]).getD 23 _ = e
  rw [List.getD_eq_getElem?_getD, List.getElem?_append_right (by omega), hl]
  rfl

theorem alone_l1 {L O Q : List ByteArray} {k : Nat} (hk : k < 23) (hL : L.length = 24) (hO : O.length = 24) (hQ : Q.length = 24) (h1 : rdEl .str O k = rdEl .str L k) (h2 : ∀ i, i < 24 → i ≠ k → rdEl .str O i = rdEl .str Q i) :
    ∀ (d i m : Nat), i + d = 24 → lAlone.l1 (m + d + 1) L (k : Int) O Q 24 (i : Int) = some (vb true, [])
  | 0, i, m, hi => by
    rw [lAlone.s1, cond_df (by omega)]; rfl
  | d + 1, i, m, hi => by
    have ih := alone_l1 hk hL hO hQ h1 h2 d (i + 1) m (by omega)
    rw [show m + (d + 1) + 1 = (m + d + 1) + 1 by omega, lAlone.s1, cond_dt (by omega)]
    by_cases e : i = k
    · subst e
      have b1 : ((i : Int) == (i : Int)) = true := by simp
      have b2 : bne (i : Int) (i : Int) = false := by simp
      rw [b1, cond_true, test_d (by omega), test_d (by omega), test_d (by omega), test_d (by omega), toNat_cast, h1, beq_self_eq_true, Bool.not_true, cond_false, b2, cond_false, w64s (by omega)]
      exact ih
    · have b1 : ((i : Int) == (k : Int)) = false := by
        have : ¬ (i : Int) = (k : Int) := by omega
        simpa using this
      have b2 : bne (i : Int) (k : Int) = true := by
        have : ¬ (i : Int) = (k : Int) := by omega
        simpa using this
      rw [b1, cond_false, b2, cond_true, test_d (by omega), test_d (by omega), test_d (by omega), test_d (by omega), toNat_cast, h2 i (by omega) e, beq_self_eq_true, Bool.not_true, cond_false, w64s (by omega)]
      exact ih

theorem lAlone_R : lAlone.Law := fun c n hx => by
  have h0 : (fits TConfig c && (true && (decide (-9223372036854775808 ≤ n ∧ n ≤ 9223372036854775807) && true))) = true := hx
  obtain ⟨hc, _⟩ := Bool.and_eq_true_iff.1 h0
  have pc : mayCR.pre (c, ()) = true := by show (fits TConfig c && true) = true; rw [hc]; rfl
  have tc : textR.pre (c, ()) = true := pc
  have hh : ∃ m, lAlone.go m c n = some (vb true, []) := by
    cases h : mayC c
    · exact ⟨1, by rw [lAlone.start, test_true pc, h]; rfl⟩
    · obtain ⟨k, hk, ek⟩ := mod_nat n (m := 23) (by decide) (by decide)
      have hG := good_may h
      refine ⟨0 + 24 + 1 + 1, ?_⟩
      have hp := parts_may h
      have hx : rdEl .str (partsL (textC c) 10) k = joinW (rowI (numsL c) (cZone c) k) := by rw [hp, lns_in (lns_len c) hk, lns_at _ _ hk]
      have hpl := parse_line hG hk
      have hG2 := put_good hG def_good hk
      generalize hs : put (numsL c) (cZone c) (numsL defC, ⟨#[]⟩) k = s at *
      have hm2 := may_good hG2
      have hp2 := parts_may hm2
      have hl2 := parts_len hm2
      have hf2 := good_fits hG2
      have tc2 : textR.pre (madeC s.1 s.2, ()) = true := by show (fits TConfig (madeC s.1 s.2) && true) = true; rw [hf2]; rfl
      have hmd : mayC defC = true := by kernel_rfl
      have hp3 := parts_may hmd
      have hl3 := parts_len hmd
      have e23 : IntKind.i64.wrap (((24 : Nat) : Int) - 1) = ((23 : Nat) : Int) := w23
      rw [lAlone.start, test_true pc, h, Bool.not_true, cond_false, test_true tc, test_true (parts_pre c), parts_len h, e23, ek, toNat_cast, hx, hpl]
      dsimp only
      rw [cond_df (by omega)]
      refine (test_true (by decide)).trans ((test_d (by omega)).trans ((test_d (by omega)).trans ((test_true (parse_pre (by have := line_size hG hk; omega))).trans ((test_true tc2).trans ((test_true (parts_pre _)).trans ?_)))))
      have b0 : bne (0 : Int) 0 = false := rfl
      have b24 : bne ((24 : Nat) : Int) ((24 : Nat) : Int) = false := rfl
      rw [hl2, hl3, b0, cond_false, b24, cond_false, cond_false]
      show lAlone.l1 (0 + 24 + 1) (partsL (textC c) 10) (k : Int) (partsL (textC (madeC s.1 s.2)) 10) (partsL (textC defC) 10) 24 0 = _
      have en : numsL (madeC s.1 s.2) = s.1 := nums_made hG2
      have own : ∀ i, i < 23 → rdEl .str (partsL (textC (madeC s.1 s.2)) 10) i = joinW (rowI s.1 s.2 i) := fun i hi => by
        rw [hp2, lns_in (lns_len _) hi, lns_at _ _ hi, en]
        rfl
      refine alone_l1 hk (parts_len h) hl2 hl3 ?_ (fun i hi hne => ?_) 24 0 0 rfl
      · rw [own k hk, hx]
        refine congrArg joinW (row_same ?_ fun e => ?_)
        · rw [← hs, put_nth rfl hk, if_pos rfl]
        · rw [← hs]
          show (if k = 21 then cZone c else _) = _
          rw [if_pos e]
      · by_cases hi2 : i < 23
        · rw [own i hi2, hp3, lns_in (lns_len _) hi2, lns_at _ _ hi2]
          refine congrArg joinW (row_same ?_ fun e => ?_)
          · rw [← hs, put_nth rfl hk, if_neg hne]
          · rw [← hs]
            show (if k = 21 then cZone c else (⟨#[]⟩ : ByteArray)) = _
            rw [if_neg (by omega)]; rfl
        · have : i = 23 := by omega
          subst this
          rw [hp2, hp3, lns_end (lns_len _), lns_end (lns_len _)]
  obtain ⟨m, hm⟩ := hh
  exact lAlone.ret (awake_ok.cons' (mayCR_ok.cons' (partsR_ok.cons' (textR_ok.cons' (parse_ok.cons' (cDef_ok.cons' .nil)))))) c n hm
theorem lAlone_pre (c : El TConfig) (n : Int) (hx : wfs [(true, TConfig), (false, .int .i64)] (c, n, ())) : lAlone.pre (c, n, ()) = true := by
  have b2 : -9223372036854775808 ≤ n ∧ n ≤ 9223372036854775807 := hx.2.1
  have b1 : fits TConfig c = true := fits_of_wf _ _ hx.1
  show (fits TConfig c && (true && (decide (-9223372036854775808 ≤ n ∧ n ≤ 9223372036854775807) && true))) = true
  rw [b1, dec_t b2]; rfl

/-! ### a line that is wrong -/

theorem lines_l1 {c : El TConfig} (h : mayC c = true) {B : List ByteArray} {M : ByteArray} {k : Nat} (hk : k ≤ 23) : ∀ (d i : Nat), i + d = k →
    ∀ m, lLines.l1 (m + d + 1) B M (k : Int) (mk (pt (numsL c) (cZone c) i)) ((lnsC c).take k) (k : Int) (i : Int) = lLines.l2 m B M (k : Int) (mk (pt (numsL c) (cZone c) k)) ⟨#[]⟩ B (B.length : Int) 0
  | 0, i, hi, m => by
    have : i = k := by omega
    subst this
    rw [lLines.s1, cond_df (by omega)]
  | d + 1, i, hi, m => by
    have hG := good_may h
    have hX := pt_len hG (k := i) (by omega)
    have hs1 : (mk (pt (numsL c) (cZone c) i)).size ≤ 2415 := by rw [mk_size]; exact hX
    have hs2 := line_size hG (k := i) (by omega)
    have hl : rdEl .str ((lnsC c).take k) i = joinW (rowI (numsL c) (cZone c) i) := by
      rw [← lns_at (numsL c) (cZone c) (k := i) (by omega)]
      show ((lnsC c).take k).getD i _ = (lnsC c).getD i _
      rw [List.getD_eq_getElem?_getD, List.getD_eq_getElem?_getD, List.getElem?_take, if_pos (by omega)]
    have hll : ((lnsC c).take k).length = k := by rw [List.length_take, lns_len]; omega
    have ih := lines_l1 h (B := B) (M := M) hk d (i + 1) (by omega) m
    have e : mk (pt (numsL c) (cZone c) (i + 1)) = mk (pt (numsL c) (cZone c) i) ++ (joinW (rowI (numsL c) (cZone c) i) ++ (⟨#[10]⟩ : ByteArray)) := by
      unfold pt
      rw [List.range_succ, List.map_append, txt_app, ← mk_append, show [i].map (rowI (numsL c) (cZone c)) = [rowI (numsL c) (cZone c) i] from rfl, txt_one, mk_bs]
    rw [e] at ih
    rw [show m + (d + 1) + 1 = (m + d + 1) + 1 by omega, lLines.s1, cond_dt (by omega), test_d (by omega), test_d (by omega), toNat_cast, hl, test_d (by rw [q10]; omega), test_d (by rw [ByteArray.size_append, q10]; omega), w64s (by omega)]
    exact ih

/-- The words gone through: all are names, or all is said. -/
theorem lines_l2 {B : List ByteArray} {M X : ByteArray} {k : Int} (hB : B.length ≤ 6) (hf : ∀ w ∈ B, fits .str w = true) : ∀ (d i : Nat), i + d = B.length → (∀ w ∈ B.take i, nameB w = true) →
    ∀ m, lLines.l2 (m + d + 1) B M k X (mk (wt (B.take i))) B (B.length : Int) (i : Int) = some (vb true, []) ∨
      ((∀ w ∈ B, nameB w = true) ∧ lLines.l2 (m + d + 1) B M k X (mk (wt (B.take i))) B (B.length : Int) (i : Int) = lLines.l3 m B M k X (mk (wt B)) (M.size : Int) 0)
  | 0, i, hi, hn, m => by
    rw [List.take_of_length_le (by omega)] at hn ⊢
    exact .inr ⟨hn, by rw [lLines.s2, cond_df (by omega)]⟩
  | d + 1, i, hi, hn, m => by
    have hd := rdEl_drop (t := .str) B (show i < B.length by omega)
    have hi3 : i < B.length := by omega
    have hm : rdEl .str B i ∈ B := rdEl_mem hi3
    have ht : B.take (i + 1) = B.take i ++ [rdEl .str B i] := by
      rw [List.take_add_one]
      have : B[i]? = some (rdEl .str B i) := rdEl_get (t := .str) (xs := B) hi3
      rw [this]; rfl
    have hp : wordR.pre (rdEl .str B i, ()) = true := by
      show (fits .str (rdEl .str B i) && true) = true
      rw [hf _ hm]; rfl
    rw [show m + (d + 1) + 1 = (m + d + 1) + 1 by omega, lLines.s2, cond_dt (by omega), test_d (by omega), test_d (by omega), toNat_cast, test_true hp]
    cases e : nameB (rdEl .str B i)
    · exact .inl rfl
    · have hpl := (name_plain e).2.2
      have hw := wt_len (B.take i) fun w hw => name_plain (hn w hw)
      rw [List.length_take] at hw
      have hsz : (mk (wt (B.take i))).size ≤ 100 := by rw [mk_size]; omega
      have ih := lines_l2 (M := M) (X := X) (k := k) hB hf d (i + 1) (by omega) (fun w hw => by
        rw [ht] at hw
        rcases List.mem_append.1 hw with hw | hw
        · exact hn w hw
        · rw [List.mem_singleton.1 hw]; exact e) m
      have e2 : mk (wt (B.take (i + 1))) = mk (wt (B.take i)) ++ (rdEl .str B i ++ (⟨#[32]⟩ : ByteArray)) := by
        have e3 : rdEl .str B i ++ (⟨#[32]⟩ : ByteArray) = mk (bs (rdEl .str B i) ++ [32]) := by
          rw [← mk_bs (rdEl .str B i ++ (⟨#[32]⟩ : ByteArray)), bs_append]
        rw [ht, wt_snoc, ← mk_append, e3]
      rw [e2] at ih
      rw [Bool.not_true, cond_false, test_d (by rw [q32]; omega), test_d (by rw [ByteArray.size_append, q32]; omega), w64s (by omega)]
      exact ih

theorem lines_l3 {B : List ByteArray} {M X W : ByteArray} {k : Int} (hM : M.size ≤ 100) (hend : (∀ b ∈ bs M, (b.toNat : Int) = 10 ∨ (32 ≤ (b.toNat : Int) ∧ (b.toNat : Int) ≤ 126)) → ∀ m, lLines.l3 (m + 1) B M k X W (M.size : Int) (M.size : Int) = some (vb true, [])) :
    ∀ (d i : Nat), i + d = M.size → (∀ b ∈ (bs M).take i, (b.toNat : Int) = 10 ∨ (32 ≤ (b.toNat : Int) ∧ (b.toNat : Int) ≤ 126)) → ∀ m, lLines.l3 (m + d + 1) B M k X W (M.size : Int) (i : Int) = some (vb true, [])
  | 0, i, hi, hb, m => by
    have : i = M.size := by omega
    subst this
    rw [List.take_of_length_le (by rw [bs_length]; omega)] at hb
    exact hend hb m
  | d + 1, i, hi, hb, m => by
    have hlt : i < (bs M).length := by rw [bs_length]; omega
    have hbyte : byteAt M (i : Int) = (((bs M)[i]).toNat : Int) := by rw [byteAt_bs, List.getD_eq_getElem?_getD, List.getElem?_eq_getElem hlt]; rfl
    have next : ((((bs M)[i]).toNat : Int) = 10 ∨ (32 ≤ (((bs M)[i]).toNat : Int) ∧ (((bs M)[i]).toNat : Int) ≤ 126)) → lLines.l3 (m + d + 1) B M k X W (M.size : Int) ((i + 1 : Nat) : Int) = some (vb true, []) := fun hbi =>
      lines_l3 hM hend d (i + 1) (by omega) (fun b hb2 => by
        rw [List.take_add_one, List.getElem?_eq_getElem hlt] at hb2
        rcases List.mem_append.1 hb2 with hb2 | hb2
        · exact hb b hb2
        · have : b = (bs M)[i] := by simpa using hb2
          rw [this]; exact hbi) m
    rw [show m + (d + 1) + 1 = (m + d + 1) + 1 by omega, lLines.s3, cond_dt (by omega), test_d (by omega), test_d (by omega)]
    by_cases h10 : byteAt M (i : Int) = 10
    · have : bne (byteAt M (i : Int)) 10 = false := by rw [h10]; rfl
      rw [this, cond_false, w64s (by omega)]
      exact next (.inl (by rw [← hbyte]; exact h10))
    · have : bne (byteAt M (i : Int)) 10 = true := by simpa using h10
      rw [this, cond_true, test_d (by omega), test_d (by omega)]
      by_cases h1 : byteAt M (i : Int) < 32
      · rw [cond_dt h1]; rfl
      · rw [cond_df h1, test_d (by omega), test_d (by omega)]
        by_cases h2 : byteAt M (i : Int) > 126
        · rw [cond_dt h2]; rfl
        · rw [cond_df h2, w64s (by omega)]
          exact next (.inr (by rw [← hbyte]; omega))

theorem lLines_R : lLines.Law := fun c n B M hx => by
  have h0 : (fits TConfig c && (true && (fits (.sl .str) B && (fits .str M && (decide (-9223372036854775808 ≤ n ∧ n ≤ 9223372036854775807) && true))))) = true := hx
  obtain ⟨hc, h0⟩ := Bool.and_eq_true_iff.1 h0
  obtain ⟨_, h0⟩ := Bool.and_eq_true_iff.1 h0
  obtain ⟨hfB, _⟩ := Bool.and_eq_true_iff.1 h0
  have hf : ∀ w ∈ B, fits .str w = true := fun w hw => List.all_eq_true.1 (Bool.and_eq_true_iff.1 hfB).2 w hw
  have pc : mayCR.pre (c, ()) = true := by show (fits TConfig c && true) = true; rw [hc]; rfl
  have tc : textR.pre (c, ()) = true := pc
  have hh : ∃ m, lLines.go m c n B M = some (vb true, []) := by
    cases h : mayC c
    · exact ⟨1, by rw [lLines.start, test_true pc, h]; rfl⟩
    by_cases hB : (B.length : Int) > 6
    · exact ⟨1, by rw [lLines.start, test_true pc, h, Bool.not_true, cond_false, cond_dt hB]; rfl⟩
    by_cases hM : (M.size : Int) > 100
    · exact ⟨1, by rw [lLines.start, test_true pc, h, Bool.not_true, cond_false, cond_df hB, cond_dt hM]; rfl⟩
    obtain ⟨k, hk, ek⟩ := mod_nat n (m := 24) (by decide) (by decide)
    have hG := good_may h
    have e24 : IntKind.i64.wrap (((23 : Nat) : Int) + 1) = ((24 : Nat) : Int) := w24
    have hll : ((lnsC c).take k).length = k := by rw [List.length_take, lns_len]; omega
    have start : ∀ m, lLines.go (m + 1) c n B M = lLines.l1 m B M (k : Int) ⟨#[]⟩ ((lnsC c).take k) (k : Int) 0 := fun m => by
      rw [lLines.start, test_true pc, h, Bool.not_true, cond_false, cond_df hB, cond_df hM, test_true tc, test_true (parts_pre c), parts_init h, lns_len, parts_len h, e24, ek, toNat_cast]
      rw [cond_df (by omega)]
      refine (test_d (by decide)).trans ((test_d (by decide)).trans ((test_true (by decide)).trans ((test_d (by omega)).trans ((test_d (by omega)).trans ?_))))
      rw [List.drop_zero, hll]
    have hend : (∀ w ∈ B, nameB w = true) → ∀ m, lLines.l3 (m + M.size + 1) B M (k : Int) (mk (pt (numsL c) (cZone c) k)) (mk (wt B)) (M.size : Int) ((0 : Nat) : Int) = some (vb true, []) := fun hn => by
      have hP : Names B := fun w hw => name_plain (hn w hw)
      refine fun m => lines_l3 (by omega) (fun hb m => ?_) M.size 0 (by omega) (fun b hb => by cases hb) m
      rw [lLines.s3, cond_df (by omega)]
      by_cases b0 : B.length = 0
      · have : (((B.length : Nat) : Int) == 0) = true := by rw [b0]; rfl
        rw [this]; rfl
      by_cases b2 : B.length = 2
      · have : (((B.length : Nat) : Int) == 0) = false := by rw [b2]; rfl
        rw [this, cond_false]
        have : (((B.length : Nat) : Int) == 2) = true := by rw [b2]; rfl
        rw [this]; rfl
      have t0 : (((B.length : Nat) : Int) == 0) = false := by
        have : ¬ ((B.length : Nat) : Int) = 0 := by omega
        simpa using this
      have t2 : (((B.length : Nat) : Int) == 2) = false := by
        have : ¬ ((B.length : Nat) : Int) = 2 := by omega
        simpa using this
      have hX := pt_len hG (k := k) (by omega)
      have hw := wt_len B hP
      have s1 : (mk (pt (numsL c) (cZone c) k)).size ≤ 2415 := by rw [mk_size]; exact hX
      have s2 : (mk (wt B)).size ≤ 78 := by rw [mk_size]; omega
      have hlr : (List.range k).length = k := List.length_range
      have p := parse_wrong hG (I := List.range k) List.nodup_range (fun i hi => by have := List.mem_range.1 hi; omega) (by omega) hP (by omega) (fun e => b0 (by rw [e]; rfl)) b2 (s := ((mk (pt (numsL c) (cZone c) k) ++ mk (wt B)) ++ (⟨#[10]⟩ : ByteArray)) ++ M) (more := M) (by omega) hb (by
        rw [bs_append, bs_append, bs_append, bs_mk, bs_mk, List.append_assoc, List.append_assoc]
        rfl)
      rw [t0, cond_false, t2, cond_false, test_d (by omega), test_d (by rw [ByteArray.size_append, q10]; omega), test_d (by rw [ByteArray.size_append, ByteArray.size_append, q10]; omega), test_true (parse_pre (by rw [ByteArray.size_append, ByteArray.size_append, ByteArray.size_append, q10]; omega)), p]
      dsimp only
      rw [beq_self_eq_true, cond_true, hlr, w64s (by omega)]
      have : (((k : Int) + 1) == ((k + 1 : Nat) : Int)) = true := by
        have : ((k : Int) + 1) = ((k + 1 : Nat) : Int) := by omega
        rw [this]; simp
      rw [this]; rfl
    have e0 : (mk (pt (numsL c) (cZone c) 0)) = ⟨#[]⟩ := rfl
    have e1 : (mk (wt (B.take 0))) = ⟨#[]⟩ := rfl
    have g1 := lines_l1 h (B := B) (M := M) (show k ≤ 23 by omega) k 0 (by omega)
    have g2 := lines_l2 (M := M) (X := mk (pt (numsL c) (cZone c) k)) (k := (k : Int)) (show B.length ≤ 6 by omega) hf B.length 0 (by omega) (fun w hw => by cases hw)
    refine ⟨(0 + M.size + 1 + B.length + 1) + k + 1 + 1, ?_⟩
    rw [start]
    refine (g1 _).trans ?_
    rcases g2 (0 + M.size + 1) with g | ⟨hn, g⟩
    · exact g
    · exact g.trans (hend hn 0)
  obtain ⟨m, hm⟩ := hh
  exact lLines.ret (awake_ok.cons' (mayCR_ok.cons' (partsR_ok.cons' (textR_ok.cons' (wordR_ok.cons' (parse_ok.cons' .nil)))))) c n B M hm
theorem lLines_pre (c : El TConfig) (n : Int) (B : List ByteArray) (M : ByteArray) (hx : wfs [(true, TConfig), (false, .int .i64), (false, .sl .str), (false, .str)] (c, n, B, M, ())) : lLines.pre (c, n, B, M, ()) = true := by
  have b1 : fits TConfig c = true := fits_of_wf _ _ hx.1
  have b2 : -9223372036854775808 ≤ n ∧ n ≤ 9223372036854775807 := hx.2.1
  have b3 : fits (.sl .str) B = true := fits_of_wf _ _ hx.2.2.1
  have b4 : fits .str M = true := fits_of_wf _ _ hx.2.2.2.1
  show (fits TConfig c && (true && (fits (.sl .str) B && (fits .str M && (decide (-9223372036854775808 ≤ n ∧ n ≤ 9223372036854775807) && true))))) = true
  rw [b1, b3, b4, dec_t b2]; rfl

end Go.Proofs.YtlakpbfmcnlnbaaDoor
