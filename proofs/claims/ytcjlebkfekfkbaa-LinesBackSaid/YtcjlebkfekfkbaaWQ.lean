/-
  Lines: what is joined is split as it was.
-/
import Derived.Test.YtcjlebkfekfkbaaWP
namespace Go.Proofs.Ytcjlebkfekfkbaa
open Go VE

/-! ### a row of names -/

theorem nameC_ok {c : Int} (h : nameC c = true) : 45 ≤ c ∧ c ≤ 122 := by
  unfold nameC at h
  simp only [Bool.or_eq_true, Bool.and_eq_true, decide_eq_true_eq, beq_iff_eq] at h
  omega
theorem name_fact {w : ByteArray} (h : nameB w = true) : (∀ b ∈ bs w, 45 ≤ (b.toNat : Int) ∧ (b.toNat : Int) ≤ 122) ∧ 1 ≤ w.size ∧ w.size ≤ 12 := by
  rw [nameB_eq] at h
  unfold nl at h
  simp only [Bool.and_eq_true, decide_eq_true_eq] at h
  obtain ⟨h1, h2, h3, _⟩ := h
  rw [bs_length] at h2 h3
  exact ⟨fun b hb => nameC_ok (List.all_eq_true.1 h1 b hb), h2, h3⟩

def Names (W : List ByteArray) : Prop := ∀ w ∈ W, nameB w = true

theorem row_bytes : ∀ (W : List ByteArray), Names W → ∀ b ∈ bs (joinT W), (b.toNat : Int) = 32 ∨ (45 ≤ (b.toNat : Int) ∧ (b.toNat : Int) ≤ 122)
  | [], _, b, hb => by cases hb
  | w :: W, h, b, hb => by
    have e : bs (joinT (w :: W)) = 32 :: (bs w ++ bs (joinT W)) := by
      show bs (((⟨#[32]⟩ : ByteArray) ++ w) ++ joinT W) = _
      rw [bs_append, bs_append]; rfl
    rw [e] at hb
    rcases List.mem_cons.1 hb with rfl | hb
    · exact .inl rfl
    · rcases List.mem_append.1 hb with hb | hb
      · exact .inr ((name_fact (h w (List.mem_cons_self ..))).1 b hb)
      · exact row_bytes W (fun v hv => h v (List.mem_cons_of_mem _ hv)) b hb
theorem row_bytesW {W : List ByteArray} (h : Names W) : ∀ b ∈ bs (joinW W), (b.toNat : Int) = 32 ∨ (45 ≤ (b.toNat : Int) ∧ (b.toNat : Int) ≤ 122) := by
  cases W with
  | nil => intro b hb; cases hb
  | cons w W =>
    intro b hb
    have e : bs (joinW (w :: W)) = bs w ++ bs (joinT W) := bs_append _ _
    rw [e] at hb
    rcases List.mem_append.1 hb with hb | hb
    · exact .inr ((name_fact (h w (List.mem_cons_self ..))).1 b hb)
    · exact row_bytes W (fun v hv => h v (List.mem_cons_of_mem _ hv)) b hb
theorem row_len : ∀ (W : List ByteArray), Names W → (joinT W).size ≤ 13 * W.length
  | [], _ => Nat.le_refl _
  | w :: W, h => by
    have ih := row_len W fun v hv => h v (List.mem_cons_of_mem _ hv)
    have hw := (name_fact (h w (List.mem_cons_self ..))).2.2
    have e : (joinT (w :: W)).size = 1 + w.size + (joinT W).size := by
      show (((⟨#[32]⟩ : ByteArray) ++ w) ++ joinT W).size = _
      rw [ByteArray.size_append, ByteArray.size_append]; rfl
    rw [e]; simp; omega
theorem row_lenW {W : List ByteArray} (h : Names W) : (joinW W).size ≤ 13 * W.length := by
  cases W with
  | nil => exact Nat.le_refl _
  | cons w W =>
    have ih := row_len W fun v hv => h v (List.mem_cons_of_mem _ hv)
    have hw := (name_fact (h w (List.mem_cons_self ..))).2.2
    show (w ++ joinT W).size ≤ _
    rw [ByteArray.size_append]; simp; omega

theorem spl_row : ∀ (W : List ByteArray) (w : ByteArray), Names (w :: W) → spl 32 (bs w ++ bs (joinT W)) = bs w :: W.map bs
  | [], w, h => by
    have e : bs (joinT []) = [] := rfl
    rw [e, List.append_nil]
    exact spl_none fun b hb => by have := (name_fact (h w (List.mem_cons_self ..))).1 b hb; omega
  | v :: W, w, h => by
    have e : bs (joinT (v :: W)) = 32 :: (bs v ++ bs (joinT W)) := by
      show bs (((⟨#[32]⟩ : ByteArray) ++ v) ++ joinT W) = _
      rw [bs_append, bs_append]; rfl
    rw [e, spl_app (fun b hb => by have := (name_fact (h w (List.mem_cons_self ..))).1 b hb; omega) (by decide), spl_row W v fun z hz => h z (List.mem_cons_of_mem _ hz)]
    rfl

theorem wl_row {W : List ByteArray} (hW : W ≠ []) (h : Names W) : (wl (bs (joinW W))).map mk = W := by
  have hb := row_bytesW h
  unfold wl
  rw [takeWhile_all fun b hm => by
    have := hb b hm
    have h : b ≠ 35 := fun e => by
      subst e
      have : ((35 : UInt8).toNat : Int) = 35 := rfl
      omega
    simpa using h]
  cases W with
  | nil => exact absurd rfl hW
  | cons w W =>
    have e : bs (joinW (w :: W)) = bs w ++ bs (joinT W) := bs_append _ _
    rw [e, spl_row W w h]
    have hf : (bs w :: W.map bs).filter (fun x => !x.isEmpty) = bs w :: W.map bs := by
      rw [List.filter_eq_self]
      intro x hx
      have hx : x ∈ (w :: W).map bs := hx
      obtain ⟨v, hv, rfl⟩ := List.mem_map.1 hx
      have h1 := (name_fact (h v hv)).2.1
      rw [← bs_length] at h1
      cases hq : bs v with
      | nil => rw [hq] at h1; simp at h1
      | cons a l => rfl
    rw [hf]
    show ((w :: W).map bs).map mk = w :: W
    rw [List.map_map]
    have : (mk ∘ bs) = id := by funext z; exact mk_bs z
    rw [this, List.map_id]

theorem ml_row {W : List ByteArray} (h : Names W) (hl : W.length ≤ 8) : ml (bs (joinW W)) = true := by
  have hb := row_bytesW h
  have hs := row_lenW h
  unfold ml
  rw [List.all_eq_true.2 fun b hm => by
    have := hb b hm
    unfold okB
    rw [dec_t (by omega), dec_t (by omega)]; rfl, dec_t (by rw [bs_length]; omega)]
  rfl

/-- Rows with their numbers. -/
def numb : Nat → List (List ByteArray) → List Ln
  | _, [] => []
  | i, r :: R => ((i : Int) + 1, r) :: numb (i + 1) R
theorem numb_snoc : ∀ (R : List (List ByteArray)) (i : Nat) (r : List ByteArray), numb i (R ++ [r]) = numb i R ++ [(((i + R.length : Nat) : Int) + 1, r)]
  | [], i, r => rfl
  | q :: R, i, r => by
    show _ :: numb (i + 1) (R ++ [r]) = _
    rw [numb_snoc R (i + 1) r]
    show _ :: (numb (i + 1) R ++ _) = (_ :: numb (i + 1) R) ++ _
    rw [show i + 1 + R.length = i + (q :: R).length by simp; omega]
    rfl
theorem numb_length : ∀ (R : List (List ByteArray)) (i : Nat), (numb i R).length = R.length
  | [], _ => rfl
  | q :: R, i => by show (numb (i + 1) R).length + 1 = _; rw [numb_length R]; rfl
theorem numb_mem : ∀ (R : List (List ByteArray)) (i : Nat) (x : Ln), x ∈ numb i R → x.2 ∈ R
  | [], _, x, h => by cases h
  | q :: R, i, x, h => by
    rcases List.mem_cons.1 h with rfl | h
    · exact List.mem_cons_self ..
    · exact List.mem_cons_of_mem _ (numb_mem R (i + 1) x h)

def Row (W : List ByteArray) : Prop := W ≠ [] ∧ W.length ≤ 8 ∧ Names W

theorem spl_rows : ∀ (R : List (List ByteArray)) (i : Nat) (u : List UInt8), (∀ r ∈ R, Row r) → spl 10 (bs (joinL (numb i R)) ++ u) = R.map (fun r => bs (joinW r)) ++ spl 10 u
  | [], i, u, _ => rfl
  | r :: R, i, u, h => by
    have hr := h r (List.mem_cons_self ..)
    have e : bs (joinL (numb i (r :: R))) = bs (joinW r) ++ 10 :: bs (joinL (numb (i + 1) R)) := by
      show bs ((joinW r ++ (⟨#[10]⟩ : ByteArray)) ++ joinL (numb (i + 1) R)) = _
      rw [bs_append, bs_append, List.append_assoc]; rfl
    rw [e, List.append_assoc, List.cons_append, spl_app (fun b hb => by have := row_bytesW hr.2.2 b hb; omega) (by decide), spl_rows R (i + 1) u fun q hq => h q (List.mem_cons_of_mem _ hq)]
    rfl
theorem sg_rows : ∀ (R : List (List ByteArray)) (i : Nat) (out : List Ln) (rest : List (List UInt8)), (∀ r ∈ R, Row r) → sg (R.map (fun r => bs (joinW r)) ++ rest) i out = sg rest (i + R.length) (out ++ numb i R)
  | [], i, out, rest, _ => by rw [show numb i [] = [] from rfl, List.append_nil]; rfl
  | r :: R, i, out, rest, h => by
    have hr := h r (List.mem_cons_self ..)
    have hw := wl_row hr.1 hr.2.2
    have hl : (wl (bs (joinW r))).length ≠ 0 := by
      have := congrArg List.length hw
      rw [List.length_map] at this
      rw [this]
      have := hr.1
      cases r with
      | nil => exact absurd rfl this
      | cons a l => simp
    rw [List.map_cons, List.cons_append, sg_good (ml_row hr.2.2 hr.2.1) hl, hw, sg_rows R (i + 1) _ rest fun q hq => h q (List.mem_cons_of_mem _ hq), List.append_assoc, show i + 1 + R.length = i + (r :: R).length by simp; omega]
    rfl

theorem back1 {R : List (List ByteArray)} (h : ∀ r ∈ R, Row r) (hs : (joinL (numb 0 R)).size ≤ 4000) : splitL (joinL (numb 0 R)) = (numb 0 R, 0, 0) := by
  rw [splitL_eq hs]
  have := spl_rows R 0 [] h
  rw [List.append_nil] at this
  rw [this, sg_rows R 0 [] _ h]
  rfl
theorem back2 {R : List (List ByteArray)} {note : ByteArray} (h : ∀ r ∈ R, Row r) (hs : ((joinL (numb 0 R) ++ (⟨#[35]⟩ : ByteArray)) ++ note).size ≤ 4000) (hn : note.size ≤ 20) (hb : ∀ b ∈ bs note, 32 ≤ (b.toNat : Int) ∧ (b.toNat : Int) ≤ 126) :
    splitL ((joinL (numb 0 R) ++ (⟨#[35]⟩ : ByteArray)) ++ note) = (numb 0 R, 0, 0) := by
  rw [splitL_eq hs, bs_append, bs_append, List.append_assoc, spl_rows R 0 _ h, sg_rows R 0 [] _ h]
  have e : bs (⟨#[35]⟩ : ByteArray) ++ bs note = 35 :: bs note := rfl
  have h1 : spl 10 (35 :: bs note) = [35 :: bs note] := spl_none fun b hm => by
    rcases List.mem_cons.1 hm with rfl | hm
    · decide
    · have := hb b hm; omega
  have h2 : ml (35 :: bs note) = true := by
    unfold ml
    rw [List.all_eq_true.2 fun b hm => by
      rcases List.mem_cons.1 hm with rfl | hm
      · decide
      · have := hb b hm
        unfold okB
        rw [dec_t this.1, dec_t this.2]; rfl, dec_t (by rw [List.length_cons, bs_length]; omega)]
    rfl
  have h3 : (wl (35 :: bs note)).length = 0 := by
    unfold wl
    rw [List.takeWhile_cons]
    rfl
  rw [e, h1, sg_none h2 h3]
  rfl

/-! ### the law -/

theorem rows_fit {R : List (List ByteArray)} (h : ∀ r ∈ R, Row r) (hl : R.length ≤ 40) : fits (.sl TLine) (numb 0 R) = true := by
  have hR : reachBytes = 140737488351232 := rfl
  have h0 : (numb 0 R).length * 32 ≤ reachBytes := by rw [numb_length]; omega
  refine Bool.and_eq_true_iff.2 ⟨decide_eq_true h0, List.all_eq_true.2 fun x hx => ?_⟩
  have hr := h x.2 (numb_mem R 0 x hx)
  show (true && (decide (x.2.length * 16 ≤ reachBytes) && x.2.all (fits .str))) = true
  rw [dec_t (by have := hr.2.1; omega), List.all_eq_true.2 fun w hw => str_fits (by have := (name_fact (hr.2.2 w hw)).2.2; omega)]
  rfl
theorem rows_size : ∀ {R : List (List ByteArray)} {i : Nat}, (∀ r ∈ R, Row r) → (joinL (numb i R)).size ≤ 105 * R.length
  | [], _, _ => Nat.le_refl _
  | r :: R, i, h => by
    have ih := rows_size (R := R) (i := i + 1) fun q hq => h q (List.mem_cons_of_mem _ hq)
    have hr := h r (List.mem_cons_self ..)
    have h1 := row_lenW hr.2.2
    have h2 := hr.2.1
    show ((joinW r ++ (⟨#[10]⟩ : ByteArray)) ++ joinL (numb (i + 1) R)).size ≤ _
    rw [ByteArray.size_append, ByteArray.size_append]
    show (joinW r).size + 1 + _ ≤ _
    simp; omega

theorem wordR_pre {s : ByteArray} (h : s.size ≤ 140737488351232) : wordR.pre (s, ()) = true := by
  show (fits .str s && true) = true
  have : fits .str s = true := decide_eq_true (show s.size ≤ reachBytes by have : reachBytes = 140737488351232 := rfl; omega)
  rw [this]; rfl

theorem back_l3 {note s : ByteArray} {R : List (List ByteArray)} (h : ∀ r ∈ R, Row r) (hl : R.length ≤ 40) (hn : note.size ≤ 20) (hs : s = joinL (numb 0 R)) (hs2 : s.size ≤ 3000) (m : Nat) : ∀ (d k : Nat), note.size = k + d → (∀ b ∈ (bs note).take k, 32 ≤ (b.toNat : Int) ∧ (b.toNat : Int) ≤ 126) →
    lBack.l3 (m + (d + 1)) note s (numb 0 R) 0 (note.size : Int) (k : Int) (numb 0 R) = some (vb true, [])
  | 0, k, hk, hb => by
    have hp : sameR.pre (numb 0 R, numb 0 R, ()) = true := by
      show (fits (.sl TLine) (numb 0 R) && (fits (.sl TLine) (numb 0 R) && true)) = true
      rw [rows_fit h hl]; rfl
    rw [List.take_of_length_le (by rw [bs_length]; omega)] at hb
    have z : ((s ++ (⟨#[35]⟩ : ByteArray)) ++ note).size = s.size + 1 + note.size := by rw [ByteArray.size_append, ByteArray.size_append]; rfl
    have t1 : s.size + (⟨#[35]⟩ : ByteArray).size ≤ 9223372036854775807 := by show s.size + 1 ≤ _; omega
    have t2 : (s ++ (⟨#[35]⟩ : ByteArray)).size + note.size ≤ 9223372036854775807 := by rw [← ByteArray.size_append]; omega
    have e := back2 (R := R) (note := note) h (by rw [← hs]; omega) hn hb
    rw [← hs] at e
    refine (lBack.s3 m note s (numb 0 R) 0 _ _ (numb 0 R)).trans ?_
    rw [cond_df (by omega)]
    refine (test_d t1).trans ((test_d t2).trans ((test_true (split_pre (by omega))).trans ?_))
    rw [e]
    dsimp only
    rw [cond_et rfl, cond_et rfl, test_true hp, sameL_refl, cond_true, test_true hp, cond_true]
    rfl
  | d + 1, k, hk, hb => by
    have hp : sameR.pre (numb 0 R, numb 0 R, ()) = true := by
      show (fits (.sl TLine) (numb 0 R) && (fits (.sl TLine) (numb 0 R) && true)) = true
      rw [rows_fit h hl]; rfl
    have hlt : k < (bs note).length := by rw [bs_length]; omega
    have hbyte : byteAt note (k : Int) = (((bs note)[k]).toNat : Int) := by rw [byteAt_bs, List.getD_eq_getElem?_getD, List.getElem?_eq_getElem hlt]; rfl
    refine (lBack.s3 (m + (d + 1)) note s (numb 0 R) 0 _ _ (numb 0 R)).trans ?_
    rw [cond_dt (by omega), test_d (by omega), test_d (by omega)]
    by_cases h1 : byteAt note (k : Int) < 32
    · rw [cond_dt h1, cond_et rfl, test_true hp, sameL_refl, cond_true]
      rfl
    · rw [cond_df h1, test_d (by omega), test_d (by omega)]
      by_cases h2 : byteAt note (k : Int) > 126
      · rw [cond_dt h2, cond_et rfl, test_true hp, sameL_refl, cond_true]
        rfl
      · rw [cond_df h2, w64s (by omega)]
        refine back_l3 h hl hn hs hs2 m d (k + 1) (by omega) fun b hb2 => ?_
        rw [List.take_add_one, List.getElem?_eq_getElem hlt] at hb2
        rcases List.mem_append.1 hb2 with hb2 | hb2
        · exact hb b hb2
        · have : b = (bs note)[k] := by simpa using hb2
          rw [this, ← hbyte]
          omega

/-- One row gone through: its words are names, or all is said. -/
theorem back_l2 {note : ByteArray} {R : List (List ByteArray)} {N : Int} {i : Nat} {W : List ByteArray} {out : List Ln} (hi : i ≤ 40) (hl : W.length ≤ 8) (ho : out.length ≤ 40) (hf : ∀ w ∈ W, w.size ≤ 140737488351232) (m : Nat) : ∀ (d k : Nat), W.length = k + d →
    lBack.l2 (m + (d + 1)) note (i : Int) W R N (i : Int) W (W.length : Int) (k : Int) out = some (vb true, []) ∨
    ((∀ w ∈ W.drop k, nameB w = true) ∧ lBack.l2 (m + (d + 1)) note (i : Int) W R N (i : Int) W (W.length : Int) (k : Int) out = lBack.l1 m note R N ((i + 1 : Nat) : Int) (out ++ [((i : Int) + 1, W)]))
  | 0, k, h => by
    have hlim : 1000000 ≤ lim 32 := by decide
    refine .inr ⟨fun w hw => (by rw [List.drop_eq_nil_of_le (by omega)] at hw; cases hw), ?_⟩
    refine (lBack.s2 m note (i : Int) W R N _ W _ _ out).trans ?_
    have t1 : out.length + ((((i + 1 : Nat) : Int), W) :: ([] : List Ln)).length ≤ lim 32 := by rw [List.length_singleton]; omega
    rw [cond_df (by omega), w64s (by omega)]
    exact test_d t1
  | d + 1, k, h => by
    have hd := rdEl_drop (t := .str) W (show k < W.length by omega)
    have hm : rdEl .str W k ∈ W := by
      have : rdEl .str W k ∈ W.drop k := by rw [hd]; exact List.mem_cons_self ..
      exact List.mem_of_mem_drop this
    have step := lBack.s2 (m + (d + 1)) note (i : Int) W R N (i : Int) W (W.length : Int) (k : Int) out
    rw [cond_dt (by omega), test_d (by omega), test_d (by omega), toNat_cast, test_true (wordR_pre (hf _ hm)), w64s (by omega)] at step
    cases hn : nameB (rdEl .str W k) with
    | false =>
      rw [hn, Bool.not_false, cond_true] at step
      exact .inl step
    | true =>
      rw [hn, Bool.not_true, cond_false] at step
      rcases back_l2 (note := note) (R := R) (N := N) (out := out) hi hl ho hf m d (k + 1) (by omega) with h1 | ⟨h1, h2⟩
      · exact .inl (step.trans h1)
      · refine .inr ⟨fun w hw => ?_, step.trans h2⟩
        rw [hd] at hw
        rcases List.mem_cons.1 hw with rfl | hw
        · exact hn
        · exact h1 w hw

theorem back_l1 {note : ByteArray} {R : List (List ByteArray)} (hl : R.length ≤ 40) (hn : note.size ≤ 20) (hf : ∀ r ∈ R, ∀ w ∈ r, w.size ≤ 140737488351232) : ∀ (d k : Nat), R.length = k + d → (∀ r ∈ R.take k, Row r) →
    ∃ f, ∀ m, lBack.l1 (m + f) note R (R.length : Int) (k : Int) (numb 0 (R.take k)) = some (vb true, [])
  | 0, k, h, hr => by
    rw [List.take_of_length_le (by omega)] at hr ⊢
    have hp : join.pre (numb 0 R, ()) = true := by
      show (fits (.sl TLine) (numb 0 R) && (decide ((joinL (numb 0 R)).size ≤ 1000000) && true)) = true
      have := rows_size (i := 0) hr
      rw [rows_fit hr hl, dec_t (by omega)]; rfl
    by_cases hs : ((joinL (numb 0 R)).size : Int) > 3000
    · refine ⟨1, fun m => ?_⟩
      rw [lBack.s1, cond_df (by omega), test_true hp, cond_dt hs]; rfl
    · refine ⟨note.size + 1 + 1, fun m => ?_⟩
      have e := back1 hr (by omega)
      rw [show m + (note.size + 1 + 1) = m + (note.size + 1) + 1 by omega, lBack.s1, cond_df (by omega), test_true hp, cond_df hs, test_true (split_pre (by omega)), e]
      dsimp only
      exact back_l3 hr hl hn rfl (by omega) m note.size 0 (by omega) (fun b hb => by cases hb)
  | d + 1, k, h, hr => by
    have hd := rdEl_drop (t := .sl .str) R (show k < R.length by omega)
    have hm : rdEl (.sl .str) R k ∈ R := by
      have : rdEl (.sl .str) R k ∈ R.drop k := by rw [hd]; exact List.mem_cons_self ..
      exact List.mem_of_mem_drop this
    have ht : R.take (k + 1) = R.take k ++ [rdEl (.sl .str) R k] := by
      rw [List.take_add_one]
      have : R[k]? = some (rdEl (.sl .str) R k) := by
        unfold rdEl
        rw [List.getD_eq_getElem?_getD, List.getElem?_eq_getElem (show k < R.length by omega)]
        rfl
      rw [this]; rfl
    have hlen : (numb 0 (R.take k)).length = k := by rw [numb_length, List.length_take]; omega
    by_cases h1 : ((rdEl (.sl .str) R k).length : Int) < 1
    · refine ⟨1, fun m => ?_⟩
      rw [lBack.s1, cond_dt (by omega), test_d (by omega), test_d (by omega), toNat_cast, cond_dt h1]; rfl
    by_cases h2 : ((rdEl (.sl .str) R k).length : Int) > 8
    · refine ⟨1, fun m => ?_⟩
      rw [lBack.s1, cond_dt (by omega), test_d (by omega), test_d (by omega), toNat_cast, cond_df h1, cond_dt h2]; rfl
    have step : ∀ m, lBack.l1 (m + 1) note R (R.length : Int) (k : Int) (numb 0 (R.take k)) = lBack.l2 m note (k : Int) (rdEl (.sl .str) R k) R (R.length : Int) (k : Int) (rdEl (.sl .str) R k) ((rdEl (.sl .str) R k).length : Int) 0 (numb 0 (R.take k)) := fun m => by
      rw [lBack.s1, cond_dt (by omega), test_d (by omega), test_d (by omega), toNat_cast, cond_df h1, cond_df h2]
    by_cases hnm : ∀ w ∈ rdEl (.sl .str) R k, nameB w = true
    · have hrow : Row (rdEl (.sl .str) R k) := ⟨fun e => by rw [e] at h1; simp at h1, by omega, hnm⟩
      obtain ⟨f, hf2⟩ := back_l1 (note := note) hl hn hf d (k + 1) (by omega) (fun r hr2 => by
        rw [ht] at hr2
        rcases List.mem_append.1 hr2 with h | h
        · exact hr r h
        · rw [List.mem_singleton.1 h]; exact hrow)
      rw [ht, numb_snoc, Nat.zero_add, List.length_take, Nat.min_eq_left (by omega)] at hf2
      refine ⟨f + ((rdEl (.sl .str) R k).length + 1) + 1, fun m => ?_⟩
      rw [show m + (f + ((rdEl (.sl .str) R k).length + 1) + 1) = (m + f + ((rdEl (.sl .str) R k).length + 1)) + 1 by omega, step]
      rcases back_l2 (note := note) (R := R) (N := (R.length : Int)) (i := k) (W := rdEl (.sl .str) R k) (out := numb 0 (R.take k)) (by omega) (by omega) (by omega) (hf _ hm) (m + f) (rdEl (.sl .str) R k).length 0 (by omega) with g | ⟨_, g⟩
      · exact g
      · exact g.trans (hf2 m)
    · refine ⟨((rdEl (.sl .str) R k).length + 1) + 1, fun m => ?_⟩
      rw [show m + (((rdEl (.sl .str) R k).length + 1) + 1) = (m + ((rdEl (.sl .str) R k).length + 1)) + 1 by omega, step]
      rcases back_l2 (note := note) (R := R) (N := (R.length : Int)) (i := k) (W := rdEl (.sl .str) R k) (out := numb 0 (R.take k)) (by omega) (by omega) (by omega) (hf _ hm) m (rdEl (.sl .str) R k).length 0 (by omega) with g | ⟨g, _⟩
      · exact g
      · exact absurd (fun w hw => g w (by rw [List.drop_zero]; exact hw)) hnm

theorem lBack_R : lBack.Law := fun R note hx => by
  have h0 : (fits (.sl (.sl .str)) R && (fits .str note && true)) = true := hx
  obtain ⟨f1, _⟩ := Bool.and_eq_true_iff.1 h0
  have hf : ∀ r ∈ R, ∀ w ∈ r, w.size ≤ 140737488351232 := fun r hr w hw => by
    have := List.all_eq_true.1 (Bool.and_eq_true_iff.1 f1).2 r hr
    have := List.all_eq_true.1 (Bool.and_eq_true_iff.1 this).2 w hw
    exact fits_size this
  have hh : ∃ d, lBack.go d R note = some (vb true, []) := by
    by_cases h1 : (R.length : Int) > 40
    · exact ⟨1, by rw [lBack.start, cond_dt h1]; rfl⟩
    by_cases h2 : (note.size : Int) > 20
    · exact ⟨1, by rw [lBack.start, cond_df h1, cond_dt h2]; rfl⟩
    obtain ⟨f, hf2⟩ := back_l1 (note := note) (R := R) (by omega) (by omega) hf R.length 0 (by omega) (fun r hr => by cases hr)
    refine ⟨0 + f + 1, ?_⟩
    rw [lBack.start, cond_df h1, cond_df h2]
    exact hf2 0
  obtain ⟨d, hd⟩ := hh
  exact lBack.ret (awake_ok.cons' (split_ok.cons' (wordR_ok.cons' (join_ok.cons' (sameR_ok.cons' .nil))))) R note hd

end Go.Proofs.Ytcjlebkfekfkbaa
