/-
  Lines: numbers are read as they are written.
-/
import Derived.Test.YtcjlebkfekfkbaaWM
namespace Go.Proofs.Ytcjlebkfekfkbaa
open Go VE

def dB (n : Nat) : UInt8 := UInt8.ofNat (48 + n % 10)
def dg : Nat → Nat → List UInt8
  | 0, _ => []
  | f + 1, n => if n / 10 = 0 then [dB n] else dg f (n / 10) ++ [dB n]
theorem dB_toNat (n : Nat) : (dB n).toNat = 48 + n % 10 := by
  unfold dB
  rw [UInt8.toNat_ofNat']; omega

theorem digitsG_eq : ∀ (f n : Nat) (s : ByteArray), digitsG f n s = mk (dg f n) ++ s
  | 0, n, s => (ByteArray.empty_append (b := s)).symm
  | f + 1, n, s => by
    unfold digitsG dg
    by_cases h : n / 10 = 0
    · rw [if_pos h, if_pos h]; rfl
    · rw [if_neg h, if_neg h, digitsG_eq f, ← mk_append, ByteArray.append_assoc]; rfl
theorem digitsB_eq (n : Int) : digitsB n = mk (dg 20 n.toNat) := by
  unfold digitsB
  rw [digitsG_eq]
  exact ByteArray.append_empty

theorem dg_digit : ∀ (f n : Nat) (b : UInt8), b ∈ dg f n → 48 ≤ b.toNat ∧ b.toNat ≤ 57
  | 0, n, b, h => by cases h
  | f + 1, n, b, h => by
    unfold dg at h
    have hd := dB_toNat n
    split at h
    · cases List.mem_singleton.1 h; omega
    · rcases List.mem_append.1 h with h | h
      · exact dg_digit f _ b h
      · cases List.mem_singleton.1 h; omega
theorem dg_length : ∀ (f k n : Nat), n < 10 ^ (k + 1) → (dg f n).length ≤ k + 1
  | 0, k, n, _ => by simp [dg]
  | f + 1, 0, n, h => by
    unfold dg
    rw [if_pos (by omega)]; simp
  | f + 1, k + 1, n, h => by
    unfold dg
    split
    · simp
    · have := dg_length f k (n / 10) (by rw [Nat.pow_succ] at h; omega)
      rw [List.length_append]; simp; omega
theorem dg_pos (f n : Nat) : 1 ≤ (dg (f + 1) n).length := by
  unfold dg
  split <;> simp

/-- What a number's digits come to. -/
def numV : List UInt8 → Int → Option Int
  | [], x => some x
  | b :: l, x => if (b.toNat : Int) < 48 ∨ 57 < (b.toNat : Int) then none else numV l (x * 10 + ((b.toNat : Int) - 48))
theorem numG_eq {s : ByteArray} : ∀ (r i : Nat) (x : Int), i + r = s.size → numG s r i x = numV ((bs s).drop i) x
  | 0, i, x, h => by
    have hl := bs_length s
    rw [List.drop_eq_nil_of_le (by omega)]; rfl
  | r + 1, i, x, h => by
    have hl := bs_length s
    have hlt : i < (bs s).length := by omega
    have hb : byteAt s (i : Int) = (((bs s)[i]).toNat : Int) := by rw [byteAt_bs, List.getD_eq_getElem?_getD, List.getElem?_eq_getElem hlt]; rfl
    unfold numG
    rw [List.drop_eq_getElem_cons hlt, numV, hb, numG_eq r (i + 1) _ (by omega)]
theorem numV_snoc : ∀ (l : List UInt8) (b : UInt8) (x : Int), numV (l ++ [b]) x = (numV l x).bind fun y => numV [b] y
  | [], b, x => rfl
  | a :: l, b, x => by
    rw [List.cons_append, numV, numV]
    split
    · rfl
    · exact numV_snoc l b _
theorem numV_dB (n : Nat) (x : Int) : numV [dB n] x = some (x * 10 + (n % 10 : Nat)) := by
  have hd := dB_toNat n
  rw [numV, if_neg (by omega), numV, hd]
  congr 1
  omega
theorem numV_dg : ∀ (f n : Nat), n < 10 ^ f → numV (dg f n) 0 = some (n : Int)
  | 0, n, h => by
    have : n = 0 := by simp at h; exact h
    subst this; rfl
  | f + 1, n, h => by
    unfold dg
    by_cases h1 : n / 10 = 0
    · rw [if_pos h1, numV_dB]
      congr 1
      omega
    · rw [if_neg h1, numV_snoc, numV_dg f (n / 10) (by rw [Nat.pow_succ] at h; omega)]
      show numV [dB n] ((n / 10 : Nat) : Int) = _
      rw [numV_dB]
      congr 1
      omega
theorem dg_head : ∀ (f n : Nat), 1 ≤ n → n < 10 ^ f → ∃ b l, dg f n = b :: l ∧ b.toNat ≠ 48
  | 0, n, h, h2 => by simp at h2; omega
  | f + 1, n, h, h2 => by
    unfold dg
    have hd := dB_toNat n
    by_cases h1 : n / 10 = 0
    · rw [if_pos h1]
      exact ⟨_, _, rfl, by omega⟩
    · rw [if_neg h1]
      obtain ⟨b, l, e, hb⟩ := dg_head f (n / 10) (by omega) (by rw [Nat.pow_succ] at h2; omega)
      exact ⟨b, l ++ [dB n], by rw [e]; rfl, hb⟩

theorem byte0 {b : UInt8} {l : List UInt8} : byteAt (mk (b :: l)) 0 = (b.toNat : Int) := byteAt_bs (mk (b :: l)) 0
theorem numB_mk {l : List UInt8} (h : ¬ (l.length < 1 ∨ 7 < l.length ∨ (1 < l.length ∧ byteAt (mk l) 0 = 48))) : numB (mk l) = (match numV l 0 with | some n => if 1000000 < n then (0, false) else (n, true) | none => (0, false)) := by
  unfold numB
  rw [mk_size, if_neg h, numG_eq l.length 0 0 (by rw [mk_size]; omega), bs_mk, List.drop_zero]
  rfl

theorem ten20 {n : Nat} (h : n ≤ 1000000) : n < 10 ^ 20 := Nat.lt_of_le_of_lt h (by decide)
theorem num_dg {n : Nat} (h : n ≤ 1000000) : numB (mk (dg 20 n)) = ((n : Int), true) := by
  have h1 : 1 ≤ (dg 20 n).length := dg_pos 19 n
  have h2 := dg_length 20 6 n (Nat.lt_of_le_of_lt h (by decide))
  have h3 : ¬ (1 < (dg 20 n).length ∧ byteAt (mk (dg 20 n)) 0 = 48) := by
    rintro ⟨g1, g2⟩
    have h10 : 1 ≤ n := by
      rcases Nat.eq_zero_or_pos n with rfl | h
      · exact absurd g1 (by decide)
      · exact h
    obtain ⟨b, l, e, hb⟩ := dg_head 20 n h10 (ten20 h)
    rw [e, byte0] at g2
    omega
  rw [numB_mk (by omega), numV_dg 20 n (ten20 h)]
  show (if (1000000 : Int) < (n : Int) then _ else _) = _
  rw [if_neg (by omega)]
theorem num_bad {l : List UInt8} (h : 7 < l.length ∨ (1 < l.length ∧ byteAt (mk l) 0 = 48)) : (numB (mk l)).2 = false := by
  have h2 : l.length < 1 ∨ 7 < l.length ∨ (1 < l.length ∧ byteAt (mk l) 0 = 48) := .inr h
  unfold numB
  rw [mk_size, if_pos h2]
theorem num_sign {l : List UInt8} : (numB (mk (45 :: l))).2 = false := by
  by_cases h : (45 :: l).length < 1 ∨ 7 < (45 :: l).length ∨ (1 < (45 :: l).length ∧ byteAt (mk (45 :: l)) 0 = 48)
  · unfold numB
    rw [mk_size, if_pos h]
  · rw [numB_mk h, numV, if_pos (by decide)]

/-! ### digits -/

theorem wrap_u8 (n : Int) : IntKind.u8.wrap n = n % 256 := by simp [IntKind.wrap, IntKind.bits, IntKind.signed]
theorem one_str (u : Nat) (hu : u < 10000000) : bytesStr (IntKind.u8.wrap (IntKind.i64.wrap ((48 : Int) + (Int.tmod (u : Int) 10))) :: ([] : List Int)) = mk [dB u] := by
  have e : Int.tmod (u : Int) 10 = ((u % 10 : Nat) : Int) := rfl
  have e2 : IntKind.u8.wrap (IntKind.i64.wrap ((48 : Int) + ((u % 10 : Nat) : Int))) = ((48 + u % 10 : Nat) : Int) := by
    rw [w64 (by omega) (by omega), wrap_u8]; omega
  rw [e, e2]
  rfl

theorem digits_loop : ∀ (f u : Nat) (l : List UInt8), u < 10 ^ (f + 1) → u < 10000000 → l.length + f ≤ 100 → digits.l1 (f + 1) (u : Int) (mk l) = some (vs (digitsG (f + 1) u (mk l)), [])
  | f, u, l, h, hu, hl => by
    have z := mk_size l
    have z1 : (mk [dB u]).size = 1 := mk_size _
    have e1 : IntKind.i64.wrap (Int.tdiv (u : Int) 10) = ((u / 10 : Nat) : Int) := by
      rw [Int.tdiv_eq_ediv_of_nonneg (by omega), w64] <;> omega
    rw [digits.s1, one_str u hu, e1, mk_append]
    have t1 : (mk [dB u]).size + (mk l).size ≤ 9223372036854775807 := by omega
    refine (test_d t1).trans ?_
    unfold digitsG
    have e2 : (⟨#[UInt8.ofNat (48 + u % 10)]⟩ : ByteArray) ++ mk l = mk ([dB u] ++ l) := mk_append [dB u] l
    rw [e2]
    by_cases h0 : u / 10 = 0
    · rw [cond_et (by omega), if_pos h0]; rfl
    · rw [cond_ef (by omega), if_neg h0]
      cases f with
      | zero => simp at h; omega
      | succ f => exact digits_loop f (u / 10) ([dB u] ++ l) (by rw [Nat.pow_succ] at h; omega) (by omega) (by simp; omega)

theorem digits_ok : digits.OK := digits.mk .nil fun n hx => by
  have h : (true && (decide (0 ≤ n ∧ n ≤ 1000000) && true)) = true := hx
  simp only [Bool.true_and, Bool.and_true, decide_eq_true_eq] at h
  obtain ⟨u, rfl⟩ : ∃ u : Nat, n = u := ⟨n.toNat, by omega⟩
  refine ⟨20 + 1, ?_⟩
  rw [digits.start]
  have := digits_loop 19 u [] (Nat.lt_of_le_of_lt (show u ≤ 1000000 by omega) (by decide)) (by omega) (by simp)
  exact this

/-! ### the document's join -/

theorem joinT_size (l : List ByteArray) : ∀ w ∈ l, w.size ≤ (joinT l).size := by
  induction l with
  | nil => intro w h; cases h
  | cons v l ih =>
    intro w h
    have e : (joinT (v :: l)).size = 1 + v.size + (joinT l).size := by
      show (((⟨#[32]⟩ : ByteArray) ++ v) ++ joinT l).size = _
      rw [ByteArray.size_append, ByteArray.size_append]; rfl
    rcases List.mem_cons.1 h with rfl | h
    · omega
    · have := ih w h; omega

theorem joinR_l2 {L : List Ln} {N K : Int} {W : List ByteArray} {R : ByteArray} (hw : W.length ≤ 1000000) (m : Nat) : ∀ (d k : Nat) (t : ByteArray), W.length = k + d → 0 < k → (t ++ joinT (W.drop k)) = R → R.size ≤ 1000000 →
    joinR.l2 (m + (d + 1)) t L N K W (W.length : Int) (k : Int) = joinR.l1 m (R ++ (⟨#[10]⟩ : ByteArray)) L N (IntKind.i64.wrap (K + 1))
  | 0, k, t, h, h0, ht, hR => by
    have ht : t = R := by rw [← ht, List.drop_eq_nil_of_le (by omega)]; exact ByteArray.append_empty.symm
    have t1 : R.size + (⟨#[10]⟩ : ByteArray).size ≤ 9223372036854775807 := by show R.size + 1 ≤ _; omega
    refine (joinR.s2 m t L N K W _ _).trans ?_
    rw [cond_df (by omega), ht]
    exact test_d t1
  | d + 1, k, t, h, h0, ht, hR => by
    have hd := rdEl_drop (t := .str) W (show k < W.length by omega)
    have ht' : ((t ++ (⟨#[32]⟩ : ByteArray)) ++ (show ByteArray from rdEl .str W k)) ++ joinT (W.drop (k + 1)) = R := by
      rw [hd] at ht
      rw [← ht, ByteArray.append_assoc, ByteArray.append_assoc]
      show t ++ ((⟨#[32]⟩ : ByteArray) ++ (rdEl .str W k ++ joinT (W.drop (k + 1)))) = t ++ (((⟨#[32]⟩ : ByteArray) ++ rdEl .str W k) ++ joinT (W.drop (k + 1)))
      rw [ByteArray.append_assoc]
    have hsz := congrArg ByteArray.size ht'
    rw [ByteArray.size_append, ByteArray.size_append] at hsz
    have t1 : t.size + (⟨#[32]⟩ : ByteArray).size ≤ 9223372036854775807 := by rw [← ByteArray.size_append]; omega
    have t2 : (t ++ (⟨#[32]⟩ : ByteArray)).size + (show ByteArray from rdEl .str W k).size ≤ 9223372036854775807 := by omega
    refine (joinR.s2 (m + (d + 1)) t L N K W _ _).trans ?_
    rw [cond_dt (by omega), test_d (by omega), test_d (by omega), cond_dt (by omega), toNat_cast, w64s (by omega)]
    refine (test_d t1).trans ((test_d t2).trans ?_)
    exact joinR_l2 hw m d (k + 1) _ (by omega) (by omega) ht' hR

theorem joinR_row {L : List Ln} {N K : Int} {W : List ByteArray} {t : ByteArray} (hw : W.length ≤ 1000000) (hR : (t ++ joinW W).size ≤ 1000000) (m : Nat) :
    joinR.l2 (m + (W.length + 1)) t L N K W (W.length : Int) 0 = joinR.l1 m (t ++ (joinW W ++ (⟨#[10]⟩ : ByteArray))) L N (IntKind.i64.wrap (K + 1)) := by
  rw [← ByteArray.append_assoc]
  cases W with
  | nil =>
    have t1 : t.size + (⟨#[10]⟩ : ByteArray).size ≤ 9223372036854775807 := by
      have := hR
      rw [ByteArray.size_append] at this
      show t.size + 1 ≤ _; omega
    refine (joinR.s2 m t L N K [] _ _).trans ?_
    have e : t ++ joinW [] = t := ByteArray.append_empty
    rw [cond_df (by simp), e]
    exact test_d t1
  | cons w W =>
    have hl : (w :: W).length = W.length + 1 := rfl
    have e : t ++ joinW (w :: W) = (t ++ w) ++ joinT W := (ByteArray.append_assoc).symm
    have t1 : t.size + w.size ≤ 9223372036854775807 := by
      have := hR
      rw [e, ByteArray.size_append, ByteArray.size_append] at this
      omega
    have key := joinR.s2 (m + (W.length + 1)) t L N K (w :: W) ((w :: W).length : Int) 0
    rw [cond_dt (by omega), test_d (by omega), test_d (by omega), cond_df (by omega)] at key
    refine key.trans ((test_d t1).trans ?_)
    have := joinR_l2 (L := L) (N := N) (K := K) (W := w :: W) (R := t ++ joinW (w :: W)) hw m W.length 1 (t ++ w) (by omega) (by omega) e.symm hR
    exact this

theorem joinR_loop {L : List Ln} (hL : L.length ≤ 1000000) (hLW : ∀ x ∈ L, x.2.length ≤ 1000000) : ∀ (d k : Nat) (t : ByteArray), L.length = k + d → (t ++ joinL (L.drop k)).size ≤ 1000000 →
    ∃ f, ∀ m, joinR.l1 (m + f) t L (L.length : Int) (k : Int) = some (vs (t ++ joinL (L.drop k)), [])
  | 0, k, t, h, _ => ⟨1, fun m => by
      have e : t ++ joinL (L.drop k) = t := by rw [List.drop_eq_nil_of_le (by omega)]; exact ByteArray.append_empty
      rw [joinR.s1, cond_df (by omega), e]; rfl⟩
  | d + 1, k, t, h, hR => by
    have hd := rdEl_drop (t := TLine) L (show k < L.length by omega)
    have e : t ++ joinL (L.drop k) = (t ++ (joinW (rdEl TLine L k).2 ++ (⟨#[10]⟩ : ByteArray))) ++ joinL (L.drop (k + 1)) := by
      rw [hd, ByteArray.append_assoc]; rfl
    rw [e] at hR ⊢
    obtain ⟨f, hf⟩ := joinR_loop hL hLW d (k + 1) (t ++ (joinW (rdEl TLine L k).2 ++ (⟨#[10]⟩ : ByteArray))) (by omega) hR
    have hmem : rdEl TLine L k ∈ L := by
      have : rdEl TLine L k ∈ L.drop k := by rw [hd]; exact List.mem_cons_self ..
      exact List.mem_of_mem_drop this
    have hw := hLW _ hmem
    have hsz : (t ++ joinW (rdEl TLine L k).2).size ≤ 1000000 := by
      have h2 := hR
      rw [ByteArray.size_append, ByteArray.size_append, ByteArray.size_append] at h2
      rw [ByteArray.size_append]; omega
    refine ⟨f + ((rdEl TLine L k).2.length + 1) + 1, fun m => ?_⟩
    rw [show m + (f + ((rdEl TLine L k).2.length + 1) + 1) = (m + f + ((rdEl TLine L k).2.length + 1)) + 1 by omega, joinR.s1, cond_dt (by omega), test_d (by omega), test_d (by omega), toNat_cast]
    refine (joinR_row hw hsz (m + f)).trans ?_
    rw [w64s (by omega)]
    exact hf m

theorem joinL_len : ∀ (L : List Ln), L.length ≤ (joinL L).size ∧ ∀ x ∈ L, (joinW x.2).size ≤ (joinL L).size
  | [] => ⟨Nat.zero_le _, fun _ h => by cases h⟩
  | x :: L => by
    obtain ⟨h1, h2⟩ := joinL_len L
    have e : (joinL (x :: L)).size = (joinW x.2).size + 1 + (joinL L).size := by
      show ((joinW x.2 ++ (⟨#[10]⟩ : ByteArray)) ++ joinL L).size = _
      rw [ByteArray.size_append, ByteArray.size_append]; rfl
    refine ⟨by rw [e]; simp; omega, fun y hy => ?_⟩
    rcases List.mem_cons.1 hy with rfl | hy
    · omega
    · have := h2 y hy; omega
theorem joinT_len : ∀ W : List ByteArray, W.length ≤ (joinT W).size
  | [] => Nat.zero_le _
  | w :: W => by
    have := joinT_len W
    have e : (joinT (w :: W)).size = 1 + w.size + (joinT W).size := by
      show (((⟨#[32]⟩ : ByteArray) ++ w) ++ joinT W).size = _
      rw [ByteArray.size_append, ByteArray.size_append]; rfl
    rw [e]; simp; omega
theorem joinW_len (W : List ByteArray) : W.length ≤ (joinW W).size + 1 := by
  cases W with
  | nil => exact Nat.zero_le _
  | cons w W =>
    have := joinT_len W
    show W.length + 1 ≤ (w ++ joinT W).size + 1
    rw [ByteArray.size_append]; omega

theorem joinR_ok : joinR.OK := joinR.mk .nil fun L hx => by
  have h2 := (Bool.and_eq_true_iff.1 (Bool.and_eq_true_iff.1 hx).2).1
  have h2 : (joinL L).size ≤ 1000000 := of_decide_eq_true h2
  obtain ⟨h3, h4⟩ := joinL_len L
  have e : (⟨#[]⟩ : ByteArray) ++ joinL (L.drop 0) = joinL L := ByteArray.empty_append
  obtain ⟨f, hf⟩ := joinR_loop (L := L) (by omega) (fun x hx => by
    have h5 := h4 x hx
    have h6 := joinW_len x.2
    have h7 : (joinW x.2).size + 1 ≤ (joinL L).size := by
      obtain ⟨a, b, rfl⟩ := List.append_of_mem hx
      have : ∀ (a b : List Ln), (joinW x.2).size + 1 ≤ (joinL (a ++ x :: b)).size := by
        intro a b
        induction a with
        | nil =>
          show _ ≤ ((joinW x.2 ++ (⟨#[10]⟩ : ByteArray)) ++ joinL b).size
          rw [ByteArray.size_append, ByteArray.size_append]
          show _ ≤ (joinW x.2).size + 1 + _
          omega
        | cons y a ih =>
          show _ ≤ ((joinW y.2 ++ (⟨#[10]⟩ : ByteArray)) ++ joinL (a ++ x :: b)).size
          rw [ByteArray.size_append]; omega
      exact this a b
    omega) L.length 0 ⟨#[]⟩ (by omega) (by rw [e]; exact h2)
  refine ⟨0 + f + 1, ?_⟩
  rw [joinR.start]
  have := hf 0
  rw [e] at this
  exact this

/-! ### the law -/

theorem number_pre {s : ByteArray} (h : s.size ≤ 1000000) : number.pre (s, ()) = true := by
  show (fits .str s && true) = true
  rw [str_fits h]; rfl

theorem takeWhile_all {p : UInt8 → Bool} : ∀ {l : List UInt8}, (∀ b ∈ l, p b = true) → l.takeWhile p = l
  | [], _ => rfl
  | b :: l, h => by rw [List.takeWhile_cons, h b (List.mem_cons_self ..)]; simp only [if_true]; rw [takeWhile_all fun z hz => h z (List.mem_cons_of_mem _ hz)]

theorem one_line {d : List UInt8} (h1 : 1 ≤ d.length) (h2 : d.length ≤ 100) (hd : ∀ b ∈ d, 48 ≤ b.toNat ∧ b.toNat ≤ 57) : splitL (mk (d ++ [10])) = ([((1 : Int), [mk d])], 0, 0) := by
  have hs : spl 10 (d ++ [10]) = d :: [[]] := (spl_app (c := 10) (a := d) (l := []) (b := 10) (fun b hb => by have := hd b hb; omega) (by decide)).trans rfl
  have hm : ml d = true := by
    unfold ml
    rw [List.all_eq_true.2 fun b hb => by have := hd b hb; unfold okB; rw [dec_t (by omega), dec_t (by omega)]; rfl, dec_t (by omega)]; rfl
  have hw : wl d = [d] := by
    unfold wl
    have e : d.takeWhile (· != 35) = d := takeWhile_all fun b hb => by
      have := hd b hb
      have h : b ≠ 35 := fun e => by subst e; exact absurd this.1 (by decide)
      simpa using h
    rw [e, spl_none (fun b hb => by have := hd b hb; omega)]
    cases d with
    | nil => simp at h1
    | cons b d => rfl
  rw [splitL_eq (by rw [mk_size]; simp; omega), bs_mk, hs, sg_good hm (by rw [hw]; simp), sg_none (by decide) (by decide), hw]
  rfl

theorem lNumbers_R : lNumbers.Law := fun x0 hx => by
  have hh : ∃ d, lNumbers.go d x0 = some (vb true, []) := by
    obtain ⟨n, e0, h0⟩ := drawn x0 (c := 1000001) (by omega) (by omega)
    have hn : n ≤ 1000000 := by omega
    have hd : digitsB (n : Int) = mk (dg 20 n) := by rw [digitsB_eq, toNat_cast]
    have n1 := num_dg hn
    have p1 : 1 ≤ (dg 20 n).length := dg_pos 19 n
    have p2 := dg_length 20 6 n (Nat.lt_of_le_of_lt hn (by decide))
    have p3 := dg_digit 20 n
    have n2 : (numB (mk (48 :: dg 20 n))).2 = false := num_bad (.inr ⟨by simp; omega, byte0⟩)
    have n3 : (numB (mk (45 :: dg 20 n))).2 = false := num_sign
    have n4 : (numB (mk (dg 20 n ++ [48, 48, 48, 48, 48, 48, 49]))).2 = false := num_bad (.inl (by simp; omega))
    generalize dg 20 n = d at hd n1 p1 p2 p3 n2 n3 n4
    have hj : joinL [((0 : Int), [mk d])] = mk (d ++ [10]) := by
      show ((mk d ++ (⟨#[]⟩ : ByteArray)) ++ (⟨#[10]⟩ : ByteArray)) ++ (⟨#[]⟩ : ByteArray) = _
      rw [show (mk d ++ (⟨#[]⟩ : ByteArray)) = mk d from ByteArray.append_empty]
      exact (ByteArray.append_empty).trans (mk_append d [10])
    have hsp := one_line (d := d) (by omega) (by omega) p3
    have z0 : (mk (d ++ [10])).size = d.length + 1 := by rw [mk_size]; simp
    have z1 := mk_size d
    have hp1 : joinR.pre ([((0 : Int), [mk d])], ()) = true := by
      show (fits (.sl TLine) [((0 : Int), [mk d])] && (decide ((joinL [((0 : Int), [mk d])]).size ≤ 1000000) && true)) = true
      have f1 : fits (.sl TLine) [((0 : Int), [mk d])] = true := by
        show (decide (_ ≤ reachBytes) && ((true && (decide (_ ≤ reachBytes) && (fits .str (mk d) && true))) && true)) = true
        rw [str_fits (s := mk d) (by omega)]
        rfl
      rw [f1, hj, z0, dec_t (by omega)]; rfl
    have e48 : (⟨#[48]⟩ : ByteArray) ++ mk d = mk (48 :: d) := mk_append [48] d
    have e45 : (⟨#[45]⟩ : ByteArray) ++ mk d = mk (45 :: d) := mk_append [45] d
    have e49 : mk d ++ (⟨#[48, 48, 48, 48, 48, 48, 49]⟩ : ByteArray) = mk (d ++ [48, 48, 48, 48, 48, 48, 49]) := mk_append d _
    have q1 : (⟨#[48]⟩ : ByteArray).size + (mk d).size ≤ 9223372036854775807 := by show 1 + (mk d).size ≤ _; omega
    have q2 : (⟨#[45]⟩ : ByteArray).size + (mk d).size ≤ 9223372036854775807 := by show 1 + (mk d).size ≤ _; omega
    have q3 : (mk d).size + (⟨#[48, 48, 48, 48, 48, 48, 49]⟩ : ByteArray).size ≤ 9223372036854775807 := by show (mk d).size + 7 ≤ _; omega
    have r0 := number_pre (s := mk d) (by omega)
    have r1 := number_pre (s := mk (48 :: d)) (by rw [mk_size]; simp; omega)
    have r2 := number_pre (s := mk (45 :: d)) (by rw [mk_size]; simp; omega)
    have r3 := number_pre (s := mk (d ++ [48, 48, 48, 48, 48, 48, 49])) (by rw [mk_size]; simp; omega)
    have hp0 : digits.pre ((n : Int), ()) = true := by
      show (true && (decide (0 ≤ (n : Int) ∧ (n : Int) ≤ 1000000) && true)) = true
      rw [dec_t ⟨by omega, by omega⟩]; rfl
    refine ⟨1, ?_⟩
    rw [lNumbers.start, e0, test_true hp0, hd, test_true hp1, hj, test_true (split_pre (by omega)), hsp]
    have ix : rdEl TLine [((1 : Int), [mk d])] (Int.toNat 0) = ((1 : Int), [mk d]) := rfl
    have iy : rdEl .str [mk d] (Int.toNat 0) = mk d := rfl
    dsimp only
    rw [ix]
    dsimp only
    rw [iy, e48, e45, e49]
    have b1 : (0 : Int) < (([((1 : Int), [mk d])] : List Ln).length : Int) := by show (0 : Int) < 1; decide
    have b2 : (0 : Int) < (([mk d] : List ByteArray).length : Int) := by show (0 : Int) < 1; decide
    have c1 : bne (0 : Int) 0 = false := rfl
    have c2 : bne (([((1 : Int), [mk d])] : List Ln).length : Int) 1 = false := rfl
    have c3 : bne (([mk d] : List ByteArray).length : Int) 1 = false := rfl
    rw [n1, n2, n3, n4]
    refine (cond_f c1).trans ((cond_f c2).trans ((test_d b1).trans ((cond_f c3).trans ((test_d b1).trans ((test_d b2).trans ((test_true r0).trans ((test_d b1).trans ((test_d b2).trans ((test_d q1).trans ((test_true r1).trans ((test_d b1).trans ((test_d b2).trans ((test_d q2).trans ((test_true r2).trans ((test_d b1).trans ((test_d b2).trans ((test_d q3).trans ((test_true r3).trans ?_))))))))))))))))))
    rw [cond_true, cond_et rfl, Bool.not_false, cond_true, cond_true, cond_true]
    rfl
  obtain ⟨d, hd⟩ := hh
  exact lNumbers.ret (awake_ok.cons' (split_ok.cons' (number_ok.cons' (joinR_ok.cons' (digits_ok.cons' .nil))))) x0 hd

end Go.Proofs.Ytcjlebkfekfkbaa
