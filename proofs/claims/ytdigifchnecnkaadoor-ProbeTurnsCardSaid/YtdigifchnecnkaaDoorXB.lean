/-
  Hashes: each function's contract.
-/
import Derived.Test.YtdigifchnecnkaaDoorPF
import Derived.Test.YtdigifchnecnkaaDoorVYl
import Derived.Test.YtdigifchnecnkaaDoorShelf
import Derived.Lib.AppendIntMem
namespace Go.Proofs.YtdigifchnecnkaaDoor
open Go VE

theorem tab_named : Tryd.prog.globalNamed "internal/strconv.uint64pow10" = some 0 := by kernel_rfl
theorem tab_cells : tabCells = cellsTab 0 .u64 0 Lib.pow10Tab := by kernel_rfl

theorem itoa_ok : itoa.OK := itoa.mkR fun n hx => by
  have h : (true && (decide (-9223372036854775808 ≤ n ∧ n ≤ 9223372036854775807) && true)) = true := hx
  simp only [Bool.and_eq_true, decide_eq_true_eq] at h
  obtain ⟨_, ⟨h0, h1⟩, _⟩ := h
  intro w us ok hok hl hus ha
  have hv := iv_v (ha 0 _ rfl)
  obtain ⟨v, rfl⟩ : ∃ v, us = #[v] := by
    obtain ⟨l⟩ := us
    match l, hus with
    | [v], _ => exact ⟨v, rfl⟩
  have hv : v = .int .i64 n := hv.1
  subst hv
  have hT : Lib.TabIs Tryd.prog w "internal/strconv.uint64pow10" .u64 Lib.pow10Tab := tab_of_laid (ok := ok) tab_named (by decide) fun p hp => hl p (by rw [tab_cells]; exact hp)
  refine (Tryd.strconv_Itoa n h0 h1 w hT).mono ?_
  rintro e w' ⟨rfl, k, os, rfl⟩
  exact ⟨_, rfl, Lib.below_grow _ w (Nat.le_refl _) k os, .c _ _ (.v _ rfl)⟩

/-! ### words of sixty-four bits -/

theorem wrap_u64 (n : Int) : IntKind.u64.wrap n = n % 18446744073709551616 := by
  simp [IntKind.wrap, IntKind.bits, IntKind.signed]
theorem bv_int (x : BitVec 64) : BitVec.ofInt 64 (x.toNat : Int) = x := by
  rw [BitVec.ofInt_natCast]; simp
theorem bv_lt (x : BitVec 64) : x.toNat < 18446744073709551616 := x.isLt
theorem wrap_bv (x : BitVec 64) : IntKind.u64.wrap (x.toNat : Int) = (x.toNat : Int) := by
  have := bv_lt x
  rw [wrap_u64]; omega
theorem wrap_mul (x c : BitVec 64) : IntKind.u64.wrap ((x.toNat : Int) * (c.toNat : Int)) = ((x * c).toNat : Int) := by
  have e : (x.toNat : Int) * (c.toNat : Int) = ((x.toNat * c.toNat : Nat) : Int) := (Int.natCast_mul _ _).symm
  have e2 : (2 : Nat) ^ 64 = 18446744073709551616 := rfl
  rw [wrap_u64, BitVec.toNat_mul, e, e2]
  generalize x.toNat * c.toNat = k
  omega
theorem fdiv_bv (x : BitVec 64) : Int.fdiv (x.toNat : Int) ((2 : Int) ^ (Min.min (Int.toNat (33 : Int)) (Go.IntKind.bits Go.IntKind.u64))) = ((x >>> 33).toNat : Int) := by
  have e : ((2 : Int) ^ (Min.min (Int.toNat (33 : Int)) (Go.IntKind.bits Go.IntKind.u64))) = 8589934592 := by decide
  have e2 : (2 : Nat) ^ 33 = 8589934592 := rfl
  rw [e, Int.fdiv_eq_ediv_of_nonneg _ (by omega), BitVec.toNat_ushiftRight, Nat.shiftRight_eq_div_pow, e2]
  generalize x.toNat = k
  omega

theorem hash_step (h : BitVec 64) {c : Int} (h0 : 0 ≤ c) (h1 : c < 256) :
    IntKind.u64.wrap ((IntKind.u64.wrap ((BitVec.toNat ((BitVec.ofInt (Go.IntKind.bits Go.IntKind.u64) (h.toNat : Int)) ^^^ (BitVec.ofInt (Go.IntKind.bits Go.IntKind.u64) (IntKind.u64.wrap c)))) : Int)) * (1099511628211 : Int)) = ((stepB h c).toNat : Int) := by
  unfold stepB
  have e1 : IntKind.u64.wrap c = c := by rw [wrap_u64]; omega
  have e2 : BitVec.ofInt (Go.IntKind.bits Go.IntKind.u64) (h.toNat : Int) = h := bv_int h
  rw [e1, e2]
  exact (congrArg (fun z => IntKind.u64.wrap (z * (1099511628211 : Int))) (wrap_bv (h ^^^ BitVec.ofInt 64 c))).trans (wrap_mul (h ^^^ BitVec.ofInt 64 c) 0x100000001b3#64)

theorem byteAt_lt (s : ByteArray) (n : Int) : 0 ≤ byteAt s n ∧ byteAt s n < 256 := by
  unfold byteAt
  have := (s.data.toList.getD n.toNat 0).toNat_lt
  omega

theorem hash_fin (h : BitVec 64) :
    IntKind.u64.wrap ((BitVec.toNat ((BitVec.ofInt (Go.IntKind.bits Go.IntKind.u64) (IntKind.u64.wrap ((IntKind.u64.wrap ((BitVec.toNat ((BitVec.ofInt (Go.IntKind.bits Go.IntKind.u64) (h.toNat : Int)) ^^^ (BitVec.ofInt (Go.IntKind.bits Go.IntKind.u64) (Int.fdiv (h.toNat : Int) ((2 : Int) ^ (Min.min (Int.toNat (33 : Int)) (Go.IntKind.bits Go.IntKind.u64))))))) : Int)) * (18397679294719823053 : Int)))) ^^^
      (BitVec.ofInt (Go.IntKind.bits Go.IntKind.u64) (Int.fdiv (IntKind.u64.wrap ((IntKind.u64.wrap ((BitVec.toNat ((BitVec.ofInt (Go.IntKind.bits Go.IntKind.u64) (h.toNat : Int)) ^^^ (BitVec.ofInt (Go.IntKind.bits Go.IntKind.u64) (Int.fdiv (h.toNat : Int) ((2 : Int) ^ (Min.min (Int.toNat (33 : Int)) (Go.IntKind.bits Go.IntKind.u64))))))) : Int)) * (18397679294719823053 : Int))) ((2 : Int) ^ (Min.min (Int.toNat (33 : Int)) (Go.IntKind.bits Go.IntKind.u64))))))) : Int) = ((finB h).toNat : Int) := by
  have e1 : IntKind.u64.wrap ((IntKind.u64.wrap ((BitVec.toNat ((BitVec.ofInt (Go.IntKind.bits Go.IntKind.u64) (h.toNat : Int)) ^^^ (BitVec.ofInt (Go.IntKind.bits Go.IntKind.u64) (Int.fdiv (h.toNat : Int) ((2 : Int) ^ (Min.min (Int.toNat (33 : Int)) (Go.IntKind.bits Go.IntKind.u64))))))) : Int)) * (18397679294719823053 : Int)) = (((h ^^^ (h >>> 33)) * 0xff51afd7ed558ccd#64).toNat : Int) := by
    rw [fdiv_bv]
    have a : BitVec.ofInt (Go.IntKind.bits Go.IntKind.u64) (h.toNat : Int) = h := bv_int h
    have b : BitVec.ofInt (Go.IntKind.bits Go.IntKind.u64) ((h >>> 33).toNat : Int) = h >>> 33 := bv_int _
    rw [a, b]
    exact (congrArg (fun z => IntKind.u64.wrap (z * (18397679294719823053 : Int))) (wrap_bv (h ^^^ (h >>> 33)))).trans (wrap_mul (h ^^^ (h >>> 33)) 0xff51afd7ed558ccd#64)
  obtain ⟨y, hy⟩ : ∃ y, (h ^^^ (h >>> 33)) * 0xff51afd7ed558ccd#64 = y := ⟨_, rfl⟩
  have hf : finB h = y ^^^ (y >>> 33) := by unfold finB; rw [hy]
  rw [e1, hy, fdiv_bv, hf]
  have a : BitVec.ofInt (Go.IntKind.bits Go.IntKind.u64) (y.toNat : Int) = y := bv_int y
  have b : BitVec.ofInt (Go.IntKind.bits Go.IntKind.u64) ((y >>> 33).toNat : Int) = y >>> 33 := bv_int _
  rw [a, b]
  exact wrap_bv (y ^^^ (y >>> 33))

theorem hashB_nil (h : BitVec 64) : hashB [] h = h := List.foldl_nil ..
theorem hashB_cons (c : Int) (l : List Int) (h : BitVec 64) : hashB (c :: l) h = hashB l (stepB h c) := List.foldl_cons ..
theorem vi_fold (k : IntKind) (n : Int) : IV.c (.v (.int k n)) = vi k n := rfl

theorem text_end (s : ByteArray) : vi .u64 (textN s) = vi .u64 ((finB (hashB (nums s) 0xcbf29ce484222325#64)).toNat : Int) := by rw [textN_eq, textB]

theorem text_loop (s : ByteArray) (hs : s.size ≤ reachBytes) : ∀ (n k : Nat) (h : BitVec 64), s.size = k + n → text.l1 (n + 1) s (h.toNat : Int) s.size k = some (vi .u64 ((finB (hashB ((nums s).drop k) h)).toNat : Int), [])
  | 0, k, h, hk => by
    have e : (nums s).drop k = [] := List.drop_eq_nil_of_le (by rw [nums_length]; omega)
    rw [text.s1, cond_df (by omega), hash_fin, e, hashB_nil, vi_fold]
  | n + 1, k, h, hk => by
    have hr := reach_lt
    have hb := byteAt_lt s k
    have e : (nums s).drop k = byteAt s k :: (nums s).drop (k + 1) := by
      have := rdEl_drop (t := .int .u8) (nums s) (k := k) (by rw [nums_length]; omega)
      rw [nums_rd] at this; exact this
    rw [text.s1, cond_dt (by omega), test_d (by omega), test_d (by omega), hash_step h hb.1 hb.2, w64s (by omega), text_loop s hs n (k + 1) _ (by omega), e, hashB_cons]

theorem text_ok : text.OK := text.mk SpecsOK.nil fun s hx => by
  have hs : s.size ≤ reachBytes := fits_str (by
    have h : (fits .str s && true) = true := hx
    simpa using h)
  refine ⟨s.size + 2, ?_⟩
  have hres : text.res (s, ()) = vi .u64 (textN s) := rfl
  rw [text.start, hres, text_end]
  exact text_loop s hs s.size 0 0xcbf29ce484222325#64 (by omega)
/-! ### numbers as texts -/

theorem dec_len : ∀ (k u : Nat), u < 10 ^ k → (Lib.decDigits u).length ≤ k + 1
  | 0, u, h => by
    rw [Lib.decDigits, dif_pos (by omega)]; simp
  | k + 1, u, h => by
    rw [Lib.decDigits]
    split
    · simp
    · have := dec_len k (u / 10) (by rw [Nat.pow_succ] at h; omega)
      rw [List.length_append]; simp; omega

theorem itoa_size {n : Int} (h0 : -9223372036854775808 ≤ n) (h1 : n ≤ 9223372036854775807) : (itoaB n).size ≤ 21 := by
  show (Lib.itoa n).toArray.size ≤ 21
  rw [List.size_toArray]
  unfold Lib.itoa
  have e : (10 : Nat) ^ 19 = 10000000000000000000 := rfl
  split
  · have := dec_len 19 n.natAbs (by omega)
    rw [List.length_cons]; omega
  · have := dec_len 19 n.toNat (by omega)
    omega

theorem append_size (a b : ByteArray) : (a ++ b).size = a.size + b.size := ByteArray.size_append

theorem with_pre {s : ByteArray} {n : Int} (hs : s.size ≤ 100000) (h0 : -9223372036854775808 ≤ n) (h1 : n ≤ 9223372036854775807) :
    (s ++ (⟨#[35]⟩ : ByteArray)).size = s.size + 1 ∧ fits .str ((s ++ (⟨#[35]⟩ : ByteArray)) ++ itoaB n) = true := by
  have e1 : (s ++ (⟨#[35]⟩ : ByteArray)).size = s.size + 1 := append_size _ _
  have hR : reachBytes = 140737488351232 := rfl
  have := itoa_size h0 h1
  exact ⟨e1, fits_str' (by rw [append_size, e1, hR]; omega)⟩

theorem with_ok : with.OK := with.mk (itoa_ok.cons' (text_ok.cons' SpecsOK.nil)) fun s n hx => by
  have h : (fits .str s && (true && (decide (s.size ≤ 100000 ∧ -9223372036854775808 ≤ n ∧ n ≤ 9223372036854775807) && true))) = true := hx
  simp only [Bool.and_eq_true, decide_eq_true_eq] at h
  obtain ⟨_, _, ⟨h0, h1, h2⟩, _⟩ := h
  obtain ⟨e1, e2⟩ := with_pre h0 h1 h2
  have hi := itoa_size h1 h2
  have hone : (⟨#[35]⟩ : ByteArray).size = 1 := rfl
  refine ⟨1, ?_⟩
  rw [with.start, test_d (by rw [hone]; omega), test_true (show itoa.pre (n, ()) = true by
    show (true && (decide (-9223372036854775808 ≤ n ∧ n ≤ 9223372036854775807) && true)) = true
    rw [dec_t ⟨h1, h2⟩]; rfl), test_d (by rw [e1]; omega), test_true (show text.pre ((s ++ (⟨#[35]⟩ : ByteArray)) ++ itoaB n, ()) = true by
    show (fits .str _ && true) = true
    rw [e2]; rfl)]
  rfl
theorem below_val {h n : Int} (h0 : 0 ≤ h) (h1 : h < 18446744073709551616) (hn : 1 ≤ n) (hn2 : n ≤ 9223372036854775807) : IntKind.i64.wrap (Int.tmod h (IntKind.u64.wrap n)) = h % n := by
  have e : IntKind.u64.wrap n = n := by rw [wrap_u64]; omega
  have a1 := Int.emod_nonneg h (show n ≠ 0 by omega)
  have a2 := Int.emod_lt_of_pos h (show 0 < n by omega)
  rw [e, Int.tmod_eq_emod_of_nonneg h0, w64 (by omega) (by omega)]

end Go.Proofs.YtdigifchnecnkaaDoor
