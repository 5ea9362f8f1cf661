/-
  Tickets: the contracts of the document's book.
-/
import Derived.Test.YtlmfmpfpildemaaLP
namespace Go.Proofs.Ytlmfmpfpildemaa
open Go VE

theorem take_rd {l : List (El TKey)} {k : Nat} (hk : k < l.length) : l.take (k + 1) = l.take k ++ [rdEl TKey l k] := by
  rw [List.take_succ_eq_append_getElem hk]
  congr 2
  simp [rdEl, List.getD, hk]

theorem ofR_loop (l : List (El TKey)) (i : Int) (hb : l.length * 16 ≤ reachBytes) : ∀ (n k : Nat), l.length = k + n → (l.take k).any (keyA i) = false → ofR.l1 (n + 1) i l l.length k = some (.tup [vi .i64 (match l.find? (keyA i) with | some z => z.2 | none => 0), vb (l.any (keyA i))], [])
  | 0, k, hk, ha => by
    have : k = l.length := by omega
    subst this
    rw [List.take_length] at ha
    rw [ofR.s1, cond_df (by omega), ha, List.find?_eq_none.2 fun x hx => by have := List.any_eq_false.1 ha x hx; simpa using this]
    rfl
  | n + 1, k, hk, ha => by
    have hr := reach_lt
    have hlt : k < l.length := by omega
    rw [ofR.s1, cond_dt (by omega), test_d (by omega), test_d (by omega), toNat_cast]
    by_cases hc : (rdEl TKey l k).1 = i
    · have h1 : keyA i (rdEl TKey l k) = true := by simp [keyA, hc]
      rw [cond_et hc]
      have hs : l = l.take k ++ (rdEl TKey l k :: l.drop (k + 1)) := by rw [← rdEl_drop (t := TKey) l hlt, List.take_append_drop]
      have hf : (l.take k).find? (keyA i) = none := List.find?_eq_none.2 fun x hx => by have := List.any_eq_false.1 ha x hx; simpa using this
      have e1 : l.find? (keyA i) = some (rdEl TKey l k) := by
        conv => lhs; rw [hs]
        rw [List.find?_append, hf, List.find?_cons, h1]; rfl
      have e2 : l.any (keyA i) = true := by
        conv => lhs; rw [hs]
        rw [List.any_append, List.any_cons, h1, Bool.true_or, Bool.or_true]
      rw [e1, e2]; rfl
    · have h1 : keyA i (rdEl TKey l k) = false := by simp [keyA, hc]
      rw [cond_ef hc, w64s (by omega)]
      exact ofR_loop l i hb n (k + 1) (by omega) (by rw [take_rd hlt, List.any_append, ha]; simp [h1])

theorem ofR_ok : ofR.OK := ofR.mk SpecsOK.nil fun b i hx => by
  have h : (fits TBookR b && (true && true)) = true := hx
  simp only [Bool.and_eq_true] at h
  exact ⟨b.1.length + 2, by rw [ofR.start]; exact ofR_loop b.1 i (bookR_fits h.1) b.1.length 0 (by omega) rfl⟩

theorem openR_ok : openR.OK := openR.mk .nil fun b h hx => by
  have hf : (fits TBookR b && (true && true)) = true := hx
  simp only [Bool.and_eq_true] at hf
  refine ⟨1, ?_⟩
  rw [openR.start]
  have hres : openR.res (b, h, ()) = .tup [vi .i64 (openRI b), vi .i64 (openRE b)] := rfl
  have hback : openR.back (b, h, ()) = objBx 0 47 TBookR [some 35, none] (openRB b h) := rfl
  rw [hres, hback]
  unfold openRI openRE openRB fullR
  by_cases hc : 2000 ≤ b.1.length
  · rw [cond_dt (by omega), cond_dt hc, cond_dt hc, cond_dt hc]; rfl
  · rw [cond_df (by omega), cond_df hc, cond_df hc, cond_df hc, test_d (by simp only [List.length_cons, List.length_nil, lim]; omega)]; rfl

theorem closeR_loop (b : El TBookR) (i : Int) (r : Int) (hb : b.1.length * 16 ≤ reachBytes) : ∀ (n k : Nat), b.1.length = k + n → closeR.l1 (n + 1) i r b.1.length k (dropA i (b.1.take k)) b.2 b.1 = some (.tup [vi .i64 r, vi .i64 0], objBx 0 47 TBookR [some 35, none] (dropA i b.1, b.2))
  | 0, k, hk => by
    have : k = b.1.length := by omega
    subst this
    rw [closeR.s1, cond_df (by omega), List.take_length]; rfl
  | n + 1, k, hk => by
    have hr := reach_lt
    have hlt : k < b.1.length := by omega
    have hfl : (dropA i (b.1.take k)).length ≤ k := Nat.le_trans (List.length_filter_le _ _) (by simp; omega)
    have ih := closeR_loop b i r hb n (k + 1) (by omega)
    rw [take_rd hlt] at ih
    unfold dropA at ih hfl ⊢
    rw [List.filter_append] at ih
    rw [closeR.s1, cond_dt (by omega), test_d (by omega), test_d (by omega), toNat_cast]
    by_cases hc : (rdEl TKey b.1 k).1 = i
    · have h1 : keyA i (rdEl TKey b.1 k) = true := by simp [keyA, hc]
      rw [cond_nf hc, w64s (by omega)]
      simpa [h1] using ih
    · have h1 : keyA i (rdEl TKey b.1 k) = false := by simp [keyA, hc]
      rw [cond_nt hc, test_d (by simp only [List.length_cons, List.length_nil, lim]; omega), w64s (by omega)]
      simpa [h1] using ih

theorem closeR_ok : closeR.OK := closeR.mk (ofR_ok.cons' SpecsOK.nil) fun b i hx => by
  have hf : (fits TBookR b && (true && true)) = true := hx
  simp only [Bool.and_eq_true] at hf
  refine ⟨b.1.length + 2, ?_⟩
  have hres : closeR.res (b, i, ()) = .tup [vi .i64 (ofRI b i), vi .i64 (bif ofRB b i then 0 else 4)] := rfl
  have hback : closeR.back (b, i, ()) = objBx 0 47 TBookR [some 35, none] (closeRB b i) := rfl
  rw [closeR.start, hres, hback, test_true (show ofR.pre (b, i, ()) = true from hx)]
  unfold closeRB
  cases hc : ofRB b i with
  | false =>
    have h0 : ofRI b i = 0 := by
      unfold ofRI
      have : b.1.any (keyA i) = false := hc
      rw [List.find?_eq_none.2 fun x hx => by have := List.any_eq_false.1 this x hx; simpa using this]
    rw [h0]; rfl
  | true => exact closeR_loop b i (ofRI b i) (bookR_fits hf.1) b.1.length 0 (by omega)

theorem filt_part (l : List (Int × Int)) (h : Int) : l.length = (dropL h l).length + (l.filter (keyB h)).length := by
  induction l with
  | nil => rfl
  | cons a l ih =>
    unfold dropL at ih ⊢
    cases hp : keyB h a <;> simp [hp] <;> omega

theorem dropR_loop (b : El TBookR) (h : Int) (hb : b.1.length * 16 ≤ reachBytes) : ∀ (n k : Nat), b.1.length = k + n → dropR.l1 (n + 1) h b.1.length k (dropL h (b.1.take k)) b.2 b.1 = some (vi .i64 (countRI b h), objBx 0 47 TBookR [some 35, none] (dropL h b.1, b.2))
  | 0, k, hk => by
    have : k = b.1.length := by omega
    subst this
    have hr := reach_lt
    have hp := filt_part b.1 h
    have hle := List.length_filter_le (keyB h) b.1
    rw [dropR.s1, cond_df (by omega), List.take_length]
    have e : IntKind.i64.wrap (((b.1.length : Nat) : Int) - (((dropL h b.1).length : Nat) : Int)) = countRI b h := by
      unfold countRI
      rw [w64 (by omega) (by omega)]
      omega
    rw [e]; rfl
  | n + 1, k, hk => by
    have hr := reach_lt
    have hlt : k < b.1.length := by omega
    have hfl : (dropL h (b.1.take k)).length ≤ k := Nat.le_trans (List.length_filter_le _ _) (by simp; omega)
    have ih := dropR_loop b h hb n (k + 1) (by omega)
    rw [take_rd hlt] at ih
    unfold dropL at ih hfl ⊢
    rw [List.filter_append] at ih
    rw [dropR.s1, cond_dt (by omega), test_d (by omega), test_d (by omega), toNat_cast]
    by_cases hc : (rdEl TKey b.1 k).2 = h
    · have h1 : keyB h (rdEl TKey b.1 k) = true := by simp [keyB, hc]
      rw [cond_nf hc, w64s (by omega)]
      simpa [h1] using ih
    · have h1 : keyB h (rdEl TKey b.1 k) = false := by simp [keyB, hc]
      rw [cond_nt hc, test_d (by simp only [List.length_cons, List.length_nil, lim]; omega), w64s (by omega)]
      simpa [h1] using ih

theorem dropR_ok : dropR.OK := dropR.mk .nil fun b h hx => by
  have hf : (fits TBookR b && (true && true)) = true := hx
  simp only [Bool.and_eq_true] at hf
  exact ⟨b.1.length + 2, by rw [dropR.start]; exact dropR_loop b h (bookR_fits hf.1) b.1.length 0 (by omega)⟩

theorem countR_loop (l : List (El TKey)) (h : Int) (hb : l.length * 16 ≤ reachBytes) : ∀ (n k : Nat), l.length = k + n → countR.l1 (n + 1) h (((l.take k).filter (keyB h)).length : Nat) l l.length k = some (vi .i64 ((l.filter (keyB h)).length : Nat), [])
  | 0, k, hk => by
    have : k = l.length := by omega
    subst this
    rw [countR.s1, cond_df (by omega), List.take_length]; rfl
  | n + 1, k, hk => by
    have hr := reach_lt
    have hlt : k < l.length := by omega
    have hfl : ((l.take k).filter (keyB h)).length ≤ k := Nat.le_trans (List.length_filter_le _ _) (by simp; omega)
    have ih := countR_loop l h hb n (k + 1) (by omega)
    rw [take_rd hlt, List.filter_append, List.length_append] at ih
    rw [countR.s1, cond_dt (by omega), test_d (by omega), test_d (by omega), toNat_cast]
    by_cases hc : (rdEl TKey l k).2 = h
    · have h1 : keyB h (rdEl TKey l k) = true := by simp [keyB, hc]
      rw [cond_et hc, w64s (by omega), w64s (by omega)]
      simpa [h1] using ih
    · have h1 : keyB h (rdEl TKey l k) = false := by simp [keyB, hc]
      rw [cond_ef hc, w64s (by omega)]
      simpa [h1] using ih

theorem countR_ok : countR.OK := countR.mk SpecsOK.nil fun b h hx => by
  have hf : (fits TBookR b && (true && true)) = true := hx
  simp only [Bool.and_eq_true] at hf
  exact ⟨b.1.length + 2, by rw [countR.start]; exact countR_loop b.1 h (bookR_fits hf.1) b.1.length 0 (by omega)⟩

theorem eq_loop (l m : List (El TKey)) (hlm : m.length = l.length) (hb : l.length * 16 ≤ reachBytes) : ∀ (n k : Nat), l.length = k + n → sameT.l1 (n + 1) l m l.length k = some (vb (eqK (l.drop k) (m.drop k)), [])
  | 0, k, h => by
    have : k = l.length := by omega
    subst this
    rw [sameT.s1, cond_df (by omega), List.drop_length, ← hlm, List.drop_length]; rfl
  | n + 1, k, h => by
    have hr := reach_lt
    rw [sameT.s1, cond_dt (by omega), test_d (by omega), test_d (by omega), test_d (by omega), test_d (by omega), toNat_cast, w64s (by omega), eq_loop l m hlm hb n (k + 1) (by omega), rdEl_drop (t := TKey) l (by omega : k < l.length), rdEl_drop (t := TKey) m (by omega : k < m.length), eqK]
    show cond (!kEq (rdEl TKey l k) (rdEl TKey m k)) _ _ = _
    cases kEq (rdEl TKey l k) (rdEl TKey m k) <;> rfl

theorem eqK_len : ∀ (l m : List (Int × Int)), l.length ≠ m.length → eqK l m = false
  | [], [], h => absurd rfl h
  | [], _ :: _, _ => rfl
  | _ :: _, [], _ => rfl
  | a :: l, b :: m, h => by
    rw [eqK, eqK_len l m (by simpa using h)]
    cases kEq a b <;> rfl

theorem sameT_ok : sameT.OK := sameT.mk SpecsOK.nil fun l m hx => by
  have hh : fits (.sl TKey) l = true ∧ fits (.sl TKey) m = true := by simpa [sameT.pre] using hx
  have hb := len_keys hh.1
  refine ⟨l.length + 2, ?_⟩
  rw [sameT.start]
  by_cases hlm : m.length = l.length
  · rw [cond_nf (by omega)]
    exact eq_loop l m hlm hb l.length 0 (by omega)
  · rw [cond_nt (by omega)]
    show _ = some (vb (eqK l m), _)
    rw [eqK_len l m (by omega)]; rfl

end Go.Proofs.Ytlmfmpfpildemaa
