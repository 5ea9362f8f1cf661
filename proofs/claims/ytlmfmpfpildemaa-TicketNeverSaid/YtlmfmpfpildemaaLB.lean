/-
  Tickets: each function's contract.
-/
import Derived.Test.YtlmfmpfpildemaaLF
namespace Go.Proofs.Ytlmfmpfpildemaa
open Go VE

theorem cond_nt {α : Type} {a b : Int} {x y : α} (h : a ≠ b) : cond (bne a b) x y = x := cond_t (by simpa using h)
theorem cond_nf {α : Type} {a b : Int} {x y : α} (h : a = b) : cond (bne a b) x y = y := cond_f (by simpa using h)

theorem fits_keys {l : List (El TKey)} (h : l.length * 16 ≤ reachBytes) : fits (.sl TKey) l = true := fits_sl (t := TKey) h fun _ _ => rfl
theorem len_keys {l : List (El TKey)} (h : fits (.sl TKey) l = true) : l.length * 16 ≤ reachBytes := fits_len' (n := 16) h rfl
theorem book_fits {b : El TBook} (h : fits TBook b = true) : b.2.length * 16 ≤ reachBytes := len_keys (fits_prod h).2
theorem bookR_fits {b : El TBookR} (h : fits TBookR b = true) : b.1.length * 16 ≤ reachBytes := len_keys (fits_prod h).1
theorem fits_book {b : El TBook} (h : b.2.length * 16 ≤ reachBytes) : fits TBook b = true := fits_mk (a := .int .i64) (x := b.1) (y := b.2) rfl (fits_keys h)
theorem fits_bookR {b : El TBookR} (h : b.1.length * 16 ≤ reachBytes) : fits TBookR b = true := fits_mk (b := .int .i64) (x := b.1) (y := b.2) (fits_keys h) rfl

/-! ### where a key stands -/

theorem isId_ok : isId.OK := isId.mk SpecsOK.nil fun k x _ => ⟨1, by rw [isId.start]; rfl⟩
theorem isHost_ok : isHost.OK := isHost.mk SpecsOK.nil fun k x _ => ⟨1, by rw [isHost.start]; rfl⟩

theorem ixId_ok : ixId.OK := ixId.mk (isId_ok.cons' SpecsOK.nil) fun l x hx => by
  have hl : fits (.sl TKey) l = true := by
    have h : (fits (.sl TKey) l && _) = true := hx
    simp only [Bool.and_eq_true] at h
    exact h.1
  have hb := len_keys hl
  have hr := reach_lt
  refine ⟨l.length + 2, ?_⟩
  rw [ixId.start]
  exact loop_ix (t := TKey) l (keyA x.1) (fun m k => ixId.l1 m l x.1 l.length k) (fun i => some (vi .i64 i, [])) (fun m k hk => by
    rw [ixId.s1, cond_dt (by omega), test_d (by omega), test_d (by omega), w64s (by omega), toNat_cast]; rfl) (fun m => by rw [ixId.s1, cond_df (by omega)]; rfl)

theorem ixHost_ok : ixHost.OK := ixHost.mk (isHost_ok.cons' SpecsOK.nil) fun l x hx => by
  have hl : fits (.sl TKey) l = true := by
    have h : (fits (.sl TKey) l && _) = true := hx
    simp only [Bool.and_eq_true] at h
    exact h.1
  have hb := len_keys hl
  have hr := reach_lt
  refine ⟨l.length + 2, ?_⟩
  rw [ixHost.start]
  exact loop_ix (t := TKey) l (keyB x.1) (fun m k => ixHost.l1 m l x.1 l.length k) (fun i => some (vi .i64 i, [])) (fun m k hk => by
    rw [ixHost.s1, cond_dt (by omega), test_d (by omega), test_d (by omega), w64s (by omega), toNat_cast]; rfl) (fun m => by rw [ixHost.s1, cond_df (by omega)]; rfl)

/-! ### what is deleted -/

theorem del_ok : del.OK := del.mk .nil fun l i j hx => by
  have h : (fits (.sl TKey) l && (true && (true && (decide (0 ≤ i ∧ i ≤ j ∧ j ≤ (List.length l : Int)) && true)))) = true := hx
  simp only [Bool.and_eq_true, decide_eq_true_eq] at h
  obtain ⟨hl, _, _, ⟨h1, h2, h3⟩, _⟩ := h
  obtain ⟨a, rfl⟩ : ∃ a : Nat, i = (a : Int) := ⟨i.toNat, by omega⟩
  obtain ⟨b, rfl⟩ : ∃ b : Nat, j = (b : Int) := ⟨j.toNat, by omega⟩
  refine ⟨1, ?_⟩
  have hres : del.back (l, (a : Int), (b : Int), ()) = [(115326, .arr 54 TKey (cutOut l a b) false)] := rfl
  rw [del.start, hres]
  have hlen : (over l a (l.drop b)).length = l.length := by rw [over_length _ _ _ (by omega)]; simp; omega
  have e1 : List.take (l.length - b) (l.drop b) = l.drop b := List.take_of_length_le (by simp)
  by_cases hab : a = b
  · subst hab
    rw [test_d (by omega), test_d (by omega), test_d (by omega), test_d (by omega), test_d (by omega), cond_et rfl, cutOut_same]
    rfl
  · rw [test_d (by omega), test_d (by omega), test_d (by omega), test_d (by omega), test_d (by omega), cond_ef (by omega)]
    simp only [toNat_cast, Nat.zero_add, Nat.sub_zero, e1, List.length_drop, List.length_replicate]
    have e3 : (a : Int) - 0 + ((l.length - b : Nat) : Int) = ((a + (l.length - b) : Nat) : Int) := by omega
    rw [e3]
    simp only [toNat_cast]
    repeat rw [test_d (by first | omega | (rw [over_length _ _ _ (by omega)]; simp; omega) | (rw [over_length _ _ _ (by rw [over_length _ _ _ (by omega)]; simp; omega), over_length _ _ _ (by omega)]; simp; omega))]
    rw [take_over_del (α := Int × Int) l _ a b _ _ (by omega) (by omega) rfl rfl]
    rfl

theorem dropL_len (h : Int) (l : List (Int × Int)) : (dropL h l).length ≤ l.length := List.length_filter_le _ _

theorem delHost_ok : delHost.OK := delHost.mk (isHost_ok.cons' (ixHost_ok.cons' SpecsOK.nil)) fun l x hx => by
  have hl : fits (.sl TKey) l = true := by
    have h : (fits (.sl TKey) l && _) = true := hx
    simp only [Bool.and_eq_true] at h
    exact h.1
  have hb := len_keys hl
  have hr := reach_lt
  have hres : delHost.back (l, x, ()) = [(115326, .arr 54 TKey (l.filter fun k => !keyB x.1 k) false)] := rfl
  have hpre : ixHost.pre (l, (x.1, ()), ()) = true := by
    show (fits (.sl TKey) l && true) = true
    rw [hl]; rfl
  rcases ixOf_cases (keyB x.1) l with ⟨h1, h2, _⟩ | ⟨j, h1, h2, _, h4, _⟩
  · exact ⟨1, by rw [delHost.start, hres, test_true hpre, h1, cond_et rfl, h2]; rfl⟩
  · refine ⟨(l.length - (j + 1) + 1) + 1, ?_⟩
    rw [delHost.start, hres, test_true hpre, h1, cond_ef (by omega), w64s (by omega)]
    exact delF_start (t := TKey) l (keyB x.1) (fun m i j xs => delHost.l1 m x.1 (i : Int) (j : Int) xs) (fun xs => some (.c (.sref 115326), [(115326, .arr 54 TKey xs false)])) (fun m i j xs hxs hij hj hrd => by
      rw [delHost.s1, cond_dt (by omega), test_d (by omega), test_d (by omega)]
      simp only [toNat_cast]
      rw [hrd, test_d (by omega), test_d (by omega), w64s (by omega), w64s (by omega)]) (fun m i xs hxs hi => by
      rw [delHost.s1, cond_df (by omega)]
      simp only [toNat_cast, Nat.zero_add, Nat.sub_zero]
      have hl2 : (over xs i (List.replicate (xs.length - i) ((0 : Int), (0 : Int)))).length = xs.length := by
        rw [over_length _ _ _ (by omega)]; simp; omega
      rw [test_d (by omega), test_d (by omega), test_d (by simp; omega), test_d (by omega), test_d (by omega), test_d (by omega), take_over_behind (α := Int × Int) _ _ _ _ (Nat.le_refl _) (by omega)]) h2 h4

/-! ### the book -/

theorem find_ok : find.OK := find.mk (ixId_ok.cons' SpecsOK.nil) fun b i hx => by
  have h : (fits TBook b && (true && true)) = true := hx
  simp only [Bool.and_eq_true] at h
  have hk := (fits_prod h.1).2
  refine ⟨1, ?_⟩
  rw [find.start, test_true (show ixId.pre (b.2, (i, ()), ()) = true from by
    show (fits (.sl TKey) b.2 && true) = true
    rw [hk]; rfl)]
  rfl
theorem findZ_ok : findZ.OK := findZ.mk SpecsOK.nil fun i _ => ⟨1, by rw [findZ.start]; rfl⟩

theorem new_ok : new.OK := new.mk .nil fun _ _ => ⟨1, by rw [new.start]; rfl⟩

theorem open_ok : open.OK := open.mk .nil fun b h hx => by
  have hf : (fits TBook b && (true && true)) = true := hx
  simp only [Bool.and_eq_true] at hf
  have hb := book_fits hf.1
  refine ⟨1, ?_⟩
  rw [open.start]
  have hres : open.res (b, h, ()) = .tup [vi .i64 (openI b), vi .i64 (openE b)] := rfl
  have hback : open.back (b, h, ()) = objBx 0 52 TBook [none, some 54] (openB b h) := rfl
  rw [hres, hback]
  unfold openI openE openB full
  by_cases hc : 2000 ≤ b.2.length
  · rw [cond_dt (by omega), cond_dt hc, cond_dt hc, cond_dt hc]; rfl
  · rw [cond_df (by omega), cond_df hc, cond_df hc, cond_df hc, test_d (by simp only [List.length_cons, List.length_nil, lim]; omega)]; rfl

theorem del_pre {l : List (El TKey)} {i j : Int} (hl : fits (.sl TKey) l = true) (h : 0 ≤ i ∧ i ≤ j ∧ j ≤ (l.length : Int)) : del.pre (l, i, j, ()) = true := by
  show (fits (.sl TKey) l && (true && (true && (decide (0 ≤ i ∧ i ≤ j ∧ j ≤ (List.length l : Int)) && true)))) = true
  rw [hl, dec_t h]; rfl

theorem close_ok : close.OK := close.mk (find_ok.cons' SpecsOK.nil) (del_ok.cons' .nil) fun b i hx => by
  have hf : (fits TBook b && (true && true)) = true := hx
  simp only [Bool.and_eq_true] at hf
  have hb := book_fits hf.1
  have hk := (fits_prod hf.1).2
  have hr := reach_lt
  refine ⟨1, ?_⟩
  have hres : close.res (b, i, ()) = .tup [vi .i64 (closeI b i), vi .i64 (closeE b i)] := rfl
  have hback : close.back (b, i, ()) = objBx 0 52 TBook [none, some 54] (closeB b i) := rfl
  rw [close.start, hres, hback, test_true (show find.pre (b, i, ()) = true from hx)]
  unfold closeI closeE closeB hasId ixB
  rcases ixOf_cases (keyA i) b.2 with ⟨h1, _⟩ | ⟨j, h1, h2, _⟩
  · rw [h1]; rfl
  · have hc : ¬ ((j : Int) < 0) := by omega
    rw [h1, cond_df hc, dec_f hc, Bool.not_false, cond_true, cond_true, cond_true, test_d (by omega), test_d (by omega), w64s (by omega), test_true (del_pre hk ⟨by omega, by omega, by omega⟩)]
    simp only [toNat_cast]
    rfl

theorem of_ok : of.OK := of.mk (find_ok.cons' SpecsOK.nil) fun b i hx => by
  have hf : (fits TBook b && (true && true)) = true := hx
  simp only [Bool.and_eq_true] at hf
  have hb := book_fits hf.1
  refine ⟨1, ?_⟩
  have hres : of.res (b, i, ()) = .tup [vi .i64 (closeI b i), vb (hasId b i)] := rfl
  have hback : of.back (b, i, ()) = objBx 0 52 TBook [none, some 54] b := rfl
  rw [of.start, hres, hback, test_true (show find.pre (b, i, ()) = true from hx)]
  unfold closeI hasId ixB
  rcases ixOf_cases (keyA i) b.2 with ⟨h1, _⟩ | ⟨j, h1, h2, _⟩
  · rw [h1]; rfl
  · have hc : ¬ ((j : Int) < 0) := by omega
    rw [h1, cond_df hc, dec_f hc, Bool.not_false, cond_true, test_d (by omega), test_d (by omega)]
    simp only [toNat_cast]
    rfl

theorem all_loop (b : El TBook) (hb : b.2.length * 16 ≤ reachBytes) : ∀ (n k : Nat), b.2.length = k + n → all.l1 (n + 1) b.2.length k (b.2.take k) b.1 b.2 = some (.c (.sl TKey b.2), objBx 0 52 TBook [none, some 54] b)
  | 0, k, h => by
    have : k = b.2.length := by omega
    subst this
    rw [all.s1, cond_df (by omega), List.take_length]; rfl
  | n + 1, k, h => by
    have hr := reach_lt
    have hk : k < b.2.length := by omega
    rw [all.s1, cond_dt (by omega), test_d (by omega), test_d (by omega), test_d (by simp only [List.length_cons, List.length_nil, lim, List.length_take]; omega), w64s (by omega), toNat_cast]
    have e : b.2.take k ++ [rdEl TKey b.2 k] = b.2.take (k + 1) := by
      rw [List.take_succ_eq_append_getElem hk]
      congr 2
      simp [rdEl, List.getD, hk]
    rw [show (b.2.take k ++ (rdEl TKey b.2 k :: [])) = b.2.take (k + 1) from e]
    exact all_loop b hb n (k + 1) (by omega)

theorem all_ok : all.OK := all.mk .nil fun b hx => by
  have hf : (fits TBook b && true) = true := hx
  simp only [Bool.and_eq_true] at hf
  exact ⟨b.2.length + 2, by rw [all.start]; exact all_loop b (book_fits hf.1) b.2.length 0 (by omega)⟩

theorem count_loop (b : El TBook) (h : Int) (hb : b.2.length * 16 ≤ reachBytes) : ∀ (n k : Nat), b.2.length = k + n → count.l1 (n + 1) h (((b.2.take k).filter (keyB h)).length : Nat) b.2 b.2.length k b.1 b.2 = some (vi .i64 (countI b h), objBx 0 52 TBook [none, some 54] b)
  | 0, k, hk => by
    have : k = b.2.length := by omega
    subst this
    rw [count.s1, cond_df (by omega), List.take_length]; rfl
  | n + 1, k, hk => by
    have hr := reach_lt
    have hlt : k < b.2.length := by omega
    have hfl : ((b.2.take k).filter (keyB h)).length ≤ k := Nat.le_trans (List.length_filter_le _ _) (by simp; omega)
    have e : b.2.take (k + 1) = b.2.take k ++ [rdEl TKey b.2 k] := by
      rw [List.take_succ_eq_append_getElem hlt]
      congr 2
      simp [rdEl, List.getD, hlt]
    have ih := count_loop b h hb n (k + 1) (by omega)
    rw [e, List.filter_append, List.length_append] at ih
    rw [count.s1, cond_dt (by omega), test_d (by omega), test_d (by omega), toNat_cast]
    by_cases hc : (rdEl TKey b.2 k).2 = h
    · have h1 : keyB h (rdEl TKey b.2 k) = true := by simp [keyB, hc]
      rw [cond_et hc, w64s (by omega), w64s (by omega)]
      simpa [h1] using ih
    · have h1 : keyB h (rdEl TKey b.2 k) = false := by simp [keyB, hc]
      rw [cond_ef hc, w64s (by omega)]
      simpa [h1] using ih

theorem count_ok : count.OK := count.mk SpecsOK.nil (all_ok.cons' .nil) fun b h hx => by
  have hf : (fits TBook b && (true && true)) = true := hx
  simp only [Bool.and_eq_true] at hf
  refine ⟨b.2.length + 2, ?_⟩
  rw [count.start, test_true (show all.pre (b, ()) = true from by show (fits TBook b && true) = true; rw [hf.1]; rfl)]
  exact count_loop b h (book_fits hf.1) b.2.length 0 (by omega)

theorem len_ok : len.OK := len.mk SpecsOK.nil (all_ok.cons' .nil) fun b hx => ⟨1, by rw [len.start, test_true (show all.pre (b, ()) = true from hx)]; rfl⟩

theorem drop_ok : drop.OK := drop.mk SpecsOK.nil (count_ok.cons' (delHost_ok.cons' .nil)) fun b h hx => by
  have hf : (fits TBook b && (true && true)) = true := hx
  simp only [Bool.and_eq_true] at hf
  have hk := (fits_prod hf.1).2
  refine ⟨1, ?_⟩
  have hback : drop.back (b, h, ()) = objBx 0 52 TBook [none, some 54] (dropB b h) := rfl
  rw [drop.start, hback, test_true (show count.pre (b, h, ()) = true from hx), test_true (show delHost.pre (b.2, (h, ()), ()) = true from by show (fits (.sl TKey) b.2 && true) = true; rw [hk]; rfl)]
  unfold dropB
  by_cases hc : 0 < countI b h
  · rw [cond_dt hc, cond_dt hc]; rfl
  · rw [cond_df hc, cond_df hc]; rfl

theorem openZ_ok : openZ.OK := openZ.mk .nil fun _ _ => ⟨1, by rw [openZ.start]; rfl⟩
theorem closeZ_ok : closeZ.OK := closeZ.mk .nil fun _ _ => ⟨1, by rw [closeZ.start]; rfl⟩
theorem allZ_ok : allZ.OK := allZ.mk .nil fun _ _ => ⟨1, by rw [allZ.start]; rfl⟩
theorem ofZ_ok : ofZ.OK := ofZ.mk (findZ_ok.cons' SpecsOK.nil) fun _ _ => ⟨1, by rw [ofZ.start]; rfl⟩
theorem countZ_ok : countZ.OK := countZ.mk SpecsOK.nil (allZ_ok.cons' .nil) fun _ _ => ⟨2, by rw [countZ.start]; rfl⟩
theorem lenZ_ok : lenZ.OK := lenZ.mk SpecsOK.nil (allZ_ok.cons' .nil) fun _ _ => ⟨1, by rw [lenZ.start]; rfl⟩
theorem dropZ_ok : dropZ.OK := dropZ.mk SpecsOK.nil (countZ_ok.cons' .nil) fun _ _ => ⟨1, by rw [dropZ.start]; rfl⟩

theorem awake_ok : awake.OK := awake.mk SpecsOK.nil (new_ok.cons' (open_ok.cons' (close_ok.cons' (count_ok.cons' (len_ok.cons' .nil))))) fun _ _ => ⟨1, by kernel_rfl⟩

end Go.Proofs.Ytlmfmpfpildemaa
