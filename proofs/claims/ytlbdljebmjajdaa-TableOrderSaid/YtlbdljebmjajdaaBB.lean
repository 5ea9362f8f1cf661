/-
  Tables: each function's contract.
-/
import Derived.Test.YtlbdljebmjajdaaHC
namespace Go.Proofs.Ytlbdljebmjajdaa
open Go VE

/-! ### slices.Insert, slices.Delete -/

theorem insV_eq (l : List (El THost)) {i : Nat} (hi : i ≤ l.length) (hl : l.length ≤ 1000000) (v : El THost) (c : Nat) (hcap : l.length ≤ c) : insV.go 1 l i v c = some (.c (.sref 115326), [(115326, .arr 34 THost (putIn l i v) false)]) := by
  have hlim : lim 80 = 1759218604441 := by simp [lim]
  have h1 : (v :: ([] : List (El THost))).length = 1 := rfl
  have hw1 : IntKind.i64.wrap ((l.length : Int) + ((1 : Nat) : Int)) = ((l.length + 1 : Nat) : Int) := by rw [w64] <;> omega
  have hw2 : IntKind.i64.wrap ((i : Int) + ((1 : Nat) : Int)) = ((i + 1 : Nat) : Int) := by rw [w64] <;> omega
  have hw3 : IntKind.i64.wrap (((l.length + 1 : Nat) : Int) - (i : Int)) = ((l.length + 1 - i : Nat) : Int) := by rw [w64] <;> omega
  rw [insV.start]
  simp only [h1, hw1, hw2, hw3, toNat_cast, Nat.zero_add, Nat.sub_zero, Nat.add_zero, List.drop_zero, Int.sub_zero, Int.zero_add, Int.add_zero]
  obtain ⟨z, hz⟩ : ∃ z : El THost, ((0 : Int), ((⟨#[]⟩ : ByteArray), ((0 : Int), ((⟨#[]⟩ : ByteArray), ((0 : Int), ([] : List (El TPair))))))) = z := ⟨_, rfl⟩
  rw [hz]
  rw [test_d (by omega), test_d (by omega)]
  by_cases he : i = l.length
  · subst he
    have e1 : over l l.length [v] = l ++ [v] := by unfold over; simp
    have e2 : (l ++ [v]).take (l.length + 1) = l ++ [v] := List.take_of_length_le (by simp)
    rw [cond_et rfl, putIn_end]
    by_cases hc : l.length + 1 ≤ c
    · rw [cond_dt hc, test_d (Nat.le_refl _), test_d (by rw [e1]; simp), e1, e2]
    · rw [cond_df hc, test_d (Nat.le_refl _), test_d (by rw [hlim]; omega), List.take_length]
  · have hi2 : i < l.length := by omega
    rw [cond_ef (by omega)]
    by_cases hc : ((l.length + 1 : Nat) : Int) > (c : Int)
    · have ht : (l.take i).length = i := by rw [List.length_take]; omega
      have hA : (l.take i ++ List.replicate (l.length + 1 - i) z).length = l.length + 1 := by rw [List.length_append, ht, List.length_replicate]; omega
      have hv : List.take (l.length + 1 - i) [v] = [v] := List.take_of_length_le (by rw [List.length_singleton]; omega)
      have hB : (over (l.take i ++ List.replicate (l.length + 1 - i) z) i [v]).length = l.length + 1 := by rw [over_length _ _ _ (by omega), hA, List.length_singleton]; omega
      have hm : Nat.min (l.length - i) (l.length + 1 - (i + 1)) = l.length - i := by show min _ _ = _; omega
      have hD : (List.take (l.length + 1 - (i + 1)) (List.take (l.length - i) (List.drop i l))).length = l.length - i := by simp <;> omega
      rw [cond_dt hc]
      simp only [hA, hv, hB, hm]
      repeat rw [test_d (by first | omega | (rw [hlim]; omega) | (simp only [List.length_cons, List.length_nil]; omega) | (rw [hD]; omega))]
      have e3 : List.take (l.length - i) (List.drop i l) = l.drop i := List.take_of_length_le (by simp)
      have e4 := ins_new l (i := i) v z hi2 (a := l.length + 1 - i) (b := l.length + 1 - i) (c := l.length + 1 - (i + 1)) rfl (by omega) (by omega)
      rw [hv] at e4
      rw [e3]
      exact congrArg (fun z => some ((IV.c (.sref 115326)), [(115326, Box.arr 34 THost z false)])) e4
    · have hv : List.take (l.length + 1 - i) [v] = [v] := List.take_of_length_le (by rw [List.length_singleton]; omega)
      have hm : Nat.min (l.length + 1 - i) (l.length + 1 - (i + 1)) = l.length - i := by show min _ _ = _; omega
      have e3 : List.take (l.length + 1 - (i + 1)) (List.take (l.length - i) (List.drop i l)) = l.drop i := by
        rw [List.take_of_length_le (l := List.drop i l) (by simp), List.take_of_length_le (by simp <;> omega)]
      have hO : (over l (i + 1) (l.drop i)).length = l.length + 1 := by rw [over_length _ _ _ (by omega), List.length_drop]; omega
      have hO2 : (over (over l (i + 1) (l.drop i)) i [v]).length = l.length + 1 := by rw [over_length _ _ _ (by omega), hO, List.length_singleton]; omega
      rw [cond_df hc]
      simp only [hm, e3, hv, hO, hO2]
      repeat rw [test_d (by first | omega | (simp only [List.length_cons, List.length_nil]; omega))]
      have e4 := ins_here l (i := i) v hi2 (a := l.length - i) (b := l.length + 1 - i) (c := l.length + 1) (by omega) (by omega) rfl
      rw [hv, List.take_of_length_le (l := List.drop i l) (by simp)] at e4
      exact congrArg (fun z => some ((IV.c (.sref 115326)), [(115326, Box.arr 34 THost z false)])) e4

theorem ins_ok : ins.OK := ins.mkR fun l i v hx => by
  have h : (fits (.sl THost) l && (true && (fits (.sl THost) v && (decide (0 ≤ i ∧ i ≤ (List.length l : Int) ∧ List.length l ≤ 1000000 ∧ List.length v = 1) && true)))) = true := hx
  simp only [Bool.and_eq_true, decide_eq_true_eq] at h
  obtain ⟨_, _, _, ⟨h1, h2, h3, h4⟩, _⟩ := h
  obtain ⟨v0, rfl⟩ := List.length_eq_one_iff.1 h4
  obtain ⟨j, rfl⟩ : ∃ j : Nat, i = (j : Int) := ⟨i.toNat, by omega⟩
  refine returnsO_room fun c hcap => ?_
  exact insV.ret SpecsOK.nil l j v0 c (m := 1) (insV_eq l (by omega) h3 v0 c hcap)

theorem del_ok : del.OK := del.mk .nil fun l i j hx => by
  have h : (fits (.sl THost) l && (true && (true && (decide (0 ≤ i ∧ i ≤ j ∧ j ≤ (List.length l : Int)) && true)))) = true := hx
  simp only [Bool.and_eq_true, decide_eq_true_eq] at h
  obtain ⟨hl, _, _, ⟨h1, h2, h3⟩, _⟩ := h
  obtain ⟨a, rfl⟩ : ∃ a : Nat, i = (a : Int) := ⟨i.toNat, by omega⟩
  obtain ⟨b, rfl⟩ : ∃ b : Nat, j = (b : Int) := ⟨j.toNat, by omega⟩
  refine ⟨1, ?_⟩
  have hres : del.back (l, (a : Int), (b : Int), ()) = [(115326, .arr 34 THost (cutOut l a b) false)] := rfl
  rw [del.start, hres]
  have hlen : (over l a (l.drop b)).length = l.length := by rw [over_length _ _ _ (by omega)]; simp; omega
  have e1 : List.take (l.length - b) (l.drop b) = l.drop b := List.take_of_length_le (by simp)
  by_cases hab : a = b
  · subst hab
    rw [test_d (by omega), test_d (by omega), test_d (by omega), test_d (by omega), test_d (by omega), cond_et rfl, cutOut_same]
    rfl
  · rw [test_d (by omega), test_d (by omega), test_d (by omega), test_d (by omega), test_d (by omega), cond_ef (by omega)]
    simp only [toNat_cast, Nat.zero_add, Nat.sub_zero, e1, List.length_drop, List.length_replicate]
    have e3 : (a : Int) - 0 + ((l.length - b : Nat) : Int) = ((a + (l.length - b) : Nat) : Int) := by omega
    rw [e3]
    simp only [toNat_cast]
    repeat rw [test_d (by first | omega | (rw [over_length _ _ _ (by omega)]; simp; omega) | (rw [over_length _ _ _ (by rw [over_length _ _ _ (by omega)]; simp; omega), over_length _ _ _ (by omega)]; simp; omega))]
    rw [take_over_del (α := El THost) l _ a b _ _ (by omega) (by omega) rfl rfl]
    rfl

/-! ### keys in order -/

theorem ixOf_ve {α : Type} (p : α → Bool) (l : List α) : ixOf p l = VE.ixOf p l := rfl

theorem less_ok : less.OK := less.mk SpecsOK.nil fun k l _ => ⟨1, by
  rw [less.start]
  show _ = some (vb (ltK k l), _)
  unfold ltK
  by_cases h : k.1 < l.1
  · rw [dec_t h]; rfl
  · rw [dec_f h]
    cases (k.1 == l.1) <;> rfl⟩

theorem ltK_iff (a b : Int × Int) : ltK a b = true ↔ a.1 < b.1 ∨ (a.1 = b.1 ∧ a.2 < b.2) := by
  unfold ltK
  simp only [Bool.or_eq_true, Bool.and_eq_true, decide_eq_true_eq, beq_iff_eq]
theorem ltK_trans {a b c : Int × Int} (h1 : ltK a b = true) (h2 : ltK b c = true) : ltK a c = true := by
  rw [ltK_iff] at *; omega

theorem rises_all : ∀ {l : List (Int × Int)} {a : Int × Int}, risesK (a :: l) = true → risesK l = true ∧ ∀ x, x ∈ l → ltK a x = true
  | [], a, h => ⟨rfl, fun x hx => (by cases hx)⟩
  | b :: l, a, h => by
    simp only [risesK, Bool.and_eq_true] at h
    obtain ⟨h1, h2⟩ := h
    obtain ⟨_, h3⟩ := rises_all h2
    exact ⟨h2, fun x hx => (List.mem_cons.1 hx).elim (fun e => e ▸ h1) fun hx => ltK_trans h1 (h3 x hx)⟩

theorem place_le (l : List (El TKey)) (t : El TKey) : placeK l t ≤ l.length := List.length_filter_le _ _

theorem place_at : ∀ {l : List (Int × Int)} {t : Int × Int}, risesK l = true → ∀ h, h < l.length → ltK (rdEl TKey l h) t = decide (h < placeK l t)
  | [], t, _, h, hh => by simp at hh
  | a :: l, t, hr, h, hh => by
    obtain ⟨h1, h2⟩ := rises_all hr
    unfold placeK
    rw [List.filter_cons]
    cases hp : ltK a t with
    | true =>
      rw [if_pos rfl, List.length_cons]
      cases h with
      | zero => rw [dec_t (by omega)]; exact hp
      | succ h =>
        have ih := place_at (t := t) h1 h (by simpa using hh)
        have e : rdEl TKey (a :: l) (h + 1) = rdEl TKey l h := by simp [rdEl]
        rw [e, ih]
        unfold placeK
        by_cases hc : h < (l.filter fun x => ltK x t).length
        · rw [dec_t hc, dec_t (by omega)]
        · rw [dec_f hc, dec_f (by omega)]
    | false =>
      rw [if_neg (by decide)]
      have hnone : l.filter (fun x => ltK x t) = [] := List.filter_eq_nil_iff.2 fun x hx hx2 => by
        have := ltK_trans (h2 x hx) hx2
        rw [hp] at this; cases this
      rw [hnone, dec_f (by simp)]
      cases h with
      | zero => exact hp
      | succ h =>
        have hh' : h < l.length := by simpa using hh
        have e : rdEl TKey (a :: l) (h + 1) = l[h] := by simp [rdEl, hh']
        rw [e]
        cases hx : ltK l[h] t with
        | false => rfl
        | true =>
          have := ltK_trans (h2 _ (List.getElem_mem hh')) hx
          rw [hp] at this; cases this

theorem rising_loop (l : List (El TKey)) (hb : l.length * 16 ≤ reachBytes) : ∀ (n k : Nat), 1 ≤ k → l.length = k + n → rising.l1 (n + 1) l k = some (vb (risesK (l.drop (k - 1))), [])
  | 0, k, h1, hk => by
    have e : l.drop (k - 1) = [rdEl TKey l (k - 1)] := by
      rw [rdEl_drop (t := TKey) l (k := k - 1) (by omega), List.drop_eq_nil_of_le (by omega)]
    rw [rising.s1, cond_df (by omega), e]; rfl
  | n + 1, k, h1, hk => by
    have hr := reach_lt
    have hw : IntKind.i64.wrap ((k : Int) - 1) = ((k - 1 : Nat) : Int) := by rw [w64] <;> omega
    have e1 : l.drop (k - 1) = rdEl TKey l (k - 1) :: l.drop k := by
      rw [rdEl_drop (t := TKey) l (k := k - 1) (by omega), show k - 1 + 1 = k by omega]
    have e2 : l.drop k = rdEl TKey l k :: l.drop (k + 1) := rdEl_drop (t := TKey) l (by omega)
    have e3 : risesK (l.drop (k - 1)) = (ltK (rdEl TKey l (k - 1)) (rdEl TKey l k) && risesK (l.drop k)) := by rw [e1, e2]; rfl
    have ih := rising_loop l hb n (k + 1) (by omega) (by omega)
    rw [show k + 1 - 1 = k by omega] at ih
    rw [rising.s1, cond_dt (by omega), hw, test_d (by omega), test_d (by omega), test_d (by omega), test_d (by omega), toNat_cast, toNat_cast, w64s (by omega), ih, e3]
    cases ltK (rdEl TKey l (k - 1)) (rdEl TKey l k) <;> rfl

theorem rising_ok : rising.OK := rising.mk (less_ok.cons' SpecsOK.nil) fun l hx => by
  have h : (fits (.sl TKey) l && true) = true := hx
  simp only [Bool.and_eq_true] at h
  have hb := fits_len' (n := 16) h.1 rfl
  cases l with
  | nil => exact ⟨2, by rw [rising.start, rising.s1, cond_df (by decide)]; rfl⟩
  | cons a l => exact ⟨l.length + 2, by rw [rising.start]; exact rising_loop (a :: l) hb l.length 1 (by omega) (by rw [List.length_cons]; omega)⟩

theorem half (i j : Nat) (hij : i ≤ j) (h : j < 4611686018427387904) : IntKind.i64.wrap ((i : Int) + (IntKind.i64.wrap (Int.tdiv (IntKind.i64.wrap ((j : Int) - (i : Int))) (2 : Int)))) = ((i + (j - i) / 2 : Nat) : Int) := by
  rw [w64 (n := (j : Int) - i) (by omega) (by omega), Int.tdiv_eq_ediv_of_nonneg (by omega), w64 (n := ((j : Int) - i) / 2) (by omega) (by omega), w64 (by omega) (by omega)]
  omega

theorem ofind_loop (l : List (El TKey)) (t : El TKey) (hr : risesK l = true) (hb : l.length * 16 ≤ reachBytes) : ∀ (d i j : Nat), j - i ≤ d → i ≤ placeK l t → placeK l t ≤ j → j ≤ l.length → ∃ m, ofind.l1 m l i j t.1 t.2 = some (.tup [vi .i64 (placeK l t : Int), vb (thereK l t)], [])
  | d, i, j, hd, hi, hj, hl => by
    have hrr := reach_lt
    by_cases hij : i < j
    · cases d with
      | zero => omega
      | succ d =>
        have hh : i + (j - i) / 2 < l.length := by omega
        have hp := place_at (t := t) hr _ hh
        by_cases hlt : i + (j - i) / 2 < placeK l t
        · obtain ⟨m, hm⟩ := ofind_loop l t hr hb d (i + (j - i) / 2 + 1) j (by omega) (by omega) hj hl
          refine ⟨m + 1, ?_⟩
          rw [ofind.s1, half i j (by omega) (by omega), cond_dt (by omega), test_d (by omega), test_d (by omega), toNat_cast, w64s (by omega)]
          exact (cond_t (hp.trans (dec_t hlt))).trans hm
        · obtain ⟨m, hm⟩ := ofind_loop l t hr hb d i (i + (j - i) / 2) (by omega) hi (by omega) (by omega)
          refine ⟨m + 1, ?_⟩
          rw [ofind.s1, half i j (by omega) (by omega), cond_dt (by omega), test_d (by omega), test_d (by omega), toNat_cast, w64s (by omega)]
          exact (cond_f (hp.trans (dec_f hlt))).trans hm
    · have : i = placeK l t := by omega
      refine ⟨1, ?_⟩
      rw [ofind.s1, cond_df (by omega), this]
      unfold thereK
      by_cases h2 : placeK l t < l.length
      · rw [cond_dt (by omega), test_d (by omega), test_d (by omega), toNat_cast, dec_t h2]; rfl
      · rw [cond_df (by omega), dec_f h2]; rfl

theorem ofind_ok : ofind.OK := ofind.mk (less_ok.cons' SpecsOK.nil) fun l t hx => by
  have h : (fits (.sl TKey) l && (fits TKey t && (risesK l && true))) = true := hx
  simp only [Bool.and_eq_true] at h
  obtain ⟨m, hm⟩ := ofind_loop l t h.2.2.1 (fits_len' (n := 16) h.1 rfl) l.length 0 l.length (by omega) (by omega) (place_le l t) (Nat.le_refl _)
  exact ⟨m + 1, by rw [ofind.start]; exact hm⟩

theorem host_len {l : List (El THost)} (h : fits (.sl THost) l = true) : l.length * 80 ≤ reachBytes := fits_len' (n := 80) h rfl
theorem fits_keys {l : List (El THost)} (h : fits (.sl THost) l = true) : fits (.sl TKey) (keysL l) = true := by
  have hb := host_len h
  refine fits_sl (t := TKey) ?_ fun _ _ => rfl
  unfold keysL
  rw [List.length_map]
  show l.length * 16 ≤ _
  omega

theorem fm_map {α β : Type} (f : α → β) : ∀ (l : List α), l.filterMap (fun h => some (f h)) = l.map f
  | [] => rfl
  | a :: l => by rw [List.filterMap_cons, fm_map f l]; rfl

theorem keys_ok : keys.OK := keys.mk SpecsOK.nil fun l hx => by
  have h : (fits (.sl THost) l && true) = true := hx
  simp only [Bool.and_eq_true] at h
  have hb := host_len h.1
  have hr := reach_lt
  have hlim : lim 16 = 8796093022208 := by simp [lim]
  refine ⟨l.length + 2, ?_⟩
  rw [keys.start]
  have h := loop_fm (t := THost) l (fun h => some (h.1, (0 : Int))) (fun m out k => keys.l1 m l l.length k out) (fun out => some (.c (.sl TKey out), [])) (fun m k out hk ho => ?_) (fun m out => ?_) l.length 0 [] (by omega) (Nat.zero_le _)
  · refine h.trans ?_
    rw [List.drop_zero]
    show _ = some (IV.c (.sl TKey (keysL l)), _)
    unfold keysL
    rw [List.nil_append, fm_map]
  · rw [keys.s1, cond_dt (by omega), test_d (by omega), test_d (by omega), w64s (by omega), toNat_cast, test_d (by rw [hlim]; simp only [List.length_cons, List.length_nil]; omega)]
  · rw [keys.s1, cond_df (by omega)]

/-! ### may it be -/

theorem notMay_ok : notMay.OK := notMay.mk (may_ok.cons' SpecsOK.nil) fun h hx => ⟨1, by
  rw [notMay.start, test_true (by simpa [notMay.pre, may.pre] using hx)]; rfl⟩
theorem ixNM_ok : ixNM.OK := ixNM.mk (notMay_ok.cons' SpecsOK.nil) fun l u hx => by
  have hl : fits (.sl THost) l = true := by
    have h : (fits (.sl THost) l && true) = true := hx
    simpa using h
  have hb := host_len hl
  have hr := reach_lt
  refine ⟨l.length + 2, ?_⟩
  rw [ixNM.start]
  exact loop_ix (t := THost) l nmB (fun m k => ixNM.l1 m l l.length k) (fun i => some (vi .i64 i, [])) (fun m k hk => by
    rw [ixNM.s1, cond_dt (by omega), test_d (by omega), test_d (by omega), w64s (by omega), toNat_cast, test_true (by simpa [notMay.pre] using fits_rd hl hk)]; rfl) (fun m => by rw [ixNM.s1, cond_df (by omega)]; rfl)
theorem cfNM_ok : cfNM.OK := cfNM.mk (ixNM_ok.cons' SpecsOK.nil) fun l u hx => ⟨1, by
  rw [cfNM.start, test_true (show ixNM.pre (l, (), ()) = true from hx)]
  exact congrArg (fun b => some (vb b, [])) (VE.ixOf_any nmB l)⟩

theorem mayT_ok : mayT.OK := mayT.mk (keys_ok.cons' (rising_ok.cons' (cfNM_ok.cons' SpecsOK.nil))) fun l hx => by
  have hl : (fits (.sl THost) l && true) = true := hx
  simp only [Bool.and_eq_true] at hl
  refine ⟨1, ?_⟩
  have hres : mayT.res (l, ()) = vb (mayTB l) := rfl
  rw [mayT.start, hres]
  unfold mayTB
  by_cases h : l.length ≤ 64
  · rw [cond_dt (by omega), dec_t h, test_true (show keys.pre (l, ()) = true from hx), test_true (show rising.pre (keysL l, ()) = true by
      show (fits (.sl TKey) (keysL l) && true) = true
      rw [fits_keys hl.1]; rfl)]
    cases risesK (keysL l) with
    | false => rfl
    | true => rw [cond_true, test_true (show cfNM.pre (l, (), ()) = true from hx)]; rfl
  · rw [cond_df (by omega), dec_f h]; rfl

theorem keys_rd (l : List (El THost)) {k : Nat} (h : k < l.length) : rdEl TKey (keysL l) k = ((rdEl THost l k).1, 0) := by
  unfold keysL
  simp [rdEl, List.getD, h]
theorem keys_len (l : List (El THost)) : (keysL l).length = l.length := List.length_map ..

theorem keys_lt (a b : Int) : ltK (a, 0) (b, 0) = decide (a < b) := by
  unfold ltK
  simp

/-- What the document asks at a place: true, if it may not be. -/
def badT (l : List (El THost)) (k : Nat) : Bool := !mayB (rdEl THost l k) || (decide (0 < k) && decide ((rdEl THost l k).1 ≤ (rdEl THost l (k - 1)).1))

theorem bad_from (l : List (El THost)) : ∀ (n k : Nat), l.length = k + n → 1 ≤ k → (!anyN (badT l) k n) = (risesK ((keysL l).drop (k - 1)) && !(l.drop k).any nmB)
  | 0, k, hk, h1 => by
    have e : (keysL l).drop (k - 1) = [rdEl TKey (keysL l) (k - 1)] := by
      rw [rdEl_drop (t := TKey) (keysL l) (k := k - 1) (by rw [keys_len]; omega), List.drop_eq_nil_of_le (by rw [keys_len]; omega)]
    rw [e, List.drop_eq_nil_of_le (by omega)]; rfl
  | n + 1, k, hk, h1 => by
    have ih := bad_from l n (k + 1) (by omega) (by omega)
    rw [show k + 1 - 1 = k by omega] at ih
    have e1 : (keysL l).drop (k - 1) = rdEl TKey (keysL l) (k - 1) :: (keysL l).drop k := by
      rw [rdEl_drop (t := TKey) (keysL l) (k := k - 1) (by rw [keys_len]; omega), show k - 1 + 1 = k by omega]
    have e2 : (keysL l).drop k = rdEl TKey (keysL l) k :: (keysL l).drop (k + 1) := rdEl_drop (t := TKey) (keysL l) (by rw [keys_len]; omega)
    have e3 : risesK ((keysL l).drop (k - 1)) = (ltK (rdEl TKey (keysL l) (k - 1)) (rdEl TKey (keysL l) k) && risesK ((keysL l).drop k)) := by rw [e1, e2]; rfl
    have e4 : l.drop k = rdEl THost l k :: l.drop (k + 1) := rdEl_drop (t := THost) l (by omega)
    have e5 : anyN (badT l) k (n + 1) = (badT l k || anyN (badT l) (k + 1) n) := rfl
    rw [e5, e3, e4, List.any_cons, keys_rd l (by omega), keys_rd l (by omega), keys_lt, Bool.not_or, ih]
    unfold badT nmB
    rw [dec_t (by omega), dlt]
    cases mayB (rdEl THost l k) <;> cases decide ((rdEl THost l k).1 ≤ (rdEl THost l (k - 1)).1) <;> cases risesK ((keysL l).drop k) <;> simp

theorem bad_eq (l : List (El THost)) : (!anyN (badT l) 0 l.length) = (risesK (keysL l) && !l.any nmB) := by
  cases l with
  | nil => rfl
  | cons a l =>
    have h := bad_from (a :: l) l.length 1 (by rw [List.length_cons]; omega) (by omega)
    have e : anyN (badT (a :: l)) 0 (l.length + 1) = (badT (a :: l) 0 || anyN (badT (a :: l)) 1 l.length) := rfl
    rw [List.length_cons, e, Bool.not_or, h]
    have e2 : badT (a :: l) 0 = !mayB a := by
      unfold badT
      have : rdEl THost (a :: l) 0 = a := rfl
      rw [this]; simp
    rw [e2]
    show (!!mayB a && (risesK (keysL (a :: l)) && !l.any nmB)) = (risesK (keysL (a :: l)) && !(a :: l).any nmB)
    rw [List.any_cons]
    unfold nmB
    cases mayB a <;> cases risesK (keysL (a :: l)) <;> simp

theorem mayTR_ok : mayTR.OK := mayTR.mk (mayR_ok.cons' SpecsOK.nil) fun l hx => by
  have hl : (fits (.sl THost) l && true) = true := hx
  simp only [Bool.and_eq_true] at hl
  have hb := host_len hl.1
  have hr := reach_lt
  refine ⟨l.length + 2, ?_⟩
  rw [mayTR.start]
  have h := loop_any (badT l) l.length (fun m k => mayTR.l1 m l l l.length k) (some (vb false, [])) (some (vb (decide ((l.length : Int) ≤ 64)), [])) (fun m k hk => ?_) (fun m => ?_) l.length 0 (by omega)
  · refine h.trans ?_
    show _ = some (vb (mayTB l), _)
    unfold mayTB
    rw [← bad_eq]
    have e : decide ((l.length : Int) ≤ 64) = decide (l.length ≤ 64) := by
      by_cases h : l.length ≤ 64
      · rw [dec_t h, dec_t (by omega)]
      · rw [dec_f h, dec_f (by omega)]
    rw [e]
    cases anyN (badT l) 0 l.length <;> cases decide (l.length ≤ 64) <;> rfl
  · rw [mayTR.s1, cond_dt (by omega), test_d (by omega), test_d (by omega), toNat_cast, w64s (by omega), test_true (by simpa [mayR.pre] using fits_rd hl.1 hk)]
    unfold badT
    cases hm : mayB (rdEl THost l k) with
    | false => rfl
    | true =>
      by_cases h0 : 0 < k
      · have hw : IntKind.i64.wrap ((k : Int) - 1) = ((k - 1 : Nat) : Int) := by rw [w64] <;> omega
        rw [hw, dec_t h0, cond_f (by rfl), cond_dt (by omega), test_d (by omega), test_d (by omega), toNat_cast]; rfl
      · rw [dec_f h0, cond_f (by rfl), cond_df (by omega)]; rfl
  · rw [mayTR.s1, cond_df (by omega)]; rfl

/-! ### where it stands -/

theorem idF_ok : idF.OK := idF.mk SpecsOK.nil fun h i _ => ⟨1, by rw [idF.start]; rfl⟩
theorem ixId_ok : ixId.OK := ixId.mk (idF_ok.cons' SpecsOK.nil) fun l x hx => by
  have hl : fits (.sl THost) l = true := by
    have h : (fits (.sl THost) l && _) = true := hx
    simp only [Bool.and_eq_true] at h
    exact h.1
  have hb := host_len hl
  have hr := reach_lt
  refine ⟨l.length + 2, ?_⟩
  rw [ixId.start]
  exact loop_ix (t := THost) l (idH x.1) (fun m k => ixId.l1 m l x.1 l.length k) (fun i => some (vi .i64 i, [])) (fun m k hk => by
    rw [ixId.s1, cond_dt (by omega), test_d (by omega), test_d (by omega), w64s (by omega), toNat_cast, test_true (show idF.pre (rdEl THost l k, x.1, ()) = true by
      show (fits THost (rdEl THost l k) && (true && true)) = true
      rw [fits_rd hl hk]; rfl)]; rfl) (fun m => by rw [ixId.s1, cond_df (by omega)]; rfl)
theorem find_ok : find.OK := find.mk (ixId_ok.cons' SpecsOK.nil) fun l i hx => ⟨1, by
  have h : (fits (.sl THost) l && (true && true)) = true := hx
  simp only [Bool.and_eq_true] at h
  rw [find.start, test_true (show ixId.pre (l, (i, ()), ()) = true from hx)]; rfl⟩
theorem findR_ok : findR.OK := findR.mk SpecsOK.nil fun l i hx => by
  have hl : fits (.sl THost) l = true := by
    have h : (fits (.sl THost) l && _) = true := hx
    simp only [Bool.and_eq_true] at h
    exact h.1
  have hb := host_len hl
  have hr := reach_lt
  refine ⟨l.length + 2, ?_⟩
  rw [findR.start]
  exact loop_ix (t := THost) l (idH i) (fun m k => findR.l1 m i l l.length k) (fun i => some (vi .i64 i, [])) (fun m k hk => by
    rw [findR.s1, cond_dt (by omega), test_d (by omega), test_d (by omega), w64s (by omega), toNat_cast]; rfl) (fun m => by rw [findR.s1, cond_df (by omega)]; rfl)

theorem lim80 {l : List (El THost)} (hb : l.length * 80 ≤ reachBytes) {k : Nat} (hk : k ≤ l.length + 1) : k ≤ lim 80 := by
  have hR : reachBytes = 140737488351232 := rfl
  have hlim : lim 80 = 1759218604441 := by simp [lim]
  rw [hlim]; omega

theorem copied_ok : copied.OK := copied.mk (copy_ok.cons' SpecsOK.nil) fun l hx => by
  have hl : fits (.sl THost) l = true := by
    have h : (fits (.sl THost) l && true) = true := hx
    simpa using h
  have hb := host_len hl
  have hr := reach_lt
  refine ⟨l.length + 2, ?_⟩
  rw [copied.start]
  have hres : copied.back (l, ()) = [(115326, .arr 34 THost l false)] := rfl
  rw [hres]
  have h := loop_fm (t := THost) l (fun s => some s) (fun m out k => copied.l1 m l l.length k out) (fun out => some (.c (.sref 115326), [(115326, .arr 34 THost out false)])) (fun m k out hk ho => ?_) (fun m out => ?_) l.length 0 [] (by omega) (Nat.zero_le _)
  · refine h.trans ?_
    rw [List.drop_zero, List.filterMap_some]; rfl
  · rw [copied.s1, cond_dt (by omega), test_d (by omega), test_d (by omega), w64s (by omega), toNat_cast, test_true (by simpa [copy.pre] using fits_rd hl hk), test_d (lim80 hb (by simp only [List.length_cons, List.length_nil]; omega))]
  · rw [copied.s1, cond_df (by omega)]

end Go.Proofs.Ytlbdljebmjajdaa
