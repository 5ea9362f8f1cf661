/-
  Timers: each function's contract.
-/
import Derived.Test.YthlbiibholhkmaaCF
namespace Go.Proofs.Ythlbiibholhkmaa
open Go VE

theorem insV_eq (l : List (El TTimer)) {i : Nat} (hi : i ≤ l.length) (hl : l.length ≤ 1000000) (v : El TTimer) (c : Nat) (hcap : l.length ≤ c) : insV.go 1 l i v c = some (.c (.sref 115326), [(115326, .arr 27 TTimer (putIn l i v) false)]) := by
  have hlim : lim 24 = 5864062014805 := by simp [lim]
  have h1 : (v :: ([] : List (El TTimer))).length = 1 := rfl
  have hw1 : IntKind.i64.wrap ((l.length : Int) + ((1 : Nat) : Int)) = ((l.length + 1 : Nat) : Int) := by rw [w64] <;> omega
  have hw2 : IntKind.i64.wrap ((i : Int) + ((1 : Nat) : Int)) = ((i + 1 : Nat) : Int) := by rw [w64] <;> omega
  have hw3 : IntKind.i64.wrap (((l.length + 1 : Nat) : Int) - (i : Int)) = ((l.length + 1 - i : Nat) : Int) := by rw [w64] <;> omega
  rw [insV.start]
  simp only [h1, hw1, hw2, hw3, toNat_cast, Nat.zero_add, Nat.sub_zero, Nat.add_zero, List.drop_zero, Int.sub_zero, Int.zero_add, Int.add_zero]
  rw [test_d (by omega), test_d (by omega)]
  by_cases he : i = l.length
  · subst he
    have e1 : over l l.length [v] = l ++ [v] := by unfold over; simp
    have e2 : (l ++ [v]).take (l.length + 1) = l ++ [v] := List.take_of_length_le (by simp)
    rw [cond_et rfl, putIn_end]
    by_cases hc : l.length + 1 ≤ c
    · rw [cond_dt hc, test_d (Nat.le_refl _), test_d (by rw [e1]; simp), e1, e2]
    · rw [cond_df hc, test_d (Nat.le_refl _), test_d (by rw [hlim]; omega), List.take_length]
  · have hi2 : i < l.length := by omega
    rw [cond_ef (by omega)]
    by_cases hc : ((l.length + 1 : Nat) : Int) > (c : Int)
    · have ht : (l.take i).length = i := by rw [List.length_take]; omega
      have hA : (l.take i ++ List.replicate (l.length + 1 - i) ((0 : Int), ((0 : Int), (0 : Int)))).length = l.length + 1 := by rw [List.length_append, ht, List.length_replicate]; omega
      have hv : List.take (l.length + 1 - i) [v] = [v] := List.take_of_length_le (by rw [List.length_singleton]; omega)
      have hB : (over (l.take i ++ List.replicate (l.length + 1 - i) ((0 : Int), ((0 : Int), (0 : Int)))) i [v]).length = l.length + 1 := by rw [over_length _ _ _ (by omega), hA, List.length_singleton]; omega
      have hm : Nat.min (l.length - i) (l.length + 1 - (i + 1)) = l.length - i := by show min _ _ = _; omega
      have hD : (List.take (l.length + 1 - (i + 1)) (List.take (l.length - i) (List.drop i l))).length = l.length - i := by simp <;> omega
      rw [cond_dt hc]
      simp only [hA, hv, hB, hm]
      repeat rw [test_d (by first | omega | (rw [hlim]; omega) | (simp only [List.length_cons, List.length_nil]; omega) | (rw [hD]; omega))]
      have e3 : List.take (l.length - i) (List.drop i l) = l.drop i := List.take_of_length_le (by simp)
      have e4 := ins_new l (i := i) v ((0 : Int), ((0 : Int), (0 : Int))) hi2 (a := l.length + 1 - i) (b := l.length + 1 - i) (c := l.length + 1 - (i + 1)) rfl (by omega) (by omega)
      rw [hv] at e4
      rw [e3]
      exact congrArg (fun z => some ((IV.c (.sref 115326)), [(115326, Box.arr 27 TTimer z false)])) e4
    · have hv : List.take (l.length + 1 - i) [v] = [v] := List.take_of_length_le (by rw [List.length_singleton]; omega)
      have hm : Nat.min (l.length + 1 - i) (l.length + 1 - (i + 1)) = l.length - i := by show min _ _ = _; omega
      have e3 : List.take (l.length + 1 - (i + 1)) (List.take (l.length - i) (List.drop i l)) = l.drop i := by
        rw [List.take_of_length_le (l := List.drop i l) (by simp), List.take_of_length_le (by simp <;> omega)]
      have hO : (over l (i + 1) (l.drop i)).length = l.length + 1 := by rw [over_length _ _ _ (by omega), List.length_drop]; omega
      have hO2 : (over (over l (i + 1) (l.drop i)) i [v]).length = l.length + 1 := by rw [over_length _ _ _ (by omega), hO, List.length_singleton]; omega
      rw [cond_df hc]
      simp only [hm, e3, hv, hO, hO2]
      repeat rw [test_d (by first | omega | (simp only [List.length_cons, List.length_nil]; omega))]
      have e4 := ins_here l (i := i) v hi2 (a := l.length - i) (b := l.length + 1 - i) (c := l.length + 1) (by omega) (by omega) rfl
      rw [hv, List.take_of_length_le (l := List.drop i l) (by simp)] at e4
      exact congrArg (fun z => some ((IV.c (.sref 115326)), [(115326, Box.arr 27 TTimer z false)])) e4

theorem ins_ok : ins.OK := ins.mkR fun l i v hx => by
  have h : (fits (.sl TTimer) l && (true && (fits (.sl TTimer) v && (decide (0 ≤ i ∧ i ≤ (List.length l : Int) ∧ List.length l ≤ 1000000 ∧ List.length v = 1) && true)))) = true := hx
  simp only [Bool.and_eq_true, decide_eq_true_eq] at h
  obtain ⟨_, _, _, ⟨h1, h2, h3, h4⟩, _⟩ := h
  obtain ⟨v0, rfl⟩ := List.length_eq_one_iff.1 h4
  obtain ⟨j, rfl⟩ : ∃ j : Nat, i = (j : Int) := ⟨i.toNat, by omega⟩
  refine returnsO_room fun c hcap => ?_
  exact insV.ret SpecsOK.nil l j v0 c (m := 1) (insV_eq l (by omega) h3 v0 c hcap)

/-! ### which is ahead -/

theorem fits_tims {l : List (El TTimer)} (h : l.length * 24 ≤ reachBytes) : fits (.sl TTimer) l = true := fits_sl (t := TTimer) h fun _ _ => rfl
theorem len_tims {l : List (El TTimer)} (h : fits (.sl TTimer) l = true) : l.length * 24 ≤ reachBytes := fits_len' (n := 24) h rfl
theorem lim32 {l : List (El TTimer)} {a : El TTimer} (h : fits (.sl TTimer) (a :: l) = true) : (a :: l).length ≤ lim 24 := by
  have h1 := len_tims h
  have hr := reach_lt
  simp only [lim]; omega

theorem isNaN_ok : isNaN.OK := isNaN.mk SpecsOK.nil fun x _ => ⟨1, by rw [isNaN.start]; first | rfl | (simp; rfl)⟩
theorem cmpI_ok : cmpI.OK := cmpI.mk (isNaN_ok.cons' SpecsOK.nil) fun x y _ => ⟨1, by
  rw [cmpI.start]
  show _ = some (vi .i64 (cmpI x y), _)
  unfold cmpI
  by_cases h : x < y
  · rw [cond_dt h, if_pos h]; rfl
  · rw [cond_df h, if_neg h]
    by_cases h2 : y < x
    · rw [cond_dt h2, if_pos h2]; rfl
    · rw [cond_df h2, if_neg h2]; rfl⟩
theorem less_ok : less.OK := less.mk SpecsOK.nil fun k l _ => ⟨1, by
  rw [less.start]
  show _ = some (vb (ltK k l), _)
  unfold ltK
  by_cases h : k.1 < l.1
  · rw [dec_t h]; rfl
  · rw [dec_f h]
    cases (k.1 == l.1) <;> rfl⟩
theorem cmpT_ok : cmpT.OK := cmpT.mk (cmpI_ok.cons' (less_ok.cons' SpecsOK.nil)) fun a b _ => ⟨1, by
  rw [cmpT.start]
  show _ = some (vi .i64 (cmpT a b), _)
  unfold cmpT
  cases bne a.1 b.1 <;> cases ltK a.2 b.2 <;> cases ltK b.2 a.2 <;> rfl⟩

theorem ltT_iff (a b : Int × Int × Int) : ltT a b = true ↔ a.1 < b.1 ∨ (a.1 = b.1 ∧ (a.2.1 < b.2.1 ∨ (a.2.1 = b.2.1 ∧ a.2.2 < b.2.2))) := by
  unfold ltT ltK
  simp only [Bool.or_eq_true, Bool.and_eq_true, decide_eq_true_eq, beq_iff_eq]
theorem ltT_trans {a b c : Int × Int × Int} (h1 : ltT a b = true) (h2 : ltT b c = true) : ltT a c = true := by
  rw [ltT_iff] at *; omega
theorem cmpT_neg (a b : Int × Int × Int) : decide (cmpT a b < 0) = ltT a b := by
  have h := ltT_iff a b
  have e : cmpT a b < 0 ↔ ltT a b = true := by
    rw [h]
    unfold cmpT cmpI ltK
    by_cases h1 : a.1 = b.1
    · have : bne a.1 b.1 = false := by simp [h1]
      rw [this]
      simp only [cond_false]
      by_cases h2 : a.2.1 < b.2.1
      · simp [h2, h1]
      · by_cases h3 : a.2.1 = b.2.1
        · by_cases h4 : a.2.2 < b.2.2
          · simp [h3, h4, h1]
          · by_cases h5 : b.2.2 < a.2.2
            · simp [h3, h4, h5, h1]
            · simp [h3, h4, h5, h1]
        · have h6 : b.2.1 < a.2.1 := by omega
          have h7 : (a.2.1 == b.2.1) = false := by simpa using h3
          simp [h2, h3, h6, h7, h1]
    · have : bne a.1 b.1 = true := by simp [h1]
      rw [this]
      simp only [cond_true]
      split
      · simp; omega
      · split <;> simp <;> omega
  by_cases hc : cmpT a b < 0
  · rw [dec_t hc, e.1 hc]
  · rw [dec_f hc]
    cases hl : ltT a b with
    | true => exact absurd (e.2 hl) hc
    | false => rfl

theorem rises_all : ∀ {l : List (Int × Int × Int)} {a : Int × Int × Int}, risesT (a :: l) = true → risesT l = true ∧ ∀ x, x ∈ l → ltT a x = true
  | [], a, h => ⟨rfl, fun x hx => (by cases hx)⟩
  | b :: l, a, h => by
    simp only [risesT, Bool.and_eq_true] at h
    obtain ⟨h1, h2⟩ := h
    obtain ⟨_, h3⟩ := rises_all h2
    exact ⟨h2, fun x hx => (List.mem_cons.1 hx).elim (fun e => e ▸ h1) fun hx => ltT_trans h1 (h3 x hx)⟩

theorem place_le (l : List (El TTimer)) (t : El TTimer) : placeT l t ≤ l.length := List.length_filter_le _ _

theorem place_at : ∀ {l : List (Int × Int × Int)} {t : Int × Int × Int}, risesT l = true → ∀ h, h < l.length → ltT (rdEl TTimer l h) t = decide (h < placeT l t)
  | [], t, _, h, hh => by simp at hh
  | a :: l, t, hr, h, hh => by
    obtain ⟨h1, h2⟩ := rises_all hr
    unfold placeT
    rw [List.filter_cons]
    cases hp : ltT a t with
    | true =>
      rw [if_pos rfl, List.length_cons]
      cases h with
      | zero => rw [dec_t (by omega)]; exact hp
      | succ h =>
        have ih := place_at (t := t) h1 h (by simpa using hh)
        have e : rdEl TTimer (a :: l) (h + 1) = rdEl TTimer l h := by simp [rdEl]
        rw [e, ih]
        unfold placeT
        by_cases hc : h < (l.filter fun x => ltT x t).length
        · rw [dec_t hc, dec_t (by omega)]
        · rw [dec_f hc, dec_f (by omega)]
    | false =>
      rw [if_neg (by decide)]
      have hnone : l.filter (fun x => ltT x t) = [] := List.filter_eq_nil_iff.2 fun x hx hx2 => by
        have := ltT_trans (h2 x hx) hx2
        rw [hp] at this; cases this
      rw [hnone, dec_f (by simp)]
      cases h with
      | zero => exact hp
      | succ h =>
        have hh' : h < l.length := by simpa using hh
        have e : rdEl TTimer (a :: l) (h + 1) = l[h] := by simp [rdEl, hh']
        rw [e]
        cases hx : ltT l[h] t with
        | false => rfl
        | true =>
          have := ltT_trans (h2 _ (List.getElem_mem hh')) hx
          rw [hp] at this; cases this

theorem half (i j : Nat) (h : i + j < 4611686018427387904) : IntKind.i64.wrap (Int.fdiv (IntKind.u64.wrap (IntKind.i64.wrap ((i : Int) + (j : Int)))) ((2 : Int) ^ (Min.min (Int.toNat (1 : Int)) (Go.IntKind.bits Go.IntKind.u64)))) = (((i + j) / 2 : Nat) : Int) := by
  have e : ((2 : Int) ^ (Min.min (Int.toNat (1 : Int)) (Go.IntKind.bits Go.IntKind.u64))) = 2 := by decide
  rw [e, w64 (n := (i : Int) + j) (by omega) (by omega)]
  have hu : IntKind.u64.wrap ((i : Int) + j) = (i : Int) + j := by simp [IntKind.wrap, IntKind.bits, IntKind.signed]; omega
  rw [hu, Int.fdiv_eq_ediv_of_nonneg _ (by omega), w64 (by omega) (by omega)]
  omega

theorem bs_loop (l : List (El TTimer)) (t : El TTimer) (hr : risesT l = true) (hb : l.length * 24 ≤ reachBytes) : ∀ (d i j : Nat), j - i ≤ d → i ≤ placeT l t → placeT l t ≤ j → j ≤ l.length → ∃ m, bs.l1 m l l.length i j t.1 t.2.1 t.2.2 = some (.tup [vi .i64 (placeT l t : Int), vb (thereT l t)], [])
  | d, i, j, hd, hi, hj, hl => by
    have hrr := reach_lt
    by_cases hij : i < j
    · cases d with
      | zero => omega
      | succ d =>
        have hh : (i + j) / 2 < l.length := by omega
        have hp := place_at (t := t) hr _ hh
        have hc := cmpT_neg (rdEl TTimer l ((i + j) / 2)) t
        rw [hp] at hc
        by_cases hlt : (i + j) / 2 < placeT l t
        · obtain ⟨m, hm⟩ := bs_loop l t hr hb d ((i + j) / 2 + 1) j (by omega) (by omega) hj hl
          refine ⟨m + 1, ?_⟩
          rw [bs.s1, half i j (by omega), cond_dt (by omega), test_d (by omega), test_d (by omega), toNat_cast, w64s (by omega)]
          exact (cond_t (hc.trans (dec_t hlt))).trans hm
        · obtain ⟨m, hm⟩ := bs_loop l t hr hb d i ((i + j) / 2) (by omega) hi (by omega) (by omega)
          refine ⟨m + 1, ?_⟩
          rw [bs.s1, half i j (by omega), cond_dt (by omega), test_d (by omega), test_d (by omega), toNat_cast, w64s (by omega)]
          exact (cond_f (hc.trans (dec_f hlt))).trans hm
    · have : i = placeT l t := by omega
      refine ⟨1, ?_⟩
      rw [bs.s1, cond_df (by omega), this]
      unfold thereT
      by_cases h2 : placeT l t < l.length
      · rw [cond_dt (by omega), test_d (by omega), test_d (by omega), toNat_cast, dec_t h2]; rfl
      · rw [cond_df (by omega), dec_f h2]; rfl

theorem bs_ok : bs.OK := bs.mk (cmpT_ok.cons' SpecsOK.nil) fun l t u hx => by
  have h : (fits (.sl TTimer) l && (fits TTimer t && (risesT l && true))) = true := hx
  simp only [Bool.and_eq_true] at h
  obtain ⟨m, hm⟩ := bs_loop l t h.2.2.1 (len_tims h.1) l.length 0 l.length (by omega) (by omega) (place_le l t) (Nat.le_refl _)
  exact ⟨m + 1, by rw [bs.start]; exact hm⟩

/-! ### where one stands -/

theorem keyF_ok : keyF.OK := keyF.mk SpecsOK.nil fun t k i _ => ⟨1, by
  rw [keyF.start]
  show _ = some (vb (keyK k i t), _)
  unfold keyK
  cases (t.2.1 == k) <;> rfl⟩
theorem ixK_ok : ixK.OK := ixK.mk (keyF_ok.cons' SpecsOK.nil) fun l x hx => by
  have hl : fits (.sl TTimer) l = true := by
    have h : (fits (.sl TTimer) l && _) = true := hx
    simp only [Bool.and_eq_true] at h
    exact h.1
  have hb := len_tims hl
  have hr := reach_lt
  refine ⟨l.length + 2, ?_⟩
  rw [ixK.start]
  exact loop_ix (t := TTimer) l (keyK x.1 x.2.1) (fun m k => ixK.l1 m l x.1 x.2.1 l.length k) (fun i => some (vi .i64 i, [])) (fun m k hk => by
    rw [ixK.s1, cond_dt (by omega), test_d (by omega), test_d (by omega), w64s (by omega), toNat_cast]; rfl) (fun m => by rw [ixK.s1, cond_df (by omega)]; rfl)

/-! ### what is deleted; a row of its own -/

theorem del_ok : del.OK := del.mk .nil fun l i j hx => by
  have h : (fits (.sl TTimer) l && (true && (true && (decide (0 ≤ i ∧ i ≤ j ∧ j ≤ (List.length l : Int)) && true)))) = true := hx
  simp only [Bool.and_eq_true, decide_eq_true_eq] at h
  obtain ⟨hl, _, _, ⟨h1, h2, h3⟩, _⟩ := h
  obtain ⟨a, rfl⟩ : ∃ a : Nat, i = (a : Int) := ⟨i.toNat, by omega⟩
  obtain ⟨b, rfl⟩ : ∃ b : Nat, j = (b : Int) := ⟨j.toNat, by omega⟩
  refine ⟨1, ?_⟩
  have hres : del.back (l, (a : Int), (b : Int), ()) = [(115326, .arr 27 TTimer (cutOut l a b) false)] := rfl
  rw [del.start, hres]
  have hlen : (over l a (l.drop b)).length = l.length := by rw [over_length _ _ _ (by omega)]; simp; omega
  have e1 : List.take (l.length - b) (l.drop b) = l.drop b := List.take_of_length_le (by simp)
  by_cases hab : a = b
  · subst hab
    rw [test_d (by omega), test_d (by omega), test_d (by omega), test_d (by omega), test_d (by omega), cond_et rfl, cutOut_same]
    rfl
  · rw [test_d (by omega), test_d (by omega), test_d (by omega), test_d (by omega), test_d (by omega), cond_ef (by omega)]
    simp only [toNat_cast, Nat.zero_add, Nat.sub_zero, e1, List.length_drop, List.length_replicate]
    have e3 : (a : Int) - 0 + ((l.length - b : Nat) : Int) = ((a + (l.length - b) : Nat) : Int) := by omega
    rw [e3]
    simp only [toNat_cast]
    repeat rw [test_d (by first | omega | (rw [over_length _ _ _ (by omega)]; simp; omega) | (rw [over_length _ _ _ (by rw [over_length _ _ _ (by omega)]; simp; omega), over_length _ _ _ (by omega)]; simp; omega))]
    rw [take_over_del (α := Int × Int × Int) l _ a b _ _ (by omega) (by omega) rfl rfl]
    rfl

/-- An empty slice is nil, or it is not: where boxes come back. -/
theorem returnsO_nil {P : Program} {g : FuncId} {t : Ty} {res : IV} {b : List (Nat × Box)} (h0 : VE.ReturnsO P g [.c (.v (.slice none 0 0))] [] res b) (h1 : VE.ReturnsO P g [.c .emp] [] res b) : VE.ReturnsO P g [.c (.sl t [])] [] res b := by
  intro w us M O x hx hus ha
  have h := iv_c (ha 0 _ rfl)
  generalize hv : us.getD 0 undef = V at h
  cases h with
  | sl _ _ a cap rd hcap hnil hcell hel =>
    cases a with
    | none =>
      have hc := hnil rfl
      subst hc
      refine h0 w us M O x hx hus fun j c hc => ?_
      cases j with
      | zero => simp at hc; subst hc; rw [hv]; exact .c _ _ (.v _ rfl)
      | succ j => simp at hc
    | some a =>
      refine h1 w us M O x hx hus fun j c hc => ?_
      cases j with
      | zero => simp at hc; subst hc; rw [hv]; exact .c _ _ (.emp a cap)
      | succ j => simp at hc

theorem cloneO_ok : cloneO.OK := cloneO.mkR fun l hx => by
  have hl : fits (.sl TTimer) l = true := by
    have h : (fits (.sl TTimer) l && true) = true := hx
    simpa using h
  cases l with
  | nil => exact returnsO_nil (cloneON.ret SpecsOK.nil (m := 1) (cloneON.start 0)) (cloneOE.ret SpecsOK.nil (m := 1) (cloneOE.start 0))
  | cons a l => exact cloneOC.ret SpecsOK.nil a l (m := 1) (by rw [cloneOC.start, test_d (by simpa using lim32 hl)]; rfl)


/-! ### the clock -/

theorem clock_fits {c : El TClock} (h : fits TClock c = true) : c.2.length * 24 ≤ reachBytes := len_tims (fits_prod h).2
theorem fits_clock {c : El TClock} (h : c.2.length * 24 ≤ reachBytes) : fits TClock c = true := fits_mk (a := .int .i64) (x := c.1) (y := c.2) rfl (fits_tims h)

theorem find_ok : find.OK := find.mk (ixK_ok.cons' SpecsOK.nil) fun c k i hx => by
  have h : (fits TClock c && (true && (true && true))) = true := hx
  simp only [Bool.and_eq_true] at h
  have hk := (fits_prod h.1).2
  refine ⟨1, ?_⟩
  rw [find.start, test_true (show ixK.pre (c.2, (k, i, ()), ()) = true from by
    show (fits (.sl TTimer) c.2 && (true && (true && true))) = true
    rw [hk]; rfl)]
  rfl
theorem findZ_ok : findZ.OK := findZ.mk SpecsOK.nil fun k i _ => ⟨1, by rw [findZ.start]; rfl⟩

theorem new_ok : new.OK := new.mk .nil fun n _ => ⟨1, by
  rw [new.start]
  have hb : new.back (n, ()) = [(115326, .cells 55 [(.v (.int .i64 (timeC n))), (.sref 14889730)]), (14889730, (.arr 27 TTimer ([] : List (El TTimer)) false))] := rfl
  rw [hb]
  have e : (ite ((4611686018427387904 : Int) < (ite ((0 : Int) > n) (0 : Int) n)) (4611686018427387904 : Int) (ite ((0 : Int) > n) (0 : Int) n)) = timeC n := by
    unfold timeC top
    split <;> split <;> (try split) <;> omega
  rw [e]; rfl⟩
theorem now_ok : now.OK := now.mk SpecsOK.nil fun c _ => ⟨1, by rw [now.start]; rfl⟩
theorem nowZ_ok : nowZ.OK := nowZ.mk SpecsOK.nil fun _ _ => ⟨1, by rw [nowZ.start]; rfl⟩

theorem hasK_any (l : List (El TTimer)) (k i : Int) : hasK l k i = l.any (keyK k i) := by
  unfold hasK
  rcases VE.ixOf_cases (keyK k i) l with ⟨h1, _, h2⟩ | ⟨j, h1, _, _, _, h2⟩
  · rw [h1, h2]; rfl
  · rw [h1, h2, dec_f (by omega)]; rfl

theorem cut_ok : cut.OK := cut.mk (find_ok.cons' SpecsOK.nil) (del_ok.cons' .nil) fun c k i hx => by
  have hf : (fits TClock c && (true && (true && true))) = true := hx
  simp only [Bool.and_eq_true] at hf
  have hb := clock_fits hf.1
  have hk := (fits_prod hf.1).2
  have hr := reach_lt
  refine ⟨1, ?_⟩
  have hres : cut.res (c, k, i, ()) = vb (hasK c.2 k i) := rfl
  have hback : cut.back (c, k, i, ()) = objBx 0 55 TClock [none, some 27] (cutC c k i) := rfl
  rw [cut.start, hres, hback, test_true (show find.pre (c, k, i, ()) = true from hx)]
  unfold cutC cutT hasK
  rcases ixOf_cases (keyK k i) c.2 with ⟨h1, _⟩ | ⟨j, h1, h2, _⟩
  · rw [h1]; rfl
  · have hc : ¬ ((j : Int) < 0) := by omega
    rw [h1, cond_df hc, dec_f hc, Bool.not_false, cond_true, w64s (by omega), test_true (show del.pre (c.2, (j : Int), ((j + 1 : Nat) : Int), ()) = true by
      show (fits (.sl TTimer) c.2 && (true && (true && (decide (0 ≤ (j : Int) ∧ (j : Int) ≤ ((j + 1 : Nat) : Int) ∧ ((j + 1 : Nat) : Int) ≤ (List.length c.2 : Int)) && true)))) = true
      rw [hk, dec_t ⟨by omega, by omega, by omega⟩]; rfl)]
    simp only [toNat_cast]
    rfl
theorem cutZ_ok : cutZ.OK := cutZ.mk (findZ_ok.cons' SpecsOK.nil) fun k i hx => ⟨1, by rw [cutZ.start]; rfl⟩

theorem cutT_len (l : List (El TTimer)) (k i : Int) : (cutT l k i).length ≤ l.length := by
  unfold cutT
  cases hasK l k i with
  | false => exact Nat.le_refl _
  | true =>
    show (cutOut _ _ _).length ≤ _
    unfold cutOut
    rw [List.length_append, List.length_take, List.length_drop]; omega

theorem put_ok : put.OK := put.mk (bs_ok.cons' SpecsOK.nil) (cut_ok.cons' (ins_ok.cons' .nil)) fun c t hx => by
  have hf : (fits TClock c && (fits TTimer t && ((risesT (cutT c.2 t.2.1 t.2.2) && decide (List.length c.2 ≤ 1000000)) && true))) = true := hx
  simp only [Bool.and_eq_true, decide_eq_true_eq] at hf
  obtain ⟨h1, _, ⟨h3, h4⟩, _⟩ := hf
  have hl := cutT_len c.2 t.2.1 t.2.2
  have hR : reachBytes = 140737488351232 := rfl
  have hfc : fits (.sl TTimer) (cutT c.2 t.2.1 t.2.2) = true := fits_tims (by omega)
  refine ⟨1, ?_⟩
  have hres : put.res (c, t, ()) = vb (setOk c t) := rfl
  have hback : put.back (c, t, ()) = objBx 0 55 TClock [none, some 27] (setC c t) := rfl
  rw [put.start, hres, hback]
  unfold setC setOk top
  by_cases g1 : t.1 < c.1
  · rw [cond_dt g1, dec_t g1]; rfl
  by_cases g2 : t.1 > 4611686018427387904
  · rw [cond_df g1, cond_dt g2, dec_f g1, dec_t g2]; rfl
  rw [cond_df g1, cond_df g2, dec_f g1, dec_f g2]
  have p1 : cut.pre (c, t.2.1, t.2.2, ()) = true := by
    show (fits TClock c && (true && (true && true))) = true
    rw [h1]; rfl
  have p2 : bs.pre ((cutC c t.2.1 t.2.2).2, t, (), ()) = true := by
    show (fits (.sl TTimer) (cutT c.2 t.2.1 t.2.2) && (fits TTimer t && (risesT (cutT c.2 t.2.1 t.2.2) && true))) = true
    rw [hfc, h3]; rfl
  have p3 : ins.pre ((cutC c t.2.1 t.2.2).2, (placeT (cutC c t.2.1 t.2.2).2 t : Int), [t], ()) = true := by
    have hp := place_le (cutT c.2 t.2.1 t.2.2) t
    show (fits (.sl TTimer) (cutT c.2 t.2.1 t.2.2) && (true && (fits (.sl TTimer) [t] && (decide (0 ≤ (placeT (cutT c.2 t.2.1 t.2.2) t : Int) ∧ (placeT (cutT c.2 t.2.1 t.2.2) t : Int) ≤ ((cutT c.2 t.2.1 t.2.2).length : Int) ∧ (cutT c.2 t.2.1 t.2.2).length ≤ 1000000 ∧ List.length [t] = 1) && true)))) = true
    rw [hfc, fits_tims (l := [t]) (by rw [hR]; simp), dec_t ⟨by omega, by omega, by omega, rfl⟩]; rfl
  rw [test_true p1, test_true p2, test_true p3, toNat_cast]
  rfl
theorem putZ_ok : putZ.OK := putZ.mk .nil fun t _ => ⟨1, by rw [putZ.start]; rfl⟩

theorem when_ok : when.OK := when.mk (find_ok.cons' SpecsOK.nil) fun c k i hx => by
  have hf : (fits TClock c && (true && (true && true))) = true := hx
  refine ⟨1, ?_⟩
  have hres : when.res (c, k, i, ()) = .tup [vi .i64 (atI c k i), vb (hasK c.2 k i)] := rfl
  have hback : when.back (c, k, i, ()) = objBx 0 55 TClock [none, some 27] c := rfl
  rw [when.start, hres, hback, test_true (show find.pre (c, k, i, ()) = true from hx)]
  unfold atI hasK
  rcases ixOf_cases (keyK k i) c.2 with ⟨h1, _⟩ | ⟨j, h1, h2, _⟩
  · rw [h1]; rfl
  · have hc : ¬ ((j : Int) < 0) := by omega
    rw [h1, cond_df hc, dec_f hc, Bool.not_false, cond_true, test_d (by omega), test_d (by omega)]
    rfl
theorem whenZ_ok : whenZ.OK := whenZ.mk (findZ_ok.cons' SpecsOK.nil) fun k i hx => ⟨1, by rw [whenZ.start]; rfl⟩

theorem due_ok : due.OK := due.mk SpecsOK.nil (del_ok.cons' .nil) fun c to hx => by
  have hf : (fits TClock c && (true && true)) = true := hx
  simp only [Bool.and_eq_true] at hf
  have hk := (fits_prod hf.1).2
  refine ⟨1, ?_⟩
  have hres : due.res (c, to, ()) = .tup [mkIV true (enc TTimer (nextT c to)), vb (dueB c to)] := rfl
  have hback : due.back (c, to, ()) = objBx 0 55 TClock [none, some 27] (nextC c to) := rfl
  rw [due.start, hres, hback]
  unfold nextT nextC dueB
  by_cases h0 : (c.2.length : Int) = 0
  · rw [cond_et h0, beq_iff_eq.2 h0]; rfl
  · rw [cond_ef h0, beq_eq_false_iff_ne.2 h0, test_d (by omega)]
    show cond (decide ((rdEl TTimer c.2 0).1 > to)) _ _ = _
    by_cases h1 : (rdEl TTimer c.2 0).1 > to
    · rw [cond_dt h1, dec_t h1]; rfl
    · rw [cond_df h1, dec_f h1, test_d (by omega), test_true (show del.pre (c.2, (0 : Int), (1 : Int), ()) = true by
        show (fits (.sl TTimer) c.2 && (true && (true && (decide (0 ≤ (0 : Int) ∧ (0 : Int) ≤ 1 ∧ (1 : Int) ≤ (List.length c.2 : Int)) && true)))) = true
        rw [hk, dec_t ⟨by omega, by omega, by omega⟩]; rfl)]
      have e : cutOut c.2 (Int.toNat 0) (Int.toNat 1) = c.2.drop 1 := rfl
      rw [e]; rfl
theorem dueZ_ok : dueZ.OK := dueZ.mk .nil fun to _ => ⟨1, by rw [dueZ.start]; rfl⟩

theorem goTo_ok : goTo.OK := goTo.mk .nil fun c to hx => by
  refine ⟨1, ?_⟩
  have hres : goTo.res (c, to, ()) = vb (goB c to) := rfl
  have hback : goTo.back (c, to, ()) = objBx 0 55 TClock [none, some 27] (goC c to) := rfl
  rw [goTo.start, hres, hback]
  unfold goC goB top
  by_cases g1 : to < c.1
  · rw [cond_dt g1, dec_t g1]; rfl
  by_cases g2 : to > 4611686018427387904
  · rw [cond_df g1, cond_dt g2, dec_f g1, dec_t g2]; rfl
  rw [cond_df g1, cond_df g2, dec_f g1, dec_f g2]
  by_cases g3 : (c.2.length : Int) > 0
  · rw [cond_dt g3, test_d (by omega), dec_t g3]
    show cond (decide ((rdEl TTimer c.2 0).1 ≤ to)) _ _ = _
    by_cases g4 : (rdEl TTimer c.2 0).1 ≤ to
    · rw [cond_dt g4, dec_t g4]; rfl
    · rw [cond_df g4, dec_f g4]; rfl
  · rw [cond_df g3, dec_f g3]; rfl
theorem goToZ_ok : goToZ.OK := goToZ.mk .nil fun to _ => ⟨1, by rw [goToZ.start]; rfl⟩

theorem allT_ok : allT.OK := allT.mk SpecsOK.nil (cloneO_ok.cons' .nil) fun c hx => by
  have hf : (fits TClock c && true) = true := hx
  simp only [Bool.and_eq_true] at hf
  refine ⟨1, ?_⟩
  rw [allT.start, test_true (show cloneO.pre (c.2, ()) = true by
    show (fits (.sl TTimer) c.2 && true) = true
    rw [(fits_prod hf.1).2]; rfl)]
  rfl
theorem allTZ_ok : allTZ.OK := allTZ.mk .nil fun _ _ => ⟨1, by rw [allTZ.start]; rfl⟩

theorem awake_ok : awake.OK := awake.mk (now_ok.cons' SpecsOK.nil) (new_ok.cons' (put_ok.cons' (due_ok.cons' (allT_ok.cons' (goTo_ok.cons' .nil))))) fun _ _ => ⟨1, by
  rw [awake.start]
  kernel_rfl⟩

end Go.Proofs.Ythlbiibholhkmaa
