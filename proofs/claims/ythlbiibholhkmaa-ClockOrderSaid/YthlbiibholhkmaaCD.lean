/-
  Timers: the document's clock: each function's contract.
-/
import Derived.Test.YthlbiibholhkmaaCP
import Derived.Test.YthlbiibholhkmaaCH
namespace Go.Proofs.Ythlbiibholhkmaa
open Go VE

theorem take_rdT {l : List (El TTimer)} {k : Nat} (hk : k < l.length) : l.take (k + 1) = l.take k ++ [rdEl TTimer l k] := by
  rw [List.take_succ_eq_append_getElem hk]
  congr 2
  simp [rdEl, List.getD, hk]

theorem newR_ok : newR.OK := newR.mk SpecsOK.nil fun n _ => ⟨1, by
  rw [newR.start]
  have hb : newR.back (n, ()) = [(115326, .cells 45 [(.v (.int .i64 (timeC n))), (.sref 14889730)]), (14889730, (.arr 27 TTimer ([] : List (El TTimer)) false))] := rfl
  rw [hb]
  have e : (ite ((ite ((4611686018427387904 : Int) < n) (4611686018427387904 : Int) n) > (0 : Int)) (ite ((4611686018427387904 : Int) < n) (4611686018427387904 : Int) n) (0 : Int)) = timeC n := by
    unfold timeC top
    split <;> split <;> (try split) <;> omega
  rw [e]; rfl⟩

theorem aheadR_ok : aheadR.OK := aheadR.mk SpecsOK.nil fun a b _ => ⟨1, by
  rw [aheadR.start]
  show _ = some (vb (ltT a b), _)
  unfold ltT ltK
  cases decide (a.1 < b.1) <;> cases (a.1 == b.1) <;> cases decide (a.2.1 < b.2.1) <;> cases (a.2.1 == b.2.1) <;> rfl⟩

theorem cutR_loop (c : El TClock) (a i : Int) (hb : c.2.length * 24 ≤ reachBytes) : ∀ (n k : Nat), c.2.length = k + n → cutR.l1 (n + 1) a i c.2.length k (dropR a i (c.2.take k)) c.1 c.2 = some (vb (cutRB c a i), objBx 0 45 TClock [none, some 27] (cutRC c a i))
  | 0, k, hk => by
    have : k = c.2.length := by omega
    subst this
    rw [cutR.s1, cond_df (by omega), List.take_length]; rfl
  | n + 1, k, hk => by
    have hr := reach_lt
    have hlt : k < c.2.length := by omega
    have hfl : (dropR a i (c.2.take k)).length ≤ k := Nat.le_trans (List.length_filter_le _ _) (by simp; omega)
    have ih := cutR_loop c a i hb n (k + 1) (by omega)
    rw [take_rdT hlt] at ih
    unfold dropR at ih hfl ⊢
    rw [List.filter_append] at ih
    rw [cutR.s1, cond_dt (by omega), test_d (by omega), test_d (by omega), toNat_cast]
    have hlim : lim 24 = 5864062014805 := by simp [lim]
    cases h1 : bne (rdEl TTimer c.2 k).2.1 a with
    | true =>
      have h3 : keyK a i (rdEl TTimer c.2 k) = false := by
        unfold keyK
        have : ((rdEl TTimer c.2 k).2.1 == a) = false := by simpa [bne] using h1
        rw [this]; rfl
      rw [cond_true, test_d (by simp only [List.length_cons, List.length_nil, hlim]; omega), w64s (by omega)]
      simpa [h3] using ih
    | false =>
      have h2 : ((rdEl TTimer c.2 k).2.1 == a) = true := by simpa [bne] using h1
      rw [cond_false]
      cases h4 : bne (rdEl TTimer c.2 k).2.2 i with
      | true =>
        have h3 : keyK a i (rdEl TTimer c.2 k) = false := by
          unfold keyK
          have : ((rdEl TTimer c.2 k).2.2 == i) = false := by simpa [bne] using h4
          rw [this, Bool.and_false]
        rw [cond_true, test_d (by simp only [List.length_cons, List.length_nil, hlim]; omega), w64s (by omega)]
        simpa [h3] using ih
      | false =>
        have h3 : keyK a i (rdEl TTimer c.2 k) = true := by
          unfold keyK
          have : ((rdEl TTimer c.2 k).2.2 == i) = true := by simpa [bne] using h4
          rw [this, h2]; rfl
        rw [cond_false, w64s (by omega)]
        simpa [h3] using ih

theorem cutR_ok : cutR.OK := cutR.mk SpecsOK.nil fun c k i hx => by
  have hf : (fits TClock c && (true && (true && true))) = true := hx
  simp only [Bool.and_eq_true] at hf
  exact ⟨c.2.length + 2, by rw [cutR.start]; exact cutR_loop c k i (clock_fits hf.1) c.2.length 0 (by omega)⟩

theorem frontT_le (t : El TTimer) : ∀ (l : List (El TTimer)), frontT t l ≤ l.length
  | [] => Nat.le_refl _
  | a :: l => by
    unfold frontT
    cases ltT a t with
    | true => show frontT t l + 1 ≤ l.length + 1; have := frontT_le t l; omega
    | false => exact Nat.zero_le _

theorem front_at (t : El TTimer) : ∀ (l : List (El TTimer)) (k : Nat), k ≤ frontT t l → k < l.length → ltT (rdEl TTimer l k) t = decide (k < frontT t l)
  | [], k, _, h => by simp at h
  | a :: l, k, hk, hl => by
    cases k with
    | zero =>
      have e : rdEl TTimer (a :: l) 0 = a := rfl
      rw [e]
      unfold frontT
      cases ltT a t with
      | true => exact (dec_t (Nat.zero_lt_succ _)).symm
      | false => rfl
    | succ k =>
      have e : rdEl TTimer (a :: l) (k + 1) = rdEl TTimer l k := rfl
      unfold frontT at hk ⊢
      cases ha : ltT a t with
      | false => rw [ha] at hk; exact absurd hk (by simp)
      | true =>
        rw [ha] at hk
        have hk : k + 1 ≤ frontT t l + 1 := hk
        rw [e, front_at t l k (by omega) (by simpa using hl)]
        show decide _ = decide (k + 1 < frontT t l + 1)
        by_cases h : k < frontT t l
        · rw [dec_t h, dec_t (by omega)]
        · rw [dec_f h, dec_f (by omega)]

theorem putR_end (l : List (El TTimer)) (k : Nat) (hk : k ≤ l.length) (x1 a b c : Int) (hb : l.length * 24 ≤ reachBytes) :
  (test (decide ((0 : Int) ≤ k)) (
       test (decide ((k : Int) ≤ ((List.length l) : Int))) (
        test (decide (((0 + 0) + ((Int.toNat k) - 0)) ≤ (List.length l))) (
         test (decide ((List.length (List.take ((Int.toNat k) - 0) (List.drop (0 + 0) l))) ≤ (lim 24))) (
          test (decide (((List.length (List.take ((Int.toNat k) - 0) (List.drop (0 + 0) l))) + (List.length ((a, (b, c)) :: ([] : List (El TTimer))))) ≤ (lim 24))) (
           test (decide ((0 : Int) ≤ k)) (
            test (decide ((k : Int) ≤ ((List.length l) : Int))) (
             test (decide (((0 + (Int.toNat k)) + ((List.length l) - (Int.toNat k))) ≤ (List.length l))) (
              test (decide (((List.length ((List.take ((Int.toNat k) - 0) (List.drop (0 + 0) l)) ++ ((a, (b, c)) :: ([] : List (El TTimer))))) + (List.length (List.take ((List.length l) - (Int.toNat k)) (List.drop (0 + (Int.toNat k)) l)))) ≤ (lim 24))) (
               some ((.c (.v (.bool true))), [(102526, (.cells 45 [(.v (.int .i64 x1)), (.sref 13251330)])), (13251330, (.arr 27 TTimer (((List.take ((Int.toNat k) - 0) (List.drop (0 + 0) l)) ++ ((a, (b, c)) :: ([] : List (El TTimer)))) ++ (List.take ((List.length l) - (Int.toNat k)) (List.drop (0 + (Int.toNat k)) l))) false))]) : R)))))))))) = some (vb true, objBx 0 45 TClock [none, some 27] (x1, putIn l k (a, (b, c)))) := by
  have hR : reachBytes = 140737488351232 := rfl
  have hlim : lim 24 = 5864062014805 := by simp [lim]
  have e1 : List.take ((Int.toNat k) - 0) (List.drop (0 + 0) l) = l.take k := by simp
  have e2 : List.take ((List.length l) - (Int.toNat k)) (List.drop (0 + (Int.toNat k)) l) = l.drop k := by
    rw [toNat_cast, Nat.zero_add]; exact List.take_of_length_le (by simp)
  have l1 : (l.take k).length = k := by rw [List.length_take]; omega
  have l2 : (l.drop k).length = l.length - k := List.length_drop
  rw [e1, e2]
  simp only [List.length_append, l1, l2, List.length_cons, List.length_nil]
  rw [test_d (by omega), test_d (by omega), test_d (by omega), test_d (by rw [hlim]; omega), test_d (by rw [hlim]; omega), test_d (by omega), test_d (by omega), test_d (by omega), test_d (by rw [hlim]; omega)]
  have e3 : l.take k ++ [(a, (b, c))] ++ l.drop k = putIn l k (a, (b, c)) := by unfold putIn; simp
  rw [e3]; rfl

theorem putR_loop (l : List (El TTimer)) (x1 : Int) (t : El TTimer) (hb : l.length * 24 ≤ reachBytes) : ∀ (n k : Nat), frontT t l = k + n → putR.l1 (n + 1) k x1 l t.1 t.2.1 t.2.2 = some (vb true, objBx 0 45 TClock [none, some 27] (x1, putIn l (frontT t l) t))
  | 0, k, hk => by
    have : k = frontT t l := by omega
    have hle := frontT_le t l
    have E := putR_end l k (by omega) x1 t.1 t.2.1 t.2.2 hb
    rw [putR.s1]
    by_cases hlt : k < l.length
    · have h1 := front_at t l k (by omega) hlt
      rw [dec_f (by omega)] at h1
      rw [cond_dt (by omega), test_d (by omega), test_d (by omega)]
      refine (cond_f (by rw [toNat_cast]; exact h1)).trans ?_
      rw [← this]; exact E
    · rw [cond_df (by omega), ← this]; exact E
  | n + 1, k, hk => by
    have hr := reach_lt
    have hle := frontT_le t l
    have hlt : k < l.length := by omega
    have h1 := front_at t l k (by omega) hlt
    rw [dec_t (by omega)] at h1
    rw [putR.s1, cond_dt (by omega), test_d (by omega), test_d (by omega), w64s (by omega)]
    refine (cond_t (by rw [toNat_cast]; exact h1)).trans ?_
    exact putR_loop l x1 t hb n (k + 1) (by omega)

theorem dropR_len (a i : Int) (l : List (El TTimer)) : (dropR a i l).length ≤ l.length := List.length_filter_le ..

theorem putR_ok : putR.OK := putR.mk (aheadR_ok.cons' SpecsOK.nil) (cutR_ok.cons' .nil) fun c t hx => by
  have hf : (fits TClock c && (fits TTimer t && true)) = true := hx
  simp only [Bool.and_eq_true] at hf
  have hb := clock_fits hf.1
  have hl := dropR_len t.2.1 t.2.2 c.2
  have hres : putR.res (c, t, ()) = vb (setOk c t) := rfl
  have hback : putR.back (c, t, ()) = objBx 0 45 TClock [none, some 27] (setRC c t) := rfl
  refine ⟨frontT t (dropR t.2.1 t.2.2 c.2) + 2, ?_⟩
  rw [putR.start, hres, hback]
  unfold setRC setOk top
  by_cases g1 : t.1 < c.1
  · rw [cond_dt g1, dec_t g1]; rfl
  by_cases g2 : t.1 > 4611686018427387904
  · rw [cond_df g1, cond_dt g2, dec_f g1, dec_t g2]; rfl
  rw [cond_df g1, cond_df g2, dec_f g1, dec_f g2, test_true (show cutR.pre (c, t.2.1, t.2.2, ()) = true from by
    show (fits TClock c && (true && (true && true))) = true
    rw [hf.1]; rfl)]
  exact putR_loop (dropR t.2.1 t.2.2 c.2) c.1 t (by omega) _ 0 (by omega)

theorem whenR_loop (l : List (El TTimer)) (a i : Int) (hb : l.length * 24 ≤ reachBytes) : ∀ (n k : Nat), l.length = k + n → (l.take k).any (keyK a i) = false → whenR.l1 (n + 1) a i l l.length k = some (.tup [vi .i64 (match l.find? (keyK a i) with | some t => t.1 | none => 0), vb (l.any (keyK a i))], [])
  | 0, k, hk, ha => by
    have : k = l.length := by omega
    subst this
    rw [List.take_length] at ha
    rw [whenR.s1, cond_df (by omega), ha, List.find?_eq_none.2 fun x hx => by have := List.any_eq_false.1 ha x hx; simpa using this]
    rfl
  | n + 1, k, hk, ha => by
    have hr := reach_lt
    have hlt : k < l.length := by omega
    have ih := fun h1 : keyK a i (rdEl TTimer l k) = false => whenR_loop l a i hb n (k + 1) (by omega) (by rw [take_rdT hlt, List.any_append, ha]; simp [h1])
    rw [whenR.s1, cond_dt (by omega), test_d (by omega), test_d (by omega), toNat_cast, w64s (by omega)]
    cases g1 : ((rdEl TTimer l k).2.1 == a) with
    | false => exact ih (by unfold keyK; rw [g1]; rfl)
    | true =>
      rw [cond_true]
      cases g2 : ((rdEl TTimer l k).2.2 == i) with
      | false => exact ih (by unfold keyK; rw [g1, g2]; rfl)
      | true =>
        have h1 : keyK a i (rdEl TTimer l k) = true := by unfold keyK; rw [g1, g2]; rfl
        have hs : l = l.take k ++ (rdEl TTimer l k :: l.drop (k + 1)) := by rw [← rdEl_drop (t := TTimer) l hlt, List.take_append_drop]
        have hf : (l.take k).find? (keyK a i) = none := List.find?_eq_none.2 fun x hx => by have := List.any_eq_false.1 ha x hx; simpa using this
        have e1 : l.find? (keyK a i) = some (rdEl TTimer l k) := by
          conv => lhs; rw [hs]
          rw [List.find?_append, hf, List.find?_cons, h1]; rfl
        have e2 : l.any (keyK a i) = true := by
          conv => lhs; rw [hs]
          rw [List.any_append, List.any_cons, h1, Bool.true_or, Bool.or_true]
        rw [e1, e2]; rfl

theorem whenR_ok : whenR.OK := whenR.mk SpecsOK.nil fun c k i hx => by
  have hf : (fits TClock c && (true && (true && true))) = true := hx
  simp only [Bool.and_eq_true] at hf
  exact ⟨c.2.length + 2, by rw [whenR.start]; exact whenR_loop c.2 k i (clock_fits hf.1) c.2.length 0 (by omega) rfl⟩

theorem dueR_ok : dueR.OK := dueR.mk SpecsOK.nil fun c to hx => by
  have hf : (fits TClock c && (true && true)) = true := hx
  simp only [Bool.and_eq_true] at hf
  have hb := clock_fits hf.1
  have hr := reach_lt
  refine ⟨1, ?_⟩
  have hres : dueR.res (c, to, ()) = .tup [mkIV true (enc TTimer (nextT c to)), vb (dueB c to)] := rfl
  have hback : dueR.back (c, to, ()) = objBx 0 45 TClock [none, some 27] (nextC c to) := rfl
  rw [dueR.start, hres, hback]
  unfold nextT nextC dueB
  by_cases h0 : (c.2.length : Int) = 0
  · rw [cond_et h0, beq_iff_eq.2 h0]; rfl
  · rw [cond_ef h0, beq_eq_false_iff_ne.2 h0, test_d (by omega)]
    show cond (decide ((rdEl TTimer c.2 0).1 > to)) _ _ = _
    by_cases h1 : (rdEl TTimer c.2 0).1 > to
    · rw [cond_dt h1, dec_t h1]; rfl
    · have e : List.drop (Int.toNat (1 : Int)) (List.take (List.length c.2) c.2) = c.2.drop 1 := by rw [List.take_length]; rfl
      have hlim : lim 24 = 5864062014805 := by simp [lim]
      rw [cond_df h1, dec_f h1, test_d (by omega), test_d (by omega), e, test_d (by rw [List.length_drop, hlim]; omega)]
      rfl

theorem goToR_ok : goToR.OK := goToR.mk .nil fun c to hx => by
  refine ⟨1, ?_⟩
  have hres : goToR.res (c, to, ()) = vb (goB c to) := rfl
  have hback : goToR.back (c, to, ()) = objBx 0 45 TClock [none, some 27] (goC c to) := rfl
  rw [goToR.start, hres, hback]
  unfold goC goB top
  by_cases g1 : to < c.1
  · rw [cond_dt g1, dec_t g1]; rfl
  by_cases g2 : to > 4611686018427387904
  · rw [cond_df g1, cond_dt g2, dec_f g1, dec_t g2]; rfl
  rw [cond_df g1, cond_df g2, dec_f g1, dec_f g2]
  by_cases g3 : (c.2.length : Int) > 0
  · rw [cond_dt g3, test_d (by omega), dec_t g3]
    show cond (decide ((rdEl TTimer c.2 0).1 ≤ to)) _ _ = _
    by_cases g4 : (rdEl TTimer c.2 0).1 ≤ to
    · rw [cond_dt g4, dec_t g4]; rfl
    · rw [cond_df g4, dec_f g4]; rfl
  · rw [cond_df g3, dec_f g3]; rfl

theorem eqTs_step : ∀ (l m : List (El TTimer)) (k : Nat), k < l.length → k < m.length → eqTs (l.drop k) (m.drop k) = (eqT (rdEl TTimer l k) (rdEl TTimer m k) && eqTs (l.drop (k + 1)) (m.drop (k + 1)))
  | l, m, k, h1, h2 => by rw [rdEl_drop (t := TTimer) l h1, rdEl_drop (t := TTimer) m h2]; rfl

theorem sameTs_loop (l m : List (El TTimer)) (he : l.length = m.length) (hb : l.length * 24 ≤ reachBytes) : ∀ (n k : Nat), l.length = k + n → sameTs.l1 (n + 1) l m l.length k = some (vb (eqTs (l.drop k) (m.drop k)), [])
  | 0, k, hk => by
    have e1 : l.drop k = [] := List.drop_eq_nil_of_le (by omega)
    have e2 : m.drop k = [] := List.drop_eq_nil_of_le (by omega)
    rw [sameTs.s1, cond_df (by omega), e1, e2]; rfl
  | n + 1, k, hk => by
    have hr := reach_lt
    have h1 : k < l.length := by omega
    have h2 : k < m.length := by omega
    have e := eqTs_step l m k h1 h2
    rw [sameTs.s1, cond_dt (by omega), test_d (by omega), test_d (by omega), test_d (by omega), test_d (by omega), toNat_cast, w64s (by omega), e, sameTs_loop l m he hb n (k + 1) (by omega)]
    show cond (!(eqT (rdEl TTimer l k) (rdEl TTimer m k))) _ _ = _
    cases eqT (rdEl TTimer l k) (rdEl TTimer m k) <;> rfl

theorem eqTs_len : ∀ {l m : List (El TTimer)}, l.length ≠ m.length → eqTs l m = false
  | [], [], h => absurd rfl h
  | [], _ :: _, _ => rfl
  | _ :: _, [], _ => rfl
  | a :: l, b :: m, h => by
    show (eqT a b && eqTs l m) = false
    rw [eqTs_len fun e => h (by simp [e]), Bool.and_false]

theorem sameTs_ok : sameTs.OK := sameTs.mk SpecsOK.nil fun l m hx => by
  have hf : (fits (.sl TTimer) l && (fits (.sl TTimer) m && true)) = true := hx
  simp only [Bool.and_eq_true] at hf
  have hb := len_tims hf.1
  refine ⟨l.length + 2, ?_⟩
  have hres : sameTs.res (l, m, ()) = vb (eqTs l m) := rfl
  rw [sameTs.start, hres]
  by_cases h : l.length = m.length
  · have : bne (l.length : Int) (m.length : Int) = false := by simp [bne, h]
    rw [this, cond_false]
    exact sameTs_loop l m h hb l.length 0 (by omega)
  · have : bne (l.length : Int) (m.length : Int) = true := by simp [bne]; omega
    rw [this, cond_true, eqTs_len h]; rfl

end Go.Proofs.Ythlbiibholhkmaa
