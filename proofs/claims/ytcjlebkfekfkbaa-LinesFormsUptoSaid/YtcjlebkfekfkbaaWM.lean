/-
  Lines: names; lines without words.
-/
import Derived.Test.YtcjlebkfekfkbaaWL
namespace Go.Proofs.Ytcjlebkfekfkbaa
open Go VE

/-! ### names -/

def nl (l : List UInt8) : Bool := l.all (fun b => nameC (b.toNat : Int)) && (decide (1 ≤ l.length) && (decide (l.length ≤ 12) && !(l == [45])))
theorem nameB_eq (s : ByteArray) : nameB s = nl (bs s) := by
  unfold nameB nl
  rw [allB_eq s.size 0 (by omega), List.drop_zero, bs_length, toList_bs, toList_bs]
  rfl
theorem name_mk (l : List UInt8) : nameB (mk l) = nl l := by rw [nameB_eq, bs_mk]

theorem name_as {l : List UInt8} (h : ∀ b ∈ l, b = 97) : nl l = (decide (1 ≤ l.length) && decide (l.length ≤ 12)) := by
  have e1 : l.all (fun b => nameC (b.toNat : Int)) = true := List.all_eq_true.2 fun b hb => by rw [h b hb]; decide
  have e2 : (l == [45]) = false := by
    cases l with
    | nil => rfl
    | cons a l =>
      have := h a (List.mem_cons_self ..)
      subst this
      rfl
  unfold nl
  rw [e1, e2]; simp
theorem name_x (cb : UInt8) : nl [120, cb] = nameC (cb.toNat : Int) := by
  unfold nl
  rw [List.all_cons, List.all_cons, List.all_nil, show nameC ((120 : UInt8).toNat : Int) = true from by decide]
  have : ([120, cb] == ([45] : List UInt8)) = false := rfl
  rw [this]; simp
theorem name_one (cb : UInt8) : nl [cb] = (nameC (cb.toNat : Int) && bne (cb.toNat : Int) 45) := by
  unfold nl
  rw [List.all_cons, List.all_nil]
  have : ([cb] == ([45] : List UInt8)) = decide ((cb.toNat : Int) = 45) := by
    by_cases h : cb = 45
    · subst h; rfl
    · have h2 : ¬ (cb.toNat : Int) = 45 := fun e => h (UInt8.toNat_inj.1 (by have : (45 : UInt8).toNat = 45 := rfl; omega))
      rw [dec_f h2]
      simpa using h
  rw [this]
  by_cases h : (cb.toNat : Int) = 45
  · rw [dec_t h, h]; rfl
  · have h2 : bne (cb.toNat : Int) 45 = true := by simpa using h
    rw [dec_f h, h2]; simp

theorem names_l1 {n : Nat} {x1 : Int} (hn : n < 16) (m : Nat) : ∀ (d k : Nat) (l : List UInt8), n = k + d → l.length = k → (∀ b ∈ l, b = 97) →
    ∃ l', l'.length = n ∧ (∀ b ∈ l', b = 97) ∧ lNames.l1 (m + (d + 1)) (n : Int) x1 (mk l) (n : Int) (k : Int) = lNames.l1 (m + 1) (n : Int) x1 (mk l') (n : Int) (n : Int)
  | 0, k, l, h, hl, ha => ⟨l, by omega, ha, by
      have : k = n := by omega
      rw [this, Nat.zero_add]⟩
  | d + 1, k, l, h, hl, ha => by
    obtain ⟨l', h1, h2, h3⟩ := names_l1 (x1 := x1) hn m d (k + 1) (l ++ [97]) (by omega) (by simp [hl]) (fun b hb => (List.mem_append.1 hb).elim (ha b) fun h => List.mem_singleton.1 h)
    refine ⟨l', h1, h2, ?_⟩
    refine (lNames.s1 (m + (d + 1)) (n : Int) x1 (mk l) _ _).trans ?_
    have e : mk l ++ (⟨#[97]⟩ : ByteArray) = mk (l ++ [97]) := mk_append l [97]
    rw [cond_dt (by omega), test_d (by rw [mk_size]; show l.length + 1 ≤ _; omega), w64s (by omega), e]
    exact h3

theorem leafA {n : Nat} {l : List UInt8} {a b : Bool} {c : Int} (hl : l.length = n) (hl2 : ∀ b ∈ l, b = 97) (hn : n < 16) (ha : a = true) (hb : b = bne c 45) :
    test (nameW.pre (mk l, ())) (cond (decide ((n : Int) ≥ 1)) (cond (nameB (mk l) == decide ((n : Int) ≤ 12)) (cond (a == true) (cond (b == bne c 45) (some (vb true, ([] : List (Nat × Box)))) (some (vb false, []))) (some (vb false, []))) (some (vb false, [])))
      (cond (nameB (mk l) == false) (cond (a == true) (cond (b == bne c 45) (some (vb true, ([] : List (Nat × Box)))) (some (vb false, []))) (some (vb false, []))) (some (vb false, [])))) = some (vb true, []) := by
  have hp : nameW.pre (mk l, ()) = true := by
    show (fits .str (mk l) && true) = true
    rw [str_fits (by rw [mk_size]; omega)]; rfl
  rw [test_true hp, name_mk, name_as hl2, hl, ha, hb]
  by_cases h1 : 1 ≤ n
  · rw [cond_dt (by omega), dec_t h1, Bool.true_and]
    by_cases h2 : n ≤ 12
    · rw [dec_t h2, dec_t (show (n : Int) ≤ 12 by omega)]; simp
    · rw [dec_f h2, dec_f (show ¬ (n : Int) ≤ 12 by omega)]; simp
  · rw [cond_df (by omega), dec_f h1, Bool.false_and]; simp

theorem leafB {n : Nat} {l : List UInt8} {a b : Bool} {c : Int} (hl : l.length = n) (hl2 : ∀ b ∈ l, b = 97) (hn : n < 16) (hc : c ≠ 45) (ha : a = (c == 46)) (hb : b = (c == 46)) :
    test (nameW.pre (mk l, ())) (cond (decide ((n : Int) ≥ 1)) (cond (nameB (mk l) == decide ((n : Int) ≤ 12)) (cond (a == (c == 46)) (cond (c == 46) (cond (b == bne c 45) (some (vb true, ([] : List (Nat × Box)))) (some (vb false, []))) (cond (b == false) (some (vb true, [])) (some (vb false, [])))) (some (vb false, []))) (some (vb false, [])))
      (cond (nameB (mk l) == false) (cond (a == (c == 46)) (cond (c == 46) (cond (b == bne c 45) (some (vb true, ([] : List (Nat × Box)))) (some (vb false, []))) (cond (b == false) (some (vb true, [])) (some (vb false, [])))) (some (vb false, []))) (some (vb false, [])))) = some (vb true, []) := by
  have hp : nameW.pre (mk l, ()) = true := by
    show (fits .str (mk l) && true) = true
    rw [str_fits (by rw [mk_size]; omega)]; rfl
  have hc2 : bne c 45 = true := by simpa using hc
  rw [test_true hp, name_mk, name_as hl2, hl, ha, hb, hc2]
  have e : (cond (c == 46) (cond ((c == 46) == true) (some (vb true, ([] : List (Nat × Box)))) (some (vb false, []))) (cond ((c == 46) == false) (some (vb true, [])) (some (vb false, [])))) = some (vb true, []) := by
    cases (c == 46) <;> rfl
  rw [e]
  by_cases h1 : 1 ≤ n
  · rw [cond_dt (by omega), dec_t h1, Bool.true_and]
    by_cases h2 : n ≤ 12
    · rw [dec_t h2, dec_t (show (n : Int) ≤ 12 by omega)]; simp
    · rw [dec_f h2, dec_f (show ¬ (n : Int) ≤ 12 by omega)]; simp
  · rw [cond_df (by omega), dec_f h1, Bool.false_and]; simp

theorem lNames_R : lNames.Law := fun x0 c hx => by
  have h : (true && (true && (decide (0 ≤ c ∧ c ≤ 255) && true))) = true := hx
  simp only [Bool.true_and, Bool.and_true, decide_eq_true_eq] at h
  have hh : ∃ d, lNames.go d x0 c = some (vb true, []) := by
    obtain ⟨n, e0, h0⟩ := drawn x0 (c := 16) (by omega) (by omega)
    have hc := byte_cb h.1 h.2
    obtain ⟨l, hl, hl2, hg⟩ := names_l1 (n := n) (x1 := c) (by omega) 0 n 0 [] (by omega) rfl (fun b hb => by cases hb)
    refine ⟨n + 1 + 1, ?_⟩
    rw [lNames.start, e0]
    refine Eq.trans ?_ (hg.trans ?_)
    · rw [Nat.zero_add]; rfl
    refine (lNames.s1 0 (n : Int) c (mk l) _ _).trans ?_
    have x2 : nameB ((⟨#[120]⟩ : ByteArray) ++ bytesStr (c :: ([] : List Int))) = nameC c := by rw [xc_eq, name_mk, name_x, hc]
    have x1 : nameB (bytesStr (c :: ([] : List Int))) = (nameC c && bne c 45) := by
      have : bytesStr (c :: ([] : List Int)) = mk [UInt8.ofNat c.toNat] := rfl
      rw [this, name_mk, name_one, hc]
    rw [cond_df (by omega), x1, x2]
    have A : nameC c = true → _ := fun hc => leafA (n := n) (l := l) (a := nameC c) (b := nameC c && bne c 45) (c := c) hl hl2 (by omega) hc (by rw [hc]; rfl)
    have B : c ≠ 45 → nameC c = (c == 46) → _ := fun h1 h2 => leafB (n := n) (l := l) (a := nameC c) (b := nameC c && bne c 45) (c := c) hl hl2 (by omega) h1 h2 (by
      rw [h2, show bne c 45 = true by simpa using h1, Bool.and_true])
    by_cases h1 : c ≥ 97
    · rw [cond_dt h1]
      by_cases h2 : c ≤ 122
      · rw [cond_dt h2]
        exact A (by unfold nameC; rw [dec_t (show 97 ≤ c from h1), dec_t h2]; rfl)
      · rw [cond_df h2, cond_dt (by omega), cond_df (by omega), cond_ef (by omega)]
        exact B (by omega) (by unfold nameC; rw [dec_f h2, dec_f (show ¬ c ≤ 57 by omega)]; simp; omega)
    · rw [cond_df h1]
      by_cases h3 : c ≥ 48
      · rw [cond_dt h3]
        by_cases h4 : c ≤ 57
        · rw [cond_dt h4]
          exact A (by unfold nameC; rw [dec_t (show 48 ≤ c from h3), dec_t h4]; simp)
        · rw [cond_df h4, cond_ef (by omega)]
          exact B (by omega) (by unfold nameC; rw [dec_f (show ¬ 97 ≤ c by omega), dec_f h4]; simp; omega)
      · rw [cond_df h3]
        by_cases h5 : c = 45
        · rw [cond_et h5]
          exact A (by rw [h5]; decide)
        · rw [cond_ef h5]
          have e : (c == 45) = false := by simpa using h5
          exact B h5 (by unfold nameC; rw [dec_f (show ¬ 97 ≤ c by omega), dec_f (show ¬ 48 ≤ c by omega), e]; simp)
  obtain ⟨d, hd⟩ := hh
  exact lNames.ret (awake_ok.cons' (nameW_ok.cons' (wordR_ok.cons' .nil))) x0 c hd

theorem lNames_pre (x0 c : Int) (hx : wfs [(false, .int .i64), (false, .int .u8)] (x0, c, ())) : lNames.pre (x0, c, ()) = true := by
  have b2 : 0 ≤ c ∧ c ≤ 255 := hx.2.1
  show (true && (true && (decide (0 ≤ c ∧ c ≤ 255) && true))) = true
  rw [dec_t b2]; rfl

/-! ### lines without words -/

def lineE (p : List UInt8) : List UInt8 := ((p ++ [119]) ++ p) ++ [32, 118]
def lineO (p : List UInt8) : List UInt8 := p ++ [35, 110, 111]
structure Pad (p : List UInt8) : Prop where
  len : p.length ≤ 4
  e1 : ml (lineE p) = true
  e2 : wl (lineE p) = [[119], [118]]
  e3 : ∀ b ∈ lineE p, ¬ (b.toNat : Int) = 10
  o1 : ml (lineO p) = true
  o2 : (wl (lineO p)).length = 0
  o3 : ∀ b ∈ lineO p, ¬ (b.toNat : Int) = 10
theorem pad_ok : ∀ k : Nat, k ≤ 4 → Pad (([32, 32, 32, 32] : List UInt8).take k)
  | 0, _ => ⟨by decide, by decide, by decide, by decide, by decide, by decide, by decide⟩
  | 1, _ => ⟨by decide, by decide, by decide, by decide, by decide, by decide, by decide⟩
  | 2, _ => ⟨by decide, by decide, by decide, by decide, by decide, by decide, by decide⟩
  | 3, _ => ⟨by decide, by decide, by decide, by decide, by decide, by decide, by decide⟩
  | 4, _ => ⟨by decide, by decide, by decide, by decide, by decide, by decide, by decide⟩
  | n + 5, h => by omega

abbrev wv (z : Int) : Ln := (z, [mk [119], mk [118]])

theorem none_l1 {p : List UInt8} (hp : Pad p) {L : List Int} (hL : L.length ≤ 20) (m : Nat) : ∀ (d k : Nat) (t : List UInt8) (ws : List Int), L.length = k + d → t.length ≤ 15 * k → ws.length ≤ k →
    ∃ (t' : List UInt8) (ws' : List Int) (Q : List (List UInt8)), t'.length ≤ 15 * d ∧ ws'.length ≤ d ∧ (∀ u, spl 10 (t' ++ u) = Q ++ spl 10 u) ∧ (∀ out rest, sg (Q ++ rest) k out = sg rest (k + d) (out ++ ws'.map wv)) ∧
      lNone.l1 (m + (d + 1)) (mk p) (mk t) L (L.length : Int) (k : Int) ws = lNone.l1 (m + 1) (mk p) (mk (t ++ t')) L (L.length : Int) (L.length : Int) (ws ++ ws')
  | 0, k, t, ws, h, ht, hw => ⟨[], [], [], by simp, by simp, fun u => rfl, fun out rest => by simp, by
      have : k = L.length := by omega
      rw [this, Nat.zero_add, List.append_nil, List.append_nil]⟩
  | d + 1, k, t, ws, h, ht, hw => by
    have hlim : 1000000 ≤ lim 8 := by decide
    have hpl := hp.len
    have z1 : (⟨#[119]⟩ : ByteArray).size = 1 := rfl
    have z2 : (⟨#[32, 118, 10]⟩ : ByteArray).size = 3 := rfl
    have z3 : (⟨#[35, 110, 111, 10]⟩ : ByteArray).size = 4 := rfl
    have z4 : (mk (p ++ [119])).size = p.length + 1 := by rw [mk_size, List.length_append]; rfl
    have z5 : (mk ((p ++ [119]) ++ p)).size = p.length + 1 + p.length := by rw [mk_size, List.length_append, List.length_append]; rfl
    have s1 : (mk p ++ (⟨#[119]⟩ : ByteArray)) = mk (p ++ [119]) := mk_append p [119]
    have s2 : (mk (p ++ [119]) ++ mk p) = mk ((p ++ [119]) ++ p) := mk_append _ _
    have s3 : mk ((p ++ [119]) ++ p) ++ (⟨#[32, 118, 10]⟩ : ByteArray) = mk (lineE p ++ [10]) := by
      refine (mk_append _ [32, 118, 10]).trans ?_
      unfold lineE
      rw [List.append_assoc (((p ++ [119]) ++ p))]; rfl
    have s4 : mk p ++ (⟨#[35, 110, 111, 10]⟩ : ByteArray) = mk (lineO p ++ [10]) := by
      refine (mk_append _ [35, 110, 111, 10]).trans ?_
      unfold lineO
      rw [List.append_assoc]; rfl
    have le1 : (lineE p ++ [10]).length ≤ 12 := by unfold lineE; simp; omega
    have le2 : (lineO p ++ [10]).length ≤ 8 := by unfold lineO; simp; omega
    have key := lNone.s1 (m + (d + 1)) (mk p) (mk t) L (L.length : Int) (k : Int) ws
    rw [cond_dt (by omega), test_d (by omega), test_d (by omega), w64s (by omega)] at key
    generalize ((IntKind.i64.wrap ((BitVec.toNat ((BitVec.ofInt (Go.IntKind.bits Go.IntKind.i64) (rdEl (.int .i64) L (Int.toNat (k : Int)))) &&& (BitVec.ofInt (Go.IntKind.bits Go.IntKind.i64) (1 : Int)))) : Int)) == (0 : Int)) = e at key
    cases e with
    | true =>
      obtain ⟨t', ws', Q, g1, g0, g2, g3, g4⟩ := none_l1 hp hL m d (k + 1) (t ++ (lineE p ++ [10])) (ws ++ [((k + 1 : Nat) : Int)]) (by omega) (by rw [List.length_append]; omega) (by simp; omega)
      refine ⟨(lineE p ++ [10]) ++ t', ((k + 1 : Nat) : Int) :: ws', lineE p :: Q, by rw [List.length_append]; omega, by simp; omega, fun u => ?_, fun out rest => ?_, ?_⟩
      · rw [List.append_assoc, List.append_assoc]
        have h1 : spl 10 (lineE p ++ 10 :: (t' ++ u)) = lineE p :: spl 10 (t' ++ u) := spl_app hp.e3 (by decide)
        rw [g2] at h1
        exact h1
      · rw [List.cons_append, sg_good hp.e1 (by rw [hp.e2]; decide), g3, hp.e2, show k + 1 + d = k + (d + 1) by omega, List.append_assoc]
        rfl
      · refine key.trans ?_
        have z6 := mk_size p
        have z7 := mk_size t
        have z8 := mk_size (lineE p ++ [10])
        have z9 : (ws ++ (((k + 1 : Nat) : Int) :: ([] : List Int))).length = ws.length + 1 := by rw [List.length_append]; rfl
        have t1 : (mk p).size + (⟨#[119]⟩ : ByteArray).size ≤ 9223372036854775807 := by omega
        have t2 : (mk (p ++ [119])).size + (mk p).size ≤ 9223372036854775807 := by omega
        have t3 : (mk ((p ++ [119]) ++ p)).size + (⟨#[32, 118, 10]⟩ : ByteArray).size ≤ 9223372036854775807 := by omega
        have t4 : (mk t).size + (mk (lineE p ++ [10])).size ≤ 9223372036854775807 := by omega
        have t5 : ws.length + (((k + 1 : Nat) : Int) :: ([] : List Int)).length ≤ lim 8 := by rw [List.length_singleton]; omega
        rw [cond_true, s1, s2, s3]
        refine (test_d t1).trans ((test_d t2).trans ((test_d t3).trans ((test_d t4).trans ((test_d t5).trans ?_))))
        rw [mk_append]
        refine g4.trans ?_
        have e1 : t ++ (lineE p ++ [10]) ++ t' = t ++ ((lineE p ++ [10]) ++ t') := List.append_assoc ..
        have e2 : ws ++ [((k + 1 : Nat) : Int)] ++ ws' = ws ++ ((k + 1 : Nat) : Int) :: ws' := by rw [List.append_assoc]; rfl
        rw [e1, e2]
    | false =>
      obtain ⟨t', ws', Q, g1, g0, g2, g3, g4⟩ := none_l1 hp hL m d (k + 1) (t ++ (lineO p ++ [10])) ws (by omega) (by rw [List.length_append]; omega) (by omega)
      refine ⟨(lineO p ++ [10]) ++ t', ws', lineO p :: Q, by rw [List.length_append]; omega, by omega, fun u => ?_, fun out rest => ?_, ?_⟩
      · rw [List.append_assoc, List.append_assoc]
        have h1 : spl 10 (lineO p ++ 10 :: (t' ++ u)) = lineO p :: spl 10 (t' ++ u) := spl_app hp.o3 (by decide)
        rw [g2] at h1
        exact h1
      · rw [List.cons_append, sg_none hp.o1 hp.o2, g3, show k + 1 + d = k + (d + 1) by omega]
      · refine key.trans ?_
        have z6 := mk_size p
        have z7 := mk_size t
        have z8 := mk_size (lineO p ++ [10])
        have t1 : (mk p).size + (⟨#[35, 110, 111, 10]⟩ : ByteArray).size ≤ 9223372036854775807 := by omega
        have t4 : (mk t).size + (mk (lineO p ++ [10])).size ≤ 9223372036854775807 := by omega
        rw [cond_false, s4]
        refine (test_d t1).trans ((test_d t4).trans ?_)
        rw [mk_append]
        refine g4.trans ?_
        have e1 : t ++ (lineO p ++ [10]) ++ t' = t ++ ((lineO p ++ [10]) ++ t') := List.append_assoc ..
        rw [e1]

theorem none_l2 {ws : List Int} (hw : ws.length ≤ 100) (m : Nat) : ∀ (d k : Nat), ws.length = k + d → lNone.l2 (m + (d + 1)) (ws.map wv) (ws.length : Int) (k : Int) ws = some (vb true, [])
  | 0, k, h => by
    refine (lNone.s2 m _ _ _ ws).trans ?_
    rw [cond_df (by omega)]; rfl
  | d + 1, k, h => by
    have hl : (ws.map wv).length = ws.length := List.length_map ..
    have e : rdEl TLine (ws.map wv) k = wv (rdEl (.int .i64) ws k) := by
      unfold rdEl
      rw [List.getD_eq_getElem?_getD, List.getD_eq_getElem?_getD, List.getElem?_map, List.getElem?_eq_getElem (show k < ws.length by omega)]
      rfl
    refine (lNone.s2 (m + (d + 1)) _ _ _ ws).trans ?_
    rw [cond_dt (by omega), test_d (by omega), test_d (by omega), test_d (by omega), test_d (by omega), toNat_cast, e]
    refine (cond_f (by simp)).trans ?_
    refine (cond_f (by rfl)).trans ?_
    refine (test_d (by show (0 : Int) < 2; decide)).trans ?_
    refine (cond_f (show (!(ByteArray.toList (mk [119]) == ByteArray.toList (⟨#[119]⟩ : ByteArray))) = false by rw [show (⟨#[119]⟩ : ByteArray) = mk [119] from rfl]; simp)).trans ?_
    refine (test_d (by show (1 : Int) < 2; decide)).trans ?_
    refine (cond_f (show (!(ByteArray.toList (mk [118]) == ByteArray.toList (⟨#[118]⟩ : ByteArray))) = false by rw [show (⟨#[118]⟩ : ByteArray) = mk [118] from rfl]; simp)).trans ?_
    rw [w64s (by omega)]
    exact none_l2 hw m d (k + 1) (by omega)

theorem lNone_R : lNone.Law := fun L x1 hx => by
  have hh : ∃ d, lNone.go d L x1 = some (vb true, []) := by
    by_cases hl : (L.length : Int) > 20
    · exact ⟨1, by rw [lNone.start, cond_dt hl]; rfl⟩
    obtain ⟨n, e0, h0⟩ := drawn x1 (c := 5) (by omega) (by omega)
    have ei : (ite ((n : Int) < 4) (n : Int) 4) = (n : Int) := by split <;> omega
    have hp := pad_ok n (by omega)
    have ep : ByteArray.extract (⟨#[32, 32, 32, 32]⟩ : ByteArray) 0 n = mk (([32, 32, 32, 32] : List UInt8).take n) := by
      rw [← mk_bs (ByteArray.extract _ 0 n), bs_extract, List.drop_zero]
    generalize ([32, 32, 32, 32] : List UInt8).take n = p at hp ep
    obtain ⟨t, ws, Q, g1, hw, g2, g3, g4⟩ := none_l1 hp (L := L) (by omega) 101 L.length 0 [] [] (by omega) (by simp) (by simp)
    simp only [List.nil_append] at g4
    have hsplit : splitL (mk t) = (ws.map wv, 0, 0) := by
      rw [splitL_eq (by rw [mk_size]; omega), bs_mk]
      have := g2 []
      rw [List.append_nil] at this
      rw [this, g3]
      rfl
    refine ⟨101 + (L.length + 1) + 1, ?_⟩
    rw [lNone.start, e0, ei, cond_df hl, test_d (by omega), test_d (by show (n : Int) ≤ 4; omega), toNat_cast, ep]
    refine g4.trans ?_
    refine (lNone.s1 101 _ _ L _ _ ws).trans ?_
    rw [cond_df (by omega), test_true (split_pre (by rw [mk_size]; omega)), hsplit]
    dsimp only
    rw [List.length_map, cond_f (by rfl), cond_f (by simp)]
    have := none_l2 (ws := ws) (by omega) (100 - ws.length) ws.length 0 (by omega)
    rw [show 100 - ws.length + (ws.length + 1) = 101 by omega] at this
    exact this
  obtain ⟨d, hd⟩ := hh
  exact lNone.ret (awake_ok.cons' (split_ok.cons' .nil)) L x1 hd

end Go.Proofs.Ytcjlebkfekfkbaa
