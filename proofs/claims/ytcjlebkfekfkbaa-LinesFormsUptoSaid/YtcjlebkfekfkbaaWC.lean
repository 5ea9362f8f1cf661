/-
  Lines and words: what goes through the parts of a text.
-/
import Derived.Test.YtcjlebkfekfkbaaWB
namespace Go.Proofs.Ytcjlebkfekfkbaa
open Go VE

/-- Each part has its number. -/
theorem runs_num {s : ByteArray} {sep : Int} : ∀ (r i a n j : Nat) (x : Int × ByteArray), (runs s sep r i a n)[j]? = some x → x.1 = ((n + j : Nat) : Int)
  | 0, i, a, n, j, x, h => by
    match j, h with
    | 0, h => cases h; rfl
    | j + 1, h => simp [runs] at h
  | r + 1, i, a, n, j, x, h => by
    unfold runs at h
    split at h
    · match j, h with
      | 0, h => cases h; rfl
      | j + 1, h =>
        have := runs_num r (i + 1) (i + 1) (n + 1) j x (by simpa using h)
        omega
    · exact runs_num r (i + 1) a n j x h
theorem runs_length {s : ByteArray} {sep : Int} : ∀ (r i a n : Nat), (runs s sep r i a n).length ≤ r + 1
  | 0, i, a, n => by simp [runs]
  | r + 1, i, a, n => by
    unfold runs
    split
    · have := runs_length (s := s) (sep := sep) r (i + 1) (i + 1) (n + 1)
      simp; omega
    · have := runs_length (s := s) (sep := sep) r (i + 1) a n
      omega
theorem runs_size {s : ByteArray} {sep : Int} : ∀ (r i a n : Nat) (x : Int × ByteArray), x ∈ runs s sep r i a n → x.2.size ≤ s.size
  | 0, i, a, n, x, h => by
    cases List.mem_singleton.1 h
    rw [ByteArray.size_extract]; omega
  | r + 1, i, a, n, x, h => by
    unfold runs at h
    split at h
    · rcases List.mem_cons.1 h with rfl | h
      · rw [ByteArray.size_extract]; omega
      · exact runs_size r _ _ _ x h
    · exact runs_size r _ _ _ x h

/-! ### words -/

def wordsF (pre : List (Int × ByteArray)) : List ByteArray := (pre.map (·.2)).filter fun w => !(ByteArray.toList w == ByteArray.toList ⟨#[]⟩)

theorem wordsF_len (pre : List (Int × ByteArray)) : (wordsF pre).length ≤ pre.length := by
  have := List.length_filter_le (fun w => !(ByteArray.toList w == ByteArray.toList (⟨#[]⟩ : ByteArray))) (pre.map (·.2))
  rw [List.length_map] at this
  exact this

theorem words_round (f : IC) (v : Int × ByteArray) (pre : List (Int × ByteArray)) (hl : pre.length ≤ 100000) (k : Nat → St → R) :
    evalR words.cfg Try.f23.ntmps 64 (loopBody words.loop) ⟨asgT [(5, 15)] (parT [(14, .int .i64 v.1), (15, .string v.2)] (words.t f)), words.hs (wordsF pre), words.us⟩ (fun j σ' => keepK [513] words.L σ' (k j)) =
      k 0 ⟨ofList (.c .junk) [], words.hs (wordsF (pre ++ [v])), words.us⟩ := by
  rw [words.round]
  have hlen := wordsF_len pre
  have hlim : 1000000 ≤ lim 16 := by decide
  have e : wordsF (pre ++ [v]) = wordsF pre ++ ([v.2].filter fun w => !(ByteArray.toList w == ByteArray.toList ⟨#[]⟩)) := by simp [wordsF]
  rw [e]
  cases h : !(ByteArray.toList v.2 == ByteArray.toList (⟨#[]⟩ : ByteArray)) with
  | true =>
    have h2 : [v.2].filter (fun w => !(ByteArray.toList w == ByteArray.toList (⟨#[]⟩ : ByteArray))) = [v.2] := by simp only [List.filter, h]
    rw [cond_true, h2, test_d (by simp; omega)]; rfl
  | false =>
    have h2 : [v.2].filter (fun w => !(ByteArray.toList w == ByteArray.toList (⟨#[]⟩ : ByteArray))) = [] := by simp only [List.filter, h]
    rw [cond_false, h2, List.append_nil]; rfl

theorem words_rfs : rfs words.body = [.rangeFunc (.tmp 13) #[14, 15] (loopAs words.loop) (loopBody words.loop)] := by kernel_rfl
theorem words_asg : asgOf (loopAs words.loop) = some [(5, 15)] := by kernel_rfl
theorem words_cfg : CfgOK Try.prog words.cfg := cfgOK_of mixed tab_ok (sp := words.specs) (runsC_ok.cons' (cut_ok.cons' .nil)) .nil

theorem cutA_size (s : ByteArray) : (cutA s).size ≤ s.size := by
  unfold cutA
  rw [ByteArray.size_extract]; omega

theorem runsC_pre {s : ByteArray} {b : Int} (h : s.size ≤ 1000000) : runsC.pre (s, b, ()) = true := by
  show (fits .str s && (true && true)) = true
  rw [str_fits h]; rfl
theorem cut_pre {s : ByteArray} (h : s.size ≤ 1000000) : cut.pre (s, hashB, ()) = true := by
  show (fits .str s && (fits .str hashB && (decide (hashB = hashB) && true))) = true
  rw [str_fits h, str_fits (s := hashB) (by decide), dec_t rfl]; rfl

theorem words_returns (s : ByteArray) (hs : s.size ≤ 10000) : VE.Returns Try.prog 23 [.c (.v (.string s))] (.c (.sl .str (wordsL s))) :=
  returns_of_range (cfg := words.cfg) (m := 64) words_cfg rfl Try.func23 (body_some (by kernel_rfl)) (Nat.le_of_ble_eq_true (by kernel_rfl)) words_rfs words_asg (by kernel_rfl)
    (σ0 := ⟨words.t (.fn 28 [.snap [.v (.string (cutA s))] 0, .snap [.v (.int .u8 32)] 0]), words.hs [], words.us⟩) (L0 := words.L0) (L := words.L)
    rfl (runs_iter (cutA s) 32 (by have := cutA_size s; omega)) (call_enter Try.func28 (by kernel_rfl) (by kernel_rfl)) (fun _ => rfl) (fun _ u h => by
      rcases List.mem_cons.1 h with rfl | h
      · rfl
      · cases List.mem_singleton.1 h; rfl)
    (objV_ofList (objs := [513]) (by simp [objV, objC, objC0])) (fun pre => words.hs (wordsF pre)) (fun _ => words.us) rfl rfl (fun _ => noMap_ofList rfl) (fun _ => 0)
    (fun pre v hlen => ⟨_, 64, fun k => words_round _ v pre (by
      have := runs_length (s := cutA s) (sep := 32) (cutA s).size 0 0 0
      have := cutA_size s
      unfold runsL at hlen; omega) k⟩)
    (fun F => (words.pre1 s F).trans ((test_true (cut_pre (by omega))).trans (test_true (runsC_pre (by have := cutA_size s; omega)))))
    (fun F pre j h => by
      rcases h with ⟨rfl, rfl, _⟩ | ⟨_, hj, _⟩
      · exact words.post0 _ _ F
      · exact absurd rfl hj)

theorem words_ok : words.OK := words.mkR fun s hx => by
  have h : (fits .str s && (decide (s.size ≤ 10000) && true)) = true := hx
  simp only [Bool.and_true, Bool.and_eq_true, decide_eq_true_eq] at h
  exact words_returns s h.2

/-! ### lines -/

abbrev Z : Type := List Ln × (Int × Int) × Nat
def stepS (z : Z) (v : Int × ByteArray) : Z :=
  if mayB v.2 then (if (wordsL v.2).length = 0 then z.1 else z.1 ++ [(v.1 + 1, wordsL v.2)], z.2.1, 0) else (z.1, (v.1 + 1, 2), 1)
def stS (l : List (Int × ByteArray)) : Z := l.foldl stepS ([], (0, 0), 0)
theorem stS_snoc (l : List (Int × ByteArray)) (v : Int × ByteArray) : stS (l ++ [v]) = stepS (stS l) v := by simp [stS]
theorem stepS_good {z : Z} {v : Int × ByteArray} (h : mayB v.2 = true) : stepS z v = (if (wordsL v.2).length = 0 then z.1 else z.1 ++ [(v.1 + 1, wordsL v.2)], z.2.1, 0) := if_pos h
theorem stepS_bad {z : Z} {v : Int × ByteArray} (h : mayB v.2 = false) : stepS z v = (z.1, (v.1 + 1, 2), 1) := if_neg (by rw [h]; exact Bool.false_ne_true)
theorem stepS_len (z : Z) (v : Int × ByteArray) : (stepS z v).1.length ≤ z.1.length + 1 := by
  cases hm : mayB v.2 with
  | true =>
    rw [stepS_good hm]
    by_cases hw : (wordsL v.2).length = 0
    · rw [if_pos hw]; exact Nat.le_succ _
    · rw [if_neg hw, List.length_append]; exact Nat.le_refl _
  | false => rw [stepS_bad hm]; exact Nat.le_succ _
theorem foldl_len : ∀ (l : List (Int × ByteArray)) (z : Z), (l.foldl stepS z).1.length ≤ z.1.length + l.length
  | [], z => by simp
  | v :: l, z => by
    have h1 := stepS_len z v
    have h2 := foldl_len l (stepS z v)
    simp only [List.foldl_cons, List.length_cons]; omega
theorem stS_len (l : List (Int × ByteArray)) : (stS l).1.length ≤ l.length := by
  have := foldl_len l ([], (0, 0), 0)
  simpa [stS] using this

theorem may_pre {s : ByteArray} (h : s.size ≤ 1000000) : may.pre (s, ()) = true := by
  show (fits .str s && true) = true
  rw [str_fits h]; rfl
theorem words_pre {s : ByteArray} (h : s.size ≤ 10000) : words.pre (s, ()) = true := by
  show (fits .str s && (decide (s.size ≤ 10000) && true)) = true
  rw [str_fits (by omega), dec_t h]; rfl

theorem split_round (f : IC) (v : Int × ByteArray) (z : Z) (hv : v.2.size ≤ 4000) (h0 : 0 ≤ v.1) (h1 : v.1 ≤ 100000) (hl : z.1.length ≤ 100000) (k : Nat → St → R) :
    evalR split.cfg Try.f9.ntmps 64 (loopBody split.loop) ⟨asgT [(6, 14), (7, 15)] (parT [(14, .int .i64 v.1), (15, .string v.2)] (split.t f)), split.hs z.2.1.1 z.2.1.2 z.1, split.us⟩ (fun j σ' => keepK [1, 3, 5, 1537] split.L σ' (k j)) =
      k (stepS z v).2.2 ⟨ofList (.c .junk) [], split.hs (stepS z v).2.1.1 (stepS z v).2.1.2 (stepS z v).1, split.us⟩ := by
  have hlim : 1000000 ≤ lim 32 := by decide
  rw [split.round, test_true (may_pre (by omega)), w64 (n := v.1 + 1) (by omega) (by omega)]
  cases hm : mayB v.2 with
  | false => rw [stepS_bad hm, Bool.not_false, cond_true]; rfl
  | true =>
    rw [stepS_good hm, Bool.not_true, cond_false, test_true (words_pre (by omega))]
    by_cases hw : (wordsL v.2).length = 0
    · rw [if_pos hw, cond_df (by omega)]; rfl
    · rw [if_neg hw, cond_dt (by omega), test_d (by simp; omega)]; rfl

def splitP : List (Int × ByteArray) → List Ln → List Ln × Int × Int
  | [], out => (out, 0, 0)
  | v :: l, out => if mayB v.2 then splitP l (if (wordsL v.2).length = 0 then out else out ++ [(v.1 + 1, wordsL v.2)]) else ([], v.1 + 1, 2)

theorem splitP_G {s : ByteArray} {sep : Int} : ∀ (r i a n : Nat) (out : List Ln), splitP (runs s sep r i a n) out = splitG ((runs s sep r i a n).map (·.2)) n out
  | 0, i, a, n, out => rfl
  | r + 1, i, a, n, out => by
    unfold runs
    split
    · simp only [splitP, List.map_cons, splitG]
      rw [splitP_G r (i + 1) (i + 1) (n + 1)]
    · exact splitP_G r (i + 1) a n out

theorem splitP_may {v : Int × ByteArray} {l : List (Int × ByteArray)} {out : List Ln} (h : mayB v.2 = true) : splitP (v :: l) out = splitP l (if (wordsL v.2).length = 0 then out else out ++ [(v.1 + 1, wordsL v.2)]) := if_pos h
theorem splitP_not {v : Int × ByteArray} {l : List (Int × ByteArray)} {out : List Ln} (h : mayB v.2 = false) : splitP (v :: l) out = ([], v.1 + 1, 2) := if_neg (by rw [h]; exact Bool.false_ne_true)
theorem splitP_good : ∀ (l : List (Int × ByteArray)) (z : Z), (∀ v ∈ l, mayB v.2 = true) → splitP l z.1 = ((l.foldl stepS z).1, 0, 0)
  | [], z, _ => rfl
  | v :: l, z, h => by
    have hv := h v (List.mem_cons_self ..)
    have ih := splitP_good l (stepS z v) fun u hu => h u (List.mem_cons_of_mem _ hu)
    have e : (stepS z v).1 = if (wordsL v.2).length = 0 then z.1 else z.1 ++ [(v.1 + 1, wordsL v.2)] := by rw [stepS_good hv]
    rw [List.foldl_cons, splitP_may hv, ← ih, e]
theorem splitP_bad : ∀ (p : List (Int × ByteArray)) (v : Int × ByteArray) (t : List (Int × ByteArray)) (out : List Ln), (∀ u ∈ p, mayB u.2 = true) → mayB v.2 = false → splitP (p ++ v :: t) out = ([], v.1 + 1, 2)
  | [], v, t, out, _, h => splitP_not h
  | u :: p, v, t, out, hp, h => by
    rw [List.cons_append, splitP_may (hp u (List.mem_cons_self ..))]
    exact splitP_bad p v t _ (fun x hx => hp x (List.mem_cons_of_mem _ hx)) h

theorem went_may {l : List (Int × ByteArray)} (h : ∀ p v t, l = p ++ v :: t → (stS (p ++ [v])).2.2 = 0) : ∀ v ∈ l, mayB v.2 = true := fun v hv => by
  obtain ⟨p, t, rfl⟩ := List.append_of_mem hv
  have := h p v t rfl
  rw [stS_snoc] at this
  cases hm : mayB v.2 with
  | true => rfl
  | false => rw [stepS_bad hm] at this; cases this

theorem first_eq : ∀ {q p : List (Int × ByteArray)} {u v : Int × ByteArray} {x t : List (Int × ByteArray)}, (∀ a ∈ q, mayB a.2 = true) → mayB u.2 = false → (∀ a ∈ p, mayB a.2 = true) → mayB v.2 = false → q ++ ([u] ++ x) = p ++ v :: t → u = v
  | [], [], u, v, x, t, _, _, _, _, h => (List.cons.inj h).1
  | [], b :: p, u, v, x, t, _, hu, hp, _, h => by
    have e : u = b := (List.cons.inj h).1
    have := hp b (List.mem_cons_self ..)
    rw [← e, hu] at this; cases this
  | a :: q, [], u, v, x, t, hq, _, _, hv, h => by
    have e : a = v := (List.cons.inj h).1
    have := hq a (List.mem_cons_self ..)
    rw [e, hv] at this; cases this
  | a :: q, b :: p, u, v, x, t, hq, hu, hp, hv, h => first_eq (fun z hz => hq z (List.mem_cons_of_mem _ hz)) hu (fun z hz => hp z (List.mem_cons_of_mem _ hz)) hv (List.cons.inj h).2

theorem split_rfs : rfs split.body = [.rangeFunc (.tmp 13) #[14, 15] (loopAs split.loop) (loopBody split.loop)] := by kernel_rfl
theorem split_asg : asgOf (loopAs split.loop) = some [(6, 14), (7, 15)] := by kernel_rfl
theorem split_cfg : CfgOK Try.prog split.cfg := cfgOK_of mixed tab_ok (sp := split.specs) (runsC_ok.cons' (may_ok.cons' (words_ok.cons' .nil))) .nil

def splitIV (r : List Ln × Int × Int) : IV := if r.2.2 = 2 then .tup [.c (.v (.slice none 0 0)), vi .i64 r.2.1, vi .i64 2] else .tup [.c (.sl TLine r.1), vi .i64 r.2.1, vi .i64 r.2.2]

theorem tup_nil {P : Program} {g : FuncId} {args : List IV} {t : Ty} {b c : IV} (h : VE.Returns P g args (.tup [.c (.v (.slice none 0 0)), b, c])) : VE.Returns P g args (.tup [.c (.sl t []), b, c]) := by
  intro w us ok hok hl hus ha
  refine (h w us ok hok hl hus ha).mono ?_
  rintro e w' ⟨v, he, hb, hv⟩
  refine ⟨v, he, hb, ?_⟩
  cases hv with
  | tup us vs hs hel =>
    refine .tup us _ hs fun j d hj => ?_
    match j, hj with
    | 0, hj => cases hj; exact normArg_sound (o := some t) (hel 0 _ rfl)
    | 1, hj => cases hj; exact hel 1 _ rfl
    | 2, hj => cases hj; exact hel 2 _ rfl
    | j + 3, hj => simp at hj

theorem of_splitIV {g : FuncId} {args : List IV} {r : List Ln × Int × Int} (h : VE.Returns Try.prog g args (splitIV r)) (hr : r.2.2 = 2 → r.1 = []) : VE.Returns Try.prog g args (.tup [.c (.sl TLine r.1), vi .i64 r.2.1, vi .i64 r.2.2]) := by
  unfold splitIV at h
  by_cases h2 : r.2.2 = 2
  · rw [if_pos h2] at h
    rw [hr h2, h2]
    exact tup_nil h
  · rw [if_neg h2] at h
    exact h

theorem runs_mem {s : ByteArray} {sep : Int} {v : Int × ByteArray} (h : v ∈ runsL s sep) : 0 ≤ v.1 ∧ v.1 ≤ (s.size : Int) ∧ v.2.size ≤ s.size := by
  obtain ⟨j, hj⟩ := List.getElem?_of_mem h
  have h1 := runs_num _ _ _ _ _ _ hj
  have h2 := runs_length (s := s) (sep := sep) s.size 0 0 0
  have h3 : j < (runsL s sep).length := (List.getElem?_eq_some_iff.1 hj).1
  unfold runsL at h3
  exact ⟨by omega, by omega, runs_size _ _ _ _ v h⟩

theorem split_out {s : ByteArray} (hs : s.size ≤ 4000) : VE.Returns Try.prog 9 [.c (.v (.string s))] (splitIV (splitL s)) := by
  have hG : splitL s = splitP (runsL s 10) [] := by
    unfold splitL
    rw [if_neg (by omega)]
    exact (splitP_G s.size 0 0 0 []).symm
  have key : ∀ {r : IV}, (∀ (F : RFF) (pre : List { v : Int × ByteArray // v ∈ runsL s 10 }) (j : Nat),
      ((pre.map (·.1) = runsL s 10 ∧ j = 0 ∧ WentAll (fun pre => (stS (pre.map (·.1))).2.2) pre) ∨ (pre.map (·.1) <+: runsL s 10 ∧ (stS (pre.map (·.1))).2.2 ≠ 0 ∧ j = (stS (pre.map (·.1))).2.2 ∧ Went (fun pre => (stS (pre.map (·.1))).2.2) pre)) →
      kk split.cfg Try.f9 [1, 3, 5, 1537] split.L0 64 split.body F j ⟨split.t (.fn 28 [.snap [.v (.string s)] 0, .snap [.v (.int .u8 10)] 0]), split.hs (stS (pre.map (·.1))).2.1.1 (stS (pre.map (·.1))).2.1.2 (stS (pre.map (·.1))).1, split.us⟩ = some (r, [])) →
      VE.Returns Try.prog 9 [.c (.v (.string s))] r := fun h2 =>
    returns_of_range (cfg := split.cfg) (m := 64) split_cfg rfl Try.func9 (body_some (by kernel_rfl)) (Nat.le_of_ble_eq_true (by kernel_rfl)) split_rfs split_asg (by kernel_rfl)
      (σ0 := ⟨split.t (.fn 28 [.snap [.v (.string s)] 0, .snap [.v (.int .u8 10)] 0]), split.hs 0 0 [], split.us⟩) (L0 := split.L0) (L := split.L)
      rfl (runs_iter_in s 10 (by omega)) (call_enter Try.func28 (by kernel_rfl) (by kernel_rfl)) (fun _ => rfl) (fun _ u h => by
        rcases List.mem_cons.1 h with rfl | h
        · rfl
        · cases List.mem_singleton.1 h; rfl)
      (objV_ofList (objs := [1, 3, 5, 1537]) (by simp [objV, objC, objC0])) (fun pre => split.hs (stS (pre.map (·.1))).2.1.1 (stS (pre.map (·.1))).2.1.2 (stS (pre.map (·.1))).1) (fun _ => split.us) rfl rfl (fun _ => noMap_ofList rfl) (fun pre => (stS (pre.map (·.1))).2.2)
      (fun pre v hlen => ⟨ofList (.c .junk) [], 64, fun k => by
        have hm := runs_mem v.2
        have hl := stS_len (pre.map (·.1))
        have h3 := runs_length (s := s) (sep := 10) s.size 0 0 0
        have hlen : pre.length < (runs s 10 s.size 0 0 0).length := hlen
        rw [List.length_map] at hl
        have e : stS ((pre ++ [v]).map (·.1)) = stepS (stS (pre.map (·.1))) v.1 := by rw [List.map_append, List.map_singleton, stS_snoc]
        rw [e]
        generalize stS (pre.map (·.1)) = z at hl ⊢
        exact split_round _ v.1 z (by omega) hm.1 (by omega) (by omega) k⟩)
      (fun F => (split.pre1 s F).trans ((cond_df (by omega)).trans (test_true (runsC_pre (by omega)))))
      h2
  by_cases hgood : ∀ v ∈ runsL s 10, mayB v.2 = true
  · have e := splitP_good (runsL s 10) ([], (0, 0), 0) hgood
    rw [hG, e]
    refine key fun F pre j h => ?_
    rcases h with ⟨h1, rfl, _⟩ | ⟨h1, h2, rfl, _⟩
    · rw [h1]
      exact split.post0 _ _ _ _ F
    · exfalso
      apply h2
      rcases List.eq_nil_or_concat pre with rfl | ⟨p, v, rfl⟩
      · rfl
      · rw [List.concat_eq_append, List.map_append, List.map_singleton, stS_snoc, stepS_good (hgood v.1 v.2)]
  · have hex : ∃ v, v ∈ runsL s 10 ∧ mayB v.2 = false := Classical.byContradiction fun hno => hgood fun v hv => by
      cases hm : mayB v.2 with
      | true => rfl
      | false => exact absurd ⟨v, hv, hm⟩ hno
    -- the first one that may not be
    have first : ∀ l : List (Int × ByteArray), (∃ v, v ∈ l ∧ mayB v.2 = false) → ∃ p v t, l = p ++ v :: t ∧ (∀ u ∈ p, mayB u.2 = true) ∧ mayB v.2 = false := by
      intro l
      induction l with
      | nil => rintro ⟨v, hv, _⟩; cases hv
      | cons u l ih =>
        rintro ⟨v, hv, hm⟩
        cases hu : mayB u.2 with
        | false => exact ⟨[], u, l, rfl, fun _ h => (by cases h), hu⟩
        | true =>
          rcases List.mem_cons.1 hv with rfl | hv
          · rw [hu] at hm; cases hm
          · obtain ⟨p, x, t, e, h1, h2⟩ := ih ⟨v, hv, hm⟩
            exact ⟨u :: p, x, t, by rw [e]; rfl, fun y hy => (List.mem_cons.1 hy).elim (fun e => by rw [e]; exact hu) (h1 y), h2⟩
    obtain ⟨p, v, t, eL, hp, hv⟩ := first _ hex
    have e := splitP_bad p v t [] hp hv
    rw [hG, eL, e]
    show VE.Returns _ _ _ (.tup [.c (.v (.slice none 0 0)), vi .i64 (v.1 + 1), vi .i64 2])
    refine key fun F pre j h => ?_
    rcases h with ⟨h1, rfl, hw⟩ | ⟨h1, h2, rfl, hw⟩
    · exfalso
      have := went_may (l := pre.map (·.1)) (fun q u x hq => by
        obtain ⟨a, b, rfl, ha, hb⟩ := List.map_eq_append_iff.1 hq
        cases b with
        | nil => simp at hb
        | cons c b =>
          have hc : c.1 = u := by simp at hb; exact hb.1
          have := hw a c b rfl
          simp only [List.map_append, List.map_singleton, ha, hc] at this
          exact this) v (by rw [h1, eL]; simp)
      rw [this] at hv
      cases hv
    · rcases List.eq_nil_or_concat pre with rfl | ⟨q, u, rfl⟩
      · exact absurd rfl h2
      · have hq := went_may (l := q.map (·.1)) (fun a c b hq => by
          obtain ⟨a', b', rfl, ha, hb⟩ := List.map_eq_append_iff.1 hq
          cases b' with
          | nil => simp at hb
          | cons c' b' =>
            have hc : c'.1 = c := by simp at hb; exact hb.1
            have := hw a' c' (b' ++ [u]) (by simp) (by simp)
            simp only [List.map_append, List.map_singleton, ha, hc] at this
            exact this)
        rw [List.concat_eq_append, List.map_append, List.map_singleton, stS_snoc] at h2 ⊢
        have hu : mayB u.1.2 = false := by
          cases hm : mayB u.1.2 with
          | false => rfl
          | true =>
            rw [stepS_good hm] at h2
            exact absurd rfl h2
        have hvu : u.1 = v := by
          obtain ⟨x, hx⟩ := h1
          rw [List.concat_eq_append, List.map_append, List.map_singleton, List.append_assoc] at hx
          exact first_eq hq hu hp hv (hx.trans eL)
        have es : stepS (stS (q.map (·.1))) u.1 = ((stS (q.map (·.1))).1, (v.1 + 1, 2), 1) := by
          rw [stepS_bad hu, hvu]
        rw [es]
        exact split.post1 _ _ _ _ F

theorem splitG_nil : ∀ (l : List ByteArray) (i : Nat) (out : List Ln), (splitG l i out).2.2 = 2 → (splitG l i out).1 = []
  | [], i, out, h => by cases h
  | x :: l, i, out, h => by
    unfold splitG at h ⊢
    split
    · rename_i hm
      rw [if_pos hm] at h
      exact splitG_nil l (i + 1) _ h
    · rfl
theorem splitL_nil (s : ByteArray) (h : (splitL s).2.2 = 2) : (splitL s).1 = [] := by
  unfold splitL at h ⊢
  split
  · rfl
  · rename_i hs
    rw [if_neg hs] at h
    exact splitG_nil _ _ _ h

theorem split_ok : split.OK := split.mkR fun s hx => by
  refine of_splitIV ?_ (splitL_nil s)
  by_cases hs : s.size ≤ 4000
  · exact split_out hs
  · have e : splitL s = ([], 0, 2) := by unfold splitL; rw [if_pos (by omega)]
    rw [e]
    exact returns_of_direct (cfg := split.cfg) (m := 64) (L0 := split.L0) (objs := [1, 3, 5, 1537]) split_cfg rfl Try.func9 (body_some (by kernel_rfl)) (Nat.le_of_ble_eq_true (by kernel_rfl)) ((split.pre1 s _).trans (cond_dt (by omega)))

end Go.Proofs.Ytcjlebkfekfkbaa
