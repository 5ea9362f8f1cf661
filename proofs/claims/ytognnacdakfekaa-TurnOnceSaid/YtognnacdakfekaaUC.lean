/-
  Loops over iterators: what they answer.
-/
import Derived.Test.YtognnacdakfekaaUB
import Derived.Test.YtognnacdakfekaaUT
namespace Go.Proofs.Ytognnacdakfekaa
open Go VE

theorem turn_ok : turn.OK := turn.mkR fun n f _ => turn_returns n f
theorem times_ok : times.OK := times.mkR fun f s t _ => times_returns f s t
theorem runsC_ok : runsC.OK := runsC.mkR fun s b _ => runs_returns s b

/-- How a round of 'row' is left. -/
def rowJ (n : Int) (l : List Int) : Nat := if n ≤ (((l.dropLast).take n.toNat).length : Int) then 2 else 0

theorem row_round (f : IC) (n v : Int) (pre : List Int) (hn : n ≤ 1000000) (k : Nat → St → R) :
    evalR row.cfg Try.f8.ntmps 64 (loopBody row.loop) ⟨asgT [(6, 10)] (parT [(10, .int .i64 v)] (row.t f)), row.hs n (pre.take n.toNat), row.us⟩ (fun j σ' => keepK [1, 513] row.L σ' (k j)) =
      k (rowJ n (pre ++ [v])) ⟨ofList (.c .junk) [], row.hs n ((pre ++ [v]).take n.toNat), row.us⟩ := by
  rw [row.round]
  have e1 : rowJ n (pre ++ [v]) = if n ≤ ((pre.take n.toNat).length : Int) then 2 else 0 := by unfold rowJ; rw [List.dropLast_concat]
  rw [e1]
  by_cases h : n ≤ ((pre.take n.toNat).length : Int)
  · rw [cond_dt (show ((List.length (pre.take n.toNat)) : Int) ≥ n from h), if_pos h]
    have : (pre ++ [v]).take n.toNat = pre.take n.toNat := by
      rw [List.length_take] at h
      rw [List.take_append_of_le_length (by omega)]
    rw [this]
    rfl
  · have hl := h
    rw [List.length_take] at hl
    rw [cond_df (show ¬ ((List.length (pre.take n.toNat)) : Int) ≥ n from h), if_neg h]
    have h1 : pre.take n.toNat = pre := List.take_of_length_le (by omega)
    have h2 : (pre ++ [v]).take n.toNat = pre ++ [v] := List.take_of_length_le (by simp; omega)
    have hlim : 2000000 ≤ lim 8 := by decide
    rw [h1, h2, test_d (by simp; omega)]
    rfl

theorem rowJ_take {n : Int} {L pre : List Int} (hp : pre <+: L) (hj : rowJ n pre ≠ 0) : pre.take n.toNat = L.take n.toNat := by
  unfold rowJ at hj
  by_cases h : n ≤ (((pre.dropLast).take n.toNat).length : Int)
  · rw [List.length_take, List.length_dropLast] at h
    obtain ⟨t, rfl⟩ := hp
    rw [List.take_append_of_le_length (by omega)]
  · rw [if_neg h] at hj
    exact absurd rfl hj

theorem row_out {n : Int} {L pre : List Int} {j : Nat} {f : IC} (F : RFF) (h : (pre = L ∧ j = 0) ∨ (pre <+: L ∧ rowJ n pre ≠ 0 ∧ j = rowJ n pre)) :
    kk row.cfg Try.f8 [1, 513] row.L0 64 row.body F j ⟨row.t f, row.hs n (pre.take n.toNat), row.us⟩ = some (.c (.sl (.int .i64) (rowL L n)), []) := by
  rcases h with ⟨rfl, rfl⟩ | ⟨hp, hj, rfl⟩
  · rw [row.post0]; rfl
  · have h2 : rowJ n pre = 2 := by
      unfold rowJ at hj ⊢
      split at hj
      · rename_i h; rw [if_pos h]
      · exact absurd rfl hj
    rw [h2, row.post2, rowJ_take hp hj]
    rfl

theorem row_rfs : rfs row.body = [.rangeFunc (.tmp 9) #[10] (loopAs row.loop) (loopBody row.loop)] := by kernel_rfl
theorem row_asg : asgOf (loopAs row.loop) = some [(6, 10)] := by kernel_rfl
theorem row_cfg : CfgOK Try.prog row.cfg := cfgOK_of mixed tab_ok .nil .nil
theorem turn_live (f : IC) (hf : objC [1, 513] f = true) (i : Nat) : objV [1, 513] (row.t f i) = true :=
  objV_ofList (objs := [1, 513]) (by simp only [List.all_cons, List.all_nil, objV, hf]; rfl) i

theorem row_map (n : Int) (ys : List Int) : NoMap (row.hs n ys) := noMap_ofList rfl

theorem rowT_returns (a b n : Int) (ha : a ≤ 1000000) (hn : n ≤ 1000000) : VE.Returns Try.prog 8 [turnF a b, .c (.v (.int .i64 n))] (.c (.sl (.int .i64) (rowL (turnL a b) n))) :=
  returns_of_range (cfg := row.cfg) (m := 64) row_cfg rfl Try.func8 (body_some (by kernel_rfl)) (Nat.le_of_ble_eq_true (by kernel_rfl)) row_rfs row_asg (by kernel_rfl)
    (σ0 := ⟨row.t (.fn 14 [.snap [.v (.int .i64 a)] 0, .snap [.v (.int .i64 b)] 0]), row.hs n [], row.us⟩) (L0 := row.L0) (L := row.L)
    rfl (turn_iter a b ha) (call_enter Try.func14 (by kernel_rfl) (by kernel_rfl)) (fun _ => rfl) (fun _ _ h => by cases List.mem_singleton.1 h; rfl)
    (turn_live _ (by simp [objC, objC0])) (fun pre => row.hs n (pre.take n.toNat)) (fun _ => row.us) (by simp) rfl (fun _ => row_map _ _) (rowJ n)
    (fun pre v _ => ⟨_, 64, fun k => row_round _ n v pre hn k⟩) (fun F => row.preT a b n F) (fun F pre j h => row_out F h)

theorem rowS_returns (f s t n : Int) (hn : n ≤ 1000000) : VE.Returns Try.prog 8 [timesF f s t, .c (.v (.int .i64 n))] (.c (.sl (.int .i64) (rowL (timesL f s t) n))) :=
  returns_of_range (cfg := row.cfg) (m := 64) row_cfg rfl Try.func8 (body_some (by kernel_rfl)) (Nat.le_of_ble_eq_true (by kernel_rfl)) row_rfs row_asg (by kernel_rfl)
    (σ0 := ⟨row.t (.fn 16 [.snap [.v (.int .i64 s)] 0, .snap [.v (.int .i64 f)] 0, .snap [.v (.int .i64 t)] 0]), row.hs n [], row.us⟩) (L0 := row.L0) (L := row.L)
    rfl (times_iter s f t) (call_enter Try.func16 (by kernel_rfl) (by kernel_rfl)) (fun _ => rfl) (fun _ _ h => by cases List.mem_singleton.1 h; rfl)
    (turn_live _ (by simp [objC, objC0])) (fun pre => row.hs n (pre.take n.toNat)) (fun _ => row.us) (by simp) rfl (fun _ => row_map _ _) (rowJ n)
    (fun pre v _ => ⟨_, 64, fun k => row_round _ n v pre hn k⟩) (fun F => row.preS f s t n F) (fun F pre j h => row_out F h)

theorem rowT_ok : rowT.OK := rowT.mkR fun s n hx => by
  obtain ⟨a, b, u⟩ := s
  have h : (true && (true && (true && ((decide (a ≤ 1000000) && decide (n ≤ 1000000)) && true)))) = true := hx
  simp only [Bool.true_and, Bool.and_true, Bool.and_eq_true, decide_eq_true_eq] at h
  exact rowT_returns a b n h.1 h.2
theorem rowS_ok : rowS.OK := rowS.mkR fun s n hx => by
  obtain ⟨a, b, c, u⟩ := s
  have h : (true && (true && (true && (true && (decide (n ≤ 1000000) && true))))) = true := hx
  simp only [Bool.true_and, Bool.and_true, decide_eq_true_eq] at h
  exact rowS_returns b a c n h
theorem row_ok : SpecOK Try.prog 8 (orSp rowT.ps rowT.pre rowT.res rowS.sp) := SpecOK.or rowT_ok rowS_ok

/-! ### parts -/

def partsStep (z : List ByteArray × Nat) (v : Int × ByteArray) : List ByteArray × Nat := if v.1 ≠ (z.1.length : Int) ∨ 5000 < v.1 then (z.1, 1) else (z.1 ++ [v.2], 0)
def partsSt (pre : List (Int × ByteArray)) : List ByteArray × Nat := pre.foldl partsStep ([], 0)
theorem partsSt_snoc (pre : List (Int × ByteArray)) (v : Int × ByteArray) : partsSt (pre ++ [v]) = partsStep (partsSt pre) v := by simp [partsSt]

theorem foldl_snoc_ind {α β : Type} {f : β → α → β} {z : β} {p : List α → β → Prop} (h0 : p [] z) (hs : ∀ pre v y, p pre y → p (pre ++ [v]) (f y v)) (pre : List α) : p pre (pre.foldl f z) := by
  have key : ∀ (l pre0 : List α) (y : β), p pre0 y → p (pre0 ++ l) (l.foldl f y) := by
    intro l
    induction l with
    | nil => intro pre0 y h; simpa using h
    | cons v l ih =>
      intro pre0 y h
      have := ih (pre0 ++ [v]) (f y v) (hs _ _ _ h)
      simpa using this
  simpa using key pre [] z h0

/-- Each part has its number. -/
theorem runs_num {s : ByteArray} {sep : Int} : ∀ (r i a n j : Nat) (x : Int × ByteArray), (runs s sep r i a n)[j]? = some x → x.1 = ((n + j : Nat) : Int)
  | 0, i, a, n, j, x, h => by
    match j, h with
    | 0, h => cases h; rfl
    | j + 1, h => simp [runs] at h
  | r + 1, i, a, n, j, x, h => by
    unfold runs at h
    split at h
    · match j, h with
      | 0, h => cases h; rfl
      | j + 1, h =>
        have := runs_num r (i + 1) (i + 1) (n + 1) j x (by simpa using h)
        omega
    · exact runs_num r (i + 1) a n j x h
theorem runs_length {s : ByteArray} {sep : Int} : ∀ (r i a n : Nat), (runs s sep r i a n).length ≤ r + 1
  | 0, i, a, n => by simp [runs]
  | r + 1, i, a, n => by
    unfold runs
    split
    · have := runs_length (s := s) (sep := sep) r (i + 1) (i + 1) (n + 1)
      simp; omega
    · have := runs_length (s := s) (sep := sep) r (i + 1) a n
      omega

theorem partsSt_runs {L : List (Int × ByteArray)} (hL : ∀ (j : Nat) (x : Int × ByteArray), L[j]? = some x → x.1 = (j : Int)) (hl : L.length ≤ 5000) : ∀ pre, pre <+: L → partsSt pre = (pre.map (·.2), 0) := by
  intro pre
  refine foldl_snoc_ind (f := partsStep) (z := (([], 0) : List ByteArray × Nat)) (p := fun pre (y : List ByteArray × Nat) => pre <+: L → y = (pre.map (·.2), 0)) (fun _ => rfl) (fun pre v y h hp => ?_) pre
  have h1 : pre <+: L := (List.prefix_append _ _).trans hp
  rw [h h1]
  obtain ⟨t, ht⟩ := hp
  have hv : v.1 = (pre.length : Int) := hL pre.length v (by rw [← ht]; simp)
  have hlen : pre.length < L.length := by rw [← ht]; simp
  unfold partsStep
  rw [if_neg (by simp [hv]; omega)]
  simp

theorem parts_round (f : IC) (v : Int × ByteArray) (pre : List (Int × ByteArray)) (k : Nat → St → R) :
    evalR parts.cfg Try.f11.ntmps 64 (loopBody parts.loop) ⟨asgT [(7, 15), (8, 16)] (parT [(15, .int .i64 v.1), (16, .string v.2)] (parts.t f)), parts.hs (partsSt pre).1, parts.us⟩ (fun j σ' => keepK [1, 513] parts.L σ' (k j)) =
      k (partsSt (pre ++ [v])).2 ⟨ofList (.c .junk) [], parts.hs (partsSt (pre ++ [v])).1, parts.us⟩ := by
  rw [parts.round, partsSt_snoc]
  unfold partsStep
  by_cases h1 : v.1 = ((partsSt pre).1.length : Int)
  · rw [cond_f (by simp [h1])]
    by_cases h2 : 5000 < v.1
    · rw [cond_dt (show v.1 > 5000 from h2), if_pos (.inr h2)]
      rfl
    · have hlim : 2000000 ≤ lim 16 := by decide
      rw [cond_df (show ¬ v.1 > 5000 from h2), if_neg (by omega), test_d (by simp; omega)]
      rfl
  · rw [cond_t (by simp [h1]), if_pos (.inl h1)]
    rfl

theorem parts_rfs : rfs parts.body = [.rangeFunc (.tmp 14) #[15, 16] (loopAs parts.loop) (loopBody parts.loop)] := by kernel_rfl
theorem parts_asg : asgOf (loopAs parts.loop) = some [(7, 15), (8, 16)] := by kernel_rfl
theorem parts_cfg : CfgOK Try.prog parts.cfg := cfgOK_of mixed tab_ok (sp := parts.specs) (runsC_ok.cons' .nil) .nil

theorem runsL_num (s : ByteArray) (b : Int) (j : Nat) (x : Int × ByteArray) (h : (runsL s b)[j]? = some x) : x.1 = (j : Int) := by
  have := runs_num _ _ _ _ _ _ h
  simpa using this

theorem parts_returns (s : ByteArray) (b : Int) (hs : s.size ≤ 1000) : VE.Returns Try.prog 11 [.c (.v (.string s)), .c (.v (.int .u8 b))] (.c (.sl .str (partsL s b))) :=
  returns_of_range (cfg := parts.cfg) (m := 64) parts_cfg rfl Try.func11 (body_some (by kernel_rfl)) (Nat.le_of_ble_eq_true (by kernel_rfl)) parts_rfs parts_asg (by kernel_rfl)
    (σ0 := ⟨parts.t (.fn 17 [.snap [.v (.string s)] 0, .snap [.v (.int .u8 b)] 0]), parts.hs [], parts.us⟩) (L0 := parts.L0) (L := parts.L)
    rfl (runs_iter s b (by omega)) (call_enter Try.func17 (by kernel_rfl) (by kernel_rfl)) (fun _ => rfl) (fun _ u h => by
      rcases List.mem_cons.1 h with rfl | h
      · rfl
      · cases List.mem_singleton.1 h; rfl)
    (objV_ofList (objs := [1, 513]) (by simp [objV, objC, objC0])) (fun pre => parts.hs (partsSt pre).1) (fun _ => parts.us) rfl rfl (fun _ => noMap_ofList rfl) (fun pre => (partsSt pre).2)
    (fun pre v _ => ⟨_, 64, fun k => parts_round _ v pre k⟩)
    (fun F => (parts.pre1 s b F).trans (test_true (by
      show (fits .str s && (fits (.int .u8) b && true)) = true
      have : fits .str s = true := decide_eq_true (show s.size ≤ reachBytes by have : reachBytes = 140737488351232 := rfl; omega)
      rw [this]; rfl)))
    (fun F pre j h => by
      have hl := runs_length (s := s) (sep := b) s.size 0 0 0
      rcases h with ⟨rfl, rfl⟩ | ⟨hp, hj, rfl⟩
      · rw [partsSt_runs (runsL_num s b) (by unfold runsL; omega) _ List.prefix_rfl]; exact parts.post0 _ _ F
      · rw [partsSt_runs (runsL_num s b) (by unfold runsL; omega) _ hp] at hj
        exact absurd rfl hj)

theorem parts_ok : parts.OK := parts.mkR fun s b hx => by
  have h : (fits .str s && (true && (decide (s.size ≤ 1000) && true))) = true := hx
  simp only [Bool.true_and, Bool.and_true, Bool.and_eq_true, decide_eq_true_eq] at h
  exact parts_returns s b h.2

end Go.Proofs.Ytognnacdakfekaa
