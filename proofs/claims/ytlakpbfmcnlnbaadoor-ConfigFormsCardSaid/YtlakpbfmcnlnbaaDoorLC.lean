/-
  Loops over iterators: their steps (printed by a tool of mine).
-/
import Derived.Test.YtlakpbfmcnlnbaaDoorLB
import Derived.Test.YtlakpbfmcnlnbaaDoorVTx
import Derived.Test.YtlakpbfmcnlnbaaDoorLA
import Derived.Test.YtlakpbfmcnlnbaaDoorShelf
namespace Go.Proofs.YtlakpbfmcnlnbaaDoor
open Go VE

/-! ### triage/turn.Runs -/
abbrev runsC.ps : List AK := [.d false .str, .d false (.int .u8)]
def runsC.pre : ElA runsC.ps → Bool := fun (x : ByteArray × Int × Unit) => fits .str (x.1) && (fits (.int .u8) (x.2.1) && (true))
noncomputable def runsC.res : ElA runsC.ps → IV := fun (x : ByteArray × Int × Unit) => (fun s b => runsF s b) x.1 x.2.1
noncomputable def runsC.sp : ISpec := spOf runsC.ps runsC.pre runsC.res
abbrev runsC.OK : Prop := SpecOK Tryd.prog 36 runsC.sp
theorem runsC.mkR (H : ∀ (x0 : ByteArray) (x1 : Int), runsC.pre (x0, x1, ()) = true → VE.Returns Tryd.prog 36 (ivA runsC.ps (x0, x1, ())) (runsC.res (x0, x1, ()))) : SpecOK Tryd.prog 36 runsC.sp :=
  specOf_ret Tryd.func36 (by kernel_rfl) (by kernel_rfl) fun (x : ByteArray × Int × Unit) hx => H (x.1) (x.2.1) hx

/-! ### triage/lines.words -/
abbrev words.ps : List AK := [.d false .str]
def words.pre : ElA words.ps → Bool := fun (x : ByteArray × Unit) => fits .str (x.1) && ((fun s => decide (ByteArray.size s ≤ 10000)) x.1 && (true))
noncomputable def words.res : ElA words.ps → IV := fun (x : ByteArray × Unit) => (fun s => .c (.sl .str (wordsL s))) x.1
noncomputable def words.sp : ISpec := spOf words.ps words.pre words.res
abbrev words.OK : Prop := SpecOK Tryd.prog 38 words.sp
theorem words.mkR (H : ∀ (x0 : ByteArray), words.pre (x0, ()) = true → VE.Returns Tryd.prog 38 (ivA words.ps (x0, ())) (words.res (x0, ()))) : SpecOK Tryd.prog 38 words.sp :=
  specOf_ret Tryd.func38 (by kernel_rfl) (by kernel_rfl) fun (x : ByteArray × Unit) hx => H (x.1) hx

/-! ### triage/lines.Split -/
abbrev split.ps : List AK := [.d false .str]
def split.pre : ElA split.ps → Bool := fun (x : ByteArray × Unit) => fits .str (x.1) && ((fun s => decide (ByteArray.size s ≤ 1000000)) x.1 && (true))
noncomputable def split.res : ElA split.ps → IV := fun (x : ByteArray × Unit) => (fun s => .tup [.c (.sl TLine (splitL s).1), vi .i64 (splitL s).2.1, vi .i64 (splitL s).2.2]) x.1
noncomputable def split.sp : ISpec := spOf split.ps split.pre split.res
abbrev split.OK : Prop := SpecOK Tryd.prog 21 split.sp
theorem split.mkR (H : ∀ (x0 : ByteArray), split.pre (x0, ()) = true → VE.Returns Tryd.prog 21 (ivA split.ps (x0, ())) (split.res (x0, ()))) : SpecOK Tryd.prog 21 split.sp :=
  specOf_ret Tryd.func21 (by kernel_rfl) (by kernel_rfl) fun (x : ByteArray × Unit) hx => H (x.1) hx


noncomputable def words.body : Code := bodyOf Tryd.f38
noncomputable def words.loop : Code := (rfs words.body).headD .skip
def words.L0 : Live := ⟨[(3, .plain), (13, .plain)], [(513, [.arr 9 .str])]⟩
def words.L : Live := ⟨[], [(513, [.arr 9 .str])]⟩
noncomputable def words.specs : List (Nat × (List Bool × ISpec)) := [(36, ([], runsC.sp)), (45, ([], cut.sp))]
noncomputable def words.cfg : Cfg := ⟨lkp tab, lkp words.specs, lkp [], ⟨lkp [], [513], none, false, []⟩⟩
def words.t (f : IC) : Nat → IV := ofList (.c .junk) [(3, (.c (.ref 513 0))), (13, (.c f))]
def words.hs (ys : List ByteArray) : Nat → Option Box := ofList none [(513, some (.cells 34 [(.sref 193664)])), (193664, some (.arr 9 .str ys false))]
def words.us : Nat → Bool := ofList false [(513, true), (193664, true)]
noncomputable def split.body : Code := bodyOf Tryd.f21
noncomputable def split.loop : Code := (rfs split.body).headD .skip
def split.L0 : Live := ⟨[(2, .plain), (3, .plain), (4, .plain), (5, .plain), (13, .plain)], [(1, [.plain]), (3, [.plain]), (5, [.plain]), (1537, [.arr 45 (.prod (.int .i64) (.sl .str))])]⟩
def split.L : Live := ⟨[], [(1, [.plain]), (3, [.plain]), (5, [.plain]), (1537, [.arr 45 (.prod (.int .i64) (.sl .str))])]⟩
noncomputable def split.specs : List (Nat × (List Bool × ISpec)) := [(36, ([], runsC.sp)), (37, ([], may.sp)), (38, ([], words.sp))]
noncomputable def split.cfg : Cfg := ⟨lkp tab, lkp split.specs, lkp [], ⟨lkp [], [1, 3, 5, 1537], none, false, []⟩⟩
def split.t (f : IC) : Nat → IV := ofList (.c .junk) [(2, (.c (.ref 1 0))), (3, (.c (.ref 3 0))), (4, (.c (.ref 5 0))), (5, (.c (.ref 1537 0))), (13, (.c f))]
def split.hs (n e : Int) (ys : List Ln) : Nat → Option Box := ofList none [(1, some (.cells 40 [(.v (.slice none 0 0))])), (3, some (.cells 3 [(.v (.int .i64 n))])), (5, some (.cells 25 [(.v (.int .i64 e))])), (1537, some (.cells 40 [(.sref 324736)])), (324736, some (.arr 45 TLine ys false))]
def split.us : Nat → Bool := ofList false [(1, true), (3, true), (5, true), (1537, true), (324736, true)]

theorem words.pre1 (s : ByteArray) (F : RFF) : evalF words.cfg Tryd.f38.ntmps (rfF [513] words.L0 F) 64 words.body false (enter [.c (.v (.string s))]) (endF words.cfg Tryd.f38) =
  test (cut.pre (s, ((⟨#[35]⟩ : ByteArray), Unit.unit))) (
   test (runsC.pre ((cutA s), ((32 : Int), Unit.unit))) (
    F ⟨ofList (.c .junk) [(3, (.c (.ref 513 0))), (13, (.c (.fn 44 [(.snap [(.v (.string (cutA s)))] 0), (.snap [(.v (.int .u8 (32 : Int)))] 0)])))], ofList none [(513, some (.cells 34 [(.sref 193664)])), (193664, some (.arr 9 .str ([] : List ByteArray) false))], ofList false [(513, true), (193664, true)]⟩ (kk words.cfg Tryd.f38 [513] words.L0 64 words.body F))) := by kernel_rfl
theorem words.round (f : IC) (v : ByteArray) (i : Int) (ys : List ByteArray) (k : Nat → St → R) : evalR words.cfg Tryd.f38.ntmps 64 (loopBody words.loop) ⟨asgT [(5, 15)] (parT [(14, .int .i64 i), (15, .string v)] (words.t f)), words.hs ys, words.us⟩ (fun j σ' => keepK [513] words.L σ' (k j)) =
  cond (Bool.not ((ByteArray.toList v) == (ByteArray.toList (⟨#[]⟩ : ByteArray)))) (
   test (decide (((List.length ys) + (List.length (v :: ([] : List ByteArray)))) ≤ (lim 16))) (
    k 0 ⟨ofList (.c .junk) [], ofList none [(513, some (.cells 34 [(.sref 193664)])), (193664, some (.arr 9 .str (ys ++ (v :: ([] : List ByteArray))) false))], ofList false [(513, true), (193664, true)]⟩)) (
   k 0 ⟨ofList (.c .junk) [], ofList none [(513, some (.cells 34 [(.sref 193664)])), (193664, some (.arr 9 .str ys false))], ofList false [(513, true), (193664, true)]⟩) := by kernel_rfl
theorem words.post0 (f : IC) (ys : List ByteArray) (F : RFF) : kk words.cfg Tryd.f38 [513] words.L0 64 words.body F 0 ⟨words.t f, words.hs ys, words.us⟩ =
  some ((.c (.sl .str ys)), []) := by kernel_rfl
theorem split.pre1 (s : ByteArray) (F : RFF) : evalF split.cfg Tryd.f21.ntmps (rfF [1, 3, 5, 1537] split.L0 F) 64 split.body false (enter [.c (.v (.string s))]) (endF split.cfg Tryd.f21) =
  cond (decide (((ByteArray.size s) : Int) > (4000 : Int))) (
   some ((.tup [(.c (.v (.slice none 0 0))), (.c (.v (.int .i64 (0 : Int)))), (.c (.v (.int .i64 (2 : Int))))]), [])) (
   test (runsC.pre (s, ((10 : Int), Unit.unit))) (
    F ⟨ofList (.c .junk) [(2, (.c (.ref 1 0))), (3, (.c (.ref 3 0))), (4, (.c (.ref 5 0))), (5, (.c (.ref 1537 0))), (13, (.c (.fn 44 [(.snap [(.v (.string s))] 0), (.snap [(.v (.int .u8 (10 : Int)))] 0)])))], ofList none [(1, some (.cells 40 [(.v (.slice none 0 0))])), (3, some (.cells 3 [(.v (.int .i64 (0 : Int)))])), (5, some (.cells 25 [(.v (.int .i64 (0 : Int)))])), (1537, some (.cells 40 [(.sref 324736)])), (324736, some (.arr 45 (.prod (.int .i64) (.sl .str)) ([] : List (Int × (List ByteArray))) false))], ofList false [(1, true), (3, true), (5, true), (1537, true), (324736, true)]⟩ (kk split.cfg Tryd.f21 [1, 3, 5, 1537] split.L0 64 split.body F))) := by kernel_rfl
theorem split.round (f : IC) (i : Int) (v : ByteArray) (n e : Int) (ys : List Ln) (k : Nat → St → R) : evalR split.cfg Tryd.f21.ntmps 64 (loopBody split.loop) ⟨asgT [(6, 14), (7, 15)] (parT [(14, .int .i64 i), (15, .string v)] (split.t f)), split.hs n e ys, split.us⟩ (fun j σ' => keepK [1, 3, 5, 1537] split.L σ' (k j)) =
  test (may.pre (v, Unit.unit)) (
   cond (Bool.not (mayB v)) (
    k 1 ⟨ofList (.c .junk) [], ofList none [(1, some (.cells 40 [(.v (.slice none 0 0))])), (3, some (.cells 3 [(.v (.int .i64 (IntKind.i64.wrap (i + (1 : Int)))))])), (5, some (.cells 25 [(.v (.int .i64 (2 : Int)))])), (1537, some (.cells 40 [(.sref 324736)])), (324736, some (.arr 45 (.prod (.int .i64) (.sl .str)) ys false))], ofList false [(1, true), (3, true), (5, true), (1537, true), (324736, true)]⟩) (
    test (words.pre (v, Unit.unit)) (
     cond (decide (((List.length (wordsL v)) : Int) > (0 : Int))) (
      test (decide (((List.length ys) + (List.length (((IntKind.i64.wrap (i + (1 : Int))), (wordsL v)) :: ([] : List (Int × (List ByteArray)))))) ≤ (lim 32))) (
       k 0 ⟨ofList (.c .junk) [], ofList none [(1, some (.cells 40 [(.v (.slice none 0 0))])), (3, some (.cells 3 [(.v (.int .i64 n))])), (5, some (.cells 25 [(.v (.int .i64 e))])), (1537, some (.cells 40 [(.sref 324736)])), (324736, some (.arr 45 (.prod (.int .i64) (.sl .str)) (ys ++ (((IntKind.i64.wrap (i + (1 : Int))), (wordsL v)) :: ([] : List (Int × (List ByteArray))))) false))], ofList false [(1, true), (3, true), (5, true), (1537, true), (324736, true)]⟩)) (
      k 0 ⟨ofList (.c .junk) [], ofList none [(1, some (.cells 40 [(.v (.slice none 0 0))])), (3, some (.cells 3 [(.v (.int .i64 n))])), (5, some (.cells 25 [(.v (.int .i64 e))])), (1537, some (.cells 40 [(.sref 324736)])), (324736, some (.arr 45 (.prod (.int .i64) (.sl .str)) ys false))], ofList false [(1, true), (3, true), (5, true), (1537, true), (324736, true)]⟩)))) := by kernel_rfl
theorem split.post0 (f : IC) (n e : Int) (ys : List Ln) (F : RFF) : kk split.cfg Tryd.f21 [1, 3, 5, 1537] split.L0 64 split.body F 0 ⟨split.t f, split.hs n e ys, split.us⟩ =
  some ((.tup [(.c (.sl (.prod (.int .i64) (.sl .str)) ys)), (.c (.v (.int .i64 (0 : Int)))), (.c (.v (.int .i64 (0 : Int))))]), []) := by kernel_rfl
theorem split.post1 (f : IC) (n e : Int) (ys : List Ln) (F : RFF) : kk split.cfg Tryd.f21 [1, 3, 5, 1537] split.L0 64 split.body F 1 ⟨split.t f, split.hs n e ys, split.us⟩ =
  some ((.tup [(.c (.v (.slice none 0 0))), (.c (.v (.int .i64 n))), (.c (.v (.int .i64 e)))]), []) := by kernel_rfl

end Go.Proofs.YtlakpbfmcnlnbaaDoor
namespace Go.Proofs.YtlakpbfmcnlnbaaDoor
open Go VE

theorem runsC_ok : runsC.OK := runsC.mkR fun s b _ => runs_returns s b

/-! ### cut -/

theorem idxN_le (c : UInt8) : ∀ l, idxN c l ≤ l.length
  | [] => Nat.le_refl _
  | b :: l => by
    unfold idxN
    have := idxN_le c l
    split
    · exact Nat.zero_le _
    · simp; omega
theorem indexByte_idx (c : UInt8) : ∀ l, Lib.indexByte l c = if idxN c l < l.length then (idxN c l : Int) else -1
  | [] => rfl
  | b :: l => by
    have ih := indexByte_idx c l
    have hle := idxN_le c l
    unfold Lib.indexByte idxN
    by_cases h : b = c
    · rw [if_pos (by simpa using h), if_pos h, if_pos (by simp)]; rfl
    · rw [if_neg (by simpa using h), if_neg h, ih]
      by_cases h2 : idxN c l < l.length
      · rw [if_pos h2, if_neg (by simp <;> omega), if_pos (by simp <;> omega)]; omega
      · rw [if_neg h2, if_pos (by simp), if_neg (by simp <;> omega)]

theorem hash_le (s : ByteArray) : hashAt s ≤ s.size := by
  have := idxN_le 35 s.data.toList
  simpa [hashAt] using this
theorem index_lib (s : ByteArray) : Lib.indexByte s.data.toList 35 = indexB s := by
  rw [indexByte_idx]
  unfold indexB hashAt
  have : s.data.toList.length = s.size := by simp
  rw [this]

theorem index_ok : index.OK := index.mkR fun s c hx => by
  have h : (fits .str s && (fits .str c && (decide (c = hashB) && true))) = true := hx
  simp only [Bool.and_true, Bool.and_eq_true, decide_eq_true_eq] at h
  obtain ⟨_, _, rfl⟩ := h
  intro w us ok hok hl hus ha
  obtain ⟨u0, u1, rfl⟩ : ∃ u0 u1, us = #[u0, u1] := by
    obtain ⟨l⟩ := us
    match l, hus with
    | [u0, u1], _ => exact ⟨u0, u1, rfl⟩
  have h0 : u0 = .string s := (iv_v (ha 0 _ rfl)).1
  have h1 : u1 = .string hashB := (iv_v (ha 1 _ rfl)).1
  subst h0 h1
  refine (Tryd.stringslite_Index_one s 35 w).mono ?_
  rintro e w' ⟨rfl, rfl⟩
  rw [index_lib]
  exact ⟨_, rfl, Go.RowKit.Below.refl _ _, .c _ _ (.v _ rfl)⟩

theorem str_fits {s : ByteArray} (h : s.size ≤ 1000000) : fits .str s = true := decide_eq_true (show s.size ≤ reachBytes by have : reachBytes = 140737488351232 := rfl; omega)

theorem scut_ok : scut.OK := scut.mk (index_ok.cons' .nil) fun s c hx => ⟨1, by
  have h0 : (fits .str s && (fits .str c && (decide (c = hashB) && true))) = true := hx
  have h := h0
  simp only [Bool.and_true, Bool.and_eq_true, decide_eq_true_eq] at h
  obtain ⟨hs, _, rfl⟩ := h
  have hs : s.size ≤ reachBytes := of_decide_eq_true hs
  have hR : reachBytes = 140737488351232 := rfl
  have hle := hash_le s
  have hp : index.pre (s, (hashB, ())) = true := h0
  have hres : scut.res (s, hashB, ()) = .tup [vs (cutA s), vs (cutZ s), vb (cutF s)] := rfl
  rw [scut.start, test_true hp, hres]
  unfold cutA cutZ cutF indexB
  by_cases h : hashAt s < s.size
  · have e : IntKind.i64.wrap ((hashAt s : Int) + (ByteArray.size hashB : Int)) = ((hashAt s + 1 : Nat) : Int) := by
      rw [show (ByteArray.size hashB : Int) = 1 from rfl, w64s (by omega)]
    rw [if_pos h, if_pos h, cond_dt (by omega), test_d (by omega), test_d (by omega), e, test_d (by omega), test_d (by omega), toNat_cast, toNat_cast, dec_t h]
    rfl
  · have : s.extract 0 (hashAt s) = s := by
      rw [show hashAt s = s.size by omega]; exact ByteArray.extract_zero_size
    rw [if_neg h, if_neg h, cond_df (by omega), this, dec_f h]
    rfl⟩

theorem cut_ok : cut.OK := cut.mk (scut_ok.cons' .nil) fun s c hx => ⟨1, by
  have h0 : scut.pre (s, (c, ())) = true := hx
  rw [cut.start, test_true h0]; rfl⟩

/-! ### bytes that may be -/

theorem byte_lt (s : ByteArray) (n : Int) : 0 ≤ byteAt s n ∧ byteAt s n < 256 := by
  unfold byteAt
  have := (s.data.toList.getD n.toNat 0).toNat_lt
  omega

theorem may_loop {s : ByteArray} (hs : s.size ≤ 140737488351232) : ∀ (r i : Nat), i + r = s.size →
    may.l1 (r + 1) s (s.size : Int) (i : Int) = some (vb (allB (fun c => decide (32 ≤ c) && decide (c ≤ 126)) s r i && decide (s.size ≤ 200)), [])
  | 0, i, hi => by
    rw [may.s1, cond_df (by omega)]
    show some (vb (decide ((s.size : Int) ≤ 200)), _) = some (vb (true && decide (s.size ≤ 200)), _)
    rw [Bool.true_and]
    by_cases h : s.size ≤ 200
    · rw [dec_t h, dec_t (by omega)]
    · rw [dec_f h, dec_f (by omega)]
  | r + 1, i, hi => by
    have ih := may_loop hs r (i + 1) (by omega)
    rw [may.s1, cond_dt (by omega), test_d (by omega), test_d (by omega)]
    unfold allB
    by_cases h1 : byteAt s (i : Int) < 32
    · rw [cond_dt h1, dec_f (show ¬ 32 ≤ byteAt s (i : Int) by omega)]; rfl
    · rw [cond_df h1, test_d (by omega), test_d (by omega), dec_t (show 32 ≤ byteAt s (i : Int) by omega)]
      by_cases h2 : byteAt s (i : Int) > 126
      · rw [cond_dt h2, dec_f (show ¬ byteAt s (i : Int) ≤ 126 by omega)]; rfl
      · rw [cond_df h2, dec_t (show byteAt s (i : Int) ≤ 126 by omega), w64s (by omega), ih]; rfl

theorem fits_size {s : ByteArray} (h : fits .str s = true) : s.size ≤ 140737488351232 := of_decide_eq_true h

theorem may_ok : may.OK := may.mk .nil fun s hx => by
  have hs : s.size ≤ 140737488351232 := fits_size (Bool.and_eq_true_iff.1 hx).1
  refine ⟨s.size + 2, ?_⟩
  rw [may.start]
  exact may_loop hs s.size 0 (by omega)

/-! ### numbers -/

theorem beq_nil {s : ByteArray} : (ByteArray.toList s == ByteArray.toList (⟨#[]⟩ : ByteArray)) = decide (s.size = 0) := by
  have e : ∀ a : ByteArray, ByteArray.toList a = a.data.toList := fun a => ByteArray.toList_eq a
  rw [e, e]
  have : s.size = s.data.toList.length := by simp
  rw [this]
  cases s.data.toList <;> simp

theorem num_step {x : Int} {s : ByteArray} {i : Nat} (h0 : 0 ≤ x) (h1 : x < 100000000000) (h2 : ¬ byteAt s (i : Int) < 48) (h3 : ¬ byteAt s (i : Int) > 57) :
    IntKind.i64.wrap ((IntKind.i64.wrap (x * (10 : Int))) + (IntKind.i64.wrap (IntKind.u8.wrap ((byteAt s (i : Int)) - (48 : Int))))) = x * 10 + (byteAt s (i : Int) - 48) := by
  have hu : ∀ n : Int, IntKind.u8.wrap n = n % 256 := fun n => by simp [IntKind.wrap, IntKind.bits, IntKind.signed]
  rw [hu, w64 (n := x * 10) (by omega) (by omega), Int.emod_eq_of_lt (by omega) (by omega), w64 (n := byteAt s (i : Int) - 48) (by omega) (by omega), w64 (by omega) (by omega)]

def numEnd (o : Option Int) : IV := .tup [vi .i64 (match o with | some n => if 1000000 < n then (0, false) else (n, true) | none => (0, false) : Int × Bool).1, vb (match o with | some n => if 1000000 < n then (0, false) else (n, true) | none => (0, false) : Int × Bool).2]

theorem pow10 : ∀ i : Nat, i ≤ 7 → (10 : Int) ^ i ≤ 10000000
  | 0, _ => by decide
  | 1, _ => by decide
  | 2, _ => by decide
  | 3, _ => by decide
  | 4, _ => by decide
  | 5, _ => by decide
  | 6, _ => by decide
  | 7, _ => by decide
  | n + 8, h => by omega

theorem number_loop {s : ByteArray} (hs : s.size ≤ 7) : ∀ (r i : Nat) (x : Int), i + r = s.size → 0 ≤ x → x < 10 ^ i →
    number.l1 (r + 1) s x (s.size : Int) (i : Int) = some (numEnd (numG s r i x), [])
  | 0, i, x, hi, h0, h1 => by
    rw [number.s1, cond_df (by omega)]
    unfold numG numEnd
    by_cases h : x > 1000000
    · rw [cond_dt h]; simp only [if_pos h]; rfl
    · rw [cond_df h]; simp only [if_neg h]; rfl
  | r + 1, i, x, hi, h0, h1 => by
    have hb := byte_lt s (i : Int)
    have hx := pow10 i (by omega)
    rw [number.s1, cond_dt (by omega), test_d (by omega), test_d (by omega)]
    unfold numG
    by_cases h2 : byteAt s (i : Int) < 48
    · rw [cond_dt h2, if_pos (.inl h2)]; rfl
    · rw [cond_df h2, test_d (by omega), test_d (by omega)]
      by_cases h3 : byteAt s (i : Int) > 57
      · rw [cond_dt h3, if_pos (.inr h3)]; rfl
      · rw [cond_df h3, if_neg (by omega), test_d (by omega), test_d (by omega), num_step h0 (by omega) h2 h3, w64s (by omega)]
        refine number_loop hs r (i + 1) _ (by omega) (by omega) ?_
        rw [Int.pow_succ]; omega

theorem numberR_loop {s : ByteArray} (hs : s.size ≤ 7) : ∀ (r i : Nat) (x : Int), i + r = s.size → 0 ≤ x → x < 10 ^ i →
    numberR.l1 (r + 1) s x (s.size : Int) (i : Int) = some (numEnd (numG s r i x), [])
  | 0, i, x, hi, h0, h1 => by
    rw [numberR.s1, cond_df (by omega)]
    unfold numG numEnd
    by_cases h : x > 1000000
    · rw [cond_dt h]; simp only [if_pos h]; rfl
    · rw [cond_df h]; simp only [if_neg h]; rfl
  | r + 1, i, x, hi, h0, h1 => by
    have hb := byte_lt s (i : Int)
    have hx := pow10 i (by omega)
    rw [numberR.s1, cond_dt (by omega), test_d (by omega), test_d (by omega)]
    unfold numG
    by_cases h2 : byteAt s (i : Int) < 48
    · rw [cond_dt h2, if_pos (.inl h2)]; rfl
    · rw [cond_df h2, test_d (by omega), test_d (by omega)]
      by_cases h3 : byteAt s (i : Int) > 57
      · rw [cond_dt h3, if_pos (.inr h3)]; rfl
      · rw [cond_df h3, if_neg (by omega), test_d (by omega), test_d (by omega), num_step h0 (by omega) h2 h3, w64s (by omega)]
        refine numberR_loop hs r (i + 1) _ (by omega) (by omega) ?_
        rw [Int.pow_succ]; omega

theorem numB_bad {s : ByteArray} (h : s.size < 1 ∨ 7 < s.size ∨ (1 < s.size ∧ byteAt s 0 = 48)) : numB s = (0, false) := by unfold numB; rw [if_pos h]
theorem numB_good {s : ByteArray} (h : ¬ (s.size < 1 ∨ 7 < s.size ∨ (1 < s.size ∧ byteAt s 0 = 48))) : numEnd (numG s s.size 0 0) = .tup [vi .i64 (numB s).1, vb (numB s).2] := by unfold numB numEnd; rw [if_neg h]; rfl

theorem number_ok : number.OK := number.mk .nil fun s hx => by
  have hres : number.res (s, ()) = .tup [vi .i64 (numB s).1, vb (numB s).2] := rfl
  refine ⟨s.size + 2, ?_⟩
  rw [number.start, hres, beq_nil]
  by_cases h1 : s.size = 0
  · rw [cond_dt h1, numB_bad (by omega)]; rfl
  rw [cond_df h1]
  by_cases h2 : (s.size : Int) > 7
  · rw [cond_dt h2, numB_bad (by omega)]; rfl
  rw [cond_df h2]
  by_cases h3 : (s.size : Int) > 1
  · rw [cond_dt h3, test_d (by omega)]
    by_cases h4 : byteAt s 0 = 48
    · rw [cond_et h4, numB_bad (.inr (.inr ⟨by omega, h4⟩))]; rfl
    · rw [cond_ef h4, ← numB_good (by omega)]
      exact number_loop (by omega) s.size 0 0 (by omega) (by omega) (by decide)
  · rw [cond_df h3, ← numB_good (by omega)]
    exact number_loop (by omega) s.size 0 0 (by omega) (by omega) (by decide)

theorem numberR_ok : numberR.OK := numberR.mk .nil fun s hx => by
  have hres : numberR.res (s, ()) = .tup [vi .i64 (numB s).1, vb (numB s).2] := rfl
  refine ⟨s.size + 2, ?_⟩
  rw [numberR.start, hres]
  by_cases h1 : (s.size : Int) < 1
  · rw [cond_dt h1, numB_bad (by omega)]; rfl
  rw [cond_df h1]
  by_cases h2 : (s.size : Int) > 7
  · rw [cond_dt h2, numB_bad (by omega)]; rfl
  rw [cond_df h2]
  by_cases h3 : (s.size : Int) > 1
  · rw [cond_dt h3, test_d (by omega)]
    by_cases h4 : byteAt s 0 = 48
    · rw [cond_et h4, numB_bad (.inr (.inr ⟨by omega, h4⟩))]; rfl
    · rw [cond_ef h4, ← numB_good (by omega)]
      exact numberR_loop (by omega) s.size 0 0 (by omega) (by omega) (by decide)
  · rw [cond_df h3, ← numB_good (by omega)]
    exact numberR_loop (by omega) s.size 0 0 (by omega) (by omega) (by decide)

/-! ### names -/

/-- What the test of one byte comes to. -/
theorem name_test (c : Int) (A B : R) :
    cond (decide (c < 97)) (cond (decide (c < 48)) (cond (bne c 45) (cond (bne c 46) B A) A) (cond (decide (c > 57)) (cond (bne c 45) (cond (bne c 46) B A) A) A))
      (cond (decide (c > 122)) (cond (decide (c < 48)) (cond (bne c 45) (cond (bne c 46) B A) A) (cond (decide (c > 57)) (cond (bne c 45) (cond (bne c 46) B A) A) A)) A) = cond (nameC c) A B := by
  unfold nameC
  by_cases h1 : c < 97
  · rw [cond_dt h1, dec_f (show ¬ 97 ≤ c by omega)]
    by_cases h2 : c < 48
    · rw [cond_dt h2, dec_f (show ¬ 48 ≤ c by omega)]
      by_cases h3 : c = 45
      · subst h3; rfl
      by_cases h4 : c = 46
      · subst h4; rfl
      rw [cond_t (by simpa using h3), cond_t (by simpa using h4)]
      have e3 : (c == 45) = false := by simpa using h3
      have e4 : (c == 46) = false := by simpa using h4
      rw [e3, e4]; rfl
    · rw [cond_df h2, dec_t (show 48 ≤ c by omega)]
      by_cases h5 : c > 57
      · rw [cond_dt h5, dec_f (show ¬ c ≤ 57 by omega), cond_t (by simp; omega), cond_t (by simp; omega)]
        have e3 : (c == 45) = false := by simp; omega
        have e4 : (c == 46) = false := by simp; omega
        rw [e3, e4]; rfl
      · rw [cond_df h5, dec_t (show c ≤ 57 by omega)]; rfl
  · rw [cond_df h1, dec_t (show 97 ≤ c by omega)]
    by_cases h2 : c > 122
    · rw [cond_dt h2, dec_f (show ¬ c ≤ 122 by omega), cond_df (by omega), cond_dt (by omega), cond_t (by simp; omega), cond_t (by simp; omega), dec_f (show ¬ c ≤ 57 by omega)]
      have e3 : (c == 45) = false := by simp; omega
      have e4 : (c == 46) = false := by simp; omega
      rw [e3, e4]
      cases decide (48 ≤ c) <;> rfl
    · rw [cond_df h2, dec_t (show c ≤ 122 by omega)]; rfl

theorem nameW_loop {s : ByteArray} (hs : s.size ≤ 140737488351232) : ∀ (r i : Nat), i + r = s.size →
    nameW.l1 (r + 1) s (s.size : Int) (i : Int) = some (vb (allB nameC s r i && (decide (1 ≤ s.size) && (decide (s.size ≤ 12) && !(ByteArray.toList s == ByteArray.toList dashB)))), [])
  | 0, i, hi => by
    rw [nameW.s1, cond_df (by omega)]
    unfold allB
    by_cases h1 : 1 ≤ s.size
    · rw [cond_dt (by omega), dec_t h1]
      by_cases h2 : s.size ≤ 12
      · rw [cond_dt (by omega), dec_t h2]; rfl
      · rw [cond_df (by omega), dec_f h2]; rfl
    · rw [cond_df (by omega), dec_f h1]; rfl
  | r + 1, i, hi => by
    have ih := nameW_loop hs r (i + 1) (by omega)
    rw [nameW.s1, cond_dt (by omega), test_d (by omega), test_d (by omega), w64s (by omega)]
    refine (name_test _ _ _).trans ?_
    unfold allB
    cases nameC (byteAt s (i : Int)) with
    | true => rw [cond_true, ih]; rfl
    | false => rfl

theorem nameW_ok : nameW.OK := nameW.mk .nil fun s hx => by
  have hs : s.size ≤ 140737488351232 := fits_size (Bool.and_eq_true_iff.1 hx).1
  refine ⟨s.size + 2, ?_⟩
  rw [nameW.start]
  exact nameW_loop hs s.size 0 (by omega)

theorem wordR_loop {s : ByteArray} (hs : s.size ≤ 140737488351232) : ∀ (r i : Nat), i + r = s.size →
    wordR.l1 (r + 1) s (s.size : Int) (i : Int) = some (vb (allB nameC s r i), [])
  | 0, i, hi => by
    rw [wordR.s1, cond_df (by omega)]; rfl
  | r + 1, i, hi => by
    have ih := wordR_loop hs r (i + 1) (by omega)
    rw [wordR.s1, cond_dt (by omega), test_d (by omega), test_d (by omega), w64s (by omega)]
    refine (name_test _ _ _).trans ?_
    unfold allB
    cases nameC (byteAt s (i : Int)) with
    | true => rw [cond_true, ih]; rfl
    | false => rfl

theorem wordR_ok : wordR.OK := wordR.mk .nil fun s hx => by
  have hs : s.size ≤ 140737488351232 := fits_size (Bool.and_eq_true_iff.1 hx).1
  have hres : wordR.res (s, ()) = vb (nameB s) := rfl
  refine ⟨s.size + 2, ?_⟩
  rw [wordR.start, hres]
  unfold nameB
  by_cases h1 : (s.size : Int) < 1
  · rw [cond_dt h1, dec_f (show ¬ 1 ≤ s.size by omega), Bool.false_and, Bool.and_false]; rfl
  rw [cond_df h1, dec_t (show 1 ≤ s.size by omega), Bool.true_and]
  by_cases h2 : (s.size : Int) > 12
  · rw [cond_dt h2, dec_f (show ¬ s.size ≤ 12 by omega), Bool.false_and, Bool.and_false]; rfl
  rw [cond_df h2, dec_t (show s.size ≤ 12 by omega), Bool.true_and]
  have e : (ByteArray.toList s == ByteArray.toList (⟨#[45]⟩ : ByteArray)) = (ByteArray.toList s == ByteArray.toList dashB) := rfl
  rw [e]
  cases ByteArray.toList s == ByteArray.toList dashB with
  | true => rw [cond_true, Bool.not_true, Bool.and_false]; rfl
  | false =>
    rw [cond_false, Bool.not_false, Bool.and_true]
    exact wordR_loop hs s.size 0 (by omega)

/-! ### parts -/

theorem partsR_loop {s : ByteArray} {b : Int} (hs : s.size ≤ 10000) : ∀ (r i a n : Nat) (out : List ByteArray), i + r = s.size → a ≤ i → out.length ≤ i →
    partsR.l1 (r + 1) s b (a : Int) (s.size : Int) (i : Int) out = some (.c (.sl .str (out ++ (runs s b r i a n).map (·.2))), [])
  | 0, i, a, n, out, hi, ha, ho => by
    have hlim : 1000000 ≤ lim 16 := by decide
    rw [partsR.s1, cond_df (by omega), test_d (by omega), test_d (by omega), test_d (by simp; omega), toNat_cast]
    rfl
  | r + 1, i, a, n, out, hi, ha, ho => by
    have hlim : 1000000 ≤ lim 16 := by decide
    rw [partsR.s1, cond_dt (by omega), test_d (by omega), test_d (by omega)]
    unfold runs
    by_cases hb : byteAt s (i : Int) = b
    · have ih := partsR_loop (b := b) hs r (i + 1) (i + 1) (n + 1) (out ++ [s.extract a i]) (by omega) (by omega) (by simp; omega)
      rw [cond_t (by simpa using hb), test_d (by omega), test_d (by omega), test_d (by omega), test_d (by omega), test_d (by simp; omega), w64s (by omega), toNat_cast, toNat_cast, if_pos hb]
      refine ih.trans ?_
      simp
    · have ih := partsR_loop (b := b) hs r (i + 1) a n out (by omega) (by omega) (by omega)
      rw [cond_f (by simpa using hb), w64s (by omega), if_neg hb]
      exact ih

theorem partsR_ok : partsR.OK := partsR.mk .nil fun s b hx => by
  have h : (fits .str s && (true && (decide (s.size ≤ 10000) && true))) = true := hx
  simp only [Bool.true_and, Bool.and_true, Bool.and_eq_true, decide_eq_true_eq] at h
  refine ⟨s.size + 2, ?_⟩
  rw [partsR.start]
  exact partsR_loop h.2 s.size 0 0 0 [] (by omega) (by omega) (by simp)

end Go.Proofs.YtlakpbfmcnlnbaaDoor
namespace Go.Proofs.YtlakpbfmcnlnbaaDoor
open Go VE

/-- Each part has its number. -/
theorem runs_num {s : ByteArray} {sep : Int} : ∀ (r i a n j : Nat) (x : Int × ByteArray), (runs s sep r i a n)[j]? = some x → x.1 = ((n + j : Nat) : Int)
  | 0, i, a, n, j, x, h => by
    match j, h with
    | 0, h => cases h; rfl
    | j + 1, h => simp [runs] at h
  | r + 1, i, a, n, j, x, h => by
    unfold runs at h
    split at h
    · match j, h with
      | 0, h => cases h; rfl
      | j + 1, h =>
        have := runs_num r (i + 1) (i + 1) (n + 1) j x (by simpa using h)
        omega
    · exact runs_num r (i + 1) a n j x h
theorem runs_length {s : ByteArray} {sep : Int} : ∀ (r i a n : Nat), (runs s sep r i a n).length ≤ r + 1
  | 0, i, a, n => by simp [runs]
  | r + 1, i, a, n => by
    unfold runs
    split
    · have := runs_length (s := s) (sep := sep) r (i + 1) (i + 1) (n + 1)
      simp; omega
    · have := runs_length (s := s) (sep := sep) r (i + 1) a n
      omega
theorem runs_size {s : ByteArray} {sep : Int} : ∀ (r i a n : Nat) (x : Int × ByteArray), x ∈ runs s sep r i a n → x.2.size ≤ s.size
  | 0, i, a, n, x, h => by
    cases List.mem_singleton.1 h
    rw [ByteArray.size_extract]; omega
  | r + 1, i, a, n, x, h => by
    unfold runs at h
    split at h
    · rcases List.mem_cons.1 h with rfl | h
      · rw [ByteArray.size_extract]; omega
      · exact runs_size r _ _ _ x h
    · exact runs_size r _ _ _ x h

/-! ### words -/

def wordsF (pre : List (Int × ByteArray)) : List ByteArray := (pre.map (·.2)).filter fun w => !(ByteArray.toList w == ByteArray.toList ⟨#[]⟩)

theorem wordsF_len (pre : List (Int × ByteArray)) : (wordsF pre).length ≤ pre.length := by
  have := List.length_filter_le (fun w => !(ByteArray.toList w == ByteArray.toList (⟨#[]⟩ : ByteArray))) (pre.map (·.2))
  rw [List.length_map] at this
  exact this

theorem words_round (f : IC) (v : Int × ByteArray) (pre : List (Int × ByteArray)) (hl : pre.length ≤ 100000) (k : Nat → St → R) :
    evalR words.cfg Tryd.f38.ntmps 64 (loopBody words.loop) ⟨asgT [(5, 15)] (parT [(14, .int .i64 v.1), (15, .string v.2)] (words.t f)), words.hs (wordsF pre), words.us⟩ (fun j σ' => keepK [513] words.L σ' (k j)) =
      k 0 ⟨ofList (.c .junk) [], words.hs (wordsF (pre ++ [v])), words.us⟩ := by
  rw [words.round]
  have hlen := wordsF_len pre
  have hlim : 1000000 ≤ lim 16 := by decide
  have e : wordsF (pre ++ [v]) = wordsF pre ++ ([v.2].filter fun w => !(ByteArray.toList w == ByteArray.toList ⟨#[]⟩)) := by simp [wordsF]
  rw [e]
  cases h : !(ByteArray.toList v.2 == ByteArray.toList (⟨#[]⟩ : ByteArray)) with
  | true =>
    have h2 : [v.2].filter (fun w => !(ByteArray.toList w == ByteArray.toList (⟨#[]⟩ : ByteArray))) = [v.2] := by simp only [List.filter, h]
    rw [cond_true, h2, test_d (by simp; omega)]; rfl
  | false =>
    have h2 : [v.2].filter (fun w => !(ByteArray.toList w == ByteArray.toList (⟨#[]⟩ : ByteArray))) = [] := by simp only [List.filter, h]
    rw [cond_false, h2, List.append_nil]; rfl

theorem words_rfs : rfs words.body = [.rangeFunc (.tmp 13) #[14, 15] (loopAs words.loop) (loopBody words.loop)] := by kernel_rfl
theorem words_asg : asgOf (loopAs words.loop) = some [(5, 15)] := by kernel_rfl
theorem words_cfg : CfgOK Tryd.prog words.cfg := cfgOK_of mixed tab_ok (sp := words.specs) (runsC_ok.cons' (cut_ok.cons' .nil)) .nil

theorem cutA_size (s : ByteArray) : (cutA s).size ≤ s.size := by
  unfold cutA
  rw [ByteArray.size_extract]; omega

theorem runsC_pre {s : ByteArray} {b : Int} (h : s.size ≤ 1000000) : runsC.pre (s, b, ()) = true := by
  show (fits .str s && (true && true)) = true
  rw [str_fits h]; rfl
theorem cut_pre {s : ByteArray} (h : s.size ≤ 1000000) : cut.pre (s, hashB, ()) = true := by
  show (fits .str s && (fits .str hashB && (decide (hashB = hashB) && true))) = true
  rw [str_fits h, str_fits (s := hashB) (by decide), dec_t rfl]; rfl

theorem words_returns (s : ByteArray) (hs : s.size ≤ 10000) : VE.Returns Tryd.prog 38 [.c (.v (.string s))] (.c (.sl .str (wordsL s))) :=
  returns_of_range (cfg := words.cfg) (m := 64) words_cfg rfl Tryd.func38 (body_some (by kernel_rfl)) (Nat.le_of_ble_eq_true (by kernel_rfl)) words_rfs words_asg (by kernel_rfl)
    (σ0 := ⟨words.t (.fn 44 [.snap [.v (.string (cutA s))] 0, .snap [.v (.int .u8 32)] 0]), words.hs [], words.us⟩) (L0 := words.L0) (L := words.L)
    rfl (runs_iter (cutA s) 32 (by have := cutA_size s; omega)) (call_enter Tryd.func44 (by kernel_rfl) (by kernel_rfl)) (fun _ => rfl) (fun _ u h => by
      rcases List.mem_cons.1 h with rfl | h
      · rfl
      · cases List.mem_singleton.1 h; rfl)
    (objV_ofList (objs := [513]) (by simp [objV, objC, objC0])) (fun pre => words.hs (wordsF pre)) (fun _ => words.us) rfl rfl (fun _ => noMap_ofList rfl) (fun _ => 0)
    (fun pre v hlen => ⟨_, 64, fun k => words_round _ v pre (by
      have := runs_length (s := cutA s) (sep := 32) (cutA s).size 0 0 0
      have := cutA_size s
      unfold runsL at hlen; omega) k⟩)
    (fun F => (words.pre1 s F).trans ((test_true (cut_pre (by omega))).trans (test_true (runsC_pre (by have := cutA_size s; omega)))))
    (fun F pre j h => by
      rcases h with ⟨rfl, rfl, _⟩ | ⟨_, hj, _⟩
      · exact words.post0 _ _ F
      · exact absurd rfl hj)

theorem words_ok : words.OK := words.mkR fun s hx => by
  have h : (fits .str s && (decide (s.size ≤ 10000) && true)) = true := hx
  simp only [Bool.and_true, Bool.and_eq_true, decide_eq_true_eq] at h
  exact words_returns s h.2

/-! ### lines -/

abbrev Z : Type := List Ln × (Int × Int) × Nat
def stepS (z : Z) (v : Int × ByteArray) : Z :=
  if mayB v.2 then (if (wordsL v.2).length = 0 then z.1 else z.1 ++ [(v.1 + 1, wordsL v.2)], z.2.1, 0) else (z.1, (v.1 + 1, 2), 1)
def stS (l : List (Int × ByteArray)) : Z := l.foldl stepS ([], (0, 0), 0)
theorem stS_snoc (l : List (Int × ByteArray)) (v : Int × ByteArray) : stS (l ++ [v]) = stepS (stS l) v := by simp [stS]
theorem stepS_good {z : Z} {v : Int × ByteArray} (h : mayB v.2 = true) : stepS z v = (if (wordsL v.2).length = 0 then z.1 else z.1 ++ [(v.1 + 1, wordsL v.2)], z.2.1, 0) := if_pos h
theorem stepS_bad {z : Z} {v : Int × ByteArray} (h : mayB v.2 = false) : stepS z v = (z.1, (v.1 + 1, 2), 1) := if_neg (by rw [h]; exact Bool.false_ne_true)
theorem stepS_len (z : Z) (v : Int × ByteArray) : (stepS z v).1.length ≤ z.1.length + 1 := by
  cases hm : mayB v.2 with
  | true =>
    rw [stepS_good hm]
    by_cases hw : (wordsL v.2).length = 0
    · rw [if_pos hw]; exact Nat.le_succ _
    · rw [if_neg hw, List.length_append]; exact Nat.le_refl _
  | false => rw [stepS_bad hm]; exact Nat.le_succ _
theorem foldl_len : ∀ (l : List (Int × ByteArray)) (z : Z), (l.foldl stepS z).1.length ≤ z.1.length + l.length
  | [], z => by simp
  | v :: l, z => by
    have h1 := stepS_len z v
    have h2 := foldl_len l (stepS z v)
    simp only [List.foldl_cons, List.length_cons]; omega
theorem stS_len (l : List (Int × ByteArray)) : (stS l).1.length ≤ l.length := by
  have := foldl_len l ([], (0, 0), 0)
  simpa [stS] using this

theorem may_pre {s : ByteArray} (h : s.size ≤ 1000000) : may.pre (s, ()) = true := by
  show (fits .str s && true) = true
  rw [str_fits h]; rfl
theorem words_pre {s : ByteArray} (h : s.size ≤ 10000) : words.pre (s, ()) = true := by
  show (fits .str s && (decide (s.size ≤ 10000) && true)) = true
  rw [str_fits (by omega), dec_t h]; rfl

theorem split_round (f : IC) (v : Int × ByteArray) (z : Z) (hv : v.2.size ≤ 4000) (h0 : 0 ≤ v.1) (h1 : v.1 ≤ 100000) (hl : z.1.length ≤ 100000) (k : Nat → St → R) :
    evalR split.cfg Tryd.f21.ntmps 64 (loopBody split.loop) ⟨asgT [(6, 14), (7, 15)] (parT [(14, .int .i64 v.1), (15, .string v.2)] (split.t f)), split.hs z.2.1.1 z.2.1.2 z.1, split.us⟩ (fun j σ' => keepK [1, 3, 5, 1537] split.L σ' (k j)) =
      k (stepS z v).2.2 ⟨ofList (.c .junk) [], split.hs (stepS z v).2.1.1 (stepS z v).2.1.2 (stepS z v).1, split.us⟩ := by
  have hlim : 1000000 ≤ lim 32 := by decide
  rw [split.round, test_true (may_pre (by omega)), w64 (n := v.1 + 1) (by omega) (by omega)]
  cases hm : mayB v.2 with
  | false => rw [stepS_bad hm, Bool.not_false, cond_true]; rfl
  | true =>
    rw [stepS_good hm, Bool.not_true, cond_false, test_true (words_pre (by omega))]
    by_cases hw : (wordsL v.2).length = 0
    · rw [if_pos hw, cond_df (by omega)]; rfl
    · rw [if_neg hw, cond_dt (by omega), test_d (by simp; omega)]; rfl

def splitP : List (Int × ByteArray) → List Ln → List Ln × Int × Int
  | [], out => (out, 0, 0)
  | v :: l, out => if mayB v.2 then splitP l (if (wordsL v.2).length = 0 then out else out ++ [(v.1 + 1, wordsL v.2)]) else ([], v.1 + 1, 2)

theorem splitP_G {s : ByteArray} {sep : Int} : ∀ (r i a n : Nat) (out : List Ln), splitP (runs s sep r i a n) out = splitG ((runs s sep r i a n).map (·.2)) n out
  | 0, i, a, n, out => rfl
  | r + 1, i, a, n, out => by
    unfold runs
    split
    · simp only [splitP, List.map_cons, splitG]
      rw [splitP_G r (i + 1) (i + 1) (n + 1)]
    · exact splitP_G r (i + 1) a n out

theorem splitP_may {v : Int × ByteArray} {l : List (Int × ByteArray)} {out : List Ln} (h : mayB v.2 = true) : splitP (v :: l) out = splitP l (if (wordsL v.2).length = 0 then out else out ++ [(v.1 + 1, wordsL v.2)]) := if_pos h
theorem splitP_not {v : Int × ByteArray} {l : List (Int × ByteArray)} {out : List Ln} (h : mayB v.2 = false) : splitP (v :: l) out = ([], v.1 + 1, 2) := if_neg (by rw [h]; exact Bool.false_ne_true)
theorem splitP_good : ∀ (l : List (Int × ByteArray)) (z : Z), (∀ v ∈ l, mayB v.2 = true) → splitP l z.1 = ((l.foldl stepS z).1, 0, 0)
  | [], z, _ => rfl
  | v :: l, z, h => by
    have hv := h v (List.mem_cons_self ..)
    have ih := splitP_good l (stepS z v) fun u hu => h u (List.mem_cons_of_mem _ hu)
    have e : (stepS z v).1 = if (wordsL v.2).length = 0 then z.1 else z.1 ++ [(v.1 + 1, wordsL v.2)] := by rw [stepS_good hv]
    rw [List.foldl_cons, splitP_may hv, ← ih, e]
theorem splitP_bad : ∀ (p : List (Int × ByteArray)) (v : Int × ByteArray) (t : List (Int × ByteArray)) (out : List Ln), (∀ u ∈ p, mayB u.2 = true) → mayB v.2 = false → splitP (p ++ v :: t) out = ([], v.1 + 1, 2)
  | [], v, t, out, _, h => splitP_not h
  | u :: p, v, t, out, hp, h => by
    rw [List.cons_append, splitP_may (hp u (List.mem_cons_self ..))]
    exact splitP_bad p v t _ (fun x hx => hp x (List.mem_cons_of_mem _ hx)) h

theorem went_may {l : List (Int × ByteArray)} (h : ∀ p v t, l = p ++ v :: t → (stS (p ++ [v])).2.2 = 0) : ∀ v ∈ l, mayB v.2 = true := fun v hv => by
  obtain ⟨p, t, rfl⟩ := List.append_of_mem hv
  have := h p v t rfl
  rw [stS_snoc] at this
  cases hm : mayB v.2 with
  | true => rfl
  | false => rw [stepS_bad hm] at this; cases this

theorem first_eq : ∀ {q p : List (Int × ByteArray)} {u v : Int × ByteArray} {x t : List (Int × ByteArray)}, (∀ a ∈ q, mayB a.2 = true) → mayB u.2 = false → (∀ a ∈ p, mayB a.2 = true) → mayB v.2 = false → q ++ ([u] ++ x) = p ++ v :: t → u = v
  | [], [], u, v, x, t, _, _, _, _, h => (List.cons.inj h).1
  | [], b :: p, u, v, x, t, _, hu, hp, _, h => by
    have e : u = b := (List.cons.inj h).1
    have := hp b (List.mem_cons_self ..)
    rw [← e, hu] at this; cases this
  | a :: q, [], u, v, x, t, hq, _, _, hv, h => by
    have e : a = v := (List.cons.inj h).1
    have := hq a (List.mem_cons_self ..)
    rw [e, hv] at this; cases this
  | a :: q, b :: p, u, v, x, t, hq, hu, hp, hv, h => first_eq (fun z hz => hq z (List.mem_cons_of_mem _ hz)) hu (fun z hz => hp z (List.mem_cons_of_mem _ hz)) hv (List.cons.inj h).2

theorem split_rfs : rfs split.body = [.rangeFunc (.tmp 13) #[14, 15] (loopAs split.loop) (loopBody split.loop)] := by kernel_rfl
theorem split_asg : asgOf (loopAs split.loop) = some [(6, 14), (7, 15)] := by kernel_rfl
theorem split_cfg : CfgOK Tryd.prog split.cfg := cfgOK_of mixed tab_ok (sp := split.specs) (runsC_ok.cons' (may_ok.cons' (words_ok.cons' .nil))) .nil

def splitIV (r : List Ln × Int × Int) : IV := if r.2.2 = 2 then .tup [.c (.v (.slice none 0 0)), vi .i64 r.2.1, vi .i64 2] else .tup [.c (.sl TLine r.1), vi .i64 r.2.1, vi .i64 r.2.2]

theorem tup_nil {P : Program} {g : FuncId} {args : List IV} {t : Ty} {b c : IV} (h : VE.Returns P g args (.tup [.c (.v (.slice none 0 0)), b, c])) : VE.Returns P g args (.tup [.c (.sl t []), b, c]) := by
  intro w us ok hok hl hus ha
  refine (h w us ok hok hl hus ha).mono ?_
  rintro e w' ⟨v, he, hb, hv⟩
  refine ⟨v, he, hb, ?_⟩
  cases hv with
  | tup us vs hs hel =>
    refine .tup us _ hs fun j d hj => ?_
    match j, hj with
    | 0, hj => cases hj; exact normArg_sound (o := some t) (hel 0 _ rfl)
    | 1, hj => cases hj; exact hel 1 _ rfl
    | 2, hj => cases hj; exact hel 2 _ rfl
    | j + 3, hj => simp at hj

theorem of_splitIV {g : FuncId} {args : List IV} {r : List Ln × Int × Int} (h : VE.Returns Tryd.prog g args (splitIV r)) (hr : r.2.2 = 2 → r.1 = []) : VE.Returns Tryd.prog g args (.tup [.c (.sl TLine r.1), vi .i64 r.2.1, vi .i64 r.2.2]) := by
  unfold splitIV at h
  by_cases h2 : r.2.2 = 2
  · rw [if_pos h2] at h
    rw [hr h2, h2]
    exact tup_nil h
  · rw [if_neg h2] at h
    exact h

theorem runs_mem {s : ByteArray} {sep : Int} {v : Int × ByteArray} (h : v ∈ runsL s sep) : 0 ≤ v.1 ∧ v.1 ≤ (s.size : Int) ∧ v.2.size ≤ s.size := by
  obtain ⟨j, hj⟩ := List.getElem?_of_mem h
  have h1 := runs_num _ _ _ _ _ _ hj
  have h2 := runs_length (s := s) (sep := sep) s.size 0 0 0
  have h3 : j < (runsL s sep).length := (List.getElem?_eq_some_iff.1 hj).1
  unfold runsL at h3
  exact ⟨by omega, by omega, runs_size _ _ _ _ v h⟩

theorem split_out {s : ByteArray} (hs : s.size ≤ 4000) : VE.Returns Tryd.prog 21 [.c (.v (.string s))] (splitIV (splitL s)) := by
  have hG : splitL s = splitP (runsL s 10) [] := by
    unfold splitL
    rw [if_neg (by omega)]
    exact (splitP_G s.size 0 0 0 []).symm
  have key : ∀ {r : IV}, (∀ (F : RFF) (pre : List { v : Int × ByteArray // v ∈ runsL s 10 }) (j : Nat),
      ((pre.map (·.1) = runsL s 10 ∧ j = 0 ∧ WentAll (fun pre => (stS (pre.map (·.1))).2.2) pre) ∨ (pre.map (·.1) <+: runsL s 10 ∧ (stS (pre.map (·.1))).2.2 ≠ 0 ∧ j = (stS (pre.map (·.1))).2.2 ∧ Went (fun pre => (stS (pre.map (·.1))).2.2) pre)) →
      kk split.cfg Tryd.f21 [1, 3, 5, 1537] split.L0 64 split.body F j ⟨split.t (.fn 44 [.snap [.v (.string s)] 0, .snap [.v (.int .u8 10)] 0]), split.hs (stS (pre.map (·.1))).2.1.1 (stS (pre.map (·.1))).2.1.2 (stS (pre.map (·.1))).1, split.us⟩ = some (r, [])) →
      VE.Returns Tryd.prog 21 [.c (.v (.string s))] r := fun h2 =>
    returns_of_range (cfg := split.cfg) (m := 64) split_cfg rfl Tryd.func21 (body_some (by kernel_rfl)) (Nat.le_of_ble_eq_true (by kernel_rfl)) split_rfs split_asg (by kernel_rfl)
      (σ0 := ⟨split.t (.fn 44 [.snap [.v (.string s)] 0, .snap [.v (.int .u8 10)] 0]), split.hs 0 0 [], split.us⟩) (L0 := split.L0) (L := split.L)
      rfl (runs_iter_in s 10 (by omega)) (call_enter Tryd.func44 (by kernel_rfl) (by kernel_rfl)) (fun _ => rfl) (fun _ u h => by
        rcases List.mem_cons.1 h with rfl | h
        · rfl
        · cases List.mem_singleton.1 h; rfl)
      (objV_ofList (objs := [1, 3, 5, 1537]) (by simp [objV, objC, objC0])) (fun pre => split.hs (stS (pre.map (·.1))).2.1.1 (stS (pre.map (·.1))).2.1.2 (stS (pre.map (·.1))).1) (fun _ => split.us) rfl rfl (fun _ => noMap_ofList rfl) (fun pre => (stS (pre.map (·.1))).2.2)
      (fun pre v hlen => ⟨ofList (.c .junk) [], 64, fun k => by
        have hm := runs_mem v.2
        have hl := stS_len (pre.map (·.1))
        have h3 := runs_length (s := s) (sep := 10) s.size 0 0 0
        have hlen : pre.length < (runs s 10 s.size 0 0 0).length := hlen
        rw [List.length_map] at hl
        have e : stS ((pre ++ [v]).map (·.1)) = stepS (stS (pre.map (·.1))) v.1 := by rw [List.map_append, List.map_singleton, stS_snoc]
        rw [e]
        generalize stS (pre.map (·.1)) = z at hl ⊢
        exact split_round _ v.1 z (by omega) hm.1 (by omega) (by omega) k⟩)
      (fun F => (split.pre1 s F).trans ((cond_df (by omega)).trans (test_true (runsC_pre (by omega)))))
      h2
  by_cases hgood : ∀ v ∈ runsL s 10, mayB v.2 = true
  · have e := splitP_good (runsL s 10) ([], (0, 0), 0) hgood
    rw [hG, e]
    refine key fun F pre j h => ?_
    rcases h with ⟨h1, rfl, _⟩ | ⟨h1, h2, rfl, _⟩
    · rw [h1]
      exact split.post0 _ _ _ _ F
    · exfalso
      apply h2
      rcases List.eq_nil_or_concat pre with rfl | ⟨p, v, rfl⟩
      · rfl
      · rw [List.concat_eq_append, List.map_append, List.map_singleton, stS_snoc, stepS_good (hgood v.1 v.2)]
  · have hex : ∃ v, v ∈ runsL s 10 ∧ mayB v.2 = false := Classical.byContradiction fun hno => hgood fun v hv => by
      cases hm : mayB v.2 with
      | true => rfl
      | false => exact absurd ⟨v, hv, hm⟩ hno
    -- the first one that may not be
    have first : ∀ l : List (Int × ByteArray), (∃ v, v ∈ l ∧ mayB v.2 = false) → ∃ p v t, l = p ++ v :: t ∧ (∀ u ∈ p, mayB u.2 = true) ∧ mayB v.2 = false := by
      intro l
      induction l with
      | nil => rintro ⟨v, hv, _⟩; cases hv
      | cons u l ih =>
        rintro ⟨v, hv, hm⟩
        cases hu : mayB u.2 with
        | false => exact ⟨[], u, l, rfl, fun _ h => (by cases h), hu⟩
        | true =>
          rcases List.mem_cons.1 hv with rfl | hv
          · rw [hu] at hm; cases hm
          · obtain ⟨p, x, t, e, h1, h2⟩ := ih ⟨v, hv, hm⟩
            exact ⟨u :: p, x, t, by rw [e]; rfl, fun y hy => (List.mem_cons.1 hy).elim (fun e => by rw [e]; exact hu) (h1 y), h2⟩
    obtain ⟨p, v, t, eL, hp, hv⟩ := first _ hex
    have e := splitP_bad p v t [] hp hv
    rw [hG, eL, e]
    show VE.Returns _ _ _ (.tup [.c (.v (.slice none 0 0)), vi .i64 (v.1 + 1), vi .i64 2])
    refine key fun F pre j h => ?_
    rcases h with ⟨h1, rfl, hw⟩ | ⟨h1, h2, rfl, hw⟩
    · exfalso
      have := went_may (l := pre.map (·.1)) (fun q u x hq => by
        obtain ⟨a, b, rfl, ha, hb⟩ := List.map_eq_append_iff.1 hq
        cases b with
        | nil => simp at hb
        | cons c b =>
          have hc : c.1 = u := by simp at hb; exact hb.1
          have := hw a c b rfl
          simp only [List.map_append, List.map_singleton, ha, hc] at this
          exact this) v (by rw [h1, eL]; simp)
      rw [this] at hv
      cases hv
    · rcases List.eq_nil_or_concat pre with rfl | ⟨q, u, rfl⟩
      · exact absurd rfl h2
      · have hq := went_may (l := q.map (·.1)) (fun a c b hq => by
          obtain ⟨a', b', rfl, ha, hb⟩ := List.map_eq_append_iff.1 hq
          cases b' with
          | nil => simp at hb
          | cons c' b' =>
            have hc : c'.1 = c := by simp at hb; exact hb.1
            have := hw a' c' (b' ++ [u]) (by simp) (by simp)
            simp only [List.map_append, List.map_singleton, ha, hc] at this
            exact this)
        rw [List.concat_eq_append, List.map_append, List.map_singleton, stS_snoc] at h2 ⊢
        have hu : mayB u.1.2 = false := by
          cases hm : mayB u.1.2 with
          | false => rfl
          | true =>
            rw [stepS_good hm] at h2
            exact absurd rfl h2
        have hvu : u.1 = v := by
          obtain ⟨x, hx⟩ := h1
          rw [List.concat_eq_append, List.map_append, List.map_singleton, List.append_assoc] at hx
          exact first_eq hq hu hp hv (hx.trans eL)
        have es : stepS (stS (q.map (·.1))) u.1 = ((stS (q.map (·.1))).1, (v.1 + 1, 2), 1) := by
          rw [stepS_bad hu, hvu]
        rw [es]
        exact split.post1 _ _ _ _ F

theorem splitG_nil : ∀ (l : List ByteArray) (i : Nat) (out : List Ln), (splitG l i out).2.2 = 2 → (splitG l i out).1 = []
  | [], i, out, h => by cases h
  | x :: l, i, out, h => by
    unfold splitG at h ⊢
    split
    · rename_i hm
      rw [if_pos hm] at h
      exact splitG_nil l (i + 1) _ h
    · rfl
theorem splitL_nil (s : ByteArray) (h : (splitL s).2.2 = 2) : (splitL s).1 = [] := by
  unfold splitL at h ⊢
  split
  · rfl
  · rename_i hs
    rw [if_neg hs] at h
    exact splitG_nil _ _ _ h

theorem split_ok : split.OK := split.mkR fun s hx => by
  refine of_splitIV ?_ (splitL_nil s)
  by_cases hs : s.size ≤ 4000
  · exact split_out hs
  · have e : splitL s = ([], 0, 2) := by unfold splitL; rw [if_pos (by omega)]
    rw [e]
    exact returns_of_direct (cfg := split.cfg) (m := 64) (L0 := split.L0) (objs := [1, 3, 5, 1537]) split_cfg rfl Tryd.func21 (body_some (by kernel_rfl)) (Nat.le_of_ble_eq_true (by kernel_rfl)) ((split.pre1 s _).trans (cond_dt (by omega)))

end Go.Proofs.YtlakpbfmcnlnbaaDoor
namespace Go.Proofs.YtlakpbfmcnlnbaaDoor
open Go VE

abbrev bs (s : ByteArray) : List UInt8 := s.data.toList
def mk (l : List UInt8) : ByteArray := ⟨l.toArray⟩
theorem mk_bs (s : ByteArray) : mk (bs s) = s := by
  cases s; simp [mk]
theorem bs_mk (l : List UInt8) : bs (mk l) = l := by simp [mk]
theorem bs_append (a b : ByteArray) : bs (a ++ b) = bs a ++ bs b := ByteArray.toList_data_append
theorem mk_append (a b : List UInt8) : mk a ++ mk b = mk (a ++ b) := by
  rw [← mk_bs (mk a ++ mk b), bs_append, bs_mk, bs_mk]
theorem bs_length (s : ByteArray) : (bs s).length = s.size := by simp
theorem mk_size (l : List UInt8) : (mk l).size = l.length := by rw [← bs_length, bs_mk]
theorem bs_extract (s : ByteArray) (a b : Nat) : bs (s.extract a b) = ((bs s).take b).drop a := by
  show (s.extract a b).data.toList = _
  rw [ByteArray.data_extract, Array.toList_extract, List.extract_eq_take_drop, List.drop_take]
theorem toList_bs (s : ByteArray) : ByteArray.toList s = bs s := ByteArray.toList_eq s
theorem byteAt_bs (s : ByteArray) (i : Nat) : byteAt s (i : Int) = (((bs s).getD i 0).toNat : Int) := by
  unfold byteAt
  rw [toNat_cast]

/-- A text's parts. -/
def spl (c : Int) : List UInt8 → List (List UInt8)
  | [] => [[]]
  | b :: l => if (b.toNat : Int) = c then [] :: spl c l else (match spl c l with | x :: r => (b :: x) :: r | [] => [[b]])

theorem spl_cons (c : Int) : ∀ l, ∃ x r, spl c l = x :: r
  | [] => ⟨[], [], rfl⟩
  | b :: l => by
    obtain ⟨x, r, h⟩ := spl_cons c l
    unfold spl
    split
    · exact ⟨_, _, rfl⟩
    · rw [h]; exact ⟨_, _, rfl⟩
theorem spl_sep {c : Int} {b : UInt8} {l : List UInt8} (h : (b.toNat : Int) = c) : spl c (b :: l) = [] :: spl c l := by rw [spl, if_pos h]
theorem spl_on {c : Int} {b : UInt8} {l x : List UInt8} {r : List (List UInt8)} (h : ¬ (b.toNat : Int) = c) (hs : spl c l = x :: r) : spl c (b :: l) = (b :: x) :: r := by rw [spl, if_neg h, hs]

/-- A piece without the separator goes ahead of the first part. -/
theorem spl_front {c : Int} : ∀ {a l x : List UInt8} {r : List (List UInt8)}, (∀ b ∈ a, ¬ (b.toNat : Int) = c) → spl c l = x :: r → spl c (a ++ l) = (a ++ x) :: r
  | [], l, x, r, _, h => h
  | b :: a, l, x, r, hb, h => spl_on (hb b (List.mem_cons_self ..)) (spl_front (fun z hz => hb z (List.mem_cons_of_mem _ hz)) h)
theorem spl_none {c : Int} {a : List UInt8} (h : ∀ b ∈ a, ¬ (b.toNat : Int) = c) : spl c a = [a] := by
  have := spl_front (l := []) h (show spl c [] = [] :: [] from rfl)
  simpa using this
theorem spl_app {c : Int} {a l : List UInt8} {b : UInt8} (h : ∀ b ∈ a, ¬ (b.toNat : Int) = c) (hb : (b.toNat : Int) = c) : spl c (a ++ b :: l) = a :: spl c l := by
  have := spl_front (l := b :: l) h (spl_sep hb)
  simpa using this

theorem runs_spl {s : ByteArray} {c : Int} : ∀ (r i a n : Nat) (x : List UInt8) (t : List (List UInt8)), i + r = s.size → a ≤ i → spl c ((bs s).drop i) = x :: t →
    (runs s c r i a n).map (fun v => bs v.2) = (((bs s).take i).drop a ++ x) :: t
  | 0, i, a, n, x, t, hi, ha, h => by
    have hl := bs_length s
    rw [List.drop_eq_nil_of_le (by omega)] at h
    cases h
    show [bs (s.extract a s.size)] = _
    rw [bs_extract, List.append_nil, show s.size = i by omega]
  | r + 1, i, a, n, x, t, hi, ha, h => by
    have hl := bs_length s
    have hlt : i < (bs s).length := by omega
    have hd : (bs s).drop i = (bs s)[i] :: (bs s).drop (i + 1) := List.drop_eq_getElem_cons hlt
    have hb : byteAt s (i : Int) = (((bs s)[i]).toNat : Int) := by rw [byteAt_bs, List.getD_eq_getElem?_getD, List.getElem?_eq_getElem hlt]; rfl
    rw [hd] at h
    obtain ⟨y, t', hy⟩ := spl_cons c ((bs s).drop (i + 1))
    unfold runs
    by_cases hc : byteAt s (i : Int) = c
    · rw [if_pos hc, List.map_cons]
      rw [spl_sep (by rw [← hb]; exact hc), hy] at h
      obtain ⟨rfl, rfl⟩ := List.cons.inj h
      have ih := runs_spl (s := s) (c := c) r (i + 1) (i + 1) (n + 1) y t' (by omega) (Nat.le_refl _) hy
      rw [ih, bs_extract]
      have : ((bs s).take (i + 1)).drop (i + 1) = [] := List.drop_eq_nil_of_le (by rw [List.length_take]; omega)
      rw [this]; simp
    · rw [if_neg hc]
      rw [spl_on (by rw [← hb]; exact hc) hy] at h
      obtain ⟨rfl, rfl⟩ := List.cons.inj h
      have ih := runs_spl (s := s) (c := c) r (i + 1) a n y t' (by omega) (by omega) hy
      rw [ih]
      have : ((bs s).take (i + 1)).drop a = ((bs s).take i).drop a ++ [(bs s)[i]] := by
        rw [List.take_add_one, List.getElem?_eq_getElem hlt, List.drop_append_of_le_length (by rw [List.length_take]; omega)]
        rfl
      rw [this, List.append_assoc]; rfl

theorem partsL_eq (s : ByteArray) (c : Int) : partsL s c = (spl c (bs s)).map mk := by
  obtain ⟨x, t, h⟩ := spl_cons c (bs s)
  have := runs_spl (s := s) (c := c) s.size 0 0 0 x t (by omega) (Nat.le_refl _) (by simpa using h)
  have e : (partsL s c).map bs = spl c (bs s) := by
    unfold partsL runsL
    rw [List.map_map, h]
    refine Eq.trans ?_ (this.trans (by simp))
    rfl
  rw [← e, List.map_map]
  have : (mk ∘ bs) = id := by funext z; exact mk_bs z
  rw [this, List.map_id]

/-! ### words -/

theorem idxN_take (c : UInt8) : ∀ l : List UInt8, l.take (idxN c l) = l.takeWhile (· != c)
  | [] => rfl
  | b :: l => by
    unfold idxN
    by_cases h : b = c
    · rw [if_pos h]; simp [h]
    · have : (b != c) = true := by simpa using h
      rw [if_neg h, List.takeWhile_cons, this, List.take_succ_cons, idxN_take c l]; rfl
theorem bs_cutA (s : ByteArray) : bs (cutA s) = (bs s).takeWhile (· != 35) := by
  unfold cutA hashAt
  rw [bs_extract, List.drop_zero, idxN_take]

/-- A line's words. -/
def wl (l : List UInt8) : List (List UInt8) := (spl 32 (l.takeWhile (· != 35))).filter fun x => !x.isEmpty
theorem wordsL_eq (s : ByteArray) : wordsL s = (wl (bs s)).map mk := by
  unfold wordsL wl
  rw [partsL_eq, bs_cutA, List.filter_map]
  congr 1
  congr 1
  funext x
  show (!(ByteArray.toList (mk x) == ByteArray.toList (⟨#[]⟩ : ByteArray))) = !x.isEmpty
  rw [toList_bs, toList_bs, bs_mk]
  cases x <;> rfl

def okB (b : UInt8) : Bool := decide (32 ≤ (b.toNat : Int)) && decide ((b.toNat : Int) ≤ 126)
/-- May a line be? -/
def ml (l : List UInt8) : Bool := l.all okB && decide (l.length ≤ 200)

theorem allB_eq {p : Int → Bool} {s : ByteArray} : ∀ (r i : Nat), i + r = s.size → allB p s r i = ((bs s).drop i).all fun b => p (b.toNat : Int)
  | 0, i, h => by
    have hl := bs_length s
    rw [List.drop_eq_nil_of_le (by omega)]; rfl
  | r + 1, i, h => by
    have hl := bs_length s
    have hlt : i < (bs s).length := by omega
    have hb : byteAt s (i : Int) = (((bs s)[i]).toNat : Int) := by rw [byteAt_bs, List.getD_eq_getElem?_getD, List.getElem?_eq_getElem hlt]; rfl
    unfold allB
    rw [allB_eq r (i + 1) (by omega), List.drop_eq_getElem_cons hlt, List.all_cons, hb]
theorem mayB_eq (s : ByteArray) : mayB s = ml (bs s) := by
  unfold mayB ml
  rw [allB_eq s.size 0 (by omega), List.drop_zero, bs_length]
  rfl

/-- A text's lines. -/
def sg : List (List UInt8) → Nat → List Ln → List Ln × Int × Int
  | [], _, out => (out, 0, 0)
  | x :: l, i, out => if ml x then sg l (i + 1) (if (wl x).length = 0 then out else out ++ [((i : Int) + 1, (wl x).map mk)]) else ([], (i : Int) + 1, 2)
theorem splitG_eq : ∀ (l : List (List UInt8)) (i : Nat) (out : List Ln), splitG (l.map mk) i out = sg l i out
  | [], i, out => rfl
  | x :: l, i, out => by
    have e1 : mayB (mk x) = ml x := by rw [mayB_eq, bs_mk]
    have e2 : wordsL (mk x) = (wl x).map mk := by rw [wordsL_eq, bs_mk]
    rw [List.map_cons, splitG, e1, e2, List.length_map, splitG_eq l (i + 1)]
    rfl
theorem splitL_eq {s : ByteArray} (h : s.size ≤ 4000) : splitL s = sg (spl 10 (bs s)) 0 [] := by
  unfold splitL
  rw [if_neg (by omega), partsL_eq, splitG_eq]

end Go.Proofs.YtlakpbfmcnlnbaaDoor
