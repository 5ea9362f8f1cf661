/-
  Loops over iterators: their steps (printed by a tool of mine).
-/
import Derived.Test.YtcjlebkfekfkbaaWF
import Derived.Test.YtcjlebkfekfkbaaVTx
namespace Go.Proofs.Ytcjlebkfekfkbaa
open Go VE

/-! ### triage/turn.Runs -/
abbrev runsC.ps : List AK := [.d false .str, .d false (.int .u8)]
def runsC.pre : ElA runsC.ps → Bool := fun (x : ByteArray × Int × Unit) => fits .str (x.1) && (fits (.int .u8) (x.2.1) && (true))
def runsC.res : ElA runsC.ps → IV := fun (x : ByteArray × Int × Unit) => (fun s b => runsF s b) x.1 x.2.1
def runsC.sp : ISpec := spOf runsC.ps runsC.pre runsC.res
abbrev runsC.OK : Prop := SpecOK Try.prog 21 runsC.sp
theorem runsC.mkR (H : ∀ (x0 : ByteArray) (x1 : Int), runsC.pre (x0, x1, ()) = true → VE.Returns Try.prog 21 (ivA runsC.ps (x0, x1, ())) (runsC.res (x0, x1, ()))) : SpecOK Try.prog 21 runsC.sp :=
  specOf_ret Try.func21 (by kernel_rfl) (by kernel_rfl) fun (x : ByteArray × Int × Unit) hx => H (x.1) (x.2.1) hx

/-! ### triage/lines.words -/
abbrev words.ps : List AK := [.d false .str]
def words.pre : ElA words.ps → Bool := fun (x : ByteArray × Unit) => fits .str (x.1) && ((fun s => decide (ByteArray.size s ≤ 10000)) x.1 && (true))
def words.res : ElA words.ps → IV := fun (x : ByteArray × Unit) => (fun s => .c (.sl .str (wordsL s))) x.1
def words.sp : ISpec := spOf words.ps words.pre words.res
abbrev words.OK : Prop := SpecOK Try.prog 23 words.sp
theorem words.mkR (H : ∀ (x0 : ByteArray), words.pre (x0, ()) = true → VE.Returns Try.prog 23 (ivA words.ps (x0, ())) (words.res (x0, ()))) : SpecOK Try.prog 23 words.sp :=
  specOf_ret Try.func23 (by kernel_rfl) (by kernel_rfl) fun (x : ByteArray × Unit) hx => H (x.1) hx

/-! ### triage/lines.Split -/
abbrev split.ps : List AK := [.d false .str]
def split.pre : ElA split.ps → Bool := fun (x : ByteArray × Unit) => fits .str (x.1) && ((fun s => decide (ByteArray.size s ≤ 1000000)) x.1 && (true))
def split.res : ElA split.ps → IV := fun (x : ByteArray × Unit) => (fun s => .tup [.c (.sl TLine (splitL s).1), vi .i64 (splitL s).2.1, vi .i64 (splitL s).2.2]) x.1
def split.sp : ISpec := spOf split.ps split.pre split.res
abbrev split.OK : Prop := SpecOK Try.prog 9 split.sp
theorem split.mkR (H : ∀ (x0 : ByteArray), split.pre (x0, ()) = true → VE.Returns Try.prog 9 (ivA split.ps (x0, ())) (split.res (x0, ()))) : SpecOK Try.prog 9 split.sp :=
  specOf_ret Try.func9 (by kernel_rfl) (by kernel_rfl) fun (x : ByteArray × Unit) hx => H (x.1) hx


noncomputable def words.body : Code := bodyOf Try.f23
noncomputable def words.loop : Code := (rfs words.body).headD .skip
def words.L0 : Live := ⟨[(3, .plain), (13, .plain)], [(513, [.arr 9 .str])]⟩
def words.L : Live := ⟨[], [(513, [.arr 9 .str])]⟩
noncomputable def words.specs : List (Nat × (List Bool × ISpec)) := [(21, ([], runsC.sp)), (29, ([], cut.sp))]
noncomputable def words.cfg : Cfg := ⟨lkp tab, lkp words.specs, lkp [], ⟨lkp [], [513], none, false, []⟩⟩
def words.t (f : IC) : Nat → IV := ofList (.c .junk) [(3, (.c (.ref 513 0))), (13, (.c f))]
def words.hs (ys : List ByteArray) : Nat → Option Box := ofList none [(513, some (.cells 32 [(.sref 193664)])), (193664, some (.arr 9 .str ys false))]
def words.us : Nat → Bool := ofList false [(513, true), (193664, true)]
noncomputable def split.body : Code := bodyOf Try.f9
noncomputable def split.loop : Code := (rfs split.body).headD .skip
def split.L0 : Live := ⟨[(2, .plain), (3, .plain), (4, .plain), (5, .plain), (13, .plain)], [(1, [.plain]), (3, [.plain]), (5, [.plain]), (1537, [.arr 34 (.prod (.int .i64) (.sl .str))])]⟩
def split.L : Live := ⟨[], [(1, [.plain]), (3, [.plain]), (5, [.plain]), (1537, [.arr 34 (.prod (.int .i64) (.sl .str))])]⟩
noncomputable def split.specs : List (Nat × (List Bool × ISpec)) := [(21, ([], runsC.sp)), (22, ([], may.sp)), (23, ([], words.sp))]
noncomputable def split.cfg : Cfg := ⟨lkp tab, lkp split.specs, lkp [], ⟨lkp [], [1, 3, 5, 1537], none, false, []⟩⟩
def split.t (f : IC) : Nat → IV := ofList (.c .junk) [(2, (.c (.ref 1 0))), (3, (.c (.ref 3 0))), (4, (.c (.ref 5 0))), (5, (.c (.ref 1537 0))), (13, (.c f))]
def split.hs (n e : Int) (ys : List Ln) : Nat → Option Box := ofList none [(1, some (.cells 24 [(.v (.slice none 0 0))])), (3, some (.cells 3 [(.v (.int .i64 n))])), (5, some (.cells 25 [(.v (.int .i64 e))])), (1537, some (.cells 24 [(.sref 324736)])), (324736, some (.arr 34 TLine ys false))]
def split.us : Nat → Bool := ofList false [(1, true), (3, true), (5, true), (1537, true), (324736, true)]

theorem words.pre1 (s : ByteArray) (F : RFF) : evalF words.cfg Try.f23.ntmps (rfF [513] words.L0 F) 64 words.body false (enter [.c (.v (.string s))]) (endF words.cfg Try.f23) =
  test (cut.pre (s, ((⟨#[35]⟩ : ByteArray), Unit.unit))) (
   test (runsC.pre ((cutA s), ((32 : Int), Unit.unit))) (
    F ⟨ofList (.c .junk) [(3, (.c (.ref 513 0))), (13, (.c (.fn 28 [(.snap [(.v (.string (cutA s)))] 0), (.snap [(.v (.int .u8 (32 : Int)))] 0)])))], ofList none [(513, some (.cells 32 [(.sref 193664)])), (193664, some (.arr 9 .str ([] : List ByteArray) false))], ofList false [(513, true), (193664, true)]⟩ (kk words.cfg Try.f23 [513] words.L0 64 words.body F))) := by kernel_rfl
theorem words.round (f : IC) (v : ByteArray) (i : Int) (ys : List ByteArray) (k : Nat → St → R) : evalR words.cfg Try.f23.ntmps 64 (loopBody words.loop) ⟨asgT [(5, 15)] (parT [(14, .int .i64 i), (15, .string v)] (words.t f)), words.hs ys, words.us⟩ (fun j σ' => keepK [513] words.L σ' (k j)) =
  cond (Bool.not ((ByteArray.toList v) == (ByteArray.toList (⟨#[]⟩ : ByteArray)))) (
   test (decide (((List.length ys) + (List.length (v :: ([] : List ByteArray)))) ≤ (lim 16))) (
    k 0 ⟨ofList (.c .junk) [], ofList none [(513, some (.cells 32 [(.sref 193664)])), (193664, some (.arr 9 .str (ys ++ (v :: ([] : List ByteArray))) false))], ofList false [(513, true), (193664, true)]⟩)) (
   k 0 ⟨ofList (.c .junk) [], ofList none [(513, some (.cells 32 [(.sref 193664)])), (193664, some (.arr 9 .str ys false))], ofList false [(513, true), (193664, true)]⟩) := by kernel_rfl
theorem words.post0 (f : IC) (ys : List ByteArray) (F : RFF) : kk words.cfg Try.f23 [513] words.L0 64 words.body F 0 ⟨words.t f, words.hs ys, words.us⟩ =
  some ((.c (.sl .str ys)), []) := by kernel_rfl
theorem split.pre1 (s : ByteArray) (F : RFF) : evalF split.cfg Try.f9.ntmps (rfF [1, 3, 5, 1537] split.L0 F) 64 split.body false (enter [.c (.v (.string s))]) (endF split.cfg Try.f9) =
  cond (decide (((ByteArray.size s) : Int) > (4000 : Int))) (
   some ((.tup [(.c (.v (.slice none 0 0))), (.c (.v (.int .i64 (0 : Int)))), (.c (.v (.int .i64 (2 : Int))))]), [])) (
   test (runsC.pre (s, ((10 : Int), Unit.unit))) (
    F ⟨ofList (.c .junk) [(2, (.c (.ref 1 0))), (3, (.c (.ref 3 0))), (4, (.c (.ref 5 0))), (5, (.c (.ref 1537 0))), (13, (.c (.fn 28 [(.snap [(.v (.string s))] 0), (.snap [(.v (.int .u8 (10 : Int)))] 0)])))], ofList none [(1, some (.cells 24 [(.v (.slice none 0 0))])), (3, some (.cells 3 [(.v (.int .i64 (0 : Int)))])), (5, some (.cells 25 [(.v (.int .i64 (0 : Int)))])), (1537, some (.cells 24 [(.sref 324736)])), (324736, some (.arr 34 (.prod (.int .i64) (.sl .str)) ([] : List (Int × (List ByteArray))) false))], ofList false [(1, true), (3, true), (5, true), (1537, true), (324736, true)]⟩ (kk split.cfg Try.f9 [1, 3, 5, 1537] split.L0 64 split.body F))) := by kernel_rfl
theorem split.round (f : IC) (i : Int) (v : ByteArray) (n e : Int) (ys : List Ln) (k : Nat → St → R) : evalR split.cfg Try.f9.ntmps 64 (loopBody split.loop) ⟨asgT [(6, 14), (7, 15)] (parT [(14, .int .i64 i), (15, .string v)] (split.t f)), split.hs n e ys, split.us⟩ (fun j σ' => keepK [1, 3, 5, 1537] split.L σ' (k j)) =
  test (may.pre (v, Unit.unit)) (
   cond (Bool.not (mayB v)) (
    k 1 ⟨ofList (.c .junk) [], ofList none [(1, some (.cells 24 [(.v (.slice none 0 0))])), (3, some (.cells 3 [(.v (.int .i64 (IntKind.i64.wrap (i + (1 : Int)))))])), (5, some (.cells 25 [(.v (.int .i64 (2 : Int)))])), (1537, some (.cells 24 [(.sref 324736)])), (324736, some (.arr 34 (.prod (.int .i64) (.sl .str)) ys false))], ofList false [(1, true), (3, true), (5, true), (1537, true), (324736, true)]⟩) (
    test (words.pre (v, Unit.unit)) (
     cond (decide (((List.length (wordsL v)) : Int) > (0 : Int))) (
      test (decide (((List.length ys) + (List.length (((IntKind.i64.wrap (i + (1 : Int))), (wordsL v)) :: ([] : List (Int × (List ByteArray)))))) ≤ (lim 32))) (
       k 0 ⟨ofList (.c .junk) [], ofList none [(1, some (.cells 24 [(.v (.slice none 0 0))])), (3, some (.cells 3 [(.v (.int .i64 n))])), (5, some (.cells 25 [(.v (.int .i64 e))])), (1537, some (.cells 24 [(.sref 324736)])), (324736, some (.arr 34 (.prod (.int .i64) (.sl .str)) (ys ++ (((IntKind.i64.wrap (i + (1 : Int))), (wordsL v)) :: ([] : List (Int × (List ByteArray))))) false))], ofList false [(1, true), (3, true), (5, true), (1537, true), (324736, true)]⟩)) (
      k 0 ⟨ofList (.c .junk) [], ofList none [(1, some (.cells 24 [(.v (.slice none 0 0))])), (3, some (.cells 3 [(.v (.int .i64 n))])), (5, some (.cells 25 [(.v (.int .i64 e))])), (1537, some (.cells 24 [(.sref 324736)])), (324736, some (.arr 34 (.prod (.int .i64) (.sl .str)) ys false))], ofList false [(1, true), (3, true), (5, true), (1537, true), (324736, true)]⟩)))) := by kernel_rfl
theorem split.post0 (f : IC) (n e : Int) (ys : List Ln) (F : RFF) : kk split.cfg Try.f9 [1, 3, 5, 1537] split.L0 64 split.body F 0 ⟨split.t f, split.hs n e ys, split.us⟩ =
  some ((.tup [(.c (.sl (.prod (.int .i64) (.sl .str)) ys)), (.c (.v (.int .i64 (0 : Int)))), (.c (.v (.int .i64 (0 : Int))))]), []) := by kernel_rfl
theorem split.post1 (f : IC) (n e : Int) (ys : List Ln) (F : RFF) : kk split.cfg Try.f9 [1, 3, 5, 1537] split.L0 64 split.body F 1 ⟨split.t f, split.hs n e ys, split.us⟩ =
  some ((.tup [(.c (.v (.slice none 0 0))), (.c (.v (.int .i64 n))), (.c (.v (.int .i64 e)))]), []) := by kernel_rfl

end Go.Proofs.Ytcjlebkfekfkbaa
