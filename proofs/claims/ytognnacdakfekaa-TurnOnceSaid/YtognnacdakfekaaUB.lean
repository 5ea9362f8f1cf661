/-
  Loops over iterators: their steps (printed by a tool of mine).
-/
import Derived.Test.YtognnacdakfekaaUA
import Derived.Test.YtognnacdakfekaaVTx
namespace Go.Proofs.Ytognnacdakfekaa
open Go VE

/-! ### triage/turn.Turn -/
abbrev turn.ps : List AK := [.d false (.int .i64), .d false (.int .i64)]
def turn.pre : ElA turn.ps → Bool := fun (x : Int × Int × Unit) => fits (.int .i64) (x.1) && (fits (.int .i64) (x.2.1) && (true))
def turn.res : ElA turn.ps → IV := fun (x : Int × Int × Unit) => (fun n f => turnF n f) x.1 x.2.1
def turn.sp : ISpec := spOf turn.ps turn.pre turn.res
abbrev turn.OK : Prop := SpecOK Try.prog 9 turn.sp
theorem turn.mkR (H : ∀ (x0 : Int) (x1 : Int), turn.pre (x0, x1, ()) = true → VE.Returns Try.prog 9 (ivA turn.ps (x0, x1, ())) (turn.res (x0, x1, ()))) : SpecOK Try.prog 9 turn.sp :=
  specOf_ret Try.func9 (by kernel_rfl) (by kernel_rfl) fun (x : Int × Int × Unit) hx => H (x.1) (x.2.1) hx

/-! ### triage/turn.Times -/
abbrev times.ps : List AK := [.d false (.int .i64), .d false (.int .i64), .d false (.int .i64)]
def times.pre : ElA times.ps → Bool := fun (x : Int × Int × Int × Unit) => fits (.int .i64) (x.1) && (fits (.int .i64) (x.2.1) && (fits (.int .i64) (x.2.2.1) && (true)))
def times.res : ElA times.ps → IV := fun (x : Int × Int × Int × Unit) => (fun f s t => timesF f s t) x.1 x.2.1 x.2.2.1
def times.sp : ISpec := spOf times.ps times.pre times.res
abbrev times.OK : Prop := SpecOK Try.prog 13 times.sp
theorem times.mkR (H : ∀ (x0 : Int) (x1 : Int) (x2 : Int), times.pre (x0, x1, x2, ()) = true → VE.Returns Try.prog 13 (ivA times.ps (x0, x1, x2, ())) (times.res (x0, x1, x2, ()))) : SpecOK Try.prog 13 times.sp :=
  specOf_ret Try.func13 (by kernel_rfl) (by kernel_rfl) fun (x : Int × Int × Int × Unit) hx => H (x.1) (x.2.1) (x.2.2.1) hx

/-! ### triage/turn.Runs -/
abbrev runsC.ps : List AK := [.d false .str, .d false (.int .u8)]
def runsC.pre : ElA runsC.ps → Bool := fun (x : ByteArray × Int × Unit) => fits .str (x.1) && (fits (.int .u8) (x.2.1) && (true))
def runsC.res : ElA runsC.ps → IV := fun (x : ByteArray × Int × Unit) => (fun s b => runsF s b) x.1 x.2.1
def runsC.sp : ISpec := spOf runsC.ps runsC.pre runsC.res
abbrev runsC.OK : Prop := SpecOK Try.prog 15 runsC.sp
theorem runsC.mkR (H : ∀ (x0 : ByteArray) (x1 : Int), runsC.pre (x0, x1, ()) = true → VE.Returns Try.prog 15 (ivA runsC.ps (x0, x1, ())) (runsC.res (x0, x1, ()))) : SpecOK Try.prog 15 runsC.sp :=
  specOf_ret Try.func15 (by kernel_rfl) (by kernel_rfl) fun (x : ByteArray × Int × Unit) hx => H (x.1) (x.2.1) hx

/-! ### triage/triagelaw4.row -/
abbrev rowT.ps : List AK := [.f 14 [(true, (.int .i64)), (true, (.int .i64))], .d false (.int .i64)]
def rowT.pre : ElA rowT.ps → Bool := fun (x : (Int × (Int × Unit)) × Int × Unit) => fits (.int .i64) (x.1.1) && (fits (.int .i64) (x.1.2.1) && (fits (.int .i64) (x.2.1) && ((fun s n => decide (s.1 ≤ 1000000) && decide (n ≤ 1000000)) x.1 x.2.1 && (true))))
def rowT.res : ElA rowT.ps → IV := fun (x : (Int × (Int × Unit)) × Int × Unit) => (fun s n => .c (.sl (.int .i64) (rowL (turnL s.1 s.2.1) n))) x.1 x.2.1
def rowT.sp : ISpec := spOf rowT.ps rowT.pre rowT.res
abbrev rowT.OK : Prop := SpecOK Try.prog 8 rowT.sp
theorem rowT.mkR (H : ∀ (x0 : (Int × (Int × Unit))) (x1 : Int), rowT.pre (x0, x1, ()) = true → VE.Returns Try.prog 8 (ivA rowT.ps (x0, x1, ())) (rowT.res (x0, x1, ()))) : SpecOK Try.prog 8 rowT.sp :=
  specOf_ret Try.func8 (by kernel_rfl) (by kernel_rfl) fun (x : (Int × (Int × Unit)) × Int × Unit) hx => H (x.1) (x.2.1) hx

/-! ### triage/triagelaw4.row -/
abbrev rowS.ps : List AK := [.f 16 [(true, (.int .i64)), (true, (.int .i64)), (true, (.int .i64))], .d false (.int .i64)]
def rowS.pre : ElA rowS.ps → Bool := fun (x : (Int × (Int × (Int × Unit))) × Int × Unit) => fits (.int .i64) (x.1.1) && (fits (.int .i64) (x.1.2.1) && (fits (.int .i64) (x.1.2.2.1) && (fits (.int .i64) (x.2.1) && ((fun s n => decide (n ≤ 1000000)) x.1 x.2.1 && (true)))))
def rowS.res : ElA rowS.ps → IV := fun (x : (Int × (Int × (Int × Unit))) × Int × Unit) => (fun s n => .c (.sl (.int .i64) (rowL (timesL s.2.1 s.1 s.2.2.1) n))) x.1 x.2.1
def rowS.sp : ISpec := spOf rowS.ps rowS.pre rowS.res
abbrev rowS.OK : Prop := SpecOK Try.prog 8 rowS.sp
theorem rowS.mkR (H : ∀ (x0 : (Int × (Int × (Int × Unit)))) (x1 : Int), rowS.pre (x0, x1, ()) = true → VE.Returns Try.prog 8 (ivA rowS.ps (x0, x1, ())) (rowS.res (x0, x1, ()))) : SpecOK Try.prog 8 rowS.sp :=
  specOf_ret Try.func8 (by kernel_rfl) (by kernel_rfl) fun (x : (Int × (Int × (Int × Unit))) × Int × Unit) hx => H (x.1) (x.2.1) hx

/-! ### triage/triagelaw4.parts -/
abbrev parts.ps : List AK := [.d false .str, .d false (.int .u8)]
def parts.pre : ElA parts.ps → Bool := fun (x : ByteArray × Int × Unit) => fits .str (x.1) && (fits (.int .u8) (x.2.1) && ((fun s b => decide (ByteArray.size s ≤ 1000)) x.1 x.2.1 && (true)))
def parts.res : ElA parts.ps → IV := fun (x : ByteArray × Int × Unit) => (fun s b => .c (.sl .str (partsL s b))) x.1 x.2.1
def parts.sp : ISpec := spOf parts.ps parts.pre parts.res
abbrev parts.OK : Prop := SpecOK Try.prog 11 parts.sp
theorem parts.mkR (H : ∀ (x0 : ByteArray) (x1 : Int), parts.pre (x0, x1, ()) = true → VE.Returns Try.prog 11 (ivA parts.ps (x0, x1, ())) (parts.res (x0, x1, ()))) : SpecOK Try.prog 11 parts.sp :=
  specOf_ret Try.func11 (by kernel_rfl) (by kernel_rfl) fun (x : ByteArray × Int × Unit) hx => H (x.1) (x.2.1) hx


noncomputable def row.body : Code := bodyOf Try.f8
noncomputable def row.loop : Code := (rfs row.body).headD .skip
def row.L0 : Live := ⟨[(3, .plain), (5, .plain), (9, .plain)], [(1, [.plain]), (513, [.arr 3 (.int .i64)])]⟩
def row.L : Live := ⟨[], [(1, [.plain]), (513, [.arr 3 (.int .i64)])]⟩
noncomputable def row.cfg : Cfg := ⟨lkp tab, lkp [], lkp [], ⟨lkp [], [1, 513], none, false, []⟩⟩
def row.t (f : IC) : Nat → IV := ofList (.c .junk) [(3, (.c (.ref 1 0))), (5, (.c (.ref 513 0))), (9, (.c f))]
def row.hs (n : Int) (ys : List Int) : Nat → Option Box := ofList none [(1, some (.cells 3 [(.v (.int .i64 n))])), (513, some (.cells 23 [(.sref 193664)])), (193664, some (.arr 3 (.int .i64) ys false))]
def row.us : Nat → Bool := ofList false [(1, true), (513, true), (193664, true)]
noncomputable def parts.body : Code := bodyOf Try.f11
noncomputable def parts.loop : Code := (rfs parts.body).headD .skip
def parts.L0 : Live := ⟨[(4, .plain), (5, .plain), (14, .plain)], [(1, [.plain]), (513, [.arr 9 .str])]⟩
def parts.L : Live := ⟨[], [(1, [.plain]), (513, [.arr 9 .str])]⟩
def parts.specs : List (Nat × (List Bool × ISpec)) := [(15, ([], runsC.sp))]
def parts.cfg : Cfg := ⟨lkp tab, lkp parts.specs, lkp [], ⟨lkp [], [1, 513], none, false, []⟩⟩
def parts.t (f : IC) : Nat → IV := ofList (.c .junk) [(4, (.c (.ref 1 0))), (5, (.c (.ref 513 0))), (14, (.c f))]
def parts.hs (ys : List ByteArray) : Nat → Option Box := ofList none [(1, some (.cells 29 [(.v (.slice none 0 0))])), (513, some (.cells 29 [(.sref 193664)])), (193664, some (.arr 9 .str ys false))]
def parts.us : Nat → Bool := ofList false [(1, true), (513, true), (193664, true)]

theorem row.preT (a b n : Int) (F : RFF) : evalF row.cfg Try.f8.ntmps (rfF [1, 513] row.L0 F) 64 row.body false (enter [turnF a b, .c (.v (.int .i64 n))]) (endF row.cfg Try.f8) =
  F ⟨ofList (.c .junk) [(3, (.c (.ref 1 0))), (5, (.c (.ref 513 0))), (9, (.c (.fn 14 [(.snap [(.v (.int .i64 a))] 0), (.snap [(.v (.int .i64 b))] 0)])))], ofList none [(1, some (.cells 3 [(.v (.int .i64 n))])), (513, some (.cells 23 [(.sref 193664)])), (193664, some (.arr 3 (.int .i64) ([] : List Int) false))], ofList false [(1, true), (513, true), (193664, true)]⟩ (kk row.cfg Try.f8 [1, 513] row.L0 64 row.body F) := by kernel_rfl
theorem row.preS (a b c n : Int) (F : RFF) : evalF row.cfg Try.f8.ntmps (rfF [1, 513] row.L0 F) 64 row.body false (enter [timesF a b c, .c (.v (.int .i64 n))]) (endF row.cfg Try.f8) =
  F ⟨ofList (.c .junk) [(3, (.c (.ref 1 0))), (5, (.c (.ref 513 0))), (9, (.c (.fn 16 [(.snap [(.v (.int .i64 b))] 0), (.snap [(.v (.int .i64 a))] 0), (.snap [(.v (.int .i64 c))] 0)])))], ofList none [(1, some (.cells 3 [(.v (.int .i64 n))])), (513, some (.cells 23 [(.sref 193664)])), (193664, some (.arr 3 (.int .i64) ([] : List Int) false))], ofList false [(1, true), (513, true), (193664, true)]⟩ (kk row.cfg Try.f8 [1, 513] row.L0 64 row.body F) := by kernel_rfl
theorem row.round (f : IC) (n v : Int) (ys : List Int) (k : Nat → St → R) : evalR row.cfg Try.f8.ntmps 64 (loopBody row.loop) ⟨asgT [(6, 10)] (parT [(10, .int .i64 v)] (row.t f)), row.hs n ys, row.us⟩ (fun j σ' => keepK [1, 513] row.L σ' (k j)) =
  cond (decide (((List.length ys) : Int) ≥ n)) (
   k 2 ⟨ofList (.c .junk) [], ofList none [(1, some (.cells 3 [(.v (.int .i64 n))])), (513, some (.cells 23 [(.sref 193664)])), (193664, some (.arr 3 (.int .i64) ys false))], ofList false [(1, true), (513, true), (193664, true)]⟩) (
   test (decide (((List.length ys) + (List.length (v :: ([] : List Int)))) ≤ (lim 8))) (
    k 0 ⟨ofList (.c .junk) [], ofList none [(1, some (.cells 3 [(.v (.int .i64 n))])), (513, some (.cells 23 [(.sref 193664)])), (193664, some (.arr 3 (.int .i64) (ys ++ (v :: ([] : List Int))) false))], ofList false [(1, true), (513, true), (193664, true)]⟩)) := by kernel_rfl
theorem row.post0 (f : IC) (n : Int) (ys : List Int) (F : RFF) : kk row.cfg Try.f8 [1, 513] row.L0 64 row.body F 0 ⟨row.t f, row.hs n ys, row.us⟩ =
  some ((.c (.sl (.int .i64) ys)), []) := by kernel_rfl
theorem row.post2 (f : IC) (n : Int) (ys : List Int) (F : RFF) : kk row.cfg Try.f8 [1, 513] row.L0 64 row.body F 2 ⟨row.t f, row.hs n ys, row.us⟩ =
  some ((.c (.sl (.int .i64) ys)), []) := by kernel_rfl
theorem parts.pre1 (s : ByteArray) (b : Int) (F : RFF) : evalF parts.cfg Try.f11.ntmps (rfF [1, 513] parts.L0 F) 64 parts.body false (enter [.c (.v (.string s)), .c (.v (.int .u8 b))]) (endF parts.cfg Try.f11) =
  test (runsC.pre (s, (b, Unit.unit))) (
   F ⟨ofList (.c .junk) [(4, (.c (.ref 1 0))), (5, (.c (.ref 513 0))), (14, (.c (.fn 17 [(.snap [(.v (.string s))] 0), (.snap [(.v (.int .u8 b))] 0)])))], ofList none [(1, some (.cells 29 [(.v (.slice none 0 0))])), (513, some (.cells 29 [(.sref 193664)])), (193664, some (.arr 9 .str ([] : List ByteArray) false))], ofList false [(1, true), (513, true), (193664, true)]⟩ (kk parts.cfg Try.f11 [1, 513] parts.L0 64 parts.body F)) := by kernel_rfl
theorem parts.round (f : IC) (i : Int) (v : ByteArray) (ys : List ByteArray) (k : Nat → St → R) : evalR parts.cfg Try.f11.ntmps 64 (loopBody parts.loop) ⟨asgT [(7, 15), (8, 16)] (parT [(15, .int .i64 i), (16, .string v)] (parts.t f)), parts.hs ys, parts.us⟩ (fun j σ' => keepK [1, 513] parts.L σ' (k j)) =
  cond (bne i ((List.length ys) : Int)) (
   k 1 ⟨ofList (.c .junk) [], ofList none [(1, some (.cells 29 [(.v (.slice none 0 0))])), (513, some (.cells 29 [(.sref 193664)])), (193664, some (.arr 9 .str ys false))], ofList false [(1, true), (513, true), (193664, true)]⟩) (
   cond (decide (i > (5000 : Int))) (
    k 1 ⟨ofList (.c .junk) [], ofList none [(1, some (.cells 29 [(.v (.slice none 0 0))])), (513, some (.cells 29 [(.sref 193664)])), (193664, some (.arr 9 .str ys false))], ofList false [(1, true), (513, true), (193664, true)]⟩) (
    test (decide (((List.length ys) + (List.length (v :: ([] : List ByteArray)))) ≤ (lim 16))) (
     k 0 ⟨ofList (.c .junk) [], ofList none [(1, some (.cells 29 [(.v (.slice none 0 0))])), (513, some (.cells 29 [(.sref 193664)])), (193664, some (.arr 9 .str (ys ++ (v :: ([] : List ByteArray))) false))], ofList false [(1, true), (513, true), (193664, true)]⟩))) := by kernel_rfl
theorem parts.post0 (f : IC) (ys : List ByteArray) (F : RFF) : kk parts.cfg Try.f11 [1, 513] parts.L0 64 parts.body F 0 ⟨parts.t f, parts.hs ys, parts.us⟩ =
  some ((.c (.sl .str ys)), []) := by kernel_rfl
theorem parts.post1 (f : IC) (ys : List ByteArray) (F : RFF) : kk parts.cfg Try.f11 [1, 513] parts.L0 64 parts.body F 1 ⟨parts.t f, parts.hs ys, parts.us⟩ =
  some ((.c (.v (.slice none 0 0))), []) := by kernel_rfl

end Go.Proofs.Ytognnacdakfekaa
