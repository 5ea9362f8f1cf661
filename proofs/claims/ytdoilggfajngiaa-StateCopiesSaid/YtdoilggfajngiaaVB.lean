/-
  The ideal machine: operations, regions, the run.
-/
import Derived.Test.YtdoilggfajngiaaVA
namespace Go.Proofs.Ytdoilggfajngiaa.VE
open Go

structure Out where
  v : IV
  ups : List (Nat × Option Box)
  news : List Nat

def bindK {α : Type} (x : Option α) (f : α → R) : R := match x with | some a => f a | none => none
def need (p : Prop) [Decidable p] (k : R) : R := if p then k else none
def test (b : Bool) (k : R) : R := cond b k none

theorem bindK_some {α : Type} {x : Option α} {f : α → R} {r : IV × List (Nat × Box)} (h : bindK x f = some r) : ∃ a, x = some a ∧ f a = some r := by
  cases x with
  | none => simp [bindK] at h
  | some a => exact ⟨a, rfl, h⟩
theorem need_some {p : Prop} [Decidable p] {k : R} {r : IV × List (Nat × Box)} (h : need p k = some r) : p ∧ k = some r := by
  unfold need at h
  split at h
  · exact ⟨‹_›, h⟩
  · cases h
theorem test_some {b : Bool} {k : R} {r : IV × List (Nat × Box)} (h : test b k = some r) : b = true ∧ k = some r := by
  cases b
  · cases h
  · exact ⟨rfl, h⟩

def dOf (ty : Nat → Option TI) (t : Nat) : Option D := (ty t).map fun i => i.d
def tyOf (ty : Nat → Option TI) (t : Nat) : Option Ty := (ty t).bind fun i => i.ty

def vi (k : IntKind) (n : Int) : IV := .c (.v (.int k n))
def vb (b : Bool) : IV := .c (.v (.bool b))
def vs (s : ByteArray) : IV := .c (.v (.string s))

def pickIV (b : Bool) : IV → IV → IV
  | .c (.v (.bool x)), .c (.v (.bool y)) => vb (cond b x y)
  | x, y => cond b x y

def byteAt (s : ByteArray) (n : Int) : Int := ((s.data.toList.getD n.toNat 0).toNat : Int)

/-- Operators on two integers of one kind. -/
def intBin (op : BinOp) (K : IntKind) (a b : Int) (k : IV → R) : R :=
  match op with
  | .add => k (vi K (K.wrap (a + b)))
  | .sub => k (vi K (K.wrap (a - b)))
  | .mul => k (vi K (K.wrap (a * b)))
  | .quo => test (!decide (b = 0)) (k (vi K (K.wrap (a.tdiv b))))
  | .rem => test (!decide (b = 0)) (k (vi K (a.tmod b)))
  | .and => k (vi K (K.wrap (BitVec.ofInt K.bits a &&& BitVec.ofInt K.bits b).toNat))
  | .or => k (vi K (K.wrap (BitVec.ofInt K.bits a ||| BitVec.ofInt K.bits b).toNat))
  | .xor => k (vi K (K.wrap (BitVec.ofInt K.bits a ^^^ BitVec.ofInt K.bits b).toNat))
  | .andNot => k (vi K (K.wrap (BitVec.ofInt K.bits a &&& ~~~BitVec.ofInt K.bits b).toNat))
  | .eql => k (vb (a == b))
  | .neq => k (vb (a != b))
  | .lss => k (vb (decide (a < b)))
  | .leq => k (vb (decide (a ≤ b)))
  | .gtr => k (vb (decide (a > b)))
  | .geq => k (vb (decide (a ≥ b)))
  | .shl => none
  | .shr => none

def strBin (op : BinOp) (a b : ByteArray) (k : IV → R) : R :=
  match op with
  | .add => test (decide (a.size + b.size ≤ 9223372036854775807)) (k (vs (a ++ b)))
  | .eql => k (vb (a.toList == b.toList))
  | .neq => k (vb (!(a.toList == b.toList)))
  | .lss => k (vb (Op.bytesLess a.toList b.toList))
  | .leq => k (vb (Op.bytesLess a.toList b.toList || a.toList == b.toList))
  | .gtr => k (vb (!(Op.bytesLess a.toList b.toList || a.toList == b.toList)))
  | .geq => k (vb (!Op.bytesLess a.toList b.toList))
  | _ => none

/-- '==' of cells of one type. -/
def eqC (d : Option D) (x y : IC) : Option Bool :=
  match d, x, y with
  | some (.int K), .v (.int k a), .v (.int k' b) => if k = K ∧ k' = K then some (a == b) else none
  | some .bool, .v (.bool a), .v (.bool b) => some (a == b)
  | some .str, .v (.string a), .v (.string b) => some (a.toList == b.toList)
  | _, _, _ => none

/-- '==' of structs without structs inside, field by field. -/
def eqFields (ty : Nat → Option TI) : List (Nat × Nat) → List IC → List IC → Option Bool
  | [], _, _ => some true
  | (off, t) :: r, xs, ys =>
    match xs[off]?, ys[off]? with
    | some x, some y => (match eqC (dOf ty t) x y, eqFields ty r xs ys with | some b, some c => some (b && c) | _, _ => none)
    | _, _ => none

def eqOp (op : BinOp) (b : Bool) (k : IV → R) : R :=
  match op with
  | .eql => k (vb b)
  | .neq => k (vb (!b))
  | _ => none

/-- Is it a nil slice? (Of an empty list nothing is known.) -/
def nilSl : IC → Option Bool
  | .v (.slice none 0 0) => some true
  | .emp => some false
  | .sl _ (_ :: _) => some false
  | _ => none

def isPtr : IC → Bool
  | .ref _ _ | .snap _ _ | .eref _ _ _ _ | .psnap _ _ => true
  | _ => false

def binK (ty : Nat → Option TI) (op : BinOp) (xt : Nat) (x y : IV) (k : IV → R) : R :=
  match x, y with
  | .c (.v (.int K a)), .c (.v (.int K' b)) =>
    (match op with
     | .shl => test (decide (0 ≤ b)) (k (vi K (K.wrap (a * 2 ^ (min b.toNat K.bits)))))
     | .shr => test (decide (0 ≤ b)) (k (vi K (a.fdiv (2 ^ (min b.toNat K.bits)))))
     | op => need (K = K') (intBin op K a b k))
  | .c (.v (.string a)), .c (.v (.string b)) => strBin op a b k
  | .c (.v (.bool a)), .c (.v (.bool b)) => (match dOf ty xt with | some .bool => eqOp op (a == b) k | _ => none)
  | .agg xs, .agg ys => (match dOf ty xt with | some (.st fs) => bindK (eqFields ty fs xs ys) fun b => eqOp op b k | _ => none)
  | .c (.v (.pointer none)), .c (.v (.pointer none)) => (match dOf ty xt with | some (.ptr _) => eqOp op true k | _ => none)
  | .c x, .c (.v (.slice none 0 0)) => (match dOf ty xt with | some (.sl _) => bindK (nilSl x) fun b => eqOp op b k | _ => none)
  | .c (.fn _ _), .c (.v .nilFunc) => (match dOf ty xt with | some .fnc => eqOp op false k | _ => none)
  | .c x, .c (.v (.pointer none)) => (match dOf ty xt with | some (.ptr _) => need (isPtr x = true) (eqOp op false k) | _ => none)
  | _, _ => none

def unK (op : UnOp) (x : IV) (k : IV → R) : R :=
  match op, x with
  | .not, .c (.v (.bool b)) => k (vb (!b))
  | .neg, .c (.v (.int K n)) => k (vi K (K.wrap (0 - n)))
  | .xor, .c (.v (.int K n)) => intBin .xor K (if K.signed then -1 else K.max) n k
  | _, _ => none

/-- An address moved on. -/
def moved (n : Nat) : IV → Option IV
  | .c (.ref id off) => some (.c (.ref id (off + n)))
  | .c (.snap cs off) => some (.c (.snap cs (off + n)))
  | .c (.psnap cs off) => some (.c (.psnap cs (off + n)))
  | .c (.eref id wd i off) => some (.c (.eref id wd i (off + n)))
  | .c (.v (.pointer (some ⟨b, o, none⟩))) => some (.c (.v (.pointer (some ⟨b, o + n, none⟩))))
  | _ => none

def cut (cs : List IC) (off n : Nat) : Option (List IC) := if off + n ≤ cs.length then some ((cs.drop off).take n) else none

/-- Reading through an address: n cells. -/
def readAt (h : Nat → Option Box) (n : Nat) : IV → Option (List IC)
  | .c (.ref id off) => (match h id with | some (.cells _ cs) => cut cs off n | some (.ice _ cs) => cut cs off n | _ => none)
  | .c (.snap cs off) => cut cs off n
  | .c (.psnap cs off) => cut cs off n
  | .c (.eref id wd i off) => (match h id with | some (.arr _ t xs _) => if width t = wd then cut (enc t (rdEl t xs i)) off n else none | _ => none)
  | _ => none

def boundK (v : Option IV) (top : Nat) (other : Nat) (k : Nat → R) : R :=
  match v with
  | none => k other
  | some (.c (.v (.int _ n))) => test (decide (0 ≤ n)) (test (decide (n ≤ (top : Int))) (k n.toNat))
  | _ => none

def minmax2 (mx : Bool) (x y : IV) : Option IV :=
  match x, y with
  | .c (.v (.int k a)), .c (.v (.int _ b)) => some (vi k (bif mx then (if b > a then b else a) else (if b < a then b else a)))
  | _, _ => none

def minmax (mx : Bool) : IV → List IV → Option IV
  | x, [] => some x
  | x, y :: r => (match minmax2 mx x y with | some z => minmax mx z r | none => none)

/-- A slice's elements. -/
def asTy (t t' : Ty) (xs : List (El t')) : Option (List (El t)) := if e : t' = t then some (cast (congrArg (fun z => List (El z)) e) xs) else none

def elems (h : Nat → Option Box) (t : Ty) : IV → Option (List (El t))
  | .c (.sl t' xs) => asTy t t' xs
  | .c (.v (.slice none 0 0)) => some []
  | .c .emp => some []
  | .c (.sref id) => (match h id with | some (.arr _ t' xs _) => asTy t t' xs | _ => none)
  | _ => none

/-- What an element of a slice is out of a value's cells; what it settles is frozen by whoever calls. -/
def elOf (h : Nat → Option Box) (t : Ty) (x : IV) : Option (El t) := dec1 t ((cellsOf x).map (settle h))

def lim (bytes : Nat) : Nat := 140737488355328 / bytes

def buildParts : List (Nat × Nat) → List IC → List (Nat × IV) → Option (List IC)
  | _, cs, [] => some cs
  | fs, cs, (i, x) :: r =>
    match fs[i]? with
    | some (off, sz) => if (cellsOf x).length = sz ∧ off + sz ≤ cs.length then buildParts fs (splice cs off (cellsOf x)) r else none
    | none => none

/-- The elements of a slice literal whose parts stand in order. -/
def buildEls (h : Nat → Option Box) (t : Ty) : Nat → List (Nat × IV) → Option (List (El t))
  | _, [] => some []
  | i, (j, x) :: r => if j = i then (match elOf h t x, buildEls h t (i + 1) r with | some e, some l => some (e :: l) | _, _ => none) else none

def freezeIVs (h : Nat → Option Box) (xs : List IV) : List (Nat × Option Box) := xs.foldr (fun x r => freezeAll h (cellsOf x) ++ r) []

/-- Arguments: what is one's own is settled; what is pointed to is told as it now stands. -/
def settleN (h : Nat → Option Box) : Nat → IC → IC
  | 0, _ => .junk
  | n + 1, c =>
    match c with
    | .v x => .v x
    | .sl t xs => .sl t xs
    | .snap cs off => .snap cs off
    | .psnap cs off => .psnap cs off
    | .sref i => (match h i with | some (.arr _ t xs _) => .sl t xs | _ => .junk)
    | .ref i off => (match h i with | some (.cells _ cs) => .snap (cs.map (settleN h n)) off | some (.ice _ cs) => .psnap cs off | _ => .junk)
    | .eref i wd j off => (match h i with | some (.arr _ t xs _) => if width t = wd then .snap (enc t (rdEl t xs j)) off else .junk | _ => .junk)
    | .fn f cap => .fn f (cap.map (settleN h n))
    | _ => .junk

def freezeN (h : Nat → Option Box) : Nat → IC → List (Nat × Option Box)
  | 0, _ => []
  | n + 1, c =>
    match c with
    | .sref i => (match h i with | some (.arr ty t xs false) => [(i, some (.arr ty t xs true))] | _ => [])
    | .ref i _ => (match h i with | some (.cells _ cs) => cs.foldr (fun c r => freezeN h n c ++ r) [] | _ => [])
    | .eref i _ _ _ => (match h i with | some (.arr ty t xs false) => [(i, some (.arr ty t xs true))] | _ => [])
    | .fn _ cap => cap.foldr (fun c r => freezeN h n c ++ r) []
    | _ => []

def settleIV (h : Nat → Option Box) : IV → IV
  | .c x => .c (settleN h 6 x)
  | .agg cs => .agg (cs.map (settleN h 6))
  | .tup _ => .c .junk

def freezeIV (h : Nat → Option Box) : IV → List (Nat × Option Box)
  | .c x => freezeN h 6 x
  | .agg cs => cs.foldr (fun c r => freezeN h 6 c ++ r) []
  | .tup _ => []

def notTup : IV → Bool
  | .tup _ => false
  | _ => true

def celled : IV → Bool
  | .tup _ => false
  | .c .junk => false
  | _ => true

/-- Plain data. -/
def iceOk : IC → Bool
  | .v _ => true
  | .sl _ _ => true
  | _ => false

def canon (slot j : Nat) : Nat := 2 * (slot * 64 + j)

/-- A box kept: its new name, its old one (none: a nil slice becomes a box), the box. -/
abbrev Ent := Nat × Option Nat × Box

def elemsF (h : Nat → Option Box) (t : Ty) : IC → Option (List (El t))
  | .sl t' xs => asTy t t' xs
  | .v (.slice none 0 0) => some []
  | .sref id => (match h id with | some (.arr _ t' xs true) => asTy t t' xs | _ => none)
  | _ => none

def isFn : IC → Bool
  | .fn _ _ => true
  | _ => false

def flat : IC → Bool
  | .fn _ cap => cap.all fun c => !isFn c
  | _ => true

/-- A cell kept: what it is told as; the box that it takes along; the names that it goes on using. -/
def keepC (h : Nat → Option Box) (can : Nat) : LK → IC → Option (IC × List Ent × List Nat)
  | .plain, c => bif flat c then some (c, [], idOf c) else none
  | .sl t, c => (match elemsF h t c with | some xs => some (.sl t xs, [], []) | none => none)
  | .arr ty t, c => (match c with
    | .v (.slice none 0 0) => some (.sref can, [(can, none, .arr ty t [] false)], [])
    | .sref id => (match h id with
      | some (.arr ty' t' xs false) => if t' = t ∧ ty' = ty then some (.sref can, [(can, some id, .arr ty' t' xs false)], []) else none
      | _ => none)
    | _ => none)
  | .agg _, _ => none
  | .obj _, _ => none
  | .fno _, _ => none


def keepCells (h : Nat → Option Box) (id : Nat) : Nat → List LK → List IC → Option (List IC × List Ent × List Nat)
  | _, _, [] => some ([], [], [])
  | j, lks, c :: cs => (match keepC h (canon (1000 + id) j) (lks.headD .plain) c, keepCells h id (j + 1) lks.tail cs with
    | some (x, b, l), some (xs, bs, ls) => some (x :: xs, b ++ bs, l ++ ls)
    | _, _ => none)

/-- An object, by the pointer to it: it gets a name of its own. -/
def keepO (h : Nat → Option Box) (can : Nat) (lks : List LK) : IC → Option (IC × List Ent × List Nat)
  | .ref id 0 => (match h id with
    | some (.cells ty cs) => (match keepCells h can 0 lks cs with
      | some (cs', b, l) => some (.ref can 0, (can, some id, .cells ty cs') :: b, l)
      | none => none)
    | _ => none)
  | _ => none

/-- A function that has caught objects: each gets a name of its own. -/
def fname (can j : Nat) : Nat := can - 126 + 2 * j
def keepF1 (h : Nat → Option Box) (can : Nat) (lk : Option (List LK)) (c : IC) : Option (IC × List Ent × List Nat) :=
  match lk with
  | some l => keepO h can l c
  | none => bif isFn c then none else keepC h can .plain c
def keepF (h : Nat → Option Box) (can : Nat) : Nat → List (Option (List LK)) → List IC → Option (List IC × List Ent × List Nat)
  | _, _, [] => some ([], [], [])
  | j, lks, c :: cs => (match keepF1 h (fname can j) (lks.headD none) c, keepF h can (j + 1) lks.tail cs with
    | some (x, b, l), some (xs, bs, ls) => some (x :: xs, b ++ bs, l ++ ls)
    | _, _ => none)
def keepFn (h : Nat → Option Box) (can : Nat) (l : List (Option (List LK))) : IC → Option (IC × List Ent × List Nat)
  | .fn f cap => (match keepF h can 0 l cap with | some r => some (.fn f r.1, r.2) | none => none)
  | _ => none

/-- The first part of one's own row. -/
def keepW (h : Nat → Option Box) (can ty : Nat) (t : Ty) (id wd lo n : Nat) : Option (IC × List Ent × List Nat) :=
  match h id with
  | some (.arr ty' t' xs false) => if t' = t ∧ ty' = ty ∧ wd = width t ∧ lo = 0 ∧ ¬ can = id then some (.sref can, [(can, some id, .arr ty' t' (xs.take n) false)], []) else none
  | some (.row ty' t' xs) => if t' = t ∧ ty' = ty ∧ wd = width t ∧ lo = 0 ∧ ¬ can = id then some (.sref can, [(can, some id, .arr ty' t' (xs.take n) false)], []) else none
  | _ => none
def isView : IC → Bool
  | .view _ _ _ _ _ => true
  | _ => false
def keepA (h : Nat → Option Box) (can ty : Nat) (t : Ty) : IC → Option (IC × List Ent × List Nat)
  | .view id wd lo n _ => keepW h can ty t id wd lo n
  | x => keepC h can (.arr ty t) x
/-- What is to be asked ahead: that part is there. -/
def cutB (h : Nat → Option Box) : LK → IV → Option Bool
  | .arr _ _, .c (.view id _ _ n _) => (match h id with | some (.arr _ _ xs _) => some (decide (n ≤ xs.length)) | some (.row _ _ xs) => some (decide (n ≤ xs.length)) | _ => none)
  | _, _ => none
def cutK (h : Nat → Option Box) (t : Nat → IV) : List (Nat × LK) → R → R
  | [], k => k
  | p :: r, k => (match cutB h p.2 (t p.1) with | some b => test b (cutK h t r k) | none => cutK h t r k)

def keepV (h : Nat → Option Box) (can : Nat) (lk : LK) (v : IV) : Option (IV × List Ent × List Nat) :=
  match v with
  | .c x => (match lk with
    | .arr ty t => (match keepA h can ty t x with | some r => some (.c r.1, r.2) | none => none)
    | .obj lks => (match keepO h can lks x with | some r => some (.c r.1, r.2) | none => none)
    | .fno lks => (match keepFn h can lks x with | some r => some (.c r.1, r.2) | none => none)
    | lk => (match keepC h can lk x with | some r => some (.c r.1, r.2) | none => none))
  | .agg cs => (match lk with
    | .plain => bif cs.all flat then some (.agg cs, [], idsOf (.agg cs)) else none
    | .agg lks => (match keepCells h can 0 lks cs with | some r => some (.agg r.1, r.2) | none => none)
    | _ => none)
  | .tup _ => none

def keepTmps (h : Nat → Option Box) (t : Nat → IV) : List (Nat × LK) → Option (List (Nat × IV) × List Ent × List Nat)
  | [] => some ([], [], [])
  | (i, lk) :: r => (match keepV h (canon i 63) lk (t i), keepTmps h t r with
    | some (x, b, l), some (xs, bs, ls) => some ((i, x) :: xs, b ++ bs, l ++ ls)
    | _, _ => none)

def ofList {α : Type} (d : α) : List (Nat × α) → Nat → α
  | [], _ => d
  | (i, x) :: r, j => bif Nat.beq j i then x else ofList d r j

def nodup : List Nat → Bool
  | [] => true
  | i :: r => !(r.any (Nat.beq i)) && nodup r

def oldsOf (bs : List Ent) : List Nat := bs.foldr (fun b r => (match b.2.1 with | some o => [o] | none => []) ++ r) []

def Box.hot : Box → Bool
  | .arr _ _ _ true => false
  | .ice _ _ => false
  | _ => true

/-- What a box that is handed over may hold. -/
def outC : IC → IC
  | .v x => .v x
  | .sl t xs => .sl t xs
  | .sref i => .sref i
  | .ref i n => .ref i n
  | _ => .junk
def outOk : IC → Bool
  | .v _ | .sl _ _ | .sref _ | .ref _ _ => true
  | _ => false
def outV : IV → IV
  | .c x => .c (outC x)
  | .agg cs => .agg (cs.map outC)
  | .tup _ => .c .junk
def outB : Box → Bool
  | .cells _ cs => cs.all outOk
  | .arr _ _ _ fr => !fr
  | .ice _ _ => false
  | .row _ _ _ => false
  | .map _ _ _ _ => false

def isFalseC : IC → Bool
  | .v (.bool b) => !b
  | _ => false
/-- A long array of bools: how many, and of which type. -/
def boolArr (ty : Nat → Option TI) (i : TI) : Option (Nat × Nat) :=
  match i.d with
  | .arr m e => (match dOf ty e with
    | some .bool => cond (Nat.ble 16 m && (Nat.beq i.size m && i.zero.all isFalseC)) (some (m, e)) none
    | _ => none)
  | _ => none
/-- A pointer to a whole own row. -/
def arrBox (h : Nat → Option Box) (x : IV) : Option (Nat × Ty × Nat) :=
  match x with
  | .c (.ref id off) => cond (Nat.beq off 0) (match h id with | some (.arr _ τ xs _) => some (id, τ, xs.length) | _ => none) none
  | _ => none

/-! ### operations, one by one -/
section
variable (cfg : Cfg) (key : Nat) (h : Nat → Option Box) (k : Out → R)

def pure1 (x : IV) : R := k ⟨x, [], []⟩

def pickK (c a b : IV) : R := match c with | .c (.v (.bool t)) => k ⟨pickIV t a b, [], []⟩ | _ => none

def allocK (t : Nat) : R := bindK (cfg.ty t) fun i => need (i.zero.length = i.size) (match boolArr cfg.ty i with
  | some p => k ⟨.c (.ref key 0), [(key, some (.arr p.2 .bool (List.replicate p.1 false) false))], [key]⟩
  | none => k ⟨.c (.ref key 0), [(key, some (.cells t i.zero))], [key]⟩)

def boxK (t : Nat) (x : IV) : R := need (celled x = true) (k ⟨.c (.ref key 0), [(key, some (.cells t (cellsOf x)))], [key]⟩)

def places (ty : Nat → Option TI) : List (Nat × Nat) → Option (List (Nat × Nat))
  | [] => some []
  | (off, t) :: r => (match ty t, places ty r with | some i, some l => some ((off, i.size) :: l) | _, _ => none)

def buildK (t : Nat) (ix : List Nat) (xs : List IV) : R :=
  bindK (cfg.ty t) fun i => match i.d with
    | .st fs => bindK (places cfg.ty fs) fun ps => need (ix.length = xs.length ∧ xs.all celled = true) (bindK (buildParts ps i.zero (ix.zip xs)) fun cs => k ⟨.agg cs, [], []⟩)
    | .arr n e => bindK (cfg.ty e) fun ie => need (ix.length = xs.length ∧ xs.all celled = true) (bindK (buildParts ((List.range n).map fun j => (j * ie.size, ie.size)) i.zero (ix.zip xs)) fun cs => k ⟨.agg cs, [], []⟩)
    | _ => none

def buildSliceK (t len : Nat) (ix : List Nat) (xs : List IV) : R :=
  match dOf cfg.ty t with
  | some (.sl e) => bindK (cfg.ty e) fun i => bindK i.ty fun τ =>
      need (ix.length = xs.length ∧ ix.length = len ∧ len * i.size ≤ 16777216 ∧ xs.all celled = true ∧ i.size = width τ)
        (bindK (buildEls h τ 0 (ix.zip xs)) fun l => k ⟨.c (.sref key), freezeIVs h xs ++ [(key, some (.arr e τ l false))], [key]⟩)
  | _ => none

def loadK (t : Nat) (a : IV) : R :=
  bindK (cfg.ty t) fun i => need (i.d.agg = false → i.size = 1) (bindK (readAt h i.size a) fun cs => k ⟨mkIV i.d.agg cs, [], []⟩)

def storeK (t : Nat) (a x : IV) : R :=
  bindK (cfg.ty t) fun i => need ((cellsOf x).length = i.size ∧ (cellsOf x).any isJunk = false ∧ notTup x = true)
    (match a with
     | .c (.ref id off) => (match h id with
       | some (.cells ty cs) => need (off + i.size ≤ cs.length) (k ⟨.c .junk, [(id, some (.cells ty (splice cs off (cellsOf x))))], []⟩)
       | _ => none)
     | .c (.eref id wd j off) => (match h id with
       | some (.arr ty τ xs false) => need (width τ = wd ∧ off + i.size ≤ wd)
           (bindK (dec1 τ (splice (enc τ (rdEl τ xs j)) off ((cellsOf x).map (settle h)))) fun e => need ((freezeAll h (cellsOf x)).all (fun p => !Nat.beq p.1 id) = true) (k ⟨.c .junk, freezeAll h (cellsOf x) ++ [(id, some (.arr ty τ (xs.set j e) false))], []⟩))
       | _ => none)
     | _ => none)

def nilCheckK (x : IV) : R :=
  match x with
  | .c (.ref _ _) => k ⟨x, [], []⟩
  | .c (.snap _ _) => k ⟨x, [], []⟩
  | .c (.psnap _ _) => k ⟨x, [], []⟩
  | .c (.eref _ _ _ _) => k ⟨x, [], []⟩
  | .c (.fn _ _) => k ⟨x, [], []⟩
  | .c (.v (.pointer (some _))) => k ⟨x, [], []⟩
  | _ => none

/-- Bytes as a string. -/
def bytesStr (l : List Int) : ByteArray := ⟨(l.map fun n => UInt8.ofNat n.toNat).toArray⟩

def convertK (s d : Nat) (x : IV) : R :=
  match dOf cfg.ty d with
  | some (.int K) => (match x with
    | .c (.v (.int _ n)) => bindK (dOf cfg.ty s) fun _ => k ⟨vi K (K.wrap n), [], []⟩
    | _ => none)
  | some .str => (match dOf cfg.ty s with
    | some .str => (match x with | .c (.v (.string b)) => k ⟨vs b, [], []⟩ | _ => none)
    | some (.sl e) => need (dOf cfg.ty e matches some (.int .u8)) (bindK (elems h (.int .u8) x) fun l => k ⟨vs (bytesStr l), [], []⟩)
    | _ => none)
  | _ => none

def capsOf : List IV → Option (List IC)
  | [] => some []
  | .c x :: r => (match capsOf r with | some l => some (x :: l) | none => none)
  | _ => none

def makeFuncK (fn : Fn) (first : Nat) (cap : List IV) : R :=
  match fn with
  | .func f => need (first = 0) (bindK (capsOf cap) fun cs => k ⟨.c (.fn f cs), [], []⟩)
  | _ => none

def makeSliceK (t : Nat) (l c : IV) : R :=
  match dOf cfg.ty t, l, c with
  | some (.sl e), .c (.v (.int _ l)), .c (.v (.int _ c)) => bindK (cfg.ty e) fun i => bindK i.ty fun τ => bindK (dec1 τ i.zero) fun z =>
      need (0 < i.bytes ∧ i.size = width τ) (test (decide (0 ≤ l)) (test (decide (l ≤ c)) (test (decide (c ≤ (lim i.bytes : Int)))
        (k ⟨.c (.sref key), [(key, some (.arr e τ (List.replicate l.toNat z) false))], [key]⟩))))
  | _, _, _ => none

/-- The bounds of a slice expression, as they stand among the operands. -/
def lowOf (lo hi : Bool) (r : List IV) : Option (Option IV × Option IV) :=
  match lo, hi, r with
  | false, false, [] => some (none, none)
  | true, false, [l] => some (some l, none)
  | false, true, [h] => some (none, some h)
  | true, true, [l, h] => some (some l, some h)
  | _, _, _ => none

def sliceK (t : Nat) (lo hi : Bool) (x : IV) (r : List IV) : R :=
  bindK (lowOf lo hi r) fun b =>
  match dOf cfg.ty t with
  | some .str => (match x with
    | .c (.v (.string s)) => boundK b.2 s.size s.size fun hN => boundK b.1 hN 0 fun lN => k ⟨vs (s.extract lN hN), [], []⟩
    | _ => none)
  | some (.sl e) => bindK (cfg.ty e) fun i => bindK i.ty fun τ => need (i.size = width τ) (bindK (elems h τ x) fun xs =>
      boundK b.2 xs.length xs.length fun hN => boundK b.1 hN 0 fun lN => k ⟨.c (.sl τ ((xs.take hN).drop lN)), freezeAll h (cellsOf x), []⟩)
  | _ => none

def fieldAddrK (t : Nat) (x : IV) (f : Nat) : R :=
  match dOf cfg.ty t with
  | some (.st fs) => bindK (fs[f]?) fun q => bindK (cfg.ty q.2) fun i => bindK (moved q.1 x) fun y => need (0 < i.size) (k ⟨y, [], []⟩)
  | _ => none

def fieldK (t : Nat) (x : IV) (f : Nat) : R :=
  match dOf cfg.ty t, x with
  | some (.st fs), .agg cs => bindK (fs[f]?) fun q => bindK (cfg.ty q.2) fun i => need (i.d.agg = false → i.size = 1) (bindK (cut cs q.1 i.size) fun c => k ⟨mkIV i.d.agg c, [], []⟩)
  | _, _ => none

def indexAddrK (t : Nat) (x ix : IV) : R :=
  match dOf cfg.ty t, x, ix with
  | some (.sl e), .c (.sl τ xs), .c (.v (.int _ n)) => bindK (cfg.ty e) fun i => need (i.size = width τ)
      (test (decide (0 ≤ n)) (test (decide (n < (xs.length : Int))) (k ⟨.c (.snap (enc τ (rdEl τ xs n.toNat)) 0), [], []⟩)))
  | some (.sl e), .c (.sref id), .c (.v (.int _ n)) => (match h id with
    | some (.arr _ τ xs _) => bindK (cfg.ty e) fun i => need (i.size = width τ)
        (test (decide (0 ≤ n)) (test (decide (n < (xs.length : Int))) (k ⟨.c (.eref id (width τ) n.toNat 0), [], []⟩)))
    | _ => none)
  | some (.arr m e), x, .c (.v (.int _ n)) => bindK (cfg.ty e) fun i => need (2 ≤ m) (match arrBox h x with
      | some p => need (i.size = width p.2.1)
        (test (decide (0 ≤ n)) (test (decide (n < (m : Int))) (test (decide (n < (p.2.2 : Int))) (k ⟨.c (.eref p.1 (width p.2.1) n.toNat 0), [], []⟩))))
      | none => (test (decide (0 ≤ n)) (test (decide (n < (m : Int))) (bindK (moved (n.toNat * i.size) x) fun y => k ⟨y, [], []⟩))))
  | _, _, _ => none

/-- An array of integers: its elements. -/
def allInts : List IC → Option (IntKind × List Int)
  | [.v (.int K a)] => some (K, [a])
  | .v (.int K a) :: r => (match allInts r with | some (K', l) => if K' = K then some (K, a :: l) else none | none => none)
  | _ => none
def intsOf (agg : Bool) (size m : Nat) (cs : List IC) : Option (IntKind × List Int) := cond (!agg && (Nat.beq size 1 && Nat.beq cs.length m)) (allInts cs) none

def indexK (t : Nat) (x ix : IV) : R :=
  match dOf cfg.ty t, x, ix with
  | some .str, .c (.v (.string s)), .c (.v (.int _ n)) => test (decide (0 ≤ n)) (test (decide (n < (s.size : Int))) (k ⟨vi .u8 (byteAt s n), [], []⟩))
  | some (.arr m e), .agg cs, .c (.v (.int _ n)) => bindK (cfg.ty e) fun i => need (i.d.agg = false → i.size = 1)
      (test (decide (0 ≤ n)) (test (decide (n < (m : Int))) (match intsOf i.d.agg i.size m cs with
        | some p => k ⟨vi p.1 (rdEl (.int p.1) p.2 n.toNat), [], []⟩
        | none => bindK (cut cs (n.toNat * i.size) i.size) fun c => k ⟨mkIV i.d.agg c, [], []⟩)))
  | _, _, _ => none

def extractK (x : IV) (i : Nat) : R := match x with | .tup xs => bindK (xs[i]?) fun y => k ⟨y, [], []⟩ | _ => none

def lenK (t : Nat) (x : IV) : R :=
  match dOf cfg.ty t, x with
  | some .str, .c (.v (.string s)) => k ⟨vi .i64 (s.size : Int), [], []⟩
  | some (.sl _), .c (.sl _ xs) => k ⟨vi .i64 (xs.length : Int), [], []⟩
  | some (.sl _), .c (.v (.slice none 0 0)) => k ⟨vi .i64 0, [], []⟩
  | some (.sl _), .c .emp => k ⟨vi .i64 0, [], []⟩
  | some (.sl _), .c (.sref id) => (match h id with | some (.arr _ _ xs _) => k ⟨vi .i64 (xs.length : Int), [], []⟩ | _ => none)
  | some (.sl _), .c (.view _ _ _ n _) => k ⟨vi .i64 (n : Int), [], []⟩
  | some (.map _ _), .c (.mref id) => (match h id with | some (.map _ _ es _) => k ⟨vi .i64 (es.length : Int), [], []⟩ | _ => none)
  | _, _ => none

/-- A slice's elements, as they now stand. -/
def elemsK (h : Nat → Option Box) (t : Ty) (x : IV) (k : List (El t) → R) : R :=
  match x with
  | .c (.view id wd lo n _) => (match h id with
    | some (.arr _ t' xs _) => bindK (asTy t t' xs) fun xs => need (wd = width t) (test (decide (lo + n ≤ xs.length)) (k ((xs.drop lo).take n)))
    | some (.row _ t' xs) => bindK (asTy t t' xs) fun xs => need (wd = width t) (test (decide (lo + n ≤ xs.length)) (k ((xs.drop lo).take n)))
    | _ => none)
  | x => bindK (elems h t x) k

def appendK (t u : Nat) (s x : IV) : R :=
  match dOf cfg.ty t, dOf cfg.ty u with
  | some (.sl e), some (.sl _) => bindK (cfg.ty e) fun i => bindK i.ty fun τ => elemsK h τ x fun ys => need (0 < i.bytes ∧ i.size = width τ)
      (match s with
       | .c (.v (.slice none 0 0)) => test (decide (ys.length ≤ lim i.bytes)) (k ⟨.c (.sref key), [(key, some (.arr e τ ys false))], [key]⟩)
       | .c (.sref id) => (match h id with
         | some (.arr _ τ' xs' false) => bindK (asTy τ τ' xs') fun xs => test (decide (xs.length + ys.length ≤ lim i.bytes))
             (k ⟨.c (.sref key), [(id, none), (key, some (.arr e τ (xs ++ ys) false))], [key]⟩)
         | _ => none)
       | _ => none)
  | _, _ => none

/-! ### places in one's own rows -/

/-- ys laid over a list from i on. -/
def over {α : Type} (xs : List α) (i : Nat) (ys : List α) : List α := xs.take i ++ (ys ++ xs.drop (i + ys.length))

/-- A place in one's own row: whose, from where, how much, its room if that is known, the most that it may be made. -/
def viewK (t : Ty) (x : IV) (k : Nat → Nat → Nat → Option Nat → Nat → R) : R :=
  match x with
  | .c (.sref id) => (match h id with | some (.arr _ t' xs false) => need (t' = t) (k id 0 xs.length none xs.length) | _ => none)
  | .c (.view id wd lo n c) => (match h id with | some (.arr _ t' xs false) => need (t' = t ∧ wd = width t) (k id lo n c (match c with | some z => z - lo | none => xs.length - lo)) | some (.row _ t' xs) => need (t' = t ∧ wd = width t) (k id lo n c (match c with | some z => z - lo | none => xs.length - lo)) | _ => none)
  | _ => none

/-- Does it go on as a place? -/
def viewed (mode : Bool) : IV → Bool
  | .c (.sref _) => mode
  | .c (.view _ _ _ _ _) => true
  | _ => false

def sliceVK (t : Nat) (lo hi : Bool) (x : IV) (r : List IV) : R :=
  bindK (lowOf lo hi r) fun b =>
  match dOf cfg.ty t with
  | some (.sl e) => bindK (cfg.ty e) fun i => bindK i.ty fun τ => need (i.size = width τ) (viewK h τ x fun id l n c top =>
      boundK b.2 top n fun hN => boundK b.1 hN 0 fun lN => k ⟨.c (.view id (width τ) (l + lN) (hN - lN) c), [], []⟩)
  | _ => none

/-- A slice with all three bounds, of which nothing is known behind it. -/
def slice3K (t : Nat) (x : IV) (r : List IV) : R :=
  match dOf cfg.ty t, r with
  | some (.sl e), [.c (.v (.int _ l)), .c (.v (.int _ z)), .c (.v (.int _ m))] => bindK (cfg.ty e) fun i => bindK i.ty fun τ => need (i.size = width τ) (viewK h τ x fun _ _ _ _ top =>
      test (decide (0 ≤ m)) (test (decide (m ≤ (top : Int))) (test (decide (0 ≤ z)) (test (decide (z ≤ m)) (test (decide (0 ≤ l)) (test (decide (l ≤ z)) (k ⟨.c .junk, [], []⟩)))))))
  | _, _ => none

def isView1 : IV → Bool
  | .c (.view _ _ _ _ _) => true
  | _ => false

/-- What is written into one's own row, from a place on: over what stood there. -/
def writeVK (τ : Ty) (id lo : Nat) (ys : List (El τ)) (v : IV) : R :=
  match h id with
  | some (.arr ty' τ' xs' false) => bindK (asTy τ τ' xs') fun xs => test (decide (lo + ys.length ≤ xs.length)) (k ⟨v, [(id, some (.arr ty' τ (over xs lo ys) false))], []⟩)
  | some (.row ty' τ' xs') => bindK (asTy τ τ' xs') fun xs => test (decide (lo ≤ xs.length)) (k ⟨v, [(id, some (.row ty' τ (over xs lo ys)))], []⟩)
  | _ => none

def rowK (τ : Ty) (id : Nat) (k : List (El τ) → R) : R :=
  match h id with
  | some (.arr _ τ' xs' false) => bindK (asTy τ τ' xs') k
  | some (.row _ τ' xs') => bindK (asTy τ τ' xs') k
  | _ => none

def appendVK (t u : Nat) (s x : IV) : R :=
  match dOf cfg.ty t, dOf cfg.ty u, s with
  | some (.sl e), some (.sl _), .c (.view id wd lo n c) => bindK (cfg.ty e) fun i => bindK i.ty fun τ => elemsK h τ x fun ys => need (0 < i.bytes ∧ i.size = width τ ∧ wd = width τ)
      (rowK h τ id fun xs =>
        (match c with
         | none => test (decide (lo + n + ys.length ≤ xs.length)) (writeVK h k τ id (lo + n) ys (.c (.view id wd lo (n + ys.length) none)))
         | some z => cond (decide (lo + n + ys.length ≤ z)) (writeVK h k τ id (lo + n) ys (.c (.view id wd lo (n + ys.length) (some z))))
             (test (decide (lo + n ≤ xs.length)) (test (decide (n + ys.length ≤ lim i.bytes)) (k ⟨.c (.sref key), [(key, some (.arr e τ ((xs.drop lo).take n ++ ys) false))], [key]⟩)))))
  | _, _, _ => none

/-- Noughts behind a place that has no room for them: the translation hands over how many. -/
def appendZK (t u : Nat) (s x : IV) : R :=
  match dOf cfg.ty t, dOf cfg.ty u, s, x with
  | some (.sl e), some (.int _), .c (.view id wd lo n (some z)), .c (.v (.int _ l)) => bindK (cfg.ty e) fun i => bindK i.ty fun τ => bindK (dec1 τ i.zero) fun zz => need (0 < i.bytes ∧ i.size = width τ ∧ wd = width τ)
      (rowK h τ id fun xs => test (decide (0 < l)) (test (decide ((z : Int) < ((lo + n : Nat) : Int) + l)) (test (decide (lo + n ≤ xs.length)) (test (decide (n + l.toNat ≤ lim i.bytes))
        (k ⟨.c (.sref key), [(key, some (.arr e τ ((xs.drop lo).take n ++ List.replicate l.toNat zz) false))], [key]⟩)))))
  | _, _, _, _ => none

def isInt1 : IV → Bool
  | .c (.v (.int _ _)) => true
  | _ => false

def clearK (t : Nat) (x : IV) : R :=
  match dOf cfg.ty t, x with
  | some (.sl e), .c (.view id wd lo n _) => bindK (cfg.ty e) fun i => bindK i.ty fun τ => bindK (dec1 τ i.zero) fun z => need (i.size = width τ ∧ wd = width τ)
      (writeVK h k τ id lo (List.replicate n z) (.tup []))
  | _, _ => none

/-- Of a place no more than so much. -/
def shrink (m : Nat) : IV → IV
  | .c (.view id wd lo n c) => .c (.view id wd lo (Nat.min n m) c)
  | x => x

def copyK (t u : Nat) (d s : IV) : R :=
  match dOf cfg.ty t, dOf cfg.ty u, d with
  | some (.sl e), some (.sl _), .c (.view id wd lo n _) => bindK (cfg.ty e) fun i => bindK i.ty fun τ => elemsK h τ (shrink n s) fun ys => need (i.size = width τ ∧ wd = width τ)
      (writeVK h k τ id lo (ys.take n) (vi .i64 (((ys.take n).length : Nat) : Int)))
  | _, _, _ => none

def capK (t : Nat) (x : IV) : R :=
  match dOf cfg.ty t, x with
  | some (.sl _), .c (.view _ _ lo _ (some z)) => k ⟨vi .i64 ((z - lo : Nat) : Int), [], []⟩
  | _, _ => none

/-! ### maps -/

def eqEl : (t : Ty) → El t → El t → Bool
  | .int _, a, b => let x : Int := a; let y : Int := b; x == y
  | .bool, a, b => let x : Bool := a; let y : Bool := b; x == y
  | .str, a, b => let x : ByteArray := a; let y : ByteArray := b; x.toList == y.toList
  | .prod s t, a, b => eqEl s a.1 b.1 && eqEl t a.2 b.2
  | .sl _, _, _ => false
  | .pint _, _, _ => false
  | .addr, _, _ => false

def scalarTy : D → Ty → Bool
  | .int k, .int k' => decide (k = k')
  | .bool, .bool => true
  | .str, .str => true
  | _, _ => false
def keyFs (ty : Nat → Option TI) : Nat → List (Nat × Nat) → Ty → Bool
  | i, [(o, t)], τ => Nat.beq o i && (match dOf ty t with | some d => scalarTy d τ | none => false)
  | i, (o, t) :: r, .prod a b => Nat.beq o i && ((match dOf ty t with | some d => scalarTy d a | none => false) && keyFs ty (i + 1) r b)
  | _, _, _ => false
/-- Keys of this type are told apart by their data. -/
def keyFits (ty : Nat → Option TI) : D → Ty → Bool
  | .st fs, .prod a b => keyFs ty 0 fs (.prod a b)
  | d, τ => scalarTy d τ

abbrev Ents (κ τ : Ty) : Type := List (El κ × El τ × Nat)
def hasE (κ τ : Ty) (x : El κ) (es : Ents κ τ) : Bool := es.any fun e => eqEl κ x e.1
def getE (κ τ : Ty) (z : El τ) (x : El κ) : Ents κ τ → El τ
  | [] => z
  | e :: r => bif eqEl κ x e.1 then e.2.1 else getE κ τ z x r
def bornE (κ τ : Ty) (c : Nat) (x : El κ) : Ents κ τ → Nat
  | [] => c
  | e :: r => bif eqEl κ x e.1 then e.2.2 else bornE κ τ c x r
def setE (κ τ : Ty) (c : Nat) (x : El κ) (v : El τ) : Ents κ τ → Ents κ τ
  | [] => [(x, v, c)]
  | e :: r => bif eqEl κ x e.1 then (e.1, v, e.2.2) :: r else e :: setE κ τ c x v r
def delE (κ τ : Ty) (x : El κ) : Ents κ τ → Ents κ τ
  | [] => []
  | e :: r => bif eqEl κ x e.1 then r else e :: delE κ τ x r
def bornIn (κ τ : Ty) (n : Int) (es : Ents κ τ) : Bool := es.any fun e => (e.2.2 : Int) == n
def putE (κ τ : Ty) (n : Int) (v : El τ) : Ents κ τ → Ents κ τ
  | [] => []
  | e :: r => bif (e.2.2 : Int) == n then (e.1, v, e.2.2) :: r else e :: putE κ τ n v r
def clockE (κ τ : Ty) (c : Nat) (x : El κ) (es : Ents κ τ) : Nat := bif hasE κ τ x es then c else c + 1

def isAggV : IV → Bool
  | .agg _ => true
  | _ => false

def makeMapK (t : Nat) : R :=
  match dOf cfg.ty t with
  | some (.map kt et) => bindK (tyOf cfg.ty kt) fun κ => bindK (tyOf cfg.ty et) fun τ => k ⟨.c (.mref key), [(key, some (.map κ τ [] 0))], [key]⟩
  | _ => none

/-- A map's types, its entries, and the key that is asked. -/
def mapK (t : Nat) (m x : IV) (k : (κ τ : Ty) → Nat → Ents κ τ → Nat → El κ → El τ → R) : R :=
  match dOf cfg.ty t, m with
  | some (.map kt et), .c (.mref id) => (match h id with
    | some (.map κ τ es c) => bindK (dOf cfg.ty kt) fun kd => bindK (cfg.ty et) fun ie => bindK (dec1 τ ie.zero) fun z => bindK (dec1 κ (cellsOf x)) fun a =>
        need (keyFits cfg.ty kd κ = true ∧ scalarTy ie.d τ = true ∧ isAggV x = kd.agg ∧ notTup x = true) (k κ τ id es c a z)
    | _ => none)
  | _, _ => none

def lookupK (t : Nat) (m x : IV) (ok : Bool) : R := mapK cfg h t m x fun κ τ _ es _ a z =>
  k ⟨bif ok then .tup [mkIV false (enc τ (getE κ τ z a es)), vb (hasE κ τ a es)] else mkIV false (enc τ (getE κ τ z a es)), [], []⟩
def mapUpdateK (t : Nat) (m x v : IV) : R := mapK cfg h t m x fun κ τ id es c a _ => bindK (dec1 τ (cellsOf v)) fun y => need (isAggV v = false ∧ notTup v = true)
  (k ⟨.c .junk, [(id, some (.map κ τ (setE κ τ c a y es) (clockE κ τ c a es)))], []⟩)
def mapEntryK (t : Nat) (m x : IV) : R := mapK cfg h t m x fun κ τ id es c a z =>
  k ⟨.tup [mkIV false (enc τ (getE κ τ z a es)), vi .i64 (bornE κ τ c a es : Int)], [(id, some (.map κ τ (setE κ τ c a (getE κ τ z a es) es) (clockE κ τ c a es)))], []⟩
def deleteK (t : Nat) (m x : IV) : R := mapK cfg h t m x fun κ τ id es c a _ =>
  k ⟨.tup [], [(id, some (.map κ τ (delE κ τ a es) c))], []⟩
def entryStoreK (t : Nat) (m s v : IV) : R :=
  match dOf cfg.ty t, m, s with
  | some (.map _ et), .c (.mref id), .c (.v (.int _ n)) => (match h id with
    | some (.map κ τ es c) => bindK (cfg.ty et) fun ie => bindK (dec1 τ (cellsOf v)) fun y => need (scalarTy ie.d τ = true ∧ isAggV v = false ∧ notTup v = true)
        (test (bornIn κ τ n es) (k ⟨.c .junk, [(id, some (.map κ τ (putE κ τ n y es) c))], []⟩))
    | _ => none)
  | _, _, _ => none

/-- Handed so that it is turned no more: where, and what of it. -/
def iceArg (b : Bool) : IV → Option (Nat × Nat × Nat × List IC)
  | .c (.ref i off) => bif b then (match h i with | some (.cells ty cs) => bif cs.all iceOk then some (i, off, ty, cs) else none | _ => none) else none
  | _ => none

/-- The arguments as they are told; what is written no more; what is turned no more. -/
def argsK : List Bool → List IV → List IV × List (Nat × Option Box) × List (Nat × Nat × List IC)
  | _, [] => ([], [], [])
  | bs, x :: r =>
    match iceArg h (bs.headD false) x with
    | some (i, off, ty, cs) => (.c (.psnap cs off) :: (argsK bs.tail r).1, (argsK bs.tail r).2.1, (i, ty, cs) :: (argsK bs.tail r).2.2)
    | none => (settleIV h x :: (argsK bs.tail r).1, freezeIV h x ++ (argsK bs.tail r).2.1, (argsK bs.tail r).2.2)

def iceUps (l : List (Nat × Nat × List IC)) : List (Nat × Option Box) := l.map fun p => (p.1, some (.ice p.2.1 p.2.2))

/-- Numbers, strings, Booleans alone. -/
def scalarC : IC → Bool
  | .v _ => true
  | _ => false
def scalarV : IV → Bool
  | .c c => scalarC c
  | .agg cs => cs.all scalarC
  | .tup vs => vs.all fun v => match v with | .c c => scalarC c | .agg cs => cs.all scalarC | .tup _ => false

def callK (g : FuncId) (args : List IV) : R :=
  bindK (cfg.spec g) fun sp => need (args.all notTup = true) (sp.2 (argsK h sp.1 args).1 fun r _ => cond (scalarV r) (k ⟨r, [], []⟩) (k ⟨r, (argsK h sp.1 args).2.1 ++ iceUps (argsK h sp.1 args).2.2, []⟩))

/-! ### a call that is handed boxes -/

/-- Which arguments are handed over so: not where it is nil. -/
def ownAt (lk : Option LK) (a : IV) : Option LK :=
  match lk, a with
  | some _, .c (.v (.pointer none)) => none
  | o, _ => o

def ownT : Nat → List (Option LK) → List IV → List (Nat × LK)
  | j, lk :: r, a :: l => (match ownAt lk a with | some lk => (800 + j, lk) :: ownT (j + 1) r l | none => ownT (j + 1) r l)
  | _, _, _ => []

def plainAs (T : List (Nat × LK)) : Nat → List IV → List IV
  | _, [] => []
  | j, a :: l => (bif T.any fun p => Nat.beq p.1 (800 + j) then .c .junk else a) :: plainAs T (j + 1) l

def toldAs (ts : List (Nat × IV)) : Nat → List IV → List IV
  | _, [] => []
  | j, a :: l => (match ts.find? fun p => Nat.beq p.1 (800 + j) with | some p => p.2 | none => a) :: toldAs ts (j + 1) l

/-- The names by which the caller knows what comes back: its own objects go on as they were called. -/
def isCells : Box → Bool
  | .cells _ _ => true
  | _ => false
def objOf (bs : List Ent) (n : Nat) : Option Nat :=
  match bs with
  | [] => none
  | (m, o, b) :: r => bif Nat.beq m n && isCells b then o else objOf r n

def backNames (bs : List Ent) (key : Nat) : Nat → List (Nat × Box) → List (Nat × Nat)
  | _, [] => []
  | i, (n, _) :: r => (n, match objOf bs n with | some o => o | none => 2 * ((4096 + key) * 4096 + i)) :: backNames bs key (i + 1) r

def renN (l : List (Nat × Nat)) (n : Nat) : Option Nat := match l with | [] => none | (m, k) :: r => bif Nat.beq m n then some k else renN r n
def renC (l : List (Nat × Nat)) : IC → IC
  | .v x => .v x
  | .sl t xs => .sl t xs
  | .sref n => (match renN l n with | some k => .sref k | none => .junk)
  | .ref n off => (match renN l n with | some k => .ref k off | none => .junk)
  | _ => .junk
def renV (l : List (Nat × Nat)) : IV → IV
  | .c x => .c (renC l x)
  | .agg cs => .agg (cs.map (renC l))
  | .tup vs => .tup (vs.map fun v => match v with | .c x => .c (renC l x) | .agg cs => .agg (cs.map (renC l)) | .tup _ => .c .junk)
def renB (l : List (Nat × Nat)) : Box → Box
  | .cells ty cs => .cells ty (cs.map (renC l))
  | b => b

def newNames (bs : List Ent) : List (Nat × Nat) → List Nat
  | [] => []
  | (n, k) :: r => (match objOf bs n with | some _ => newNames bs r | none => k :: newNames bs r)

/-- What comes back tells of nothing that was handed. -/
def flatTy : Ty → Bool
  | .int _ => true
  | .bool => true
  | .str => true
  | .prod a b => flatTy a && flatTy b
  | .sl _ => false
  | .pint _ => false
  | .addr => false
def flatC : IC → Bool
  | .v _ => true
  | .sref _ => true
  | .ref _ _ => true
  | _ => false
def flatBx : Box → Bool
  | .arr _ t _ false => flatTy t
  | .cells _ cs => cs.all flatC
  | _ => false
def flatIV : IV → Bool
  | .c c => flatC c
  | .agg cs => cs.all flatC
  | .tup vs => vs.all fun v => match v with | .c c => flatC c | .agg cs => cs.all flatC | .tup _ => false
def flatOut (r : IV) (bx : List (Nat × Box)) : Bool := flatIV r && bx.all (fun e => flatBx e.2)

def ocallK (g : FuncId) (args : List IV) : R :=
  bindK (cfg.more.ospec g) fun sp => need (args.all notTup = true)
    (let T := ownT 0 sp.own args
     bindK (keepTmps h (fun i => args.getD (i - 800) (.c .junk)) T) fun q =>
     cutK h (fun i => args.getD (i - 800) (.c .junk)) T <| test (nodup (q.2.1.map (·.1)) && nodup (oldsOf q.2.1) && q.2.1.all (fun e => e.2.2.hot) && q.2.2.isEmpty)
      (let A := argsK (fun i => bif (oldsOf q.2.1).any (Nat.beq i) then none else h i) sp.ice (plainAs T 0 args)
       sp.sp (toldAs q.1 0 A.1) (q.2.1.map fun e => (e.1, e.2.2)) fun r bx =>
        let l := backNames q.2.1 key 0 bx
        test (nodup (l.map (·.1)) && nodup (l.map (·.2)) && bx.all (fun e => outB e.2))
          (k ⟨renV l r, (bif flatOut r bx then [] else A.2.1 ++ iceUps A.2.2) ++ ((oldsOf q.2.1).map fun i => (i, none)) ++ bx.map (fun e => ((renN l e.1).getD 0, some (renB l e.2))), newNames q.2.1 l⟩)))

def calls2K (g : FuncId) (args : List IV) : R :=
  match cfg.spec g with
  | some _ => callK cfg h k g args
  | none => ocallK cfg key h k g args

def ownB : Option Box → Bool
  | some (.arr _ _ _ false) => true
  | some (.row _ _ _) => true
  | _ => false

/-- Do they overlap, of two rows of one's own? -/
def ovlK (args : List IV) : R :=
  match args with
  | [.c (.sref i), .c (.view j _ _ _ _)] => bif ownB (h i) && (ownB (h j) && !(Nat.beq i j)) then k ⟨.c (.v (.bool false)), [], []⟩ else none
  | _ => none

def callsK (g : FuncId) (args : List IV) : R := bif cfg.more.ovl.any (Nat.beq g) then ovlK h k args else calls2K cfg key h k g args

def builtinK (b : Builtin) (ts : Array Nat) (xs : List IV) : R :=
  match b, xs with
  | .len, [x] => bindK (ts[0]?) fun t => lenK cfg h k t x
  | .max, x :: r => bindK (minmax true x r) fun v => k ⟨v, [], []⟩
  | .min, x :: r => bindK (minmax false x r) fun v => k ⟨v, [], []⟩
  | .append, [s, x] => bindK (ts[0]?) fun t => bindK (ts[1]?) fun u => bif isView1 s then (bif isInt1 x then appendZK cfg key h k t u s x else appendVK cfg key h k t u s x) else appendK cfg key h k t u s x
  | .clear, [x] => bindK (ts[0]?) fun t => clearK cfg h k t x
  | .copy, [d, s] => bindK (ts[0]?) fun t => bindK (ts[1]?) fun u => copyK cfg h k t u d s
  | .cap, [x] => bindK (ts[0]?) fun t => capK cfg k t x
  | .delete, [m, x] => bindK (ts[0]?) fun t => deleteK cfg h k t m x
  | _, _ => none

/-- What one operation does: its result, the boxes that it turns, the boxes that are new. -/
def coreK (op : Op) (vals : List IV) : R :=
  match op, vals with
  | .move _, [x] => k ⟨x, [], []⟩
  | .assign _, [x] => k ⟨x, [], []⟩
  | .pick _ _ _, [c, a, b] => pickK k c a b
  | .alloc t, [] => allocK cfg key k t
  | .box t _, [x] => boxK key k t x
  | .build t parts, xs => buildK cfg k t (parts.toList.map (·.1)) xs
  | .buildSlice t len parts, xs => buildSliceK cfg key h k t len (parts.toList.map (·.1)) xs
  | .load t _, [a] => loadK cfg h k t a
  | .store t _ _, [a, x] => storeK cfg h k t a x
  | .nilCheck _, [x] => nilCheckK k x
  | .binOp op xt _ _ _, [x, y] => binK cfg.ty op xt x y fun r => k ⟨r, [], []⟩
  | .unOp op _ _, [x] => unK op x fun r => k ⟨r, [], []⟩
  | .convert s d _, [x] => convertK cfg h k s d x
  | .makeFunc fn first _, cap => makeFuncK k fn first.size cap
  | .makeSlice t _ _, [l, c] => makeSliceK cfg key k t l c
  | .slice t _ lo hi none, x :: r => bif viewed cfg.more.view x then sliceVK cfg h k t lo.isSome hi.isSome x r else sliceK cfg h k t lo.isSome hi.isSome x r
  | .slice t _ (some _) (some _) (some _), x :: r => slice3K cfg h k t x r
  | .makeMap t none, [] => makeMapK cfg key k t
  | .lookup t _ _ ok, [m, x] => lookupK cfg h k t m x ok
  | .mapUpdate t _ _ _, [m, x, v] => mapUpdateK cfg h k t m x v
  | .mapEntry t _ _, [m, x] => mapEntryK cfg h k t m x
  | .entryStore t _ _ _, [m, s, v] => entryStoreK cfg h k t m s v
  | .fieldAddr t _ f, [x] => fieldAddrK cfg k t x f
  | .field t _ f, [x] => fieldK cfg k t x f
  | .indexAddr t _ _, [x, i] => indexAddrK cfg h k t x i
  | .index t _ _, [x, i] => indexK cfg k t x i
  | .extract _ i, [x] => extractK k x i
  | .call ⟨.builtin b, _, ts⟩, xs => builtinK cfg key h k b ts xs
  | .call ⟨.value _, _, _⟩, .c (.fn g cap) :: args => callsK cfg key h k g (args ++ cap.map .c)
  | _, _ => none
end

/-! ### a region -/

def ev (σ : St) : Operand → IV
  | .tmp t => σ.t t
  | .const v => .c (cond v.oneCell' (.v v) .junk)
  | .func f => .c (.fn f [])
  | .global _ => .c .junk

def idsIn (cs : List IC) : List Nat := cs.foldr (fun c r => idOf c ++ r) []

def reach (h : Nat → Option Box) : Nat → List Nat → List Nat
  | 0, l => l
  | n + 1, l => l ++ reach h n (l.foldr (fun i r => (match h i with | some (.cells _ cs) => idsIn cs | _ => []) ++ r) [])

def restrict (h : Nat → Option Box) (l : List Nat) : Nat → Option Box := fun i => bif l.any (Nat.beq i) then h i else none

def isStore : Op → Bool
  | .store _ _ _ => true
  | _ => false
def idsAll (σ : St) (o : Oper) : List Nat := (o.op.operands.toList.map (ev σ)).foldr (fun v r => idsOf v ++ r) []
/-- What looks at no box. -/
def noHeap : Op → Bool
  | .move _ | .assign _ | .pick _ _ _ | .alloc _ | .box _ _ | .build _ _ | .nilCheck _ | .binOp _ _ _ _ _ | .unOp _ _ _ | .makeFunc _ _ _ | .makeSlice _ _ _ | .fieldAddr _ _ _ | .field _ _ _ | .extract _ _ => true
  | _ => false
/-- What looks at all that can be reached. -/
def deep : Op → Bool
  | .call _ => true
  | _ => false
def readsOf (σ : St) (o : Oper) : List Nat := bif noHeap o.op then [] else bif deep o.op then reach σ.h 3 (idsAll σ o) else idsAll σ o

def St.put (σ : St) (d : Option Nat) (v : IV) : St := match d with | some d => { σ with t := upd σ.t d v } | none => σ

def St.apply (σ : St) (d : Option Nat) (o : Out) : St :=
  ({ t := σ.t, h := updMany σ.h o.ups, u := updMany σ.u (o.news.map fun i => (i, true)) } : St).put d o.v

def dstOk (n : Nat) : Option Nat → Bool
  | some d => Nat.blt d n
  | none => true

def stepK (cfg : Cfg) (n : Nat) (key : Nat) (o : Oper) (σ : St) (k : Out → St → R) : R :=
  test (dstOk n o.dst)
    (coreK cfg key (restrict σ.h (readsOf σ o)) (fun out => test (out.news.all fun i => !σ.u i) (k out (σ.apply o.dst out))) o.op (o.op.operands.toList.map (ev σ)))

/-- What an operation has touched. -/
structure Fp where
  dst : Option Nat
  looks : List Nat
  rd : List Nat
  wr : List Nat
  st : Option (Nat × Nat × Nat)
  mp : Option (Nat × Nat × Bool)

/-- One looks at a map where the other one makes room for a key: it sees the same either way. -/
def Fp.mps (a b : Fp) : Bool :=
  match a.dst, b.dst, a.mp, b.mp with
  | some d, some e, some (t, i, false), some (u, j, true) => Nat.beq t u && Nat.beq i j && (!(b.looks.any (Nat.beq d)) && (!(Nat.beq d e) && !(a.looks.any (Nat.beq e))))
  | _, _, _, _ => false

/-- Stores into one box, at places of their own. -/
def Fp.strs (a b : Fp) : Bool :=
  match a.dst, b.dst, a.st, b.st with
  | none, none, some (i, o, n), some (j, p, m) => Nat.beq i j && (Nat.ble (o + n) p || Nat.ble (p + m) o)
  | _, _, _, _ => false

def Fp.apart0 (a b : Fp) : Bool :=
  (match a.dst with | some d => !(b.looks.any (Nat.beq d)) && (match b.dst with | some e => !(Nat.beq d e) | none => true) | none => true) &&
  (match b.dst with | some d => !(a.looks.any (Nat.beq d)) | none => true) &&
  a.wr.all (fun i => !(b.rd.any (Nat.beq i)) && !(b.wr.any (Nat.beq i))) && b.wr.all (fun i => !(a.rd.any (Nat.beq i)))

def Fp.apart (a b : Fp) : Bool := (Fp.apart0 a b || Fp.strs a b) || Fp.mps a b

def St.know (σ : St) (d : Nat) (b : Bool) : St := { σ with t := upd σ.t d (vb b) }

/-- An operation behind a guard: it is carried out, or passed over. -/
def guardK (all : Array Oper) (o : Oper) (σ : St) (go skip : St → R) : R :=
  match o.guard with
  | none => go σ
  | some (j, want) =>
    match (all[j]?).bind (·.dst) with
    | some d => (match σ.t d with
      | .c (.v (.bool b)) => cond b (bif want then go (σ.know d true) else skip (σ.know d true)) (bif want then skip (σ.know d false) else go (σ.know d false))
      | .tup [] => skip σ
      | _ => none)
    | none => none

def keyOf (rid i : Nat) : Nat := 1 + 2 * (rid * 256 + i)

/-- The operations in the text's order. -/
def opsK (cfg : Cfg) (n rid : Nat) (all : Array Oper) : List Oper → Nat → St → (St → R) → R
  | [], _, σ, k => k σ
  | o :: rest, i, σ, k =>
    guardK all o σ (fun σ => stepK cfg n (keyOf rid i) o σ fun _ σ' => opsK cfg n rid all rest (i + 1) σ' k)
      (fun σ => test (dstOk n o.dst) (opsK cfg n rid all rest (i + 1) (σ.put o.dst (.tup [])) k))

/-- The operations that come ahead of each, by the edges; 'ancs': of those ahead, the last one first. -/
def ancOf (o : Oper) (i : Nat) (ancs : List Nat) : Nat := o.after.toList.foldr (fun e r => bif Region.binds .any e then Nat.lor (Nat.lor (Nat.shiftLeft 1 e.on) (ancs.getD (i - 1 - e.on) 0)) r else r) 0

/-- Where a store goes, and how much. -/
def storeAt (op : Op) (vals : List IV) : Option (Nat × Nat × Nat) :=
  match op, vals with
  | .store _ _ _, [.c (.ref id off), x] => some (id, off, (cellsOf x).length)
  | _, _ => none

/-- A look into a map, or room made in it: its type, and which. -/
def mapAt (op : Op) (vals : List IV) : Option (Nat × Nat × Bool) :=
  match op, vals with
  | .lookup t _ _ false, [.c (.mref id), _] => some (t, id, false)
  | .mapEntry t _ _, [.c (.mref id), _] => some (t, id, true)
  | _, _ => none

def fpOf (all : Array Oper) (o : Oper) (σ : St) (out : Option Out) : Fp :=
  ⟨o.dst, o.looksAt all, readsOf σ o, (match out with | some x => x.ups.map (·.1) ++ x.news | none => []), (match out with | some _ => storeAt o.op (o.op.operands.toList.map (ev σ)) | none => none), (match out with | some _ => mapAt o.op (o.op.operands.toList.map (ev σ)) | none => none)⟩

def drawOk (o : Oper) (i : Nat) (anc : Nat) (fps : List Fp) (f : Fp) : Bool :=
  o.after.all (fun e => !(Region.binds .any e) || Nat.blt e.on i) &&
    (List.range i).all fun j => Nat.testBit anc j || (match fps[i - 1 - j]? with | some g => g.apart f | none => false)

/-- The same, where the order is open: whatever is not held by an edge must keep apart. -/
def drawK (cfg : Cfg) (n rid : Nat) (all : Array Oper) : List Oper → Nat → List Nat → List Fp → St → (St → R) → R
  | [], _, _, _, σ, k => k σ
  | o :: rest, i, ancs, fps, σ, k =>
    guardK all o σ
      (fun σ => stepK cfg n (keyOf rid i) o σ fun out σ' =>
        test (drawOk o i (ancOf o i ancs) fps (fpOf all o σ (some out))) (drawK cfg n rid all rest (i + 1) (ancOf o i ancs :: ancs) (fpOf all o σ (some out) :: fps) σ' k))
      (fun σ => test (dstOk n o.dst && drawOk o i (ancOf o i ancs) fps (fpOf all o σ none))
        (drawK cfg n rid all rest (i + 1) (ancOf o i ancs :: ancs) (fpOf all o σ none :: fps) (σ.put o.dst (.tup [])) k))

/-! ### a checkpoint -/

def keepBoxes (h : Nat → Option Box) : List (Nat × List LK) → Option (List Ent × List Nat)
  | [] => some ([], [])
  | (id, lks) :: r => (match h id with
    | some (.cells ty cs) => (match keepCells h id 0 lks cs, keepBoxes h r with
      | some (cs', b, l), some (bs, ls) => some ((id, some id, .cells ty cs') :: (b ++ bs), l ++ ls)
      | _, _ => none)
    | some (.arr ty t xs fr) => (match lks, keepBoxes h r with
      | [], some (bs, ls) => some ((id, some id, .arr ty t xs fr) :: bs, ls)
      | _, _ => none)
    | some (.ice ty cs) => (match keepBoxes h r with
      | some (bs, ls) => some ((id, some id, .ice ty cs) :: bs, ls)
      | _ => none)
    | some (.map κ τ es c) => (match keepBoxes h r with
      | some (bs, ls) => some ((id, some id, .map κ τ es c) :: bs, ls)
      | _ => none)
    | some (.row _ _ _) => none
    | none => none)

/-- The slices that go on as plain lists. -/
def keepFz (σ : St) (L : Live) : List (Nat × Option Box) :=
  L.tmps.foldr (fun p r => (match p.2 with | .sl _ => freezeAll σ.h (cellsOf (σ.t p.1)) | .agg lks => (lks.zip (cellsOf (σ.t p.1))).foldr (fun q r => (match q.1 with | .sl _ => freezes σ.h q.2 | _ => []) ++ r) [] | _ => []) ++ r) [] ++
  L.boxes.foldr (fun p r => (match σ.h p.1 with | some (.cells _ cs) => (p.2.zip cs).foldr (fun q r => (match q.1 with | .sl _ => freezes σ.h q.2 | _ => []) ++ r) [] | _ => []) ++ r) []

def keptAs (i : Nat) (b : Ent) : Bool := Nat.beq b.1 i && (match b.2.1 with | some o => Nat.beq o i | none => false)

/-- The state at a checkpoint: what is named alone, and nothing else; the boxes that were made by append go by their slot's name. -/
def keepH (objs : List Nat) (h : Nat → Option Box) (t : Nat → IV) (L : Live) (k : St → R) : R :=
  match keepTmps h t L.tmps, keepBoxes h L.boxes with
  | some (ts, b1, l1), some (b2, l2) =>
    cond (nodup ((b1 ++ b2).map (·.1)) && nodup (oldsOf (b1 ++ b2)) && ((l1 ++ l2) ++ objs).all (fun i => (b1 ++ b2).any (keptAs i)))
      (cutK h t L.tmps (k ⟨ofList (.c .junk) ts, ofList none ((b1 ++ b2).map fun x => (x.1, some x.2.2)), ofList false ((b1 ++ b2).map fun x => (x.1, true))⟩)) none
  | _, _ => none

def keepK (objs : List Nat) (L : Live) (σ : St) (k : St → R) : R := keepH objs (updMany σ.h (keepFz σ L)) σ.t L k

/-! ### the run -/

def finVals (cfg : Cfg) (σ : St) : List ResultVar → Option (List IV)
  | [] => some []
  | .tmp t :: r => (finVals cfg σ r).map fun l => settleFin σ.h (σ.t t) :: l
  | .cell a t :: r => (match cfg.ty t with
    | some i => (match readAt σ.h i.size (σ.t a) with
      | some cs => cond (!i.d.agg && !(Nat.beq i.size 1)) none ((finVals cfg σ r).map fun l => settleFin σ.h (mkIV i.d.agg cs) :: l)
      | none => none)
    | none => none)
where
  settleFin (h : Nat → Option Box) : IV → IV
    | .c x => .c (out (settle h x))
    | .agg cs => .agg (cs.map fun x => out (settle h x))
    | .tup _ => .c .junk
  out : IC → IC
    | .v x => .v x
    | .sl t xs => .sl t xs
    | _ => .junk

/-- The results as they stand. -/
def rawVals (cfg : Cfg) (σ : St) : List ResultVar → Option (List IV)
  | [] => some []
  | .tmp t :: r => (rawVals cfg σ r).map fun l => σ.t t :: l
  | .cell a t :: r => (match cfg.ty t with
    | some i => (match readAt σ.h i.size (σ.t a) with
      | some cs => cond (!i.d.agg && !(Nat.beq i.size 1)) none ((rawVals cfg σ r).map fun l => mkIV i.d.agg cs :: l)
      | none => none)
    | none => none)

def slots : Nat → List LK → List (Nat × LK)
  | _, [] => []
  | i, lk :: r => (900 + i, lk) :: slots (i + 1) r

def oneOrTup : List IV → IV
  | [x] => x
  | l => .tup l

/-- The end of a body that hands boxes back. -/
def finO (cfg : Cfg) (res : List ResultVar) (σ : St) (F : List LK × List (Nat × List LK)) : R :=
  match rawVals cfg σ res with
  | some raws =>
    let σ' : St := { σ with t := fun i => raws.getD (i - 900) (.c .junk) }
    let L : Live := ⟨slots 0 F.1, F.2⟩
    let h' := updMany σ.h (keepFz σ' L)
    (match keepTmps h' σ'.t L.tmps, keepBoxes h' L.boxes with
     | some (ts, b1, l1), some (b2, l2) =>
       cond (Nat.beq F.1.length raws.length && nodup ((b1 ++ b2).map (·.1)) && nodup (oldsOf (b1 ++ b2)) && (((l1 ++ l2) ++ cfg.more.objs).all (fun i => (b1 ++ b2).any (keptAs i)) && (b1 ++ b2).all fun e => outB e.2.2))
         (cutK h' σ'.t L.tmps (some (oneOrTup (ts.map fun p => outV p.2), (b1 ++ b2).map fun e => (e.1, e.2.2)))) none
     | _, _ => none)
  | none => none

def fin (cfg : Cfg) (res : List ResultVar) (σ : St) : R :=
  match cfg.more.fin with
  | some F => finO cfg res σ F
  | none =>
  match finVals cfg σ res with
  | some [x] => some (x, [])
  | some l => some (.tup l, [])
  | none => none

def inner (cfg : Cfg) (n : Nat) (res : List ResultVar) (next : List Item → St → R) : Nat → Bool → List Item → St → R
  | 0, _, _, _ => none
  | m + 1, start, todo, σ =>
    match todo with
    | [] => fin cfg res σ
    | .code c :: K =>
      (match c with
       | .ret => fin cfg res σ
       | .skip => inner cfg n res next m false K σ
       | .label _ => inner cfg n res next m false K σ
       | .seq a b => inner cfg n res next m start (.code a :: .code b :: K) σ
       | .cond c x y => (match ev σ c with
         | .c (.v (.bool b)) => cond b (inner cfg n res next m false (.code x :: K) σ) (inner cfg n res next m false (.code y :: K) σ)
         | _ => none)
       | .block id c => inner cfg n res next m start (.code c :: .inBlock id :: K) σ
       | .loop c => inner cfg n res next m start (.code c :: .inLoop c :: K) σ
       | .scope c => inner cfg n res next m start (.code c :: .inScope c :: K) σ
       | .exit id => (match exitTo id K with | some K' => inner cfg n res next m false K' σ | none => none)
       | .goto l => (match gotoIn l K with | some K' => inner cfg n res next m false K' σ | none => none)
       | .region id ops draw =>
         (match start, cfg.live id with
          | false, some L => keepK cfg.more.objs L σ fun σ' => next todo σ'
          | _, _ => bif draw then drawK cfg n id ops ops.toList 0 [] [] σ fun σ' => inner cfg n res next m false K σ'
                    else opsK cfg n id ops ops.toList 0 σ fun σ' => inner cfg n res next m false K σ')
       | _ => none)
    | .inBlock _ :: K => inner cfg n res next m false K σ
    | .inScope _ :: K => inner cfg n res next m false K σ
    | .inLoop c :: K => inner cfg n res next m false (.code c :: .inLoop c :: K) σ
    | _ => none

/-- What is left to do where the region of this number stands. -/
def todoR (r : Nat) : Code → List Item → Option (List Item)
  | .region id ops d, K => if id = r then some (.code (.region id ops d) :: K) else none
  | .seq a b, K => (match todoR r a (.code b :: K) with | some x => some x | none => todoR r b K)
  | .cond _ a b, K => (match todoR r a K with | some x => some x | none => todoR r b K)
  | .block id c, K => todoR r c (.inBlock id :: K)
  | .loop c, K => todoR r c (.inLoop c :: K)
  | .scope c, K => todoR r c (.inScope c :: K)
  | _, _ => none

def run (cfg : Cfg) (n : Nat) (res : List ResultVar) : Nat → List Item → St → R
  | 0, _, _ => none
  | m + 1, todo, σ => inner cfg n res (run cfg n res m) 4096 true todo σ

end Go.Proofs.Ytdoilggfajngiaa.VE
