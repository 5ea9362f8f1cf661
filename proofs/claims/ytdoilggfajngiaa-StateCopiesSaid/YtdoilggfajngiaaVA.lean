/-
  The ideal machine: a small evaluator of the model's code over plain data. Types of data, cells, values, boxes, states.
  A slice that is not written any more is a plain list ('sl'); what the activation owns and may still write lies in boxes.
-/
import Derived.Below
import Derived.Orders
import Derived.KernelRfl
namespace Go.Proofs.Ytdoilggfajngiaa.VE
open Go

/-- What package-level tables of the library hold: block, place, value (none: behind the table's end). -/
def tabCells : List (Nat × Nat × Option Value) := []

/-- The data that a slice's element may be. -/
inductive Ty where
  | int (k : IntKind) | bool | str | sl (t : Ty) | prod (a b : Ty) | pint (k : IntKind) | addr
  deriving DecidableEq

@[reducible] def El : Ty → Type
  | .int _ => Int
  | .bool => Bool
  | .str => ByteArray
  | .sl t => List (El t)
  | .prod a b => El a × El b
  | .pint _ => Int
  | .addr => Nat × Nat

def width : Ty → Nat
  | .prod a b => width a + width b
  | _ => 1

def dflt : (t : Ty) → El t
  | .int _ => (0 : Int)
  | .bool => false
  | .str => (⟨#[]⟩ : ByteArray)
  | .sl _ => []
  | .prod a b => (dflt a, dflt b)
  | .pint _ => (0 : Int)
  | .addr => (0, 0)

/-- One cell of memory, or a value of one cell. -/
inductive IC where
  | v (x : Value)
  | sl (t : Ty) (xs : List (El t))
  | sref (id : Nat)
  | ref (id off : Nat)
  | eref (id wd i off : Nat)
  | snap (cs : List IC) (off : Nat)
  | fn (f : FuncId) (cap : List IC)
  | own (ty : Nat) (cs : List IC)
  | anew (ty : Nat) (t : Ty) (xs : List (El t))
  | junk
  | emp
  | psnap (cs : List IC) (off : Nat)
  | view (id wd lo n : Nat) (c : Option Nat)
  | mref (id : Nat)

inductive IV where
  | c (x : IC)
  | agg (cs : List IC)
  | tup (vs : List IV)

inductive Box where
  | cells (ty : Nat) (cs : List IC)
  | arr (ty : Nat) (t : Ty) (xs : List (El t)) (fr : Bool)
  | ice (ty : Nat) (cs : List IC)
  | row (ty : Nat) (t : Ty) (xs : List (El t))
  | map (kt vt : Ty) (es : List (El kt × El vt × Nat)) (clock : Nat)

structure St where
  t : Nat → IV
  h : Nat → Option Box
  u : Nat → Bool

/-- What a call tells: its result; the boxes that it hands back. -/
abbrev R := Option (IV × List (Nat × Box))

def enc : (t : Ty) → El t → List IC
  | .int k, n => [.v (.int k n)]
  | .bool, b => [.v (.bool b)]
  | .str, s => [.v (.string s)]
  | .sl t, xs => [.sl t xs]
  | .prod a b, x => enc a x.1 ++ enc b x.2
  | .pint k, n => [.psnap [.v (.int k n)] 0]
  | .addr, a => [.v (.pointer (some ⟨a.1, a.2, none⟩))]

/-- An element out of its cells, and the cells that are left. -/
def dec : (t : Ty) → List IC → Option (El t × List IC)
  | .int k, .v (.int k' n) :: r => if k' = k then some (n, r) else none
  | .bool, .v (.bool b) :: r => some (b, r)
  | .str, .v (.string s) :: r => some (s, r)
  | .sl t, .sl t' xs :: r => if h : t' = t then some (cast (congrArg (fun z => List (El z)) h) xs, r) else none
  | .sl _, .v (.slice none 0 0) :: r => some ([], r)
  | .prod a b, cs =>
    match dec a cs with
    | some (x, r) => (match dec b r with | some (y, r') => some ((x, y), r') | none => none)
    | none => none
  | .pint k, .psnap cs off :: r => (match cs[off]? with | some (.v (.int k' n)) => if k' = k then some (n, r) else none | _ => none)
  | .addr, .v (.pointer (some ⟨b, o, none⟩)) :: r => some ((b, o), r)
  | _, _ => none

def dec1 (t : Ty) (cs : List IC) : Option (El t) :=
  match dec t cs with
  | some (x, []) => some x
  | _ => none

/-- A type's shape, as far as the evaluator asks. -/
inductive D where
  | int (k : IntKind) | bool | str | sl (e : Nat) | ptr (e : Nat) | st (fs : List (Nat × Nat)) | arr (n e : Nat) | fnc | map (k e : Nat) | other

structure TI where
  size : Nat
  bytes : Nat
  d : D
  zero : List IC
  ty : Option Ty

def D.agg : D → Bool
  | .st _ | .arr _ _ => true
  | _ => false

abbrev ISpec := List IV → (IV → List (Nat × Box) → R) → R
/-- A contract that is handed boxes, and hands boxes back. -/
abbrev OSpec := List IV → List (Nat × Box) → (IV → List (Nat × Box) → R) → R

/-- How a slot is kept at a checkpoint. -/
inductive LK where
  | plain
  | sl (t : Ty)
  | arr (ty : Nat) (t : Ty)
  | agg (l : List LK)
  | obj (l : List LK)
  | fno (l : List (Option (List LK)))

structure Live where
  tmps : List (Nat × LK)
  boxes : List (Nat × List LK)

/-- Contracts with boxes: which arguments are handed over as boxes, which are frozen. -/
structure OS where
  own : List (Option LK)
  ice : List Bool
  sp : OSpec

structure More where
  ospec : FuncId → Option OS := fun _ => none
  objs : List Nat := []
  fin : Option (List LK × List (Nat × List LK)) := none
  /-- Slices of one's own rows go on as places in them. -/
  view : Bool := false
  /-- slices.overlaps: asked of two rows of one's own. -/
  ovl : List Nat := []

structure Cfg where
  ty : Nat → Option TI
  spec : FuncId → Option (List Bool × ISpec)
  live : Nat → Option Live
  more : More

def upd {α : Type} (f : Nat → α) (i : Nat) (x : α) : Nat → α := fun j => bif Nat.beq j i then x else f j

theorem upd_same {α : Type} (f : Nat → α) (i : Nat) (x : α) : upd f i x i = x := by simp [upd]
theorem upd_other {α : Type} (f : Nat → α) {i j : Nat} (x : α) (h : j ≠ i) : upd f i x j = f j := by
  have : Nat.beq j i = false := by rw [Bool.eq_false_iff]; intro e; exact h (Nat.eq_of_beq_eq_true e)
  simp [upd, this]
theorem upd_comm {α : Type} (f : Nat → α) {i j : Nat} (x y : α) (h : i ≠ j) : upd (upd f i x) j y = upd (upd f j y) i x := by
  funext k
  by_cases hi : k = i
  · subst hi; rw [upd_other _ _ h, upd_same, upd_same]
  · by_cases hj : k = j
    · subst hj; rw [upd_same, upd_other _ _ hi, upd_same]
    · rw [upd_other _ _ hj, upd_other _ _ hi, upd_other _ _ hi, upd_other _ _ hj]

def updMany {α : Type} (f : Nat → α) : List (Nat × α) → Nat → α
  | [] => f
  | (i, x) :: r => updMany (upd f i x) r

def cellsOf : IV → List IC
  | .c x => [x]
  | .agg cs => cs
  | .tup _ => []

def mkIV (agg : Bool) (cs : List IC) : IV :=
  match agg, cs with
  | true, cs => .agg cs
  | false, [c] => .c c
  | false, _ => .c .junk

/-- Cells from 'off' on, replaced. -/
def splice : List IC → Nat → List IC → List IC
  | cs, 0, [] => cs
  | [], _, _ => []
  | _ :: cs, 0, y :: ys => y :: splice cs 0 ys
  | c :: cs, n + 1, ys => c :: splice cs n ys

def isJunk : IC → Bool
  | .junk => true
  | _ => false

def rdEl (t : Ty) (xs : List (El t)) (i : Nat) : El t := xs.getD i (dflt t)

/-! ### what a value names, and settling it -/

def idOf : IC → List Nat
  | .sref i => [i]
  | .ref i _ => [i]
  | .eref i _ _ _ => [i]
  | .view i _ _ _ _ => [i]
  | .mref i => [i]
  | .fn _ cap => cap.foldr (fun c r => (match c with | .sref i => [i] | .ref i _ => [i] | .eref i _ _ _ => [i] | .view i _ _ _ _ => [i] | .mref i => [i] | _ => []) ++ r) []
  | _ => []

def idsOf : IV → List Nat
  | .c x => idOf x
  | .agg cs => cs.foldr (fun c r => idOf c ++ r) []
  | .tup _ => []

/-- A cell that leaves the activation's own memory: a slice of its own is told as a plain list. -/
def settle (h : Nat → Option Box) : IC → IC
  | .sref i => (match h i with | some (.arr _ t xs _) => .sl t xs | _ => .junk)
  | c => c

/-- The boxes that settling freezes. -/
def freezes (h : Nat → Option Box) : IC → List (Nat × Option Box)
  | .sref i => (match h i with | some (.arr ty t xs false) => [(i, some (.arr ty t xs true))] | _ => [])
  | _ => []

def freezeAll (h : Nat → Option Box) (cs : List IC) : List (Nat × Option Box) := cs.foldr (fun c r => freezes h c ++ r) []

end Go.Proofs.Ytdoilggfajngiaa.VE
