/-
  Parts of a text: in plain words.
-/
import Derived.Test.YtlakpbfmcnlnbaaDoorT
import Derived.Test.YtlakpbfmcnlnbaaDoorVTx
import Derived.RangeFuncRecord
import Derived.WalkKit
import Derived.TacticsIn
import Derived.BigFrameIn
import Derived.RangeFuncOwn
import Derived.RangeFuncBox
import Derived.RangeFuncLeaves
import Derived.Shelf.Abstract
import Derived.Shelf.RegionOpen
import Derived.OwnWalkIn
import Derived.TacticsInMore
import Derived.LoopNIn
import Derived.LoopIn
import Derived.Lib.ItoaNum
namespace Go.Proofs.YtlakpbfmcnlnbaaDoor
open Go VE

/-- The parts of a text from here on: 'r' bytes are left; a part has begun at 'a'; so many parts are behind. -/
def runs (s : ByteArray) (sep : Int) : Nat → Nat → Nat → Nat → List (Int × ByteArray)
  | 0, _, a, n => [((n : Int), s.extract a s.size)]
  | r + 1, i, a, n => if byteAt s (i : Int) = sep then ((n : Int), s.extract a i) :: runs s sep r (i + 1) (i + 1) (n + 1) else runs s sep r (i + 1) a n
def runsL (s : ByteArray) (sep : Int) : List (Int × ByteArray) := runs s sep s.size 0 0 0
def runsF (s : ByteArray) (b : Int) : IV := .c (.fn 44 [.snap [.v (.string s)] 0, .snap [.v (.int .u8 b)] 0])
def partsL (s : ByteArray) (b : Int) : List ByteArray := (runsL s b).map (·.2)

end Go.Proofs.YtlakpbfmcnlnbaaDoor
namespace Go.Proofs.YtlakpbfmcnlnbaaDoor
open Go VE Go.RowKit Go.Shelf

theorem snap1 {x : Xs} {w : World} {b : Nat} {u : Value} (hu : u.oneCell' = true) (ho : x.okp b 0) (hc : w.cell? ⟨b, 0, none⟩ = some u) : VRel x w (.pointer (some ⟨b, 0, none⟩)) (.snap [.v u] 0) :=
  .snap [.v u] 0 b 0 (fun _ => u) (fun c hc => by simp at hc; subst hc; exact .v _)
    (fun j hj => by
      have : j = 0 := by simpa using hj
      subst this
      exact ⟨ho, hc⟩)
    fun j c hj => by
      cases j with
      | zero => simp at hj; subst hj; exact .v u hu
      | succ j => simp at hj

theorem cell_new {w : World} {u : Value} {e : TypeId} {b : Nat} (hb : b = w.heap.size) : (w.alloc (.cells #[u] e)).cell? ⟨b, 0, none⟩ = some u := by subst hb; simp
theorem cell_old {w : World} {o : Obj} {b : Nat} {v : Value} (hb : b < w.heap.size) (h : w.cell? ⟨b, 0, none⟩ = some v) : (w.alloc o).cell? ⟨b, 0, none⟩ = some v :=
  (World.cell?_of_block (Below.heap_alloc w o b hb)).trans h

set_option maxRecDepth 100000 in
set_option maxHeartbeats 1000000 in
theorem runs_returns (s : ByteArray) (b : Int) : VE.Returns Tryd.prog 36 [.c (.v (.string s)), .c (.v (.int .u8 b))] (.c (.fn 44 [.snap [.v (.string s)] 0, .snap [.v (.int .u8 b)] 0])) := by
  intro w us ok hok hl hus ha
  obtain ⟨u0, u1, rfl⟩ : ∃ u0 u1, us = #[u0, u1] := by
    obtain ⟨l⟩ := us
    match l, hus with
    | [u0, u1], _ => exact ⟨u0, u1, rfl⟩
  have h0 : u0 = .string s := (iv_v (ha 0 _ rfl)).1
  have h1 : u1 = .int .u8 b := (iv_v (ha 1 _ rfl)).1
  subst h0 h1
  refine (callsIn_wide (n := 0)).1 ?_
  refine callsIn_of_wp (F := Fence.wide) Tryd.func36 rfl trivial ?_
  have hn : Tryd.f36.ntmps = 6 := rfl
  simp only [hn, List.size_toArray, List.length_cons, List.length_nil, Nat.reduceAdd, Nat.reduceSub, Array.replicate_succ, Array.replicate_zero, List.push_toArray, List.append_toArray, List.nil_append, List.cons_append]
  gi_wp2
  refine bodyPost_ret (results_tmp rfl _ _ _) rfl ⟨_, rfl, (((Below.refl _ w).alloc (by first | exact Nat.le_refl _ | (simp; done) | (simp; omega)) _).alloc (by first | exact Nat.le_refl _ | (simp; done) | (simp; omega)) _), .c _ _ (.fn 44 _ _ rfl fun j c hj => ?_)⟩
  match j, hj with
  | 0, hj => cases hj; exact snap1 rfl (.inr ⟨by first | (simp; done) | omega | (simp; omega), by first | (simp; done) | (simp; omega)⟩) (by first | (simp; done) | exact cell_new (by simp) | exact cell_old (by simp) (cell_new (by simp)) | exact cell_old (by simp; omega) (cell_old (by simp) (cell_new (by simp))))
  | 1, hj => cases hj; exact snap1 rfl (.inr ⟨by first | (simp; done) | omega | (simp; omega), by first | (simp; done) | (simp; omega)⟩) (by first | (simp; done) | exact cell_new (by simp) | exact cell_old (by simp) (cell_new (by simp)) | exact cell_old (by simp; omega) (cell_old (by simp) (cell_new (by simp))))
  | j + 2, hj => simp at hj

attribute [local go_sem] Oper.semAt_some

theorem snap_inv {x : Xs} {w : World} {u c : Value} (h : VRel x w u (.snap [.v c] 0)) : ∃ b o, u = .pointer (some ⟨b, o, none⟩) ∧ x.okp b o ∧ w.cell? ⟨b, o, none⟩ = some c := by
  cases h with
  | snap _ _ b base rd hfree hcell hel =>
    obtain ⟨h1, h2⟩ := hcell 0 (by simp)
    have h3 := hel 0 _ rfl
    have h4 : rd 0 = c := by
      generalize rd 0 = z at h3
      cases h3
      rfl
    rw [h4] at h2
    exact ⟨b, base, rfl, h1, h2⟩

theorem fr_cell {M : Nat → Prop} {B b o : Nat} {A C : World} (hb : b < B) (hm : ¬ M b) (h : Fr M B A C) : C.cell? ⟨b, o, none⟩ = A.cell? ⟨b, o, none⟩ := World.cell?_of_block (h.block b hb hm)
theorem below_cell {b o : Nat} {A C : World} (h : Below A.heap.size A C) (hb : b < A.heap.size) : C.cell? ⟨b, o, none⟩ = A.cell? ⟨b, o, none⟩ := h.cell (p := ⟨b, o, none⟩) hb

theorem caps2 {x : Xs} {W : World} {g : Nat} {lb : Array Value} {u v : Value} (h : VRel x W (.func (.func g) #[] lb) (.fn g [.snap [.v u] 0, .snap [.v v] 0])) :
    ∃ b1 o1 b2 o2, lb = #[.pointer (some ⟨b1, o1, none⟩), .pointer (some ⟨b2, o2, none⟩)] ∧ x.okp b1 o1 ∧ x.okp b2 o2 ∧ W.cell? ⟨b1, o1, none⟩ = some u ∧ W.cell? ⟨b2, o2, none⟩ = some v := by
  cases h with
  | fn _ _ _ hs hel =>
    obtain ⟨l⟩ := lb
    match l, hs with
    | [c1, c2], _ =>
      obtain ⟨b1, o1, h1, h2, h3⟩ := snap_inv (hel 0 _ rfl)
      obtain ⟨b2, o2, k1, k2, k3⟩ := snap_inv (hel 1 _ rfl)
      have h1 : c1 = _ := h1
      have k1 : c2 = _ := k1
      subst h1 k1
      exact ⟨b1, o1, b2, o2, rfl, h2, k2, h3, k3⟩

theorem byteAt_get {s : ByteArray} {i : Nat} (h : i < s.size) : byteAt s (i : Int) = ((s[i].toNat : Nat) : Int) := by
  have h2 : i < s.data.toList.length := by simpa using h
  unfold byteAt
  rw [show ((i : Int)).toNat = i from by omega, List.getD_eq_getElem?_getD, List.getElem?_eq_getElem h2]
  rfl
theorem runs_here {s : ByteArray} {sep : Int} {i a n : Nat} (h : i < s.size) (hb : ((s[i].toNat : Nat) : Int) = sep) :
    runs s sep (s.size - i) i a n = ((n : Int), s.extract a i) :: runs s sep (s.size - (i + 1)) (i + 1) (i + 1) (n + 1) := by
  rw [show s.size - i = (s.size - (i + 1)) + 1 by omega, runs, if_pos ((byteAt_get h).trans hb)]
theorem runs_on {s : ByteArray} {sep : Int} {i a n : Nat} (h : i < s.size) (hb : ¬ ((s[i].toNat : Nat) : Int) = sep) :
    runs s sep (s.size - i) i a n = runs s sep (s.size - (i + 1)) (i + 1) a n := by
  rw [show s.size - i = (s.size - (i + 1)) + 1 by omega, runs, if_neg (fun e => hb ((byteAt_get h).symm.trans e))]

set_option maxRecDepth 100000 in
set_option maxHeartbeats 4000000 in
theorem runs1_in (F : Fence) (d : Nat) (h17 : F.fn 44) (hro : F.round = none) (hn : 1 ≤ d) (l b1 o1 b2 o2 : Nat) (s : ByteArray) (sep : Int) (hs : s.size ≤ 140737488351232) (Kp : World → World → Prop)
    (hKr : ∀ A, Kp A A) (hKt : ∀ A B C, Kp A B → Kp B C → Kp A C) (hKd : ∀ A, Kp A A.drew) (hK1 : ∀ A B, Kp A B → B.cell? ⟨b1, o1, none⟩ = A.cell? ⟨b1, o1, none⟩) (hK2 : ∀ A B, Kp A B → B.cell? ⟨b2, o2, none⟩ = A.cell? ⟨b2, o2, none⟩) (J Jx : List (Int × ByteArray) → World → Prop) (hJd : ∀ pre A, J pre A → J pre A.drew)
    (hY : ∀ pre x W, x ∈ runsL s sep → J pre W → pre.length < (runsL s sep).length → YieldAt F (d - 1) Tryd.prog l #[.int .i64 x.1, .string x.2] W fun e W' =>
      (e = .returned (.bool true) ∧ J (pre ++ [x]) W' ∧ Kp W W') ∨ (e = .returned (.bool false) ∧ Jx (pre ++ [x]) W'))
    (W : World) (hc1 : W.cell? ⟨b1, o1, none⟩ = some (.string s)) (hc2 : W.cell? ⟨b2, o2, none⟩ = some (.int .u8 sep)) (h0 : J [] W) :
    CallsIn F d Tryd.prog 44 #[.func (.yield l) #[] #[], .pointer (some ⟨b1, o1, none⟩), .pointer (some ⟨b2, o2, none⟩)] W fun e W' => (∃ v, e = .returned v) ∧
      (J (runsL s sep) W' ∨ (∃ pre, pre <+: runsL s sep ∧ Jx pre W')) := by
  refine callsIn_of_wp Tryd.func44 rfl h17 ?_ hro
  have hnt : Tryd.f44.ntmps = 36 := rfl
  simp only [hnt, List.size_toArray, List.length_cons, List.length_nil, Nat.reduceAdd, Nat.reduceSub, Array.replicate_succ, Array.replicate_zero, List.push_toArray, List.append_toArray, List.nil_append, List.cons_append]
  gi_wp2
  gi_loopw [4, 5, 9] (fun va vn vi wr => ∃ (pre : List (Int × ByteArray)) (i a n : Nat), va = .int .i64 (a : Int) ∧ vn = .int .i64 (n : Int) ∧ vi = .int .i64 (i : Int) ∧ a ≤ i ∧ n ≤ i ∧ i ≤ s.size ∧ pre ++ runs s sep (s.size - i) i a n = runsL s sep ∧ J pre wr ∧ Kp W wr)
    (fun _ _ vi _ => s.size - (intOf vi).toNat)
  case atStart => exact ⟨[], 0, 0, 0, rfl, rfl, rfl, by omega, by omega, by omega, rfl, h0, hKr W⟩
  case round =>
    obtain ⟨pre, i, a, n, rfl, rfl, rfl, hai, hni, his, hL, hJs, hnx⟩ := hrel
    have hcx : wr.cell? ⟨b1, o1, none⟩ = some (.string s) := (hK1 _ _ hnx).trans hc1
    have hcx2 : wr.cell? ⟨b2, o2, none⟩ = some (.int .u8 sep) := (hK2 _ _ hnx).trans hc2
    by_cases hlt : i < s.size
    · gi_wp2
      gi_region
      all_goals
        have hJd' := hJd _ _ hJs
        have hnd : Kp W wr.drew := hKt _ _ _ hnx (hKd wr)
        have hcy : wr.drew.cell? ⟨b1, o1, none⟩ = some (.string s) := (hK1 _ _ hnd).trans hc1
        by_cases hb : ((s[i].toNat : Nat) : Int) = sep
        · rw [runs_here hlt hb] at hL
          obtain ⟨fn, tmps, assign, body, hy, hR⟩ := hY pre ((n : Int), s.extract a i) wr.drew (by rw [← hL]; simp) hJd' (by rw [← hL]; simp)
          dsimp only at hy
          gi_wp2
          refine hR.mono ?_
          rintro e W3 (⟨rfl, hJ3, hk3⟩ | ⟨rfl, hJx3⟩)
          · gi_wp2
            go_roundw
            case rel => exact ⟨pre ++ [((n : Int), s.extract a i)], i + 1, i + 1, n + 1, by simp, by simp, by simp, by omega, by omega, by omega, by rw [← hL, List.append_assoc]; rfl, hJ3, hKt _ _ _ hnd hk3⟩
            case measure => simp [intOf]; omega
          · gi_wp2
            refine bodyPost_ret (results_none rfl _ _ _) rfl ?_
            exact ⟨⟨_, rfl⟩, .inr ⟨_, ⟨_, by rw [← hL, List.append_assoc]; rfl⟩, hJx3⟩⟩
        · rw [runs_on hlt hb] at hL
          gi_wp2
          go_roundw
          case rel => exact ⟨pre, i + 1, a, n, by simp, by simp, by simp, by omega, by omega, by omega, hL, hJd', hnd⟩
          case measure => simp [intOf]; omega
    · obtain rfl : i = s.size := by omega
      have hL' : pre ++ [((n : Int), s.extract a s.size)] = runsL s sep := by rw [← hL, Nat.sub_self]; rfl
      obtain ⟨fn, tmps, assign, body, hy, hR⟩ := hY pre ((n : Int), s.extract a s.size) wr (by rw [← hL']; simp) hJs (by rw [← hL']; simp)
      dsimp only at hy
      gi_wp2
      refine hR.mono ?_
      rintro e W3 (⟨rfl, hJ3, hk3⟩ | ⟨rfl, hJx3⟩)
      · gi_wp2
        go_end0
        exact ⟨⟨_, rfl⟩, .inl (by rw [← hL']; exact hJ3)⟩
      · gi_wp2
        go_end0
        exact ⟨⟨_, rfl⟩, .inr ⟨_, by rw [hL']; exact List.prefix_rfl, hJx3⟩⟩

theorem runs_iter (s : ByteArray) (sep : Int) (hs : s.size ≤ 140737488351232) : IterOK Tryd.prog 44 [.snap [.v (.string s)] 0, .snap [.v (.int .u8 sep)] 0] (fun v : Int × ByteArray => [.int .i64 v.1, .string v.2]) (fun ys => ys = runsL s sep) (fun pre => pre <+: runsL s sep) (runsL s sep).length := by
  intro x W M lb hv hk l J Jx W1 hb hJ _ hY h0
  obtain ⟨b1, o1, b2, o2, rfl, h1, h2, h3, h4⟩ := caps2 hv
  refine (runs1_in (FR none) 2 trivial rfl (by omega) l b1 o1 b2 o2 s sep hs (Fr M W.heap.size) (fun A => Fr.refl _ _ A) (fun A B C h k => h.trans k) (fun A => ⟨rfl, rfl, rfl, Nat.le_refl _, fun _ _ _ => rfl⟩) (fun A B h => fr_cell (hk _ _ h1).1 (hk _ _ h1).2 h) (fun A B h => fr_cell (hk _ _ h2).1 (hk _ _ h2).2 h) J Jx
    (fun pre A h => hJ pre A A.drew none h ⟨rfl, rfl, rfl, Nat.le_refl _, fun _ _ _ => rfl⟩ (fun r e => by cases e)) (fun pre x W _ => hY pre x W) W1 ((below_cell hb (hk _ _ h1).1).trans h3) ((below_cell hb (hk _ _ h2).1).trans h4) h0).mono fun e W' ⟨he, h⟩ => ⟨he, h.imp (fun h => ⟨_, rfl, h⟩) id⟩

/-- The same, where a round is asked for parts of this text alone. -/
theorem runs_iter_in (s : ByteArray) (sep : Int) (hs : s.size ≤ 140737488351232) : IterOK Tryd.prog 44 [.snap [.v (.string s)] 0, .snap [.v (.int .u8 sep)] 0] (fun v : { v : Int × ByteArray // v ∈ runsL s sep } => [.int .i64 v.1.1, .string v.1.2])
    (fun ys => ys.map (·.1) = runsL s sep) (fun pre => pre.map (·.1) <+: runsL s sep) (runsL s sep).length := by
  intro x W M lb hv hk l J Jx W1 hb hJ _ hY h0
  obtain ⟨b1, o1, b2, o2, rfl, h1, h2, h3, h4⟩ := caps2 hv
  refine (runs1_in (FR none) 2 trivial rfl (by omega) l b1 o1 b2 o2 s sep hs (Fr M W.heap.size) (fun A => Fr.refl _ _ A) (fun A B C h k => h.trans k) (fun A => ⟨rfl, rfl, rfl, Nat.le_refl _, fun _ _ _ => rfl⟩) (fun A B h => fr_cell (hk _ _ h1).1 (hk _ _ h1).2 h) (fun A B h => fr_cell (hk _ _ h2).1 (hk _ _ h2).2 h)
    (fun l A => ∃ l' : List { v : Int × ByteArray // v ∈ runsL s sep }, l'.map (·.1) = l ∧ J l' A) (fun l A => ∃ l' : List { v : Int × ByteArray // v ∈ runsL s sep }, l'.map (·.1) = l ∧ Jx l' A)
    (fun pre A h => h.imp fun l' h => ⟨h.1, hJ l' A A.drew none h.2 ⟨rfl, rfl, rfl, Nat.le_refl _, fun _ _ _ => rfl⟩ (fun r e => by cases e)⟩)
    (fun pre x W hx h hl => ?_) W1 ((below_cell hb (hk _ _ h1).1).trans h3) ((below_cell hb (hk _ _ h2).1).trans h4) ⟨[], rfl, h0⟩).mono ?_
  · obtain ⟨l', rfl, h⟩ := h
    obtain ⟨fn, tmps, assign, body, g1, g2⟩ := hY l' ⟨x, hx⟩ W h (by simpa using hl)
    refine ⟨fn, tmps, assign, body, g1, g2.mono ?_⟩
    rintro e W' (⟨rfl, h5, h6⟩ | ⟨rfl, h5⟩)
    · exact .inl ⟨rfl, ⟨l' ++ [⟨x, hx⟩], by simp, h5⟩, h6⟩
    · exact .inr ⟨rfl, l' ++ [⟨x, hx⟩], by simp, h5⟩
  · rintro e W' ⟨he, ⟨l', h5, h6⟩ | ⟨pre, h5, l', rfl, h6⟩⟩
    · exact ⟨he, .inl ⟨l', h5, h6⟩⟩
    · exact ⟨he, .inr ⟨l', h5, h6⟩⟩

end Go.Proofs.YtlakpbfmcnlnbaaDoor
namespace Go.Proofs.YtlakpbfmcnlnbaaDoor
open Go VE

abbrev TLine : Ty := .prod (.int .i64) (.sl .str)
abbrev Ln : Type := El TLine
def hashB : ByteArray := ⟨#[35]⟩
/-- Where a byte stands; how many there are, where it doesn't. -/
def idxN (c : UInt8) : List UInt8 → Nat
  | [] => 0
  | b :: l => if b = c then 0 else idxN c l + 1
def hashAt (s : ByteArray) : Nat := idxN 35 s.data.toList
def indexB (s : ByteArray) : Int := if hashAt s < s.size then (hashAt s : Int) else -1
def cutA (s : ByteArray) : ByteArray := s.extract 0 (hashAt s)
def cutF (s : ByteArray) : Bool := decide (hashAt s < s.size)
def cutZ (s : ByteArray) : ByteArray := if hashAt s < s.size then s.extract (hashAt s + 1) s.size else ⟨#[]⟩
/-- What stands between blanks, ahead of a remark. -/
def wordsL (s : ByteArray) : List ByteArray := (partsL (cutA s) 32).filter fun w => !(ByteArray.toList w == ByteArray.toList ⟨#[]⟩)
/-- Of bytes i, i + 1 .. (r of them): do all pass? -/
def allB (p : Int → Bool) (s : ByteArray) : Nat → Nat → Bool
  | 0, _ => true
  | r + 1, i => p (byteAt s (i : Int)) && allB p s r (i + 1)
def mayB (s : ByteArray) : Bool := allB (fun c => decide (32 ≤ c) && decide (c ≤ 126)) s s.size 0 && decide (s.size ≤ 200)
def splitG : List ByteArray → Nat → List Ln → List Ln × Int × Int
  | [], _, out => (out, 0, 0)
  | x :: l, i, out => if mayB x then splitG l (i + 1) (if (wordsL x).length = 0 then out else out ++ [((i : Int) + 1, wordsL x)]) else ([], (i : Int) + 1, 2)
def splitL (s : ByteArray) : List Ln × Int × Int := if 4000 < s.size then ([], 0, 2) else splitG (partsL s 10) 0 []
/-- A number's digits, read on. -/
def numG (s : ByteArray) : Nat → Nat → Int → Option Int
  | 0, _, n => some n
  | r + 1, i, n => if byteAt s (i : Int) < 48 ∨ 57 < byteAt s (i : Int) then none else numG s r (i + 1) (n * 10 + (byteAt s (i : Int) - 48))
def numB (s : ByteArray) : Int × Bool :=
  if s.size < 1 ∨ 7 < s.size ∨ (1 < s.size ∧ byteAt s 0 = 48) then (0, false) else
  match numG s s.size 0 0 with
  | some n => if 1000000 < n then (0, false) else (n, true)
  | none => (0, false)
def nameC (c : Int) : Bool := (decide (97 ≤ c) && decide (c ≤ 122)) || ((decide (48 ≤ c) && decide (c ≤ 57)) || (c == 45 || c == 46))
def dashB : ByteArray := ⟨#[45]⟩
def nameB (s : ByteArray) : Bool := allB nameC s s.size 0 && (decide (1 ≤ s.size) && (decide (s.size ≤ 12) && !(ByteArray.toList s == ByteArray.toList dashB)))
def sameW : List ByteArray → List ByteArray → Bool
  | [], [] => true
  | a :: l, b :: m => (ByteArray.toList a == ByteArray.toList b) && sameW l m
  | _, _ => false
def sameL : List Ln → List Ln → Bool
  | [], [] => true
  | a :: l, b :: m => (a.1 == b.1 && sameW a.2 b.2) && sameL l m
  | _, _ => false
def joinT : List ByteArray → ByteArray
  | [] => ⟨#[]⟩
  | w :: l => (⟨#[32]⟩ : ByteArray) ++ w ++ joinT l
def joinW : List ByteArray → ByteArray
  | [] => ⟨#[]⟩
  | w :: l => w ++ joinT l
/-- Lines as a text. -/
def joinL : List Ln → ByteArray
  | [] => ⟨#[]⟩
  | x :: l => joinW x.2 ++ (⟨#[10]⟩ : ByteArray) ++ joinL l
def sizesW : List ByteArray → Int
  | [] => 0
  | w :: l => (w.size : Int) + sizesW l
def sizesL : List Ln → Int
  | [] => 0
  | x :: l => ((x.2.length : Int) + sizesW x.2) + sizesL l
def lightI (l : List Ln) : Int := if 3000 < (l.length : Int) + sizesL l then 1 else 0
def digitsG : Nat → Nat → ByteArray → ByteArray
  | 0, _, s => s
  | f + 1, n, s => if n / 10 = 0 then (⟨#[UInt8.ofNat (48 + n % 10)]⟩ : ByteArray) ++ s else digitsG f (n / 10) ((⟨#[UInt8.ofNat (48 + n % 10)]⟩ : ByteArray) ++ s)
def digitsB (n : Int) : ByteArray := digitsG 20 n.toNat ⟨#[]⟩

end Go.Proofs.YtlakpbfmcnlnbaaDoor
namespace Go.Proofs.YtlakpbfmcnlnbaaDoor
open Go VE

abbrev TConfig : Ty := .prod (.int .i64) (.prod (.int .i64) (.prod (.int .i64) (.prod (.int .i64) (.prod (.int .i64) (.prod (.int .i64) (.prod (.int .i64) (.prod (.int .i64) (.prod (.int .i64) (.prod (.int .i64) (.prod (.int .i64) (.prod (.int .i64) (.prod (.int .i64) (.prod (.int .i64) (.prod (.int .i64) (.prod .bool (.prod (.int .i64) (.prod (.int .i64) (.prod (.int .i64) (.prod (.int .i64) (.prod (.int .i64) (.prod .str .bool)))))))))))))))))))))
abbrev TNum : Ty := .prod .str (.prod (.pint .i64) (.prod (.int .i64) (.int .i64)))
abbrev TRow : Ty := .prod .str (.prod (.int .i64) (.prod (.int .i64) (.int .i64)))
def firstL (c : El TConfig) : List (El TNum) := (((⟨#[105, 110, 116, 101, 114, 118, 97, 108]⟩ : ByteArray), (c.1, ((10 : Int), (10000 : Int)))) :: (((⟨#[116, 105, 109, 101, 111, 117, 116]⟩ : ByteArray), (c.2.1, ((1 : Int), (10000 : Int)))) :: (((⟨#[106, 105, 116, 116, 101, 114]⟩ : ByteArray), (c.2.2.1, ((0 : Int), (1000 : Int)))) :: (((⟨#[114, 105, 115, 101]⟩ : ByteArray), (c.2.2.2.1, ((1 : Int), (10 : Int)))) :: (((⟨#[102, 97, 108, 108]⟩ : ByteArray), (c.2.2.2.2.1, ((1 : Int), (10 : Int)))) :: (((⟨#[112, 97, 110, 105, 99]⟩ : ByteArray), (c.2.2.2.2.2.1, ((0 : Int), (100 : Int)))) :: (((⟨#[111, 118, 101, 114]⟩ : ByteArray), (c.2.2.2.2.2.2.1, ((100 : Int), (1000 : Int)))) :: (((⟨#[101, 114, 114, 111, 114, 115]⟩ : ByteArray), (c.2.2.2.2.2.2.2.1, ((0 : Int), (100 : Int)))) :: (((⟨#[115, 119, 101, 101, 112]⟩ : ByteArray), (c.2.2.2.2.2.2.2.2.1, ((10 : Int), (10000 : Int)))) :: (((⟨#[104, 111, 115, 116, 115]⟩ : ByteArray), (c.2.2.2.2.2.2.2.2.2.1, ((1 : Int), (64 : Int)))) :: (((⟨#[114, 101, 113, 117, 101, 115, 116, 115]⟩ : ByteArray), (c.2.2.2.2.2.2.2.2.2.2.1, ((1 : Int), (1000 : Int)))) :: (((⟨#[102, 97, 99, 116, 111, 114]⟩ : ByteArray), (c.2.2.2.2.2.2.2.2.2.2.2.1, ((0 : Int), (10000 : Int)))) :: (((⟨#[102, 97, 105, 108, 115]⟩ : ByteArray), (c.2.2.2.2.2.2.2.2.2.2.2.2.1, ((0 : Int), (100 : Int)))) :: (((⟨#[98, 97, 115, 101]⟩ : ByteArray), (c.2.2.2.2.2.2.2.2.2.2.2.2.2.1, ((1 : Int), (10000 : Int)))) :: (((⟨#[101, 106, 101, 99, 116]⟩ : ByteArray), (c.2.2.2.2.2.2.2.2.2.2.2.2.2.2.1, ((0 : Int), (100 : Int)))) :: ([] : List (El TNum)))))))))))))))))
def secondL (c : El TConfig) : List (El TNum) := (((⟨#[115, 108, 111, 119]⟩ : ByteArray), (c.2.2.2.2.2.2.2.2.2.2.2.2.2.2.2.2.1, ((0 : Int), (10000 : Int)))) :: (((⟨#[100, 114, 97, 105, 110]⟩ : ByteArray), (c.2.2.2.2.2.2.2.2.2.2.2.2.2.2.2.2.2.1, ((1 : Int), (10000 : Int)))) :: (((⟨#[104, 111, 115, 116, 108, 105, 109, 105, 116]⟩ : ByteArray), (c.2.2.2.2.2.2.2.2.2.2.2.2.2.2.2.2.2.2.1, ((1 : Int), (1000 : Int)))) :: (((⟨#[112, 111, 111, 108, 108, 105, 109, 105, 116]⟩ : ByteArray), (c.2.2.2.2.2.2.2.2.2.2.2.2.2.2.2.2.2.2.2.1, ((1 : Int), (10000 : Int)))) :: ([] : List (El TNum))))))
/-- A field within its bounds. -/
def inR (n : El TNum) : Bool := decide (n.2.2.1 ≤ n.2.1) && decide (n.2.1 ≤ n.2.2.2)
abbrev cPolicy (c : El TConfig) : Int := c.2.2.2.2.2.2.2.2.2.2.2.2.2.2.2.2.2.2.2.2.1
abbrev cZone (c : El TConfig) : ByteArray := c.2.2.2.2.2.2.2.2.2.2.2.2.2.2.2.2.2.2.2.2.2.1
abbrev cErrors (c : El TConfig) : Int := c.2.2.2.2.2.2.2.1
def zoneB (z : ByteArray) : Bool := (z.toList == (⟨#[]⟩ : ByteArray).toList) || nameB z
def mayC (c : El TConfig) : Bool := (firstL c ++ secondL c).all inR && ((decide (1 ≤ cPolicy c) && decide (cPolicy c ≤ 3)) && zoneB (cZone c))
def defC : El TConfig := (100, 20, 0, 2, 3, 50, 140, 5, 1000, 5, 100, 1900, 0, 3000, 10, true, 0, 5000, 1000, 10000, 1, (⟨#[]⟩ : ByteArray), false)
def bitI (b : Bool) : Int := cond b 1 0
def numsL (c : El TConfig) : List Int := [c.1, c.2.1, c.2.2.1, c.2.2.2.1, c.2.2.2.2.1, c.2.2.2.2.2.1, c.2.2.2.2.2.2.1, c.2.2.2.2.2.2.2.1, c.2.2.2.2.2.2.2.2.1, c.2.2.2.2.2.2.2.2.2.1, c.2.2.2.2.2.2.2.2.2.2.1, c.2.2.2.2.2.2.2.2.2.2.2.1, c.2.2.2.2.2.2.2.2.2.2.2.2.1, c.2.2.2.2.2.2.2.2.2.2.2.2.2.1, c.2.2.2.2.2.2.2.2.2.2.2.2.2.2.1, bitI c.2.2.2.2.2.2.2.2.2.2.2.2.2.2.2.1, c.2.2.2.2.2.2.2.2.2.2.2.2.2.2.2.2.1, c.2.2.2.2.2.2.2.2.2.2.2.2.2.2.2.2.2.1, c.2.2.2.2.2.2.2.2.2.2.2.2.2.2.2.2.2.2.1, c.2.2.2.2.2.2.2.2.2.2.2.2.2.2.2.2.2.2.2.1, c.2.2.2.2.2.2.2.2.2.2.2.2.2.2.2.2.2.2.2.2.1, 0, bitI c.2.2.2.2.2.2.2.2.2.2.2.2.2.2.2.2.2.2.2.2.2.2]
def rowsL : List (El TRow) := (((⟨#[105, 110, 116, 101, 114, 118, 97, 108]⟩ : ByteArray), ((10 : Int), ((10000 : Int), (100 : Int)))) :: (((⟨#[116, 105, 109, 101, 111, 117, 116]⟩ : ByteArray), ((1 : Int), ((10000 : Int), (20 : Int)))) :: (((⟨#[106, 105, 116, 116, 101, 114]⟩ : ByteArray), ((0 : Int), ((1000 : Int), (0 : Int)))) :: (((⟨#[114, 105, 115, 101]⟩ : ByteArray), ((1 : Int), ((10 : Int), (2 : Int)))) :: (((⟨#[102, 97, 108, 108]⟩ : ByteArray), ((1 : Int), ((10 : Int), (3 : Int)))) :: (((⟨#[112, 97, 110, 105, 99]⟩ : ByteArray), ((0 : Int), ((100 : Int), (50 : Int)))) :: (((⟨#[111, 118, 101, 114]⟩ : ByteArray), ((100 : Int), ((1000 : Int), (140 : Int)))) :: (((⟨#[101, 114, 114, 111, 114, 115]⟩ : ByteArray), ((0 : Int), ((100 : Int), (5 : Int)))) :: (((⟨#[115, 119, 101, 101, 112]⟩ : ByteArray), ((10 : Int), ((10000 : Int), (1000 : Int)))) :: (((⟨#[104, 111, 115, 116, 115]⟩ : ByteArray), ((1 : Int), ((64 : Int), (5 : Int)))) :: (((⟨#[114, 101, 113, 117, 101, 115, 116, 115]⟩ : ByteArray), ((1 : Int), ((1000 : Int), (100 : Int)))) :: (((⟨#[102, 97, 99, 116, 111, 114]⟩ : ByteArray), ((0 : Int), ((10000 : Int), (1900 : Int)))) :: (((⟨#[102, 97, 105, 108, 115]⟩ : ByteArray), ((0 : Int), ((100 : Int), (0 : Int)))) :: (((⟨#[98, 97, 115, 101]⟩ : ByteArray), ((1 : Int), ((10000 : Int), (3000 : Int)))) :: (((⟨#[101, 106, 101, 99, 116]⟩ : ByteArray), ((0 : Int), ((100 : Int), (10 : Int)))) :: (((⟨#[111, 110, 101]⟩ : ByteArray), ((0 : Int), ((1 : Int), (1 : Int)))) :: (((⟨#[115, 108, 111, 119]⟩ : ByteArray), ((0 : Int), ((10000 : Int), (0 : Int)))) :: (((⟨#[100, 114, 97, 105, 110]⟩ : ByteArray), ((1 : Int), ((10000 : Int), (5000 : Int)))) :: (((⟨#[104, 111, 115, 116, 108, 105, 109, 105, 116]⟩ : ByteArray), ((1 : Int), ((1000 : Int), (1000 : Int)))) :: (((⟨#[112, 111, 111, 108, 108, 105, 109, 105, 116]⟩ : ByteArray), ((1 : Int), ((10000 : Int), (10000 : Int)))) :: (((⟨#[112, 111, 108, 105, 99, 121]⟩ : ByteArray), ((1 : Int), ((3 : Int), (1 : Int)))) :: (((⟨#[122, 111, 110, 101]⟩ : ByteArray), ((0 : Int), ((0 : Int), (0 : Int)))) :: (((⟨#[102, 97, 108, 108, 98, 97, 99, 107]⟩ : ByteArray), ((0 : Int), ((1 : Int), (0 : Int)))) :: ([] : List (El TNum)))))))))))))))))))))))))
def madeC (n : List Int) (z : ByteArray) : El TConfig := (rdEl (.int .i64) n 0, rdEl (.int .i64) n 1, rdEl (.int .i64) n 2, rdEl (.int .i64) n 3, rdEl (.int .i64) n 4, rdEl (.int .i64) n 5, rdEl (.int .i64) n 6, rdEl (.int .i64) n 7, rdEl (.int .i64) n 8, rdEl (.int .i64) n 9, rdEl (.int .i64) n 10, rdEl (.int .i64) n 11, rdEl (.int .i64) n 12, rdEl (.int .i64) n 13, rdEl (.int .i64) n 14, (rdEl (.int .i64) n 15 == (1 : Int)), rdEl (.int .i64) n 16, rdEl (.int .i64) n 17, rdEl (.int .i64) n 18, rdEl (.int .i64) n 19, rdEl (.int .i64) n 20, z, (rdEl (.int .i64) n 22 == (1 : Int)))
/-- A number's text. -/
def itoaB (n : Int) : ByteArray := ⟨(Lib.itoa n).toArray⟩

/-! ### a configuration as a row of numbers and a zone -/

def isB (l : List UInt8) (v : ByteArray) : Bool := v.toList == l
/-- Where a word stands in a row, from one on; nought: nowhere. -/
def wordI (s : ByteArray) : List ByteArray → Int → Int
  | [], _ => 0
  | w :: l, i => cond (w.toList == s.toList) (i + 1) (wordI s l (i + 1))
def polL : List ByteArray := [⟨#[114, 111, 117, 110, 100]⟩, ⟨#[108, 101, 97, 115, 116]⟩, ⟨#[114, 105, 110, 103]⟩]
def nyL : List ByteArray := [⟨#[110, 111]⟩, ⟨#[121, 101, 115]⟩]
def yesB (v : ByteArray) : Bool := isB [121, 101, 115] v
def noB (v : ByteArray) : Bool := isB [110, 111] v
def yesW (b : Bool) : ByteArray := cond b ⟨#[121, 101, 115]⟩ ⟨#[110, 111]⟩
/-- The place of a name among the rows. -/
def atG (s : ByteArray) : List (El TRow) → Nat → Option Nat
  | [], _ => none
  | r :: l, i => cond (r.1.toList == s.toList) (some i) (atG s l (i + 1))
def rowAt (s : ByteArray) : Option Nat := atG s rowsL 0
/-- A field set: is the value one of it; the numbers; the zone. -/
def setN (n : List Int) (z : ByteArray) (i : Nat) (v : ByteArray) : Bool × List Int × ByteArray :=
  if i = 21 then (isB [45] v || nameB v, n, if isB [45] v then ⟨#[]⟩ else v)
  else if i = 20 then (decide (wordI v polL 0 > 0), n.set 20 (wordI v polL 0), z)
  else if i = 15 ∨ i = 22 then (yesB v || noB v, n.set i (bitI (yesB v)), z)
  else ((numB v).2 && (decide ((rdEl TRow rowsL i).2.1 ≤ (numB v).1) && decide ((numB v).1 ≤ (rdEl TRow rowsL i).2.2.1)), n.set i (numB v).1, z)
def setOk (c : El TConfig) (s v : ByteArray) : Bool := match rowAt s with | some i => (setN (numsL c) (cZone c) i v).1 | none => false
def setC (c : El TConfig) (s v : ByteArray) : El TConfig := match rowAt s with | some i => madeC (setN (numsL c) (cZone c) i v).2.1 (setN (numsL c) (cZone c) i v).2.2 | none => c
/-- Lines, gone through: a configuration, or the line that is wrong. -/
def parseG : List Ln → List Int → ByteArray → List Nat → Option (List Int × ByteArray) × Int
  | [], n, z, _ => (some (n, z), 0)
  | x :: l, n, z, seen =>
    match x.2 with
    | [a, v] => (match rowAt a with
      | none => (none, x.1)
      | some i => if i ∈ seen then (none, x.1) else if (setN n z i v).1 then parseG l (setN n z i v).2.1 (setN n z i v).2.2 (i :: seen) else (none, x.1))
    | _ => (none, x.1)
def zeroC : El TConfig := (0, 0, 0, 0, 0, 0, 0, 0, 0, 0, 0, 0, 0, 0, 0, false, 0, 0, 0, 0, 0, (⟨#[]⟩ : ByteArray), false)
def parseC (s : ByteArray) : El TConfig × Int × Int :=
  if (splitL s).2.2 = 0 then (match parseG (splitL s).1 (numsL defC) ⟨#[]⟩ [] with | (some r, _) => (madeC r.1 r.2, 0, 0) | (none, k) => (zeroC, k, 2))
  else (zeroC, (splitL s).2.1, (splitL s).2.2)
/-- One row's word, as it is written. -/
noncomputable def valB (n : List Int) (z : ByteArray) (i : Nat) : ByteArray :=
  if i = 21 then (if z.size = 0 then ⟨#[45]⟩ else z)
  else if i = 20 then rdEl .str polL ((rdEl (.int .i64) n 20) - 1).toNat
  else if i = 15 ∨ i = 22 then yesW (rdEl (.int .i64) n i == 1)
  else itoaB (rdEl (.int .i64) n i)
noncomputable def lineB (n : List Int) (z : ByteArray) (i : Nat) (r : El TRow) : ByteArray := ((r.1 ++ (⟨#[32]⟩ : ByteArray)) ++ valB n z i) ++ (⟨#[10]⟩ : ByteArray)
noncomputable def textG (n : List Int) (z : ByteArray) : List (El TRow) → Nat → ByteArray
  | [], _ => ⟨#[]⟩
  | r :: l, i => lineB n z i r ++ textG n z l (i + 1)
noncomputable def textC (c : El TConfig) : ByteArray := cond (mayC c) (textG (numsL c) (cZone c) rowsL 0) ⟨#[]⟩


end Go.Proofs.YtlakpbfmcnlnbaaDoor
