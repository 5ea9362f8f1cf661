/-
  The iterator over the parts of a text: what its maker returns, and its contract.
-/
import Derived.Test.YtcjlebkfekfkbaaUA0
import Derived.Test.YtcjlebkfekfkbaaVTx
import Derived.RangeFuncRecord
import Derived.WalkKit
import Derived.TacticsIn
import Derived.BigFrameIn
import Derived.RangeFuncOwn
import Derived.RangeFuncBox
import Derived.RangeFuncLeaves
import Derived.Shelf.Abstract
import Derived.Shelf.RegionOpen
import Derived.OwnWalkIn
import Derived.TacticsInMore
import Derived.LoopNIn
import Derived.LoopIn
namespace Go.Proofs.Ytcjlebkfekfkbaa
open Go VE Go.RowKit Go.Shelf

theorem snap1 {x : Xs} {w : World} {b : Nat} {u : Value} (hu : u.oneCell' = true) (ho : x.okp b 0) (hc : w.cell? ⟨b, 0, none⟩ = some u) : VRel x w (.pointer (some ⟨b, 0, none⟩)) (.snap [.v u] 0) :=
  .snap [.v u] 0 b 0 (fun _ => u) (fun c hc => by simp at hc; subst hc; exact .v _)
    (fun j hj => by
      have : j = 0 := by simpa using hj
      subst this
      exact ⟨ho, hc⟩)
    fun j c hj => by
      cases j with
      | zero => simp at hj; subst hj; exact .v u hu
      | succ j => simp at hj

theorem cell_new {w : World} {u : Value} {e : TypeId} {b : Nat} (hb : b = w.heap.size) : (w.alloc (.cells #[u] e)).cell? ⟨b, 0, none⟩ = some u := by subst hb; simp
theorem cell_old {w : World} {o : Obj} {b : Nat} {v : Value} (hb : b < w.heap.size) (h : w.cell? ⟨b, 0, none⟩ = some v) : (w.alloc o).cell? ⟨b, 0, none⟩ = some v :=
  (World.cell?_of_block (Below.heap_alloc w o b hb)).trans h

set_option maxRecDepth 100000 in
set_option maxHeartbeats 1000000 in
theorem runs_returns (s : ByteArray) (b : Int) : VE.Returns Try.prog 21 [.c (.v (.string s)), .c (.v (.int .u8 b))] (.c (.fn 28 [.snap [.v (.string s)] 0, .snap [.v (.int .u8 b)] 0])) := by
  intro w us ok hok hl hus ha
  obtain ⟨u0, u1, rfl⟩ : ∃ u0 u1, us = #[u0, u1] := by
    obtain ⟨l⟩ := us
    match l, hus with
    | [u0, u1], _ => exact ⟨u0, u1, rfl⟩
  have h0 : u0 = .string s := (iv_v (ha 0 _ rfl)).1
  have h1 : u1 = .int .u8 b := (iv_v (ha 1 _ rfl)).1
  subst h0 h1
  refine (callsIn_wide (n := 0)).1 ?_
  refine callsIn_of_wp (F := Fence.wide) Try.func21 rfl trivial ?_
  have hn : Try.f21.ntmps = 6 := rfl
  simp only [hn, List.size_toArray, List.length_cons, List.length_nil, Nat.reduceAdd, Nat.reduceSub, Array.replicate_succ, Array.replicate_zero, List.push_toArray, List.append_toArray, List.nil_append, List.cons_append]
  gi_wp2
  refine bodyPost_ret (results_tmp rfl _ _ _) rfl ⟨_, rfl, (((Below.refl _ w).alloc (by first | exact Nat.le_refl _ | (simp; done) | (simp; omega)) _).alloc (by first | exact Nat.le_refl _ | (simp; done) | (simp; omega)) _), .c _ _ (.fn 28 _ _ rfl fun j c hj => ?_)⟩
  match j, hj with
  | 0, hj => cases hj; exact snap1 rfl (.inr ⟨by first | (simp; done) | omega | (simp; omega), by first | (simp; done) | (simp; omega)⟩) (by first | (simp; done) | exact cell_new (by simp) | exact cell_old (by simp) (cell_new (by simp)) | exact cell_old (by simp; omega) (cell_old (by simp) (cell_new (by simp))))
  | 1, hj => cases hj; exact snap1 rfl (.inr ⟨by first | (simp; done) | omega | (simp; omega), by first | (simp; done) | (simp; omega)⟩) (by first | (simp; done) | exact cell_new (by simp) | exact cell_old (by simp) (cell_new (by simp)) | exact cell_old (by simp; omega) (cell_old (by simp) (cell_new (by simp))))
  | j + 2, hj => simp at hj

attribute [local go_sem] Oper.semAt_some

theorem snap_inv {x : Xs} {w : World} {u c : Value} (h : VRel x w u (.snap [.v c] 0)) : ∃ b o, u = .pointer (some ⟨b, o, none⟩) ∧ x.okp b o ∧ w.cell? ⟨b, o, none⟩ = some c := by
  cases h with
  | snap _ _ b base rd hfree hcell hel =>
    obtain ⟨h1, h2⟩ := hcell 0 (by simp)
    have h3 := hel 0 _ rfl
    have h4 : rd 0 = c := by
      generalize rd 0 = z at h3
      cases h3
      rfl
    rw [h4] at h2
    exact ⟨b, base, rfl, h1, h2⟩

theorem fr_cell {M : Nat → Prop} {B b o : Nat} {A C : World} (hb : b < B) (hm : ¬ M b) (h : Fr M B A C) : C.cell? ⟨b, o, none⟩ = A.cell? ⟨b, o, none⟩ := World.cell?_of_block (h.block b hb hm)
theorem below_cell {b o : Nat} {A C : World} (h : Below A.heap.size A C) (hb : b < A.heap.size) : C.cell? ⟨b, o, none⟩ = A.cell? ⟨b, o, none⟩ := h.cell (p := ⟨b, o, none⟩) hb

theorem caps2 {x : Xs} {W : World} {g : Nat} {lb : Array Value} {u v : Value} (h : VRel x W (.func (.func g) #[] lb) (.fn g [.snap [.v u] 0, .snap [.v v] 0])) :
    ∃ b1 o1 b2 o2, lb = #[.pointer (some ⟨b1, o1, none⟩), .pointer (some ⟨b2, o2, none⟩)] ∧ x.okp b1 o1 ∧ x.okp b2 o2 ∧ W.cell? ⟨b1, o1, none⟩ = some u ∧ W.cell? ⟨b2, o2, none⟩ = some v := by
  cases h with
  | fn _ _ _ hs hel =>
    obtain ⟨l⟩ := lb
    match l, hs with
    | [c1, c2], _ =>
      obtain ⟨b1, o1, h1, h2, h3⟩ := snap_inv (hel 0 _ rfl)
      obtain ⟨b2, o2, k1, k2, k3⟩ := snap_inv (hel 1 _ rfl)
      have h1 : c1 = _ := h1
      have k1 : c2 = _ := k1
      subst h1 k1
      exact ⟨b1, o1, b2, o2, rfl, h2, k2, h3, k3⟩

theorem byteAt_get {s : ByteArray} {i : Nat} (h : i < s.size) : byteAt s (i : Int) = ((s[i].toNat : Nat) : Int) := by
  have h2 : i < s.data.toList.length := by simpa using h
  unfold byteAt
  rw [show ((i : Int)).toNat = i from by omega, List.getD_eq_getElem?_getD, List.getElem?_eq_getElem h2]
  rfl
theorem runs_here {s : ByteArray} {sep : Int} {i a n : Nat} (h : i < s.size) (hb : ((s[i].toNat : Nat) : Int) = sep) :
    runs s sep (s.size - i) i a n = ((n : Int), s.extract a i) :: runs s sep (s.size - (i + 1)) (i + 1) (i + 1) (n + 1) := by
  rw [show s.size - i = (s.size - (i + 1)) + 1 by omega, runs, if_pos ((byteAt_get h).trans hb)]
theorem runs_on {s : ByteArray} {sep : Int} {i a n : Nat} (h : i < s.size) (hb : ¬ ((s[i].toNat : Nat) : Int) = sep) :
    runs s sep (s.size - i) i a n = runs s sep (s.size - (i + 1)) (i + 1) a n := by
  rw [show s.size - i = (s.size - (i + 1)) + 1 by omega, runs, if_neg (fun e => hb ((byteAt_get h).symm.trans e))]

set_option maxRecDepth 100000 in
set_option maxHeartbeats 4000000 in
theorem runs1_in (F : Fence) (d : Nat) (h17 : F.fn 28) (hro : F.round = none) (hn : 1 ≤ d) (l b1 o1 b2 o2 : Nat) (s : ByteArray) (sep : Int) (hs : s.size ≤ 140737488351232) (Kp : World → World → Prop)
    (hKr : ∀ A, Kp A A) (hKt : ∀ A B C, Kp A B → Kp B C → Kp A C) (hKd : ∀ A, Kp A A.drew) (hK1 : ∀ A B, Kp A B → B.cell? ⟨b1, o1, none⟩ = A.cell? ⟨b1, o1, none⟩) (hK2 : ∀ A B, Kp A B → B.cell? ⟨b2, o2, none⟩ = A.cell? ⟨b2, o2, none⟩) (J Jx : List (Int × ByteArray) → World → Prop) (hJd : ∀ pre A, J pre A → J pre A.drew)
    (hY : ∀ pre x W, x ∈ runsL s sep → J pre W → pre.length < (runsL s sep).length → YieldAt F (d - 1) Try.prog l #[.int .i64 x.1, .string x.2] W fun e W' =>
      (e = .returned (.bool true) ∧ J (pre ++ [x]) W' ∧ Kp W W') ∨ (e = .returned (.bool false) ∧ Jx (pre ++ [x]) W'))
    (W : World) (hc1 : W.cell? ⟨b1, o1, none⟩ = some (.string s)) (hc2 : W.cell? ⟨b2, o2, none⟩ = some (.int .u8 sep)) (h0 : J [] W) :
    CallsIn F d Try.prog 28 #[.func (.yield l) #[] #[], .pointer (some ⟨b1, o1, none⟩), .pointer (some ⟨b2, o2, none⟩)] W fun e W' => (∃ v, e = .returned v) ∧
      (J (runsL s sep) W' ∨ (∃ pre, pre <+: runsL s sep ∧ Jx pre W')) := by
  refine callsIn_of_wp Try.func28 rfl h17 ?_ hro
  have hnt : Try.f28.ntmps = 36 := rfl
  simp only [hnt, List.size_toArray, List.length_cons, List.length_nil, Nat.reduceAdd, Nat.reduceSub, Array.replicate_succ, Array.replicate_zero, List.push_toArray, List.append_toArray, List.nil_append, List.cons_append]
  gi_wp2
  gi_loopw [4, 5, 9] (fun va vn vi wr => ∃ (pre : List (Int × ByteArray)) (i a n : Nat), va = .int .i64 (a : Int) ∧ vn = .int .i64 (n : Int) ∧ vi = .int .i64 (i : Int) ∧ a ≤ i ∧ n ≤ i ∧ i ≤ s.size ∧ pre ++ runs s sep (s.size - i) i a n = runsL s sep ∧ J pre wr ∧ Kp W wr)
    (fun _ _ vi _ => s.size - (intOf vi).toNat)
  case atStart => exact ⟨[], 0, 0, 0, rfl, rfl, rfl, by omega, by omega, by omega, rfl, h0, hKr W⟩
  case round =>
    obtain ⟨pre, i, a, n, rfl, rfl, rfl, hai, hni, his, hL, hJs, hnx⟩ := hrel
    have hcx : wr.cell? ⟨b1, o1, none⟩ = some (.string s) := (hK1 _ _ hnx).trans hc1
    have hcx2 : wr.cell? ⟨b2, o2, none⟩ = some (.int .u8 sep) := (hK2 _ _ hnx).trans hc2
    by_cases hlt : i < s.size
    · gi_wp2
      gi_region
      all_goals
        have hJd' := hJd _ _ hJs
        have hnd : Kp W wr.drew := hKt _ _ _ hnx (hKd wr)
        have hcy : wr.drew.cell? ⟨b1, o1, none⟩ = some (.string s) := (hK1 _ _ hnd).trans hc1
        by_cases hb : ((s[i].toNat : Nat) : Int) = sep
        · rw [runs_here hlt hb] at hL
          obtain ⟨fn, tmps, assign, body, hy, hR⟩ := hY pre ((n : Int), s.extract a i) wr.drew (by rw [← hL]; simp) hJd' (by rw [← hL]; simp)
          dsimp only at hy
          gi_wp2
          refine hR.mono ?_
          rintro e W3 (⟨rfl, hJ3, hk3⟩ | ⟨rfl, hJx3⟩)
          · gi_wp2
            go_roundw
            case rel => exact ⟨pre ++ [((n : Int), s.extract a i)], i + 1, i + 1, n + 1, by simp, by simp, by simp, by omega, by omega, by omega, by rw [← hL, List.append_assoc]; rfl, hJ3, hKt _ _ _ hnd hk3⟩
            case measure => simp [intOf]; omega
          · gi_wp2
            refine bodyPost_ret (results_none rfl _ _ _) rfl ?_
            exact ⟨⟨_, rfl⟩, .inr ⟨_, ⟨_, by rw [← hL, List.append_assoc]; rfl⟩, hJx3⟩⟩
        · rw [runs_on hlt hb] at hL
          gi_wp2
          go_roundw
          case rel => exact ⟨pre, i + 1, a, n, by simp, by simp, by simp, by omega, by omega, by omega, hL, hJd', hnd⟩
          case measure => simp [intOf]; omega
    · obtain rfl : i = s.size := by omega
      have hL' : pre ++ [((n : Int), s.extract a s.size)] = runsL s sep := by rw [← hL, Nat.sub_self]; rfl
      obtain ⟨fn, tmps, assign, body, hy, hR⟩ := hY pre ((n : Int), s.extract a s.size) wr (by rw [← hL']; simp) hJs (by rw [← hL']; simp)
      dsimp only at hy
      gi_wp2
      refine hR.mono ?_
      rintro e W3 (⟨rfl, hJ3, hk3⟩ | ⟨rfl, hJx3⟩)
      · gi_wp2
        go_end0
        exact ⟨⟨_, rfl⟩, .inl (by rw [← hL']; exact hJ3)⟩
      · gi_wp2
        go_end0
        exact ⟨⟨_, rfl⟩, .inr ⟨_, by rw [hL']; exact List.prefix_rfl, hJx3⟩⟩

theorem runs_iter (s : ByteArray) (sep : Int) (hs : s.size ≤ 140737488351232) : IterOK Try.prog 28 [.snap [.v (.string s)] 0, .snap [.v (.int .u8 sep)] 0] (fun v : Int × ByteArray => [.int .i64 v.1, .string v.2]) (fun ys => ys = runsL s sep) (fun pre => pre <+: runsL s sep) (runsL s sep).length := by
  intro x W M lb hv hk l J Jx W1 hb hJ _ hY h0
  obtain ⟨b1, o1, b2, o2, rfl, h1, h2, h3, h4⟩ := caps2 hv
  refine (runs1_in (FR none) 2 trivial rfl (by omega) l b1 o1 b2 o2 s sep hs (Fr M W.heap.size) (fun A => Fr.refl _ _ A) (fun A B C h k => h.trans k) (fun A => ⟨rfl, rfl, rfl, Nat.le_refl _, fun _ _ _ => rfl⟩) (fun A B h => fr_cell (hk _ _ h1).1 (hk _ _ h1).2 h) (fun A B h => fr_cell (hk _ _ h2).1 (hk _ _ h2).2 h) J Jx
    (fun pre A h => hJ pre A A.drew none h ⟨rfl, rfl, rfl, Nat.le_refl _, fun _ _ _ => rfl⟩ (fun r e => by cases e)) (fun pre x W _ => hY pre x W) W1 ((below_cell hb (hk _ _ h1).1).trans h3) ((below_cell hb (hk _ _ h2).1).trans h4) h0).mono fun e W' ⟨he, h⟩ => ⟨he, h.imp (fun h => ⟨_, rfl, h⟩) id⟩

/-- The same, where a round is asked for parts of this text alone. -/
theorem runs_iter_in (s : ByteArray) (sep : Int) (hs : s.size ≤ 140737488351232) : IterOK Try.prog 28 [.snap [.v (.string s)] 0, .snap [.v (.int .u8 sep)] 0] (fun v : { v : Int × ByteArray // v ∈ runsL s sep } => [.int .i64 v.1.1, .string v.1.2])
    (fun ys => ys.map (·.1) = runsL s sep) (fun pre => pre.map (·.1) <+: runsL s sep) (runsL s sep).length := by
  intro x W M lb hv hk l J Jx W1 hb hJ _ hY h0
  obtain ⟨b1, o1, b2, o2, rfl, h1, h2, h3, h4⟩ := caps2 hv
  refine (runs1_in (FR none) 2 trivial rfl (by omega) l b1 o1 b2 o2 s sep hs (Fr M W.heap.size) (fun A => Fr.refl _ _ A) (fun A B C h k => h.trans k) (fun A => ⟨rfl, rfl, rfl, Nat.le_refl _, fun _ _ _ => rfl⟩) (fun A B h => fr_cell (hk _ _ h1).1 (hk _ _ h1).2 h) (fun A B h => fr_cell (hk _ _ h2).1 (hk _ _ h2).2 h)
    (fun l A => ∃ l' : List { v : Int × ByteArray // v ∈ runsL s sep }, l'.map (·.1) = l ∧ J l' A) (fun l A => ∃ l' : List { v : Int × ByteArray // v ∈ runsL s sep }, l'.map (·.1) = l ∧ Jx l' A)
    (fun pre A h => h.imp fun l' h => ⟨h.1, hJ l' A A.drew none h.2 ⟨rfl, rfl, rfl, Nat.le_refl _, fun _ _ _ => rfl⟩ (fun r e => by cases e)⟩)
    (fun pre x W hx h hl => ?_) W1 ((below_cell hb (hk _ _ h1).1).trans h3) ((below_cell hb (hk _ _ h2).1).trans h4) ⟨[], rfl, h0⟩).mono ?_
  · obtain ⟨l', rfl, h⟩ := h
    obtain ⟨fn, tmps, assign, body, g1, g2⟩ := hY l' ⟨x, hx⟩ W h (by simpa using hl)
    refine ⟨fn, tmps, assign, body, g1, g2.mono ?_⟩
    rintro e W' (⟨rfl, h5, h6⟩ | ⟨rfl, h5⟩)
    · exact .inl ⟨rfl, ⟨l' ++ [⟨x, hx⟩], by simp, h5⟩, h6⟩
    · exact .inr ⟨rfl, l' ++ [⟨x, hx⟩], by simp, h5⟩
  · rintro e W' ⟨he, ⟨l', h5, h6⟩ | ⟨pre, h5, l', rfl, h6⟩⟩
    · exact ⟨he, .inl ⟨l', h5, h6⟩⟩
    · exact ⟨he, .inr ⟨l', h5, h6⟩⟩

end Go.Proofs.Ytcjlebkfekfkbaa
