/-
  The iterators Turn, Times: what their makers return, and their contracts.
-/
import Derived.Test.YtognnacdakfekaaUA
import Derived.Test.YtognnacdakfekaaUR
import Derived.RangeFuncRecord
import Derived.WalkKit
import Derived.TacticsIn
import Derived.BigFrameIn
import Derived.RangeFuncOwn
import Derived.RangeFuncBox
import Derived.RangeFuncLeaves
import Derived.Shelf.Abstract
import Derived.Shelf.RegionOpen
import Derived.OwnWalkIn
import Derived.TacticsInMore
import Derived.LoopNIn
import Derived.LoopIn
namespace Go.Proofs.Ytognnacdakfekaa
open Go VE Go.RowKit Go.Shelf

set_option maxRecDepth 100000 in
set_option maxHeartbeats 1000000 in
theorem turn_returns (n : Int) (f : Int) : VE.Returns Try.prog 9 [.c (.v (.int .i64 n)), .c (.v (.int .i64 f))] (.c (.fn 14 [.snap [.v (.int .i64 n)] 0, .snap [.v (.int .i64 f)] 0])) := by
  intro w us ok hok hl hus ha
  obtain ⟨u0, u1, rfl⟩ : ∃ u0 u1, us = #[u0, u1] := by
    obtain ⟨l⟩ := us
    match l, hus with
    | [u0, u1], _ => exact ⟨u0, u1, rfl⟩
  have h0 : u0 = .int .i64 n := (iv_v (ha 0 _ rfl)).1
  have h1 : u1 = .int .i64 f := (iv_v (ha 1 _ rfl)).1
  subst h0 h1
  refine (callsIn_wide (n := 0)).1 ?_
  refine callsIn_of_wp (F := Fence.wide) Try.func9 rfl trivial ?_
  have hn : Try.f9.ntmps = 6 := rfl
  simp only [hn, List.size_toArray, List.length_cons, List.length_nil, Nat.reduceAdd, Nat.reduceSub, Array.replicate_succ, Array.replicate_zero, List.push_toArray, List.append_toArray, List.nil_append, List.cons_append]
  gi_wp2
  refine bodyPost_ret (results_tmp rfl _ _ _) rfl ⟨_, rfl, (((Below.refl _ w).alloc (by first | exact Nat.le_refl _ | (simp; done) | (simp; omega)) _).alloc (by first | exact Nat.le_refl _ | (simp; done) | (simp; omega)) _), .c _ _ (.fn 14 _ _ rfl fun j c hj => ?_)⟩
  match j, hj with
  | 0, hj => cases hj; exact snap1 rfl (.inr ⟨by first | (simp; done) | omega | (simp; omega), by first | (simp; done) | (simp; omega)⟩) (by first | (simp; done) | exact cell_new (by simp) | exact cell_old (by simp) (cell_new (by simp)) | exact cell_old (by simp; omega) (cell_old (by simp) (cell_new (by simp))))
  | 1, hj => cases hj; exact snap1 rfl (.inr ⟨by first | (simp; done) | omega | (simp; omega), by first | (simp; done) | (simp; omega)⟩) (by first | (simp; done) | exact cell_new (by simp) | exact cell_old (by simp) (cell_new (by simp)) | exact cell_old (by simp; omega) (cell_old (by simp) (cell_new (by simp))))
  | j + 2, hj => simp at hj

set_option maxRecDepth 100000 in
set_option maxHeartbeats 1000000 in
theorem times_returns (f : Int) (s : Int) (t : Int) : VE.Returns Try.prog 13 [.c (.v (.int .i64 f)), .c (.v (.int .i64 s)), .c (.v (.int .i64 t))] (.c (.fn 16 [.snap [.v (.int .i64 s)] 0, .snap [.v (.int .i64 f)] 0, .snap [.v (.int .i64 t)] 0])) := by
  intro w us ok hok hl hus ha
  obtain ⟨u0, u1, u2, rfl⟩ : ∃ u0 u1 u2, us = #[u0, u1, u2] := by
    obtain ⟨l⟩ := us
    match l, hus with
    | [u0, u1, u2], _ => exact ⟨u0, u1, u2, rfl⟩
  have h0 : u0 = .int .i64 f := (iv_v (ha 0 _ rfl)).1
  have h1 : u1 = .int .i64 s := (iv_v (ha 1 _ rfl)).1
  have h2 : u2 = .int .i64 t := (iv_v (ha 2 _ rfl)).1
  subst h0 h1 h2
  refine (callsIn_wide (n := 0)).1 ?_
  refine callsIn_of_wp (F := Fence.wide) Try.func13 rfl trivial ?_
  have hn : Try.f13.ntmps = 8 := rfl
  simp only [hn, List.size_toArray, List.length_cons, List.length_nil, Nat.reduceAdd, Nat.reduceSub, Array.replicate_succ, Array.replicate_zero, List.push_toArray, List.append_toArray, List.nil_append, List.cons_append]
  gi_wp2
  refine bodyPost_ret (results_tmp rfl _ _ _) rfl ⟨_, rfl, ((((Below.refl _ w).alloc (by first | exact Nat.le_refl _ | (simp; done) | (simp; omega)) _).alloc (by first | exact Nat.le_refl _ | (simp; done) | (simp; omega)) _).alloc (by first | exact Nat.le_refl _ | (simp; done) | (simp; omega)) _), .c _ _ (.fn 16 _ _ rfl fun j c hj => ?_)⟩
  match j, hj with
  | 0, hj => cases hj; exact snap1 rfl (.inr ⟨by first | (simp; done) | omega | (simp; omega), by first | (simp; done) | (simp; omega)⟩) (by first | (simp; done) | exact cell_new (by simp) | exact cell_old (by simp) (cell_new (by simp)) | exact cell_old (by simp; omega) (cell_old (by simp) (cell_new (by simp))))
  | 1, hj => cases hj; exact snap1 rfl (.inr ⟨by first | (simp; done) | omega | (simp; omega), by first | (simp; done) | (simp; omega)⟩) (by first | (simp; done) | exact cell_new (by simp) | exact cell_old (by simp) (cell_new (by simp)) | exact cell_old (by simp; omega) (cell_old (by simp) (cell_new (by simp))))
  | 2, hj => cases hj; exact snap1 rfl (.inr ⟨by first | (simp; done) | omega | (simp; omega), by first | (simp; done) | (simp; omega)⟩) (by first | (simp; done) | exact cell_new (by simp) | exact cell_old (by simp) (cell_new (by simp)) | exact cell_old (by simp; omega) (cell_old (by simp) (cell_new (by simp))))
  | j + 3, hj => simp at hj

attribute [local go_sem] Oper.semAt_some

theorem upto_succ {α : Type} (f : Nat → α) (k : Nat) : upto f (k + 1) = upto f k ++ [f k] := by simp [upto, List.range_succ]
theorem upto_length {α : Type} (f : Nat → α) (k : Nat) : (upto f k).length = k := by simp [upto]

theorem first_lt {n f : Int} (h : 1 ≤ n) : 0 ≤ first n f ∧ first n f < n := by
  have h1 := Int.tmod_lt_of_pos f (b := n) (by omega)
  have h2 := Int.lt_tmod_of_pos f (b := n) (by omega)
  unfold first
  split <;> omega
theorem turnL_length {n f : Int} : (turnL n f).length = n.toNat := by
  unfold turnL
  split
  · simp; omega
  · have := first_lt (n := n) (f := f) (by omega)
    rw [List.length_append, upto_length, upto_length]
    omega

theorem turn_pre1 {l l2 : List Int} {f : Nat → Int} {k N : Nat} (h : l = upto f N ++ l2) (hk : k < N) : upto f k ++ [f k] <+: l := by
  rw [h, ← upto_succ]
  have : upto f (k + 1) = (upto f N).take (k + 1) := by
    unfold upto
    rw [← List.map_take, List.take_range]
    congr 2
    omega
  rw [this]
  exact (List.take_prefix _ _).trans (List.prefix_append _ _)
theorem turn_pre2 {l l1 : List Int} {f : Nat → Int} {k N : Nat} (h : l = l1 ++ upto f N) (hk : k < N) : (l1 ++ upto f k) ++ [f k] <+: l := by
  rw [h, List.append_assoc, ← upto_succ]
  have : upto f (k + 1) = (upto f N).take (k + 1) := by
    unfold upto
    rw [← List.map_take, List.take_range]
    congr 2
    omega
  rw [this, List.prefix_append_right_inj]
  exact List.take_prefix _ _

set_option maxRecDepth 100000 in
set_option maxHeartbeats 4000000 in
theorem turn1_in (F : Fence) (d : Nat) (h14 : F.fn 14) (hro : F.round = none) (hn : 1 ≤ d) (l b1 o1 b2 o2 : Nat) (n f : Int) (hn2 : n ≤ 1000000) (Kp : World → World → Prop)
    (hKr : ∀ A, Kp A A) (hKt : ∀ A B C, Kp A B → Kp B C → Kp A C) (hK1 : ∀ A B, Kp A B → B.cell? ⟨b1, o1, none⟩ = A.cell? ⟨b1, o1, none⟩) (J Jx : List Int → World → Prop)
    (hY : ∀ pre x W, J pre W → pre.length < n.toNat → YieldAt F (d - 1) Try.prog l #[.int .i64 x] W fun e W' =>
      (e = .returned (.bool true) ∧ J (pre ++ [x]) W' ∧ Kp W W') ∨ (e = .returned (.bool false) ∧ Jx (pre ++ [x]) W'))
    (W : World) (hc1 : W.cell? ⟨b1, o1, none⟩ = some (.int .i64 n)) (hc2 : W.cell? ⟨b2, o2, none⟩ = some (.int .i64 f)) (h0 : J [] W) :
    CallsIn F d Try.prog 14 #[.func (.yield l) #[] #[], .pointer (some ⟨b1, o1, none⟩), .pointer (some ⟨b2, o2, none⟩)] W fun e W' => (∃ v, e = .returned v) ∧
      ((∃ ys, ys = turnL n f ∧ J ys W') ∨ (∃ pre, pre <+: turnL n f ∧ Jx pre W')) := by
  refine callsIn_of_wp Try.func14 rfl h14 ?_ hro
  have hnt : Try.f14.ntmps = 36 := rfl
  simp only [hnt, List.size_toArray, List.length_cons, List.length_nil, Nat.reduceAdd, Nat.reduceSub, Array.replicate_succ, Array.replicate_zero, List.push_toArray, List.append_toArray, List.nil_append, List.cons_append]
  by_cases hn1 : n < 1
  · gi_wp2
    refine bodyPost_ret (results_none rfl _ _ _) rfl ?_
    exact ⟨⟨_, rfl⟩, .inl ⟨[], by unfold turnL; rw [if_pos hn1], h0⟩⟩
  · obtain ⟨m, rfl⟩ : ∃ m : Nat, n = m := ⟨n.toNat, by omega⟩
    have hf := first_lt (n := m) (f := f) (by omega)
    have hL : turnL m f = upto (fun j => first m f + (j : Int)) (m - first m f).toNat ++ upto (fun j => (j : Int)) (first m f).toNat := by unfold turnL; rw [if_neg hn1]
    have hneg : f.tmod m < 0 → wrap64 (f.tmod m + m) = first m f := fun h => by
      have : first m f = f.tmod m + m := by unfold first; rw [if_pos h]
      rw [← this]; exact IntWalk.wrap64_in _ (by omega)
    have hpos : ¬ f.tmod m < 0 → f.tmod m = first m f := fun h => by unfold first; rw [if_neg h]
    obtain ⟨a, ha⟩ : ∃ a : Nat, first m f = a := ⟨(first m f).toNat, by omega⟩
    rw [ha] at hL hneg hpos hf
    have ha' : ((a : Int)).toNat = a := by omega
    by_cases hs : f.tmod m < 0
    · have hz := hneg hs
      gi_wp2
      gi_loopw [5] (fun i wr => ∃ k : Nat, a + k ≤ m ∧ i = .int .i64 ((a : Int) + (k : Int)) ∧ J (upto (fun j => (a : Int) + (j : Int)) k) wr ∧ Kp W wr)
        (fun i _ => m - (intOf i).toNat)
      case atStart => exact ⟨0, by omega, by simp, h0, hKr W⟩
      case round =>
        obtain ⟨k, hk, rfl, hJs, hnx⟩ := hrel
        have hcx : wr.cell? ⟨b1, o1, none⟩ = some (.int .i64 m) := (hK1 _ _ hnx).trans hc1
        by_cases hlt : a + k < m
        · obtain ⟨fn, tmps, assign, body, hy, hR⟩ := hY _ ((a : Int) + (k : Int)) wr hJs (by rw [upto_length]; omega)
          have hlt' : (a : Int) + (k : Int) < m := by omega
          gi_wp2
          refine hR.mono ?_
          rintro e W3 (⟨rfl, hJ3, hk3⟩ | ⟨rfl, hJx3⟩)
          · gi_wp2
            go_roundw
            case rel => exact ⟨k + 1, by omega, by simp; omega, by rw [upto_succ]; exact hJ3, hKt _ _ _ hnx hk3⟩
            case measure => simp [intOf]; omega
          · gi_wp2
            refine bodyPost_ret (results_none rfl _ _ _) rfl ?_
            exact ⟨⟨_, rfl⟩, .inr ⟨_, turn_pre1 hL (by omega), hJx3⟩⟩
        · have hkm : k = ((m : Int) - (a : Int)).toNat := by omega
          have hge : ¬ (a : Int) + (k : Int) < m := by omega
          rw [ha', ← hkm] at hL
          gi_wp2
          gi_loopw [28] (fun i wr2 => ∃ k2 : Nat, k2 ≤ a ∧ i = .int .i64 (k2 : Int) ∧ J (upto (fun j => (a : Int) + (j : Int)) k ++ upto (fun j => (j : Int)) k2) wr2 ∧ Kp W wr2)
            (fun i _ => a - (intOf i).toNat)
          case atStart => exact ⟨0, by omega, by simp, by simpa [upto] using hJs, hnx⟩
          case round =>
            obtain ⟨k2, hk2, rfl, hJs2, hnx2⟩ := hrel
            by_cases hlt2 : k2 < a
            · obtain ⟨fn, tmps, assign, body, hy, hR⟩ := hY _ (k2 : Int) _ hJs2 (by rw [List.length_append, upto_length, upto_length]; omega)
              have hlt2' : (k2 : Int) < (a : Int) := by omega
              gi_wp2
              refine hR.mono ?_
              rintro e W3 (⟨rfl, hJ3, hk3⟩ | ⟨rfl, hJx3⟩)
              · gi_wp2
                go_roundw
                case rel => exact ⟨k2 + 1, by omega, by simp, by rw [upto_succ, ← List.append_assoc]; exact hJ3, hKt _ _ _ hnx2 hk3⟩
                case measure => simp [intOf]; omega
              · gi_wp2
                refine bodyPost_ret (results_none rfl _ _ _) rfl ?_
                exact ⟨⟨_, rfl⟩, .inr ⟨_, turn_pre2 hL (by omega), hJx3⟩⟩
            · obtain rfl : k2 = a := by omega
              gi_wp2
              go_end0
              exact ⟨⟨_, rfl⟩, .inl ⟨_, hL.symm, hJs2⟩⟩
    · have hz := hpos hs
      gi_wp2
      gi_loopw [5] (fun i wr => ∃ k : Nat, a + k ≤ m ∧ i = .int .i64 ((a : Int) + (k : Int)) ∧ J (upto (fun j => (a : Int) + (j : Int)) k) wr ∧ Kp W wr)
        (fun i _ => m - (intOf i).toNat)
      case atStart => exact ⟨0, by omega, by simp, h0, hKr W⟩
      case round =>
        obtain ⟨k, hk, rfl, hJs, hnx⟩ := hrel
        have hcx : wr.cell? ⟨b1, o1, none⟩ = some (.int .i64 m) := (hK1 _ _ hnx).trans hc1
        by_cases hlt : a + k < m
        · obtain ⟨fn, tmps, assign, body, hy, hR⟩ := hY _ ((a : Int) + (k : Int)) wr hJs (by rw [upto_length]; omega)
          have hlt' : (a : Int) + (k : Int) < m := by omega
          gi_wp2
          refine hR.mono ?_
          rintro e W3 (⟨rfl, hJ3, hk3⟩ | ⟨rfl, hJx3⟩)
          · gi_wp2
            go_roundw
            case rel => exact ⟨k + 1, by omega, by simp; omega, by rw [upto_succ]; exact hJ3, hKt _ _ _ hnx hk3⟩
            case measure => simp [intOf]; omega
          · gi_wp2
            refine bodyPost_ret (results_none rfl _ _ _) rfl ?_
            exact ⟨⟨_, rfl⟩, .inr ⟨_, turn_pre1 hL (by omega), hJx3⟩⟩
        · have hkm : k = ((m : Int) - (a : Int)).toNat := by omega
          have hge : ¬ (a : Int) + (k : Int) < m := by omega
          rw [ha', ← hkm] at hL
          gi_wp2
          gi_loopw [28] (fun i wr2 => ∃ k2 : Nat, k2 ≤ a ∧ i = .int .i64 (k2 : Int) ∧ J (upto (fun j => (a : Int) + (j : Int)) k ++ upto (fun j => (j : Int)) k2) wr2 ∧ Kp W wr2)
            (fun i _ => a - (intOf i).toNat)
          case atStart => exact ⟨0, by omega, by simp, by simpa [upto] using hJs, hnx⟩
          case round =>
            obtain ⟨k2, hk2, rfl, hJs2, hnx2⟩ := hrel
            by_cases hlt2 : k2 < a
            · obtain ⟨fn, tmps, assign, body, hy, hR⟩ := hY _ (k2 : Int) _ hJs2 (by rw [List.length_append, upto_length, upto_length]; omega)
              have hlt2' : (k2 : Int) < (a : Int) := by omega
              gi_wp2
              refine hR.mono ?_
              rintro e W3 (⟨rfl, hJ3, hk3⟩ | ⟨rfl, hJx3⟩)
              · gi_wp2
                go_roundw
                case rel => exact ⟨k2 + 1, by omega, by simp, by rw [upto_succ, ← List.append_assoc]; exact hJ3, hKt _ _ _ hnx2 hk3⟩
                case measure => simp [intOf]; omega
              · gi_wp2
                refine bodyPost_ret (results_none rfl _ _ _) rfl ?_
                exact ⟨⟨_, rfl⟩, .inr ⟨_, turn_pre2 hL (by omega), hJx3⟩⟩
            · obtain rfl : k2 = a := by omega
              gi_wp2
              go_end0
              exact ⟨⟨_, rfl⟩, .inl ⟨_, hL.symm, hJs2⟩⟩
theorem turn_iter (n f : Int) (hn : n ≤ 1000000) : IterOK Try.prog 14 [.snap [.v (.int .i64 n)] 0, .snap [.v (.int .i64 f)] 0] (fun v : Int => [.int .i64 v]) (fun ys => ys = turnL n f) (fun pre => pre <+: turnL n f) n.toNat := by
  intro x W M lb hv hk l J Jx W1 hb _ _ hY h0
  obtain ⟨b1, o1, b2, o2, rfl, h1, h2, h3, h4⟩ := caps2 hv
  exact turn1_in (FR none) 2 trivial rfl (by omega) l b1 o1 b2 o2 n f hn (Fr M W.heap.size) (fun A => Fr.refl _ _ A) (fun A B C h k => h.trans k) (fun A B h => fr_cell (hk _ _ h1).1 (hk _ _ h1).2 h) J Jx hY W1
    ((below_cell hb (hk _ _ h1).1).trans h3) ((below_cell hb (hk _ _ h2).1).trans h4) h0

theorem upto_pre {f : Nat → Int} {k N : Nat} (hk : k ≤ N) : upto f k <+: upto f N := by
  have : upto f k = (upto f N).take k := by
    unfold upto
    rw [← List.map_take, List.take_range]
    congr 2
    omega
  rw [this]
  exact List.take_prefix _ _

set_option maxRecDepth 100000 in
set_option maxHeartbeats 4000000 in
theorem times1_in (F : Fence) (d : Nat) (h16 : F.fn 16) (hro : F.round = none) (hn : 1 ≤ d) (l b1 o1 b2 o2 b3 o3 : Nat) (s f t : Int) (Kp : World → World → Prop)
    (hKr : ∀ A, Kp A A) (hKt : ∀ A B C, Kp A B → Kp B C → Kp A C) (hK1 : ∀ A B, Kp A B → B.cell? ⟨b1, o1, none⟩ = A.cell? ⟨b1, o1, none⟩) (hK3 : ∀ A B, Kp A B → B.cell? ⟨b3, o3, none⟩ = A.cell? ⟨b3, o3, none⟩) (J Jx : List Int → World → Prop)
    (hY : ∀ pre x W, J pre W → pre.length < (timesL f s t).length → YieldAt F (d - 1) Try.prog l #[.int .i64 x] W fun e W' =>
      (e = .returned (.bool true) ∧ J (pre ++ [x]) W' ∧ Kp W W') ∨ (e = .returned (.bool false) ∧ Jx (pre ++ [x]) W'))
    (W : World) (hc1 : W.cell? ⟨b1, o1, none⟩ = some (.int .i64 s)) (hc2 : W.cell? ⟨b2, o2, none⟩ = some (.int .i64 f)) (hc3 : W.cell? ⟨b3, o3, none⟩ = some (.int .i64 t)) (h0 : J [] W) :
    CallsIn F d Try.prog 16 #[.func (.yield l) #[] #[], .pointer (some ⟨b1, o1, none⟩), .pointer (some ⟨b2, o2, none⟩), .pointer (some ⟨b3, o3, none⟩)] W fun e W' => (∃ v, e = .returned v) ∧
      (J (timesL f s t) W' ∨ (∃ pre, pre <+: timesL f s t ∧ Jx pre W')) := by
  refine callsIn_of_wp Try.func16 rfl h16 ?_ hro
  have hnt : Try.f16.ntmps = 34 := rfl
  simp only [hnt, List.size_toArray, List.length_cons, List.length_nil, Nat.reduceAdd, Nat.reduceSub, Array.replicate_succ, Array.replicate_zero, List.push_toArray, List.append_toArray, List.nil_append, List.cons_append]
  have out : (s < 1 ∨ f < 0 ∨ 4611686018427387904 < t) → J [] W → (∃ v, Ending.returned (.tuple #[]) = .returned v) ∧ (J (timesL f s t) W ∨ (∃ pre, pre <+: timesL f s t ∧ Jx pre W)) := fun h hj =>
    ⟨⟨_, rfl⟩, .inl (by unfold timesL; rw [if_pos (by omega)]; exact hj)⟩
  by_cases hs : s < 1
  · gi_wp2
    refine bodyPost_ret (results_none rfl _ _ _) rfl ?_
    exact out (by omega) h0
  by_cases hf : f < 0
  · gi_wp2
    refine bodyPost_ret (results_none rfl _ _ _) rfl ?_
    exact out (by omega) h0
  by_cases ht : 4611686018427387904 < t
  · gi_wp2
    refine bodyPost_ret (results_none rfl _ _ _) rfl ?_
    exact out (by omega) h0
  gi_wp2
  gi_loopw [5] (fun i wr => ∃ (k : Nat) (v : Int), f + (k : Int) * s = v ∧ (v ≤ t ∨ (k = 0 ∧ t < f)) ∧ 0 ≤ v ∧ i = .int .i64 v ∧ J (upto (fun k => f + (k : Int) * s) k) wr ∧ Kp W wr)
    (fun i _ => (t + 1 - intOf i).toNat)
  case atStart => exact ⟨0, f, by simp, by omega, by omega, rfl, h0, hKr W⟩
  case round =>
    obtain ⟨k, v, hv, hvt, hv0, rfl, hJs, hnx⟩ := hrel
    have hcx : wr.cell? ⟨b1, o1, none⟩ = some (.int .i64 s) := (hK1 _ _ hnx).trans hc1
    have hcx3 : wr.cell? ⟨b3, o3, none⟩ = some (.int .i64 t) := (hK3 _ _ hnx).trans hc3
    by_cases hlt : v ≤ t
    · have hft : f ≤ t := by
        have : 0 ≤ (k : Int) * s := Int.mul_nonneg (by omega) (by omega)
        omega
      have hL : timesL f s t = upto (fun k => f + (k : Int) * s) (((t - f) / s).toNat + 1) := by unfold timesL; rw [if_neg (by omega)]
      have hkd : (k : Int) ≤ (t - f) / s := Int.le_ediv_of_mul_le (by omega) (by omega)
      obtain ⟨fn, tmps, assign, body, hy, hR⟩ := hY _ v wr hJs (by rw [hL, upto_length, upto_length]; omega)
      gi_wp2
      refine hR.mono ?_
      rintro e W3 (⟨rfl, hJ3, hk3⟩ | ⟨rfl, hJx3⟩)
      · have hd1 : W3.cell? ⟨b1, o1, none⟩ = some (.int .i64 s) := (hK1 _ _ hk3).trans hcx
        have hd3 : W3.cell? ⟨b3, o3, none⟩ = some (.int .i64 t) := (hK3 _ _ hk3).trans hcx3
        have hJ4 : J (upto (fun k => f + (k : Int) * s) (k + 1)) W3 := by rw [upto_succ]; rw [← hv] at hJ3; exact hJ3
        by_cases hend : t - v < s
        · have hke : (t - f) / s = (k : Int) := by
            have : (t - f) / s < (k : Int) + 1 := Int.ediv_lt_of_lt_mul (by omega) (by rw [Int.add_mul, Int.one_mul]; omega)
            omega
          gi_wp2
          refine bodyPost_ret (results_none rfl _ _ _) rfl ?_
          exact ⟨⟨_, rfl⟩, .inl (by rw [hL, hke]; exact hJ4)⟩
        · gi_wp2
          go_roundw
          case rel => exact ⟨k + 1, v + s, by rw [← hv]; push_cast; rw [Int.add_mul, Int.one_mul]; omega, by omega, by omega, by simp, hJ4, hKt _ _ _ hnx hk3⟩
          case measure => simp [intOf]; omega
      · gi_wp2
        refine bodyPost_ret (results_none rfl _ _ _) rfl ?_
        exact ⟨⟨_, rfl⟩, .inr ⟨upto (fun k => f + (k : Int) * s) (k + 1), by rw [hL]; exact upto_pre (by omega), by rw [upto_succ]; rw [← hv] at hJx3; exact hJx3⟩⟩
    · obtain ⟨rfl, hf2⟩ : k = 0 ∧ t < f := by omega
      gi_wp2
      go_end0
      exact ⟨⟨_, rfl⟩, .inl (by unfold timesL; rw [if_pos (by omega)]; exact hJs)⟩

theorem caps3 {x : Xs} {W : World} {g : Nat} {lb : Array Value} {u v z : Value} (h : VRel x W (.func (.func g) #[] lb) (.fn g [.snap [.v u] 0, .snap [.v v] 0, .snap [.v z] 0])) :
    ∃ b1 o1 b2 o2 b3 o3, lb = #[.pointer (some ⟨b1, o1, none⟩), .pointer (some ⟨b2, o2, none⟩), .pointer (some ⟨b3, o3, none⟩)] ∧ x.okp b1 o1 ∧ x.okp b2 o2 ∧ x.okp b3 o3 ∧ W.cell? ⟨b1, o1, none⟩ = some u ∧ W.cell? ⟨b2, o2, none⟩ = some v ∧ W.cell? ⟨b3, o3, none⟩ = some z := by
  cases h with
  | fn _ _ _ hs hel =>
    obtain ⟨l⟩ := lb
    match l, hs with
    | [c1, c2, c3], _ =>
      obtain ⟨b1, o1, h1, h2, h3⟩ := snap_inv (hel 0 _ rfl)
      obtain ⟨b2, o2, k1, k2, k3⟩ := snap_inv (hel 1 _ rfl)
      obtain ⟨b3, o3, j1, j2, j3⟩ := snap_inv (hel 2 _ rfl)
      have h1 : c1 = _ := h1
      have k1 : c2 = _ := k1
      have j1 : c3 = _ := j1
      subst h1 k1 j1
      exact ⟨b1, o1, b2, o2, b3, o3, rfl, h2, k2, j2, h3, k3, j3⟩

theorem times_iter (s f t : Int) : IterOK Try.prog 16 [.snap [.v (.int .i64 s)] 0, .snap [.v (.int .i64 f)] 0, .snap [.v (.int .i64 t)] 0] (fun v : Int => [.int .i64 v]) (fun ys => ys = timesL f s t) (fun pre => pre <+: timesL f s t) (timesL f s t).length := by
  intro x W M lb hv hk l J Jx W1 hb _ _ hY h0
  obtain ⟨b1, o1, b2, o2, b3, o3, rfl, h1, h2, h5, h3, h4, h6⟩ := caps3 hv
  refine (times1_in (FR none) 2 trivial rfl (by omega) l b1 o1 b2 o2 b3 o3 s f t (Fr M W.heap.size) (fun A => Fr.refl _ _ A) (fun A B C h k => h.trans k) (fun A B h => fr_cell (hk _ _ h1).1 (hk _ _ h1).2 h) (fun A B h => fr_cell (hk _ _ h5).1 (hk _ _ h5).2 h) J Jx hY W1
    ((below_cell hb (hk _ _ h1).1).trans h3) ((below_cell hb (hk _ _ h2).1).trans h4) ((below_cell hb (hk _ _ h5).1).trans h6) h0).mono fun e W' ⟨he, h⟩ => ⟨he, h.imp (fun h => ⟨_, rfl, h⟩) id⟩

end Go.Proofs.Ytognnacdakfekaa
