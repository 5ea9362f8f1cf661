/-
  The builder: what is written stands behind what stood.
-/
import Derived.Test.YtlakpbfmcnlnbaaDoorLD
import Derived.Test.YtlakpbfmcnlnbaaDoorShelf
import Derived.Lib.FrozenHead2
import Derived.Test.YtlakpbfmcnlnbaaDoorVYl
import Derived.Lib.AppendIntMem
namespace Go.Proofs.YtlakpbfmcnlnbaaDoor
open Go VE Go.RowKit Go.Shelf

set_option maxRecDepth 100000 in
set_option maxHeartbeats 1000000 in
theorem copy_used (b : Nat) (w : World) (h0 : w.cell? ⟨b, 0, none⟩ = some (.pointer (some ⟨b, 0, none⟩))) :
    Calls Tryd.prog 42 #[.pointer (some ⟨b, 0, none⟩)] w fun e w' => e = .returned (.tuple #[]) ∧ w' = w := by
  obtain ⟨j, hj, _⟩ := Option.map_eq_some_iff.1 (show (Tryd.prog.info? 62).map (·.size) = some 2 by kernel_rfl)
  have hn : Tryd.f42.ntmps = 20 := rfl
  go_enter Tryd.func42, hn
  go_wp2
  rw [Lib.run_neq_ptr_same w _ (show Tryd.prog.underlying 59 = some (.pointer 62) by kernel_rfl) hj]
  go_wp2
  go_end0
  exact ⟨rfl, rfl⟩

set_option maxRecDepth 100000 in
set_option maxHeartbeats 1000000 in
theorem copy_fresh (b : Nat) (w : World) (h0 : w.cell? ⟨b, 0, none⟩ = some (.pointer none)) (hsh : w.shape? b = some (62, 2)) (hfz : w.frozen? ⟨b, 0, none⟩ = false) :
    Calls Tryd.prog 42 #[.pointer (some ⟨b, 0, none⟩)] w fun e w' => e = .returned (.tuple #[]) ∧ w' = w.setCell ⟨b, 0, none⟩ (.pointer (some ⟨b, 0, none⟩)) := by
  obtain ⟨j, hj, hjs⟩ := Option.map_eq_some_iff.1 (show (Tryd.prog.info? 62).map (·.size) = some 2 by kernel_rfl)
  have t52 : Tryd.prog.underlying 59 = some (.pointer 62) := by kernel_rfl
  have t66 : Tryd.prog.underlying 88 = some .unsafePointer := by kernel_rfl
  have hn : Tryd.f42.ntmps = 20 := rfl
  go_enter Tryd.func42, hn
  go_wp2
  rw [Lib.run_to_unsafe w ⟨b, 0, none⟩ t52 t66 hj (by rw [hjs]; decide) hsh (Nat.zero_lt_succ 1)]
  simp only [Result.andThen]
  rw [Oper.upon_value]
  go_wp2
  rw [run_callFunc_extern Tryd.func46 (by kernel_rfl) (by kernel_rfl) (by kernel_rfl) (e := Extern.AbiNoEscape.same) (by kernel_rfl)]
  rw [Lib.run_noEscape]
  simp only [Result.andThen]
  rw [Oper.upon_value]
  go_wp2
  rw [Lib.run_from_unsafe w ⟨b, 0, none⟩ t66 t52 hj hsh (by kernel_rfl)]
  simp only [Result.andThen]
  rw [Oper.upon_value]
  go_wp2
  go_end0
  exact ⟨rfl, rfl⟩

theorem copy_k (B b : Nat) (bs : List Value) (w : World) (h : Lib.IsBuilderF 62 5 B b bs w) :
    Calls Tryd.prog 42 #[.pointer (some ⟨b, 0, none⟩)] w fun e w' => e = .returned (.tuple #[]) ∧ (Lib.BuilderAtF 62 5 B b (.pointer (some ⟨b, 0, none⟩)) bs w' ∧ Below B w w') := by
  rcases h with h | h
  · refine (copy_fresh b w h.cell0 h.shape h.frozen0).mono ?_
    rintro e w' ⟨rfl, rfl⟩
    exact ⟨rfl, h.used _, (Below.refl B w).setCell (p := ⟨b, 0, none⟩) h.1 _⟩
  · refine (copy_used b w h.cell0).mono ?_
    rintro e w' ⟨rfl, rfl⟩
    exact ⟨rfl, h, Below.refl B _⟩

set_option maxHeartbeats 2000000 in
set_option maxRecDepth 100000 in
theorem write_k (B b : Nat) (bs : List Value) (s : ByteArray) (w : World) (h : Lib.IsBuilderF 62 5 B b bs w) (hlen : bs.length + s.size ≤ 140737488355328) (hBw : B ≤ w.heap.size) :
    Calls Tryd.prog 30 #[.pointer (some ⟨b, 0, none⟩), .string s] w fun e w' => e = .returned (.tuple #[.int .i64 s.size, .nilIface]) ∧ (Lib.BuilderAtF 62 5 B b (.pointer (some ⟨b, 0, none⟩)) (bs ++ Lib.strCells s) w' ∧ Below B w w') := by
  have infoByte : (Tryd.prog.info? 5).map (fun i => (i.zero, i.size, i.bytes)) = some (some (.int .u8 0), 1, 1) := by kernel_rfl
  obtain ⟨i0, hi, hz0, hz1, hz2⟩ := info_parts infoByte
  have hn : Tryd.f30.ntmps = 19 := rfl
  go_enter Tryd.func30, hn
  go_wp2_with (go_at_call 42; refine (copy_k B b bs _ h).mono ?_)
  rintro e w1 ⟨rfl, h1, hb1⟩
  obtain ⟨hB, v, hbk, hown, hne⟩ := h1
  have c0 : w1.cell? ⟨b, 0, none⟩ = some (.pointer (some ⟨b, 0, none⟩)) := by rw [Lib.cell_of_heap hbk]; rfl
  have c1 : w1.cell? ⟨b, 1, none⟩ = some v := by rw [Lib.cell_of_heap hbk]; rfl
  go_wp2_with (at_builtin; refine Lib.wpList_append_own_stringF _ rfl _ _ 60 9 rfl B 5 i0 (show Tryd.prog.underlying 60 = some (.slice 5) by kernel_rfl) (show Tryd.prog.underlying 9 = some .string by kernel_rfl) hi hz0 hz1 hz2 _ _ _ rfl hown s rfl ?c3 ?c4 ?c5 ?_)
  case c3 => unfold maxLen; omega
  case c4 => omega
  case c5 => have := hb1.size; omega
  intro v' w2 hown' hgrow _
  have hlt : b < w1.heap.size := by
    rcases Nat.lt_or_ge b w1.heap.size with h' | h'
    · exact h'
    · simp [Array.getElem?_eq_none h'] at hbk
  have hb2 : w2.heap[b]? = some (.cells #[.pointer (some ⟨b, 0, none⟩), v] 62 (0, 0)) := by
    rw [hgrow.block b hlt (fun e => hne e.symm)]
    exact hbk
  have d0 : w2.cell? ⟨b, 0, none⟩ = some (.pointer (some ⟨b, 0, none⟩)) := by rw [Lib.cell_of_heap hb2]; rfl
  have d1 : w2.cell? ⟨b, 1, none⟩ = some v := by rw [Lib.cell_of_heap hb2]; rfl
  have f1 : w2.frozen? ⟨b, 1, none⟩ = false := Lib.frozen_of_heap hb2 1
  obtain ⟨ao, n', cap, rfl⟩ : ∃ ao n' cap, v' = .slice ao n' cap := by
    rcases hown'.2 with ⟨hv, _⟩ | ⟨g, cap, cur, fz, hv, _⟩
    · exact ⟨_, _, _, hv⟩
    · exact ⟨_, _, _, hv⟩
  go_wp2
  go_ret2
  refine ⟨rfl, ?_, ?_⟩
  · exact Lib.BuilderAtF.put (T := 62) (e := 5) hB hb2 (bs' := bs ++ Lib.strCells s) (by simpa [Lib.strCells_length] using hown') (by decide)
  · exact (hb1.grown hgrow (by have := hb1.size; omega) (fun k hk => (hown.lt k hk).1)).setCell (p := ⟨b, 1, none⟩) hB _

theorem builder_below {B b : Nat} {l : List Value} {w w' : World} (h : Lib.IsBuilderF 62 5 B b l w) (hb : Below w.heap.size w w') : Lib.IsBuilderF 62 5 B b l w' := by
  have key : ∀ {p : Value}, Lib.BuilderAtF 62 5 B b p l w → Lib.BuilderAtF 62 5 B b p l w' := fun h => by
    have hlt := h.lt
    obtain ⟨hB, v, hbk, hown, hne⟩ := h
    exact ⟨hB, v, (hb.block b hlt).trans hbk, hown.kept (row := none) ⟨hb.os, hb.tape, hb.output, hb.size, fun k hk _ => hb.block k hk⟩ (Classical.em _), hne⟩
  exact h.imp key key

theorem builder_lt {B b : Nat} {l : List Value} {w : World} (h : Lib.IsBuilderF 62 5 B b l w) : b < w.heap.size := h.elim (fun h => h.lt) (fun h => h.lt)


end Go.Proofs.YtlakpbfmcnlnbaaDoor
namespace Go.Proofs.YtlakpbfmcnlnbaaDoor
open Go VE Go.RowKit Go.Shelf

theorem tab_named : Tryd.prog.globalNamed "internal/strconv.uint64pow10" = some 0 := by kernel_rfl
theorem tab_cells : tabCells = cellsTab 0 .u64 0 Lib.pow10Tab := by kernel_rfl

theorem itoa_ok : itoa.OK := itoa.mkR fun n hx => by
  have h : (true && (decide (-9223372036854775808 ≤ n ∧ n ≤ 9223372036854775807) && true)) = true := hx
  simp only [Bool.and_eq_true, decide_eq_true_eq] at h
  obtain ⟨_, ⟨h0, h1⟩, _⟩ := h
  intro w us ok hok hl hus ha
  have hv := iv_v (ha 0 _ rfl)
  obtain ⟨v, rfl⟩ : ∃ v, us = #[v] := by
    obtain ⟨l⟩ := us
    match l, hus with
    | [v], _ => exact ⟨v, rfl⟩
  have hv : v = .int .i64 n := hv.1
  subst hv
  have hT : Lib.TabIs Tryd.prog w "internal/strconv.uint64pow10" .u64 Lib.pow10Tab := tab_of_laid (ok := ok) tab_named (by decide) fun p hp => hl p (by rw [tab_cells]; exact hp)
  refine (Tryd.strconv_Itoa n h0 h1 w hT).mono ?_
  rintro e w' ⟨rfl, k, os, rfl⟩
  exact ⟨_, rfl, Lib.below_grow _ w (Nat.le_refl _) k os, .c _ _ (.v _ rfl)⟩

/-! ### words of sixty-four bits -/


theorem dec_len : ∀ (k u : Nat), u < 10 ^ k → (Lib.decDigits u).length ≤ k + 1
  | 0, u, h => by
    rw [Lib.decDigits, dif_pos (by omega)]; simp
  | k + 1, u, h => by
    rw [Lib.decDigits]
    split
    · simp
    · have := dec_len k (u / 10) (by rw [Nat.pow_succ] at h; omega)
      rw [List.length_append]; simp; omega

theorem itoa_size {n : Int} (h0 : -9223372036854775808 ≤ n) (h1 : n ≤ 9223372036854775807) : (itoaB n).size ≤ 21 := by
  show (Lib.itoa n).toArray.size ≤ 21
  rw [List.size_toArray]
  unfold Lib.itoa
  have e : (10 : Nat) ^ 19 = 10000000000000000000 := rfl
  split
  · have := dec_len 19 n.natAbs (by omega)
    rw [List.length_cons]; omega
  · have := dec_len 19 n.toNat (by omega)
    omega


theorem str_calls {g : FuncId} {n : Int} {k : IntKind} {r : ByteArray} (h : VE.Returns Tryd.prog g [.c (.v (.int k n))] (vs r)) {ok : Nat → Nat → Prop} {w : World} (hok : ∀ b o, ok b o → b < w.heap.size) (hl : Laid ok w) :
    Calls Tryd.prog g #[.int k n] w fun e w' => e = .returned (.string r) ∧ Below w.heap.size w w' := by
  refine (h w #[.int k n] ok hok hl rfl fun j c hc => ?_).mono fun e w' ⟨u, he, hb, hr⟩ => ?_
  · cases j with
    | zero => simp at hc; subst hc; exact .c _ _ (.v _ rfl)
    | succ j => simp at hc
  · obtain ⟨rfl, _⟩ := iv_v hr
    exact ⟨he, hb⟩

theorem itoa_calls {n : Int} (h0 : -9223372036854775808 ≤ n) (h1 : n ≤ 9223372036854775807) {ok : Nat → Nat → Prop} {w : World} (hok : ∀ b o, ok b o → b < w.heap.size) (hl : Laid ok w) :
    Calls Tryd.prog 31 #[.int .i64 n] w fun e w' => e = .returned (.string (itoaB n)) ∧ Below w.heap.size w w' :=
  str_calls (SpecOK.returns itoa_ok (args := [.c (.v (.int .i64 n))]) (by
    show test (true && (decide (-9223372036854775808 ≤ n ∧ n ≤ 9223372036854775807) && true)) (some (vs (itoaB n), [])) = _
    rw [dec_t ⟨h0, h1⟩]; rfl)) hok hl

end Go.Proofs.YtlakpbfmcnlnbaaDoor
namespace Go.Proofs.YtlakpbfmcnlnbaaDoor
open Go VE Go.RowKit Go.Shelf

structure Bld (C b : Nat) (l : List Value) (w : World) : Prop where
  lt : b < C
  le : C ≤ w.heap.size
  is : ∃ p v, (p = .pointer none ∨ p = .pointer (some ⟨b, 0, none⟩)) ∧ w.heap[b]? = some (.cells #[p, v] 62 (0, 0)) ∧ w.ownsRowF C 5 1 v l.length l

theorem owns_ne {w : World} {C b : Nat} {v : Value} {n : Nat} {xs : List Value} (h : w.ownsRowF C 5 1 v n xs) (hb : b < C) : v.ownBlock ≠ some b := fun e => by
  have := (h.lt b e).1
  omega
theorem owns_base {w : World} {C C' : Nat} {v : Value} {n : Nat} {xs : List Value} (h : w.ownsRowF C 5 1 v n xs) (hc : C' ≤ C) : w.ownsRowF C' 5 1 v n xs := by
  refine ⟨h.1, ?_⟩
  rcases h.2 with h | ⟨g, cap, cur, fz, e, hb, r⟩
  · exact .inl h
  · exact .inr ⟨g, cap, cur, fz, e, Nat.le_trans hc hb, r⟩
theorem Bld.below {C b : Nat} {l : List Value} {w w' : World} (h : Bld C b l w) (hb : Below w.heap.size w w') : Bld C b l w' := by
  obtain ⟨h1, h2, p, v, hp, hblk, hown⟩ := h
  refine ⟨h1, Nat.le_trans h2 hb.size, p, v, hp, (hb.block b (by omega)).trans hblk, ?_⟩
  exact hown.kept (row := none) ⟨hb.os, hb.tape, hb.output, hb.size, fun k hk _ => hb.block k hk⟩ (Classical.em _)
theorem Bld.drew {C b : Nat} {l : List Value} {w : World} (h : Bld C b l w) (n : Nat) : Bld C b l (w.drewN n) := ⟨h.lt, h.le, h.is⟩
theorem Bld.string {C b : Nat} {l : List Value} {w : World} (h : Bld C b l w) : Lib.IsBuilderF 62 5 b b l w := by
  obtain ⟨h1, h2, p, v, hp, hblk, hown⟩ := h
  have key : Lib.BuilderAtF 62 5 b b p l w := ⟨Nat.le_refl _, v, hblk, owns_base hown (Nat.le_of_lt h1), owns_ne hown h1⟩
  rcases hp with rfl | rfl
  · exact .inl key
  · exact .inr key

/-- Blocks of other types stand as they stood. -/
def Oth (b : Nat) (w w' : World) : Prop := ∀ k cs t fz, k ≠ b → t ≠ 5 → w.heap[k]? = some (.cells cs t fz) → w'.heap[k]? = some (.cells cs t fz)
theorem Oth.of {C b : Nat} {v : Value} {n : Nat} {xs : List Value} {w w' : World} (h : w.ownsRowF C 5 1 v n xs) (hg : w.grownBy w' v.ownBlock) : Oth b w w' := fun k cs t fz _ ht hk => by
  rw [hg.block k (lt_of_some hk) ?_]; exact hk
  intro e
  rcases h.2 with ⟨rfl, _⟩ | ⟨g, cap, cur, fz2, rfl, _, hgg, _⟩
  · simp [Value.ownBlock] at e
  · simp only [Value.ownBlock, Option.some.injEq] at e
    subst e
    rw [hgg] at hk
    simp only [Option.some.injEq, Obj.cells.injEq] at hk
    exact ht hk.2.1.symm
theorem Oth.set {b j : Nat} {v : Value} {w : World} : Oth b w (w.setCell ⟨b, j, none⟩ v) := fun k cs t fz hk _ h => by
  rw [Below.heap_setCell _ _ _ _ (fun e => hk (by simp [e]))]; exact h
theorem Oth.trans {b : Nat} {w1 w2 w3 : World} (h : Oth b w1 w2) (k : Oth b w2 w3) : Oth b w1 w3 := fun j cs t fz h1 h2 h3 => k j cs t fz h1 h2 (h j cs t fz h1 h2 h3)

/-- What a call may touch that writes to the builder. -/
abbrev FrB (C b : Nat) (w w' : World) : Prop := Fr (fun k => k = b) C w w'
theorem othB {b : Nat} {w w' : World} (hb : Below w.heap.size w w') : Oth b w w' := fun k _ _ _ _ _ h => (hb.block k (lt_of_some h)).trans h
theorem FrB.below {C b : Nat} {w0 w w' : World} (h : FrB C b w0 w) (hC : C ≤ w.heap.size) (hb : Below w.heap.size w w') : FrB C b w0 w' :=
  h.trans ⟨hb.os, hb.tape, hb.output, hb.size, fun k hk _ => hb.block k (by omega)⟩

theorem copy_b {C b : Nat} {l : List Value} {w : World} (h : Bld C b l w) :
    Calls Tryd.prog 42 #[.pointer (some ⟨b, 0, none⟩)] w fun e w' => e = .returned (.tuple #[]) ∧ (∃ v, w'.heap[b]? = some (.cells #[.pointer (some ⟨b, 0, none⟩), v] 62 (0, 0)) ∧ w'.ownsRowF C 5 1 v l.length l) ∧ FrB C b w w' ∧ Oth b w w' := by
  obtain ⟨h1, h2, p, v, hp, hblk, hown⟩ := h
  rcases hp with rfl | rfl
  · refine (copy_fresh b w (by rw [Lib.cell_of_heap hblk]; rfl) (by simp [World.shape?, hblk]) (Lib.frozen_of_heap hblk 0)).mono ?_
    rintro e w' ⟨rfl, rfl⟩
    refine ⟨rfl, ⟨v, ?_, ?_⟩, ?_⟩
    · simp [World.setCell, Array.getElem?_modify, hblk]
    · exact hown.kept (row := some b) ⟨rfl, rfl, rfl, by simp [World.setCell], fun k _ hk => Below.heap_setCell _ _ _ _ (fun e => hk (by simp [e]))⟩ (Or.inr (owns_ne hown h1))
    · refine ⟨?_, Oth.set⟩
      rw [setCell_putBlk hblk]
      exact Fr.putBlk (M := fun k => k = b) (.inr rfl) _
  · refine (copy_used b w (by rw [Lib.cell_of_heap hblk]; rfl)).mono ?_
    rintro e w' ⟨rfl, rfl⟩
    exact ⟨rfl, ⟨v, hblk, hown⟩, Fr.refl _ _ _, fun _ _ _ _ _ _ h => h⟩

set_option maxHeartbeats 2000000 in
set_option maxRecDepth 100000 in
theorem write_b {C b : Nat} {l : List Value} (s : ByteArray) {w : World} (h : Bld C b l w) (hlen : l.length + s.size ≤ 140737488355328) :
    Calls Tryd.prog 30 #[.pointer (some ⟨b, 0, none⟩), .string s] w fun e w' => e = .returned (.tuple #[.int .i64 s.size, .nilIface]) ∧ Bld C b (l ++ Lib.strCells s) w' ∧ FrB C b w w' ∧ Oth b w w' := by
  have infoByte : (Tryd.prog.info? 5).map (fun i => (i.zero, i.size, i.bytes)) = some (some (.int .u8 0), 1, 1) := by kernel_rfl
  obtain ⟨i0, hi, hz0, hz1, hz2⟩ := info_parts infoByte
  have hn : Tryd.f30.ntmps = 19 := rfl
  have hlt := h.lt
  have hle := h.le
  go_enter Tryd.func30, hn
  go_wp2_with (go_at_call 42; refine (copy_b h).mono ?_)
  rintro e w1 ⟨rfl, ⟨v, hbk, hown⟩, hb1, ho1⟩
  have hle1 : C ≤ w1.heap.size := Nat.le_trans hle hb1.size
  have c0 : w1.cell? ⟨b, 0, none⟩ = some (.pointer (some ⟨b, 0, none⟩)) := by rw [Lib.cell_of_heap hbk]; rfl
  have c1 : w1.cell? ⟨b, 1, none⟩ = some v := by rw [Lib.cell_of_heap hbk]; rfl
  go_wp2_with (at_builtin; refine Lib.wpList_append_own_stringF _ rfl _ _ 60 9 rfl C 5 i0 (show Tryd.prog.underlying 60 = some (.slice 5) by kernel_rfl) (show Tryd.prog.underlying 9 = some .string by kernel_rfl) hi hz0 hz1 hz2 _ _ _ rfl hown s rfl ?c3 ?c4 ?c5 ?_)
  case c3 => unfold maxLen; omega
  case c4 => omega
  case c5 => exact hle1
  intro v' w2 hown' hgrow _
  have hlt1 : b < w1.heap.size := by omega
  have hb2 : w2.heap[b]? = some (.cells #[.pointer (some ⟨b, 0, none⟩), v] 62 (0, 0)) := by
    rw [hgrow.block b hlt1 (fun e => owns_ne hown hlt e.symm)]
    exact hbk
  have d0 : w2.cell? ⟨b, 0, none⟩ = some (.pointer (some ⟨b, 0, none⟩)) := by rw [Lib.cell_of_heap hb2]; rfl
  have d1 : w2.cell? ⟨b, 1, none⟩ = some v := by rw [Lib.cell_of_heap hb2]; rfl
  have f1 : w2.frozen? ⟨b, 1, none⟩ = false := Lib.frozen_of_heap hb2 1
  obtain ⟨ao, n', cap, rfl⟩ : ∃ ao n' cap, v' = .slice ao n' cap := by
    rcases hown'.2 with ⟨hv, _⟩ | ⟨g, cap, cur, fz, hv, _⟩
    · exact ⟨_, _, _, hv⟩
    · exact ⟨_, _, _, hv⟩
  go_wp2
  go_ret2
  have hfr : FrB C b w1 w2 := ⟨hgrow.os, hgrow.tape, hgrow.output, hgrow.size, fun k hk _ => hgrow.block k (by omega) (fun e => owns_ne hown hk e.symm)⟩
  have hown2 : w2.ownsRowF C 5 1 (.slice ao n' cap) (l ++ Lib.strCells s).length (l ++ Lib.strCells s) := by simpa [Lib.strCells_length] using hown'
  refine ⟨rfl, ⟨hlt, ?_, .pointer (some ⟨b, 0, none⟩), .slice ao n' cap, .inr rfl, ?_, ?_⟩, ?_⟩
  · have := hgrow.size
    rw [setCell_putBlk hb2, putBlk_size]; omega
  · simp [World.setCell, Array.getElem?_modify, hb2]
  · exact hown2.kept (row := some b) ⟨rfl, rfl, rfl, by simp [World.setCell], fun k _ hk => Below.heap_setCell _ _ _ _ (fun e => hk (by simp [e]))⟩ (Or.inr (owns_ne hown2 hlt))
  · refine ⟨?_, (ho1.trans (Oth.of hown hgrow)).trans Oth.set⟩
    rw [setCell_putBlk hb2]
    exact (hb1.trans hfr).trans (Fr.putBlk (M := fun k => k = b) (.inr rfl) _)

/-! ### a region's condition made stronger on the way -/

theorem wpAnyH_weaken {P : Program} {md : Region.Mode} {ops : Array Oper} {Q : Exit → Act → World → Prop} {S S' : World → Prop} (hS : ∀ w, S' w → S w) : ∀ (fuel : Nat) (listed : Array Bool) (a : Act) (w : World), wpAnyH P md ops Q S' fuel listed a w → wpAnyH P md ops Q S fuel listed a w
  | 0, _, _, _, h => h
  | fuel + 1, _, _, _, h => ⟨h.1, fun i hi => wpOp_mono (fun a' w' h' => ⟨hS _ h'.1, wpAnyH_weaken hS fuel _ a' w' h'.2⟩) (h.2 i hi)⟩

/-! ### small callees -/

theorem wordY_ok : wordY.OK := wordY.mk .nil fun b _ => ⟨1, by rw [wordY.start]; cases b <;> rfl⟩
theorem yes_ok : yes.OK := yes.mk .nil fun s _ => ⟨1, by
  rw [yes.start]
  show _ = some (IV.tup [vb (yesB s), vb (yesB s || noB s)], [])
  have e1 : (⟨#[121, 101, 115]⟩ : ByteArray).toList = [121, 101, 115] := lit_list [121, 101, 115]
  have e2 : (⟨#[110, 111]⟩ : ByteArray).toList = [110, 111] := lit_list [110, 111]
  rw [e1, e2]
  unfold yesB noB isB
  cases s.toList == [121, 101, 115] <;> rfl⟩
theorem word_calls (b : Bool) {ok : Nat → Nat → Prop} {w : World} (hok : ∀ b o, ok b o → b < w.heap.size) (hl : Laid ok w) :
    Calls Tryd.prog 32 #[.bool b] w fun e w' => e = .returned (.string (yesW b)) ∧ Below w.heap.size w w' := by
  have h : VE.Returns Tryd.prog 32 [.c (.v (.bool b))] (vs (yesW b)) := SpecOK.returns wordY_ok (args := [.c (.v (.bool b))]) rfl
  refine (h w #[.bool b] ok hok hl rfl fun j c hc => ?_).mono fun e w' ⟨u, he, hb, hr⟩ => ?_
  · cases j with
    | zero => simp at hc; subst hc; exact .c _ _ (.v _ rfl)
    | succ j => simp at hc
  · obtain ⟨rfl, _⟩ := iv_v hr
    exact ⟨he, hb⟩

attribute [local go_sem ↓] Go.wp_at_zero Go.wp_at_succ

theorem pols_calls (w : World) : Calls Tryd.prog 33 #[] w fun e w' => ∃ g t, e = .returned (.slice (some ⟨g, 0, none⟩) 3 3) ∧ w'.heap[g]? = some (.cells #[.string ⟨#[114, 111, 117, 110, 100]⟩, .string ⟨#[108, 101, 97, 115, 116]⟩, .string ⟨#[114, 105, 110, 103]⟩] t (0, 0)) ∧ t ≠ 5 ∧ w.heap.size ≤ g ∧ Below w.heap.size w w' := by
  have hn : Tryd.f33.ntmps = 2 := rfl
  go_enter Tryd.func33, hn
  go_wp2
  go_ret
  refine ⟨w.heap.size, 9, rfl, ?_, by decide, Nat.le_refl _, (Below.refl _ _).alloc (Nat.le_refl _) _⟩
  show (w.heap.push _)[w.heap.size]? = _
  rw [Array.getElem?_push_size]

/-! ### rows and cells -/

theorem first_at (b : Nat) {k : Nat} (h : k < 15) : (firstA b 0)[k]? = some ((rdEl TRow rowsL k).1, (b, 0 + k), (rdEl TRow rowsL k).2.1, (rdEl TRow rowsL k).2.2.1) := by
  rcases (by omega : k = 0 ∨ k = 1 ∨ k = 2 ∨ k = 3 ∨ k = 4 ∨ k = 5 ∨ k = 6 ∨ k = 7 ∨ k = 8 ∨ k = 9 ∨ k = 10 ∨ k = 11 ∨ k = 12 ∨ k = 13 ∨ k = 14) with rfl | rfl | rfl | rfl | rfl | rfl | rfl | rfl | rfl | rfl | rfl | rfl | rfl | rfl | rfl <;> rfl
theorem second_at (b : Nat) {k : Nat} (h : k < 4) : (secondA b 0)[k]? = some ((rdEl TRow rowsL (16 + k)).1, (b, 0 + (16 + k)), (rdEl TRow rowsL (16 + k)).2.1, (rdEl TRow rowsL (16 + k)).2.2.1) := by
  rcases (by omega : k = 0 ∨ k = 1 ∨ k = 2 ∨ k = 3) with rfl | rfl | rfl | rfl <;> rfl
theorem flat_cell (c : El TConfig) {j : Nat} (h : j < 23) : (flatC c).getD j undef = cellV (numsL c) (cZone c) j := by
  have := numsV_get (numsL c) (cZone c) j h
  rw [← nums_V] at this
  show (flatVals TConfig c).toArray.getD j undef = _
  simp [Array.getD_eq_getD_getElem?, this]

/-- The first k lines. -/
noncomputable def pt (N : List Int) (Z : ByteArray) (k : Nat) : List UInt8 := txt ((List.range k).map (rowI N Z))
noncomputable def lnB (N : List Int) (Z : ByteArray) (k : Nat) : ByteArray := lineB N Z k (rdEl TRow rowsL k)
theorem pt_succ (N : List Int) (Z : ByteArray) (k : Nat) : pt N Z (k + 1) = pt N Z k ++ bs (lnB N Z k) := by
  unfold pt lnB
  rw [List.range_succ, List.map_append, txt_app, line_bytes]
  rfl
theorem ln_num (N : List Int) (Z : ByteArray) {k : Nat} (h : k < 20) (h2 : k ≠ 15) : lnB N Z k = (((rdEl TRow rowsL k).1 ++ (⟨#[32]⟩ : ByteArray)) ++ itoaB (nth N k)) ++ (⟨#[10]⟩ : ByteArray) := by
  unfold lnB lineB valB
  rw [if_neg (by omega), if_neg (by omega), if_neg (by omega)]
theorem pt_len {N : List Int} {Z : ByteArray} (h : Good N Z) {k : Nat} (hk : k ≤ 23) : (pt N Z k).length ≤ 2415 := by
  have := txt_len (rows_plain h (I := List.range k) fun i hi => by have := List.mem_range.1 hi; omega)
  rw [List.length_map, List.length_range] at this
  unfold pt
  omega
theorem ln_len {N : List Int} {Z : ByteArray} (h : Good N Z) {k : Nat} (hk : k < 23) : (lnB N Z k).size ≤ 2415 := by
  have := pt_len h (k := k + 1) hk
  rw [pt_succ, List.length_append, bs_length] at this
  omega
theorem flat_numcell (c : El TConfig) {j : Nat} (h : j < 21) (h2 : j ≠ 15) : (flatC c).getD j undef = .int .i64 (nth (numsL c) j) := by
  rw [flat_cell c (by omega)]
  unfold cellV
  rw [if_neg (by omega), if_neg (by omega)]

theorem last_lines (P z y : ByteArray) : bs ((((((((⟨#[112, 111, 108, 105, 99, 121, 32]⟩ : ByteArray) ++ P) ++ (⟨#[10, 122, 111, 110, 101, 32]⟩ : ByteArray)) ++ z) ++ (⟨#[10, 102, 97, 108, 108, 98, 97, 99, 107, 32]⟩ : ByteArray)) ++ y) ++ (⟨#[10]⟩ : ByteArray))) =
    (bs ((((rdEl TRow rowsL 20).1 ++ (⟨#[32]⟩ : ByteArray)) ++ P) ++ (⟨#[10]⟩ : ByteArray)) ++ bs ((((rdEl TRow rowsL 21).1 ++ (⟨#[32]⟩ : ByteArray)) ++ z) ++ (⟨#[10]⟩ : ByteArray))) ++ bs ((((rdEl TRow rowsL 22).1 ++ (⟨#[32]⟩ : ByteArray)) ++ y) ++ (⟨#[10]⟩ : ByteArray)) := by
  simp only [bs_append]
  have e1 : bs (rdEl TRow rowsL 20).1 = [112, 111, 108, 105, 99, 121] := rfl
  have e2 : bs (rdEl TRow rowsL 21).1 = [122, 111, 110, 101] := rfl
  have e3 : bs (rdEl TRow rowsL 22).1 = [102, 97, 108, 108, 98, 97, 99, 107] := rfl
  rw [e1, e2, e3]
  show ((((([112, 111, 108, 105, 99, 121, 32] ++ bs P) ++ [10, 122, 111, 110, 101, 32]) ++ bs z) ++ [10, 102, 97, 108, 108, 98, 97, 99, 107, 32]) ++ bs y) ++ [10] =
    (((([112, 111, 108, 105, 99, 121] ++ [32]) ++ bs P) ++ [10]) ++ ((([122, 111, 110, 101] ++ [32]) ++ bs z) ++ [10])) ++ ((([102, 97, 108, 108, 98, 97, 99, 107] ++ [32]) ++ bs y) ++ [10])
  simp only [List.append_assoc, List.cons_append, List.nil_append]
theorem pt_last (N : List Int) (Z : ByteArray) : pt N Z 23 = pt N Z 20 ++ bs ((((((((⟨#[112, 111, 108, 105, 99, 121, 32]⟩ : ByteArray) ++ valB N Z 20) ++ (⟨#[10, 122, 111, 110, 101, 32]⟩ : ByteArray)) ++ valB N Z 21) ++ (⟨#[10, 102, 97, 108, 108, 98, 97, 99, 107, 32]⟩ : ByteArray)) ++ yesW (nth N 22 == 1)) ++ (⟨#[10]⟩ : ByteArray))) := by
  rw [pt_succ, pt_succ, pt_succ, last_lines, List.append_assoc, List.append_assoc, List.append_assoc]
  rfl
theorem val_pol {N : List Int} {Z : ByteArray} {p : Nat} (h : nth N 20 = (p : Int) + 1) : valB N Z 20 = rdEl .str polL p := by
  show rdEl .str polL (nth N 20 - 1).toNat = _
  rw [h]
  congr 1
  omega
theorem val_zone {N : List Int} {Z : ByteArray} : valB N Z 21 = if Z.size = 0 then ⟨#[45]⟩ else Z := rfl

end Go.Proofs.YtlakpbfmcnlnbaaDoor
